/- Dd, part Q0 (printed by gen.py): functions of the seat's program as Lean functions, linked to Dd. -/
import Derived.Test.YtliejomdaookoaaDdxQh
set_option linter.unusedVariables false
set_option maxRecDepth 100000
namespace Go.Dd
open Go.Proofs

noncomputable def s3a8 (rec : FuncId → List DV → Hp → Res) (n : Nat) (x1 x7 : DV) (h0 : Hp) : Res :=
  bnd (rec 8 [x7] h0) fun v1 h1 =>
  bnd (pExtract 0 v1 h1) fun v2 h2 =>
  bnd (pExtract 1 v1 h2) fun v3 h3 =>
  bnd (pExtract 2 v1 h3) fun v4 h4 =>
  bnd (pNew [(.i .i64 (Int.ofNat 0)), (.s []), (.i .i64 (Int.ofNat 0)), .l0, .l0, .l0] h4) fun v5 h5 =>
  bnd (pStore 6 v5 v2 h5) fun _ h6 =>
  bnd (pInt .gtr x1 (.i .i64 (Int.ofNat 20)) h6) fun v7 h7 =>
  ifD v7 (
    bnd (pInt .eql v4 (.i .i64 (Int.ofNat 14)) h7) fun v8 h8 =>
    bnd (gD v8 true (some (v3, h8)) h8) fun v9 h9 =>
    bnd (gD v8 true (pInt .eql v9 (.i .i64 (Int.ofNat 20)) h9) h9) fun v10 h10 =>
    bnd (pPick v8 v10 (.b false) h10) fun v11 h11 =>
    bnd (gD v11 true (rec 9 [] h11) h11) fun v12 h12 =>
    bnd (pPick v11 v12 (.b false) h12) fun v13 h13 =>
    some (v13, h13)) (
    bnd (pInt .eql v4 (.i .i64 (Int.ofNat 0)) h7) fun v14 h14 =>
    bnd (gD v14 true (some (v3, h14)) h14) fun v15 h15 =>
    bnd (gD v14 true (pInt .eql v15 (.i .i64 (Int.ofNat 0)) h15) h15) fun v16 h16 =>
    bnd (pPick v14 v16 (.b false) h16) fun v17 h17 =>
    bnd (gD v17 true (rec 9 [] h17) h17) fun v18 h18 =>
    bnd (pPick v17 v18 (.b false) h18) fun v19 h19 =>
    some (v19, h19))

noncomputable def s3a10b (rec : FuncId → List DV → Hp → Res) (n : Nat) (kk10 : DV → DV → DV → DV → DV → Hp → Res) (x1 x5 x6 x7 x8 : DV) (h0 : Hp) : Res :=
    bnd (pInt .lss x8 x1 h0) fun v39 h39 =>
    ifD v39 (
      bnd (pStr .add x5 x7 h39) fun v40 h40 =>
      bnd (pStr .add v40 x6 h40) fun v41 h41 =>
      bnd (pInt .add x8 (.i .i64 (Int.ofNat 1)) h41) fun v42 h42 =>
      kk10 x1 x5 x6 v41 v42 h42) (
      s3a8 rec n x1 x7 h39)

noncomputable def s3a10l (rec : FuncId → List DV → Hp → Res) (n : Nat) (m : Nat) : DV → DV → DV → DV → DV → Hp → Res :=
  Nat.rec (motive := fun _ => DV → DV → DV → DV → DV → Hp → Res) (fun _ _ _ _ _ _ => none) (fun _ ih => s3a10b rec n ih) m

noncomputable def s3a10 (rec : FuncId → List DV → Hp → Res) (n : Nat) : DV → DV → DV → DV → DV → Hp → Res := s3a10l rec n n

noncomputable def s3a9 (rec : FuncId → List DV → Hp → Res) (n : Nat) (x1 x5 x6 x7 x8 : DV) (h0 : Hp) : Res :=
  s3a10 rec n x1 x5 x6 x7 x8 h0

noncomputable def s3a7 (rec : FuncId → List DV → Hp → Res) (n : Nat) (x1 x5 x6 x7 : DV) (h0 : Hp) : Res :=
  s3a9 rec n x1 x5 x6 x7 (.i .i64 (Int.ofNat 0)) h0

noncomputable def s3a6 (rec : FuncId → List DV → Hp → Res) (n : Nat) (x1 x5 x6 : DV) (h0 : Hp) : Res :=
  s3a7 rec n x1 x5 x6 (.s [97]) h0

noncomputable def s3a5 (rec : FuncId → List DV → Hp → Res) (n : Nat) (x0 x1 x5 x6 : DV) (h0 : Hp) : Res :=
  bnd (pInt .eql x0 (.i .i64 (Int.ofNat 1)) h0) fun v47 h47 =>
  ifD v47 (
    s3a6 rec n x1 (.s [91]) (.s [93]) h47) (
    s3a6 rec n x1 x5 x6 h47)

noncomputable def s3a4 (rec : FuncId → List DV → Hp → Res) (n : Nat) (x0 x1 x5 : DV) (h0 : Hp) : Res :=
  s3a5 rec n x0 x1 x5 (.s [41]) h0

noncomputable def s3a3 (rec : FuncId → List DV → Hp → Res) (n : Nat) (x0 x1 : DV) (h0 : Hp) : Res :=
  s3a4 rec n x0 x1 (.s [40]) h0

noncomputable def s3a2 (rec : FuncId → List DV → Hp → Res) (n : Nat) (x0 x1 : DV) (h0 : Hp) : Res :=
  bnd (pInt .rem x1 (.i .i64 (Int.ofNat 60)) h0) fun v49 h49 =>
  s3a3 rec n x0 v49 h49

noncomputable def s3a1 (rec : FuncId → List DV → Hp → Res) (n : Nat) (x0 x1 : DV) (h0 : Hp) : Res :=
  bnd (pInt .lss x1 (.i .i64 (Int.ofNat 0)) h0) fun v51 h51 =>
  ifD v51 (
    bnd (pInt .add x1 (.i .i64 (Int.ofNat 1)) h51) fun v52 h52 =>
    bnd (pUn .neg v52 h52) fun v53 h53 =>
    s3a2 rec n x0 v53 h53) (
    s3a2 rec n x0 x1 h51)

/-- vivariumlaw07.ParseDeep -/
noncomputable def s3 (rec : FuncId → List DV → Hp → Res) (n : Nat) (x0 x1 : DV) (h0 : Hp) : Res :=
  s3a1 rec n x0 x1 h0

noncomputable def D3 (rec : FuncId → List DV → Hp → Res) (n : Nat) (c : Code) (X : Nat → K) (k : K) : K := codeD CF rec 57 n c X (retK CF Try.f3) k

theorem s3a8e (rec : FuncId → List DV → Hp → Res) (n : Nat) : D3 rec n (cR (cR (cR (cR (cR (cR (cR (cR (cf Try.f3))))))))) x0 (retK CF Try.f3) = (fun (env : Env) (h : Hp) => s3a8 rec n (env 1) (env 7) h) :=
  (by kernel_rfl)

theorem s3a10be (rec : FuncId → List DV → Hp → Res) (n : Nat) (kk10 : DV → DV → DV → DV → DV → Hp → Res) : D3 rec n (cL (cL (cR (cL (cR (cR (cR (cR (cR (cR (cR (cf Try.f3)))))))))))) (xs x0 0 (fun (env : Env) (h : Hp) => s3a8 rec n (env 1) (env 7) h)) (fun (env : Env) (h : Hp) => kk10 (env 1) (env 5) (env 6) (env 7) (env 8) h) = (fun (env : Env) (h : Hp) => s3a10b rec n kk10 (env 1) (env 5) (env 6) (env 7) (env 8) h) :=
  (by kernel_rfl)

theorem s3a10le (rec : FuncId → List DV → Hp → Res) (n : Nat) (m : Nat) : loopN (fun kk => D3 rec n (cL (cL (cR (cL (cR (cR (cR (cR (cR (cR (cR (cf Try.f3)))))))))))) (xs x0 0 (fun (env : Env) (h : Hp) => s3a8 rec n (env 1) (env 7) h)) kk) m = (fun (env : Env) (h : Hp) => s3a10l rec n m (env 1) (env 5) (env 6) (env 7) (env 8) h) := by
  induction m with
  | zero => exact (by kernel_rfl : loopN (fun kk => D3 rec n (cL (cL (cR (cL (cR (cR (cR (cR (cR (cR (cR (cf Try.f3)))))))))))) (xs x0 0 (fun (env : Env) (h : Hp) => s3a8 rec n (env 1) (env 7) h)) kk) 0 = (fun (env : Env) (h : Hp) => s3a10l rec n 0 (env 1) (env 5) (env 6) (env 7) (env 8) h))
  | succ m ih =>
    refine (by kernel_rfl : loopN (fun kk => D3 rec n (cL (cL (cR (cL (cR (cR (cR (cR (cR (cR (cR (cf Try.f3)))))))))))) (xs x0 0 (fun (env : Env) (h : Hp) => s3a8 rec n (env 1) (env 7) h)) kk) (m + 1) = D3 rec n (cL (cL (cR (cL (cR (cR (cR (cR (cR (cR (cR (cf Try.f3)))))))))))) (xs x0 0 (fun (env : Env) (h : Hp) => s3a8 rec n (env 1) (env 7) h)) (loopN (fun kk => D3 rec n (cL (cL (cR (cL (cR (cR (cR (cR (cR (cR (cR (cf Try.f3)))))))))))) (xs x0 0 (fun (env : Env) (h : Hp) => s3a8 rec n (env 1) (env 7) h)) kk) m)).trans ?_
    rw [ih]
    exact (s3a10be rec n (s3a10l rec n m)).trans (by kernel_rfl)

theorem s3a10e (rec : FuncId → List DV → Hp → Res) (n : Nat) : D3 rec n (cL (cR (cL (cR (cR (cR (cR (cR (cR (cR (cf Try.f3))))))))))) (xs x0 0 (fun (env : Env) (h : Hp) => s3a8 rec n (env 1) (env 7) h)) (fun (env : Env) (h : Hp) => s3a8 rec n (env 1) (env 7) h) = (fun (env : Env) (h : Hp) => s3a10 rec n (env 1) (env 5) (env 6) (env 7) (env 8) h) :=
  (by kernel_rfl : D3 rec n (cL (cR (cL (cR (cR (cR (cR (cR (cR (cR (cf Try.f3))))))))))) (xs x0 0 (fun (env : Env) (h : Hp) => s3a8 rec n (env 1) (env 7) h)) (fun (env : Env) (h : Hp) => s3a8 rec n (env 1) (env 7) h) = loopN (fun kk => D3 rec n (cL (cL (cR (cL (cR (cR (cR (cR (cR (cR (cR (cf Try.f3)))))))))))) (xs x0 0 (fun (env : Env) (h : Hp) => s3a8 rec n (env 1) (env 7) h)) kk) n).trans ((s3a10le rec n n).trans (by kernel_rfl))

theorem s3a9e (rec : FuncId → List DV → Hp → Res) (n : Nat) : D3 rec n (cR (cL (cR (cR (cR (cR (cR (cR (cR (cf Try.f3)))))))))) x0 (fun (env : Env) (h : Hp) => s3a8 rec n (env 1) (env 7) h) = (fun (env : Env) (h : Hp) => s3a9 rec n (env 1) (env 5) (env 6) (env 7) (env 8) h) :=
  (by kernel_rfl : D3 rec n (cR (cL (cR (cR (cR (cR (cR (cR (cR (cf Try.f3)))))))))) x0 (fun (env : Env) (h : Hp) => s3a8 rec n (env 1) (env 7) h) = D3 rec n (cL (cR (cL (cR (cR (cR (cR (cR (cR (cR (cf Try.f3))))))))))) (xs x0 0 (fun (env : Env) (h : Hp) => s3a8 rec n (env 1) (env 7) h)) (fun (env : Env) (h : Hp) => s3a8 rec n (env 1) (env 7) h)).trans
  ((s3a10e rec n).trans (by kernel_rfl))

theorem s3a7p1 (rec : FuncId → List DV → Hp → Res) (n : Nat) : D3 rec n (cR (cR (cR (cR (cR (cR (cR (cf Try.f3)))))))) x0 (retK CF Try.f3) = D3 rec n (cL (cR (cR (cR (cR (cR (cR (cR (cf Try.f3))))))))) x0 (fun (env : Env) (h : Hp) => s3a8 rec n (env 1) (env 7) h) :=
  congrArg (fun k => D3 rec n (cL (cR (cR (cR (cR (cR (cR (cR (cf Try.f3))))))))) x0 k) (s3a8e rec n)

theorem s3a7p2 (rec : FuncId → List DV → Hp → Res) (n : Nat) : D3 rec n (cL (cR (cR (cR (cR (cR (cR (cR (cf Try.f3))))))))) x0 (fun (env : Env) (h : Hp) => s3a8 rec n (env 1) (env 7) h) = D3 rec n (cL (cL (cR (cR (cR (cR (cR (cR (cR (cf Try.f3)))))))))) x0 (fun (env : Env) (h : Hp) => s3a9 rec n (env 1) (env 5) (env 6) (env 7) (env 8) h) :=
  congrArg (fun k => D3 rec n (cL (cL (cR (cR (cR (cR (cR (cR (cR (cf Try.f3)))))))))) x0 k) (s3a9e rec n)

theorem s3a7e (rec : FuncId → List DV → Hp → Res) (n : Nat) : D3 rec n (cR (cR (cR (cR (cR (cR (cR (cf Try.f3)))))))) x0 (retK CF Try.f3) = (fun (env : Env) (h : Hp) => s3a7 rec n (env 1) (env 5) (env 6) (env 7) h) :=
  (s3a7p1 rec n).trans
  ((s3a7p2 rec n).trans
  ((by kernel_rfl)))

theorem s3a6p3 (rec : FuncId → List DV → Hp → Res) (n : Nat) : D3 rec n (cR (cR (cR (cR (cR (cR (cf Try.f3))))))) x0 (retK CF Try.f3) = D3 rec n (cL (cR (cR (cR (cR (cR (cR (cf Try.f3)))))))) x0 (fun (env : Env) (h : Hp) => s3a7 rec n (env 1) (env 5) (env 6) (env 7) h) :=
  congrArg (fun k => D3 rec n (cL (cR (cR (cR (cR (cR (cR (cf Try.f3)))))))) x0 k) (s3a7e rec n)

theorem s3a6e (rec : FuncId → List DV → Hp → Res) (n : Nat) : D3 rec n (cR (cR (cR (cR (cR (cR (cf Try.f3))))))) x0 (retK CF Try.f3) = (fun (env : Env) (h : Hp) => s3a6 rec n (env 1) (env 5) (env 6) h) :=
  (s3a6p3 rec n).trans
  ((by kernel_rfl))

theorem s3a5p4 (rec : FuncId → List DV → Hp → Res) (n : Nat) : D3 rec n (cR (cR (cR (cR (cR (cf Try.f3)))))) x0 (retK CF Try.f3) = D3 rec n (cL (cR (cR (cR (cR (cR (cf Try.f3))))))) x0 (fun (env : Env) (h : Hp) => s3a6 rec n (env 1) (env 5) (env 6) h) :=
  congrArg (fun k => D3 rec n (cL (cR (cR (cR (cR (cR (cf Try.f3))))))) x0 k) (s3a6e rec n)

theorem s3a5e (rec : FuncId → List DV → Hp → Res) (n : Nat) : D3 rec n (cR (cR (cR (cR (cR (cf Try.f3)))))) x0 (retK CF Try.f3) = (fun (env : Env) (h : Hp) => s3a5 rec n (env 0) (env 1) (env 5) (env 6) h) :=
  (s3a5p4 rec n).trans
  ((by kernel_rfl))

theorem s3a4p5 (rec : FuncId → List DV → Hp → Res) (n : Nat) : D3 rec n (cR (cR (cR (cR (cf Try.f3))))) x0 (retK CF Try.f3) = D3 rec n (cL (cR (cR (cR (cR (cf Try.f3)))))) x0 (fun (env : Env) (h : Hp) => s3a5 rec n (env 0) (env 1) (env 5) (env 6) h) :=
  congrArg (fun k => D3 rec n (cL (cR (cR (cR (cR (cf Try.f3)))))) x0 k) (s3a5e rec n)

theorem s3a4e (rec : FuncId → List DV → Hp → Res) (n : Nat) : D3 rec n (cR (cR (cR (cR (cf Try.f3))))) x0 (retK CF Try.f3) = (fun (env : Env) (h : Hp) => s3a4 rec n (env 0) (env 1) (env 5) h) :=
  (s3a4p5 rec n).trans
  ((by kernel_rfl))

theorem s3a3p6 (rec : FuncId → List DV → Hp → Res) (n : Nat) : D3 rec n (cR (cR (cR (cf Try.f3)))) x0 (retK CF Try.f3) = D3 rec n (cL (cR (cR (cR (cf Try.f3))))) x0 (fun (env : Env) (h : Hp) => s3a4 rec n (env 0) (env 1) (env 5) h) :=
  congrArg (fun k => D3 rec n (cL (cR (cR (cR (cf Try.f3))))) x0 k) (s3a4e rec n)

theorem s3a3e (rec : FuncId → List DV → Hp → Res) (n : Nat) : D3 rec n (cR (cR (cR (cf Try.f3)))) x0 (retK CF Try.f3) = (fun (env : Env) (h : Hp) => s3a3 rec n (env 0) (env 1) h) :=
  (s3a3p6 rec n).trans
  ((by kernel_rfl))

theorem s3a2p7 (rec : FuncId → List DV → Hp → Res) (n : Nat) : D3 rec n (cR (cR (cf Try.f3))) x0 (retK CF Try.f3) = D3 rec n (cL (cR (cR (cf Try.f3)))) x0 (fun (env : Env) (h : Hp) => s3a3 rec n (env 0) (env 1) h) :=
  congrArg (fun k => D3 rec n (cL (cR (cR (cf Try.f3)))) x0 k) (s3a3e rec n)

theorem s3a2e (rec : FuncId → List DV → Hp → Res) (n : Nat) : D3 rec n (cR (cR (cf Try.f3))) x0 (retK CF Try.f3) = (fun (env : Env) (h : Hp) => s3a2 rec n (env 0) (env 1) h) :=
  (s3a2p7 rec n).trans
  ((by kernel_rfl))

theorem s3a1p8 (rec : FuncId → List DV → Hp → Res) (n : Nat) : D3 rec n (cR (cf Try.f3)) x0 (retK CF Try.f3) = D3 rec n (cL (cR (cf Try.f3))) x0 (fun (env : Env) (h : Hp) => s3a2 rec n (env 0) (env 1) h) :=
  congrArg (fun k => D3 rec n (cL (cR (cf Try.f3))) x0 k) (s3a2e rec n)

theorem s3a1e (rec : FuncId → List DV → Hp → Res) (n : Nat) : D3 rec n (cR (cf Try.f3)) x0 (retK CF Try.f3) = (fun (env : Env) (h : Hp) => s3a1 rec n (env 0) (env 1) h) :=
  (s3a1p8 rec n).trans
  ((by kernel_rfl))

theorem s3p9 (rec : FuncId → List DV → Hp → Res) (n : Nat) : D3 rec n (cf Try.f3) x0 (retK CF Try.f3) = D3 rec n (cL (cf Try.f3)) x0 (fun (env : Env) (h : Hp) => s3a1 rec n (env 0) (env 1) h) :=
  congrArg (fun k => D3 rec n (cL (cf Try.f3)) x0 k) (s3a1e rec n)

theorem s3m (rec : FuncId → List DV → Hp → Res) (n : Nat) : D3 rec n (cf Try.f3) x0 (retK CF Try.f3) = (fun (env : Env) (h : Hp) => s3 rec n (env 0) (env 1) h) :=
  (s3p9 rec n).trans
  ((by kernel_rfl))

theorem s3ok (rec : FuncId → List DV → Hp → Res) (n : Nat) (args : List DV) (h : Hp) : bodyD CF rec n 3 args h = s3 rec n (args.getD 0 undefD) (args.getD 1 undefD) h :=
  (by kernel_rfl : bodyD CF rec n 3 args h = D3 rec n (cf Try.f3) x0 (retK CF Try.f3) (argsE args) h).trans ((congrFun (congrFun (s3m rec n) (argsE args)) h).trans (by kernel_rfl))

noncomputable def s4a8 (rec : FuncId → List DV → Hp → Res) (n : Nat) (x3 x9 : DV) (h0 : Hp) : Res :=
  bnd (pLenS x9 h0) fun v1 h1 =>
  bnd (pInt .gtr v1 (.i .i64 (Int.ofNat 2000)) h1) fun v2 h2 =>
  ifD v2 (
    bnd (rec 9 [] h2) fun v3 h3 =>
    some (v3, h3)) (
    bnd (rec 8 [x9] h2) fun v4 h4 =>
    bnd (pExtract 0 v4 h4) fun v5 h5 =>
    bnd (pExtract 1 v4 h5) fun v6 h6 =>
    bnd (pExtract 2 v4 h6) fun v7 h7 =>
    bnd (pNew [(.i .i64 (Int.ofNat 0)), (.s []), (.i .i64 (Int.ofNat 0)), .l0, .l0, .l0] h7) fun v8 h8 =>
    bnd (pStore 6 v8 v5 h8) fun _ h9 =>
    bnd (pInt .eql v7 (.i .i64 (Int.ofNat 0)) h9) fun v10 h10 =>
    bnd (gD v10 true (pLoadA 6 x3 h10) h10) fun v11 h11 =>
    bnd (gD v10 true (pLoadA 6 v8 h11) h11) fun v12 h12 =>
    bnd (gD v10 true (rec 11 [v11, v12] h12) h12) fun v13 h13 =>
    bnd (pPick v10 v13 (.b false) h13) fun v14 h14 =>
    bnd (gD v14 true (rec 9 [] h14) h14) fun v15 h15 =>
    bnd (pPick v14 v15 (.b false) h15) fun v16 h16 =>
    some (v16, h16))

noncomputable def s4a12 (rec : FuncId → List DV → Hp → Res) (n : Nat) (kk10 : DV → DV → DV → DV → DV → Hp → Res) (x0 x3 x6 x9 x10 : DV) (h0 : Hp) : Res :=
  bnd (pInt .add x10 (.i .i64 (Int.ofNat 1)) h0) fun v33 h33 =>
  kk10 x0 x3 x6 x9 v33 h33

noncomputable def s4a11 (rec : FuncId → List DV → Hp → Res) (n : Nat) (kk10 : DV → DV → DV → DV → DV → Hp → Res) (x0 x3 x6 x9 x10 : DV) (h0 : Hp) : Res :=
  bnd (pIndexAddr 4 x6 x10 h0) fun v35 h35 =>
  bnd (pField 3 v35 h35) fun v36 h36 =>
  bnd (pLoad1 v36 h36) fun v37 h37 =>
  bnd (pInt .add x10 (.i .i64 (Int.ofNat 1)) h37) fun v38 h38 =>
  bnd (pIndexAddr 4 x6 v38 h38) fun v39 h39 =>
  bnd (pField 3 v39 h39) fun v40 h40 =>
  bnd (pLoad1 v40 h40) fun v41 h41 =>
  bnd (pSliceS x0 (some v37) (some v41) h41) fun v42 h42 =>
  bnd (pStr .add x9 v42 h42) fun v43 h43 =>
  bnd (pIndexAddr 4 x6 x10 h43) fun v44 h44 =>
  bnd (pField 0 v44 h44) fun v45 h45 =>
  bnd (pLoad1 v45 h45) fun v46 h46 =>
  bnd (pInt .neq v46 (.i .i64 (Int.ofNat 3)) h46) fun v47 h47 =>
  bnd (gD v47 false (some (x6, h47)) h47) fun v48 h48 =>
  bnd (gD v47 false (some (x10, h48)) h48) fun v49 h49 =>
  bnd (gD v47 false (pInt .add v49 (.i .i64 (Int.ofNat 1)) h49) h49) fun v50 h50 =>
  bnd (gD v47 false (pIndexAddr 4 v48 v50 h50) h50) fun v51 h51 =>
  bnd (gD v47 false (pField 0 v51 h51) h51) fun v52 h52 =>
  bnd (gD v47 false (pLoad1 v52 h52) h52) fun v53 h53 =>
  bnd (gD v47 false (pInt .neq v53 (.i .i64 (Int.ofNat 4)) h53) h53) fun v54 h54 =>
  bnd (pPick v47 (.b true) v54 h54) fun v55 h55 =>
  ifD v55 (
    bnd (pStr .add v43 (.s [32, 34, 114, 34, 32]) h55) fun v56 h56 =>
    s4a12 rec n kk10 x0 x3 x6 v56 x10 h56) (
    s4a12 rec n kk10 x0 x3 x6 v43 x10 h55)

noncomputable def s4a10b (rec : FuncId → List DV → Hp → Res) (n : Nat) (kk10 : DV → DV → DV → DV → DV → Hp → Res) (x0 x3 x6 x9 x10 : DV) (h0 : Hp) : Res :=
    bnd (pInt .add x10 (.i .i64 (Int.ofNat 1)) h0) fun v79 h79 =>
    bnd (pLen x6 h79) fun v80 h80 =>
    bnd (pInt .lss v79 v80 h80) fun v81 h81 =>
    ifD v81 (
      s4a11 rec n kk10 x0 x3 x6 x9 x10 h81) (
      s4a8 rec n x3 x9 h81)

noncomputable def s4a10l (rec : FuncId → List DV → Hp → Res) (n : Nat) (m : Nat) : DV → DV → DV → DV → DV → Hp → Res :=
  Nat.rec (motive := fun _ => DV → DV → DV → DV → DV → Hp → Res) (fun _ _ _ _ _ _ => none) (fun _ ih => s4a10b rec n ih) m

noncomputable def s4a10 (rec : FuncId → List DV → Hp → Res) (n : Nat) : DV → DV → DV → DV → DV → Hp → Res := s4a10l rec n n

noncomputable def s4a9 (rec : FuncId → List DV → Hp → Res) (n : Nat) (x0 x3 x6 x9 x10 : DV) (h0 : Hp) : Res :=
  s4a10 rec n x0 x3 x6 x9 x10 h0

noncomputable def s4a7 (rec : FuncId → List DV → Hp → Res) (n : Nat) (x0 x3 x6 x9 : DV) (h0 : Hp) : Res :=
  s4a9 rec n x0 x3 x6 x9 (.i .i64 (Int.ofNat 0)) h0

noncomputable def s4a6 (rec : FuncId → List DV → Hp → Res) (n : Nat) (x0 x3 x6 : DV) (h0 : Hp) : Res :=
  s4a7 rec n x0 x3 x6 (.s []) h0

noncomputable def s4a5 (rec : FuncId → List DV → Hp → Res) (n : Nat) (x0 x3 x6 x8 : DV) (h0 : Hp) : Res :=
  bnd (pInt .neq x8 (.i .i64 (Int.ofNat 0)) h0) fun v85 h85 =>
  ifD v85 (
    some ((.b false), h85)) (
    s4a6 rec n x0 x3 x6 h85)

noncomputable def s4a4 (rec : FuncId → List DV → Hp → Res) (n : Nat) (x0 x3 : DV) (h0 : Hp) : Res :=
  bnd (rec 10 [x0] h0) fun v87 h87 =>
  bnd (pExtract 0 v87 h87) fun v88 h88 =>
  bnd (pExtract 1 v87 h88) fun v89 h89 =>
  bnd (pExtract 2 v87 h89) fun v90 h90 =>
  s4a5 rec n x0 x3 v88 v90 h90

noncomputable def s4a3 (rec : FuncId → List DV → Hp → Res) (n : Nat) (x0 x3 x5 : DV) (h0 : Hp) : Res :=
  bnd (pInt .neq x5 (.i .i64 (Int.ofNat 0)) h0) fun v95 h95 =>
  ifD v95 (
    bnd (rec 9 [] h95) fun v96 h96 =>
    some (v96, h96)) (
    s4a4 rec n x0 x3 h95)

noncomputable def s4a2 (rec : FuncId → List DV → Hp → Res) (n : Nat) (x0 : DV) (h0 : Hp) : Res :=
  bnd (rec 8 [x0] h0) fun v99 h99 =>
  bnd (pExtract 0 v99 h99) fun v100 h100 =>
  bnd (pExtract 1 v99 h100) fun v101 h101 =>
  bnd (pExtract 2 v99 h101) fun v102 h102 =>
  bnd (pNew [(.i .i64 (Int.ofNat 0)), (.s []), (.i .i64 (Int.ofNat 0)), .l0, .l0, .l0] h102) fun v103 h103 =>
  bnd (pStore 6 v103 v100 h103) fun _ h104 =>
  s4a3 rec n x0 v103 v102 h104

noncomputable def s4a1 (rec : FuncId → List DV → Hp → Res) (n : Nat) (x0 : DV) (h0 : Hp) : Res :=
  bnd (pLenS x0 h0) fun v123 h123 =>
  bnd (pInt .gtr v123 (.i .i64 (Int.ofNat 300)) h123) fun v124 h124 =>
  ifD v124 (
    bnd (pSliceS x0 none (some (.i .i64 (Int.ofNat 300))) h124) fun v125 h125 =>
    s4a2 rec n v125 h125) (
    s4a2 rec n x0 h124)

/-- vivariumlaw07.ParseBlanks -/
noncomputable def s4 (rec : FuncId → List DV → Hp → Res) (n : Nat) (x0 : DV) (h0 : Hp) : Res :=
  s4a1 rec n x0 h0

noncomputable def D4 (rec : FuncId → List DV → Hp → Res) (n : Nat) (c : Code) (X : Nat → K) (k : K) : K := codeD CF rec 95 n c X (retK CF Try.f4) k

theorem s4a8e (rec : FuncId → List DV → Hp → Res) (n : Nat) : D4 rec n (cR (cR (cR (cR (cR (cR (cR (cR (cf Try.f4))))))))) x0 (retK CF Try.f4) = (fun (env : Env) (h : Hp) => s4a8 rec n (env 3) (env 9) h) :=
  (by kernel_rfl)

theorem s4a12e (rec : FuncId → List DV → Hp → Res) (n : Nat) (kk10 : DV → DV → DV → DV → DV → Hp → Res) : D4 rec n (cR (cR (cL (cL (cR (cL (cR (cR (cR (cR (cR (cR (cR (cf Try.f4)))))))))))))) (xs x0 0 (fun (env : Env) (h : Hp) => s4a8 rec n (env 3) (env 9) h)) (fun (env : Env) (h : Hp) => kk10 (env 0) (env 3) (env 6) (env 9) (env 10) h) = (fun (env : Env) (h : Hp) => s4a12 rec n kk10 (env 0) (env 3) (env 6) (env 9) (env 10) h) :=
  (by kernel_rfl)

theorem s4a11p1 (rec : FuncId → List DV → Hp → Res) (n : Nat) (kk10 : DV → DV → DV → DV → DV → Hp → Res) : D4 rec n (cR (cL (cL (cR (cL (cR (cR (cR (cR (cR (cR (cR (cf Try.f4))))))))))))) (xs x0 0 (fun (env : Env) (h : Hp) => s4a8 rec n (env 3) (env 9) h)) (fun (env : Env) (h : Hp) => kk10 (env 0) (env 3) (env 6) (env 9) (env 10) h) = D4 rec n (cL (cR (cL (cL (cR (cL (cR (cR (cR (cR (cR (cR (cR (cf Try.f4)))))))))))))) (xs x0 0 (fun (env : Env) (h : Hp) => s4a8 rec n (env 3) (env 9) h)) (fun (env : Env) (h : Hp) => s4a12 rec n kk10 (env 0) (env 3) (env 6) (env 9) (env 10) h) :=
  congrArg (fun k => D4 rec n (cL (cR (cL (cL (cR (cL (cR (cR (cR (cR (cR (cR (cR (cf Try.f4)))))))))))))) (xs x0 0 (fun (env : Env) (h : Hp) => s4a8 rec n (env 3) (env 9) h)) k) (s4a12e rec n kk10)

theorem s4a11e (rec : FuncId → List DV → Hp → Res) (n : Nat) (kk10 : DV → DV → DV → DV → DV → Hp → Res) : D4 rec n (cR (cL (cL (cR (cL (cR (cR (cR (cR (cR (cR (cR (cf Try.f4))))))))))))) (xs x0 0 (fun (env : Env) (h : Hp) => s4a8 rec n (env 3) (env 9) h)) (fun (env : Env) (h : Hp) => kk10 (env 0) (env 3) (env 6) (env 9) (env 10) h) = (fun (env : Env) (h : Hp) => s4a11 rec n kk10 (env 0) (env 3) (env 6) (env 9) (env 10) h) :=
  (s4a11p1 rec n kk10).trans
  ((by kernel_rfl))

theorem s4a10p2 (rec : FuncId → List DV → Hp → Res) (n : Nat) (kk10 : DV → DV → DV → DV → DV → Hp → Res) : D4 rec n (cL (cL (cR (cL (cR (cR (cR (cR (cR (cR (cR (cf Try.f4)))))))))))) (xs x0 0 (fun (env : Env) (h : Hp) => s4a8 rec n (env 3) (env 9) h)) (fun (env : Env) (h : Hp) => kk10 (env 0) (env 3) (env 6) (env 9) (env 10) h) = D4 rec n (cL (cL (cL (cR (cL (cR (cR (cR (cR (cR (cR (cR (cf Try.f4))))))))))))) (xs x0 0 (fun (env : Env) (h : Hp) => s4a8 rec n (env 3) (env 9) h)) (fun (env : Env) (h : Hp) => s4a11 rec n kk10 (env 0) (env 3) (env 6) (env 9) (env 10) h) :=
  congrArg (fun k => D4 rec n (cL (cL (cL (cR (cL (cR (cR (cR (cR (cR (cR (cR (cf Try.f4))))))))))))) (xs x0 0 (fun (env : Env) (h : Hp) => s4a8 rec n (env 3) (env 9) h)) k) (s4a11e rec n kk10)

theorem s4a10be (rec : FuncId → List DV → Hp → Res) (n : Nat) (kk10 : DV → DV → DV → DV → DV → Hp → Res) : D4 rec n (cL (cL (cR (cL (cR (cR (cR (cR (cR (cR (cR (cf Try.f4)))))))))))) (xs x0 0 (fun (env : Env) (h : Hp) => s4a8 rec n (env 3) (env 9) h)) (fun (env : Env) (h : Hp) => kk10 (env 0) (env 3) (env 6) (env 9) (env 10) h) = (fun (env : Env) (h : Hp) => s4a10b rec n kk10 (env 0) (env 3) (env 6) (env 9) (env 10) h) :=
  (s4a10p2 rec n kk10).trans
  ((by kernel_rfl))

theorem s4a10le (rec : FuncId → List DV → Hp → Res) (n : Nat) (m : Nat) : loopN (fun kk => D4 rec n (cL (cL (cR (cL (cR (cR (cR (cR (cR (cR (cR (cf Try.f4)))))))))))) (xs x0 0 (fun (env : Env) (h : Hp) => s4a8 rec n (env 3) (env 9) h)) kk) m = (fun (env : Env) (h : Hp) => s4a10l rec n m (env 0) (env 3) (env 6) (env 9) (env 10) h) := by
  induction m with
  | zero => exact (by kernel_rfl : loopN (fun kk => D4 rec n (cL (cL (cR (cL (cR (cR (cR (cR (cR (cR (cR (cf Try.f4)))))))))))) (xs x0 0 (fun (env : Env) (h : Hp) => s4a8 rec n (env 3) (env 9) h)) kk) 0 = (fun (env : Env) (h : Hp) => s4a10l rec n 0 (env 0) (env 3) (env 6) (env 9) (env 10) h))
  | succ m ih =>
    refine (by kernel_rfl : loopN (fun kk => D4 rec n (cL (cL (cR (cL (cR (cR (cR (cR (cR (cR (cR (cf Try.f4)))))))))))) (xs x0 0 (fun (env : Env) (h : Hp) => s4a8 rec n (env 3) (env 9) h)) kk) (m + 1) = D4 rec n (cL (cL (cR (cL (cR (cR (cR (cR (cR (cR (cR (cf Try.f4)))))))))))) (xs x0 0 (fun (env : Env) (h : Hp) => s4a8 rec n (env 3) (env 9) h)) (loopN (fun kk => D4 rec n (cL (cL (cR (cL (cR (cR (cR (cR (cR (cR (cR (cf Try.f4)))))))))))) (xs x0 0 (fun (env : Env) (h : Hp) => s4a8 rec n (env 3) (env 9) h)) kk) m)).trans ?_
    rw [ih]
    exact (s4a10be rec n (s4a10l rec n m)).trans (by kernel_rfl)

theorem s4a10e (rec : FuncId → List DV → Hp → Res) (n : Nat) : D4 rec n (cL (cR (cL (cR (cR (cR (cR (cR (cR (cR (cf Try.f4))))))))))) (xs x0 0 (fun (env : Env) (h : Hp) => s4a8 rec n (env 3) (env 9) h)) (fun (env : Env) (h : Hp) => s4a8 rec n (env 3) (env 9) h) = (fun (env : Env) (h : Hp) => s4a10 rec n (env 0) (env 3) (env 6) (env 9) (env 10) h) :=
  (by kernel_rfl : D4 rec n (cL (cR (cL (cR (cR (cR (cR (cR (cR (cR (cf Try.f4))))))))))) (xs x0 0 (fun (env : Env) (h : Hp) => s4a8 rec n (env 3) (env 9) h)) (fun (env : Env) (h : Hp) => s4a8 rec n (env 3) (env 9) h) = loopN (fun kk => D4 rec n (cL (cL (cR (cL (cR (cR (cR (cR (cR (cR (cR (cf Try.f4)))))))))))) (xs x0 0 (fun (env : Env) (h : Hp) => s4a8 rec n (env 3) (env 9) h)) kk) n).trans ((s4a10le rec n n).trans (by kernel_rfl))

theorem s4a9e (rec : FuncId → List DV → Hp → Res) (n : Nat) : D4 rec n (cR (cL (cR (cR (cR (cR (cR (cR (cR (cf Try.f4)))))))))) x0 (fun (env : Env) (h : Hp) => s4a8 rec n (env 3) (env 9) h) = (fun (env : Env) (h : Hp) => s4a9 rec n (env 0) (env 3) (env 6) (env 9) (env 10) h) :=
  (by kernel_rfl : D4 rec n (cR (cL (cR (cR (cR (cR (cR (cR (cR (cf Try.f4)))))))))) x0 (fun (env : Env) (h : Hp) => s4a8 rec n (env 3) (env 9) h) = D4 rec n (cL (cR (cL (cR (cR (cR (cR (cR (cR (cR (cf Try.f4))))))))))) (xs x0 0 (fun (env : Env) (h : Hp) => s4a8 rec n (env 3) (env 9) h)) (fun (env : Env) (h : Hp) => s4a8 rec n (env 3) (env 9) h)).trans
  ((s4a10e rec n).trans (by kernel_rfl))

theorem s4a7p3 (rec : FuncId → List DV → Hp → Res) (n : Nat) : D4 rec n (cR (cR (cR (cR (cR (cR (cR (cf Try.f4)))))))) x0 (retK CF Try.f4) = D4 rec n (cL (cR (cR (cR (cR (cR (cR (cR (cf Try.f4))))))))) x0 (fun (env : Env) (h : Hp) => s4a8 rec n (env 3) (env 9) h) :=
  congrArg (fun k => D4 rec n (cL (cR (cR (cR (cR (cR (cR (cR (cf Try.f4))))))))) x0 k) (s4a8e rec n)

theorem s4a7p4 (rec : FuncId → List DV → Hp → Res) (n : Nat) : D4 rec n (cL (cR (cR (cR (cR (cR (cR (cR (cf Try.f4))))))))) x0 (fun (env : Env) (h : Hp) => s4a8 rec n (env 3) (env 9) h) = D4 rec n (cL (cL (cR (cR (cR (cR (cR (cR (cR (cf Try.f4)))))))))) x0 (fun (env : Env) (h : Hp) => s4a9 rec n (env 0) (env 3) (env 6) (env 9) (env 10) h) :=
  congrArg (fun k => D4 rec n (cL (cL (cR (cR (cR (cR (cR (cR (cR (cf Try.f4)))))))))) x0 k) (s4a9e rec n)

theorem s4a7e (rec : FuncId → List DV → Hp → Res) (n : Nat) : D4 rec n (cR (cR (cR (cR (cR (cR (cR (cf Try.f4)))))))) x0 (retK CF Try.f4) = (fun (env : Env) (h : Hp) => s4a7 rec n (env 0) (env 3) (env 6) (env 9) h) :=
  (s4a7p3 rec n).trans
  ((s4a7p4 rec n).trans
  ((by kernel_rfl)))

theorem s4a6p5 (rec : FuncId → List DV → Hp → Res) (n : Nat) : D4 rec n (cR (cR (cR (cR (cR (cR (cf Try.f4))))))) x0 (retK CF Try.f4) = D4 rec n (cL (cR (cR (cR (cR (cR (cR (cf Try.f4)))))))) x0 (fun (env : Env) (h : Hp) => s4a7 rec n (env 0) (env 3) (env 6) (env 9) h) :=
  congrArg (fun k => D4 rec n (cL (cR (cR (cR (cR (cR (cR (cf Try.f4)))))))) x0 k) (s4a7e rec n)

theorem s4a6e (rec : FuncId → List DV → Hp → Res) (n : Nat) : D4 rec n (cR (cR (cR (cR (cR (cR (cf Try.f4))))))) x0 (retK CF Try.f4) = (fun (env : Env) (h : Hp) => s4a6 rec n (env 0) (env 3) (env 6) h) :=
  (s4a6p5 rec n).trans
  ((by kernel_rfl))

theorem s4a5p6 (rec : FuncId → List DV → Hp → Res) (n : Nat) : D4 rec n (cR (cR (cR (cR (cR (cf Try.f4)))))) x0 (retK CF Try.f4) = D4 rec n (cL (cR (cR (cR (cR (cR (cf Try.f4))))))) x0 (fun (env : Env) (h : Hp) => s4a6 rec n (env 0) (env 3) (env 6) h) :=
  congrArg (fun k => D4 rec n (cL (cR (cR (cR (cR (cR (cf Try.f4))))))) x0 k) (s4a6e rec n)

theorem s4a5e (rec : FuncId → List DV → Hp → Res) (n : Nat) : D4 rec n (cR (cR (cR (cR (cR (cf Try.f4)))))) x0 (retK CF Try.f4) = (fun (env : Env) (h : Hp) => s4a5 rec n (env 0) (env 3) (env 6) (env 8) h) :=
  (s4a5p6 rec n).trans
  ((by kernel_rfl))

theorem s4a4p7 (rec : FuncId → List DV → Hp → Res) (n : Nat) : D4 rec n (cR (cR (cR (cR (cf Try.f4))))) x0 (retK CF Try.f4) = D4 rec n (cL (cR (cR (cR (cR (cf Try.f4)))))) x0 (fun (env : Env) (h : Hp) => s4a5 rec n (env 0) (env 3) (env 6) (env 8) h) :=
  congrArg (fun k => D4 rec n (cL (cR (cR (cR (cR (cf Try.f4)))))) x0 k) (s4a5e rec n)

theorem s4a4e (rec : FuncId → List DV → Hp → Res) (n : Nat) : D4 rec n (cR (cR (cR (cR (cf Try.f4))))) x0 (retK CF Try.f4) = (fun (env : Env) (h : Hp) => s4a4 rec n (env 0) (env 3) h) :=
  (s4a4p7 rec n).trans
  ((by kernel_rfl))

theorem s4a3p8 (rec : FuncId → List DV → Hp → Res) (n : Nat) : D4 rec n (cR (cR (cR (cf Try.f4)))) x0 (retK CF Try.f4) = D4 rec n (cL (cR (cR (cR (cf Try.f4))))) x0 (fun (env : Env) (h : Hp) => s4a4 rec n (env 0) (env 3) h) :=
  congrArg (fun k => D4 rec n (cL (cR (cR (cR (cf Try.f4))))) x0 k) (s4a4e rec n)

theorem s4a3e (rec : FuncId → List DV → Hp → Res) (n : Nat) : D4 rec n (cR (cR (cR (cf Try.f4)))) x0 (retK CF Try.f4) = (fun (env : Env) (h : Hp) => s4a3 rec n (env 0) (env 3) (env 5) h) :=
  (s4a3p8 rec n).trans
  ((by kernel_rfl))

theorem s4a2p9 (rec : FuncId → List DV → Hp → Res) (n : Nat) : D4 rec n (cR (cR (cf Try.f4))) x0 (retK CF Try.f4) = D4 rec n (cL (cR (cR (cf Try.f4)))) x0 (fun (env : Env) (h : Hp) => s4a3 rec n (env 0) (env 3) (env 5) h) :=
  congrArg (fun k => D4 rec n (cL (cR (cR (cf Try.f4)))) x0 k) (s4a3e rec n)

theorem s4a2q10 (rec : FuncId → List DV → Hp → Res) (n : Nat) (q0 : DV → DV → DV → Hp → Res) : D4 rec n (cL (cR (cR (cf Try.f4)))) x0 (fun (env : Env) (h : Hp) => q0 (env 0) (env 3) (env 5) h) = fun (env : Env) (h : Hp) =>
    bnd (rec 8 [(env 0)] h) fun v111 h111 =>
    bnd (pExtract 0 v111 h111) fun v112 h112 =>
    bnd (pExtract 1 v111 h112) fun v113 h113 =>
    bnd (pExtract 2 v111 h113) fun v114 h114 =>
    bnd (pNew [(.i .i64 (Int.ofNat 0)), (.s []), (.i .i64 (Int.ofNat 0)), .l0, .l0, .l0] h114) fun v115 h115 =>
    bnd (pStore 6 v115 v112 h115) fun _ h116 =>
    q0 (env 0) v115 v114 h116 := by kernel_rfl

theorem s4a2q10u (rec : FuncId → List DV → Hp → Res) (n : Nat) : (fun (env : Env) (h : Hp) =>
    bnd (rec 8 [(env 0)] h) fun v117 h117 =>
    bnd (pExtract 0 v117 h117) fun v118 h118 =>
    bnd (pExtract 1 v117 h118) fun v119 h119 =>
    bnd (pExtract 2 v117 h119) fun v120 h120 =>
    bnd (pNew [(.i .i64 (Int.ofNat 0)), (.s []), (.i .i64 (Int.ofNat 0)), .l0, .l0, .l0] h120) fun v121 h121 =>
    bnd (pStore 6 v121 v118 h121) fun _ h122 =>
    s4a3 rec n (env 0) v121 v120 h122) = (fun (env : Env) (h : Hp) => s4a2 rec n (env 0) h) := by kernel_rfl

theorem s4a2e (rec : FuncId → List DV → Hp → Res) (n : Nat) : D4 rec n (cR (cR (cf Try.f4))) x0 (retK CF Try.f4) = (fun (env : Env) (h : Hp) => s4a2 rec n (env 0) h) :=
  (s4a2p9 rec n).trans
  ((s4a2q10 rec n (s4a3 rec n)).trans (s4a2q10u rec n))

theorem s4a1p11 (rec : FuncId → List DV → Hp → Res) (n : Nat) : D4 rec n (cR (cf Try.f4)) x0 (retK CF Try.f4) = D4 rec n (cL (cR (cf Try.f4))) x0 (fun (env : Env) (h : Hp) => s4a2 rec n (env 0) h) :=
  congrArg (fun k => D4 rec n (cL (cR (cf Try.f4))) x0 k) (s4a2e rec n)

theorem s4a1e (rec : FuncId → List DV → Hp → Res) (n : Nat) : D4 rec n (cR (cf Try.f4)) x0 (retK CF Try.f4) = (fun (env : Env) (h : Hp) => s4a1 rec n (env 0) h) :=
  (s4a1p11 rec n).trans
  ((by kernel_rfl))

theorem s4p12 (rec : FuncId → List DV → Hp → Res) (n : Nat) : D4 rec n (cf Try.f4) x0 (retK CF Try.f4) = D4 rec n (cL (cf Try.f4)) x0 (fun (env : Env) (h : Hp) => s4a1 rec n (env 0) h) :=
  congrArg (fun k => D4 rec n (cL (cf Try.f4)) x0 k) (s4a1e rec n)

theorem s4m (rec : FuncId → List DV → Hp → Res) (n : Nat) : D4 rec n (cf Try.f4) x0 (retK CF Try.f4) = (fun (env : Env) (h : Hp) => s4 rec n (env 0) h) :=
  (s4p12 rec n).trans
  ((by kernel_rfl))

theorem s4ok (rec : FuncId → List DV → Hp → Res) (n : Nat) (args : List DV) (h : Hp) : bodyD CF rec n 4 args h = s4 rec n (args.getD 0 undefD) h :=
  (by kernel_rfl : bodyD CF rec n 4 args h = D4 rec n (cf Try.f4) x0 (retK CF Try.f4) (argsE args) h).trans ((congrFun (congrFun (s4m rec n) (argsE args)) h).trans (by kernel_rfl))

noncomputable def s5a9 (rec : FuncId → List DV → Hp → Res) (n : Nat) (x3 x9 x10 : DV) (h0 : Hp) : Res :=
  bnd (pLoadA 6 x3 h0) fun v1 h1 =>
  bnd (rec 12 [v1] h1) fun v2 h2 =>
  bnd (pInt .geq v2 x9 h2) fun v3 h3 =>
  bnd (gD v3 true (some (v2, h3)) h3) fun v4 h4 =>
  bnd (gD v3 true (some (x10, h4)) h4) fun v5 h5 =>
  bnd (gD v3 true (pInt .leq v4 v5 h5) h5) fun v6 h6 =>
  bnd (pPick v3 v6 (.b false) h6) fun v7 h7 =>
  bnd (gD v7 true (rec 9 [] h7) h7) fun v8 h8 =>
  bnd (pPick v7 v8 (.b false) h8) fun v9 h9 =>
  some (v9, h9)

noncomputable def s5a13 (rec : FuncId → List DV → Hp → Res) (n : Nat) (kk11 : DV → DV → DV → DV → DV → Hp → Res) (x3 x6 x9 x10 x11 : DV) (h0 : Hp) : Res :=
  bnd (pInt .add x11 (.i .i64 (Int.ofNat 1)) h0) fun v19 h19 =>
  kk11 x3 x6 x9 x10 v19 h19

noncomputable def s5a15 (rec : FuncId → List DV → Hp → Res) (n : Nat) (kk11 : DV → DV → DV → DV → DV → Hp → Res) (x3 x6 x9 x10 x11 x12 : DV) (h0 : Hp) : Res :=
  bnd (pInt .eql x12 (.i .i64 (Int.ofNat 2)) h0) fun v21 h21 =>
  bnd (gD v21 false (some (x12, h21)) h21) fun v22 h22 =>
  bnd (gD v21 false (pInt .eql v22 (.i .i64 (Int.ofNat 3)) h22) h22) fun v23 h23 =>
  bnd (pPick v21 (.b true) v23 h23) fun v24 h24 =>
  ifD v24 (
    bnd (pInt .add x10 (.i .i64 (Int.ofNat 1)) h24) fun v25 h25 =>
    s5a13 rec n kk11 x3 x6 x9 v25 x11 h25) (
    s5a13 rec n kk11 x3 x6 x9 x10 x11 h24)

noncomputable def s5a14 (rec : FuncId → List DV → Hp → Res) (n : Nat) (kk11 : DV → DV → DV → DV → DV → Hp → Res) (x3 x6 x9 x10 x11 x12 : DV) (h0 : Hp) : Res :=
  bnd (pInt .eql x12 (.i .i64 (Int.ofNat 1)) h0) fun v31 h31 =>
  bnd (gD v31 false (some (x12, h31)) h31) fun v32 h32 =>
  bnd (gD v31 false (pInt .eql v32 (.i .i64 (Int.ofNat 4)) h32) h32) fun v33 h33 =>
  bnd (pPick v31 (.b true) v33 h33) fun v34 h34 =>
  bnd (gD v34 false (some (x12, h34)) h34) fun v35 h35 =>
  bnd (gD v34 false (pInt .eql v35 (.i .i64 (Int.ofNat 5)) h35) h35) fun v36 h36 =>
  bnd (pPick v34 (.b true) v36 h36) fun v37 h37 =>
  bnd (gD v37 false (some (x12, h37)) h37) fun v38 h38 =>
  bnd (gD v37 false (pInt .eql v38 (.i .i64 (Int.ofNat 6)) h38) h38) fun v39 h39 =>
  bnd (pPick v37 (.b true) v39 h39) fun v40 h40 =>
  bnd (gD v40 false (some (x12, h40)) h40) fun v41 h41 =>
  bnd (gD v40 false (pInt .eql v41 (.i .i64 (Int.ofNat 8)) h41) h41) fun v42 h42 =>
  bnd (pPick v40 (.b true) v42 h42) fun v43 h43 =>
  ifD v43 (
    bnd (pInt .add x9 (.i .i64 (Int.ofNat 1)) h43) fun v44 h44 =>
    bnd (pInt .add x10 (.i .i64 (Int.ofNat 1)) h44) fun v45 h45 =>
    s5a15 rec n kk11 x3 x6 v44 v45 x11 x12 h45) (
    s5a15 rec n kk11 x3 x6 x9 x10 x11 x12 h43)

noncomputable def s5a12 (rec : FuncId → List DV → Hp → Res) (n : Nat) (kk11 : DV → DV → DV → DV → DV → Hp → Res) (x3 x6 x9 x10 x11 : DV) (h0 : Hp) : Res :=
  bnd (pIndexAddr 4 x6 x11 h0) fun v61 h61 =>
  bnd (pField 0 v61 h61) fun v62 h62 =>
  bnd (pLoad1 v62 h62) fun v63 h63 =>
  s5a14 rec n kk11 x3 x6 x9 x10 x11 v63 h63

noncomputable def s5a11b (rec : FuncId → List DV → Hp → Res) (n : Nat) (kk11 : DV → DV → DV → DV → DV → Hp → Res) (x3 x6 x9 x10 x11 : DV) (h0 : Hp) : Res :=
    bnd (pLen x6 h0) fun v67 h67 =>
    bnd (pInt .lss x11 v67 h67) fun v68 h68 =>
    ifD v68 (
      s5a12 rec n kk11 x3 x6 x9 x10 x11 h68) (
      s5a9 rec n x3 x9 x10 h68)

noncomputable def s5a11l (rec : FuncId → List DV → Hp → Res) (n : Nat) (m : Nat) : DV → DV → DV → DV → DV → Hp → Res :=
  Nat.rec (motive := fun _ => DV → DV → DV → DV → DV → Hp → Res) (fun _ _ _ _ _ _ => none) (fun _ ih => s5a11b rec n ih) m

noncomputable def s5a11 (rec : FuncId → List DV → Hp → Res) (n : Nat) : DV → DV → DV → DV → DV → Hp → Res := s5a11l rec n n

noncomputable def s5a10 (rec : FuncId → List DV → Hp → Res) (n : Nat) (x3 x6 x9 x10 x11 : DV) (h0 : Hp) : Res :=
  s5a11 rec n x3 x6 x9 x10 x11 h0

noncomputable def s5a8 (rec : FuncId → List DV → Hp → Res) (n : Nat) (x3 x6 x9 x10 : DV) (h0 : Hp) : Res :=
  s5a10 rec n x3 x6 x9 x10 (.i .i64 (Int.ofNat 0)) h0

noncomputable def s5a7 (rec : FuncId → List DV → Hp → Res) (n : Nat) (x3 x6 x9 : DV) (h0 : Hp) : Res :=
  s5a8 rec n x3 x6 x9 (.i .i64 (Int.ofNat 0)) h0

noncomputable def s5a6 (rec : FuncId → List DV → Hp → Res) (n : Nat) (x3 x6 : DV) (h0 : Hp) : Res :=
  s5a7 rec n x3 x6 (.i .i64 (Int.ofNat 0)) h0

noncomputable def s5a5 (rec : FuncId → List DV → Hp → Res) (n : Nat) (x3 x6 x8 : DV) (h0 : Hp) : Res :=
  bnd (pInt .neq x8 (.i .i64 (Int.ofNat 0)) h0) fun v71 h71 =>
  ifD v71 (
    some ((.b false), h71)) (
    s5a6 rec n x3 x6 h71)

noncomputable def s5a4 (rec : FuncId → List DV → Hp → Res) (n : Nat) (x0 x3 : DV) (h0 : Hp) : Res :=
  bnd (rec 10 [x0] h0) fun v73 h73 =>
  bnd (pExtract 0 v73 h73) fun v74 h74 =>
  bnd (pExtract 1 v73 h74) fun v75 h75 =>
  bnd (pExtract 2 v73 h75) fun v76 h76 =>
  s5a5 rec n x3 v74 v76 h76

noncomputable def s5a3 (rec : FuncId → List DV → Hp → Res) (n : Nat) (x0 x3 x5 : DV) (h0 : Hp) : Res :=
  bnd (pInt .neq x5 (.i .i64 (Int.ofNat 0)) h0) fun v81 h81 =>
  ifD v81 (
    bnd (rec 9 [] h81) fun v82 h82 =>
    some (v82, h82)) (
    s5a4 rec n x0 x3 h81)

noncomputable def s5a2 (rec : FuncId → List DV → Hp → Res) (n : Nat) (x0 : DV) (h0 : Hp) : Res :=
  bnd (rec 8 [x0] h0) fun v85 h85 =>
  bnd (pExtract 0 v85 h85) fun v86 h86 =>
  bnd (pExtract 1 v85 h86) fun v87 h87 =>
  bnd (pExtract 2 v85 h87) fun v88 h88 =>
  bnd (pNew [(.i .i64 (Int.ofNat 0)), (.s []), (.i .i64 (Int.ofNat 0)), .l0, .l0, .l0] h88) fun v89 h89 =>
  bnd (pStore 6 v89 v86 h89) fun _ h90 =>
  s5a3 rec n x0 v89 v88 h90

noncomputable def s5a1 (rec : FuncId → List DV → Hp → Res) (n : Nat) (x0 : DV) (h0 : Hp) : Res :=
  bnd (pLenS x0 h0) fun v109 h109 =>
  bnd (pInt .gtr v109 (.i .i64 (Int.ofNat 300)) h109) fun v110 h110 =>
  ifD v110 (
    bnd (pSliceS x0 none (some (.i .i64 (Int.ofNat 300))) h110) fun v111 h111 =>
    s5a2 rec n v111 h111) (
    s5a2 rec n x0 h110)

/-- vivariumlaw07.ParseWhole -/
noncomputable def s5 (rec : FuncId → List DV → Hp → Res) (n : Nat) (x0 : DV) (h0 : Hp) : Res :=
  s5a1 rec n x0 h0

noncomputable def D5 (rec : FuncId → List DV → Hp → Res) (n : Nat) (c : Code) (X : Nat → K) (k : K) : K := codeD CF rec 90 n c X (retK CF Try.f5) k

theorem s5a9e (rec : FuncId → List DV → Hp → Res) (n : Nat) : D5 rec n (cR (cR (cR (cR (cR (cR (cR (cR (cR (cf Try.f5)))))))))) x0 (retK CF Try.f5) = (fun (env : Env) (h : Hp) => s5a9 rec n (env 3) (env 9) (env 10) h) :=
  (by kernel_rfl)

theorem s5a13e (rec : FuncId → List DV → Hp → Res) (n : Nat) (kk11 : DV → DV → DV → DV → DV → Hp → Res) : D5 rec n (cR (cR (cL (cL (cR (cL (cR (cR (cR (cR (cR (cR (cR (cR (cf Try.f5))))))))))))))) (xs x0 0 (fun (env : Env) (h : Hp) => s5a9 rec n (env 3) (env 9) (env 10) h)) (fun (env : Env) (h : Hp) => kk11 (env 3) (env 6) (env 9) (env 10) (env 11) h) = (fun (env : Env) (h : Hp) => s5a13 rec n kk11 (env 3) (env 6) (env 9) (env 10) (env 11) h) :=
  (by kernel_rfl)

theorem s5a15e (rec : FuncId → List DV → Hp → Res) (n : Nat) (kk11 : DV → DV → DV → DV → DV → Hp → Res) : D5 rec n (cR (cR (cL (cL (cR (cL (cL (cR (cL (cR (cR (cR (cR (cR (cR (cR (cR (cf Try.f5)))))))))))))))))) (xs (xs x0 0 (fun (env : Env) (h : Hp) => s5a9 rec n (env 3) (env 9) (env 10) h)) 1 (fun (env : Env) (h : Hp) => s5a13 rec n kk11 (env 3) (env 6) (env 9) (env 10) (env 11) h)) (fun (env : Env) (h : Hp) => s5a13 rec n kk11 (env 3) (env 6) (env 9) (env 10) (env 11) h) = (fun (env : Env) (h : Hp) => s5a15 rec n kk11 (env 3) (env 6) (env 9) (env 10) (env 11) (env 12) h) :=
  (by kernel_rfl)

theorem s5a14p1 (rec : FuncId → List DV → Hp → Res) (n : Nat) (kk11 : DV → DV → DV → DV → DV → Hp → Res) : D5 rec n (cR (cL (cL (cR (cL (cL (cR (cL (cR (cR (cR (cR (cR (cR (cR (cR (cf Try.f5))))))))))))))))) (xs (xs x0 0 (fun (env : Env) (h : Hp) => s5a9 rec n (env 3) (env 9) (env 10) h)) 1 (fun (env : Env) (h : Hp) => s5a13 rec n kk11 (env 3) (env 6) (env 9) (env 10) (env 11) h)) (fun (env : Env) (h : Hp) => s5a13 rec n kk11 (env 3) (env 6) (env 9) (env 10) (env 11) h) = D5 rec n (cL (cR (cL (cL (cR (cL (cL (cR (cL (cR (cR (cR (cR (cR (cR (cR (cR (cf Try.f5)))))))))))))))))) (xs (xs x0 0 (fun (env : Env) (h : Hp) => s5a9 rec n (env 3) (env 9) (env 10) h)) 1 (fun (env : Env) (h : Hp) => s5a13 rec n kk11 (env 3) (env 6) (env 9) (env 10) (env 11) h)) (fun (env : Env) (h : Hp) => s5a15 rec n kk11 (env 3) (env 6) (env 9) (env 10) (env 11) (env 12) h) :=
  congrArg (fun k => D5 rec n (cL (cR (cL (cL (cR (cL (cL (cR (cL (cR (cR (cR (cR (cR (cR (cR (cR (cf Try.f5)))))))))))))))))) (xs (xs x0 0 (fun (env : Env) (h : Hp) => s5a9 rec n (env 3) (env 9) (env 10) h)) 1 (fun (env : Env) (h : Hp) => s5a13 rec n kk11 (env 3) (env 6) (env 9) (env 10) (env 11) h)) k) (s5a15e rec n kk11)

theorem s5a14e (rec : FuncId → List DV → Hp → Res) (n : Nat) (kk11 : DV → DV → DV → DV → DV → Hp → Res) : D5 rec n (cR (cL (cL (cR (cL (cL (cR (cL (cR (cR (cR (cR (cR (cR (cR (cR (cf Try.f5))))))))))))))))) (xs (xs x0 0 (fun (env : Env) (h : Hp) => s5a9 rec n (env 3) (env 9) (env 10) h)) 1 (fun (env : Env) (h : Hp) => s5a13 rec n kk11 (env 3) (env 6) (env 9) (env 10) (env 11) h)) (fun (env : Env) (h : Hp) => s5a13 rec n kk11 (env 3) (env 6) (env 9) (env 10) (env 11) h) = (fun (env : Env) (h : Hp) => s5a14 rec n kk11 (env 3) (env 6) (env 9) (env 10) (env 11) (env 12) h) :=
  (s5a14p1 rec n kk11).trans
  ((by kernel_rfl))

theorem s5a12p2 (rec : FuncId → List DV → Hp → Res) (n : Nat) (kk11 : DV → DV → DV → DV → DV → Hp → Res) : D5 rec n (cR (cL (cL (cR (cL (cR (cR (cR (cR (cR (cR (cR (cR (cf Try.f5)))))))))))))) (xs x0 0 (fun (env : Env) (h : Hp) => s5a9 rec n (env 3) (env 9) (env 10) h)) (fun (env : Env) (h : Hp) => kk11 (env 3) (env 6) (env 9) (env 10) (env 11) h) = D5 rec n (cL (cR (cL (cL (cR (cL (cR (cR (cR (cR (cR (cR (cR (cR (cf Try.f5))))))))))))))) (xs x0 0 (fun (env : Env) (h : Hp) => s5a9 rec n (env 3) (env 9) (env 10) h)) (fun (env : Env) (h : Hp) => s5a13 rec n kk11 (env 3) (env 6) (env 9) (env 10) (env 11) h) :=
  congrArg (fun k => D5 rec n (cL (cR (cL (cL (cR (cL (cR (cR (cR (cR (cR (cR (cR (cR (cf Try.f5))))))))))))))) (xs x0 0 (fun (env : Env) (h : Hp) => s5a9 rec n (env 3) (env 9) (env 10) h)) k) (s5a13e rec n kk11)

theorem s5a12p3 (rec : FuncId → List DV → Hp → Res) (n : Nat) (kk11 : DV → DV → DV → DV → DV → Hp → Res) : D5 rec n (cL (cL (cR (cL (cL (cR (cL (cR (cR (cR (cR (cR (cR (cR (cR (cf Try.f5)))))))))))))))) (xs (xs x0 0 (fun (env : Env) (h : Hp) => s5a9 rec n (env 3) (env 9) (env 10) h)) 1 (fun (env : Env) (h : Hp) => s5a13 rec n kk11 (env 3) (env 6) (env 9) (env 10) (env 11) h)) (fun (env : Env) (h : Hp) => s5a13 rec n kk11 (env 3) (env 6) (env 9) (env 10) (env 11) h) = D5 rec n (cL (cL (cL (cR (cL (cL (cR (cL (cR (cR (cR (cR (cR (cR (cR (cR (cf Try.f5))))))))))))))))) (xs (xs x0 0 (fun (env : Env) (h : Hp) => s5a9 rec n (env 3) (env 9) (env 10) h)) 1 (fun (env : Env) (h : Hp) => s5a13 rec n kk11 (env 3) (env 6) (env 9) (env 10) (env 11) h)) (fun (env : Env) (h : Hp) => s5a14 rec n kk11 (env 3) (env 6) (env 9) (env 10) (env 11) (env 12) h) :=
  congrArg (fun k => D5 rec n (cL (cL (cL (cR (cL (cL (cR (cL (cR (cR (cR (cR (cR (cR (cR (cR (cf Try.f5))))))))))))))))) (xs (xs x0 0 (fun (env : Env) (h : Hp) => s5a9 rec n (env 3) (env 9) (env 10) h)) 1 (fun (env : Env) (h : Hp) => s5a13 rec n kk11 (env 3) (env 6) (env 9) (env 10) (env 11) h)) k) (s5a14e rec n kk11)

theorem s5a12e (rec : FuncId → List DV → Hp → Res) (n : Nat) (kk11 : DV → DV → DV → DV → DV → Hp → Res) : D5 rec n (cR (cL (cL (cR (cL (cR (cR (cR (cR (cR (cR (cR (cR (cf Try.f5)))))))))))))) (xs x0 0 (fun (env : Env) (h : Hp) => s5a9 rec n (env 3) (env 9) (env 10) h)) (fun (env : Env) (h : Hp) => kk11 (env 3) (env 6) (env 9) (env 10) (env 11) h) = (fun (env : Env) (h : Hp) => s5a12 rec n kk11 (env 3) (env 6) (env 9) (env 10) (env 11) h) :=
  (s5a12p2 rec n kk11).trans
  ((by kernel_rfl : D5 rec n (cL (cR (cL (cL (cR (cL (cR (cR (cR (cR (cR (cR (cR (cR (cf Try.f5))))))))))))))) (xs x0 0 (fun (env : Env) (h : Hp) => s5a9 rec n (env 3) (env 9) (env 10) h)) (fun (env : Env) (h : Hp) => s5a13 rec n kk11 (env 3) (env 6) (env 9) (env 10) (env 11) h) = D5 rec n (cL (cL (cR (cL (cL (cR (cL (cR (cR (cR (cR (cR (cR (cR (cR (cf Try.f5)))))))))))))))) (xs (xs x0 0 (fun (env : Env) (h : Hp) => s5a9 rec n (env 3) (env 9) (env 10) h)) 1 (fun (env : Env) (h : Hp) => s5a13 rec n kk11 (env 3) (env 6) (env 9) (env 10) (env 11) h)) (fun (env : Env) (h : Hp) => s5a13 rec n kk11 (env 3) (env 6) (env 9) (env 10) (env 11) h)).trans
  ((s5a12p3 rec n kk11).trans
  ((by kernel_rfl))))

theorem s5a11p4 (rec : FuncId → List DV → Hp → Res) (n : Nat) (kk11 : DV → DV → DV → DV → DV → Hp → Res) : D5 rec n (cL (cL (cR (cL (cR (cR (cR (cR (cR (cR (cR (cR (cf Try.f5))))))))))))) (xs x0 0 (fun (env : Env) (h : Hp) => s5a9 rec n (env 3) (env 9) (env 10) h)) (fun (env : Env) (h : Hp) => kk11 (env 3) (env 6) (env 9) (env 10) (env 11) h) = D5 rec n (cL (cL (cL (cR (cL (cR (cR (cR (cR (cR (cR (cR (cR (cf Try.f5)))))))))))))) (xs x0 0 (fun (env : Env) (h : Hp) => s5a9 rec n (env 3) (env 9) (env 10) h)) (fun (env : Env) (h : Hp) => s5a12 rec n kk11 (env 3) (env 6) (env 9) (env 10) (env 11) h) :=
  congrArg (fun k => D5 rec n (cL (cL (cL (cR (cL (cR (cR (cR (cR (cR (cR (cR (cR (cf Try.f5)))))))))))))) (xs x0 0 (fun (env : Env) (h : Hp) => s5a9 rec n (env 3) (env 9) (env 10) h)) k) (s5a12e rec n kk11)

theorem s5a11be (rec : FuncId → List DV → Hp → Res) (n : Nat) (kk11 : DV → DV → DV → DV → DV → Hp → Res) : D5 rec n (cL (cL (cR (cL (cR (cR (cR (cR (cR (cR (cR (cR (cf Try.f5))))))))))))) (xs x0 0 (fun (env : Env) (h : Hp) => s5a9 rec n (env 3) (env 9) (env 10) h)) (fun (env : Env) (h : Hp) => kk11 (env 3) (env 6) (env 9) (env 10) (env 11) h) = (fun (env : Env) (h : Hp) => s5a11b rec n kk11 (env 3) (env 6) (env 9) (env 10) (env 11) h) :=
  (s5a11p4 rec n kk11).trans
  ((by kernel_rfl))

theorem s5a11le (rec : FuncId → List DV → Hp → Res) (n : Nat) (m : Nat) : loopN (fun kk => D5 rec n (cL (cL (cR (cL (cR (cR (cR (cR (cR (cR (cR (cR (cf Try.f5))))))))))))) (xs x0 0 (fun (env : Env) (h : Hp) => s5a9 rec n (env 3) (env 9) (env 10) h)) kk) m = (fun (env : Env) (h : Hp) => s5a11l rec n m (env 3) (env 6) (env 9) (env 10) (env 11) h) := by
  induction m with
  | zero => exact (by kernel_rfl : loopN (fun kk => D5 rec n (cL (cL (cR (cL (cR (cR (cR (cR (cR (cR (cR (cR (cf Try.f5))))))))))))) (xs x0 0 (fun (env : Env) (h : Hp) => s5a9 rec n (env 3) (env 9) (env 10) h)) kk) 0 = (fun (env : Env) (h : Hp) => s5a11l rec n 0 (env 3) (env 6) (env 9) (env 10) (env 11) h))
  | succ m ih =>
    refine (by kernel_rfl : loopN (fun kk => D5 rec n (cL (cL (cR (cL (cR (cR (cR (cR (cR (cR (cR (cR (cf Try.f5))))))))))))) (xs x0 0 (fun (env : Env) (h : Hp) => s5a9 rec n (env 3) (env 9) (env 10) h)) kk) (m + 1) = D5 rec n (cL (cL (cR (cL (cR (cR (cR (cR (cR (cR (cR (cR (cf Try.f5))))))))))))) (xs x0 0 (fun (env : Env) (h : Hp) => s5a9 rec n (env 3) (env 9) (env 10) h)) (loopN (fun kk => D5 rec n (cL (cL (cR (cL (cR (cR (cR (cR (cR (cR (cR (cR (cf Try.f5))))))))))))) (xs x0 0 (fun (env : Env) (h : Hp) => s5a9 rec n (env 3) (env 9) (env 10) h)) kk) m)).trans ?_
    rw [ih]
    exact (s5a11be rec n (s5a11l rec n m)).trans (by kernel_rfl)

theorem s5a11e (rec : FuncId → List DV → Hp → Res) (n : Nat) : D5 rec n (cL (cR (cL (cR (cR (cR (cR (cR (cR (cR (cR (cf Try.f5)))))))))))) (xs x0 0 (fun (env : Env) (h : Hp) => s5a9 rec n (env 3) (env 9) (env 10) h)) (fun (env : Env) (h : Hp) => s5a9 rec n (env 3) (env 9) (env 10) h) = (fun (env : Env) (h : Hp) => s5a11 rec n (env 3) (env 6) (env 9) (env 10) (env 11) h) :=
  (by kernel_rfl : D5 rec n (cL (cR (cL (cR (cR (cR (cR (cR (cR (cR (cR (cf Try.f5)))))))))))) (xs x0 0 (fun (env : Env) (h : Hp) => s5a9 rec n (env 3) (env 9) (env 10) h)) (fun (env : Env) (h : Hp) => s5a9 rec n (env 3) (env 9) (env 10) h) = loopN (fun kk => D5 rec n (cL (cL (cR (cL (cR (cR (cR (cR (cR (cR (cR (cR (cf Try.f5))))))))))))) (xs x0 0 (fun (env : Env) (h : Hp) => s5a9 rec n (env 3) (env 9) (env 10) h)) kk) n).trans ((s5a11le rec n n).trans (by kernel_rfl))

theorem s5a10e (rec : FuncId → List DV → Hp → Res) (n : Nat) : D5 rec n (cR (cL (cR (cR (cR (cR (cR (cR (cR (cR (cf Try.f5))))))))))) x0 (fun (env : Env) (h : Hp) => s5a9 rec n (env 3) (env 9) (env 10) h) = (fun (env : Env) (h : Hp) => s5a10 rec n (env 3) (env 6) (env 9) (env 10) (env 11) h) :=
  (by kernel_rfl : D5 rec n (cR (cL (cR (cR (cR (cR (cR (cR (cR (cR (cf Try.f5))))))))))) x0 (fun (env : Env) (h : Hp) => s5a9 rec n (env 3) (env 9) (env 10) h) = D5 rec n (cL (cR (cL (cR (cR (cR (cR (cR (cR (cR (cR (cf Try.f5)))))))))))) (xs x0 0 (fun (env : Env) (h : Hp) => s5a9 rec n (env 3) (env 9) (env 10) h)) (fun (env : Env) (h : Hp) => s5a9 rec n (env 3) (env 9) (env 10) h)).trans
  ((s5a11e rec n).trans (by kernel_rfl))

theorem s5a8p5 (rec : FuncId → List DV → Hp → Res) (n : Nat) : D5 rec n (cR (cR (cR (cR (cR (cR (cR (cR (cf Try.f5))))))))) x0 (retK CF Try.f5) = D5 rec n (cL (cR (cR (cR (cR (cR (cR (cR (cR (cf Try.f5)))))))))) x0 (fun (env : Env) (h : Hp) => s5a9 rec n (env 3) (env 9) (env 10) h) :=
  congrArg (fun k => D5 rec n (cL (cR (cR (cR (cR (cR (cR (cR (cR (cf Try.f5)))))))))) x0 k) (s5a9e rec n)

theorem s5a8p6 (rec : FuncId → List DV → Hp → Res) (n : Nat) : D5 rec n (cL (cR (cR (cR (cR (cR (cR (cR (cR (cf Try.f5)))))))))) x0 (fun (env : Env) (h : Hp) => s5a9 rec n (env 3) (env 9) (env 10) h) = D5 rec n (cL (cL (cR (cR (cR (cR (cR (cR (cR (cR (cf Try.f5))))))))))) x0 (fun (env : Env) (h : Hp) => s5a10 rec n (env 3) (env 6) (env 9) (env 10) (env 11) h) :=
  congrArg (fun k => D5 rec n (cL (cL (cR (cR (cR (cR (cR (cR (cR (cR (cf Try.f5))))))))))) x0 k) (s5a10e rec n)

theorem s5a8e (rec : FuncId → List DV → Hp → Res) (n : Nat) : D5 rec n (cR (cR (cR (cR (cR (cR (cR (cR (cf Try.f5))))))))) x0 (retK CF Try.f5) = (fun (env : Env) (h : Hp) => s5a8 rec n (env 3) (env 6) (env 9) (env 10) h) :=
  (s5a8p5 rec n).trans
  ((s5a8p6 rec n).trans
  ((by kernel_rfl)))

theorem s5a7p7 (rec : FuncId → List DV → Hp → Res) (n : Nat) : D5 rec n (cR (cR (cR (cR (cR (cR (cR (cf Try.f5)))))))) x0 (retK CF Try.f5) = D5 rec n (cL (cR (cR (cR (cR (cR (cR (cR (cf Try.f5))))))))) x0 (fun (env : Env) (h : Hp) => s5a8 rec n (env 3) (env 6) (env 9) (env 10) h) :=
  congrArg (fun k => D5 rec n (cL (cR (cR (cR (cR (cR (cR (cR (cf Try.f5))))))))) x0 k) (s5a8e rec n)

theorem s5a7e (rec : FuncId → List DV → Hp → Res) (n : Nat) : D5 rec n (cR (cR (cR (cR (cR (cR (cR (cf Try.f5)))))))) x0 (retK CF Try.f5) = (fun (env : Env) (h : Hp) => s5a7 rec n (env 3) (env 6) (env 9) h) :=
  (s5a7p7 rec n).trans
  ((by kernel_rfl))

theorem s5a6p8 (rec : FuncId → List DV → Hp → Res) (n : Nat) : D5 rec n (cR (cR (cR (cR (cR (cR (cf Try.f5))))))) x0 (retK CF Try.f5) = D5 rec n (cL (cR (cR (cR (cR (cR (cR (cf Try.f5)))))))) x0 (fun (env : Env) (h : Hp) => s5a7 rec n (env 3) (env 6) (env 9) h) :=
  congrArg (fun k => D5 rec n (cL (cR (cR (cR (cR (cR (cR (cf Try.f5)))))))) x0 k) (s5a7e rec n)

theorem s5a6e (rec : FuncId → List DV → Hp → Res) (n : Nat) : D5 rec n (cR (cR (cR (cR (cR (cR (cf Try.f5))))))) x0 (retK CF Try.f5) = (fun (env : Env) (h : Hp) => s5a6 rec n (env 3) (env 6) h) :=
  (s5a6p8 rec n).trans
  ((by kernel_rfl))

theorem s5a5p9 (rec : FuncId → List DV → Hp → Res) (n : Nat) : D5 rec n (cR (cR (cR (cR (cR (cf Try.f5)))))) x0 (retK CF Try.f5) = D5 rec n (cL (cR (cR (cR (cR (cR (cf Try.f5))))))) x0 (fun (env : Env) (h : Hp) => s5a6 rec n (env 3) (env 6) h) :=
  congrArg (fun k => D5 rec n (cL (cR (cR (cR (cR (cR (cf Try.f5))))))) x0 k) (s5a6e rec n)

theorem s5a5e (rec : FuncId → List DV → Hp → Res) (n : Nat) : D5 rec n (cR (cR (cR (cR (cR (cf Try.f5)))))) x0 (retK CF Try.f5) = (fun (env : Env) (h : Hp) => s5a5 rec n (env 3) (env 6) (env 8) h) :=
  (s5a5p9 rec n).trans
  ((by kernel_rfl))

theorem s5a4p10 (rec : FuncId → List DV → Hp → Res) (n : Nat) : D5 rec n (cR (cR (cR (cR (cf Try.f5))))) x0 (retK CF Try.f5) = D5 rec n (cL (cR (cR (cR (cR (cf Try.f5)))))) x0 (fun (env : Env) (h : Hp) => s5a5 rec n (env 3) (env 6) (env 8) h) :=
  congrArg (fun k => D5 rec n (cL (cR (cR (cR (cR (cf Try.f5)))))) x0 k) (s5a5e rec n)

theorem s5a4e (rec : FuncId → List DV → Hp → Res) (n : Nat) : D5 rec n (cR (cR (cR (cR (cf Try.f5))))) x0 (retK CF Try.f5) = (fun (env : Env) (h : Hp) => s5a4 rec n (env 0) (env 3) h) :=
  (s5a4p10 rec n).trans
  ((by kernel_rfl))

theorem s5a3p11 (rec : FuncId → List DV → Hp → Res) (n : Nat) : D5 rec n (cR (cR (cR (cf Try.f5)))) x0 (retK CF Try.f5) = D5 rec n (cL (cR (cR (cR (cf Try.f5))))) x0 (fun (env : Env) (h : Hp) => s5a4 rec n (env 0) (env 3) h) :=
  congrArg (fun k => D5 rec n (cL (cR (cR (cR (cf Try.f5))))) x0 k) (s5a4e rec n)

theorem s5a3e (rec : FuncId → List DV → Hp → Res) (n : Nat) : D5 rec n (cR (cR (cR (cf Try.f5)))) x0 (retK CF Try.f5) = (fun (env : Env) (h : Hp) => s5a3 rec n (env 0) (env 3) (env 5) h) :=
  (s5a3p11 rec n).trans
  ((by kernel_rfl))

theorem s5a2p12 (rec : FuncId → List DV → Hp → Res) (n : Nat) : D5 rec n (cR (cR (cf Try.f5))) x0 (retK CF Try.f5) = D5 rec n (cL (cR (cR (cf Try.f5)))) x0 (fun (env : Env) (h : Hp) => s5a3 rec n (env 0) (env 3) (env 5) h) :=
  congrArg (fun k => D5 rec n (cL (cR (cR (cf Try.f5)))) x0 k) (s5a3e rec n)

theorem s5a2q13 (rec : FuncId → List DV → Hp → Res) (n : Nat) (q0 : DV → DV → DV → Hp → Res) : D5 rec n (cL (cR (cR (cf Try.f5)))) x0 (fun (env : Env) (h : Hp) => q0 (env 0) (env 3) (env 5) h) = fun (env : Env) (h : Hp) =>
    bnd (rec 8 [(env 0)] h) fun v97 h97 =>
    bnd (pExtract 0 v97 h97) fun v98 h98 =>
    bnd (pExtract 1 v97 h98) fun v99 h99 =>
    bnd (pExtract 2 v97 h99) fun v100 h100 =>
    bnd (pNew [(.i .i64 (Int.ofNat 0)), (.s []), (.i .i64 (Int.ofNat 0)), .l0, .l0, .l0] h100) fun v101 h101 =>
    bnd (pStore 6 v101 v98 h101) fun _ h102 =>
    q0 (env 0) v101 v100 h102 := by kernel_rfl

theorem s5a2q13u (rec : FuncId → List DV → Hp → Res) (n : Nat) : (fun (env : Env) (h : Hp) =>
    bnd (rec 8 [(env 0)] h) fun v103 h103 =>
    bnd (pExtract 0 v103 h103) fun v104 h104 =>
    bnd (pExtract 1 v103 h104) fun v105 h105 =>
    bnd (pExtract 2 v103 h105) fun v106 h106 =>
    bnd (pNew [(.i .i64 (Int.ofNat 0)), (.s []), (.i .i64 (Int.ofNat 0)), .l0, .l0, .l0] h106) fun v107 h107 =>
    bnd (pStore 6 v107 v104 h107) fun _ h108 =>
    s5a3 rec n (env 0) v107 v106 h108) = (fun (env : Env) (h : Hp) => s5a2 rec n (env 0) h) := by kernel_rfl

theorem s5a2e (rec : FuncId → List DV → Hp → Res) (n : Nat) : D5 rec n (cR (cR (cf Try.f5))) x0 (retK CF Try.f5) = (fun (env : Env) (h : Hp) => s5a2 rec n (env 0) h) :=
  (s5a2p12 rec n).trans
  ((s5a2q13 rec n (s5a3 rec n)).trans (s5a2q13u rec n))

theorem s5a1p14 (rec : FuncId → List DV → Hp → Res) (n : Nat) : D5 rec n (cR (cf Try.f5)) x0 (retK CF Try.f5) = D5 rec n (cL (cR (cf Try.f5))) x0 (fun (env : Env) (h : Hp) => s5a2 rec n (env 0) h) :=
  congrArg (fun k => D5 rec n (cL (cR (cf Try.f5))) x0 k) (s5a2e rec n)

theorem s5a1e (rec : FuncId → List DV → Hp → Res) (n : Nat) : D5 rec n (cR (cf Try.f5)) x0 (retK CF Try.f5) = (fun (env : Env) (h : Hp) => s5a1 rec n (env 0) h) :=
  (s5a1p14 rec n).trans
  ((by kernel_rfl))

theorem s5p15 (rec : FuncId → List DV → Hp → Res) (n : Nat) : D5 rec n (cf Try.f5) x0 (retK CF Try.f5) = D5 rec n (cL (cf Try.f5)) x0 (fun (env : Env) (h : Hp) => s5a1 rec n (env 0) h) :=
  congrArg (fun k => D5 rec n (cL (cf Try.f5)) x0 k) (s5a1e rec n)

theorem s5m (rec : FuncId → List DV → Hp → Res) (n : Nat) : D5 rec n (cf Try.f5) x0 (retK CF Try.f5) = (fun (env : Env) (h : Hp) => s5 rec n (env 0) h) :=
  (s5p15 rec n).trans
  ((by kernel_rfl))

theorem s5ok (rec : FuncId → List DV → Hp → Res) (n : Nat) (args : List DV) (h : Hp) : bodyD CF rec n 5 args h = s5 rec n (args.getD 0 undefD) h :=
  (by kernel_rfl : bodyD CF rec n 5 args h = D5 rec n (cf Try.f5) x0 (retK CF Try.f5) (argsE args) h).trans ((congrFun (congrFun (s5m rec n) (argsE args)) h).trans (by kernel_rfl))

/-- vivariumlaw07.ParseSame -/
noncomputable def s6 (rec : FuncId → List DV → Hp → Res) (n : Nat) (x0 x1 : DV) (h0 : Hp) : Res :=
  bnd (pBox x0 h0) fun v1 h1 =>
  bnd (pBox x1 h1) fun v2 h2 =>
  bnd (pLoadA 6 v1 h2) fun v3 h3 =>
  bnd (rec 13 [v3, (.i .i64 (Int.ofNat 100))] h3) fun v4 h4 =>
  bnd (pInt .lss v4 (.i .i64 (Int.ofNat 0)) h4) fun v5 h5 =>
  bnd (gD v5 false (pLoadA 6 v2 h5) h5) fun v6 h6 =>
  bnd (gD v5 false (rec 13 [v6, (.i .i64 (Int.ofNat 100))] h6) h6) fun v7 h7 =>
  bnd (gD v5 false (pInt .lss v7 (.i .i64 (Int.ofNat 0)) h7) h7) fun v8 h8 =>
  bnd (pPick v5 (.b true) v8 h8) fun v9 h9 =>
  ifD v9 (
    bnd (rec 9 [] h9) fun v10 h10 =>
    some (v10, h10)) (
    bnd (pLoadA 6 v1 h9) fun v11 h11 =>
    bnd (pLoadA 6 v2 h11) fun v12 h12 =>
    bnd (rec 14 [v11, v12] h12) fun v13 h13 =>
    bnd (pLoadA 6 v1 h13) fun v14 h14 =>
    cnd (sameR (pLoadA 6 v1 h9) v14 && true) (
    bnd (pLoadA 6 v2 h14) fun v15 h15 =>
    cnd (sameR (pLoadA 6 v2 h9) v15 && true) (
    bnd (rec 11 [v14, v15] h15) fun v16 h16 =>
    bnd (pEq .bool true v13 v16 h16) fun v17 h17 =>
    bnd (gD v17 true (pLoadA 6 v1 h17) h17) fun v18 h18 =>
    bnd (gD v17 true (pLoadA 6 v1 h18) h18) fun v19 h19 =>
    bnd (gD v17 true (rec 14 [v18, v19] h19) h19) fun v20 h20 =>
    bnd (pPick v17 v20 (.b false) h20) fun v21 h21 =>
    bnd (gD v21 true (rec 9 [] h21) h21) fun v22 h22 =>
    bnd (pPick v21 v22 (.b false) h22) fun v23 h23 =>
    some (v23, h23))))

noncomputable def D6 (rec : FuncId → List DV → Hp → Res) (n : Nat) (c : Code) (X : Nat → K) (k : K) : K := codeD CF rec 29 n c X (retK CF Try.f6) k

theorem s6m (rec : FuncId → List DV → Hp → Res) (n : Nat) : D6 rec n (cf Try.f6) x0 (retK CF Try.f6) = (fun (env : Env) (h : Hp) => s6 rec n (env 0) (env 1) h) :=
  (by kernel_rfl)

theorem s6ok (rec : FuncId → List DV → Hp → Res) (n : Nat) (args : List DV) (h : Hp) : bodyD CF rec n 6 args h = s6 rec n (args.getD 0 undefD) (args.getD 1 undefD) h :=
  (by kernel_rfl : bodyD CF rec n 6 args h = D6 rec n (cf Try.f6) x0 (retK CF Try.f6) (argsE args) h).trans ((congrFun (congrFun (s6m rec n) (argsE args)) h).trans (by kernel_rfl))

noncomputable def s7a2 (rec : FuncId → List DV → Hp → Res) (n : Nat) (x0 : DV) (h0 : Hp) : Res :=
  bnd (rec 8 [x0] h0) fun v1 h1 =>
  bnd (pExtract 0 v1 h1) fun v2 h2 =>
  bnd (pExtract 1 v1 h2) fun v3 h3 =>
  bnd (pExtract 2 v1 h3) fun v4 h4 =>
  bnd (pNew [(.i .i64 (Int.ofNat 0)), (.s []), (.i .i64 (Int.ofNat 0)), .l0, .l0, .l0] h4) fun v5 h5 =>
  bnd (pStore 6 v5 v2 h5) fun _ h6 =>
  bnd (pStr .add (.s [102, 111, 111, 32]) x0 h6) fun v7 h7 =>
  bnd (rec 15 [v7] h7) fun v8 h8 =>
  bnd (pExtract 0 v8 h8) fun v9 h9 =>
  bnd (pExtract 1 v8 h9) fun v10 h10 =>
  bnd (pExtract 2 v8 h10) fun v11 h11 =>
  bnd (pNew [(.i .i64 (Int.ofNat 0)), (.s []), (.i .i64 (Int.ofNat 0)), .l0, .l0, .l0] h11) fun v12 h12 =>
  bnd (pStore 6 v12 v9 h12) fun _ h13 =>
  bnd (pLenS x0 h13) fun v14 h14 =>
  bnd (pInt .gtr v14 (.i .i64 (Int.ofNat 0)) h14) fun v15 h15 =>
  bnd (gD v15 true (some (v4, h15)) h15) fun v16 h16 =>
  bnd (gD v15 true (pInt .eql v16 (.i .i64 (Int.ofNat 0)) h16) h16) fun v17 h17 =>
  bnd (pPick v15 v17 (.b false) h17) fun v18 h18 =>
  bnd (gD v18 true (some (v11, h18)) h18) fun v19 h19 =>
  bnd (gD v18 true (pInt .eql v19 (.i .i64 (Int.ofNat 0)) h19) h19) fun v20 h20 =>
  bnd (pPick v18 v20 (.b false) h20) fun v21 h21 =>
  ifD v21 (
    bnd (pField 1 v5 h21) fun v22 h22 =>
    bnd (pStore 1 v22 (.s [102, 111, 111]) h22) fun _ h23 =>
    bnd (pField 2 v12 h23) fun v24 h24 =>
    bnd (pLoad1 v24 h24) fun v25 h25 =>
    bnd (pField 2 v5 h25) fun v26 h26 =>
    bnd (pStore 1 v26 v25 h26) fun _ h27 =>
    bnd (pLoadA 6 v5 h27) fun v28 h28 =>
    bnd (pLoadA 6 v12 h28) fun v29 h29 =>
    bnd (rec 11 [v28, v29] h29) fun v30 h30 =>
    bnd (gD v30 true (rec 9 [] h30) h30) fun v31 h31 =>
    bnd (pPick v30 v31 (.b false) h31) fun v32 h32 =>
    some (v32, h32)) (
    bnd (rec 16 [x0, (.b false)] h21) fun v33 h33 =>
    bnd (pExtract 0 v33 h33) fun v34 h34 =>
    bnd (pExtract 1 v33 h34) fun v35 h35 =>
    bnd (pExtract 2 v33 h35) fun v36 h36 =>
    bnd (pNew [(.i .i64 (Int.ofNat 0)), (.s []), (.i .i64 (Int.ofNat 0)), .l0, .l0, .l0] h36) fun v37 h37 =>
    bnd (pStore 6 v37 v34 h37) fun _ h38 =>
    bnd (pLoadA 6 v5 h38) fun v39 h39 =>
    bnd (pLoadA 6 v37 h39) fun v40 h40 =>
    bnd (rec 11 [v39, v40] h40) fun v41 h41 =>
    bnd (gD v41 true (some (v3, h41)) h41) fun v42 h42 =>
    bnd (gD v41 true (some (v35, h42)) h42) fun v43 h43 =>
    bnd (gD v41 true (pInt .eql v42 v43 h43) h43) fun v44 h44 =>
    bnd (pPick v41 v44 (.b false) h44) fun v45 h45 =>
    bnd (gD v45 true (some (v4, h45)) h45) fun v46 h46 =>
    bnd (gD v45 true (some (v36, h46)) h46) fun v47 h47 =>
    bnd (gD v45 true (pInt .eql v46 v47 h47) h47) fun v48 h48 =>
    bnd (pPick v45 v48 (.b false) h48) fun v49 h49 =>
    bnd (gD v49 true (some (v11, h49)) h49) fun v50 h50 =>
    bnd (gD v49 true (pInt .neq v50 (.i .i64 (Int.ofNat 0)) h50) h50) fun v51 h51 =>
    bnd (gD v49 true (some (v51, h51)) h51) fun v52 h52 =>
    bnd (gD v52 false (some (v10, h52)) h52) fun v53 h53 =>
    bnd (gD v52 false (pInt .eql v53 (.i .i64 (Int.ofNat 0)) h53) h53) fun v54 h54 =>
    bnd (gD v49 true (pPick v52 (.b true) v54 h54) h54) fun v55 h55 =>
    bnd (pPick v49 v55 (.b false) h55) fun v56 h56 =>
    bnd (gD v56 true (rec 9 [] h56) h56) fun v57 h57 =>
    bnd (pPick v56 v57 (.b false) h57) fun v58 h58 =>
    some (v58, h58))

noncomputable def s7a1 (rec : FuncId → List DV → Hp → Res) (n : Nat) (x0 : DV) (h0 : Hp) : Res :=
  bnd (pLenS x0 h0) fun v117 h117 =>
  bnd (pInt .gtr v117 (.i .i64 (Int.ofNat 300)) h117) fun v118 h118 =>
  ifD v118 (
    bnd (pSliceS x0 none (some (.i .i64 (Int.ofNat 300))) h118) fun v119 h119 =>
    s7a2 rec n v119 h119) (
    s7a2 rec n x0 h118)

/-- vivariumlaw07.ParseLike -/
noncomputable def s7 (rec : FuncId → List DV → Hp → Res) (n : Nat) (x0 : DV) (h0 : Hp) : Res :=
  s7a1 rec n x0 h0

noncomputable def D7 (rec : FuncId → List DV → Hp → Res) (n : Nat) (c : Code) (X : Nat → K) (k : K) : K := codeD CF rec 81 n c X (retK CF Try.f7) k

theorem s7a2e (rec : FuncId → List DV → Hp → Res) (n : Nat) : D7 rec n (cR (cR (cf Try.f7))) x0 (retK CF Try.f7) = (fun (env : Env) (h : Hp) => s7a2 rec n (env 0) h) :=
  (by kernel_rfl)

theorem s7a1p1 (rec : FuncId → List DV → Hp → Res) (n : Nat) : D7 rec n (cR (cf Try.f7)) x0 (retK CF Try.f7) = D7 rec n (cL (cR (cf Try.f7))) x0 (fun (env : Env) (h : Hp) => s7a2 rec n (env 0) h) :=
  congrArg (fun k => D7 rec n (cL (cR (cf Try.f7))) x0 k) (s7a2e rec n)

theorem s7a1e (rec : FuncId → List DV → Hp → Res) (n : Nat) : D7 rec n (cR (cf Try.f7)) x0 (retK CF Try.f7) = (fun (env : Env) (h : Hp) => s7a1 rec n (env 0) h) :=
  (s7a1p1 rec n).trans
  ((by kernel_rfl))

theorem s7p2 (rec : FuncId → List DV → Hp → Res) (n : Nat) : D7 rec n (cf Try.f7) x0 (retK CF Try.f7) = D7 rec n (cL (cf Try.f7)) x0 (fun (env : Env) (h : Hp) => s7a1 rec n (env 0) h) :=
  congrArg (fun k => D7 rec n (cL (cf Try.f7)) x0 k) (s7a1e rec n)

theorem s7m (rec : FuncId → List DV → Hp → Res) (n : Nat) : D7 rec n (cf Try.f7) x0 (retK CF Try.f7) = (fun (env : Env) (h : Hp) => s7 rec n (env 0) h) :=
  (s7p2 rec n).trans
  ((by kernel_rfl))

theorem s7ok (rec : FuncId → List DV → Hp → Res) (n : Nat) (args : List DV) (h : Hp) : bodyD CF rec n 7 args h = s7 rec n (args.getD 0 undefD) h :=
  (by kernel_rfl : bodyD CF rec n 7 args h = D7 rec n (cf Try.f7) x0 (retK CF Try.f7) (argsE args) h).trans ((congrFun (congrFun (s7m rec n) (argsE args)) h).trans (by kernel_rfl))

/-- parse.Doit -/
noncomputable def s8 (rec : FuncId → List DV → Hp → Res) (n : Nat) (x0 : DV) (h0 : Hp) : Res :=
  bnd (pNew [(.i .i64 (Int.ofNat 0)), (.s []), (.i .i64 (Int.ofNat 0)), .l0, .l0, .l0] h0) fun v1 h1 =>
  bnd (rec 17 [x0, (.f 18 [] [])] h1) fun v2 h2 =>
  bnd (pExtract 0 v2 h2) fun v3 h3 =>
  bnd (pExtract 1 v2 h3) fun v4 h4 =>
  bnd (pExtract 2 v2 h4) fun v5 h5 =>
  bnd (pStore 6 v1 v3 h5) fun _ h6 =>
  bnd (pLoadA 6 v1 h6) fun v7 _ =>
  some (.t [v7, v4, v5], h6)

noncomputable def D8 (rec : FuncId → List DV → Hp → Res) (n : Nat) (c : Code) (X : Nat → K) (k : K) : K := codeD CF rec 10 n c X (retK CF Try.f8) k

theorem s8m (rec : FuncId → List DV → Hp → Res) (n : Nat) : D8 rec n (cf Try.f8) x0 (retK CF Try.f8) = (fun (env : Env) (h : Hp) => s8 rec n (env 0) h) :=
  (by kernel_rfl)

theorem s8ok (rec : FuncId → List DV → Hp → Res) (n : Nat) (args : List DV) (h : Hp) : bodyD CF rec n 8 args h = s8 rec n (args.getD 0 undefD) h :=
  (by kernel_rfl : bodyD CF rec n 8 args h = D8 rec n (cf Try.f8) x0 (retK CF Try.f8) (argsE args) h).trans ((congrFun (congrFun (s8m rec n) (argsE args)) h).trans (by kernel_rfl))

/-- vivariumlaw07.lives -/
noncomputable def s9 (rec : FuncId → List DV → Hp → Res) (n : Nat) (h0 : Hp) : Res :=
  bnd (rec 8 [(.s [94, 51, 32, 43, 32, 52, 32, 102, 111, 111, 58, 32, 53, 59, 32, 98, 97, 114])] h0) fun v1 h1 =>
  bnd (pExtract 0 v1 h1) fun v2 h2 =>
  bnd (pExtract 1 v1 h2) fun v3 h3 =>
  bnd (pExtract 2 v1 h3) fun v4 h4 =>
  bnd (pNew [(.i .i64 (Int.ofNat 0)), (.s []), (.i .i64 (Int.ofNat 0)), .l0, .l0, .l0] h4) fun v5 h5 =>
  bnd (pStore 6 v5 v2 h5) fun _ h6 =>
  bnd (rec 8 [(.s [120, 32, 58, 61, 32, 91, 58, 97, 32, 124, 32, 97, 93])] h6) fun v7 h7 =>
  bnd (pExtract 0 v7 h7) fun v8 h8 =>
  bnd (pExtract 1 v7 h8) fun v9 h9 =>
  bnd (pExtract 2 v7 h9) fun v10 h10 =>
  bnd (pNew [(.i .i64 (Int.ofNat 0)), (.s []), (.i .i64 (Int.ofNat 0)), .l0, .l0, .l0] h10) fun v11 h11 =>
  bnd (pStore 6 v11 v8 h11) fun _ h12 =>
  bnd (rec 8 [(.s [40])] h12) fun v13 h13 =>
  bnd (pExtract 0 v13 h13) fun v14 h14 =>
  bnd (pExtract 1 v13 h14) fun v15 h15 =>
  bnd (pExtract 2 v13 h15) fun v16 h16 =>
  bnd (pNew [(.i .i64 (Int.ofNat 0)), (.s []), (.i .i64 (Int.ofNat 0)), .l0, .l0, .l0] h16) fun v17 h17 =>
  bnd (pStore 6 v17 v14 h17) fun _ h18 =>
  bnd (pField 5 v5 h18) fun v19 h19 =>
  bnd (pLoad1 v19 h19) fun v20 h20 =>
  bnd (pLen v20 h20) fun v21 h21 =>
  bnd (pInt .neq v21 (.i .i64 (Int.ofNat 1)) h21) fun v22 h22 =>
  bnd (gD v22 false (pField 5 v5 h22) h22) fun v23 h23 =>
  bnd (gD v22 false (pLoad1 v23 h23) h23) fun v24 h24 =>
  bnd (gD v22 false (pIndexAddr 6 v24 (.i .i64 (Int.ofNat 0)) h24) h24) fun v25 h25 =>
  bnd (gD v22 false (pField 5 v25 h25) h25) fun v26 h26 =>
  bnd (gD v22 false (pLoad1 v26 h26) h26) fun v27 h27 =>
  bnd (gD v22 false (pLen v27 h27) h27) fun v28 h28 =>
  bnd (gD v22 false (pInt .neq v28 (.i .i64 (Int.ofNat 1)) h28) h28) fun v29 h29 =>
  bnd (pPick v22 (.b true) v29 h29) fun v30 h30 =>
  bnd (gD v30 false (pField 5 v11 h30) h30) fun v31 h31 =>
  bnd (gD v30 false (pLoad1 v31 h31) h31) fun v32 h32 =>
  bnd (gD v30 false (pLen v32 h32) h32) fun v33 h33 =>
  bnd (gD v30 false (pInt .neq v33 (.i .i64 (Int.ofNat 1)) h33) h33) fun v34 h34 =>
  bnd (pPick v30 (.b true) v34 h34) fun v35 h35 =>
  ifD v35 (
    some ((.b false), h35)) (
    bnd (pField 5 v5 h35) fun v36 h36 =>
    bnd (pLoad1 v36 h36) fun v37 h37 =>
    bnd (pIndexAddr 6 v37 (.i .i64 (Int.ofNat 0)) h37) fun v38 h38 =>
    bnd (pField 5 v38 h38) fun v39 h39 =>
    bnd (pLoad1 v39 h39) fun v40 h40 =>
    bnd (pIndexAddr 6 v40 (.i .i64 (Int.ofNat 0)) h40) fun v41 h41 =>
    bnd (pLoadA 6 v41 h41) fun v42 h42 =>
    bnd (pNew [(.i .i64 (Int.ofNat 0)), (.s []), (.i .i64 (Int.ofNat 0)), .l0, .l0, .l0] h42) fun v43 h43 =>
    bnd (pStore 6 v43 v42 h43) fun _ h44 =>
    bnd (pInt .eql v4 (.i .i64 (Int.ofNat 0)) h44) fun v45 h45 =>
    bnd (gD v45 true (pField 0 v43 h45) h45) fun v46 h46 =>
    bnd (gD v45 true (pLoad1 v46 h46) h46) fun v47 h47 =>
    bnd (gD v45 true (pInt .eql v47 (.i .i64 (Int.ofNat 8)) h47) h47) fun v48 h48 =>
    bnd (pPick v45 v48 (.b false) h48) fun v49 h49 =>
    bnd (gD v49 true (pField 5 v43 h49) h49) fun v50 h50 =>
    bnd (gD v49 true (pLoad1 v50 h50) h50) fun v51 h51 =>
    bnd (gD v49 true (pLen v51 h51) h51) fun v52 h52 =>
    bnd (gD v49 true (pInt .eql v52 (.i .i64 (Int.ofNat 3)) h52) h52) fun v53 h53 =>
    bnd (pPick v49 v53 (.b false) h53) fun v54 h54 =>
    bnd (gD v54 true (pField 5 v43 h54) h54) fun v55 h55 =>
    bnd (gD v54 true (pLoad1 v55 h55) h55) fun v56 h56 =>
    bnd (gD v54 true (pIndexAddr 6 v56 (.i .i64 (Int.ofNat 0)) h56) h56) fun v57 h57 =>
    bnd (gD v54 true (pField 1 v57 h57) h57) fun v58 h58 =>
    bnd (gD v54 true (pLoad1 v58 h58) h58) fun v59 h59 =>
    bnd (gD v54 true (pStr .eql v59 (.s [43]) h59) h59) fun v60 h60 =>
    bnd (pPick v54 v60 (.b false) h60) fun v61 h61 =>
    bnd (gD v61 true (pField 5 v43 h61) h61) fun v62 h62 =>
    bnd (gD v61 true (pLoad1 v62 h62) h62) fun v63 h63 =>
    bnd (gD v61 true (pIndexAddr 6 v63 (.i .i64 (Int.ofNat 1)) h63) h63) fun v64 h64 =>
    bnd (gD v61 true (pField 1 v64 h64) h64) fun v65 h65 =>
    bnd (gD v61 true (pLoad1 v65 h65) h65) fun v66 h66 =>
    bnd (gD v61 true (pStr .eql v66 (.s [102, 111, 111, 58]) h66) h66) fun v67 h67 =>
    bnd (pPick v61 v67 (.b false) h67) fun v68 h68 =>
    bnd (gD v68 true (pField 5 v43 h68) h68) fun v69 h69 =>
    bnd (gD v68 true (pLoad1 v69 h69) h69) fun v70 h70 =>
    bnd (gD v68 true (pIndexAddr 6 v70 (.i .i64 (Int.ofNat 2)) h70) h70) fun v71 h71 =>
    bnd (gD v68 true (pField 1 v71 h71) h71) fun v72 h72 =>
    bnd (gD v68 true (pLoad1 v72 h72) h72) fun v73 h73 =>
    bnd (gD v68 true (pStr .eql v73 (.s [98, 97, 114]) h73) h73) fun v74 h74 =>
    bnd (pPick v68 v74 (.b false) h74) fun v75 h75 =>
    bnd (gD v75 true (some (v10, h75)) h75) fun v76 h76 =>
    bnd (gD v75 true (pInt .eql v76 (.i .i64 (Int.ofNat 0)) h76) h76) fun v77 h77 =>
    bnd (pPick v75 v77 (.b false) h77) fun v78 h78 =>
    bnd (gD v78 true (pField 5 v11 h78) h78) fun v79 h79 =>
    bnd (gD v78 true (pLoad1 v79 h79) h79) fun v80 h80 =>
    bnd (gD v78 true (pIndexAddr 6 v80 (.i .i64 (Int.ofNat 0)) h80) h80) fun v81 h81 =>
    bnd (gD v78 true (pField 1 v81 h81) h81) fun v82 h82 =>
    bnd (gD v78 true (pLoad1 v82 h82) h82) fun v83 h83 =>
    bnd (gD v78 true (pStr .eql v83 (.s [120]) h83) h83) fun v84 h84 =>
    bnd (pPick v78 v84 (.b false) h84) fun v85 h85 =>
    bnd (gD v85 true (some (v15, h85)) h85) fun v86 h86 =>
    bnd (gD v85 true (pInt .eql v86 (.i .i64 (Int.ofNat 1)) h86) h86) fun v87 h87 =>
    bnd (pPick v85 v87 (.b false) h87) fun v88 h88 =>
    bnd (gD v88 true (some (v16, h88)) h88) fun v89 h89 =>
    bnd (gD v88 true (pInt .eql v89 (.i .i64 (Int.ofNat 13)) h89) h89) fun v90 h90 =>
    bnd (pPick v88 v90 (.b false) h90) fun v91 h91 =>
    some (v91, h91))

noncomputable def D9 (rec : FuncId → List DV → Hp → Res) (n : Nat) (c : Code) (X : Nat → K) (k : K) : K := codeD CF rec 109 n c X (retK CF Try.f9) k

theorem s9m (rec : FuncId → List DV → Hp → Res) (n : Nat) : D9 rec n (cf Try.f9) x0 (retK CF Try.f9) = (fun (env : Env) (h : Hp) => s9 rec n h) :=
  (by kernel_rfl)

theorem s9ok (rec : FuncId → List DV → Hp → Res) (n : Nat) (args : List DV) (h : Hp) : bodyD CF rec n 9 args h = s9 rec n h :=
  (by kernel_rfl : bodyD CF rec n 9 args h = D9 rec n (cf Try.f9) x0 (retK CF Try.f9) (argsE args) h).trans ((congrFun (congrFun (s9m rec n) (argsE args)) h).trans (by kernel_rfl))

noncomputable def s10a5b (rec : FuncId → List DV → Hp → Res) (n : Nat) (kk5 : DV → DV → DV → Hp → Res) (x0 x5 x6 : DV) (h0 : Hp) : Res :=
    bnd (rec 19 [x0, x6] h0) fun v1 h1 =>
    bnd (pExtract 0 v1 h1) fun v2 h2 =>
    bnd (pExtract 1 v1 h2) fun v3 h3 =>
    ifD v3 (
      some (.t [.l0, v2, (.i .i64 (Int.ofNat 11))], h3)) (
      bnd (pLenS x0 h3) fun v4 h4 =>
      bnd (pInt .eql v2 v4 h4) fun v5 h5 =>
      ifD v5 (
        bnd (pBuild [(.i .i64 (Int.ofNat 0)), (.s []), (.i .i64 (Int.ofNat 0)), (.i .i64 (Int.ofNat 0))] [(3, 1, v2)] h5) fun v6 h6 =>
        bnd (pBuildSlice [(.i .i64 (Int.ofNat 0)), (.s []), (.i .i64 (Int.ofNat 0)), (.i .i64 (Int.ofNat 0))] 1 [(0, 4, v6)] h6) fun v7 h7 =>
        bnd (pAppend 4 40 x5 v7 h7) fun v8 h8 =>
        some (.t [v8, (.i .i64 (Int.ofNat 0)), (.i .i64 (Int.ofNat 0))], h8)) (
        bnd (rec 20 [x0, v2] h5) fun v9 h9 =>
        bnd (pExtract 0 v9 h9) fun v10 h10 =>
        bnd (pExtract 1 v9 h10) fun v11 h11 =>
        bnd (pExtract 2 v9 h11) fun v12 h12 =>
        bnd (pNew [(.i .i64 (Int.ofNat 0)), (.s []), (.i .i64 (Int.ofNat 0)), (.i .i64 (Int.ofNat 0))] h12) fun v13 h13 =>
        bnd (pStore 4 v13 v10 h13) fun _ h14 =>
        bnd (pInt .neq v12 (.i .i64 (Int.ofNat 0)) h14) fun v15 h15 =>
        ifD v15 (
          some (.t [.l0, v2, v12], h15)) (
          bnd (pLoadA 4 v13 h15) fun v16 h16 =>
          bnd (pBuildSlice [(.i .i64 (Int.ofNat 0)), (.s []), (.i .i64 (Int.ofNat 0)), (.i .i64 (Int.ofNat 0))] 1 [(0, 4, v16)] h16) fun v17 h17 =>
          bnd (pAppend 4 40 x5 v17 h17) fun v18 h18 =>
          kk5 x0 v18 v11 h18)))

noncomputable def s10a5l (rec : FuncId → List DV → Hp → Res) (n : Nat) (m : Nat) : DV → DV → DV → Hp → Res :=
  Nat.rec (motive := fun _ => DV → DV → DV → Hp → Res) (fun _ _ _ _ => none) (fun _ ih => s10a5b rec n ih) m

noncomputable def s10a5 (rec : FuncId → List DV → Hp → Res) (n : Nat) : DV → DV → DV → Hp → Res := s10a5l rec n n

noncomputable def s10a4 (rec : FuncId → List DV → Hp → Res) (n : Nat) (x0 x5 x6 : DV) (h0 : Hp) : Res :=
  s10a5 rec n x0 x5 x6 h0

noncomputable def s10a3 (rec : FuncId → List DV → Hp → Res) (n : Nat) (x0 x5 : DV) (h0 : Hp) : Res :=
  s10a4 rec n x0 x5 (.i .i64 (Int.ofNat 0)) h0

noncomputable def s10a2 (rec : FuncId → List DV → Hp → Res) (n : Nat) (x0 : DV) (h0 : Hp) : Res :=
  s10a3 rec n x0 .l0 h0

noncomputable def s10a1 (rec : FuncId → List DV → Hp → Res) (n : Nat) (x0 : DV) (h0 : Hp) : Res :=
  bnd (pLenS x0 h0) fun v37 h37 =>
  bnd (pInt .gtr v37 (.i .i64 (Int.ofNat 2000)) h37) fun v38 h38 =>
  ifD v38 (
    some (.t [.l0, (.i .i64 (Int.ofNat 0)), (.i .i64 (Int.ofNat 12))], h38)) (
    s10a2 rec n x0 h38)

/-- vivariumref06.Tokens -/
noncomputable def s10 (rec : FuncId → List DV → Hp → Res) (n : Nat) (x0 : DV) (h0 : Hp) : Res :=
  s10a1 rec n x0 h0

noncomputable def D10 (rec : FuncId → List DV → Hp → Res) (n : Nat) (c : Code) (X : Nat → K) (k : K) : K := codeD CF rec 48 n c X (retK CF Try.f10) k

theorem s10a5be (rec : FuncId → List DV → Hp → Res) (n : Nat) (kk5 : DV → DV → DV → Hp → Res) : D10 rec n (cL (cL (cR (cR (cR (cR (cf Try.f10))))))) (xs x0 0 (retK CF Try.f10)) (fun (env : Env) (h : Hp) => kk5 (env 0) (env 5) (env 6) h) = (fun (env : Env) (h : Hp) => s10a5b rec n kk5 (env 0) (env 5) (env 6) h) :=
  (by kernel_rfl)

theorem s10a5le (rec : FuncId → List DV → Hp → Res) (n : Nat) (m : Nat) : loopN (fun kk => D10 rec n (cL (cL (cR (cR (cR (cR (cf Try.f10))))))) (xs x0 0 (retK CF Try.f10)) kk) m = (fun (env : Env) (h : Hp) => s10a5l rec n m (env 0) (env 5) (env 6) h) := by
  induction m with
  | zero => exact (by kernel_rfl : loopN (fun kk => D10 rec n (cL (cL (cR (cR (cR (cR (cf Try.f10))))))) (xs x0 0 (retK CF Try.f10)) kk) 0 = (fun (env : Env) (h : Hp) => s10a5l rec n 0 (env 0) (env 5) (env 6) h))
  | succ m ih =>
    refine (by kernel_rfl : loopN (fun kk => D10 rec n (cL (cL (cR (cR (cR (cR (cf Try.f10))))))) (xs x0 0 (retK CF Try.f10)) kk) (m + 1) = D10 rec n (cL (cL (cR (cR (cR (cR (cf Try.f10))))))) (xs x0 0 (retK CF Try.f10)) (loopN (fun kk => D10 rec n (cL (cL (cR (cR (cR (cR (cf Try.f10))))))) (xs x0 0 (retK CF Try.f10)) kk) m)).trans ?_
    rw [ih]
    exact (s10a5be rec n (s10a5l rec n m)).trans (by kernel_rfl)

theorem s10a5e (rec : FuncId → List DV → Hp → Res) (n : Nat) : D10 rec n (cL (cR (cR (cR (cR (cf Try.f10)))))) (xs x0 0 (retK CF Try.f10)) (retK CF Try.f10) = (fun (env : Env) (h : Hp) => s10a5 rec n (env 0) (env 5) (env 6) h) :=
  (by kernel_rfl : D10 rec n (cL (cR (cR (cR (cR (cf Try.f10)))))) (xs x0 0 (retK CF Try.f10)) (retK CF Try.f10) = loopN (fun kk => D10 rec n (cL (cL (cR (cR (cR (cR (cf Try.f10))))))) (xs x0 0 (retK CF Try.f10)) kk) n).trans ((s10a5le rec n n).trans (by kernel_rfl))

theorem s10a4e (rec : FuncId → List DV → Hp → Res) (n : Nat) : D10 rec n (cR (cR (cR (cR (cf Try.f10))))) x0 (retK CF Try.f10) = (fun (env : Env) (h : Hp) => s10a4 rec n (env 0) (env 5) (env 6) h) :=
  (by kernel_rfl : D10 rec n (cR (cR (cR (cR (cf Try.f10))))) x0 (retK CF Try.f10) = D10 rec n (cL (cR (cR (cR (cR (cf Try.f10)))))) (xs x0 0 (retK CF Try.f10)) (retK CF Try.f10)).trans
  ((s10a5e rec n).trans (by kernel_rfl))

theorem s10a3p1 (rec : FuncId → List DV → Hp → Res) (n : Nat) : D10 rec n (cR (cR (cR (cf Try.f10)))) x0 (retK CF Try.f10) = D10 rec n (cL (cR (cR (cR (cf Try.f10))))) x0 (fun (env : Env) (h : Hp) => s10a4 rec n (env 0) (env 5) (env 6) h) :=
  congrArg (fun k => D10 rec n (cL (cR (cR (cR (cf Try.f10))))) x0 k) (s10a4e rec n)

theorem s10a3e (rec : FuncId → List DV → Hp → Res) (n : Nat) : D10 rec n (cR (cR (cR (cf Try.f10)))) x0 (retK CF Try.f10) = (fun (env : Env) (h : Hp) => s10a3 rec n (env 0) (env 5) h) :=
  (s10a3p1 rec n).trans
  ((by kernel_rfl))

theorem s10a2p2 (rec : FuncId → List DV → Hp → Res) (n : Nat) : D10 rec n (cR (cR (cf Try.f10))) x0 (retK CF Try.f10) = D10 rec n (cL (cR (cR (cf Try.f10)))) x0 (fun (env : Env) (h : Hp) => s10a3 rec n (env 0) (env 5) h) :=
  congrArg (fun k => D10 rec n (cL (cR (cR (cf Try.f10)))) x0 k) (s10a3e rec n)

theorem s10a2e (rec : FuncId → List DV → Hp → Res) (n : Nat) : D10 rec n (cR (cR (cf Try.f10))) x0 (retK CF Try.f10) = (fun (env : Env) (h : Hp) => s10a2 rec n (env 0) h) :=
  (s10a2p2 rec n).trans
  ((by kernel_rfl))

theorem s10a1p3 (rec : FuncId → List DV → Hp → Res) (n : Nat) : D10 rec n (cR (cf Try.f10)) x0 (retK CF Try.f10) = D10 rec n (cL (cR (cf Try.f10))) x0 (fun (env : Env) (h : Hp) => s10a2 rec n (env 0) h) :=
  congrArg (fun k => D10 rec n (cL (cR (cf Try.f10))) x0 k) (s10a2e rec n)

theorem s10a1e (rec : FuncId → List DV → Hp → Res) (n : Nat) : D10 rec n (cR (cf Try.f10)) x0 (retK CF Try.f10) = (fun (env : Env) (h : Hp) => s10a1 rec n (env 0) h) :=
  (s10a1p3 rec n).trans
  ((by kernel_rfl))

theorem s10p4 (rec : FuncId → List DV → Hp → Res) (n : Nat) : D10 rec n (cf Try.f10) x0 (retK CF Try.f10) = D10 rec n (cL (cf Try.f10)) x0 (fun (env : Env) (h : Hp) => s10a1 rec n (env 0) h) :=
  congrArg (fun k => D10 rec n (cL (cf Try.f10)) x0 k) (s10a1e rec n)

theorem s10m (rec : FuncId → List DV → Hp → Res) (n : Nat) : D10 rec n (cf Try.f10) x0 (retK CF Try.f10) = (fun (env : Env) (h : Hp) => s10 rec n (env 0) h) :=
  (s10p4 rec n).trans
  ((by kernel_rfl))

theorem s10ok (rec : FuncId → List DV → Hp → Res) (n : Nat) (args : List DV) (h : Hp) : bodyD CF rec n 10 args h = s10 rec n (args.getD 0 undefD) h :=
  (by kernel_rfl : bodyD CF rec n 10 args h = D10 rec n (cf Try.f10) x0 (retK CF Try.f10) (argsE args) h).trans ((congrFun (congrFun (s10m rec n) (argsE args)) h).trans (by kernel_rfl))

noncomputable def s11a5 (rec : FuncId → List DV → Hp → Res) (n : Nat) (h0 : Hp) : Res :=
  some ((.b true), h0)

noncomputable def s11a7b (rec : FuncId → List DV → Hp → Res) (n : Nat) (kk7 : DV → DV → DV → Hp → Res) (x2 x3 x7 : DV) (h0 : Hp) : Res :=
    bnd (pField 5 x2 h0) fun v1 h1 =>
    bnd (pLoad1 v1 h1) fun v2 h2 =>
    bnd (pLen v2 h2) fun v3 h3 =>
    bnd (pInt .lss x7 v3 h3) fun v4 h4 =>
    ifD v4 (
      bnd (pField 5 x2 h4) fun v5 h5 =>
      bnd (pLoad1 v5 h5) fun v6 h6 =>
      bnd (pIndexAddr 6 v6 x7 h6) fun v7 h7 =>
      bnd (pLoadA 6 v7 h7) fun v8 h8 =>
      bnd (pField 5 x3 h8) fun v9 h9 =>
      bnd (pLoad1 v9 h9) fun v10 h10 =>
      bnd (pIndexAddr 6 v10 x7 h10) fun v11 h11 =>
      bnd (pLoadA 6 v11 h11) fun v12 h12 =>
      bnd (rec 11 [v8, v12] h12) fun v13 h13 =>
      bnd (pUn .not v13 h13) fun v14 h14 =>
      ifD v14 (
        some ((.b false), h14)) (
        bnd (pInt .add x7 (.i .i64 (Int.ofNat 1)) h14) fun v15 h15 =>
        kk7 x2 x3 v15 h15)) (
      s11a5 rec n h4)

noncomputable def s11a7l (rec : FuncId → List DV → Hp → Res) (n : Nat) (m : Nat) : DV → DV → DV → Hp → Res :=
  Nat.rec (motive := fun _ => DV → DV → DV → Hp → Res) (fun _ _ _ _ => none) (fun _ ih => s11a7b rec n ih) m

noncomputable def s11a7 (rec : FuncId → List DV → Hp → Res) (n : Nat) : DV → DV → DV → Hp → Res := s11a7l rec n n

noncomputable def s11a6 (rec : FuncId → List DV → Hp → Res) (n : Nat) (x2 x3 x7 : DV) (h0 : Hp) : Res :=
  s11a7 rec n x2 x3 x7 h0

noncomputable def s11a4 (rec : FuncId → List DV → Hp → Res) (n : Nat) (x2 x3 : DV) (h0 : Hp) : Res :=
  s11a6 rec n x2 x3 (.i .i64 (Int.ofNat 0)) h0

noncomputable def s11a3 (rec : FuncId → List DV → Hp → Res) (n : Nat) (x2 x3 x5 x6 : DV) (h0 : Hp) : Res :=
  bnd (pUn .not x5 h0) fun v31 h31 =>
  bnd (gD v31 false (some (x6, h31)) h31) fun v32 h32 =>
  bnd (gD v31 false (pUn .not v32 h32) h32) fun v33 h33 =>
  bnd (pPick v31 (.b true) v33 h33) fun v34 h34 =>
  bnd (gD v34 false (pField 0 x2 h34) h34) fun v35 h35 =>
  bnd (gD v34 false (pLoad1 v35 h35) h35) fun v36 h36 =>
  bnd (gD v34 false (pField 0 x3 h36) h36) fun v37 h37 =>
  bnd (gD v34 false (pLoad1 v37 h37) h37) fun v38 h38 =>
  bnd (gD v34 false (pInt .neq v36 v38 h38) h38) fun v39 h39 =>
  bnd (pPick v34 (.b true) v39 h39) fun v40 h40 =>
  bnd (gD v40 false (pField 1 x2 h40) h40) fun v41 h41 =>
  bnd (gD v40 false (pLoad1 v41 h41) h41) fun v42 h42 =>
  bnd (gD v40 false (pField 1 x3 h42) h42) fun v43 h43 =>
  bnd (gD v40 false (pLoad1 v43 h43) h43) fun v44 h44 =>
  bnd (gD v40 false (pStr .neq v42 v44 h44) h44) fun v45 h45 =>
  bnd (pPick v40 (.b true) v45 h45) fun v46 h46 =>
  bnd (gD v46 false (pField 2 x2 h46) h46) fun v47 h47 =>
  bnd (gD v46 false (pLoad1 v47 h47) h47) fun v48 h48 =>
  bnd (gD v46 false (pField 2 x3 h48) h48) fun v49 h49 =>
  bnd (gD v46 false (pLoad1 v49 h49) h49) fun v50 h50 =>
  bnd (gD v46 false (pInt .neq v48 v50 h50) h50) fun v51 h51 =>
  bnd (pPick v46 (.b true) v51 h51) fun v52 h52 =>
  bnd (gD v52 false (pField 5 x2 h52) h52) fun v53 h53 =>
  bnd (gD v52 false (pLoad1 v53 h53) h53) fun v54 h54 =>
  bnd (gD v52 false (pLen v54 h54) h54) fun v55 h55 =>
  bnd (gD v52 false (pField 5 x3 h55) h55) fun v56 h56 =>
  bnd (gD v52 false (pLoad1 v56 h56) h56) fun v57 h57 =>
  bnd (gD v52 false (pLen v57 h57) h57) fun v58 h58 =>
  bnd (gD v52 false (pInt .neq v55 v58 h58) h58) fun v59 h59 =>
  bnd (pPick v52 (.b true) v59 h59) fun v60 h60 =>
  ifD v60 (
    some ((.b false), h60)) (
    s11a4 rec n x2 x3 h60)

noncomputable def s11a2 (rec : FuncId → List DV → Hp → Res) (n : Nat) (x2 x3 x5 : DV) (h0 : Hp) : Res :=
  bnd (pField 4 x2 h0) fun v91 h91 =>
  bnd (pLoad1 v91 h91) fun v92 h92 =>
  bnd (pField 4 x3 h92) fun v93 h93 =>
  bnd (pLoad1 v93 h93) fun v94 h94 =>
  bnd (rec 21 [v92, v94] h94) fun v95 h95 =>
  s11a3 rec n x2 x3 x5 v95 h95

noncomputable def s11a1 (rec : FuncId → List DV → Hp → Res) (n : Nat) (x2 x3 : DV) (h0 : Hp) : Res :=
  bnd (pField 3 x2 h0) fun v101 h101 =>
  bnd (pLoad1 v101 h101) fun v102 h102 =>
  bnd (pField 3 x3 h102) fun v103 h103 =>
  bnd (pLoad1 v103 h103) fun v104 h104 =>
  bnd (rec 21 [v102, v104] h104) fun v105 h105 =>
  s11a2 rec n x2 x3 v105 h105

/-- vivariumref07.Same -/
noncomputable def s11 (rec : FuncId → List DV → Hp → Res) (n : Nat) (x0 x1 : DV) (h0 : Hp) : Res :=
  bnd (pBox x0 h0) fun v111 h111 =>
  bnd (pBox x1 h111) fun v112 h112 =>
  s11a1 rec n v111 v112 h112

noncomputable def D11 (rec : FuncId → List DV → Hp → Res) (n : Nat) (c : Code) (X : Nat → K) (k : K) : K := codeD CF rec 75 n c X (retK CF Try.f11) k

theorem s11a5e (rec : FuncId → List DV → Hp → Res) (n : Nat) : D11 rec n (cR (cR (cR (cR (cR (cf Try.f11)))))) x0 (retK CF Try.f11) = (fun (env : Env) (h : Hp) => s11a5 rec n h) :=
  (by kernel_rfl)

theorem s11a7be (rec : FuncId → List DV → Hp → Res) (n : Nat) (kk7 : DV → DV → DV → Hp → Res) : D11 rec n (cL (cL (cR (cL (cR (cR (cR (cR (cf Try.f11))))))))) (xs x0 0 (fun (env : Env) (h : Hp) => s11a5 rec n h)) (fun (env : Env) (h : Hp) => kk7 (env 2) (env 3) (env 7) h) = (fun (env : Env) (h : Hp) => s11a7b rec n kk7 (env 2) (env 3) (env 7) h) :=
  (by kernel_rfl)

theorem s11a7le (rec : FuncId → List DV → Hp → Res) (n : Nat) (m : Nat) : loopN (fun kk => D11 rec n (cL (cL (cR (cL (cR (cR (cR (cR (cf Try.f11))))))))) (xs x0 0 (fun (env : Env) (h : Hp) => s11a5 rec n h)) kk) m = (fun (env : Env) (h : Hp) => s11a7l rec n m (env 2) (env 3) (env 7) h) := by
  induction m with
  | zero => exact (by kernel_rfl : loopN (fun kk => D11 rec n (cL (cL (cR (cL (cR (cR (cR (cR (cf Try.f11))))))))) (xs x0 0 (fun (env : Env) (h : Hp) => s11a5 rec n h)) kk) 0 = (fun (env : Env) (h : Hp) => s11a7l rec n 0 (env 2) (env 3) (env 7) h))
  | succ m ih =>
    refine (by kernel_rfl : loopN (fun kk => D11 rec n (cL (cL (cR (cL (cR (cR (cR (cR (cf Try.f11))))))))) (xs x0 0 (fun (env : Env) (h : Hp) => s11a5 rec n h)) kk) (m + 1) = D11 rec n (cL (cL (cR (cL (cR (cR (cR (cR (cf Try.f11))))))))) (xs x0 0 (fun (env : Env) (h : Hp) => s11a5 rec n h)) (loopN (fun kk => D11 rec n (cL (cL (cR (cL (cR (cR (cR (cR (cf Try.f11))))))))) (xs x0 0 (fun (env : Env) (h : Hp) => s11a5 rec n h)) kk) m)).trans ?_
    rw [ih]
    exact (s11a7be rec n (s11a7l rec n m)).trans (by kernel_rfl)

theorem s11a7e (rec : FuncId → List DV → Hp → Res) (n : Nat) : D11 rec n (cL (cR (cL (cR (cR (cR (cR (cf Try.f11)))))))) (xs x0 0 (fun (env : Env) (h : Hp) => s11a5 rec n h)) (fun (env : Env) (h : Hp) => s11a5 rec n h) = (fun (env : Env) (h : Hp) => s11a7 rec n (env 2) (env 3) (env 7) h) :=
  (by kernel_rfl : D11 rec n (cL (cR (cL (cR (cR (cR (cR (cf Try.f11)))))))) (xs x0 0 (fun (env : Env) (h : Hp) => s11a5 rec n h)) (fun (env : Env) (h : Hp) => s11a5 rec n h) = loopN (fun kk => D11 rec n (cL (cL (cR (cL (cR (cR (cR (cR (cf Try.f11))))))))) (xs x0 0 (fun (env : Env) (h : Hp) => s11a5 rec n h)) kk) n).trans ((s11a7le rec n n).trans (by kernel_rfl))

theorem s11a6e (rec : FuncId → List DV → Hp → Res) (n : Nat) : D11 rec n (cR (cL (cR (cR (cR (cR (cf Try.f11))))))) x0 (fun (env : Env) (h : Hp) => s11a5 rec n h) = (fun (env : Env) (h : Hp) => s11a6 rec n (env 2) (env 3) (env 7) h) :=
  (by kernel_rfl : D11 rec n (cR (cL (cR (cR (cR (cR (cf Try.f11))))))) x0 (fun (env : Env) (h : Hp) => s11a5 rec n h) = D11 rec n (cL (cR (cL (cR (cR (cR (cR (cf Try.f11)))))))) (xs x0 0 (fun (env : Env) (h : Hp) => s11a5 rec n h)) (fun (env : Env) (h : Hp) => s11a5 rec n h)).trans
  ((s11a7e rec n).trans (by kernel_rfl))

theorem s11a4p1 (rec : FuncId → List DV → Hp → Res) (n : Nat) : D11 rec n (cR (cR (cR (cR (cf Try.f11))))) x0 (retK CF Try.f11) = D11 rec n (cL (cR (cR (cR (cR (cf Try.f11)))))) x0 (fun (env : Env) (h : Hp) => s11a5 rec n h) :=
  congrArg (fun k => D11 rec n (cL (cR (cR (cR (cR (cf Try.f11)))))) x0 k) (s11a5e rec n)

theorem s11a4p2 (rec : FuncId → List DV → Hp → Res) (n : Nat) : D11 rec n (cL (cR (cR (cR (cR (cf Try.f11)))))) x0 (fun (env : Env) (h : Hp) => s11a5 rec n h) = D11 rec n (cL (cL (cR (cR (cR (cR (cf Try.f11))))))) x0 (fun (env : Env) (h : Hp) => s11a6 rec n (env 2) (env 3) (env 7) h) :=
  congrArg (fun k => D11 rec n (cL (cL (cR (cR (cR (cR (cf Try.f11))))))) x0 k) (s11a6e rec n)

theorem s11a4e (rec : FuncId → List DV → Hp → Res) (n : Nat) : D11 rec n (cR (cR (cR (cR (cf Try.f11))))) x0 (retK CF Try.f11) = (fun (env : Env) (h : Hp) => s11a4 rec n (env 2) (env 3) h) :=
  (s11a4p1 rec n).trans
  ((s11a4p2 rec n).trans
  ((by kernel_rfl)))

theorem s11a3p3 (rec : FuncId → List DV → Hp → Res) (n : Nat) : D11 rec n (cR (cR (cR (cf Try.f11)))) x0 (retK CF Try.f11) = D11 rec n (cL (cR (cR (cR (cf Try.f11))))) x0 (fun (env : Env) (h : Hp) => s11a4 rec n (env 2) (env 3) h) :=
  congrArg (fun k => D11 rec n (cL (cR (cR (cR (cf Try.f11))))) x0 k) (s11a4e rec n)

theorem s11a3e (rec : FuncId → List DV → Hp → Res) (n : Nat) : D11 rec n (cR (cR (cR (cf Try.f11)))) x0 (retK CF Try.f11) = (fun (env : Env) (h : Hp) => s11a3 rec n (env 2) (env 3) (env 5) (env 6) h) :=
  (s11a3p3 rec n).trans
  ((by kernel_rfl))

theorem s11a2p4 (rec : FuncId → List DV → Hp → Res) (n : Nat) : D11 rec n (cR (cR (cf Try.f11))) x0 (retK CF Try.f11) = D11 rec n (cL (cR (cR (cf Try.f11)))) x0 (fun (env : Env) (h : Hp) => s11a3 rec n (env 2) (env 3) (env 5) (env 6) h) :=
  congrArg (fun k => D11 rec n (cL (cR (cR (cf Try.f11)))) x0 k) (s11a3e rec n)

theorem s11a2e (rec : FuncId → List DV → Hp → Res) (n : Nat) : D11 rec n (cR (cR (cf Try.f11))) x0 (retK CF Try.f11) = (fun (env : Env) (h : Hp) => s11a2 rec n (env 2) (env 3) (env 5) h) :=
  (s11a2p4 rec n).trans
  ((by kernel_rfl))

theorem s11a1p5 (rec : FuncId → List DV → Hp → Res) (n : Nat) : D11 rec n (cR (cf Try.f11)) x0 (retK CF Try.f11) = D11 rec n (cL (cR (cf Try.f11))) x0 (fun (env : Env) (h : Hp) => s11a2 rec n (env 2) (env 3) (env 5) h) :=
  congrArg (fun k => D11 rec n (cL (cR (cf Try.f11))) x0 k) (s11a2e rec n)

theorem s11a1e (rec : FuncId → List DV → Hp → Res) (n : Nat) : D11 rec n (cR (cf Try.f11)) x0 (retK CF Try.f11) = (fun (env : Env) (h : Hp) => s11a1 rec n (env 2) (env 3) h) :=
  (s11a1p5 rec n).trans
  ((by kernel_rfl))

theorem s11p6 (rec : FuncId → List DV → Hp → Res) (n : Nat) : D11 rec n (cf Try.f11) x0 (retK CF Try.f11) = D11 rec n (cL (cf Try.f11)) x0 (fun (env : Env) (h : Hp) => s11a1 rec n (env 2) (env 3) h) :=
  congrArg (fun k => D11 rec n (cL (cf Try.f11)) x0 k) (s11a1e rec n)

theorem s11q7 (rec : FuncId → List DV → Hp → Res) (n : Nat) (q0 : DV → DV → Hp → Res) : D11 rec n (cL (cf Try.f11)) x0 (fun (env : Env) (h : Hp) => q0 (env 2) (env 3) h) = fun (env : Env) (h : Hp) =>
    bnd (pBox (env 0) h) fun v115 h115 =>
    bnd (pBox (env 1) h115) fun v116 h116 =>
    q0 v115 v116 h116 := by kernel_rfl

theorem s11q7u (rec : FuncId → List DV → Hp → Res) (n : Nat) : (fun (env : Env) (h : Hp) =>
    bnd (pBox (env 0) h) fun v117 h117 =>
    bnd (pBox (env 1) h117) fun v118 h118 =>
    s11a1 rec n v117 v118 h118) = (fun (env : Env) (h : Hp) => s11 rec n (env 0) (env 1) h) := by kernel_rfl

theorem s11m (rec : FuncId → List DV → Hp → Res) (n : Nat) : D11 rec n (cf Try.f11) x0 (retK CF Try.f11) = (fun (env : Env) (h : Hp) => s11 rec n (env 0) (env 1) h) :=
  (s11p6 rec n).trans
  ((s11q7 rec n (s11a1 rec n)).trans (s11q7u rec n))

theorem s11ok (rec : FuncId → List DV → Hp → Res) (n : Nat) (args : List DV) (h : Hp) : bodyD CF rec n 11 args h = s11 rec n (args.getD 0 undefD) (args.getD 1 undefD) h :=
  (by kernel_rfl : bodyD CF rec n 11 args h = D11 rec n (cf Try.f11) x0 (retK CF Try.f11) (argsE args) h).trans ((congrFun (congrFun (s11m rec n) (argsE args)) h).trans (by kernel_rfl))

noncomputable def s12a5 (rec : FuncId → List DV → Hp → Res) (n : Nat) (x3 : DV) (h0 : Hp) : Res :=
  some (x3, h0)

noncomputable def s12a7b (rec : FuncId → List DV → Hp → Res) (n : Nat) (kk7 : DV → DV → DV → Hp → Res) (x1 x3 x4 : DV) (h0 : Hp) : Res :=
    bnd (pField 5 x1 h0) fun v1 h1 =>
    bnd (pLoad1 v1 h1) fun v2 h2 =>
    bnd (pLen v2 h2) fun v3 h3 =>
    bnd (pInt .lss x4 v3 h3) fun v4 h4 =>
    ifD v4 (
      bnd (pField 5 x1 h4) fun v5 h5 =>
      bnd (pLoad1 v5 h5) fun v6 h6 =>
      bnd (pIndexAddr 6 v6 x4 h6) fun v7 h7 =>
      bnd (pLoadA 6 v7 h7) fun v8 h8 =>
      bnd (rec 12 [v8] h8) fun v9 h9 =>
      bnd (pInt .add x3 v9 h9) fun v10 h10 =>
      bnd (pInt .add x4 (.i .i64 (Int.ofNat 1)) h10) fun v11 h11 =>
      kk7 x1 v10 v11 h11) (
      s12a5 rec n x3 h4)

noncomputable def s12a7l (rec : FuncId → List DV → Hp → Res) (n : Nat) (m : Nat) : DV → DV → DV → Hp → Res :=
  Nat.rec (motive := fun _ => DV → DV → DV → Hp → Res) (fun _ _ _ _ => none) (fun _ ih => s12a7b rec n ih) m

noncomputable def s12a7 (rec : FuncId → List DV → Hp → Res) (n : Nat) : DV → DV → DV → Hp → Res := s12a7l rec n n

noncomputable def s12a6 (rec : FuncId → List DV → Hp → Res) (n : Nat) (x1 x3 x4 : DV) (h0 : Hp) : Res :=
  s12a7 rec n x1 x3 x4 h0

noncomputable def s12a4 (rec : FuncId → List DV → Hp → Res) (n : Nat) (x1 x3 : DV) (h0 : Hp) : Res :=
  s12a6 rec n x1 x3 (.i .i64 (Int.ofNat 0)) h0

noncomputable def s12a3 (rec : FuncId → List DV → Hp → Res) (n : Nat) (x1 x3 : DV) (h0 : Hp) : Res :=
  bnd (pField 3 x1 h0) fun v23 h23 =>
  bnd (pLoad1 v23 h23) fun v24 h24 =>
  bnd (pLen v24 h24) fun v25 h25 =>
  bnd (pInt .add x3 v25 h25) fun v26 h26 =>
  bnd (pField 4 x1 h26) fun v27 h27 =>
  bnd (pLoad1 v27 h27) fun v28 h28 =>
  bnd (pLen v28 h28) fun v29 h29 =>
  bnd (pInt .add v26 v29 h29) fun v30 h30 =>
  s12a4 rec n x1 v30 h30

noncomputable def s12a2 (rec : FuncId → List DV → Hp → Res) (n : Nat) (x1 x3 : DV) (h0 : Hp) : Res :=
  bnd (pField 0 x1 h0) fun v39 h39 =>
  bnd (pLoad1 v39 h39) fun v40 h40 =>
  bnd (pInt .neq v40 (.i .i64 (Int.ofNat 9)) h40) fun v41 h41 =>
  bnd (gD v41 true (pField 0 x1 h41) h41) fun v42 h42 =>
  bnd (gD v41 true (pLoad1 v42 h42) h42) fun v43 h43 =>
  bnd (gD v41 true (pInt .neq v43 (.i .i64 (Int.ofNat 8)) h43) h43) fun v44 h44 =>
  bnd (pPick v41 v44 (.b false) h44) fun v45 h45 =>
  bnd (gD v45 true (pField 0 x1 h45) h45) fun v46 h46 =>
  bnd (gD v45 true (pLoad1 v46 h46) h46) fun v47 h47 =>
  bnd (gD v45 true (pInt .neq v47 (.i .i64 (Int.ofNat 10)) h47) h47) fun v48 h48 =>
  bnd (pPick v45 v48 (.b false) h48) fun v49 h49 =>
  bnd (gD v49 true (pField 0 x1 h49) h49) fun v50 h50 =>
  bnd (gD v49 true (pLoad1 v50 h50) h50) fun v51 h51 =>
  bnd (gD v49 true (pInt .neq v51 (.i .i64 (Int.ofNat 11)) h51) h51) fun v52 h52 =>
  bnd (pPick v49 v52 (.b false) h52) fun v53 h53 =>
  bnd (gD v53 true (pField 0 x1 h53) h53) fun v54 h54 =>
  bnd (gD v53 true (pLoad1 v54 h54) h54) fun v55 h55 =>
  bnd (gD v53 true (pInt .neq v55 (.i .i64 (Int.ofNat 4)) h55) h55) fun v56 h56 =>
  bnd (pPick v53 v56 (.b false) h56) fun v57 h57 =>
  ifD v57 (
    s12a3 rec n x1 (.i .i64 (Int.ofNat 1)) h57) (
    s12a3 rec n x1 x3 h57)

noncomputable def s12a1 (rec : FuncId → List DV → Hp → Res) (n : Nat) (x1 : DV) (h0 : Hp) : Res :=
  s12a2 rec n x1 (.i .i64 (Int.ofNat 0)) h0

/-- vivariumlaw07.count -/
noncomputable def s12 (rec : FuncId → List DV → Hp → Res) (n : Nat) (x0 : DV) (h0 : Hp) : Res :=
  bnd (pBox x0 h0) fun v77 h77 =>
  s12a1 rec n v77 h77

noncomputable def D12 (rec : FuncId → List DV → Hp → Res) (n : Nat) (c : Code) (X : Nat → K) (k : K) : K := codeD CF rec 53 n c X (retK CF Try.f12) k

theorem s12a5e (rec : FuncId → List DV → Hp → Res) (n : Nat) : D12 rec n (cR (cR (cR (cR (cR (cf Try.f12)))))) x0 (retK CF Try.f12) = (fun (env : Env) (h : Hp) => s12a5 rec n (env 3) h) :=
  (by kernel_rfl)

theorem s12a7be (rec : FuncId → List DV → Hp → Res) (n : Nat) (kk7 : DV → DV → DV → Hp → Res) : D12 rec n (cL (cL (cR (cL (cR (cR (cR (cR (cf Try.f12))))))))) (xs x0 0 (fun (env : Env) (h : Hp) => s12a5 rec n (env 3) h)) (fun (env : Env) (h : Hp) => kk7 (env 1) (env 3) (env 4) h) = (fun (env : Env) (h : Hp) => s12a7b rec n kk7 (env 1) (env 3) (env 4) h) :=
  (by kernel_rfl)

theorem s12a7le (rec : FuncId → List DV → Hp → Res) (n : Nat) (m : Nat) : loopN (fun kk => D12 rec n (cL (cL (cR (cL (cR (cR (cR (cR (cf Try.f12))))))))) (xs x0 0 (fun (env : Env) (h : Hp) => s12a5 rec n (env 3) h)) kk) m = (fun (env : Env) (h : Hp) => s12a7l rec n m (env 1) (env 3) (env 4) h) := by
  induction m with
  | zero => exact (by kernel_rfl : loopN (fun kk => D12 rec n (cL (cL (cR (cL (cR (cR (cR (cR (cf Try.f12))))))))) (xs x0 0 (fun (env : Env) (h : Hp) => s12a5 rec n (env 3) h)) kk) 0 = (fun (env : Env) (h : Hp) => s12a7l rec n 0 (env 1) (env 3) (env 4) h))
  | succ m ih =>
    refine (by kernel_rfl : loopN (fun kk => D12 rec n (cL (cL (cR (cL (cR (cR (cR (cR (cf Try.f12))))))))) (xs x0 0 (fun (env : Env) (h : Hp) => s12a5 rec n (env 3) h)) kk) (m + 1) = D12 rec n (cL (cL (cR (cL (cR (cR (cR (cR (cf Try.f12))))))))) (xs x0 0 (fun (env : Env) (h : Hp) => s12a5 rec n (env 3) h)) (loopN (fun kk => D12 rec n (cL (cL (cR (cL (cR (cR (cR (cR (cf Try.f12))))))))) (xs x0 0 (fun (env : Env) (h : Hp) => s12a5 rec n (env 3) h)) kk) m)).trans ?_
    rw [ih]
    exact (s12a7be rec n (s12a7l rec n m)).trans (by kernel_rfl)

theorem s12a7e (rec : FuncId → List DV → Hp → Res) (n : Nat) : D12 rec n (cL (cR (cL (cR (cR (cR (cR (cf Try.f12)))))))) (xs x0 0 (fun (env : Env) (h : Hp) => s12a5 rec n (env 3) h)) (fun (env : Env) (h : Hp) => s12a5 rec n (env 3) h) = (fun (env : Env) (h : Hp) => s12a7 rec n (env 1) (env 3) (env 4) h) :=
  (by kernel_rfl : D12 rec n (cL (cR (cL (cR (cR (cR (cR (cf Try.f12)))))))) (xs x0 0 (fun (env : Env) (h : Hp) => s12a5 rec n (env 3) h)) (fun (env : Env) (h : Hp) => s12a5 rec n (env 3) h) = loopN (fun kk => D12 rec n (cL (cL (cR (cL (cR (cR (cR (cR (cf Try.f12))))))))) (xs x0 0 (fun (env : Env) (h : Hp) => s12a5 rec n (env 3) h)) kk) n).trans ((s12a7le rec n n).trans (by kernel_rfl))

theorem s12a6e (rec : FuncId → List DV → Hp → Res) (n : Nat) : D12 rec n (cR (cL (cR (cR (cR (cR (cf Try.f12))))))) x0 (fun (env : Env) (h : Hp) => s12a5 rec n (env 3) h) = (fun (env : Env) (h : Hp) => s12a6 rec n (env 1) (env 3) (env 4) h) :=
  (by kernel_rfl : D12 rec n (cR (cL (cR (cR (cR (cR (cf Try.f12))))))) x0 (fun (env : Env) (h : Hp) => s12a5 rec n (env 3) h) = D12 rec n (cL (cR (cL (cR (cR (cR (cR (cf Try.f12)))))))) (xs x0 0 (fun (env : Env) (h : Hp) => s12a5 rec n (env 3) h)) (fun (env : Env) (h : Hp) => s12a5 rec n (env 3) h)).trans
  ((s12a7e rec n).trans (by kernel_rfl))

theorem s12a4p1 (rec : FuncId → List DV → Hp → Res) (n : Nat) : D12 rec n (cR (cR (cR (cR (cf Try.f12))))) x0 (retK CF Try.f12) = D12 rec n (cL (cR (cR (cR (cR (cf Try.f12)))))) x0 (fun (env : Env) (h : Hp) => s12a5 rec n (env 3) h) :=
  congrArg (fun k => D12 rec n (cL (cR (cR (cR (cR (cf Try.f12)))))) x0 k) (s12a5e rec n)

theorem s12a4p2 (rec : FuncId → List DV → Hp → Res) (n : Nat) : D12 rec n (cL (cR (cR (cR (cR (cf Try.f12)))))) x0 (fun (env : Env) (h : Hp) => s12a5 rec n (env 3) h) = D12 rec n (cL (cL (cR (cR (cR (cR (cf Try.f12))))))) x0 (fun (env : Env) (h : Hp) => s12a6 rec n (env 1) (env 3) (env 4) h) :=
  congrArg (fun k => D12 rec n (cL (cL (cR (cR (cR (cR (cf Try.f12))))))) x0 k) (s12a6e rec n)

theorem s12a4e (rec : FuncId → List DV → Hp → Res) (n : Nat) : D12 rec n (cR (cR (cR (cR (cf Try.f12))))) x0 (retK CF Try.f12) = (fun (env : Env) (h : Hp) => s12a4 rec n (env 1) (env 3) h) :=
  (s12a4p1 rec n).trans
  ((s12a4p2 rec n).trans
  ((by kernel_rfl)))

theorem s12a3p3 (rec : FuncId → List DV → Hp → Res) (n : Nat) : D12 rec n (cR (cR (cR (cf Try.f12)))) x0 (retK CF Try.f12) = D12 rec n (cL (cR (cR (cR (cf Try.f12))))) x0 (fun (env : Env) (h : Hp) => s12a4 rec n (env 1) (env 3) h) :=
  congrArg (fun k => D12 rec n (cL (cR (cR (cR (cf Try.f12))))) x0 k) (s12a4e rec n)

theorem s12a3e (rec : FuncId → List DV → Hp → Res) (n : Nat) : D12 rec n (cR (cR (cR (cf Try.f12)))) x0 (retK CF Try.f12) = (fun (env : Env) (h : Hp) => s12a3 rec n (env 1) (env 3) h) :=
  (s12a3p3 rec n).trans
  ((by kernel_rfl))

theorem s12a2p4 (rec : FuncId → List DV → Hp → Res) (n : Nat) : D12 rec n (cR (cR (cf Try.f12))) x0 (retK CF Try.f12) = D12 rec n (cL (cR (cR (cf Try.f12)))) x0 (fun (env : Env) (h : Hp) => s12a3 rec n (env 1) (env 3) h) :=
  congrArg (fun k => D12 rec n (cL (cR (cR (cf Try.f12)))) x0 k) (s12a3e rec n)

theorem s12a2e (rec : FuncId → List DV → Hp → Res) (n : Nat) : D12 rec n (cR (cR (cf Try.f12))) x0 (retK CF Try.f12) = (fun (env : Env) (h : Hp) => s12a2 rec n (env 1) (env 3) h) :=
  (s12a2p4 rec n).trans
  ((by kernel_rfl))

theorem s12a1p5 (rec : FuncId → List DV → Hp → Res) (n : Nat) : D12 rec n (cR (cf Try.f12)) x0 (retK CF Try.f12) = D12 rec n (cL (cR (cf Try.f12))) x0 (fun (env : Env) (h : Hp) => s12a2 rec n (env 1) (env 3) h) :=
  congrArg (fun k => D12 rec n (cL (cR (cf Try.f12))) x0 k) (s12a2e rec n)

theorem s12a1e (rec : FuncId → List DV → Hp → Res) (n : Nat) : D12 rec n (cR (cf Try.f12)) x0 (retK CF Try.f12) = (fun (env : Env) (h : Hp) => s12a1 rec n (env 1) h) :=
  (s12a1p5 rec n).trans
  ((by kernel_rfl))

theorem s12p6 (rec : FuncId → List DV → Hp → Res) (n : Nat) : D12 rec n (cf Try.f12) x0 (retK CF Try.f12) = D12 rec n (cL (cf Try.f12)) x0 (fun (env : Env) (h : Hp) => s12a1 rec n (env 1) h) :=
  congrArg (fun k => D12 rec n (cL (cf Try.f12)) x0 k) (s12a1e rec n)

theorem s12q7 (rec : FuncId → List DV → Hp → Res) (n : Nat) (q0 : DV → Hp → Res) : D12 rec n (cL (cf Try.f12)) x0 (fun (env : Env) (h : Hp) => q0 (env 1) h) = fun (env : Env) (h : Hp) =>
    bnd (pBox (env 0) h) fun v79 h79 =>
    q0 v79 h79 := by kernel_rfl

theorem s12q7u (rec : FuncId → List DV → Hp → Res) (n : Nat) : (fun (env : Env) (h : Hp) =>
    bnd (pBox (env 0) h) fun v80 h80 =>
    s12a1 rec n v80 h80) = (fun (env : Env) (h : Hp) => s12 rec n (env 0) h) := by kernel_rfl

theorem s12m (rec : FuncId → List DV → Hp → Res) (n : Nat) : D12 rec n (cf Try.f12) x0 (retK CF Try.f12) = (fun (env : Env) (h : Hp) => s12 rec n (env 0) h) :=
  (s12p6 rec n).trans
  ((s12q7 rec n (s12a1 rec n)).trans (s12q7u rec n))

theorem s12ok (rec : FuncId → List DV → Hp → Res) (n : Nat) (args : List DV) (h : Hp) : bodyD CF rec n 12 args h = s12 rec n (args.getD 0 undefD) h :=
  (by kernel_rfl : bodyD CF rec n 12 args h = D12 rec n (cf Try.f12) x0 (retK CF Try.f12) (argsE args) h).trans ((congrFun (congrFun (s12m rec n) (argsE args)) h).trans (by kernel_rfl))

noncomputable def s13a3 (rec : FuncId → List DV → Hp → Res) (n : Nat) (x1 x5 : DV) (h0 : Hp) : Res :=
  bnd (pInt .gtr x5 x1 h0) fun v1 h1 =>
  ifD v1 (
    some ((.i .i64 (Int.negSucc 0)), h1)) (
    some (x5, h1))

noncomputable def s13a5b (rec : FuncId → List DV → Hp → Res) (n : Nat) (kk5 : DV → DV → DV → DV → Hp → Res) (x1 x2 x5 x6 : DV) (h0 : Hp) : Res :=
    bnd (pField 5 x2 h0) fun v3 h3 =>
    bnd (pLoad1 v3 h3) fun v4 h4 =>
    bnd (pLen v4 h4) fun v5 h5 =>
    bnd (pInt .lss x6 v5 h5) fun v6 h6 =>
    ifD v6 (
      bnd (pInt .geq x5 x1 h6) fun v7 h7 =>
      ifD v7 (
        some ((.i .i64 (Int.negSucc 0)), h7)) (
        bnd (pField 5 x2 h7) fun v8 h8 =>
        bnd (pLoad1 v8 h8) fun v9 h9 =>
        bnd (pIndexAddr 6 v9 x6 h9) fun v10 h10 =>
        bnd (pLoadA 6 v10 h10) fun v11 h11 =>
        bnd (pInt .sub x1 x5 h11) fun v12 h12 =>
        bnd (rec 13 [v11, v12] h12) fun v13 h13 =>
        bnd (pInt .lss v13 (.i .i64 (Int.ofNat 0)) h13) fun v14 h14 =>
        ifD v14 (
          some ((.i .i64 (Int.negSucc 0)), h14)) (
          bnd (pInt .add x5 v13 h14) fun v15 h15 =>
          bnd (pInt .add x6 (.i .i64 (Int.ofNat 1)) h15) fun v16 h16 =>
          kk5 x1 x2 v15 v16 h16))) (
      s13a3 rec n x1 x5 h6)

noncomputable def s13a5l (rec : FuncId → List DV → Hp → Res) (n : Nat) (m : Nat) : DV → DV → DV → DV → Hp → Res :=
  Nat.rec (motive := fun _ => DV → DV → DV → DV → Hp → Res) (fun _ _ _ _ _ => none) (fun _ ih => s13a5b rec n ih) m

noncomputable def s13a5 (rec : FuncId → List DV → Hp → Res) (n : Nat) : DV → DV → DV → DV → Hp → Res := s13a5l rec n n

noncomputable def s13a4 (rec : FuncId → List DV → Hp → Res) (n : Nat) (x1 x2 x5 x6 : DV) (h0 : Hp) : Res :=
  s13a5 rec n x1 x2 x5 x6 h0

noncomputable def s13a2 (rec : FuncId → List DV → Hp → Res) (n : Nat) (x1 x2 x5 : DV) (h0 : Hp) : Res :=
  s13a4 rec n x1 x2 x5 (.i .i64 (Int.ofNat 0)) h0

noncomputable def s13a1 (rec : FuncId → List DV → Hp → Res) (n : Nat) (x1 x2 : DV) (h0 : Hp) : Res :=
  s13a2 rec n x1 x2 (.i .i64 (Int.ofNat 1)) h0

/-- vivariumref07.Few -/
noncomputable def s13 (rec : FuncId → List DV → Hp → Res) (n : Nat) (x0 x1 : DV) (h0 : Hp) : Res :=
  bnd (pBox x0 h0) fun v31 h31 =>
  s13a1 rec n x1 v31 h31

noncomputable def D13 (rec : FuncId → List DV → Hp → Res) (n : Nat) (c : Code) (X : Nat → K) (k : K) : K := codeD CF rec 36 n c X (retK CF Try.f13) k

theorem s13a3e (rec : FuncId → List DV → Hp → Res) (n : Nat) : D13 rec n (cR (cR (cR (cf Try.f13)))) x0 (retK CF Try.f13) = (fun (env : Env) (h : Hp) => s13a3 rec n (env 1) (env 5) h) :=
  (by kernel_rfl)

theorem s13a5be (rec : FuncId → List DV → Hp → Res) (n : Nat) (kk5 : DV → DV → DV → DV → Hp → Res) : D13 rec n (cL (cL (cR (cL (cR (cR (cf Try.f13))))))) (xs x0 0 (fun (env : Env) (h : Hp) => s13a3 rec n (env 1) (env 5) h)) (fun (env : Env) (h : Hp) => kk5 (env 1) (env 2) (env 5) (env 6) h) = (fun (env : Env) (h : Hp) => s13a5b rec n kk5 (env 1) (env 2) (env 5) (env 6) h) :=
  (by kernel_rfl)

theorem s13a5le (rec : FuncId → List DV → Hp → Res) (n : Nat) (m : Nat) : loopN (fun kk => D13 rec n (cL (cL (cR (cL (cR (cR (cf Try.f13))))))) (xs x0 0 (fun (env : Env) (h : Hp) => s13a3 rec n (env 1) (env 5) h)) kk) m = (fun (env : Env) (h : Hp) => s13a5l rec n m (env 1) (env 2) (env 5) (env 6) h) := by
  induction m with
  | zero => exact (by kernel_rfl : loopN (fun kk => D13 rec n (cL (cL (cR (cL (cR (cR (cf Try.f13))))))) (xs x0 0 (fun (env : Env) (h : Hp) => s13a3 rec n (env 1) (env 5) h)) kk) 0 = (fun (env : Env) (h : Hp) => s13a5l rec n 0 (env 1) (env 2) (env 5) (env 6) h))
  | succ m ih =>
    refine (by kernel_rfl : loopN (fun kk => D13 rec n (cL (cL (cR (cL (cR (cR (cf Try.f13))))))) (xs x0 0 (fun (env : Env) (h : Hp) => s13a3 rec n (env 1) (env 5) h)) kk) (m + 1) = D13 rec n (cL (cL (cR (cL (cR (cR (cf Try.f13))))))) (xs x0 0 (fun (env : Env) (h : Hp) => s13a3 rec n (env 1) (env 5) h)) (loopN (fun kk => D13 rec n (cL (cL (cR (cL (cR (cR (cf Try.f13))))))) (xs x0 0 (fun (env : Env) (h : Hp) => s13a3 rec n (env 1) (env 5) h)) kk) m)).trans ?_
    rw [ih]
    exact (s13a5be rec n (s13a5l rec n m)).trans (by kernel_rfl)

theorem s13a5e (rec : FuncId → List DV → Hp → Res) (n : Nat) : D13 rec n (cL (cR (cL (cR (cR (cf Try.f13)))))) (xs x0 0 (fun (env : Env) (h : Hp) => s13a3 rec n (env 1) (env 5) h)) (fun (env : Env) (h : Hp) => s13a3 rec n (env 1) (env 5) h) = (fun (env : Env) (h : Hp) => s13a5 rec n (env 1) (env 2) (env 5) (env 6) h) :=
  (by kernel_rfl : D13 rec n (cL (cR (cL (cR (cR (cf Try.f13)))))) (xs x0 0 (fun (env : Env) (h : Hp) => s13a3 rec n (env 1) (env 5) h)) (fun (env : Env) (h : Hp) => s13a3 rec n (env 1) (env 5) h) = loopN (fun kk => D13 rec n (cL (cL (cR (cL (cR (cR (cf Try.f13))))))) (xs x0 0 (fun (env : Env) (h : Hp) => s13a3 rec n (env 1) (env 5) h)) kk) n).trans ((s13a5le rec n n).trans (by kernel_rfl))

theorem s13a4e (rec : FuncId → List DV → Hp → Res) (n : Nat) : D13 rec n (cR (cL (cR (cR (cf Try.f13))))) x0 (fun (env : Env) (h : Hp) => s13a3 rec n (env 1) (env 5) h) = (fun (env : Env) (h : Hp) => s13a4 rec n (env 1) (env 2) (env 5) (env 6) h) :=
  (by kernel_rfl : D13 rec n (cR (cL (cR (cR (cf Try.f13))))) x0 (fun (env : Env) (h : Hp) => s13a3 rec n (env 1) (env 5) h) = D13 rec n (cL (cR (cL (cR (cR (cf Try.f13)))))) (xs x0 0 (fun (env : Env) (h : Hp) => s13a3 rec n (env 1) (env 5) h)) (fun (env : Env) (h : Hp) => s13a3 rec n (env 1) (env 5) h)).trans
  ((s13a5e rec n).trans (by kernel_rfl))

theorem s13a2p1 (rec : FuncId → List DV → Hp → Res) (n : Nat) : D13 rec n (cR (cR (cf Try.f13))) x0 (retK CF Try.f13) = D13 rec n (cL (cR (cR (cf Try.f13)))) x0 (fun (env : Env) (h : Hp) => s13a3 rec n (env 1) (env 5) h) :=
  congrArg (fun k => D13 rec n (cL (cR (cR (cf Try.f13)))) x0 k) (s13a3e rec n)

theorem s13a2p2 (rec : FuncId → List DV → Hp → Res) (n : Nat) : D13 rec n (cL (cR (cR (cf Try.f13)))) x0 (fun (env : Env) (h : Hp) => s13a3 rec n (env 1) (env 5) h) = D13 rec n (cL (cL (cR (cR (cf Try.f13))))) x0 (fun (env : Env) (h : Hp) => s13a4 rec n (env 1) (env 2) (env 5) (env 6) h) :=
  congrArg (fun k => D13 rec n (cL (cL (cR (cR (cf Try.f13))))) x0 k) (s13a4e rec n)

theorem s13a2e (rec : FuncId → List DV → Hp → Res) (n : Nat) : D13 rec n (cR (cR (cf Try.f13))) x0 (retK CF Try.f13) = (fun (env : Env) (h : Hp) => s13a2 rec n (env 1) (env 2) (env 5) h) :=
  (s13a2p1 rec n).trans
  ((s13a2p2 rec n).trans
  ((by kernel_rfl)))

theorem s13a1p3 (rec : FuncId → List DV → Hp → Res) (n : Nat) : D13 rec n (cR (cf Try.f13)) x0 (retK CF Try.f13) = D13 rec n (cL (cR (cf Try.f13))) x0 (fun (env : Env) (h : Hp) => s13a2 rec n (env 1) (env 2) (env 5) h) :=
  congrArg (fun k => D13 rec n (cL (cR (cf Try.f13))) x0 k) (s13a2e rec n)

theorem s13a1e (rec : FuncId → List DV → Hp → Res) (n : Nat) : D13 rec n (cR (cf Try.f13)) x0 (retK CF Try.f13) = (fun (env : Env) (h : Hp) => s13a1 rec n (env 1) (env 2) h) :=
  (s13a1p3 rec n).trans
  ((by kernel_rfl))

theorem s13p4 (rec : FuncId → List DV → Hp → Res) (n : Nat) : D13 rec n (cf Try.f13) x0 (retK CF Try.f13) = D13 rec n (cL (cf Try.f13)) x0 (fun (env : Env) (h : Hp) => s13a1 rec n (env 1) (env 2) h) :=
  congrArg (fun k => D13 rec n (cL (cf Try.f13)) x0 k) (s13a1e rec n)

theorem s13q5 (rec : FuncId → List DV → Hp → Res) (n : Nat) (q0 : DV → DV → Hp → Res) : D13 rec n (cL (cf Try.f13)) x0 (fun (env : Env) (h : Hp) => q0 (env 1) (env 2) h) = fun (env : Env) (h : Hp) =>
    bnd (pBox (env 0) h) fun v33 h33 =>
    q0 (env 1) v33 h33 := by kernel_rfl

theorem s13q5u (rec : FuncId → List DV → Hp → Res) (n : Nat) : (fun (env : Env) (h : Hp) =>
    bnd (pBox (env 0) h) fun v34 h34 =>
    s13a1 rec n (env 1) v34 h34) = (fun (env : Env) (h : Hp) => s13 rec n (env 0) (env 1) h) := by kernel_rfl

theorem s13m (rec : FuncId → List DV → Hp → Res) (n : Nat) : D13 rec n (cf Try.f13) x0 (retK CF Try.f13) = (fun (env : Env) (h : Hp) => s13 rec n (env 0) (env 1) h) :=
  (s13p4 rec n).trans
  ((s13q5 rec n (s13a1 rec n)).trans (s13q5u rec n))

theorem s13ok (rec : FuncId → List DV → Hp → Res) (n : Nat) (args : List DV) (h : Hp) : bodyD CF rec n 13 args h = s13 rec n (args.getD 0 undefD) (args.getD 1 undefD) h :=
  (by kernel_rfl : bodyD CF rec n 13 args h = D13 rec n (cf Try.f13) x0 (retK CF Try.f13) (argsE args) h).trans ((congrFun (congrFun (s13m rec n) (argsE args)) h).trans (by kernel_rfl))

/-- parse.Same -/
noncomputable def s14 (rec : FuncId → List DV → Hp → Res) (n : Nat) (x0 x1 : DV) (h0 : Hp) : Res :=
  bnd (pBox x0 h0) fun v1 h1 =>
  bnd (pBox x1 h1) fun v2 h2 =>
  bnd (pField 0 v1 h2) fun v3 h3 =>
  bnd (pLoad1 v3 h3) fun v4 h4 =>
  bnd (pField 0 v2 h4) fun v5 h5 =>
  bnd (pLoad1 v5 h5) fun v6 h6 =>
  bnd (pInt .eql v4 v6 h6) fun v7 h7 =>
  bnd (gD v7 true (pField 1 v1 h7) h7) fun v8 h8 =>
  bnd (gD v7 true (pLoad1 v8 h8) h8) fun v9 h9 =>
  bnd (gD v7 true (pField 1 v2 h9) h9) fun v10 h10 =>
  bnd (gD v7 true (pLoad1 v10 h10) h10) fun v11 h11 =>
  bnd (gD v7 true (pStr .eql v9 v11 h11) h11) fun v12 h12 =>
  bnd (pPick v7 v12 (.b false) h12) fun v13 h13 =>
  bnd (gD v13 true (pField 2 v1 h13) h13) fun v14 h14 =>
  bnd (gD v13 true (pLoad1 v14 h14) h14) fun v15 h15 =>
  bnd (gD v13 true (pField 2 v2 h15) h15) fun v16 h16 =>
  bnd (gD v13 true (pLoad1 v16 h16) h16) fun v17 h17 =>
  bnd (gD v13 true (pInt .eql v15 v17 h17) h17) fun v18 h18 =>
  bnd (pPick v13 v18 (.b false) h18) fun v19 h19 =>
  bnd (gD v19 true (pField 3 v1 h19) h19) fun v20 h20 =>
  bnd (gD v19 true (pLoad1 v20 h20) h20) fun v21 h21 =>
  bnd (gD v19 true (pField 3 v2 h21) h21) fun v22 h22 =>
  bnd (gD v19 true (pLoad1 v22 h22) h22) fun v23 h23 =>
  bnd (gD v19 true (rec 22 [v21, v23] h23) h23) fun v24 h24 =>
  bnd (pPick v19 v24 (.b false) h24) fun v25 h25 =>
  bnd (gD v25 true (pField 4 v1 h25) h25) fun v26 h26 =>
  bnd (gD v25 true (pLoad1 v26 h26) h26) fun v27 h27 =>
  bnd (gD v25 true (pField 4 v2 h27) h27) fun v28 h28 =>
  bnd (gD v25 true (pLoad1 v28 h28) h28) fun v29 h29 =>
  bnd (gD v25 true (rec 22 [v27, v29] h29) h29) fun v30 h30 =>
  bnd (pPick v25 v30 (.b false) h30) fun v31 h31 =>
  bnd (gD v31 true (pField 5 v1 h31) h31) fun v32 h32 =>
  bnd (gD v31 true (pLoad1 v32 h32) h32) fun v33 h33 =>
  bnd (gD v31 true (pField 5 v2 h33) h33) fun v34 h34 =>
  bnd (gD v31 true (pLoad1 v34 h34) h34) fun v35 h35 =>
  bnd (gD v31 true (rec 23 [v33, v35, (.f 14 [] [])] h35) h35) fun v36 h36 =>
  bnd (pPick v31 v36 (.b false) h36) fun v37 h37 =>
  some (v37, h37)

noncomputable def D14 (rec : FuncId → List DV → Hp → Res) (n : Nat) (c : Code) (X : Nat → K) (k : K) : K := codeD CF rec 47 n c X (retK CF Try.f14) k

theorem s14m (rec : FuncId → List DV → Hp → Res) (n : Nat) : D14 rec n (cf Try.f14) x0 (retK CF Try.f14) = (fun (env : Env) (h : Hp) => s14 rec n (env 0) (env 1) h) :=
  (by kernel_rfl)

theorem s14ok (rec : FuncId → List DV → Hp → Res) (n : Nat) (args : List DV) (h : Hp) : bodyD CF rec n 14 args h = s14 rec n (args.getD 0 undefD) (args.getD 1 undefD) h :=
  (by kernel_rfl : bodyD CF rec n 14 args h = D14 rec n (cf Try.f14) x0 (retK CF Try.f14) (argsE args) h).trans ((congrFun (congrFun (s14m rec n) (argsE args)) h).trans (by kernel_rfl))

/-- parse.Method -/
noncomputable def s15 (rec : FuncId → List DV → Hp → Res) (n : Nat) (x0 : DV) (h0 : Hp) : Res :=
  bnd (pNew [(.i .i64 (Int.ofNat 0)), (.s []), (.i .i64 (Int.ofNat 0)), .l0, .l0, .l0] h0) fun v1 h1 =>
  bnd (rec 17 [x0, (.f 24 [] [])] h1) fun v2 h2 =>
  bnd (pExtract 0 v2 h2) fun v3 h3 =>
  bnd (pExtract 1 v2 h3) fun v4 h4 =>
  bnd (pExtract 2 v2 h4) fun v5 h5 =>
  bnd (pStore 6 v1 v3 h5) fun _ h6 =>
  bnd (pLoadA 6 v1 h6) fun v7 _ =>
  some (.t [v7, v4, v5], h6)

noncomputable def D15 (rec : FuncId → List DV → Hp → Res) (n : Nat) (c : Code) (X : Nat → K) (k : K) : K := codeD CF rec 10 n c X (retK CF Try.f15) k

theorem s15m (rec : FuncId → List DV → Hp → Res) (n : Nat) : D15 rec n (cf Try.f15) x0 (retK CF Try.f15) = (fun (env : Env) (h : Hp) => s15 rec n (env 0) h) :=
  (by kernel_rfl)

theorem s15ok (rec : FuncId → List DV → Hp → Res) (n : Nat) (args : List DV) (h : Hp) : bodyD CF rec n 15 args h = s15 rec n (args.getD 0 undefD) h :=
  (by kernel_rfl : bodyD CF rec n 15 args h = D15 rec n (cf Try.f15) x0 (retK CF Try.f15) (argsE args) h).trans ((congrFun (congrFun (s15m rec n) (argsE args)) h).trans (by kernel_rfl))

end Go.Dd
