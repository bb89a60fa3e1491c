/- A part of the proof: Q4 Q5 Q6 Qt R U S1 S2 S3 S4 S5 S6 S7 S8 S9 S10 T1 ZR: each text has a comment of its own. -/
import Derived.Test.YtliejomdaookoaaPb1
import Derived.Lib.Bytealg
import Derived.KernelRfl
import Derived.ChangeArms
import Derived.WalkKit
import Derived.ProofKit
/- Dd, part Q4 (printed by gen.py): functions of the seat's program as Lean functions, linked to Dd. -/
set_option linter.unusedVariables false
set_option maxRecDepth 100000
namespace Go.Dd
open Go.Proofs

variable (rec : RT) (n : Nat)

noncomputable def s56a3 (rec : RT) (n : Nat) (x7 : DV) (h0 : Hp) : Res :=
  bnd (pField 1 x7 h0) fun v1 h1 =>
  bnd (pLoad1 v1 h1) fun v2 h2 =>
  some (v2, h2)

noncomputable def s56a2 (rec : RT) (n : Nat) (x0 x2 x7 : DV) (h0 : Hp) : Res :=
  bnd (pLen x2 h0) fun v5 h5 =>
  bnd (pInt .eql v5 (.i .i64 (Int.ofNat 4)) h5) fun v6 h6 =>
  ifD v6 (
    bnd (pLoadA 4 x7 h6) fun v7 h7 =>
    bnd (rec 54 [x0, v7, (.i .i64 (Int.ofNat 18))] h7) fun v8 h8 =>
    s56a3 rec n x7 h8) (
    s56a3 rec n x7 h6)

noncomputable def s56a1 (rec : RT) (n : Nat) (x0 x1 x2 : DV) (h0 : Hp) : Res :=
  bnd (rec 32 [x0, x1, (.s [])] h0) fun v13 h13 =>
  bnd (pNew [(.i .i64 (Int.ofNat 0)), (.s []), (.i .i64 (Int.ofNat 0)), (.i .i64 (Int.ofNat 0))] h13) fun v14 h14 =>
  bnd (pStore 4 v14 v13 h14) fun _ h15 =>
  s56a2 rec n x0 x2 v14 h15

/-- parse.parser).name -/
noncomputable def s56 (rec : RT) (n : Nat) (x0 x1 x2 : DV) (h0 : Hp) : Res :=
  s56a1 rec n x0 x1 x2 h0

noncomputable abbrev c56 : Code := cf Try.f56
noncomputable abbrev c56x1 : Code := cR c56
noncomputable abbrev c56x2 : Code := cR c56x1
noncomputable abbrev c56x3 : Code := cR c56x2
noncomputable abbrev c56x4 : Code := cL c56x2
noncomputable abbrev c56x5 : Code := cL c56x1
noncomputable abbrev c56x6 : Code := cL c56

noncomputable def D56 (rec : RT) (n : Nat) (c : Code) (X : Nat → K) (k : K) : K := codeD CF rec 19 n c X (retK CF Try.f56) k

theorem s56a3e : D56 rec n c56x3 x0 (retK CF Try.f56) = (K1 (s56a3 rec n) 7) :=
  (by kernel_rfl)

theorem s56a2p1 : D56 rec n c56x2 x0 (retK CF Try.f56) = D56 rec n c56x4 x0 (K1 (s56a3 rec n) 7) :=
  congrArg (fun k => D56 rec n c56x4 x0 k) (s56a3e rec n)

theorem s56a2e : D56 rec n c56x2 x0 (retK CF Try.f56) = (K3 (s56a2 rec n) 0 2 7) :=
  (s56a2p1 rec n).trans
  ((by kernel_rfl))

theorem s56a1p2 : D56 rec n c56x1 x0 (retK CF Try.f56) = D56 rec n c56x5 x0 (K3 (s56a2 rec n) 0 2 7) :=
  congrArg (fun k => D56 rec n c56x5 x0 k) (s56a2e rec n)

theorem s56a1q3 (q0 : TT3) : D56 rec n c56x5 x0 (K3 q0 0 2 7) = fun (env : Env) (h : Hp) =>
    bnd (rec 32 [(env 0), (env 1), (.s [])] h) fun v19 h19 =>
    bnd (pNew [(.i .i64 (Int.ofNat 0)), (.s []), (.i .i64 (Int.ofNat 0)), (.i .i64 (Int.ofNat 0))] h19) fun v20 h20 =>
    bnd (pStore 4 v20 v19 h20) fun _ h21 =>
    q0 (env 0) (env 2) v20 h21 := by kernel_rfl

theorem s56a1q3u : (fun (env : Env) (h : Hp) =>
    bnd (rec 32 [(env 0), (env 1), (.s [])] h) fun v22 h22 =>
    bnd (pNew [(.i .i64 (Int.ofNat 0)), (.s []), (.i .i64 (Int.ofNat 0)), (.i .i64 (Int.ofNat 0))] h22) fun v23 h23 =>
    bnd (pStore 4 v23 v22 h23) fun _ h24 =>
    s56a2 rec n (env 0) (env 2) v23 h24) = (K3 (s56a1 rec n) 0 1 2) := by kernel_rfl

theorem s56a1e : D56 rec n c56x1 x0 (retK CF Try.f56) = (K3 (s56a1 rec n) 0 1 2) :=
  (s56a1p2 rec n).trans
  ((s56a1q3 rec n (s56a2 rec n)).trans (s56a1q3u rec n))

theorem s56p4 : D56 rec n c56 x0 (retK CF Try.f56) = D56 rec n c56x6 x0 (K3 (s56a1 rec n) 0 1 2) :=
  congrArg (fun k => D56 rec n c56x6 x0 k) (s56a1e rec n)

theorem s56m : D56 rec n c56 x0 (retK CF Try.f56) = (K3 (s56 rec n) 0 1 2) :=
  (s56p4 rec n).trans
  ((by kernel_rfl))

theorem s56ok (args : List DV) (h : Hp) : bodyD CF rec n 56 args h = s56 rec n (args.getD 0 undefD) (args.getD 1 undefD) (args.getD 2 undefD) h :=
  (by kernel_rfl : bodyD CF rec n 56 args h = D56 rec n c56 x0 (retK CF Try.f56) (argsE args) h).trans ((congrFun (congrFun (s56m rec n) (argsE args)) h).trans (by kernel_rfl))

/-- lex.in$1 -/
noncomputable def s62 (rec : RT) (n : Nat) (x0 x1 : DV) (h0 : Hp) : Res :=
  bnd (pLoad1 x1 h0) fun v1 h1 =>
  bnd (rec 49 [v1, x0] h1) fun v2 h2 =>
  bnd (pInt .geq v2 (.i .i64 (Int.ofNat 0)) h2) fun v3 h3 =>
  some (v3, h3)

noncomputable abbrev c62 : Code := cf Try.f62

noncomputable def D62 (rec : RT) (n : Nat) (c : Code) (X : Nat → K) (k : K) : K := codeD CF rec 8 n c X (retK CF Try.f62) k

theorem s62m : D62 rec n c62 x0 (retK CF Try.f62) = (K2 (s62 rec n) 0 1) :=
  (by kernel_rfl)

theorem s62ok (args : List DV) (h : Hp) : bodyD CF rec n 62 args h = s62 rec n (args.getD 0 undefD) (args.getD 1 undefD) h :=
  (by kernel_rfl : bodyD CF rec n 62 args h = D62 rec n c62 x0 (retK CF Try.f62) (argsE args) h).trans ((congrFun (congrFun (s62m rec n) (argsE args)) h).trans (by kernel_rfl))

/-- stringslite.IndexByte -/
noncomputable def s63 (rec : RT) (n : Nat) (x0 x1 : DV) (h0 : Hp) : Res :=
  bnd (idxF [x0, x1] h0) fun v1 h1 =>
  some (v1, h1)

noncomputable abbrev c63 : Code := cf Try.f63

noncomputable def D63 (rec : RT) (n : Nat) (c : Code) (X : Nat → K) (k : K) : K := codeD CF rec 8 n c X (retK CF Try.f63) k

theorem s63m : D63 rec n c63 x0 (retK CF Try.f63) = (K2 (s63 rec n) 0 1) :=
  (by kernel_rfl)

theorem s63ok (args : List DV) (h : Hp) : bodyD CF rec n 63 args h = s63 rec n (args.getD 0 undefD) (args.getD 1 undefD) h :=
  (by kernel_rfl : bodyD CF rec n 63 args h = D63 rec n c63 x0 (retK CF Try.f63) (argsE args) h).trans ((congrFun (congrFun (s63m rec n) (argsE args)) h).trans (by kernel_rfl))

/-- lex.reader).next -/
noncomputable def s64 (rec : RT) (n : Nat) (x0 x1 : DV) (h0 : Hp) : Res :=
  bnd (pNil x0 h0) fun v1 h1 =>
  bnd (pField 1 v1 h1) fun v2 h2 =>
  bnd (pLoad1 v2 h2) fun v3 h3 =>
  bnd (pInt .add v3 x1 h3) fun v4 h4 =>
  bnd (pNil x0 h4) fun v5 h5 =>
  bnd (pField 0 v5 h5) fun v6 h6 =>
  bnd (pLoad1 v6 h6) fun v7 h7 =>
  bnd (pLenS v7 h7) fun v8 h8 =>
  bnd (pInt .geq v4 v8 h8) fun v9 h9 =>
  ifD v9 (
    some ((.i .u8 (Int.ofNat 0)), h9)) (
    bnd (pNil x0 h9) fun v10 h10 =>
    bnd (pField 0 v10 h10) fun v11 h11 =>
    bnd (pLoad1 v11 h11) fun v12 h12 =>
    bnd (pNil x0 h12) fun v13 h13 =>
    bnd (pField 1 v13 h13) fun v14 h14 =>
    bnd (pLoad1 v14 h14) fun v15 h15 =>
    bnd (pInt .add v15 x1 h15) fun v16 h16 =>
    bnd (pIndexS v12 v16 h16) fun v17 h17 =>
    some (v17, h17))

noncomputable abbrev c64 : Code := cf Try.f64

noncomputable def D64 (rec : RT) (n : Nat) (c : Code) (X : Nat → K) (k : K) : K := codeD CF rec 28 n c X (retK CF Try.f64) k

theorem s64m : D64 rec n c64 x0 (retK CF Try.f64) = (K2 (s64 rec n) 0 1) :=
  (by kernel_rfl)

theorem s64ok (args : List DV) (h : Hp) : bodyD CF rec n 64 args h = s64 rec n (args.getD 0 undefD) (args.getD 1 undefD) h :=
  (by kernel_rfl : bodyD CF rec n 64 args h = D64 rec n c64 x0 (retK CF Try.f64) (argsE args) h).trans ((congrFun (congrFun (s64m rec n) (argsE args)) h).trans (by kernel_rfl))

/-- lex.letter -/
noncomputable def s65 (rec : RT) (n : Nat) (x0 : DV) (h0 : Hp) : Res :=
  bnd (pInt .geq x0 (.i .u8 (Int.ofNat 97)) h0) fun v1 h1 =>
  bnd (gD v1 true (some (x0, h1)) h1) fun v2 h2 =>
  bnd (gD v1 true (pInt .leq v2 (.i .u8 (Int.ofNat 122)) h2) h2) fun v3 h3 =>
  bnd (pPick v1 v3 (.b false) h3) fun v4 h4 =>
  bnd (gD v4 false (some (x0, h4)) h4) fun v5 h5 =>
  bnd (gD v4 false (pInt .geq v5 (.i .u8 (Int.ofNat 65)) h5) h5) fun v6 h6 =>
  bnd (gD v4 false (some (v6, h6)) h6) fun v7 h7 =>
  bnd (gD v7 true (some (x0, h7)) h7) fun v8 h8 =>
  bnd (gD v7 true (pInt .leq v8 (.i .u8 (Int.ofNat 90)) h8) h8) fun v9 h9 =>
  bnd (gD v4 false (pPick v7 v9 (.b false) h9) h9) fun v10 h10 =>
  bnd (pPick v4 (.b true) v10 h10) fun v11 h11 =>
  some (v11, h11)

noncomputable abbrev c65 : Code := cf Try.f65

noncomputable def D65 (rec : RT) (n : Nat) (c : Code) (X : Nat → K) (k : K) : K := codeD CF rec 17 n c X (retK CF Try.f65) k

theorem s65m : D65 rec n c65 x0 (retK CF Try.f65) = (K1 (s65 rec n) 0) :=
  (by kernel_rfl)

theorem s65ok (args : List DV) (h : Hp) : bodyD CF rec n 65 args h = s65 rec n (args.getD 0 undefD) h :=
  (by kernel_rfl : bodyD CF rec n 65 args h = D65 rec n c65 x0 (retK CF Try.f65) (argsE args) h).trans ((congrFun (congrFun (s65m rec n) (argsE args)) h).trans (by kernel_rfl))

/-- lex.reader).name -/
noncomputable def s66 (rec : RT) (n : Nat) (x0 : DV) (h0 : Hp) : Res :=
  bnd (pNil x0 h0) fun v1 h1 =>
  bnd (pField 0 v1 h1) fun v2 h2 =>
  bnd (pLoad1 v2 h2) fun v3 h3 =>
  bnd (pLenS v3 h3) fun v4 h4 =>
  bnd (rec 47 [x0, (.f 78 [] []), v4] h4) fun v5 h5 =>
  bnd (pLenS v5 h5) fun v6 h6 =>
  bnd (pInt .gtr v6 (.i .i64 (Int.ofNat 24)) h6) fun v7 h7 =>
  ifD v7 (
    some (.t [(.s []), (.i .i64 (Int.ofNat 12))], h7)) (
    some (.t [v5, (.i .i64 (Int.ofNat 0))], h7))

noncomputable abbrev c66 : Code := cf Try.f66

noncomputable def D66 (rec : RT) (n : Nat) (c : Code) (X : Nat → K) (k : K) : K := codeD CF rec 16 n c X (retK CF Try.f66) k

theorem s66m : D66 rec n c66 x0 (retK CF Try.f66) = (K1 (s66 rec n) 0) :=
  (by kernel_rfl)

theorem s66ok (args : List DV) (h : Hp) : bodyD CF rec n 66 args h = s66 rec n (args.getD 0 undefD) h :=
  (by kernel_rfl : bodyD CF rec n 66 args h = D66 rec n c66 x0 (retK CF Try.f66) (argsE args) h).trans ((congrFun (congrFun (s66m rec n) (argsE args)) h).trans (by kernel_rfl))

/-- lex.reader).colon -/
noncomputable def s67 (rec : RT) (n : Nat) (x0 : DV) (h0 : Hp) : Res :=
  bnd (rec 64 [x0, (.i .i64 (Int.ofNat 0))] h0) fun v1 h1 =>
  bnd (pInt .neq v1 (.i .u8 (Int.ofNat 58)) h1) fun v2 h2 =>
  bnd (gD v2 false (some (x0, h2)) h2) fun v3 h3 =>
  bnd (gD v2 false (rec 64 [v3, (.i .i64 (Int.ofNat 1))] h3) h3) fun v4 h4 =>
  bnd (gD v2 false (pInt .eql v4 (.i .u8 (Int.ofNat 61)) h4) h4) fun v5 h5 =>
  bnd (pPick v2 (.b true) v5 h5) fun v6 h6 =>
  ifD v6 (
    some ((.b false), h6)) (
    bnd (pNil x0 h6) fun v7 h7 =>
    bnd (pField 1 v7 h7) fun v8 h8 =>
    bnd (pLoad1 v8 h8) fun v9 h9 =>
    bnd (pInt .add v9 (.i .i64 (Int.ofNat 1)) h9) fun v10 h10 =>
    bnd (pNil x0 h10) fun v11 h11 =>
    bnd (pField 1 v11 h11) fun v12 h12 =>
    bnd (pStore 1 v12 v10 h12) fun _ h13 =>
    some ((.b true), h13))

noncomputable abbrev c67 : Code := cf Try.f67

noncomputable def D67 (rec : RT) (n : Nat) (c : Code) (X : Nat → K) (k : K) : K := codeD CF rec 18 n c X (retK CF Try.f67) k

theorem s67m : D67 rec n c67 x0 (retK CF Try.f67) = (K1 (s67 rec n) 0) :=
  (by kernel_rfl)

theorem s67ok (args : List DV) (h : Hp) : bodyD CF rec n 67 args h = s67 rec n (args.getD 0 undefD) h :=
  (by kernel_rfl : bodyD CF rec n 67 args h = D67 rec n c67 x0 (retK CF Try.f67) (argsE args) h).trans ((congrFun (congrFun (s67m rec n) (argsE args)) h).trans (by kernel_rfl))

/-- lex.digit -/
noncomputable def s68 (rec : RT) (n : Nat) (x0 : DV) (h0 : Hp) : Res :=
  bnd (pInt .geq x0 (.i .u8 (Int.ofNat 48)) h0) fun v1 h1 =>
  bnd (gD v1 true (some (x0, h1)) h1) fun v2 h2 =>
  bnd (gD v1 true (pInt .leq v2 (.i .u8 (Int.ofNat 57)) h2) h2) fun v3 h3 =>
  bnd (pPick v1 v3 (.b false) h3) fun v4 h4 =>
  some (v4, h4)

noncomputable abbrev c68 : Code := cf Try.f68

noncomputable def D68 (rec : RT) (n : Nat) (c : Code) (X : Nat → K) (k : K) : K := codeD CF rec 9 n c X (retK CF Try.f68) k

theorem s68m : D68 rec n c68 x0 (retK CF Try.f68) = (K1 (s68 rec n) 0) :=
  (by kernel_rfl)

theorem s68ok (args : List DV) (h : Hp) : bodyD CF rec n 68 args h = s68 rec n (args.getD 0 undefD) h :=
  (by kernel_rfl : bodyD CF rec n 68 args h = D68 rec n c68 x0 (retK CF Try.f68) (argsE args) h).trans ((congrFun (congrFun (s68m rec n) (argsE args)) h).trans (by kernel_rfl))

noncomputable def s69a3 (rec : RT) (n : Nat) (x4 : DV) (h0 : Hp) : Res :=
  some (.t [x4, (.i .i64 (Int.ofNat 0))], h0)

noncomputable def s69a5b (rec : RT) (n : Nat) (kk5 : TT2) (x4 x14 : DV) (h0 : Hp) : Res :=
    bnd (pNext x14 h0) fun v1 h1 =>
    bnd (pExtract 0 v1 h1) fun v2 h2 =>
    ifD v2 (
      bnd (pExtract 2 v1 h2) fun v3 h3 =>
      bnd (pInt .gtr x4 (.i .i64 (Int.ofNat 115292150460684697)) h3) fun v4 h4 =>
      ifD v4 (
        some (.t [(.i .i64 (Int.ofNat 0)), (.i .i64 (Int.ofNat 2))], h4)) (
        bnd (pInt .mul x4 (.i .i64 (Int.ofNat 10)) h4) fun v5 h5 =>
        bnd (pInt .sub v3 (.i .i32 (Int.ofNat 48)) h5) fun v6 h6 =>
        bnd (pConvI .i64 v6 h6) fun v7 h7 =>
        bnd (pInt .add v5 v7 h7) fun v8 h8 =>
        bnd (pInt .gtr v8 (.i .i64 (Int.ofNat 1152921504606846976)) h8) fun v9 h9 =>
        ifD v9 (
          some (.t [(.i .i64 (Int.ofNat 0)), (.i .i64 (Int.ofNat 2))], h9)) (
          kk5 v8 x14 h9))) (
      s69a3 rec n x4 h2)

noncomputable def s69a5l (rec : RT) (n : Nat) (m : Nat) : TT2 :=
  Nat.rec (motive := fun _ => TT2) (fun _ _ _ => none) (fun _ ih => s69a5b rec n ih) m

noncomputable def s69a5 (rec : RT) (n : Nat) : TT2 := s69a5l rec n n

noncomputable def s69a4 (rec : RT) (n : Nat) (x4 x14 : DV) (h0 : Hp) : Res :=
  s69a5 rec n x4 x14 h0

noncomputable def s69a2 (rec : RT) (n : Nat) (x0 x4 : DV) (h0 : Hp) : Res :=
  bnd (pNil x0 h0) fun v19 h19 =>
  bnd (pField 0 v19 h19) fun v20 h20 =>
  bnd (pLoad1 v20 h20) fun v21 h21 =>
  bnd (pLenS v21 h21) fun v22 h22 =>
  bnd (rec 47 [x0, (.f 68 [] []), v22] h22) fun v23 h23 =>
  bnd (pRange v23 h23) fun v24 h24 =>
  s69a4 rec n x4 v24 h24

noncomputable def s69a1 (rec : RT) (n : Nat) (x0 : DV) (h0 : Hp) : Res :=
  s69a2 rec n x0 (.i .i64 (Int.ofNat 0)) h0

/-- lex.reader).number -/
noncomputable def s69 (rec : RT) (n : Nat) (x0 : DV) (h0 : Hp) : Res :=
  s69a1 rec n x0 h0

noncomputable abbrev c69 : Code := cf Try.f69
noncomputable abbrev c69x1 : Code := cR c69
noncomputable abbrev c69x2 : Code := cR c69x1
noncomputable abbrev c69x3 : Code := cR c69x2
noncomputable abbrev c69x4 : Code := cL c69x2
noncomputable abbrev c69x5 : Code := cR c69x4
noncomputable abbrev c69x6 : Code := cL c69x5
noncomputable abbrev c69x7 : Code := cL c69x6
noncomputable abbrev c69x8 : Code := cL c69x4
noncomputable abbrev c69x9 : Code := cL c69x1
noncomputable abbrev c69x10 : Code := cL c69

noncomputable def D69 (rec : RT) (n : Nat) (c : Code) (X : Nat → K) (k : K) : K := codeD CF rec 29 n c X (retK CF Try.f69) k

theorem s69a3e : D69 rec n c69x3 x0 (retK CF Try.f69) = (K1 (s69a3 rec n) 4) :=
  (by kernel_rfl)

theorem s69a5be (kk5 : TT2) : D69 rec n c69x7 (xs x0 0 (K1 (s69a3 rec n) 4)) (K2 kk5 4 14) = (K2 (s69a5b rec n kk5) 4 14) :=
  (by kernel_rfl)

theorem s69a5le (m : Nat) : loopN (fun kk => D69 rec n c69x7 (xs x0 0 (K1 (s69a3 rec n) 4)) kk) m = (K2 (s69a5l rec n m) 4 14) := by
  induction m with
  | zero => exact (by kernel_rfl : loopN (fun kk => D69 rec n c69x7 (xs x0 0 (K1 (s69a3 rec n) 4)) kk) 0 = (K2 (s69a5l rec n 0) 4 14))
  | succ m ih =>
    refine (by kernel_rfl : loopN (fun kk => D69 rec n c69x7 (xs x0 0 (K1 (s69a3 rec n) 4)) kk) (m + 1) = D69 rec n c69x7 (xs x0 0 (K1 (s69a3 rec n) 4)) (loopN (fun kk => D69 rec n c69x7 (xs x0 0 (K1 (s69a3 rec n) 4)) kk) m)).trans ?_
    rw [ih]
    exact (s69a5be rec n (s69a5l rec n m)).trans (by kernel_rfl)

theorem s69a5e : D69 rec n c69x6 (xs x0 0 (K1 (s69a3 rec n) 4)) (K1 (s69a3 rec n) 4) = (K2 (s69a5 rec n) 4 14) :=
  (by kernel_rfl : D69 rec n c69x6 (xs x0 0 (K1 (s69a3 rec n) 4)) (K1 (s69a3 rec n) 4) = loopN (fun kk => D69 rec n c69x7 (xs x0 0 (K1 (s69a3 rec n) 4)) kk) n).trans ((s69a5le rec n n).trans (by kernel_rfl))

theorem s69a4e : D69 rec n c69x5 x0 (K1 (s69a3 rec n) 4) = (K2 (s69a4 rec n) 4 14) :=
  (by kernel_rfl : D69 rec n c69x5 x0 (K1 (s69a3 rec n) 4) = D69 rec n c69x6 (xs x0 0 (K1 (s69a3 rec n) 4)) (K1 (s69a3 rec n) 4)).trans
  ((s69a5e rec n).trans (by kernel_rfl))

theorem s69a2p1 : D69 rec n c69x2 x0 (retK CF Try.f69) = D69 rec n c69x4 x0 (K1 (s69a3 rec n) 4) :=
  congrArg (fun k => D69 rec n c69x4 x0 k) (s69a3e rec n)

theorem s69a2p2 : D69 rec n c69x4 x0 (K1 (s69a3 rec n) 4) = D69 rec n c69x8 x0 (K2 (s69a4 rec n) 4 14) :=
  congrArg (fun k => D69 rec n c69x8 x0 k) (s69a4e rec n)

theorem s69a2e : D69 rec n c69x2 x0 (retK CF Try.f69) = (K2 (s69a2 rec n) 0 4) :=
  (s69a2p1 rec n).trans
  ((s69a2p2 rec n).trans
  ((by kernel_rfl)))

theorem s69a1p3 : D69 rec n c69x1 x0 (retK CF Try.f69) = D69 rec n c69x9 x0 (K2 (s69a2 rec n) 0 4) :=
  congrArg (fun k => D69 rec n c69x9 x0 k) (s69a2e rec n)

theorem s69a1e : D69 rec n c69x1 x0 (retK CF Try.f69) = (K1 (s69a1 rec n) 0) :=
  (s69a1p3 rec n).trans
  ((by kernel_rfl))

theorem s69p4 : D69 rec n c69 x0 (retK CF Try.f69) = D69 rec n c69x10 x0 (K1 (s69a1 rec n) 0) :=
  congrArg (fun k => D69 rec n c69x10 x0 k) (s69a1e rec n)

theorem s69m : D69 rec n c69 x0 (retK CF Try.f69) = (K1 (s69 rec n) 0) :=
  (s69p4 rec n).trans
  ((by kernel_rfl))

theorem s69ok (args : List DV) (h : Hp) : bodyD CF rec n 69 args h = s69 rec n (args.getD 0 undefD) h :=
  (by kernel_rfl : bodyD CF rec n 69 args h = D69 rec n c69 x0 (retK CF Try.f69) (argsE args) h).trans ((congrFun (congrFun (s69m rec n) (argsE args)) h).trans (by kernel_rfl))

noncomputable def s70a3b (rec : RT) (n : Nat) (kk3 : TT2) (x0 x4 : DV) (h0 : Hp) : Res :=
    bnd (pNil x0 h0) fun v1 h1 =>
    bnd (pField 0 v1 h1) fun v2 h2 =>
    bnd (pLoad1 v2 h2) fun v3 h3 =>
    bnd (pLenS v3 h3) fun v4 h4 =>
    bnd (rec 47 [x0, (.f 79 [] []), v4] h4) fun v5 h5 =>
    bnd (pStr .add x4 v5 h5) fun v6 h6 =>
    bnd (pNil x0 h6) fun v7 h7 =>
    bnd (pField 1 v7 h7) fun v8 h8 =>
    bnd (pLoad1 v8 h8) fun v9 h9 =>
    bnd (pNil x0 h9) fun v10 h10 =>
    bnd (pField 0 v10 h10) fun v11 h11 =>
    bnd (pLoad1 v11 h11) fun v12 h12 =>
    bnd (pLenS v12 h12) fun v13 h13 =>
    bnd (pInt .geq v9 v13 h13) fun v14 h14 =>
    ifD v14 (
      some (.t [(.s []), (.i .i64 (Int.ofNat 11))], h14)) (
      bnd (pNil x0 h14) fun v15 h15 =>
      bnd (pField 1 v15 h15) fun v16 h16 =>
      bnd (pLoad1 v16 h16) fun v17 h17 =>
      bnd (pInt .add v17 (.i .i64 (Int.ofNat 1)) h17) fun v18 h18 =>
      bnd (pNil x0 h18) fun v19 h19 =>
      bnd (pField 1 v19 h19) fun v20 h20 =>
      bnd (pStore 1 v20 v18 h20) fun _ h21 =>
      bnd (rec 64 [x0, (.i .i64 (Int.ofNat 0))] h21) fun v22 h22 =>
      bnd (pInt .neq v22 (.i .u8 (Int.ofNat 39)) h22) fun v23 h23 =>
      ifD v23 (
        some (.t [v6, (.i .i64 (Int.ofNat 0))], h23)) (
        bnd (pStr .add v6 (.s [39]) h23) fun v24 h24 =>
        bnd (pNil x0 h24) fun v25 h25 =>
        bnd (pField 1 v25 h25) fun v26 h26 =>
        bnd (pLoad1 v26 h26) fun v27 h27 =>
        bnd (pInt .add v27 (.i .i64 (Int.ofNat 1)) h27) fun v28 h28 =>
        bnd (pNil x0 h28) fun v29 h29 =>
        bnd (pField 1 v29 h29) fun v30 h30 =>
        bnd (pStore 1 v30 v28 h30) fun _ h31 =>
        kk3 x0 v24 h31))

noncomputable def s70a3l (rec : RT) (n : Nat) (m : Nat) : TT2 :=
  Nat.rec (motive := fun _ => TT2) (fun _ _ _ => none) (fun _ ih => s70a3b rec n ih) m

noncomputable def s70a3 (rec : RT) (n : Nat) : TT2 := s70a3l rec n n

noncomputable def s70a2 (rec : RT) (n : Nat) (x0 x4 : DV) (h0 : Hp) : Res :=
  s70a3 rec n x0 x4 h0

noncomputable def s70a1 (rec : RT) (n : Nat) (x0 : DV) (h0 : Hp) : Res :=
  s70a2 rec n x0 (.s []) h0

/-- lex.reader).text -/
noncomputable def s70 (rec : RT) (n : Nat) (x0 : DV) (h0 : Hp) : Res :=
  s70a1 rec n x0 h0

noncomputable abbrev c70 : Code := cf Try.f70
noncomputable abbrev c70x1 : Code := cR c70
noncomputable abbrev c70x2 : Code := cR c70x1
noncomputable abbrev c70x3 : Code := cL c70x2
noncomputable abbrev c70x4 : Code := cL c70x3
noncomputable abbrev c70x5 : Code := cL c70x1
noncomputable abbrev c70x6 : Code := cL c70

noncomputable def D70 (rec : RT) (n : Nat) (c : Code) (X : Nat → K) (k : K) : K := codeD CF rec 44 n c X (retK CF Try.f70) k

theorem s70a3be (kk3 : TT2) : D70 rec n c70x4 (xs x0 0 (retK CF Try.f70)) (K2 kk3 0 4) = (K2 (s70a3b rec n kk3) 0 4) :=
  (by kernel_rfl)

theorem s70a3le (m : Nat) : loopN (fun kk => D70 rec n c70x4 (xs x0 0 (retK CF Try.f70)) kk) m = (K2 (s70a3l rec n m) 0 4) := by
  induction m with
  | zero => exact (by kernel_rfl : loopN (fun kk => D70 rec n c70x4 (xs x0 0 (retK CF Try.f70)) kk) 0 = (K2 (s70a3l rec n 0) 0 4))
  | succ m ih =>
    refine (by kernel_rfl : loopN (fun kk => D70 rec n c70x4 (xs x0 0 (retK CF Try.f70)) kk) (m + 1) = D70 rec n c70x4 (xs x0 0 (retK CF Try.f70)) (loopN (fun kk => D70 rec n c70x4 (xs x0 0 (retK CF Try.f70)) kk) m)).trans ?_
    rw [ih]
    exact (s70a3be rec n (s70a3l rec n m)).trans (by kernel_rfl)

theorem s70a3e : D70 rec n c70x3 (xs x0 0 (retK CF Try.f70)) (retK CF Try.f70) = (K2 (s70a3 rec n) 0 4) :=
  (by kernel_rfl : D70 rec n c70x3 (xs x0 0 (retK CF Try.f70)) (retK CF Try.f70) = loopN (fun kk => D70 rec n c70x4 (xs x0 0 (retK CF Try.f70)) kk) n).trans ((s70a3le rec n n).trans (by kernel_rfl))

theorem s70a2e : D70 rec n c70x2 x0 (retK CF Try.f70) = (K2 (s70a2 rec n) 0 4) :=
  (by kernel_rfl : D70 rec n c70x2 x0 (retK CF Try.f70) = D70 rec n c70x3 (xs x0 0 (retK CF Try.f70)) (retK CF Try.f70)).trans
  ((s70a3e rec n).trans (by kernel_rfl))

theorem s70a1p1 : D70 rec n c70x1 x0 (retK CF Try.f70) = D70 rec n c70x5 x0 (K2 (s70a2 rec n) 0 4) :=
  congrArg (fun k => D70 rec n c70x5 x0 k) (s70a2e rec n)

theorem s70a1e : D70 rec n c70x1 x0 (retK CF Try.f70) = (K1 (s70a1 rec n) 0) :=
  (s70a1p1 rec n).trans
  ((by kernel_rfl))

theorem s70p2 : D70 rec n c70 x0 (retK CF Try.f70) = D70 rec n c70x6 x0 (K1 (s70a1 rec n) 0) :=
  congrArg (fun k => D70 rec n c70x6 x0 k) (s70a1e rec n)

theorem s70m : D70 rec n c70 x0 (retK CF Try.f70) = (K1 (s70 rec n) 0) :=
  (s70p2 rec n).trans
  ((by kernel_rfl))

theorem s70ok (args : List DV) (h : Hp) : bodyD CF rec n 70 args h = s70 rec n (args.getD 0 undefD) h :=
  (by kernel_rfl : bodyD CF rec n 70 args h = D70 rec n c70 x0 (retK CF Try.f70) (argsE args) h).trans ((congrFun (congrFun (s70m rec n) (argsE args)) h).trans (by kernel_rfl))

noncomputable def s71a7 (rec : RT) (n : Nat) (x5 : DV) (h0 : Hp) : Res :=
  some (.t [x5, (.i .i64 (Int.ofNat 0))], h0)

noncomputable def s71a8b (rec : RT) (n : Nat) (kk8 : TT2) (x0 x5 : DV) (h0 : Hp) : Res :=
    bnd (rec 64 [x0, (.i .i64 (Int.ofNat 0))] h0) fun v1 h1 =>
    bnd (rec 65 [v1] h1) fun v2 h2 =>
    ifD v2 (
      bnd (pNil x0 h2) fun v3 h3 =>
      bnd (pField 1 v3 h3) fun v4 h4 =>
      bnd (pLoad1 v4 h4) fun v5 h5 =>
      bnd (rec 66 [x0] h5) fun v6 h6 =>
      bnd (pExtract 0 v6 h6) fun v7 h7 =>
      bnd (pExtract 1 v6 h7) fun v8 h8 =>
      bnd (rec 67 [x0] h8) fun v9 h9 =>
      bnd (pUn .not v9 h9) fun v10 h10 =>
      ifD v10 (
        bnd (pNil x0 h10) fun v11 h11 =>
        bnd (pField 1 v11 h11) fun v12 h12 =>
        bnd (pStore 1 v12 v5 h12) fun _ h13 =>
        some (.t [x5, (.i .i64 (Int.ofNat 0))], h13)) (
        bnd (pInt .neq v8 (.i .i64 (Int.ofNat 0)) h10) fun v14 h14 =>
        ifD v14 (
          some (.t [(.s []), v8], h14)) (
          bnd (pStr .add v7 (.s [58]) h14) fun v15 h15 =>
          bnd (pStr .add x5 v15 h15) fun v16 h16 =>
          kk8 x0 v16 h16))) (
      s71a7 rec n x5 h2)

noncomputable def s71a8l (rec : RT) (n : Nat) (m : Nat) : TT2 :=
  Nat.rec (motive := fun _ => TT2) (fun _ _ _ => none) (fun _ ih => s71a8b rec n ih) m

noncomputable def s71a8 (rec : RT) (n : Nat) : TT2 := s71a8l rec n n

noncomputable def s71a6 (rec : RT) (n : Nat) (x0 x5 : DV) (h0 : Hp) : Res :=
  s71a8 rec n x0 x5 h0

noncomputable def s71a5 (rec : RT) (n : Nat) (x0 x5 : DV) (h0 : Hp) : Res :=
  bnd (pStr .add x5 (.s [58]) h0) fun v33 h33 =>
  s71a6 rec n x0 v33 h33

noncomputable def s71a4 (rec : RT) (n : Nat) (x0 x5 x6 : DV) (h0 : Hp) : Res :=
  bnd (pInt .neq x6 (.i .i64 (Int.ofNat 0)) h0) fun v35 h35 =>
  bnd (gD v35 false (some (x0, h35)) h35) fun v36 h36 =>
  bnd (gD v35 false (rec 67 [v36] h36) h36) fun v37 h37 =>
  bnd (gD v35 false (pUn .not v37 h37) h37) fun v38 h38 =>
  bnd (pPick v35 (.b true) v38 h38) fun v39 h39 =>
  ifD v39 (
    some (.t [x5, x6], h39)) (
    s71a5 rec n x0 x5 h39)

noncomputable def s71a3 (rec : RT) (n : Nat) (x0 : DV) (h0 : Hp) : Res :=
  bnd (rec 66 [x0] h0) fun v45 h45 =>
  bnd (pExtract 0 v45 h45) fun v46 h46 =>
  bnd (pExtract 1 v45 h46) fun v47 h47 =>
  s71a4 rec n x0 v46 v47 h47

noncomputable def s71a2 (rec : RT) (n : Nat) (x0 : DV) (h0 : Hp) : Res :=
  bnd (rec 64 [x0, (.i .i64 (Int.ofNat 0))] h0) fun v51 h51 =>
  bnd (rec 65 [v51] h51) fun v52 h52 =>
  bnd (pUn .not v52 h52) fun v53 h53 =>
  ifD v53 (
    some (.t [(.s []), (.i .i64 (Int.ofNat 10))], h53)) (
    s71a3 rec n x0 h53)

noncomputable def s71a1 (rec : RT) (n : Nat) (x0 : DV) (h0 : Hp) : Res :=
  bnd (rec 48 [(.s [43, 45, 42, 47, 60, 62, 61, 126, 44, 64, 38, 37])] h0) fun v57 h57 =>
  bnd (rec 47 [x0, v57, (.i .i64 (Int.ofNat 2))] h57) fun v58 h58 =>
  bnd (pStr .neq v58 (.s []) h58) fun v59 h59 =>
  ifD v59 (
    some (.t [v58, (.i .i64 (Int.ofNat 0))], h59)) (
    s71a2 rec n x0 h59)

/-- lex.reader).symbol -/
noncomputable def s71 (rec : RT) (n : Nat) (x0 : DV) (h0 : Hp) : Res :=
  s71a1 rec n x0 h0

noncomputable abbrev c71 : Code := cf Try.f71
noncomputable abbrev c71x1 : Code := cR c71
noncomputable abbrev c71x2 : Code := cR c71x1
noncomputable abbrev c71x3 : Code := cR c71x2
noncomputable abbrev c71x4 : Code := cR c71x3
noncomputable abbrev c71x5 : Code := cR c71x4
noncomputable abbrev c71x6 : Code := cR c71x5
noncomputable abbrev c71x7 : Code := cR c71x6
noncomputable abbrev c71x8 : Code := cL c71x6
noncomputable abbrev c71x9 : Code := cL c71x8
noncomputable abbrev c71x10 : Code := cL c71x9
noncomputable abbrev c71x11 : Code := cL c71x5
noncomputable abbrev c71x12 : Code := cL c71x4
noncomputable abbrev c71x13 : Code := cL c71x3
noncomputable abbrev c71x14 : Code := cL c71x2
noncomputable abbrev c71x15 : Code := cL c71x1
noncomputable abbrev c71x16 : Code := cL c71

noncomputable def D71 (rec : RT) (n : Nat) (c : Code) (X : Nat → K) (k : K) : K := codeD CF rec 64 n c X (retK CF Try.f71) k

theorem s71a7e : D71 rec n c71x7 x0 (retK CF Try.f71) = (K1 (s71a7 rec n) 5) :=
  (by kernel_rfl)

theorem s71a8be (kk8 : TT2) : D71 rec n c71x10 (xs x0 0 (K1 (s71a7 rec n) 5)) (K2 kk8 0 5) = (K2 (s71a8b rec n kk8) 0 5) :=
  (by kernel_rfl)

theorem s71a8le (m : Nat) : loopN (fun kk => D71 rec n c71x10 (xs x0 0 (K1 (s71a7 rec n) 5)) kk) m = (K2 (s71a8l rec n m) 0 5) := by
  induction m with
  | zero => exact (by kernel_rfl : loopN (fun kk => D71 rec n c71x10 (xs x0 0 (K1 (s71a7 rec n) 5)) kk) 0 = (K2 (s71a8l rec n 0) 0 5))
  | succ m ih =>
    refine (by kernel_rfl : loopN (fun kk => D71 rec n c71x10 (xs x0 0 (K1 (s71a7 rec n) 5)) kk) (m + 1) = D71 rec n c71x10 (xs x0 0 (K1 (s71a7 rec n) 5)) (loopN (fun kk => D71 rec n c71x10 (xs x0 0 (K1 (s71a7 rec n) 5)) kk) m)).trans ?_
    rw [ih]
    exact (s71a8be rec n (s71a8l rec n m)).trans (by kernel_rfl)

theorem s71a8e : D71 rec n c71x9 (xs x0 0 (K1 (s71a7 rec n) 5)) (K1 (s71a7 rec n) 5) = (K2 (s71a8 rec n) 0 5) :=
  (by kernel_rfl : D71 rec n c71x9 (xs x0 0 (K1 (s71a7 rec n) 5)) (K1 (s71a7 rec n) 5) = loopN (fun kk => D71 rec n c71x10 (xs x0 0 (K1 (s71a7 rec n) 5)) kk) n).trans ((s71a8le rec n n).trans (by kernel_rfl))

theorem s71a6p1 : D71 rec n c71x6 x0 (retK CF Try.f71) = D71 rec n c71x8 x0 (K1 (s71a7 rec n) 5) :=
  congrArg (fun k => D71 rec n c71x8 x0 k) (s71a7e rec n)

theorem s71a6e : D71 rec n c71x6 x0 (retK CF Try.f71) = (K2 (s71a6 rec n) 0 5) :=
  (s71a6p1 rec n).trans
  ((by kernel_rfl : D71 rec n c71x8 x0 (K1 (s71a7 rec n) 5) = D71 rec n c71x9 (xs x0 0 (K1 (s71a7 rec n) 5)) (K1 (s71a7 rec n) 5)).trans
  ((s71a8e rec n).trans (by kernel_rfl)))

theorem s71a5p2 : D71 rec n c71x5 x0 (retK CF Try.f71) = D71 rec n c71x11 x0 (K2 (s71a6 rec n) 0 5) :=
  congrArg (fun k => D71 rec n c71x11 x0 k) (s71a6e rec n)

theorem s71a5e : D71 rec n c71x5 x0 (retK CF Try.f71) = (K2 (s71a5 rec n) 0 5) :=
  (s71a5p2 rec n).trans
  ((by kernel_rfl))

theorem s71a4p3 : D71 rec n c71x4 x0 (retK CF Try.f71) = D71 rec n c71x12 x0 (K2 (s71a5 rec n) 0 5) :=
  congrArg (fun k => D71 rec n c71x12 x0 k) (s71a5e rec n)

theorem s71a4e : D71 rec n c71x4 x0 (retK CF Try.f71) = (K3 (s71a4 rec n) 0 5 6) :=
  (s71a4p3 rec n).trans
  ((by kernel_rfl))

theorem s71a3p4 : D71 rec n c71x3 x0 (retK CF Try.f71) = D71 rec n c71x13 x0 (K3 (s71a4 rec n) 0 5 6) :=
  congrArg (fun k => D71 rec n c71x13 x0 k) (s71a4e rec n)

theorem s71a3e : D71 rec n c71x3 x0 (retK CF Try.f71) = (K1 (s71a3 rec n) 0) :=
  (s71a3p4 rec n).trans
  ((by kernel_rfl))

theorem s71a2p5 : D71 rec n c71x2 x0 (retK CF Try.f71) = D71 rec n c71x14 x0 (K1 (s71a3 rec n) 0) :=
  congrArg (fun k => D71 rec n c71x14 x0 k) (s71a3e rec n)

theorem s71a2e : D71 rec n c71x2 x0 (retK CF Try.f71) = (K1 (s71a2 rec n) 0) :=
  (s71a2p5 rec n).trans
  ((by kernel_rfl))

theorem s71a1p6 : D71 rec n c71x1 x0 (retK CF Try.f71) = D71 rec n c71x15 x0 (K1 (s71a2 rec n) 0) :=
  congrArg (fun k => D71 rec n c71x15 x0 k) (s71a2e rec n)

theorem s71a1e : D71 rec n c71x1 x0 (retK CF Try.f71) = (K1 (s71a1 rec n) 0) :=
  (s71a1p6 rec n).trans
  ((by kernel_rfl))

theorem s71p7 : D71 rec n c71 x0 (retK CF Try.f71) = D71 rec n c71x16 x0 (K1 (s71a1 rec n) 0) :=
  congrArg (fun k => D71 rec n c71x16 x0 k) (s71a1e rec n)

theorem s71m : D71 rec n c71 x0 (retK CF Try.f71) = (K1 (s71 rec n) 0) :=
  (s71p7 rec n).trans
  ((by kernel_rfl))

theorem s71ok (args : List DV) (h : Hp) : bodyD CF rec n 71 args h = s71 rec n (args.getD 0 undefD) h :=
  (by kernel_rfl : bodyD CF rec n 71 args h = D71 rec n c71 x0 (retK CF Try.f71) (argsE args) h).trans ((congrFun (congrFun (s71m rec n) (argsE args)) h).trans (by kernel_rfl))

noncomputable def s72a6 (rec : RT) (n : Nat) (x2 x4 : DV) (h0 : Hp) : Res :=
  bnd (pLoadA 6 x4 h0) fun v1 h1 =>
  bnd (pStore 6 x2 v1 h1) fun _ h2 =>
  bnd (pLoadA 6 x2 h2) fun v3 _ =>
  some (v3, h2)

noncomputable def s72a7b (rec : RT) (n : Nat) (kk7 : TT3) (x0 x2 x4 : DV) (h0 : Hp) : Res :=
    bnd (rec 51 [x0, (.i .i64 (Int.ofNat 10)), (.s [59])] h0) fun v7 h7 =>
    ifD v7 (
      bnd (rec 52 [x0] h7) fun v8 h8 =>
      bnd (pField 5 x4 (resv 1 h8)) fun v9 h9 =>
      bnd (pLoad1 v9 h9) fun v10 h10 =>
      bnd (rec 85 [x0] h10) fun v11 h11 =>
      cnd (sameR (pLoad1 v9 h11) v10 && true) (
      bnd (rec 84 [v11] h11) fun v12 h12 =>
      cnd (sameR (pLoad1 v9 h12) v10 && true) (
      bnd (pBuildSliceAt (nthPos 0 h8.next) [(.i .i64 (Int.ofNat 0)), (.s []), (.i .i64 (Int.ofNat 0)), .l0, .l0, .l0] 1 [(0, 6, v12)] h12) fun v13 h13 =>
      bnd (pAppend 6 104 v10 v13 h13) fun v14 h14 =>
      bnd (pField 5 x4 h14) fun v15 h15 =>
      bnd (pStore 1 v15 v14 h15) fun v16 h16 =>
      kk7 x0 x2 x4 h16))) (
      s72a6 rec n x2 x4 h7)

noncomputable def s72a7l (rec : RT) (n : Nat) (m : Nat) : TT3 :=
  Nat.rec (motive := fun _ => TT3) (fun _ _ _ _ => none) (fun _ ih => s72a7b rec n ih) m

noncomputable def s72a7 (rec : RT) (n : Nat) : TT3 := s72a7l rec n n

noncomputable def s72a5 (rec : RT) (n : Nat) (x0 x2 x4 : DV) (h0 : Hp) : Res :=
  s72a7 rec n x0 x2 x4 h0

noncomputable def s72a4 (rec : RT) (n : Nat) (x0 x2 x3 : DV) (h0 : Hp) : Res :=
  bnd (pField 5 x3 (resv 2 h0)) fun v47 h47 =>
  bnd (pLoad1 v47 h47) fun v48 h48 =>
  bnd (pIndexAddr 6 v48 (.i .i64 (Int.ofNat 0)) h48) fun v49 h49 =>
  bnd (pLoadA 6 v49 h49) fun v50 h50 =>
  bnd (pLoadA 6 x3 h50) fun v51 h51 =>
  bnd (rec 84 [v51] h51) fun v52 h52 =>
  cnd (sameR (pLoadA 6 v49 h52) v50 && (sameR (pLoad1 v47 h52) v48 && true)) (
  bnd (pBuildSliceAt (nthPos 0 h0.next) [(.i .i64 (Int.ofNat 0)), (.s []), (.i .i64 (Int.ofNat 0)), .l0, .l0, .l0, (.i .i64 (Int.ofNat 0)), (.s []), (.i .i64 (Int.ofNat 0)), .l0, .l0, .l0] 2 [(0, 6, v50), (6, 6, v52)] h52) fun v53 h53 =>
  bnd (pBuild [(.i .i64 (Int.ofNat 0)), (.s []), (.i .i64 (Int.ofNat 0)), .l0, .l0, .l0] [(0, 1, (.i .i64 (Int.ofNat 8))), (5, 1, v53)] h53) fun v54 h54 =>
  bnd (pNewAt (nthPos 1 h0.next) [(.i .i64 (Int.ofNat 0)), (.s []), (.i .i64 (Int.ofNat 0)), .l0, .l0, .l0] h54) fun v55 h55 =>
  bnd (pStore 6 v55 v54 h55) fun v56 h56 =>
  s72a5 rec n x0 x2 v55 h56)

noncomputable def s72a3 (rec : RT) (n : Nat) (x0 x2 x3 : DV) (h0 : Hp) : Res :=
  bnd (pField 0 x3 h0) fun v87 h87 =>
  bnd (pLoad1 v87 h87) fun v88 h88 =>
  bnd (pInt .neq v88 (.i .i64 (Int.ofNat 7)) h88) fun v89 h89 =>
  ifD v89 (
    bnd (rec 55 [x0, (.i .i64 (Int.ofNat 0))] h89) fun v90 h90 =>
    bnd (rec 54 [x0, v90, (.i .i64 (Int.ofNat 13))] h90) fun v91 h91 =>
    bnd (pLoadA 6 x3 h91) fun v92 h92 =>
    bnd (pStore 6 x2 v92 h92) fun _ h93 =>
    bnd (pLoadA 6 x2 h93) fun v94 _ =>
    some (v94, h93)) (
    s72a4 rec n x0 x2 x3 h89)

noncomputable def s72a2 (rec : RT) (n : Nat) (x0 x2 x3 : DV) (h0 : Hp) : Res :=
  bnd (rec 51 [x0, (.i .i64 (Int.ofNat 10)), (.s [59])] h0) fun v103 h103 =>
  bnd (pUn .not v103 h103) fun v104 h104 =>
  ifD v104 (
    bnd (pLoadA 6 x3 h104) fun v105 h105 =>
    bnd (pStore 6 x2 v105 h105) fun _ h106 =>
    bnd (pLoadA 6 x2 h106) fun v107 _ =>
    some (v107, h106)) (
    s72a3 rec n x0 x2 x3 h104)

noncomputable def s72a1 (rec : RT) (n : Nat) (x0 x2 : DV) (h0 : Hp) : Res :=
  bnd (rec 83 [x0] h0) fun v113 h113 =>
  bnd (rec 82 [x0, v113] h113) fun v114 h114 =>
  bnd (rec 81 [x0, v114] h114) fun v115 h115 =>
  bnd (rec 80 [x0, v115] h115) fun v116 h116 =>
  bnd (pNew [(.i .i64 (Int.ofNat 0)), (.s []), (.i .i64 (Int.ofNat 0)), .l0, .l0, .l0] h116) fun v117 h117 =>
  bnd (pStore 6 v117 v116 h117) fun _ h118 =>
  s72a2 rec n x0 x2 v117 h118

/-- parse.parser).cascade -/
noncomputable def s72 (rec : RT) (n : Nat) (x0 : DV) (h0 : Hp) : Res :=
  bnd (pNew [(.i .i64 (Int.ofNat 0)), (.s []), (.i .i64 (Int.ofNat 0)), .l0, .l0, .l0] h0) fun v137 h137 =>
  s72a1 rec n x0 v137 h137

noncomputable abbrev c72 : Code := cf Try.f72
noncomputable abbrev c72x1 : Code := cR c72
noncomputable abbrev c72x2 : Code := cR c72x1
noncomputable abbrev c72x3 : Code := cR c72x2
noncomputable abbrev c72x4 : Code := cR c72x3
noncomputable abbrev c72x5 : Code := cR c72x4
noncomputable abbrev c72x6 : Code := cR c72x5
noncomputable abbrev c72x7 : Code := cL c72x5
noncomputable abbrev c72x8 : Code := cL c72x7
noncomputable abbrev c72x9 : Code := cL c72x8
noncomputable abbrev c72x10 : Code := cL c72x4
noncomputable abbrev c72x11 : Code := cL c72x3
noncomputable abbrev c72x12 : Code := cL c72x2
noncomputable abbrev c72x13 : Code := cL c72x1
noncomputable abbrev c72x14 : Code := cL c72

noncomputable def D72 (rec : RT) (n : Nat) (c : Code) (X : Nat → K) (k : K) : K := codeD CF rec 46 n c X (retK CF Try.f72) k

theorem s72a6e : D72 rec n c72x6 x0 (retK CF Try.f72) = (K2 (s72a6 rec n) 2 4) :=
  (by kernel_rfl)

theorem s72a7q1 (kk7 : TT3) (q0 : TT2) : D72 rec n c72x9 (xs x0 0 (K2 q0 2 4)) (K3 kk7 0 2 4) = fun (env : Env) (h : Hp) =>
    bnd (rec 51 [(env 0), (.i .i64 (Int.ofNat 10)), (.s [59])] h) fun v27 h27 =>
    ifD v27 (
      bnd (rec 52 [(env 0)] h27) fun v28 h28 =>
      bnd (pField 5 (env 4) (resv 1 h28)) fun v29 h29 =>
      bnd (pLoad1 v29 h29) fun v30 h30 =>
      bnd (rec 85 [(env 0)] h30) fun v31 h31 =>
      cnd (sameR (pLoad1 v29 h31) v30 && true) (
      bnd (rec 84 [v31] h31) fun v32 h32 =>
      cnd (sameR (pLoad1 v29 h32) v30 && true) (
      bnd (pBuildSliceAt (nthPos 0 h28.next) [(.i .i64 (Int.ofNat 0)), (.s []), (.i .i64 (Int.ofNat 0)), .l0, .l0, .l0] 1 [(0, 6, v32)] h32) fun v33 h33 =>
      bnd (pAppend 6 104 v30 v33 h33) fun v34 h34 =>
      bnd (pField 5 (env 4) h34) fun v35 h35 =>
      bnd (pStore 1 v35 v34 h35) fun v36 h36 =>
      kk7 (env 0) (env 2) (env 4) h36))) (
      q0 (env 2) (env 4) h27) := by kernel_rfl

theorem s72a7q1u (kk7 : TT3) : (fun (env : Env) (h : Hp) =>
    bnd (rec 51 [(env 0), (.i .i64 (Int.ofNat 10)), (.s [59])] h) fun v37 h37 =>
    ifD v37 (
      bnd (rec 52 [(env 0)] h37) fun v38 h38 =>
      bnd (pField 5 (env 4) (resv 1 h38)) fun v39 h39 =>
      bnd (pLoad1 v39 h39) fun v40 h40 =>
      bnd (rec 85 [(env 0)] h40) fun v41 h41 =>
      cnd (sameR (pLoad1 v39 h41) v40 && true) (
      bnd (rec 84 [v41] h41) fun v42 h42 =>
      cnd (sameR (pLoad1 v39 h42) v40 && true) (
      bnd (pBuildSliceAt (nthPos 0 h38.next) [(.i .i64 (Int.ofNat 0)), (.s []), (.i .i64 (Int.ofNat 0)), .l0, .l0, .l0] 1 [(0, 6, v42)] h42) fun v43 h43 =>
      bnd (pAppend 6 104 v40 v43 h43) fun v44 h44 =>
      bnd (pField 5 (env 4) h44) fun v45 h45 =>
      bnd (pStore 1 v45 v44 h45) fun v46 h46 =>
      kk7 (env 0) (env 2) (env 4) h46))) (
      s72a6 rec n (env 2) (env 4) h37)) = (K3 (s72a7b rec n kk7) 0 2 4) := by kernel_rfl

theorem s72a7be (kk7 : TT3) : D72 rec n c72x9 (xs x0 0 (K2 (s72a6 rec n) 2 4)) (K3 kk7 0 2 4) = (K3 (s72a7b rec n kk7) 0 2 4) :=
  (s72a7q1 rec n kk7 (s72a6 rec n)).trans (s72a7q1u rec n kk7)

theorem s72a7le (m : Nat) : loopN (fun kk => D72 rec n c72x9 (xs x0 0 (K2 (s72a6 rec n) 2 4)) kk) m = (K3 (s72a7l rec n m) 0 2 4) := by
  induction m with
  | zero => exact (by kernel_rfl : loopN (fun kk => D72 rec n c72x9 (xs x0 0 (K2 (s72a6 rec n) 2 4)) kk) 0 = (K3 (s72a7l rec n 0) 0 2 4))
  | succ m ih =>
    refine (by kernel_rfl : loopN (fun kk => D72 rec n c72x9 (xs x0 0 (K2 (s72a6 rec n) 2 4)) kk) (m + 1) = D72 rec n c72x9 (xs x0 0 (K2 (s72a6 rec n) 2 4)) (loopN (fun kk => D72 rec n c72x9 (xs x0 0 (K2 (s72a6 rec n) 2 4)) kk) m)).trans ?_
    rw [ih]
    exact (s72a7be rec n (s72a7l rec n m)).trans (by kernel_rfl)

theorem s72a7e : D72 rec n c72x8 (xs x0 0 (K2 (s72a6 rec n) 2 4)) (K2 (s72a6 rec n) 2 4) = (K3 (s72a7 rec n) 0 2 4) :=
  (by kernel_rfl : D72 rec n c72x8 (xs x0 0 (K2 (s72a6 rec n) 2 4)) (K2 (s72a6 rec n) 2 4) = loopN (fun kk => D72 rec n c72x9 (xs x0 0 (K2 (s72a6 rec n) 2 4)) kk) n).trans ((s72a7le rec n n).trans (by kernel_rfl))

theorem s72a5p2 : D72 rec n c72x5 x0 (retK CF Try.f72) = D72 rec n c72x7 x0 (K2 (s72a6 rec n) 2 4) :=
  congrArg (fun k => D72 rec n c72x7 x0 k) (s72a6e rec n)

theorem s72a5e : D72 rec n c72x5 x0 (retK CF Try.f72) = (K3 (s72a5 rec n) 0 2 4) :=
  (s72a5p2 rec n).trans
  ((by kernel_rfl : D72 rec n c72x7 x0 (K2 (s72a6 rec n) 2 4) = D72 rec n c72x8 (xs x0 0 (K2 (s72a6 rec n) 2 4)) (K2 (s72a6 rec n) 2 4)).trans
  ((s72a7e rec n).trans (by kernel_rfl)))

theorem s72a4p3 : D72 rec n c72x4 x0 (retK CF Try.f72) = D72 rec n c72x10 x0 (K3 (s72a5 rec n) 0 2 4) :=
  congrArg (fun k => D72 rec n c72x10 x0 k) (s72a5e rec n)

theorem s72a4q4 (q0 : TT3) : D72 rec n c72x10 x0 (K3 q0 0 2 4) = fun (env : Env) (h : Hp) =>
    bnd (pField 5 (env 3) (resv 2 h)) fun v67 h67 =>
    bnd (pLoad1 v67 h67) fun v68 h68 =>
    bnd (pIndexAddr 6 v68 (.i .i64 (Int.ofNat 0)) h68) fun v69 h69 =>
    bnd (pLoadA 6 v69 h69) fun v70 h70 =>
    bnd (pLoadA 6 (env 3) h70) fun v71 h71 =>
    bnd (rec 84 [v71] h71) fun v72 h72 =>
    cnd (sameR (pLoadA 6 v69 h72) v70 && (sameR (pLoad1 v67 h72) v68 && true)) (
    bnd (pBuildSliceAt (nthPos 0 h.next) [(.i .i64 (Int.ofNat 0)), (.s []), (.i .i64 (Int.ofNat 0)), .l0, .l0, .l0, (.i .i64 (Int.ofNat 0)), (.s []), (.i .i64 (Int.ofNat 0)), .l0, .l0, .l0] 2 [(0, 6, v70), (6, 6, v72)] h72) fun v73 h73 =>
    bnd (pBuild [(.i .i64 (Int.ofNat 0)), (.s []), (.i .i64 (Int.ofNat 0)), .l0, .l0, .l0] [(0, 1, (.i .i64 (Int.ofNat 8))), (5, 1, v73)] h73) fun v74 h74 =>
    bnd (pNewAt (nthPos 1 h.next) [(.i .i64 (Int.ofNat 0)), (.s []), (.i .i64 (Int.ofNat 0)), .l0, .l0, .l0] h74) fun v75 h75 =>
    bnd (pStore 6 v75 v74 h75) fun v76 h76 =>
    q0 (env 0) (env 2) v75 h76) := by kernel_rfl

theorem s72a4q4u : (fun (env : Env) (h : Hp) =>
    bnd (pField 5 (env 3) (resv 2 h)) fun v77 h77 =>
    bnd (pLoad1 v77 h77) fun v78 h78 =>
    bnd (pIndexAddr 6 v78 (.i .i64 (Int.ofNat 0)) h78) fun v79 h79 =>
    bnd (pLoadA 6 v79 h79) fun v80 h80 =>
    bnd (pLoadA 6 (env 3) h80) fun v81 h81 =>
    bnd (rec 84 [v81] h81) fun v82 h82 =>
    cnd (sameR (pLoadA 6 v79 h82) v80 && (sameR (pLoad1 v77 h82) v78 && true)) (
    bnd (pBuildSliceAt (nthPos 0 h.next) [(.i .i64 (Int.ofNat 0)), (.s []), (.i .i64 (Int.ofNat 0)), .l0, .l0, .l0, (.i .i64 (Int.ofNat 0)), (.s []), (.i .i64 (Int.ofNat 0)), .l0, .l0, .l0] 2 [(0, 6, v80), (6, 6, v82)] h82) fun v83 h83 =>
    bnd (pBuild [(.i .i64 (Int.ofNat 0)), (.s []), (.i .i64 (Int.ofNat 0)), .l0, .l0, .l0] [(0, 1, (.i .i64 (Int.ofNat 8))), (5, 1, v83)] h83) fun v84 h84 =>
    bnd (pNewAt (nthPos 1 h.next) [(.i .i64 (Int.ofNat 0)), (.s []), (.i .i64 (Int.ofNat 0)), .l0, .l0, .l0] h84) fun v85 h85 =>
    bnd (pStore 6 v85 v84 h85) fun v86 h86 =>
    s72a5 rec n (env 0) (env 2) v85 h86)) = (K3 (s72a4 rec n) 0 2 3) := by kernel_rfl

theorem s72a4e : D72 rec n c72x4 x0 (retK CF Try.f72) = (K3 (s72a4 rec n) 0 2 3) :=
  (s72a4p3 rec n).trans
  ((s72a4q4 rec n (s72a5 rec n)).trans (s72a4q4u rec n))

theorem s72a3p5 : D72 rec n c72x3 x0 (retK CF Try.f72) = D72 rec n c72x11 x0 (K3 (s72a4 rec n) 0 2 3) :=
  congrArg (fun k => D72 rec n c72x11 x0 k) (s72a4e rec n)

theorem s72a3e : D72 rec n c72x3 x0 (retK CF Try.f72) = (K3 (s72a3 rec n) 0 2 3) :=
  (s72a3p5 rec n).trans
  ((by kernel_rfl))

theorem s72a2p6 : D72 rec n c72x2 x0 (retK CF Try.f72) = D72 rec n c72x12 x0 (K3 (s72a3 rec n) 0 2 3) :=
  congrArg (fun k => D72 rec n c72x12 x0 k) (s72a3e rec n)

theorem s72a2e : D72 rec n c72x2 x0 (retK CF Try.f72) = (K3 (s72a2 rec n) 0 2 3) :=
  (s72a2p6 rec n).trans
  ((by kernel_rfl))

theorem s72a1p7 : D72 rec n c72x1 x0 (retK CF Try.f72) = D72 rec n c72x13 x0 (K3 (s72a2 rec n) 0 2 3) :=
  congrArg (fun k => D72 rec n c72x13 x0 k) (s72a2e rec n)

theorem s72a1q8 (q0 : TT3) : D72 rec n c72x13 x0 (K3 q0 0 2 3) = fun (env : Env) (h : Hp) =>
    bnd (rec 83 [(env 0)] h) fun v125 h125 =>
    bnd (rec 82 [(env 0), v125] h125) fun v126 h126 =>
    bnd (rec 81 [(env 0), v126] h126) fun v127 h127 =>
    bnd (rec 80 [(env 0), v127] h127) fun v128 h128 =>
    bnd (pNew [(.i .i64 (Int.ofNat 0)), (.s []), (.i .i64 (Int.ofNat 0)), .l0, .l0, .l0] h128) fun v129 h129 =>
    bnd (pStore 6 v129 v128 h129) fun _ h130 =>
    q0 (env 0) (env 2) v129 h130 := by kernel_rfl

theorem s72a1q8u : (fun (env : Env) (h : Hp) =>
    bnd (rec 83 [(env 0)] h) fun v131 h131 =>
    bnd (rec 82 [(env 0), v131] h131) fun v132 h132 =>
    bnd (rec 81 [(env 0), v132] h132) fun v133 h133 =>
    bnd (rec 80 [(env 0), v133] h133) fun v134 h134 =>
    bnd (pNew [(.i .i64 (Int.ofNat 0)), (.s []), (.i .i64 (Int.ofNat 0)), .l0, .l0, .l0] h134) fun v135 h135 =>
    bnd (pStore 6 v135 v134 h135) fun _ h136 =>
    s72a2 rec n (env 0) (env 2) v135 h136) = (K2 (s72a1 rec n) 0 2) := by kernel_rfl

theorem s72a1e : D72 rec n c72x1 x0 (retK CF Try.f72) = (K2 (s72a1 rec n) 0 2) :=
  (s72a1p7 rec n).trans
  ((s72a1q8 rec n (s72a2 rec n)).trans (s72a1q8u rec n))

theorem s72p9 : D72 rec n c72 x0 (retK CF Try.f72) = D72 rec n c72x14 x0 (K2 (s72a1 rec n) 0 2) :=
  congrArg (fun k => D72 rec n c72x14 x0 k) (s72a1e rec n)

theorem s72q10 (q0 : TT2) : D72 rec n c72x14 x0 (K2 q0 0 2) = fun (env : Env) (h : Hp) =>
    bnd (pNew [(.i .i64 (Int.ofNat 0)), (.s []), (.i .i64 (Int.ofNat 0)), .l0, .l0, .l0] h) fun v139 h139 =>
    q0 (env 0) v139 h139 := by kernel_rfl

theorem s72q10u : (fun (env : Env) (h : Hp) =>
    bnd (pNew [(.i .i64 (Int.ofNat 0)), (.s []), (.i .i64 (Int.ofNat 0)), .l0, .l0, .l0] h) fun v140 h140 =>
    s72a1 rec n (env 0) v140 h140) = (K1 (s72 rec n) 0) := by kernel_rfl

theorem s72m : D72 rec n c72 x0 (retK CF Try.f72) = (K1 (s72 rec n) 0) :=
  (s72p9 rec n).trans
  ((s72q10 rec n (s72a1 rec n)).trans (s72q10u rec n))

theorem s72ok (args : List DV) (h : Hp) : bodyD CF rec n 72 args h = s72 rec n (args.getD 0 undefD) h :=
  (by kernel_rfl : bodyD CF rec n 72 args h = D72 rec n c72 x0 (retK CF Try.f72) (argsE args) h).trans ((congrFun (congrFun (s72m rec n) (argsE args)) h).trans (by kernel_rfl))

end Go.Dd

/- Dd, part Q5 (printed by gen.py): functions of the seat's program as Lean functions, linked to Dd. -/
set_option linter.unusedVariables false
set_option maxRecDepth 100000
namespace Go.Dd
open Go.Proofs

variable (rec : RT) (n : Nat)

/-- lex.reader).name$1 -/
noncomputable def s78 (rec : RT) (n : Nat) (x0 : DV) (h0 : Hp) : Res :=
  bnd (rec 65 [x0] h0) fun v1 h1 =>
  bnd (gD v1 false (some (x0, h1)) h1) fun v2 h2 =>
  bnd (gD v1 false (rec 68 [v2] h2) h2) fun v3 h3 =>
  bnd (pPick v1 (.b true) v3 h3) fun v4 h4 =>
  some (v4, h4)

noncomputable abbrev c78 : Code := cf Try.f78

noncomputable def D78 (rec : RT) (n : Nat) (c : Code) (X : Nat → K) (k : K) : K := codeD CF rec 9 n c X (retK CF Try.f78) k

theorem s78m : D78 rec n c78 x0 (retK CF Try.f78) = (K1 (s78 rec n) 0) :=
  (by kernel_rfl)

theorem s78ok (args : List DV) (h : Hp) : bodyD CF rec n 78 args h = s78 rec n (args.getD 0 undefD) h :=
  (by kernel_rfl : bodyD CF rec n 78 args h = D78 rec n c78 x0 (retK CF Try.f78) (argsE args) h).trans ((congrFun (congrFun (s78m rec n) (argsE args)) h).trans (by kernel_rfl))

/-- lex.reader).text$1 -/
noncomputable def s79 (rec : RT) (n : Nat) (x0 : DV) (h0 : Hp) : Res :=
  bnd (pInt .neq x0 (.i .u8 (Int.ofNat 39)) h0) fun v1 h1 =>
  some (v1, h1)

noncomputable abbrev c79 : Code := cf Try.f79

noncomputable def D79 (rec : RT) (n : Nat) (c : Code) (X : Nat → K) (k : K) : K := codeD CF rec 5 n c X (retK CF Try.f79) k

theorem s79m : D79 rec n c79 x0 (retK CF Try.f79) = (K1 (s79 rec n) 0) :=
  (by kernel_rfl)

theorem s79ok (args : List DV) (h : Hp) : bodyD CF rec n 79 args h = s79 rec n (args.getD 0 undefD) h :=
  (by kernel_rfl : bodyD CF rec n 79 args h = D79 rec n c79 x0 (retK CF Try.f79) (argsE args) h).trans ((congrFun (congrFun (s79m rec n) (argsE args)) h).trans (by kernel_rfl))

noncomputable def s80a4 (rec : RT) (n : Nat) (x4 x5 : DV) (h0 : Hp) : Res :=
  bnd (pLoadA 6 x5 h0) fun v1 h1 =>
  bnd (pStore 6 x4 v1 h1) fun _ h2 =>
  bnd (pLoadA 6 x4 h2) fun v3 _ =>
  some (v3, h2)

noncomputable def s80a5b (rec : RT) (n : Nat) (kk5 : TT3) (x0 x4 x5 : DV) (h0 : Hp) : Res :=
    bnd (rec 51 [x0, (.i .i64 (Int.ofNat 2)), (.s [])] h0) fun v7 h7 =>
    ifD v7 (
      bnd (pField 1 x5 h7) fun v8 h8 =>
      bnd (pLoad1 v8 h8) fun v9 h9 =>
      bnd (rec 52 [x0] h9) fun v10 h10 =>
      cnd (sameR (pLoad1 v8 h10) v9 && true) (
      bnd (pPart1 1 v10 h10) fun v11 h11 =>
      bnd (pStr .add v9 v11 h11) fun v12 h12 =>
      bnd (pField 1 x5 h12) fun v13 h13 =>
      bnd (pStore 1 v13 v12 h13) fun v14 h14 =>
      bnd (pField 5 x5 (resv 1 h14)) fun v15 h15 =>
      bnd (pLoad1 v15 h15) fun v16 h16 =>
      bnd (rec 83 [x0] h16) fun v17 h17 =>
      cnd (sameR (pLoad1 v15 h17) v16 && true) (
      bnd (rec 82 [x0, v17] h17) fun v18 h18 =>
      cnd (sameR (pLoad1 v15 h18) v16 && true) (
      bnd (rec 81 [x0, v18] h18) fun v19 h19 =>
      cnd (sameR (pLoad1 v15 h19) v16 && true) (
      bnd (pBuildSliceAt (nthPos 0 h14.next) [(.i .i64 (Int.ofNat 0)), (.s []), (.i .i64 (Int.ofNat 0)), .l0, .l0, .l0] 1 [(0, 6, v19)] h19) fun v20 h20 =>
      bnd (pAppend 6 104 v16 v20 h20) fun v21 h21 =>
      bnd (pField 5 x5 h21) fun v22 h22 =>
      bnd (pStore 1 v22 v21 h22) fun v23 h23 =>
      kk5 x0 x4 x5 h23))))) (
      s80a4 rec n x4 x5 h7)

noncomputable def s80a5l (rec : RT) (n : Nat) (m : Nat) : TT3 :=
  Nat.rec (motive := fun _ => TT3) (fun _ _ _ _ => none) (fun _ ih => s80a5b rec n ih) m

noncomputable def s80a5 (rec : RT) (n : Nat) : TT3 := s80a5l rec n n

noncomputable def s80a3 (rec : RT) (n : Nat) (x0 x4 x5 : DV) (h0 : Hp) : Res :=
  s80a5 rec n x0 x4 x5 h0

noncomputable def s80a2 (rec : RT) (n : Nat) (x0 x3 x4 : DV) (h0 : Hp) : Res :=
  bnd (pLoadA 6 x3 h0) fun v75 h75 =>
  bnd (pBuildSlice [(.i .i64 (Int.ofNat 0)), (.s []), (.i .i64 (Int.ofNat 0)), .l0, .l0, .l0] 1 [(0, 6, v75)] h75) fun v76 h76 =>
  bnd (rec 86 [(.s []), v76] h76) fun v77 h77 =>
  bnd (pNew [(.i .i64 (Int.ofNat 0)), (.s []), (.i .i64 (Int.ofNat 0)), .l0, .l0, .l0] h77) fun v78 h78 =>
  bnd (pStore 6 v78 v77 h78) fun _ h79 =>
  s80a3 rec n x0 x4 v78 h79

noncomputable def s80a1 (rec : RT) (n : Nat) (x0 x3 x4 : DV) (h0 : Hp) : Res :=
  bnd (rec 51 [x0, (.i .i64 (Int.ofNat 2)), (.s [])] h0) fun v95 h95 =>
  bnd (pUn .not v95 h95) fun v96 h96 =>
  ifD v96 (
    bnd (pLoadA 6 x3 h96) fun v97 h97 =>
    bnd (pStore 6 x4 v97 h97) fun _ h98 =>
    bnd (pLoadA 6 x4 h98) fun v99 _ =>
    some (v99, h98)) (
    s80a2 rec n x0 x3 x4 h96)

/-- parse.parser).keywords -/
noncomputable def s80 (rec : RT) (n : Nat) (x0 x1 : DV) (h0 : Hp) : Res :=
  bnd (pBox x1 h0) fun v105 h105 =>
  bnd (pNew [(.i .i64 (Int.ofNat 0)), (.s []), (.i .i64 (Int.ofNat 0)), .l0, .l0, .l0] h105) fun v106 h106 =>
  s80a1 rec n x0 v105 v106 h106

noncomputable abbrev c80 : Code := cf Try.f80
noncomputable abbrev c80x1 : Code := cR c80
noncomputable abbrev c80x2 : Code := cR c80x1
noncomputable abbrev c80x3 : Code := cR c80x2
noncomputable abbrev c80x4 : Code := cR c80x3
noncomputable abbrev c80x5 : Code := cL c80x3
noncomputable abbrev c80x6 : Code := cL c80x5
noncomputable abbrev c80x7 : Code := cL c80x6
noncomputable abbrev c80x8 : Code := cL c80x2
noncomputable abbrev c80x9 : Code := cL c80x1
noncomputable abbrev c80x10 : Code := cL c80

noncomputable def D80 (rec : RT) (n : Nat) (c : Code) (X : Nat → K) (k : K) : K := codeD CF rec 34 n c X (retK CF Try.f80) k

theorem s80a4e : D80 rec n c80x4 x0 (retK CF Try.f80) = (K2 (s80a4 rec n) 4 5) :=
  (by kernel_rfl)

theorem s80a5q1 (kk5 : TT3) (q0 : TT2) : D80 rec n c80x7 (xs x0 0 (K2 q0 4 5)) (K3 kk5 0 4 5) = fun (env : Env) (h : Hp) =>
    bnd (rec 51 [(env 0), (.i .i64 (Int.ofNat 2)), (.s [])] h) fun v41 h41 =>
    ifD v41 (
      bnd (pField 1 (env 5) h41) fun v42 h42 =>
      bnd (pLoad1 v42 h42) fun v43 h43 =>
      bnd (rec 52 [(env 0)] h43) fun v44 h44 =>
      cnd (sameR (pLoad1 v42 h44) v43 && true) (
      bnd (pPart1 1 v44 h44) fun v45 h45 =>
      bnd (pStr .add v43 v45 h45) fun v46 h46 =>
      bnd (pField 1 (env 5) h46) fun v47 h47 =>
      bnd (pStore 1 v47 v46 h47) fun v48 h48 =>
      bnd (pField 5 (env 5) (resv 1 h48)) fun v49 h49 =>
      bnd (pLoad1 v49 h49) fun v50 h50 =>
      bnd (rec 83 [(env 0)] h50) fun v51 h51 =>
      cnd (sameR (pLoad1 v49 h51) v50 && true) (
      bnd (rec 82 [(env 0), v51] h51) fun v52 h52 =>
      cnd (sameR (pLoad1 v49 h52) v50 && true) (
      bnd (rec 81 [(env 0), v52] h52) fun v53 h53 =>
      cnd (sameR (pLoad1 v49 h53) v50 && true) (
      bnd (pBuildSliceAt (nthPos 0 h48.next) [(.i .i64 (Int.ofNat 0)), (.s []), (.i .i64 (Int.ofNat 0)), .l0, .l0, .l0] 1 [(0, 6, v53)] h53) fun v54 h54 =>
      bnd (pAppend 6 104 v50 v54 h54) fun v55 h55 =>
      bnd (pField 5 (env 5) h55) fun v56 h56 =>
      bnd (pStore 1 v56 v55 h56) fun v57 h57 =>
      kk5 (env 0) (env 4) (env 5) h57))))) (
      q0 (env 4) (env 5) h41) := by kernel_rfl

theorem s80a5q1u (kk5 : TT3) : (fun (env : Env) (h : Hp) =>
    bnd (rec 51 [(env 0), (.i .i64 (Int.ofNat 2)), (.s [])] h) fun v58 h58 =>
    ifD v58 (
      bnd (pField 1 (env 5) h58) fun v59 h59 =>
      bnd (pLoad1 v59 h59) fun v60 h60 =>
      bnd (rec 52 [(env 0)] h60) fun v61 h61 =>
      cnd (sameR (pLoad1 v59 h61) v60 && true) (
      bnd (pPart1 1 v61 h61) fun v62 h62 =>
      bnd (pStr .add v60 v62 h62) fun v63 h63 =>
      bnd (pField 1 (env 5) h63) fun v64 h64 =>
      bnd (pStore 1 v64 v63 h64) fun v65 h65 =>
      bnd (pField 5 (env 5) (resv 1 h65)) fun v66 h66 =>
      bnd (pLoad1 v66 h66) fun v67 h67 =>
      bnd (rec 83 [(env 0)] h67) fun v68 h68 =>
      cnd (sameR (pLoad1 v66 h68) v67 && true) (
      bnd (rec 82 [(env 0), v68] h68) fun v69 h69 =>
      cnd (sameR (pLoad1 v66 h69) v67 && true) (
      bnd (rec 81 [(env 0), v69] h69) fun v70 h70 =>
      cnd (sameR (pLoad1 v66 h70) v67 && true) (
      bnd (pBuildSliceAt (nthPos 0 h65.next) [(.i .i64 (Int.ofNat 0)), (.s []), (.i .i64 (Int.ofNat 0)), .l0, .l0, .l0] 1 [(0, 6, v70)] h70) fun v71 h71 =>
      bnd (pAppend 6 104 v67 v71 h71) fun v72 h72 =>
      bnd (pField 5 (env 5) h72) fun v73 h73 =>
      bnd (pStore 1 v73 v72 h73) fun v74 h74 =>
      kk5 (env 0) (env 4) (env 5) h74))))) (
      s80a4 rec n (env 4) (env 5) h58)) = (K3 (s80a5b rec n kk5) 0 4 5) := by kernel_rfl

theorem s80a5be (kk5 : TT3) : D80 rec n c80x7 (xs x0 0 (K2 (s80a4 rec n) 4 5)) (K3 kk5 0 4 5) = (K3 (s80a5b rec n kk5) 0 4 5) :=
  (s80a5q1 rec n kk5 (s80a4 rec n)).trans (s80a5q1u rec n kk5)

theorem s80a5le (m : Nat) : loopN (fun kk => D80 rec n c80x7 (xs x0 0 (K2 (s80a4 rec n) 4 5)) kk) m = (K3 (s80a5l rec n m) 0 4 5) := by
  induction m with
  | zero => exact (by kernel_rfl : loopN (fun kk => D80 rec n c80x7 (xs x0 0 (K2 (s80a4 rec n) 4 5)) kk) 0 = (K3 (s80a5l rec n 0) 0 4 5))
  | succ m ih =>
    refine (by kernel_rfl : loopN (fun kk => D80 rec n c80x7 (xs x0 0 (K2 (s80a4 rec n) 4 5)) kk) (m + 1) = D80 rec n c80x7 (xs x0 0 (K2 (s80a4 rec n) 4 5)) (loopN (fun kk => D80 rec n c80x7 (xs x0 0 (K2 (s80a4 rec n) 4 5)) kk) m)).trans ?_
    rw [ih]
    exact (s80a5be rec n (s80a5l rec n m)).trans (by kernel_rfl)

theorem s80a5e : D80 rec n c80x6 (xs x0 0 (K2 (s80a4 rec n) 4 5)) (K2 (s80a4 rec n) 4 5) = (K3 (s80a5 rec n) 0 4 5) :=
  (by kernel_rfl : D80 rec n c80x6 (xs x0 0 (K2 (s80a4 rec n) 4 5)) (K2 (s80a4 rec n) 4 5) = loopN (fun kk => D80 rec n c80x7 (xs x0 0 (K2 (s80a4 rec n) 4 5)) kk) n).trans ((s80a5le rec n n).trans (by kernel_rfl))

theorem s80a3p2 : D80 rec n c80x3 x0 (retK CF Try.f80) = D80 rec n c80x5 x0 (K2 (s80a4 rec n) 4 5) :=
  congrArg (fun k => D80 rec n c80x5 x0 k) (s80a4e rec n)

theorem s80a3e : D80 rec n c80x3 x0 (retK CF Try.f80) = (K3 (s80a3 rec n) 0 4 5) :=
  (s80a3p2 rec n).trans
  ((by kernel_rfl : D80 rec n c80x5 x0 (K2 (s80a4 rec n) 4 5) = D80 rec n c80x6 (xs x0 0 (K2 (s80a4 rec n) 4 5)) (K2 (s80a4 rec n) 4 5)).trans
  ((s80a5e rec n).trans (by kernel_rfl)))

theorem s80a2p3 : D80 rec n c80x2 x0 (retK CF Try.f80) = D80 rec n c80x8 x0 (K3 (s80a3 rec n) 0 4 5) :=
  congrArg (fun k => D80 rec n c80x8 x0 k) (s80a3e rec n)

theorem s80a2q4 (q0 : TT3) : D80 rec n c80x8 x0 (K3 q0 0 4 5) = fun (env : Env) (h : Hp) =>
    bnd (pLoadA 6 (env 3) h) fun v85 h85 =>
    bnd (pBuildSlice [(.i .i64 (Int.ofNat 0)), (.s []), (.i .i64 (Int.ofNat 0)), .l0, .l0, .l0] 1 [(0, 6, v85)] h85) fun v86 h86 =>
    bnd (rec 86 [(.s []), v86] h86) fun v87 h87 =>
    bnd (pNew [(.i .i64 (Int.ofNat 0)), (.s []), (.i .i64 (Int.ofNat 0)), .l0, .l0, .l0] h87) fun v88 h88 =>
    bnd (pStore 6 v88 v87 h88) fun _ h89 =>
    q0 (env 0) (env 4) v88 h89 := by kernel_rfl

theorem s80a2q4u : (fun (env : Env) (h : Hp) =>
    bnd (pLoadA 6 (env 3) h) fun v90 h90 =>
    bnd (pBuildSlice [(.i .i64 (Int.ofNat 0)), (.s []), (.i .i64 (Int.ofNat 0)), .l0, .l0, .l0] 1 [(0, 6, v90)] h90) fun v91 h91 =>
    bnd (rec 86 [(.s []), v91] h91) fun v92 h92 =>
    bnd (pNew [(.i .i64 (Int.ofNat 0)), (.s []), (.i .i64 (Int.ofNat 0)), .l0, .l0, .l0] h92) fun v93 h93 =>
    bnd (pStore 6 v93 v92 h93) fun _ h94 =>
    s80a3 rec n (env 0) (env 4) v93 h94) = (K3 (s80a2 rec n) 0 3 4) := by kernel_rfl

theorem s80a2e : D80 rec n c80x2 x0 (retK CF Try.f80) = (K3 (s80a2 rec n) 0 3 4) :=
  (s80a2p3 rec n).trans
  ((s80a2q4 rec n (s80a3 rec n)).trans (s80a2q4u rec n))

theorem s80a1p5 : D80 rec n c80x1 x0 (retK CF Try.f80) = D80 rec n c80x9 x0 (K3 (s80a2 rec n) 0 3 4) :=
  congrArg (fun k => D80 rec n c80x9 x0 k) (s80a2e rec n)

theorem s80a1e : D80 rec n c80x1 x0 (retK CF Try.f80) = (K3 (s80a1 rec n) 0 3 4) :=
  (s80a1p5 rec n).trans
  ((by kernel_rfl))

theorem s80p6 : D80 rec n c80 x0 (retK CF Try.f80) = D80 rec n c80x10 x0 (K3 (s80a1 rec n) 0 3 4) :=
  congrArg (fun k => D80 rec n c80x10 x0 k) (s80a1e rec n)

theorem s80q7 (q0 : TT3) : D80 rec n c80x10 x0 (K3 q0 0 3 4) = fun (env : Env) (h : Hp) =>
    bnd (pBox (env 1) h) fun v109 h109 =>
    bnd (pNew [(.i .i64 (Int.ofNat 0)), (.s []), (.i .i64 (Int.ofNat 0)), .l0, .l0, .l0] h109) fun v110 h110 =>
    q0 (env 0) v109 v110 h110 := by kernel_rfl

theorem s80q7u : (fun (env : Env) (h : Hp) =>
    bnd (pBox (env 1) h) fun v111 h111 =>
    bnd (pNew [(.i .i64 (Int.ofNat 0)), (.s []), (.i .i64 (Int.ofNat 0)), .l0, .l0, .l0] h111) fun v112 h112 =>
    s80a1 rec n (env 0) v111 v112 h112) = (K2 (s80 rec n) 0 1) := by kernel_rfl

theorem s80m : D80 rec n c80 x0 (retK CF Try.f80) = (K2 (s80 rec n) 0 1) :=
  (s80p6 rec n).trans
  ((s80q7 rec n (s80a1 rec n)).trans (s80q7u rec n))

theorem s80ok (args : List DV) (h : Hp) : bodyD CF rec n 80 args h = s80 rec n (args.getD 0 undefD) (args.getD 1 undefD) h :=
  (by kernel_rfl : bodyD CF rec n 80 args h = D80 rec n c80 x0 (retK CF Try.f80) (argsE args) h).trans ((congrFun (congrFun (s80m rec n) (argsE args)) h).trans (by kernel_rfl))

noncomputable def s81a2 (rec : RT) (n : Nat) (x3 x4 : DV) (h0 : Hp) : Res :=
  bnd (pLoadA 6 x3 h0) fun v1 h1 =>
  bnd (pStore 6 x4 v1 h1) fun _ h2 =>
  bnd (pLoadA 6 x4 h2) fun v3 _ =>
  some (v3, h2)

noncomputable def s81a3b (rec : RT) (n : Nat) (kk3 : TT3) (x0 x3 x4 : DV) (h0 : Hp) : Res :=
    bnd (rec 51 [x0, (.i .i64 (Int.ofNat 3)), (.s [])] h0) fun v7 h7 =>
    ifD v7 (
      bnd (rec 52 [x0] h7) fun v8 h8 =>
      bnd (pNew [(.i .i64 (Int.ofNat 0)), (.s []), (.i .i64 (Int.ofNat 0)), (.i .i64 (Int.ofNat 0))] h8) fun v9 h9 =>
      bnd (pStore 4 v9 v8 h9) fun _ h10 =>
      bnd (pField 1 v9 (resv 1 h10)) fun v11 h11 =>
      bnd (pLoad1 v11 h11) fun v12 h12 =>
      bnd (pLoadA 6 x3 h12) fun v13 h13 =>
      bnd (rec 83 [x0] h13) fun v14 h14 =>
      cnd (sameR (pLoadA 6 x3 h14) v13 && (sameR (pLoad1 v11 h14) v12 && true)) (
      bnd (rec 82 [x0, v14] h14) fun v15 h15 =>
      cnd (sameR (pLoadA 6 x3 h15) v13 && (sameR (pLoad1 v11 h15) v12 && true)) (
      bnd (pBuildSliceAt (nthPos 0 h10.next) [(.i .i64 (Int.ofNat 0)), (.s []), (.i .i64 (Int.ofNat 0)), .l0, .l0, .l0, (.i .i64 (Int.ofNat 0)), (.s []), (.i .i64 (Int.ofNat 0)), .l0, .l0, .l0] 2 [(0, 6, v13), (6, 6, v15)] h15) fun v16 h16 =>
      bnd (rec 86 [v12, v16] h16) fun v17 h17 =>
      bnd (pStore 6 x3 v17 h17) fun v18 h18 =>
      kk3 x0 x3 x4 h18))) (
      s81a2 rec n x3 x4 h7)

noncomputable def s81a3l (rec : RT) (n : Nat) (m : Nat) : TT3 :=
  Nat.rec (motive := fun _ => TT3) (fun _ _ _ _ => none) (fun _ ih => s81a3b rec n ih) m

noncomputable def s81a3 (rec : RT) (n : Nat) : TT3 := s81a3l rec n n

noncomputable def s81a1 (rec : RT) (n : Nat) (x0 x3 x4 : DV) (h0 : Hp) : Res :=
  s81a3 rec n x0 x3 x4 h0

/-- parse.parser).binary -/
noncomputable def s81 (rec : RT) (n : Nat) (x0 x1 : DV) (h0 : Hp) : Res :=
  bnd (pBox x1 h0) fun v55 h55 =>
  bnd (pNew [(.i .i64 (Int.ofNat 0)), (.s []), (.i .i64 (Int.ofNat 0)), .l0, .l0, .l0] h55) fun v56 h56 =>
  s81a1 rec n x0 v55 v56 h56

noncomputable abbrev c81 : Code := cf Try.f81
noncomputable abbrev c81x1 : Code := cR c81
noncomputable abbrev c81x2 : Code := cR c81x1
noncomputable abbrev c81x3 : Code := cL c81x1
noncomputable abbrev c81x4 : Code := cL c81x3
noncomputable abbrev c81x5 : Code := cL c81x4
noncomputable abbrev c81x6 : Code := cL c81

noncomputable def D81 (rec : RT) (n : Nat) (c : Code) (X : Nat → K) (k : K) : K := codeD CF rec 20 n c X (retK CF Try.f81) k

theorem s81a2e : D81 rec n c81x2 x0 (retK CF Try.f81) = (K2 (s81a2 rec n) 3 4) :=
  (by kernel_rfl)

theorem s81a3q1 (kk3 : TT3) (q0 : TT2) : D81 rec n c81x5 (xs x0 0 (K2 q0 3 4)) (K3 kk3 0 3 4) = fun (env : Env) (h : Hp) =>
    bnd (rec 51 [(env 0), (.i .i64 (Int.ofNat 3)), (.s [])] h) fun v31 h31 =>
    ifD v31 (
      bnd (rec 52 [(env 0)] h31) fun v32 h32 =>
      bnd (pNew [(.i .i64 (Int.ofNat 0)), (.s []), (.i .i64 (Int.ofNat 0)), (.i .i64 (Int.ofNat 0))] h32) fun v33 h33 =>
      bnd (pStore 4 v33 v32 h33) fun _ h34 =>
      bnd (pField 1 v33 (resv 1 h34)) fun v35 h35 =>
      bnd (pLoad1 v35 h35) fun v36 h36 =>
      bnd (pLoadA 6 (env 3) h36) fun v37 h37 =>
      bnd (rec 83 [(env 0)] h37) fun v38 h38 =>
      cnd (sameR (pLoadA 6 (env 3) h38) v37 && (sameR (pLoad1 v35 h38) v36 && true)) (
      bnd (rec 82 [(env 0), v38] h38) fun v39 h39 =>
      cnd (sameR (pLoadA 6 (env 3) h39) v37 && (sameR (pLoad1 v35 h39) v36 && true)) (
      bnd (pBuildSliceAt (nthPos 0 h34.next) [(.i .i64 (Int.ofNat 0)), (.s []), (.i .i64 (Int.ofNat 0)), .l0, .l0, .l0, (.i .i64 (Int.ofNat 0)), (.s []), (.i .i64 (Int.ofNat 0)), .l0, .l0, .l0] 2 [(0, 6, v37), (6, 6, v39)] h39) fun v40 h40 =>
      bnd (rec 86 [v36, v40] h40) fun v41 h41 =>
      bnd (pStore 6 (env 3) v41 h41) fun v42 h42 =>
      kk3 (env 0) (env 3) (env 4) h42))) (
      q0 (env 3) (env 4) h31) := by kernel_rfl

theorem s81a3q1u (kk3 : TT3) : (fun (env : Env) (h : Hp) =>
    bnd (rec 51 [(env 0), (.i .i64 (Int.ofNat 3)), (.s [])] h) fun v43 h43 =>
    ifD v43 (
      bnd (rec 52 [(env 0)] h43) fun v44 h44 =>
      bnd (pNew [(.i .i64 (Int.ofNat 0)), (.s []), (.i .i64 (Int.ofNat 0)), (.i .i64 (Int.ofNat 0))] h44) fun v45 h45 =>
      bnd (pStore 4 v45 v44 h45) fun _ h46 =>
      bnd (pField 1 v45 (resv 1 h46)) fun v47 h47 =>
      bnd (pLoad1 v47 h47) fun v48 h48 =>
      bnd (pLoadA 6 (env 3) h48) fun v49 h49 =>
      bnd (rec 83 [(env 0)] h49) fun v50 h50 =>
      cnd (sameR (pLoadA 6 (env 3) h50) v49 && (sameR (pLoad1 v47 h50) v48 && true)) (
      bnd (rec 82 [(env 0), v50] h50) fun v51 h51 =>
      cnd (sameR (pLoadA 6 (env 3) h51) v49 && (sameR (pLoad1 v47 h51) v48 && true)) (
      bnd (pBuildSliceAt (nthPos 0 h46.next) [(.i .i64 (Int.ofNat 0)), (.s []), (.i .i64 (Int.ofNat 0)), .l0, .l0, .l0, (.i .i64 (Int.ofNat 0)), (.s []), (.i .i64 (Int.ofNat 0)), .l0, .l0, .l0] 2 [(0, 6, v49), (6, 6, v51)] h51) fun v52 h52 =>
      bnd (rec 86 [v48, v52] h52) fun v53 h53 =>
      bnd (pStore 6 (env 3) v53 h53) fun v54 h54 =>
      kk3 (env 0) (env 3) (env 4) h54))) (
      s81a2 rec n (env 3) (env 4) h43)) = (K3 (s81a3b rec n kk3) 0 3 4) := by kernel_rfl

theorem s81a3be (kk3 : TT3) : D81 rec n c81x5 (xs x0 0 (K2 (s81a2 rec n) 3 4)) (K3 kk3 0 3 4) = (K3 (s81a3b rec n kk3) 0 3 4) :=
  (s81a3q1 rec n kk3 (s81a2 rec n)).trans (s81a3q1u rec n kk3)

theorem s81a3le (m : Nat) : loopN (fun kk => D81 rec n c81x5 (xs x0 0 (K2 (s81a2 rec n) 3 4)) kk) m = (K3 (s81a3l rec n m) 0 3 4) := by
  induction m with
  | zero => exact (by kernel_rfl : loopN (fun kk => D81 rec n c81x5 (xs x0 0 (K2 (s81a2 rec n) 3 4)) kk) 0 = (K3 (s81a3l rec n 0) 0 3 4))
  | succ m ih =>
    refine (by kernel_rfl : loopN (fun kk => D81 rec n c81x5 (xs x0 0 (K2 (s81a2 rec n) 3 4)) kk) (m + 1) = D81 rec n c81x5 (xs x0 0 (K2 (s81a2 rec n) 3 4)) (loopN (fun kk => D81 rec n c81x5 (xs x0 0 (K2 (s81a2 rec n) 3 4)) kk) m)).trans ?_
    rw [ih]
    exact (s81a3be rec n (s81a3l rec n m)).trans (by kernel_rfl)

theorem s81a3e : D81 rec n c81x4 (xs x0 0 (K2 (s81a2 rec n) 3 4)) (K2 (s81a2 rec n) 3 4) = (K3 (s81a3 rec n) 0 3 4) :=
  (by kernel_rfl : D81 rec n c81x4 (xs x0 0 (K2 (s81a2 rec n) 3 4)) (K2 (s81a2 rec n) 3 4) = loopN (fun kk => D81 rec n c81x5 (xs x0 0 (K2 (s81a2 rec n) 3 4)) kk) n).trans ((s81a3le rec n n).trans (by kernel_rfl))

theorem s81a1p2 : D81 rec n c81x1 x0 (retK CF Try.f81) = D81 rec n c81x3 x0 (K2 (s81a2 rec n) 3 4) :=
  congrArg (fun k => D81 rec n c81x3 x0 k) (s81a2e rec n)

theorem s81a1e : D81 rec n c81x1 x0 (retK CF Try.f81) = (K3 (s81a1 rec n) 0 3 4) :=
  (s81a1p2 rec n).trans
  ((by kernel_rfl : D81 rec n c81x3 x0 (K2 (s81a2 rec n) 3 4) = D81 rec n c81x4 (xs x0 0 (K2 (s81a2 rec n) 3 4)) (K2 (s81a2 rec n) 3 4)).trans
  ((s81a3e rec n).trans (by kernel_rfl)))

theorem s81p3 : D81 rec n c81 x0 (retK CF Try.f81) = D81 rec n c81x6 x0 (K3 (s81a1 rec n) 0 3 4) :=
  congrArg (fun k => D81 rec n c81x6 x0 k) (s81a1e rec n)

theorem s81q4 (q0 : TT3) : D81 rec n c81x6 x0 (K3 q0 0 3 4) = fun (env : Env) (h : Hp) =>
    bnd (pBox (env 1) h) fun v59 h59 =>
    bnd (pNew [(.i .i64 (Int.ofNat 0)), (.s []), (.i .i64 (Int.ofNat 0)), .l0, .l0, .l0] h59) fun v60 h60 =>
    q0 (env 0) v59 v60 h60 := by kernel_rfl

theorem s81q4u : (fun (env : Env) (h : Hp) =>
    bnd (pBox (env 1) h) fun v61 h61 =>
    bnd (pNew [(.i .i64 (Int.ofNat 0)), (.s []), (.i .i64 (Int.ofNat 0)), .l0, .l0, .l0] h61) fun v62 h62 =>
    s81a1 rec n (env 0) v61 v62 h62) = (K2 (s81 rec n) 0 1) := by kernel_rfl

theorem s81m : D81 rec n c81 x0 (retK CF Try.f81) = (K2 (s81 rec n) 0 1) :=
  (s81p3 rec n).trans
  ((s81q4 rec n (s81a1 rec n)).trans (s81q4u rec n))

theorem s81ok (args : List DV) (h : Hp) : bodyD CF rec n 81 args h = s81 rec n (args.getD 0 undefD) (args.getD 1 undefD) h :=
  (by kernel_rfl : bodyD CF rec n 81 args h = D81 rec n c81 x0 (retK CF Try.f81) (argsE args) h).trans ((congrFun (congrFun (s81m rec n) (argsE args)) h).trans (by kernel_rfl))

noncomputable def s82a2 (rec : RT) (n : Nat) (x3 x4 : DV) (h0 : Hp) : Res :=
  bnd (pLoadA 6 x3 h0) fun v1 h1 =>
  bnd (pStore 6 x4 v1 h1) fun _ h2 =>
  bnd (pLoadA 6 x4 h2) fun v3 _ =>
  some (v3, h2)

noncomputable def s82a3b (rec : RT) (n : Nat) (kk3 : TT3) (x0 x3 x4 : DV) (h0 : Hp) : Res :=
    bnd (rec 51 [x0, (.i .i64 (Int.ofNat 1)), (.s [])] h0) fun v7 h7 =>
    ifD v7 (
      bnd (rec 52 [x0] (resv 1 h7)) fun v8 h8 =>
      bnd (pPart1 1 v8 h8) fun v9 h9 =>
      bnd (pLoadA 6 x3 h9) fun v10 h10 =>
      cnd (sameR (pLoadA 6 x3 (resv 1 h7)) v10 && true) (
      bnd (pBuildSliceAt (nthPos 0 h7.next) [(.i .i64 (Int.ofNat 0)), (.s []), (.i .i64 (Int.ofNat 0)), .l0, .l0, .l0] 1 [(0, 6, v10)] h10) fun v11 h11 =>
      bnd (rec 86 [v9, v11] h11) fun v12 h12 =>
      bnd (pStore 6 x3 v12 h12) fun v13 h13 =>
      kk3 x0 x3 x4 h13)) (
      s82a2 rec n x3 x4 h7)

noncomputable def s82a3l (rec : RT) (n : Nat) (m : Nat) : TT3 :=
  Nat.rec (motive := fun _ => TT3) (fun _ _ _ _ => none) (fun _ ih => s82a3b rec n ih) m

noncomputable def s82a3 (rec : RT) (n : Nat) : TT3 := s82a3l rec n n

noncomputable def s82a1 (rec : RT) (n : Nat) (x0 x3 x4 : DV) (h0 : Hp) : Res :=
  s82a3 rec n x0 x3 x4 h0

/-- parse.parser).unary -/
noncomputable def s82 (rec : RT) (n : Nat) (x0 x1 : DV) (h0 : Hp) : Res :=
  bnd (pBox x1 h0) fun v35 h35 =>
  bnd (pNew [(.i .i64 (Int.ofNat 0)), (.s []), (.i .i64 (Int.ofNat 0)), .l0, .l0, .l0] h35) fun v36 h36 =>
  s82a1 rec n x0 v35 v36 h36

noncomputable abbrev c82 : Code := cf Try.f82
noncomputable abbrev c82x1 : Code := cR c82
noncomputable abbrev c82x2 : Code := cR c82x1
noncomputable abbrev c82x3 : Code := cL c82x1
noncomputable abbrev c82x4 : Code := cL c82x3
noncomputable abbrev c82x5 : Code := cL c82x4
noncomputable abbrev c82x6 : Code := cL c82

noncomputable def D82 (rec : RT) (n : Nat) (c : Code) (X : Nat → K) (k : K) : K := codeD CF rec 14 n c X (retK CF Try.f82) k

theorem s82a2e : D82 rec n c82x2 x0 (retK CF Try.f82) = (K2 (s82a2 rec n) 3 4) :=
  (by kernel_rfl)

theorem s82a3q1 (kk3 : TT3) (q0 : TT2) : D82 rec n c82x5 (xs x0 0 (K2 q0 3 4)) (K3 kk3 0 3 4) = fun (env : Env) (h : Hp) =>
    bnd (rec 51 [(env 0), (.i .i64 (Int.ofNat 1)), (.s [])] h) fun v21 h21 =>
    ifD v21 (
      bnd (rec 52 [(env 0)] (resv 1 h21)) fun v22 h22 =>
      bnd (pPart1 1 v22 h22) fun v23 h23 =>
      bnd (pLoadA 6 (env 3) h23) fun v24 h24 =>
      cnd (sameR (pLoadA 6 (env 3) (resv 1 h21)) v24 && true) (
      bnd (pBuildSliceAt (nthPos 0 h21.next) [(.i .i64 (Int.ofNat 0)), (.s []), (.i .i64 (Int.ofNat 0)), .l0, .l0, .l0] 1 [(0, 6, v24)] h24) fun v25 h25 =>
      bnd (rec 86 [v23, v25] h25) fun v26 h26 =>
      bnd (pStore 6 (env 3) v26 h26) fun v27 h27 =>
      kk3 (env 0) (env 3) (env 4) h27)) (
      q0 (env 3) (env 4) h21) := by kernel_rfl

theorem s82a3q1u (kk3 : TT3) : (fun (env : Env) (h : Hp) =>
    bnd (rec 51 [(env 0), (.i .i64 (Int.ofNat 1)), (.s [])] h) fun v28 h28 =>
    ifD v28 (
      bnd (rec 52 [(env 0)] (resv 1 h28)) fun v29 h29 =>
      bnd (pPart1 1 v29 h29) fun v30 h30 =>
      bnd (pLoadA 6 (env 3) h30) fun v31 h31 =>
      cnd (sameR (pLoadA 6 (env 3) (resv 1 h28)) v31 && true) (
      bnd (pBuildSliceAt (nthPos 0 h28.next) [(.i .i64 (Int.ofNat 0)), (.s []), (.i .i64 (Int.ofNat 0)), .l0, .l0, .l0] 1 [(0, 6, v31)] h31) fun v32 h32 =>
      bnd (rec 86 [v30, v32] h32) fun v33 h33 =>
      bnd (pStore 6 (env 3) v33 h33) fun v34 h34 =>
      kk3 (env 0) (env 3) (env 4) h34)) (
      s82a2 rec n (env 3) (env 4) h28)) = (K3 (s82a3b rec n kk3) 0 3 4) := by kernel_rfl

theorem s82a3be (kk3 : TT3) : D82 rec n c82x5 (xs x0 0 (K2 (s82a2 rec n) 3 4)) (K3 kk3 0 3 4) = (K3 (s82a3b rec n kk3) 0 3 4) :=
  (s82a3q1 rec n kk3 (s82a2 rec n)).trans (s82a3q1u rec n kk3)

theorem s82a3le (m : Nat) : loopN (fun kk => D82 rec n c82x5 (xs x0 0 (K2 (s82a2 rec n) 3 4)) kk) m = (K3 (s82a3l rec n m) 0 3 4) := by
  induction m with
  | zero => exact (by kernel_rfl : loopN (fun kk => D82 rec n c82x5 (xs x0 0 (K2 (s82a2 rec n) 3 4)) kk) 0 = (K3 (s82a3l rec n 0) 0 3 4))
  | succ m ih =>
    refine (by kernel_rfl : loopN (fun kk => D82 rec n c82x5 (xs x0 0 (K2 (s82a2 rec n) 3 4)) kk) (m + 1) = D82 rec n c82x5 (xs x0 0 (K2 (s82a2 rec n) 3 4)) (loopN (fun kk => D82 rec n c82x5 (xs x0 0 (K2 (s82a2 rec n) 3 4)) kk) m)).trans ?_
    rw [ih]
    exact (s82a3be rec n (s82a3l rec n m)).trans (by kernel_rfl)

theorem s82a3e : D82 rec n c82x4 (xs x0 0 (K2 (s82a2 rec n) 3 4)) (K2 (s82a2 rec n) 3 4) = (K3 (s82a3 rec n) 0 3 4) :=
  (by kernel_rfl : D82 rec n c82x4 (xs x0 0 (K2 (s82a2 rec n) 3 4)) (K2 (s82a2 rec n) 3 4) = loopN (fun kk => D82 rec n c82x5 (xs x0 0 (K2 (s82a2 rec n) 3 4)) kk) n).trans ((s82a3le rec n n).trans (by kernel_rfl))

theorem s82a1p2 : D82 rec n c82x1 x0 (retK CF Try.f82) = D82 rec n c82x3 x0 (K2 (s82a2 rec n) 3 4) :=
  congrArg (fun k => D82 rec n c82x3 x0 k) (s82a2e rec n)

theorem s82a1e : D82 rec n c82x1 x0 (retK CF Try.f82) = (K3 (s82a1 rec n) 0 3 4) :=
  (s82a1p2 rec n).trans
  ((by kernel_rfl : D82 rec n c82x3 x0 (K2 (s82a2 rec n) 3 4) = D82 rec n c82x4 (xs x0 0 (K2 (s82a2 rec n) 3 4)) (K2 (s82a2 rec n) 3 4)).trans
  ((s82a3e rec n).trans (by kernel_rfl)))

theorem s82p3 : D82 rec n c82 x0 (retK CF Try.f82) = D82 rec n c82x6 x0 (K3 (s82a1 rec n) 0 3 4) :=
  congrArg (fun k => D82 rec n c82x6 x0 k) (s82a1e rec n)

theorem s82q4 (q0 : TT3) : D82 rec n c82x6 x0 (K3 q0 0 3 4) = fun (env : Env) (h : Hp) =>
    bnd (pBox (env 1) h) fun v39 h39 =>
    bnd (pNew [(.i .i64 (Int.ofNat 0)), (.s []), (.i .i64 (Int.ofNat 0)), .l0, .l0, .l0] h39) fun v40 h40 =>
    q0 (env 0) v39 v40 h40 := by kernel_rfl

theorem s82q4u : (fun (env : Env) (h : Hp) =>
    bnd (pBox (env 1) h) fun v41 h41 =>
    bnd (pNew [(.i .i64 (Int.ofNat 0)), (.s []), (.i .i64 (Int.ofNat 0)), .l0, .l0, .l0] h41) fun v42 h42 =>
    s82a1 rec n (env 0) v41 v42 h42) = (K2 (s82 rec n) 0 1) := by kernel_rfl

theorem s82m : D82 rec n c82 x0 (retK CF Try.f82) = (K2 (s82 rec n) 0 1) :=
  (s82p3 rec n).trans
  ((s82q4 rec n (s82a1 rec n)).trans (s82q4u rec n))

theorem s82ok (args : List DV) (h : Hp) : bodyD CF rec n 82 args h = s82 rec n (args.getD 0 undefD) (args.getD 1 undefD) h :=
  (by kernel_rfl : bodyD CF rec n 82 args h = D82 rec n c82 x0 (retK CF Try.f82) (argsE args) h).trans ((congrFun (congrFun (s82m rec n) (argsE args)) h).trans (by kernel_rfl))

noncomputable def s83a3 (rec : RT) (n : Nat) (x2 : DV) (h0 : Hp) : Res :=
  bnd (pBuild [(.i .i64 (Int.ofNat 0)), (.s []), (.i .i64 (Int.ofNat 0)), .l0, .l0, .l0] [] h0) fun v1 h1 =>
  bnd (pStore 6 x2 v1 h1) fun _ h2 =>
  bnd (pLoadA 6 x2 h2) fun v3 _ =>
  some (v3, h2)

noncomputable def s83a2 (rec : RT) (n : Nat) (x0 x2 : DV) (h0 : Hp) : Res :=
  bnd (rec 55 [x0, (.i .i64 (Int.ofNat 0))] h0) fun v7 h7 =>
  bnd (pNew [(.i .i64 (Int.ofNat 0)), (.s []), (.i .i64 (Int.ofNat 0)), (.i .i64 (Int.ofNat 0))] h7) fun v8 h8 =>
  bnd (pStore 4 v8 v7 h8) fun _ h9 =>
  bnd (pNil x0 h9) fun v10 h10 =>
  bnd (pField 3 v10 h10) fun v11 h11 =>
  bnd (pLoad1 v11 h11) fun v12 h12 =>
  bnd (pInt .neq v12 (.i .i64 (Int.ofNat 0)) h12) fun v13 h13 =>
  ifD v13 (
    s83a3 rec n x2 h13) (
    bnd (pField 0 v8 h13) fun v14 h14 =>
    bnd (pLoad1 v14 h14) fun v15 h15 =>
    bnd (pInt .eql v15 (.i .i64 (Int.ofNat 1)) h15) fun v16 h16 =>
    ifD v16 (
      bnd (rec 52 [x0] h16) fun v17 h17 =>
      bnd (pPart1 1 v17 h17) fun v18 h18 =>
      bnd (pBuild [(.i .i64 (Int.ofNat 0)), (.s []), (.i .i64 (Int.ofNat 0)), .l0, .l0, .l0] [(0, 1, (.i .i64 (Int.ofNat 5))), (1, 1, v18)] h18) fun v19 h19 =>
      bnd (pStore 6 x2 v19 h19) fun _ h20 =>
      bnd (pLoadA 6 x2 h20) fun v21 _ =>
      some (v21, h20)) (
      bnd (pField 0 v8 h16) fun v22 h22 =>
      bnd (pLoad1 v22 h22) fun v23 h23 =>
      bnd (pInt .eql v23 (.i .i64 (Int.ofNat 7)) h23) fun v24 h24 =>
      ifD v24 (
        bnd (rec 88 [x0, (.f 89 [x0] [])] h24) fun v25 h25 =>
        bnd (pStore 6 x2 v25 h25) fun _ h26 =>
        bnd (pLoadA 6 x2 h26) fun v27 _ =>
        some (v27, h26)) (
        bnd (rec 51 [x0, (.i .i64 (Int.ofNat 10)), (.s [40])] h24) fun v28 h28 =>
        ifD v28 (
          bnd (rec 88 [x0, (.f 90 [x0] [])] h28) fun v29 h29 =>
          bnd (pStore 6 x2 v29 h29) fun _ h30 =>
          bnd (pLoadA 6 x2 h30) fun v31 _ =>
          some (v31, h30)) (
          bnd (rec 51 [x0, (.i .i64 (Int.ofNat 10)), (.s [91])] h28) fun v32 h32 =>
          ifD v32 (
            bnd (rec 88 [x0, (.f 91 [x0] [])] h32) fun v33 h33 =>
            bnd (pStore 6 x2 v33 h33) fun _ h34 =>
            bnd (pLoadA 6 x2 h34) fun v35 _ =>
            some (v35, h34)) (
            bnd (pLoadA 4 v8 h32) fun v36 h36 =>
            bnd (rec 54 [x0, v36, (.i .i64 (Int.ofNat 13))] h36) fun v37 h37 =>
            s83a3 rec n x2 h37)))))

noncomputable def s83a1 (rec : RT) (n : Nat) (x0 x2 : DV) (h0 : Hp) : Res :=
  bnd (rec 87 [x0] h0) fun v131 h131 =>
  bnd (pExtract 0 v131 h131) fun v132 h132 =>
  bnd (pExtract 1 v131 h132) fun v133 h133 =>
  bnd (pNew [(.i .i64 (Int.ofNat 0)), (.s []), (.i .i64 (Int.ofNat 0)), .l0, .l0, .l0] h133) fun v134 h134 =>
  bnd (pStore 6 v134 v132 h134) fun _ h135 =>
  ifD v133 (
    bnd (pLoadA 6 v134 h135) fun v136 h136 =>
    bnd (pStore 6 x2 v136 h136) fun _ h137 =>
    bnd (pLoadA 6 x2 h137) fun v138 _ =>
    some (v138, h137)) (
    s83a2 rec n x0 x2 h135)

/-- parse.parser).primary -/
noncomputable def s83 (rec : RT) (n : Nat) (x0 : DV) (h0 : Hp) : Res :=
  bnd (pNew [(.i .i64 (Int.ofNat 0)), (.s []), (.i .i64 (Int.ofNat 0)), .l0, .l0, .l0] h0) fun v163 h163 =>
  s83a1 rec n x0 v163 h163

noncomputable abbrev c83 : Code := cf Try.f83
noncomputable abbrev c83x1 : Code := cR c83
noncomputable abbrev c83x2 : Code := cR c83x1
noncomputable abbrev c83x3 : Code := cR c83x2
noncomputable abbrev c83x4 : Code := cL c83x2
noncomputable abbrev c83x5 : Code := cL c83x1
noncomputable abbrev c83x6 : Code := cL c83

noncomputable def D83 (rec : RT) (n : Nat) (c : Code) (X : Nat → K) (k : K) : K := codeD CF rec 55 n c X (retK CF Try.f83) k

theorem s83a3e : D83 rec n c83x3 x0 (retK CF Try.f83) = (K1 (s83a3 rec n) 2) :=
  (by kernel_rfl)

theorem s83a2p1 : D83 rec n c83x2 x0 (retK CF Try.f83) = D83 rec n c83x4 x0 (K1 (s83a3 rec n) 2) :=
  congrArg (fun k => D83 rec n c83x4 x0 k) (s83a3e rec n)

theorem s83a2q2 (q0 : TT1) : D83 rec n c83x4 x0 (K1 q0 2) = fun (env : Env) (h : Hp) =>
    bnd (rec 55 [(env 0), (.i .i64 (Int.ofNat 0))] h) fun v69 h69 =>
    bnd (pNew [(.i .i64 (Int.ofNat 0)), (.s []), (.i .i64 (Int.ofNat 0)), (.i .i64 (Int.ofNat 0))] h69) fun v70 h70 =>
    bnd (pStore 4 v70 v69 h70) fun _ h71 =>
    bnd (pNil (env 0) h71) fun v72 h72 =>
    bnd (pField 3 v72 h72) fun v73 h73 =>
    bnd (pLoad1 v73 h73) fun v74 h74 =>
    bnd (pInt .neq v74 (.i .i64 (Int.ofNat 0)) h74) fun v75 h75 =>
    ifD v75 (
      q0 (env 2) h75) (
      bnd (pField 0 v70 h75) fun v76 h76 =>
      bnd (pLoad1 v76 h76) fun v77 h77 =>
      bnd (pInt .eql v77 (.i .i64 (Int.ofNat 1)) h77) fun v78 h78 =>
      ifD v78 (
        bnd (rec 52 [(env 0)] h78) fun v79 h79 =>
        bnd (pPart1 1 v79 h79) fun v80 h80 =>
        bnd (pBuild [(.i .i64 (Int.ofNat 0)), (.s []), (.i .i64 (Int.ofNat 0)), .l0, .l0, .l0] [(0, 1, (.i .i64 (Int.ofNat 5))), (1, 1, v80)] h80) fun v81 h81 =>
        bnd (pStore 6 (env 2) v81 h81) fun _ h82 =>
        bnd (pLoadA 6 (env 2) h82) fun v83 _ =>
        some (v83, h82)) (
        bnd (pField 0 v70 h78) fun v84 h84 =>
        bnd (pLoad1 v84 h84) fun v85 h85 =>
        bnd (pInt .eql v85 (.i .i64 (Int.ofNat 7)) h85) fun v86 h86 =>
        ifD v86 (
          bnd (rec 88 [(env 0), (.f 89 [(env 0)] [])] h86) fun v87 h87 =>
          bnd (pStore 6 (env 2) v87 h87) fun _ h88 =>
          bnd (pLoadA 6 (env 2) h88) fun v89 _ =>
          some (v89, h88)) (
          bnd (rec 51 [(env 0), (.i .i64 (Int.ofNat 10)), (.s [40])] h86) fun v90 h90 =>
          ifD v90 (
            bnd (rec 88 [(env 0), (.f 90 [(env 0)] [])] h90) fun v91 h91 =>
            bnd (pStore 6 (env 2) v91 h91) fun _ h92 =>
            bnd (pLoadA 6 (env 2) h92) fun v93 _ =>
            some (v93, h92)) (
            bnd (rec 51 [(env 0), (.i .i64 (Int.ofNat 10)), (.s [91])] h90) fun v94 h94 =>
            ifD v94 (
              bnd (rec 88 [(env 0), (.f 91 [(env 0)] [])] h94) fun v95 h95 =>
              bnd (pStore 6 (env 2) v95 h95) fun _ h96 =>
              bnd (pLoadA 6 (env 2) h96) fun v97 _ =>
              some (v97, h96)) (
              bnd (pLoadA 4 v70 h94) fun v98 h98 =>
              bnd (rec 54 [(env 0), v98, (.i .i64 (Int.ofNat 13))] h98) fun v99 h99 =>
              q0 (env 2) h99))))) := by kernel_rfl

theorem s83a2q2u : (fun (env : Env) (h : Hp) =>
    bnd (rec 55 [(env 0), (.i .i64 (Int.ofNat 0))] h) fun v100 h100 =>
    bnd (pNew [(.i .i64 (Int.ofNat 0)), (.s []), (.i .i64 (Int.ofNat 0)), (.i .i64 (Int.ofNat 0))] h100) fun v101 h101 =>
    bnd (pStore 4 v101 v100 h101) fun _ h102 =>
    bnd (pNil (env 0) h102) fun v103 h103 =>
    bnd (pField 3 v103 h103) fun v104 h104 =>
    bnd (pLoad1 v104 h104) fun v105 h105 =>
    bnd (pInt .neq v105 (.i .i64 (Int.ofNat 0)) h105) fun v106 h106 =>
    ifD v106 (
      s83a3 rec n (env 2) h106) (
      bnd (pField 0 v101 h106) fun v107 h107 =>
      bnd (pLoad1 v107 h107) fun v108 h108 =>
      bnd (pInt .eql v108 (.i .i64 (Int.ofNat 1)) h108) fun v109 h109 =>
      ifD v109 (
        bnd (rec 52 [(env 0)] h109) fun v110 h110 =>
        bnd (pPart1 1 v110 h110) fun v111 h111 =>
        bnd (pBuild [(.i .i64 (Int.ofNat 0)), (.s []), (.i .i64 (Int.ofNat 0)), .l0, .l0, .l0] [(0, 1, (.i .i64 (Int.ofNat 5))), (1, 1, v111)] h111) fun v112 h112 =>
        bnd (pStore 6 (env 2) v112 h112) fun _ h113 =>
        bnd (pLoadA 6 (env 2) h113) fun v114 _ =>
        some (v114, h113)) (
        bnd (pField 0 v101 h109) fun v115 h115 =>
        bnd (pLoad1 v115 h115) fun v116 h116 =>
        bnd (pInt .eql v116 (.i .i64 (Int.ofNat 7)) h116) fun v117 h117 =>
        ifD v117 (
          bnd (rec 88 [(env 0), (.f 89 [(env 0)] [])] h117) fun v118 h118 =>
          bnd (pStore 6 (env 2) v118 h118) fun _ h119 =>
          bnd (pLoadA 6 (env 2) h119) fun v120 _ =>
          some (v120, h119)) (
          bnd (rec 51 [(env 0), (.i .i64 (Int.ofNat 10)), (.s [40])] h117) fun v121 h121 =>
          ifD v121 (
            bnd (rec 88 [(env 0), (.f 90 [(env 0)] [])] h121) fun v122 h122 =>
            bnd (pStore 6 (env 2) v122 h122) fun _ h123 =>
            bnd (pLoadA 6 (env 2) h123) fun v124 _ =>
            some (v124, h123)) (
            bnd (rec 51 [(env 0), (.i .i64 (Int.ofNat 10)), (.s [91])] h121) fun v125 h125 =>
            ifD v125 (
              bnd (rec 88 [(env 0), (.f 91 [(env 0)] [])] h125) fun v126 h126 =>
              bnd (pStore 6 (env 2) v126 h126) fun _ h127 =>
              bnd (pLoadA 6 (env 2) h127) fun v128 _ =>
              some (v128, h127)) (
              bnd (pLoadA 4 v101 h125) fun v129 h129 =>
              bnd (rec 54 [(env 0), v129, (.i .i64 (Int.ofNat 13))] h129) fun v130 h130 =>
              s83a3 rec n (env 2) h130)))))) = (K2 (s83a2 rec n) 0 2) := by kernel_rfl

theorem s83a2e : D83 rec n c83x2 x0 (retK CF Try.f83) = (K2 (s83a2 rec n) 0 2) :=
  (s83a2p1 rec n).trans
  ((s83a2q2 rec n (s83a3 rec n)).trans (s83a2q2u rec n))

theorem s83a1p3 : D83 rec n c83x1 x0 (retK CF Try.f83) = D83 rec n c83x5 x0 (K2 (s83a2 rec n) 0 2) :=
  congrArg (fun k => D83 rec n c83x5 x0 k) (s83a2e rec n)

theorem s83a1q4 (q0 : TT2) : D83 rec n c83x5 x0 (K2 q0 0 2) = fun (env : Env) (h : Hp) =>
    bnd (rec 87 [(env 0)] h) fun v147 h147 =>
    bnd (pExtract 0 v147 h147) fun v148 h148 =>
    bnd (pExtract 1 v147 h148) fun v149 h149 =>
    bnd (pNew [(.i .i64 (Int.ofNat 0)), (.s []), (.i .i64 (Int.ofNat 0)), .l0, .l0, .l0] h149) fun v150 h150 =>
    bnd (pStore 6 v150 v148 h150) fun _ h151 =>
    ifD v149 (
      bnd (pLoadA 6 v150 h151) fun v152 h152 =>
      bnd (pStore 6 (env 2) v152 h152) fun _ h153 =>
      bnd (pLoadA 6 (env 2) h153) fun v154 _ =>
      some (v154, h153)) (
      q0 (env 0) (env 2) h151) := by kernel_rfl

theorem s83a1q4u : (fun (env : Env) (h : Hp) =>
    bnd (rec 87 [(env 0)] h) fun v155 h155 =>
    bnd (pExtract 0 v155 h155) fun v156 h156 =>
    bnd (pExtract 1 v155 h156) fun v157 h157 =>
    bnd (pNew [(.i .i64 (Int.ofNat 0)), (.s []), (.i .i64 (Int.ofNat 0)), .l0, .l0, .l0] h157) fun v158 h158 =>
    bnd (pStore 6 v158 v156 h158) fun _ h159 =>
    ifD v157 (
      bnd (pLoadA 6 v158 h159) fun v160 h160 =>
      bnd (pStore 6 (env 2) v160 h160) fun _ h161 =>
      bnd (pLoadA 6 (env 2) h161) fun v162 _ =>
      some (v162, h161)) (
      s83a2 rec n (env 0) (env 2) h159)) = (K2 (s83a1 rec n) 0 2) := by kernel_rfl

theorem s83a1e : D83 rec n c83x1 x0 (retK CF Try.f83) = (K2 (s83a1 rec n) 0 2) :=
  (s83a1p3 rec n).trans
  ((s83a1q4 rec n (s83a2 rec n)).trans (s83a1q4u rec n))

theorem s83p5 : D83 rec n c83 x0 (retK CF Try.f83) = D83 rec n c83x6 x0 (K2 (s83a1 rec n) 0 2) :=
  congrArg (fun k => D83 rec n c83x6 x0 k) (s83a1e rec n)

theorem s83q6 (q0 : TT2) : D83 rec n c83x6 x0 (K2 q0 0 2) = fun (env : Env) (h : Hp) =>
    bnd (pNew [(.i .i64 (Int.ofNat 0)), (.s []), (.i .i64 (Int.ofNat 0)), .l0, .l0, .l0] h) fun v165 h165 =>
    q0 (env 0) v165 h165 := by kernel_rfl

theorem s83q6u : (fun (env : Env) (h : Hp) =>
    bnd (pNew [(.i .i64 (Int.ofNat 0)), (.s []), (.i .i64 (Int.ofNat 0)), .l0, .l0, .l0] h) fun v166 h166 =>
    s83a1 rec n (env 0) v166 h166) = (K1 (s83 rec n) 0) := by kernel_rfl

theorem s83m : D83 rec n c83 x0 (retK CF Try.f83) = (K1 (s83 rec n) 0) :=
  (s83p5 rec n).trans
  ((s83q6 rec n (s83a1 rec n)).trans (s83q6u rec n))

theorem s83ok (args : List DV) (h : Hp) : bodyD CF rec n 83 args h = s83 rec n (args.getD 0 undefD) h :=
  (by kernel_rfl : bodyD CF rec n 83 args h = D83 rec n c83 x0 (retK CF Try.f83) (argsE args) h).trans ((congrFun (congrFun (s83m rec n) (argsE args)) h).trans (by kernel_rfl))

/-- parse.message -/
noncomputable def s84 (rec : RT) (n : Nat) (x0 : DV) (h0 : Hp) : Res :=
  bnd (pBox x0 h0) fun v1 h1 =>
  bnd (pNew [(.i .i64 (Int.ofNat 0)), (.s []), (.i .i64 (Int.ofNat 0)), .l0, .l0, .l0] h1) fun v2 h2 =>
  bnd (pField 5 v1 h2) fun v3 h3 =>
  bnd (pLoad1 v3 h3) fun v4 h4 =>
  bnd (pLen v4 h4) fun v5 h5 =>
  bnd (pInt .eql v5 (.i .i64 (Int.ofNat 0)) h5) fun v6 h6 =>
  ifD v6 (
    bnd (pLoadA 6 v1 h6) fun v7 h7 =>
    bnd (pStore 6 v2 v7 h7) fun _ h8 =>
    bnd (pLoadA 6 v2 h8) fun v9 _ =>
    some (v9, h8)) (
    bnd (pField 1 v1 h6) fun v10 h10 =>
    bnd (pLoad1 v10 h10) fun v11 h11 =>
    bnd (pField 5 v1 h11) fun v12 h12 =>
    bnd (pLoad1 v12 h12) fun v13 h13 =>
    bnd (pSlice 6 v13 (some (.i .i64 (Int.ofNat 1))) none h13) fun v14 h14 =>
    cnd (sameR (pLoad1 v10 h14) v11 && true) (
    bnd (rec 92 [v14] h14) fun v15 h15 =>
    cnd (sameR (pLoad1 v10 h15) v11 && true) (
    bnd (pBuild [(.i .i64 (Int.ofNat 0)), (.s []), (.i .i64 (Int.ofNat 0)), .l0, .l0, .l0] [(0, 1, (.i .i64 (Int.ofNat 7))), (1, 1, v11), (5, 1, v15)] h15) fun v16 h16 =>
    bnd (pStore 6 v2 v16 h16) fun v17 h17 =>
    bnd (pLoadA 6 v2 h17) fun v18 _ =>
    some (v18, h17))))

noncomputable abbrev c84 : Code := cf Try.f84

noncomputable def D84 (rec : RT) (n : Nat) (c : Code) (X : Nat → K) (k : K) : K := codeD CF rec 15 n c X (retK CF Try.f84) k

theorem s84m : D84 rec n c84 x0 (retK CF Try.f84) = (K1 (s84 rec n) 0) :=
  (by kernel_rfl)

theorem s84ok (args : List DV) (h : Hp) : bodyD CF rec n 84 args h = s84 rec n (args.getD 0 undefD) h :=
  (by kernel_rfl : bodyD CF rec n 84 args h = D84 rec n c84 x0 (retK CF Try.f84) (argsE args) h).trans ((congrFun (congrFun (s84m rec n) (argsE args)) h).trans (by kernel_rfl))

/-- parse.parser).message -/
noncomputable def s85 (rec : RT) (n : Nat) (x0 : DV) (h0 : Hp) : Res :=
  bnd (pNew [(.i .i64 (Int.ofNat 0)), (.s []), (.i .i64 (Int.ofNat 0)), .l0, .l0, .l0] h0) fun v1 h1 =>
  bnd (pNew [(.i .i64 (Int.ofNat 0)), (.s []), (.i .i64 (Int.ofNat 0)), .l0, .l0, .l0] h1) fun v2 h2 =>
  bnd (rec 55 [x0, (.i .i64 (Int.ofNat 0))] h2) fun v3 h3 =>
  bnd (pNew [(.i .i64 (Int.ofNat 0)), (.s []), (.i .i64 (Int.ofNat 0)), (.i .i64 (Int.ofNat 0))] h3) fun v4 h4 =>
  bnd (pStore 4 v4 v3 h4) fun _ h5 =>
  bnd (pField 0 v4 h5) fun v6 h6 =>
  bnd (pLoad1 v6 h6) fun v7 h7 =>
  bnd (pInt .eql v7 (.i .i64 (Int.ofNat 1)) h7) fun v8 h8 =>
  ifD v8 (
    bnd (rec 52 [x0] h8) fun v9 h9 =>
    bnd (pField 1 v4 h9) fun v10 h10 =>
    bnd (pLoad1 v10 h10) fun v11 h11 =>
    bnd (pLoadA 6 v2 h11) fun v12 h12 =>
    bnd (pBuildSlice [(.i .i64 (Int.ofNat 0)), (.s []), (.i .i64 (Int.ofNat 0)), .l0, .l0, .l0] 1 [(0, 6, v12)] h12) fun v13 h13 =>
    bnd (rec 86 [v11, v13] h13) fun v14 h14 =>
    bnd (pStore 6 v1 v14 h14) fun _ h15 =>
    bnd (pLoadA 6 v1 h15) fun v16 _ =>
    some (v16, h15)) (
    bnd (pInt .eql v7 (.i .i64 (Int.ofNat 3)) h8) fun v17 h17 =>
    ifD v17 (
      bnd (rec 52 [x0] h17) fun v18 h18 =>
      bnd (pField 1 v4 (resv 1 h18)) fun v19 h19 =>
      bnd (pLoad1 v19 h19) fun v20 h20 =>
      bnd (pLoadA 6 v2 h20) fun v21 h21 =>
      bnd (rec 83 [x0] h21) fun v22 h22 =>
      cnd (sameR (pLoadA 6 v2 h22) v21 && (sameR (pLoad1 v19 h22) v20 && true)) (
      bnd (rec 82 [x0, v22] h22) fun v23 h23 =>
      cnd (sameR (pLoadA 6 v2 h23) v21 && (sameR (pLoad1 v19 h23) v20 && true)) (
      bnd (pBuildSliceAt (nthPos 0 h18.next) [(.i .i64 (Int.ofNat 0)), (.s []), (.i .i64 (Int.ofNat 0)), .l0, .l0, .l0, (.i .i64 (Int.ofNat 0)), (.s []), (.i .i64 (Int.ofNat 0)), .l0, .l0, .l0] 2 [(0, 6, v21), (6, 6, v23)] h23) fun v24 h24 =>
      bnd (rec 86 [v20, v24] h24) fun v25 h25 =>
      bnd (pStore 6 v1 v25 h25) fun v26 h26 =>
      bnd (pLoadA 6 v1 h26) fun v27 _ =>
      some (v27, h26)))) (
      bnd (pInt .eql v7 (.i .i64 (Int.ofNat 2)) h17) fun v28 h28 =>
      ifD v28 (
        bnd (pLoadA 6 v2 h28) fun v29 h29 =>
        bnd (rec 80 [x0, v29] h29) fun v30 h30 =>
        bnd (pStore 6 v1 v30 h30) fun _ h31 =>
        bnd (pLoadA 6 v1 h31) fun v32 _ =>
        some (v32, h31)) (
        bnd (pLoadA 4 v4 h28) fun v33 h33 =>
        bnd (rec 54 [x0, v33, (.i .i64 (Int.ofNat 13))] h33) fun v34 h34 =>
        bnd (pLoadA 6 v2 h34) fun v35 h35 =>
        bnd (pStore 6 v1 v35 h35) fun _ h36 =>
        bnd (pLoadA 6 v1 h36) fun v37 _ =>
        some (v37, h36))))

noncomputable abbrev c85 : Code := cf Try.f85

noncomputable def D85 (rec : RT) (n : Nat) (c : Code) (X : Nat → K) (k : K) : K := codeD CF rec 40 n c X (retK CF Try.f85) k

theorem s85m : D85 rec n c85 x0 (retK CF Try.f85) = (K1 (s85 rec n) 0) :=
  (by kernel_rfl)

theorem s85ok (args : List DV) (h : Hp) : bodyD CF rec n 85 args h = s85 rec n (args.getD 0 undefD) h :=
  (by kernel_rfl : bodyD CF rec n 85 args h = D85 rec n c85 x0 (retK CF Try.f85) (argsE args) h).trans ((congrFun (congrFun (s85m rec n) (argsE args)) h).trans (by kernel_rfl))

/-- parse.send -/
noncomputable def s86 (rec : RT) (n : Nat) (x0 x1 : DV) (h0 : Hp) : Res :=
  bnd (pNew [(.i .i64 (Int.ofNat 0)), (.s []), (.i .i64 (Int.ofNat 0)), .l0, .l0, .l0] h0) fun v1 h1 =>
  bnd (pBuild [(.i .i64 (Int.ofNat 0)), (.s []), (.i .i64 (Int.ofNat 0)), .l0, .l0, .l0] [(0, 1, (.i .i64 (Int.ofNat 7))), (1, 1, x0), (5, 1, x1)] h1) fun v2 h2 =>
  bnd (pStore 6 v1 v2 h2) fun _ h3 =>
  bnd (pLoadA 6 v1 h3) fun v4 _ =>
  some (v4, h3)

noncomputable abbrev c86 : Code := cf Try.f86

noncomputable def D86 (rec : RT) (n : Nat) (c : Code) (X : Nat → K) (k : K) : K := codeD CF rec 8 n c X (retK CF Try.f86) k

theorem s86m : D86 rec n c86 x0 (retK CF Try.f86) = (K2 (s86 rec n) 0 1) :=
  (by kernel_rfl)

theorem s86ok (args : List DV) (h : Hp) : bodyD CF rec n 86 args h = s86 rec n (args.getD 0 undefD) (args.getD 1 undefD) h :=
  (by kernel_rfl : bodyD CF rec n 86 args h = D86 rec n c86 x0 (retK CF Try.f86) (argsE args) h).trans ((congrFun (congrFun (s86m rec n) (argsE args)) h).trans (by kernel_rfl))

noncomputable def s87a4 (rec : RT) (n : Nat) (x0 x2 x5 : DV) (h0 : Hp) : Res :=
  bnd (rec 52 [x0] h0) fun v1 h1 =>
  bnd (pLoadA 6 x5 h1) fun v2 h2 =>
  bnd (pStore 6 x2 v2 h2) fun _ h3 =>
  bnd (pLoadA 6 x2 h3) fun v4 _ =>
  some (.t [v4, (.b true)], h3)

noncomputable def s87a3 (rec : RT) (n : Nat) (x0 x2 x4 x5 : DV) (h0 : Hp) : Res :=
  bnd (pNil x0 h0) fun v9 h9 =>
  bnd (pField 3 v9 h9) fun v10 h10 =>
  bnd (pLoad1 v10 h10) fun v11 h11 =>
  bnd (pInt .neq v11 (.i .i64 (Int.ofNat 0)) h11) fun v12 h12 =>
  ifD v12 (
    bnd (pLoadA 6 x5 h12) fun v13 h13 =>
    bnd (pStore 6 x2 v13 h13) fun _ h14 =>
    bnd (pLoadA 6 x2 h14) fun v15 _ =>
    some (.t [v15, (.b false)], h14)) (
    bnd (rec 93 [x0] h12) fun v16 h16 =>
    ifD v16 (
      bnd (rec 52 [x0] h16) fun v17 h17 =>
      bnd (rec 52 [x0] h17) fun v18 h18 =>
      bnd (pPart1 2 v18 h18) fun v19 h19 =>
      bnd (pUn .neg v19 h19) fun v20 h20 =>
      bnd (pBuild [(.i .i64 (Int.ofNat 0)), (.s []), (.i .i64 (Int.ofNat 0)), .l0, .l0, .l0] [(0, 1, (.i .i64 (Int.ofNat 1))), (2, 1, v20)] h20) fun v21 h21 =>
      bnd (pStore 6 x2 v21 h21) fun _ h22 =>
      bnd (pLoadA 6 x2 h22) fun v23 _ =>
      some (.t [v23, (.b true)], h22)) (
      bnd (pField 0 x4 h16) fun v24 h24 =>
      bnd (pLoad1 v24 h24) fun v25 h25 =>
      bnd (pInt .eql v25 (.i .i64 (Int.ofNat 4)) h25) fun v26 h26 =>
      ifD v26 (
        bnd (pField 0 x5 h26) fun v27 h27 =>
        bnd (pStore 1 v27 (.i .i64 (Int.ofNat 1)) h27) fun _ h28 =>
        s87a4 rec n x0 x2 x5 h28) (
        bnd (pField 0 x4 h26) fun v29 h29 =>
        bnd (pLoad1 v29 h29) fun v30 h30 =>
        bnd (pInt .eql v30 (.i .i64 (Int.ofNat 5)) h30) fun v31 h31 =>
        ifD v31 (
          bnd (pField 0 x5 h31) fun v32 h32 =>
          bnd (pStore 1 v32 (.i .i64 (Int.ofNat 2)) h32) fun _ h33 =>
          s87a4 rec n x0 x2 x5 h33) (
          bnd (pField 0 x4 h31) fun v34 h34 =>
          bnd (pLoad1 v34 h34) fun v35 h35 =>
          bnd (pInt .eql v35 (.i .i64 (Int.ofNat 6)) h35) fun v36 h36 =>
          ifD v36 (
            bnd (pField 0 x5 h36) fun v37 h37 =>
            bnd (pStore 1 v37 (.i .i64 (Int.ofNat 3)) h37) fun _ h38 =>
            s87a4 rec n x0 x2 x5 h38) (
            bnd (pLoadA 6 x5 h36) fun v39 h39 =>
            bnd (pStore 6 x2 v39 h39) fun _ h40 =>
            bnd (pLoadA 6 x2 h40) fun v41 _ =>
            some (.t [v41, (.b false)], h40))))))

noncomputable def s87a2 (rec : RT) (n : Nat) (x0 x2 x4 : DV) (h0 : Hp) : Res :=
  bnd (pField 1 x4 h0) fun v141 h141 =>
  bnd (pLoad1 v141 h141) fun v142 h142 =>
  bnd (pField 2 x4 h142) fun v143 h143 =>
  bnd (pLoad1 v143 h143) fun v144 h144 =>
  bnd (pBuild [(.i .i64 (Int.ofNat 0)), (.s []), (.i .i64 (Int.ofNat 0)), .l0, .l0, .l0] [(1, 1, v142), (2, 1, v144)] h144) fun v145 h145 =>
  bnd (pNew [(.i .i64 (Int.ofNat 0)), (.s []), (.i .i64 (Int.ofNat 0)), .l0, .l0, .l0] h145) fun v146 h146 =>
  bnd (pStore 6 v146 v145 h146) fun _ h147 =>
  s87a3 rec n x0 x2 x4 v146 h147

noncomputable def s87a1 (rec : RT) (n : Nat) (x0 x2 : DV) (h0 : Hp) : Res :=
  bnd (rec 55 [x0, (.i .i64 (Int.ofNat 0))] h0) fun v169 h169 =>
  bnd (pNew [(.i .i64 (Int.ofNat 0)), (.s []), (.i .i64 (Int.ofNat 0)), (.i .i64 (Int.ofNat 0))] h169) fun v170 h170 =>
  bnd (pStore 4 v170 v169 h170) fun _ h171 =>
  s87a2 rec n x0 x2 v170 h171

/-- parse.parser).plain -/
noncomputable def s87 (rec : RT) (n : Nat) (x0 : DV) (h0 : Hp) : Res :=
  bnd (pNew [(.i .i64 (Int.ofNat 0)), (.s []), (.i .i64 (Int.ofNat 0)), .l0, .l0, .l0] h0) fun v181 h181 =>
  s87a1 rec n x0 v181 h181

noncomputable abbrev c87 : Code := cf Try.f87
noncomputable abbrev c87x1 : Code := cR c87
noncomputable abbrev c87x2 : Code := cR c87x1
noncomputable abbrev c87x3 : Code := cR c87x2
noncomputable abbrev c87x4 : Code := cR c87x3
noncomputable abbrev c87x5 : Code := cL c87x3
noncomputable abbrev c87x6 : Code := cL c87x2
noncomputable abbrev c87x7 : Code := cL c87x1
noncomputable abbrev c87x8 : Code := cL c87

noncomputable def D87 (rec : RT) (n : Nat) (c : Code) (X : Nat → K) (k : K) : K := codeD CF rec 49 n c X (retK CF Try.f87) k

theorem s87a4e : D87 rec n c87x4 x0 (retK CF Try.f87) = (K3 (s87a4 rec n) 0 2 5) :=
  (by kernel_rfl)

theorem s87a3p1 : D87 rec n c87x3 x0 (retK CF Try.f87) = D87 rec n c87x5 x0 (K3 (s87a4 rec n) 0 2 5) :=
  congrArg (fun k => D87 rec n c87x5 x0 k) (s87a4e rec n)

theorem s87a3q2 (q0 : TT3) : D87 rec n c87x5 x0 (K3 q0 0 2 5) = fun (env : Env) (h : Hp) =>
    bnd (pNil (env 0) h) fun v75 h75 =>
    bnd (pField 3 v75 h75) fun v76 h76 =>
    bnd (pLoad1 v76 h76) fun v77 h77 =>
    bnd (pInt .neq v77 (.i .i64 (Int.ofNat 0)) h77) fun v78 h78 =>
    ifD v78 (
      bnd (pLoadA 6 (env 5) h78) fun v79 h79 =>
      bnd (pStore 6 (env 2) v79 h79) fun _ h80 =>
      bnd (pLoadA 6 (env 2) h80) fun v81 _ =>
      some (.t [v81, (.b false)], h80)) (
      bnd (rec 93 [(env 0)] h78) fun v82 h82 =>
      ifD v82 (
        bnd (rec 52 [(env 0)] h82) fun v83 h83 =>
        bnd (rec 52 [(env 0)] h83) fun v84 h84 =>
        bnd (pPart1 2 v84 h84) fun v85 h85 =>
        bnd (pUn .neg v85 h85) fun v86 h86 =>
        bnd (pBuild [(.i .i64 (Int.ofNat 0)), (.s []), (.i .i64 (Int.ofNat 0)), .l0, .l0, .l0] [(0, 1, (.i .i64 (Int.ofNat 1))), (2, 1, v86)] h86) fun v87 h87 =>
        bnd (pStore 6 (env 2) v87 h87) fun _ h88 =>
        bnd (pLoadA 6 (env 2) h88) fun v89 _ =>
        some (.t [v89, (.b true)], h88)) (
        bnd (pField 0 (env 4) h82) fun v90 h90 =>
        bnd (pLoad1 v90 h90) fun v91 h91 =>
        bnd (pInt .eql v91 (.i .i64 (Int.ofNat 4)) h91) fun v92 h92 =>
        ifD v92 (
          bnd (pField 0 (env 5) h92) fun v93 h93 =>
          bnd (pStore 1 v93 (.i .i64 (Int.ofNat 1)) h93) fun _ h94 =>
          q0 (env 0) (env 2) (env 5) h94) (
          bnd (pField 0 (env 4) h92) fun v95 h95 =>
          bnd (pLoad1 v95 h95) fun v96 h96 =>
          bnd (pInt .eql v96 (.i .i64 (Int.ofNat 5)) h96) fun v97 h97 =>
          ifD v97 (
            bnd (pField 0 (env 5) h97) fun v98 h98 =>
            bnd (pStore 1 v98 (.i .i64 (Int.ofNat 2)) h98) fun _ h99 =>
            q0 (env 0) (env 2) (env 5) h99) (
            bnd (pField 0 (env 4) h97) fun v100 h100 =>
            bnd (pLoad1 v100 h100) fun v101 h101 =>
            bnd (pInt .eql v101 (.i .i64 (Int.ofNat 6)) h101) fun v102 h102 =>
            ifD v102 (
              bnd (pField 0 (env 5) h102) fun v103 h103 =>
              bnd (pStore 1 v103 (.i .i64 (Int.ofNat 3)) h103) fun _ h104 =>
              q0 (env 0) (env 2) (env 5) h104) (
              bnd (pLoadA 6 (env 5) h102) fun v105 h105 =>
              bnd (pStore 6 (env 2) v105 h105) fun _ h106 =>
              bnd (pLoadA 6 (env 2) h106) fun v107 _ =>
              some (.t [v107, (.b false)], h106)))))) := by kernel_rfl

theorem s87a3q2u : (fun (env : Env) (h : Hp) =>
    bnd (pNil (env 0) h) fun v108 h108 =>
    bnd (pField 3 v108 h108) fun v109 h109 =>
    bnd (pLoad1 v109 h109) fun v110 h110 =>
    bnd (pInt .neq v110 (.i .i64 (Int.ofNat 0)) h110) fun v111 h111 =>
    ifD v111 (
      bnd (pLoadA 6 (env 5) h111) fun v112 h112 =>
      bnd (pStore 6 (env 2) v112 h112) fun _ h113 =>
      bnd (pLoadA 6 (env 2) h113) fun v114 _ =>
      some (.t [v114, (.b false)], h113)) (
      bnd (rec 93 [(env 0)] h111) fun v115 h115 =>
      ifD v115 (
        bnd (rec 52 [(env 0)] h115) fun v116 h116 =>
        bnd (rec 52 [(env 0)] h116) fun v117 h117 =>
        bnd (pPart1 2 v117 h117) fun v118 h118 =>
        bnd (pUn .neg v118 h118) fun v119 h119 =>
        bnd (pBuild [(.i .i64 (Int.ofNat 0)), (.s []), (.i .i64 (Int.ofNat 0)), .l0, .l0, .l0] [(0, 1, (.i .i64 (Int.ofNat 1))), (2, 1, v119)] h119) fun v120 h120 =>
        bnd (pStore 6 (env 2) v120 h120) fun _ h121 =>
        bnd (pLoadA 6 (env 2) h121) fun v122 _ =>
        some (.t [v122, (.b true)], h121)) (
        bnd (pField 0 (env 4) h115) fun v123 h123 =>
        bnd (pLoad1 v123 h123) fun v124 h124 =>
        bnd (pInt .eql v124 (.i .i64 (Int.ofNat 4)) h124) fun v125 h125 =>
        ifD v125 (
          bnd (pField 0 (env 5) h125) fun v126 h126 =>
          bnd (pStore 1 v126 (.i .i64 (Int.ofNat 1)) h126) fun _ h127 =>
          s87a4 rec n (env 0) (env 2) (env 5) h127) (
          bnd (pField 0 (env 4) h125) fun v128 h128 =>
          bnd (pLoad1 v128 h128) fun v129 h129 =>
          bnd (pInt .eql v129 (.i .i64 (Int.ofNat 5)) h129) fun v130 h130 =>
          ifD v130 (
            bnd (pField 0 (env 5) h130) fun v131 h131 =>
            bnd (pStore 1 v131 (.i .i64 (Int.ofNat 2)) h131) fun _ h132 =>
            s87a4 rec n (env 0) (env 2) (env 5) h132) (
            bnd (pField 0 (env 4) h130) fun v133 h133 =>
            bnd (pLoad1 v133 h133) fun v134 h134 =>
            bnd (pInt .eql v134 (.i .i64 (Int.ofNat 6)) h134) fun v135 h135 =>
            ifD v135 (
              bnd (pField 0 (env 5) h135) fun v136 h136 =>
              bnd (pStore 1 v136 (.i .i64 (Int.ofNat 3)) h136) fun _ h137 =>
              s87a4 rec n (env 0) (env 2) (env 5) h137) (
              bnd (pLoadA 6 (env 5) h135) fun v138 h138 =>
              bnd (pStore 6 (env 2) v138 h138) fun _ h139 =>
              bnd (pLoadA 6 (env 2) h139) fun v140 _ =>
              some (.t [v140, (.b false)], h139))))))) = (K4 (s87a3 rec n) 0 2 4 5) := by kernel_rfl

theorem s87a3e : D87 rec n c87x3 x0 (retK CF Try.f87) = (K4 (s87a3 rec n) 0 2 4 5) :=
  (s87a3p1 rec n).trans
  ((s87a3q2 rec n (s87a4 rec n)).trans (s87a3q2u rec n))

theorem s87a2p3 : D87 rec n c87x2 x0 (retK CF Try.f87) = D87 rec n c87x6 x0 (K4 (s87a3 rec n) 0 2 4 5) :=
  congrArg (fun k => D87 rec n c87x6 x0 k) (s87a3e rec n)

theorem s87a2q4 (q0 : TT4) : D87 rec n c87x6 x0 (K4 q0 0 2 4 5) = fun (env : Env) (h : Hp) =>
    bnd (pField 1 (env 4) h) fun v155 h155 =>
    bnd (pLoad1 v155 h155) fun v156 h156 =>
    bnd (pField 2 (env 4) h156) fun v157 h157 =>
    bnd (pLoad1 v157 h157) fun v158 h158 =>
    bnd (pBuild [(.i .i64 (Int.ofNat 0)), (.s []), (.i .i64 (Int.ofNat 0)), .l0, .l0, .l0] [(1, 1, v156), (2, 1, v158)] h158) fun v159 h159 =>
    bnd (pNew [(.i .i64 (Int.ofNat 0)), (.s []), (.i .i64 (Int.ofNat 0)), .l0, .l0, .l0] h159) fun v160 h160 =>
    bnd (pStore 6 v160 v159 h160) fun _ h161 =>
    q0 (env 0) (env 2) (env 4) v160 h161 := by kernel_rfl

theorem s87a2q4u : (fun (env : Env) (h : Hp) =>
    bnd (pField 1 (env 4) h) fun v162 h162 =>
    bnd (pLoad1 v162 h162) fun v163 h163 =>
    bnd (pField 2 (env 4) h163) fun v164 h164 =>
    bnd (pLoad1 v164 h164) fun v165 h165 =>
    bnd (pBuild [(.i .i64 (Int.ofNat 0)), (.s []), (.i .i64 (Int.ofNat 0)), .l0, .l0, .l0] [(1, 1, v163), (2, 1, v165)] h165) fun v166 h166 =>
    bnd (pNew [(.i .i64 (Int.ofNat 0)), (.s []), (.i .i64 (Int.ofNat 0)), .l0, .l0, .l0] h166) fun v167 h167 =>
    bnd (pStore 6 v167 v166 h167) fun _ h168 =>
    s87a3 rec n (env 0) (env 2) (env 4) v167 h168) = (K3 (s87a2 rec n) 0 2 4) := by kernel_rfl

theorem s87a2e : D87 rec n c87x2 x0 (retK CF Try.f87) = (K3 (s87a2 rec n) 0 2 4) :=
  (s87a2p3 rec n).trans
  ((s87a2q4 rec n (s87a3 rec n)).trans (s87a2q4u rec n))

theorem s87a1p5 : D87 rec n c87x1 x0 (retK CF Try.f87) = D87 rec n c87x7 x0 (K3 (s87a2 rec n) 0 2 4) :=
  congrArg (fun k => D87 rec n c87x7 x0 k) (s87a2e rec n)

theorem s87a1q6 (q0 : TT3) : D87 rec n c87x7 x0 (K3 q0 0 2 4) = fun (env : Env) (h : Hp) =>
    bnd (rec 55 [(env 0), (.i .i64 (Int.ofNat 0))] h) fun v175 h175 =>
    bnd (pNew [(.i .i64 (Int.ofNat 0)), (.s []), (.i .i64 (Int.ofNat 0)), (.i .i64 (Int.ofNat 0))] h175) fun v176 h176 =>
    bnd (pStore 4 v176 v175 h176) fun _ h177 =>
    q0 (env 0) (env 2) v176 h177 := by kernel_rfl

theorem s87a1q6u : (fun (env : Env) (h : Hp) =>
    bnd (rec 55 [(env 0), (.i .i64 (Int.ofNat 0))] h) fun v178 h178 =>
    bnd (pNew [(.i .i64 (Int.ofNat 0)), (.s []), (.i .i64 (Int.ofNat 0)), (.i .i64 (Int.ofNat 0))] h178) fun v179 h179 =>
    bnd (pStore 4 v179 v178 h179) fun _ h180 =>
    s87a2 rec n (env 0) (env 2) v179 h180) = (K2 (s87a1 rec n) 0 2) := by kernel_rfl

theorem s87a1e : D87 rec n c87x1 x0 (retK CF Try.f87) = (K2 (s87a1 rec n) 0 2) :=
  (s87a1p5 rec n).trans
  ((s87a1q6 rec n (s87a2 rec n)).trans (s87a1q6u rec n))

theorem s87p7 : D87 rec n c87 x0 (retK CF Try.f87) = D87 rec n c87x8 x0 (K2 (s87a1 rec n) 0 2) :=
  congrArg (fun k => D87 rec n c87x8 x0 k) (s87a1e rec n)

theorem s87q8 (q0 : TT2) : D87 rec n c87x8 x0 (K2 q0 0 2) = fun (env : Env) (h : Hp) =>
    bnd (pNew [(.i .i64 (Int.ofNat 0)), (.s []), (.i .i64 (Int.ofNat 0)), .l0, .l0, .l0] h) fun v183 h183 =>
    q0 (env 0) v183 h183 := by kernel_rfl

theorem s87q8u : (fun (env : Env) (h : Hp) =>
    bnd (pNew [(.i .i64 (Int.ofNat 0)), (.s []), (.i .i64 (Int.ofNat 0)), .l0, .l0, .l0] h) fun v184 h184 =>
    s87a1 rec n (env 0) v184 h184) = (K1 (s87 rec n) 0) := by kernel_rfl

theorem s87m : D87 rec n c87 x0 (retK CF Try.f87) = (K1 (s87 rec n) 0) :=
  (s87p7 rec n).trans
  ((s87q8 rec n (s87a1 rec n)).trans (s87q8u rec n))

theorem s87ok (args : List DV) (h : Hp) : bodyD CF rec n 87 args h = s87 rec n (args.getD 0 undefD) h :=
  (by kernel_rfl : bodyD CF rec n 87 args h = D87 rec n c87 x0 (retK CF Try.f87) (argsE args) h).trans ((congrFun (congrFun (s87m rec n) (argsE args)) h).trans (by kernel_rfl))

/-- parse.parser).within -/
noncomputable def s88 (rec : RT) (n : Nat) (x0 x1 : DV) (h0 : Hp) : Res :=
  bnd (pNew [(.i .i64 (Int.ofNat 0)), (.s []), (.i .i64 (Int.ofNat 0)), .l0, .l0, .l0] h0) fun v1 h1 =>
  bnd (rec 52 [x0] h1) fun v2 h2 =>
  bnd (pNew [(.i .i64 (Int.ofNat 0)), (.s []), (.i .i64 (Int.ofNat 0)), (.i .i64 (Int.ofNat 0))] h2) fun v3 h3 =>
  bnd (pStore 4 v3 v2 h3) fun _ h4 =>
  bnd (pNil x0 h4) fun v5 h5 =>
  bnd (pField 1 v5 h5) fun v6 h6 =>
  bnd (pLoad1 v6 h6) fun v7 h7 =>
  bnd (pInt .eql v7 (.i .i64 (Int.ofNat 20)) h7) fun v8 h8 =>
  ifD v8 (
    bnd (pLoadA 4 v3 h8) fun v9 h9 =>
    bnd (rec 54 [x0, v9, (.i .i64 (Int.ofNat 14))] h9) fun v10 h10 =>
    bnd (pBuild [(.i .i64 (Int.ofNat 0)), (.s []), (.i .i64 (Int.ofNat 0)), .l0, .l0, .l0] [] h10) fun v11 h11 =>
    bnd (pStore 6 v1 v11 h11) fun _ h12 =>
    bnd (pLoadA 6 v1 h12) fun v13 _ =>
    some (v13, h12)) (
    bnd (pNil x0 h8) fun v14 h14 =>
    bnd (pField 1 v14 h14) fun v15 h15 =>
    bnd (pLoad1 v15 h15) fun v16 h16 =>
    bnd (pInt .add v16 (.i .i64 (Int.ofNat 1)) h16) fun v17 h17 =>
    bnd (pNil x0 h17) fun v18 h18 =>
    bnd (pField 1 v18 h18) fun v19 h19 =>
    bnd (pStore 1 v19 v17 h19) fun _ h20 =>
    bnd (pCall CF rec x1 [] h20) fun v21 h21 =>
    bnd (pNew [(.i .i64 (Int.ofNat 0)), (.s []), (.i .i64 (Int.ofNat 0)), .l0, .l0, .l0] h21) fun v22 h22 =>
    bnd (pStore 6 v22 v21 h22) fun _ h23 =>
    bnd (pNil x0 h23) fun v24 h24 =>
    bnd (pField 1 v24 h24) fun v25 h25 =>
    bnd (pLoad1 v25 h25) fun v26 h26 =>
    bnd (pInt .sub v26 (.i .i64 (Int.ofNat 1)) h26) fun v27 h27 =>
    bnd (pNil x0 h27) fun v28 h28 =>
    bnd (pField 1 v28 h28) fun v29 h29 =>
    bnd (pStore 1 v29 v27 h29) fun _ h30 =>
    bnd (pLoadA 6 v22 h30) fun v31 h31 =>
    bnd (pStore 6 v1 v31 h31) fun _ h32 =>
    bnd (pLoadA 6 v1 h32) fun v33 _ =>
    some (v33, h32))

noncomputable abbrev c88 : Code := cf Try.f88

noncomputable def D88 (rec : RT) (n : Nat) (c : Code) (X : Nat → K) (k : K) : K := codeD CF rec 35 n c X (retK CF Try.f88) k

theorem s88m : D88 rec n c88 x0 (retK CF Try.f88) = (K2 (s88 rec n) 0 1) :=
  (by kernel_rfl)

theorem s88ok (args : List DV) (h : Hp) : bodyD CF rec n 88 args h = s88 rec n (args.getD 0 undefD) (args.getD 1 undefD) h :=
  (by kernel_rfl : bodyD CF rec n 88 args h = D88 rec n c88 x0 (retK CF Try.f88) (argsE args) h).trans ((congrFun (congrFun (s88m rec n) (argsE args)) h).trans (by kernel_rfl))

end Go.Dd

/- Dd, part Q6 (printed by gen.py): functions of the seat's program as Lean functions, linked to Dd. -/
set_option linter.unusedVariables false
set_option maxRecDepth 100000
namespace Go.Dd
open Go.Proofs

variable (rec : RT) (n : Nat)

noncomputable def s89a3 (rec : RT) (n : Nat) (x0 x2 x3 : DV) (h0 : Hp) : Res :=
  bnd (rec 52 [x0] h0) fun v1 h1 =>
  bnd (pLoadA 6 x3 h1) fun v2 h2 =>
  bnd (pStore 6 x2 v2 h2) fun _ h3 =>
  bnd (pLoadA 6 x2 h3) fun v4 _ =>
  some (v4, h3)

noncomputable def s89a7 (rec : RT) (n : Nat) (kk4 : TT3) (x0 x2 x3 x4 : DV) (h0 : Hp) : Res :=
  bnd (pField 5 x3 h0) fun v9 h9 =>
  bnd (pLoad1 v9 h9) fun v10 h10 =>
  bnd (pLoadA 6 x4 h10) fun v11 h11 =>
  bnd (pBuildSlice [(.i .i64 (Int.ofNat 0)), (.s []), (.i .i64 (Int.ofNat 0)), .l0, .l0, .l0] 1 [(0, 6, v11)] h11) fun v12 h12 =>
  bnd (pAppend 6 104 v10 v12 h12) fun v13 h13 =>
  bnd (pField 5 x3 h13) fun v14 h14 =>
  bnd (pStore 1 v14 v13 h14) fun _ h15 =>
  kk4 x0 x2 x3 h15

noncomputable def s89a6 (rec : RT) (n : Nat) (kk4 : TT3) (x0 x2 x3 x4 x5 : DV) (h0 : Hp) : Res :=
  ifD x5 (
    s89a7 rec n kk4 x0 x2 x3 x4 h0) (
    bnd (rec 51 [x0, (.i .i64 (Int.ofNat 7)), (.s [])] h0) fun v37 h37 =>
    bnd (gD v37 false (some (x0, h37)) h37) fun v38 h38 =>
    bnd (gD v37 false (rec 51 [v38, (.i .i64 (Int.ofNat 10)), (.s [40])] h38) h38) fun v39 h39 =>
    bnd (pPick v37 (.b true) v39 h39) fun v40 h40 =>
    ifD v40 (
      bnd (rec 88 [x0, (.f 89 [x0] [])] h40) fun v41 h41 =>
      bnd (pStore 6 x4 v41 h41) fun _ h42 =>
      s89a7 rec n kk4 x0 x2 x3 x4 h42) (
      bnd (rec 55 [x0, (.i .i64 (Int.ofNat 0))] h40) fun v43 h43 =>
      bnd (rec 54 [x0, v43, (.i .i64 (Int.ofNat 13))] h43) fun v44 h44 =>
      s89a7 rec n kk4 x0 x2 x3 x4 h44))

noncomputable def s89a5 (rec : RT) (n : Nat) (kk4 : TT3) (x0 x2 x3 : DV) (h0 : Hp) : Res :=
  bnd (rec 87 [x0] h0) fun v53 h53 =>
  bnd (pExtract 0 v53 h53) fun v54 h54 =>
  bnd (pExtract 1 v53 h54) fun v55 h55 =>
  bnd (pNew [(.i .i64 (Int.ofNat 0)), (.s []), (.i .i64 (Int.ofNat 0)), .l0, .l0, .l0] h55) fun v56 h56 =>
  bnd (pStore 6 v56 v54 h56) fun _ h57 =>
  s89a6 rec n kk4 x0 x2 x3 v56 v55 h57

noncomputable def s89a4b (rec : RT) (n : Nat) (kk4 : TT3) (x0 x2 x3 : DV) (h0 : Hp) : Res :=
    bnd (pNil x0 h0) fun v73 h73 =>
    bnd (pField 3 v73 h73) fun v74 h74 =>
    bnd (pLoad1 v74 h74) fun v75 h75 =>
    bnd (pInt .eql v75 (.i .i64 (Int.ofNat 0)) h75) fun v76 h76 =>
    bnd (gD v76 true (some (x0, h76)) h76) fun v77 h77 =>
    bnd (gD v76 true (rec 51 [v77, (.i .i64 (Int.ofNat 10)), (.s [41])] h77) h77) fun v78 h78 =>
    bnd (gD v76 true (pUn .not v78 h78) h78) fun v79 h79 =>
    bnd (pPick v76 v79 (.b false) h79) fun v80 h80 =>
    ifD v80 (
      s89a5 rec n kk4 x0 x2 x3 h80) (
      s89a3 rec n x0 x2 x3 h80)

noncomputable def s89a4l (rec : RT) (n : Nat) (m : Nat) : TT3 :=
  Nat.rec (motive := fun _ => TT3) (fun _ _ _ _ => none) (fun _ ih => s89a4b rec n ih) m

noncomputable def s89a4 (rec : RT) (n : Nat) : TT3 := s89a4l rec n n

noncomputable def s89a2 (rec : RT) (n : Nat) (x0 x2 x3 : DV) (h0 : Hp) : Res :=
  s89a4 rec n x0 x2 x3 h0

noncomputable def s89a1 (rec : RT) (n : Nat) (x0 x2 : DV) (h0 : Hp) : Res :=
  bnd (pBuild [(.i .i64 (Int.ofNat 0)), (.s []), (.i .i64 (Int.ofNat 0)), .l0, .l0, .l0] [(0, 1, (.i .i64 (Int.ofNat 4)))] h0) fun v89 h89 =>
  bnd (pNew [(.i .i64 (Int.ofNat 0)), (.s []), (.i .i64 (Int.ofNat 0)), .l0, .l0, .l0] h89) fun v90 h90 =>
  bnd (pStore 6 v90 v89 h90) fun _ h91 =>
  s89a2 rec n x0 x2 v90 h91

/-- parse.parser).literals -/
noncomputable def s89 (rec : RT) (n : Nat) (x0 : DV) (h0 : Hp) : Res :=
  bnd (pNew [(.i .i64 (Int.ofNat 0)), (.s []), (.i .i64 (Int.ofNat 0)), .l0, .l0, .l0] h0) fun v101 h101 =>
  s89a1 rec n x0 v101 h101

noncomputable abbrev c89 : Code := cf Try.f89
noncomputable abbrev c89x1 : Code := cR c89
noncomputable abbrev c89x2 : Code := cR c89x1
noncomputable abbrev c89x3 : Code := cR c89x2
noncomputable abbrev c89x4 : Code := cL c89x2
noncomputable abbrev c89x5 : Code := cL c89x4
noncomputable abbrev c89x6 : Code := cL c89x5
noncomputable abbrev c89x7 : Code := cR c89x6
noncomputable abbrev c89x8 : Code := cL c89x7
noncomputable abbrev c89x9 : Code := cR c89x8
noncomputable abbrev c89x10 : Code := cR c89x9
noncomputable abbrev c89x11 : Code := cL c89x9
noncomputable abbrev c89x12 : Code := cL c89x8
noncomputable abbrev c89x13 : Code := cL c89x6
noncomputable abbrev c89x14 : Code := cL c89x1
noncomputable abbrev c89x15 : Code := cL c89

noncomputable def D89 (rec : RT) (n : Nat) (c : Code) (X : Nat → K) (k : K) : K := codeD CF rec 48 n c X (retK CF Try.f89) k

theorem s89a3e : D89 rec n c89x3 x0 (retK CF Try.f89) = (K3 (s89a3 rec n) 0 2 3) :=
  (by kernel_rfl)

theorem s89a7q1 (kk4 : TT3) (q0 : TT3) : D89 rec n c89x10 (xs (xs x0 0 (K3 q0 0 2 3)) 1 (K3 kk4 0 2 3)) (K3 kk4 0 2 3) = fun (env : Env) (h : Hp) =>
    bnd (pField 5 (env 3) h) fun v23 h23 =>
    bnd (pLoad1 v23 h23) fun v24 h24 =>
    bnd (pLoadA 6 (env 4) h24) fun v25 h25 =>
    bnd (pBuildSlice [(.i .i64 (Int.ofNat 0)), (.s []), (.i .i64 (Int.ofNat 0)), .l0, .l0, .l0] 1 [(0, 6, v25)] h25) fun v26 h26 =>
    bnd (pAppend 6 104 v24 v26 h26) fun v27 h27 =>
    bnd (pField 5 (env 3) h27) fun v28 h28 =>
    bnd (pStore 1 v28 v27 h28) fun _ h29 =>
    kk4 (env 0) (env 2) (env 3) h29 := by kernel_rfl

theorem s89a7q1u (kk4 : TT3) : (fun (env : Env) (h : Hp) =>
    bnd (pField 5 (env 3) h) fun v30 h30 =>
    bnd (pLoad1 v30 h30) fun v31 h31 =>
    bnd (pLoadA 6 (env 4) h31) fun v32 h32 =>
    bnd (pBuildSlice [(.i .i64 (Int.ofNat 0)), (.s []), (.i .i64 (Int.ofNat 0)), .l0, .l0, .l0] 1 [(0, 6, v32)] h32) fun v33 h33 =>
    bnd (pAppend 6 104 v31 v33 h33) fun v34 h34 =>
    bnd (pField 5 (env 3) h34) fun v35 h35 =>
    bnd (pStore 1 v35 v34 h35) fun _ h36 =>
    kk4 (env 0) (env 2) (env 3) h36) = (K4 (s89a7 rec n kk4) 0 2 3 4) := by kernel_rfl

theorem s89a7e (kk4 : TT3) : D89 rec n c89x10 (xs (xs x0 0 (K3 (s89a3 rec n) 0 2 3)) 1 (K3 kk4 0 2 3)) (K3 kk4 0 2 3) = (K4 (s89a7 rec n kk4) 0 2 3 4) :=
  (s89a7q1 rec n kk4 (s89a3 rec n)).trans (s89a7q1u rec n kk4)

theorem s89a6p2 (kk4 : TT3) : D89 rec n c89x9 (xs (xs x0 0 (K3 (s89a3 rec n) 0 2 3)) 1 (K3 kk4 0 2 3)) (K3 kk4 0 2 3) = D89 rec n c89x11 (xs (xs x0 0 (K3 (s89a3 rec n) 0 2 3)) 1 (K3 kk4 0 2 3)) (K4 (s89a7 rec n kk4) 0 2 3 4) :=
  congrArg (fun k => D89 rec n c89x11 (xs (xs x0 0 (K3 (s89a3 rec n) 0 2 3)) 1 (K3 kk4 0 2 3)) k) (s89a7e rec n kk4)

theorem s89a6e (kk4 : TT3) : D89 rec n c89x9 (xs (xs x0 0 (K3 (s89a3 rec n) 0 2 3)) 1 (K3 kk4 0 2 3)) (K3 kk4 0 2 3) = (K5 (s89a6 rec n kk4) 0 2 3 4 5) :=
  (s89a6p2 rec n kk4).trans
  ((by kernel_rfl))

theorem s89a5p3 (kk4 : TT3) : D89 rec n c89x8 (xs (xs x0 0 (K3 (s89a3 rec n) 0 2 3)) 1 (K3 kk4 0 2 3)) (K3 kk4 0 2 3) = D89 rec n c89x12 (xs (xs x0 0 (K3 (s89a3 rec n) 0 2 3)) 1 (K3 kk4 0 2 3)) (K5 (s89a6 rec n kk4) 0 2 3 4 5) :=
  congrArg (fun k => D89 rec n c89x12 (xs (xs x0 0 (K3 (s89a3 rec n) 0 2 3)) 1 (K3 kk4 0 2 3)) k) (s89a6e rec n kk4)

theorem s89a5q4 (kk4 : TT3) (q0 : TT5) (q1 : TT3) : D89 rec n c89x12 (xs (xs x0 0 (K3 q1 0 2 3)) 1 (K3 kk4 0 2 3)) (K5 q0 0 2 3 4 5) = fun (env : Env) (h : Hp) =>
    bnd (rec 87 [(env 0)] h) fun v63 h63 =>
    bnd (pExtract 0 v63 h63) fun v64 h64 =>
    bnd (pExtract 1 v63 h64) fun v65 h65 =>
    bnd (pNew [(.i .i64 (Int.ofNat 0)), (.s []), (.i .i64 (Int.ofNat 0)), .l0, .l0, .l0] h65) fun v66 h66 =>
    bnd (pStore 6 v66 v64 h66) fun _ h67 =>
    q0 (env 0) (env 2) (env 3) v66 v65 h67 := by kernel_rfl

theorem s89a5q4u (kk4 : TT3) : (fun (env : Env) (h : Hp) =>
    bnd (rec 87 [(env 0)] h) fun v68 h68 =>
    bnd (pExtract 0 v68 h68) fun v69 h69 =>
    bnd (pExtract 1 v68 h69) fun v70 h70 =>
    bnd (pNew [(.i .i64 (Int.ofNat 0)), (.s []), (.i .i64 (Int.ofNat 0)), .l0, .l0, .l0] h70) fun v71 h71 =>
    bnd (pStore 6 v71 v69 h71) fun _ h72 =>
    s89a6 rec n kk4 (env 0) (env 2) (env 3) v71 v70 h72) = (K3 (s89a5 rec n kk4) 0 2 3) := by kernel_rfl

theorem s89a5e (kk4 : TT3) : D89 rec n c89x7 (xs x0 0 (K3 (s89a3 rec n) 0 2 3)) (K3 kk4 0 2 3) = (K3 (s89a5 rec n kk4) 0 2 3) :=
  (by kernel_rfl : D89 rec n c89x7 (xs x0 0 (K3 (s89a3 rec n) 0 2 3)) (K3 kk4 0 2 3) = D89 rec n c89x8 (xs (xs x0 0 (K3 (s89a3 rec n) 0 2 3)) 1 (K3 kk4 0 2 3)) (K3 kk4 0 2 3)).trans
  ((s89a5p3 rec n kk4).trans
  ((s89a5q4 rec n kk4 (s89a6 rec n kk4) (s89a3 rec n)).trans (s89a5q4u rec n kk4)))

theorem s89a4p5 (kk4 : TT3) : D89 rec n c89x6 (xs x0 0 (K3 (s89a3 rec n) 0 2 3)) (K3 kk4 0 2 3) = D89 rec n c89x13 (xs x0 0 (K3 (s89a3 rec n) 0 2 3)) (K3 (s89a5 rec n kk4) 0 2 3) :=
  congrArg (fun k => D89 rec n c89x13 (xs x0 0 (K3 (s89a3 rec n) 0 2 3)) k) (s89a5e rec n kk4)

theorem s89a4be (kk4 : TT3) : D89 rec n c89x6 (xs x0 0 (K3 (s89a3 rec n) 0 2 3)) (K3 kk4 0 2 3) = (K3 (s89a4b rec n kk4) 0 2 3) :=
  (s89a4p5 rec n kk4).trans
  ((by kernel_rfl))

theorem s89a4le (m : Nat) : loopN (fun kk => D89 rec n c89x6 (xs x0 0 (K3 (s89a3 rec n) 0 2 3)) kk) m = (K3 (s89a4l rec n m) 0 2 3) := by
  induction m with
  | zero => exact (by kernel_rfl : loopN (fun kk => D89 rec n c89x6 (xs x0 0 (K3 (s89a3 rec n) 0 2 3)) kk) 0 = (K3 (s89a4l rec n 0) 0 2 3))
  | succ m ih =>
    refine (by kernel_rfl : loopN (fun kk => D89 rec n c89x6 (xs x0 0 (K3 (s89a3 rec n) 0 2 3)) kk) (m + 1) = D89 rec n c89x6 (xs x0 0 (K3 (s89a3 rec n) 0 2 3)) (loopN (fun kk => D89 rec n c89x6 (xs x0 0 (K3 (s89a3 rec n) 0 2 3)) kk) m)).trans ?_
    rw [ih]
    exact (s89a4be rec n (s89a4l rec n m)).trans (by kernel_rfl)

theorem s89a4e : D89 rec n c89x5 (xs x0 0 (K3 (s89a3 rec n) 0 2 3)) (K3 (s89a3 rec n) 0 2 3) = (K3 (s89a4 rec n) 0 2 3) :=
  (by kernel_rfl : D89 rec n c89x5 (xs x0 0 (K3 (s89a3 rec n) 0 2 3)) (K3 (s89a3 rec n) 0 2 3) = loopN (fun kk => D89 rec n c89x6 (xs x0 0 (K3 (s89a3 rec n) 0 2 3)) kk) n).trans ((s89a4le rec n n).trans (by kernel_rfl))

theorem s89a2p6 : D89 rec n c89x2 x0 (retK CF Try.f89) = D89 rec n c89x4 x0 (K3 (s89a3 rec n) 0 2 3) :=
  congrArg (fun k => D89 rec n c89x4 x0 k) (s89a3e rec n)

theorem s89a2e : D89 rec n c89x2 x0 (retK CF Try.f89) = (K3 (s89a2 rec n) 0 2 3) :=
  (s89a2p6 rec n).trans
  ((by kernel_rfl : D89 rec n c89x4 x0 (K3 (s89a3 rec n) 0 2 3) = D89 rec n c89x5 (xs x0 0 (K3 (s89a3 rec n) 0 2 3)) (K3 (s89a3 rec n) 0 2 3)).trans
  ((s89a4e rec n).trans (by kernel_rfl)))

theorem s89a1p7 : D89 rec n c89x1 x0 (retK CF Try.f89) = D89 rec n c89x14 x0 (K3 (s89a2 rec n) 0 2 3) :=
  congrArg (fun k => D89 rec n c89x14 x0 k) (s89a2e rec n)

theorem s89a1q8 (q0 : TT3) : D89 rec n c89x14 x0 (K3 q0 0 2 3) = fun (env : Env) (h : Hp) =>
    bnd (pBuild [(.i .i64 (Int.ofNat 0)), (.s []), (.i .i64 (Int.ofNat 0)), .l0, .l0, .l0] [(0, 1, (.i .i64 (Int.ofNat 4)))] h) fun v95 h95 =>
    bnd (pNew [(.i .i64 (Int.ofNat 0)), (.s []), (.i .i64 (Int.ofNat 0)), .l0, .l0, .l0] h95) fun v96 h96 =>
    bnd (pStore 6 v96 v95 h96) fun _ h97 =>
    q0 (env 0) (env 2) v96 h97 := by kernel_rfl

theorem s89a1q8u : (fun (env : Env) (h : Hp) =>
    bnd (pBuild [(.i .i64 (Int.ofNat 0)), (.s []), (.i .i64 (Int.ofNat 0)), .l0, .l0, .l0] [(0, 1, (.i .i64 (Int.ofNat 4)))] h) fun v98 h98 =>
    bnd (pNew [(.i .i64 (Int.ofNat 0)), (.s []), (.i .i64 (Int.ofNat 0)), .l0, .l0, .l0] h98) fun v99 h99 =>
    bnd (pStore 6 v99 v98 h99) fun _ h100 =>
    s89a2 rec n (env 0) (env 2) v99 h100) = (K2 (s89a1 rec n) 0 2) := by kernel_rfl

theorem s89a1e : D89 rec n c89x1 x0 (retK CF Try.f89) = (K2 (s89a1 rec n) 0 2) :=
  (s89a1p7 rec n).trans
  ((s89a1q8 rec n (s89a2 rec n)).trans (s89a1q8u rec n))

theorem s89p9 : D89 rec n c89 x0 (retK CF Try.f89) = D89 rec n c89x15 x0 (K2 (s89a1 rec n) 0 2) :=
  congrArg (fun k => D89 rec n c89x15 x0 k) (s89a1e rec n)

theorem s89q10 (q0 : TT2) : D89 rec n c89x15 x0 (K2 q0 0 2) = fun (env : Env) (h : Hp) =>
    bnd (pNew [(.i .i64 (Int.ofNat 0)), (.s []), (.i .i64 (Int.ofNat 0)), .l0, .l0, .l0] h) fun v103 h103 =>
    q0 (env 0) v103 h103 := by kernel_rfl

theorem s89q10u : (fun (env : Env) (h : Hp) =>
    bnd (pNew [(.i .i64 (Int.ofNat 0)), (.s []), (.i .i64 (Int.ofNat 0)), .l0, .l0, .l0] h) fun v104 h104 =>
    s89a1 rec n (env 0) v104 h104) = (K1 (s89 rec n) 0) := by kernel_rfl

theorem s89m : D89 rec n c89 x0 (retK CF Try.f89) = (K1 (s89 rec n) 0) :=
  (s89p9 rec n).trans
  ((s89q10 rec n (s89a1 rec n)).trans (s89q10u rec n))

theorem s89ok (args : List DV) (h : Hp) : bodyD CF rec n 89 args h = s89 rec n (args.getD 0 undefD) h :=
  (by kernel_rfl : bodyD CF rec n 89 args h = D89 rec n c89 x0 (retK CF Try.f89) (argsE args) h).trans ((congrFun (congrFun (s89m rec n) (argsE args)) h).trans (by kernel_rfl))

/-- parse.parser).inner -/
noncomputable def s90 (rec : RT) (n : Nat) (x0 : DV) (h0 : Hp) : Res :=
  bnd (pNew [(.i .i64 (Int.ofNat 0)), (.s []), (.i .i64 (Int.ofNat 0)), .l0, .l0, .l0] h0) fun v1 h1 =>
  bnd (rec 53 [x0] h1) fun v2 h2 =>
  bnd (pNew [(.i .i64 (Int.ofNat 0)), (.s []), (.i .i64 (Int.ofNat 0)), .l0, .l0, .l0] h2) fun v3 h3 =>
  bnd (pStore 6 v3 v2 h3) fun _ h4 =>
  bnd (rec 32 [x0, (.i .i64 (Int.ofNat 10)), (.s [41])] h4) fun v5 h5 =>
  bnd (pLoadA 6 v3 h5) fun v6 h6 =>
  bnd (pStore 6 v1 v6 h6) fun _ h7 =>
  bnd (pLoadA 6 v1 h7) fun v8 _ =>
  some (v8, h7)

noncomputable abbrev c90 : Code := cf Try.f90

noncomputable def D90 (rec : RT) (n : Nat) (c : Code) (X : Nat → K) (k : K) : K := codeD CF rec 9 n c X (retK CF Try.f90) k

theorem s90m : D90 rec n c90 x0 (retK CF Try.f90) = (K1 (s90 rec n) 0) :=
  (by kernel_rfl)

theorem s90ok (args : List DV) (h : Hp) : bodyD CF rec n 90 args h = s90 rec n (args.getD 0 undefD) h :=
  (by kernel_rfl : bodyD CF rec n 90 args h = D90 rec n c90 x0 (retK CF Try.f90) (argsE args) h).trans ((congrFun (congrFun (s90m rec n) (argsE args)) h).trans (by kernel_rfl))

noncomputable def s91a4 (rec : RT) (n : Nat) (x0 x2 x3 : DV) (h0 : Hp) : Res :=
  bnd (rec 30 [x0] h0) fun v1 h1 =>
  bnd (pField 4 x3 h1) fun v2 h2 =>
  bnd (pStore 1 v2 v1 h2) fun _ h3 =>
  bnd (rec 31 [x0] h3) fun v4 h4 =>
  bnd (pField 5 x3 h4) fun v5 h5 =>
  bnd (pStore 1 v5 v4 h5) fun _ h6 =>
  bnd (rec 32 [x0, (.i .i64 (Int.ofNat 10)), (.s [93])] h6) fun v7 h7 =>
  bnd (pLoadA 6 x3 h7) fun v8 h8 =>
  bnd (pStore 6 x2 v8 h8) fun _ h9 =>
  bnd (pLoadA 6 x2 h9) fun v10 _ =>
  some (v10, h9)

noncomputable def s91a3 (rec : RT) (n : Nat) (x0 x2 x3 : DV) (h0 : Hp) : Res :=
  bnd (pField 3 x3 h0) fun v21 h21 =>
  bnd (pLoad1 v21 h21) fun v22 h22 =>
  bnd (pLen v22 h22) fun v23 h23 =>
  bnd (pInt .gtr v23 (.i .i64 (Int.ofNat 0)) h23) fun v24 h24 =>
  bnd (gD v24 true (some (x0, h24)) h24) fun v25 h25 =>
  bnd (gD v24 true (rec 51 [v25, (.i .i64 (Int.ofNat 10)), (.s [93])] h25) h25) fun v26 h26 =>
  bnd (gD v24 true (pUn .not v26 h26) h26) fun v27 h27 =>
  bnd (pPick v24 v27 (.b false) h27) fun v28 h28 =>
  ifD v28 (
    bnd (rec 32 [x0, (.i .i64 (Int.ofNat 10)), (.s [124])] h28) fun v29 h29 =>
    s91a4 rec n x0 x2 x3 h29) (
    s91a4 rec n x0 x2 x3 h28)

noncomputable def s91a5b (rec : RT) (n : Nat) (kk5 : TT3) (x0 x2 x3 : DV) (h0 : Hp) : Res :=
    bnd (rec 51 [x0, (.i .i64 (Int.ofNat 8)), (.s [])] h0) fun v39 h39 =>
    ifD v39 (
      bnd (pField 3 x3 (resv 1 h39)) fun v40 h40 =>
      bnd (pLoad1 v40 h40) fun v41 h41 =>
      bnd (pField 3 x3 h41) fun v42 h42 =>
      bnd (pLoad1 v42 h42) fun v43 h43 =>
      bnd (rec 56 [x0, (.i .i64 (Int.ofNat 8)), v43] h43) fun v44 h44 =>
      cnd (sameR (pLoad1 v40 h44) v41 && true) (
      bnd (pBuildSliceAt (nthPos 0 h39.next) [(.s [])] 1 [(0, 1, v44)] h44) fun v45 h45 =>
      bnd (pAppend 1 16 v41 v45 h45) fun v46 h46 =>
      bnd (pField 3 x3 h46) fun v47 h47 =>
      bnd (pStore 1 v47 v46 h47) fun v48 h48 =>
      kk5 x0 x2 x3 h48)) (
      s91a3 rec n x0 x2 x3 h39)

noncomputable def s91a5l (rec : RT) (n : Nat) (m : Nat) : TT3 :=
  Nat.rec (motive := fun _ => TT3) (fun _ _ _ _ => none) (fun _ ih => s91a5b rec n ih) m

noncomputable def s91a5 (rec : RT) (n : Nat) : TT3 := s91a5l rec n n

noncomputable def s91a2 (rec : RT) (n : Nat) (x0 x2 x3 : DV) (h0 : Hp) : Res :=
  s91a5 rec n x0 x2 x3 h0

noncomputable def s91a1 (rec : RT) (n : Nat) (x0 x2 : DV) (h0 : Hp) : Res :=
  bnd (pBuild [(.i .i64 (Int.ofNat 0)), (.s []), (.i .i64 (Int.ofNat 0)), .l0, .l0, .l0] [(0, 1, (.i .i64 (Int.ofNat 9)))] h0) fun v79 h79 =>
  bnd (pNew [(.i .i64 (Int.ofNat 0)), (.s []), (.i .i64 (Int.ofNat 0)), .l0, .l0, .l0] h79) fun v80 h80 =>
  bnd (pStore 6 v80 v79 h80) fun _ h81 =>
  s91a2 rec n x0 x2 v80 h81

/-- parse.parser).block -/
noncomputable def s91 (rec : RT) (n : Nat) (x0 : DV) (h0 : Hp) : Res :=
  bnd (pNew [(.i .i64 (Int.ofNat 0)), (.s []), (.i .i64 (Int.ofNat 0)), .l0, .l0, .l0] h0) fun v91 h91 =>
  s91a1 rec n x0 v91 h91

noncomputable abbrev c91 : Code := cf Try.f91
noncomputable abbrev c91x1 : Code := cR c91
noncomputable abbrev c91x2 : Code := cR c91x1
noncomputable abbrev c91x3 : Code := cR c91x2
noncomputable abbrev c91x4 : Code := cR c91x3
noncomputable abbrev c91x5 : Code := cL c91x3
noncomputable abbrev c91x6 : Code := cL c91x2
noncomputable abbrev c91x7 : Code := cL c91x6
noncomputable abbrev c91x8 : Code := cL c91x7
noncomputable abbrev c91x9 : Code := cL c91x1
noncomputable abbrev c91x10 : Code := cL c91

noncomputable def D91 (rec : RT) (n : Nat) (c : Code) (X : Nat → K) (k : K) : K := codeD CF rec 36 n c X (retK CF Try.f91) k

theorem s91a4e : D91 rec n c91x4 x0 (retK CF Try.f91) = (K3 (s91a4 rec n) 0 2 3) :=
  (by kernel_rfl)

theorem s91a3p1 : D91 rec n c91x3 x0 (retK CF Try.f91) = D91 rec n c91x5 x0 (K3 (s91a4 rec n) 0 2 3) :=
  congrArg (fun k => D91 rec n c91x5 x0 k) (s91a4e rec n)

theorem s91a3e : D91 rec n c91x3 x0 (retK CF Try.f91) = (K3 (s91a3 rec n) 0 2 3) :=
  (s91a3p1 rec n).trans
  ((by kernel_rfl))

theorem s91a5q2 (kk5 : TT3) (q0 : TT3) : D91 rec n c91x8 (xs x0 0 (K3 q0 0 2 3)) (K3 kk5 0 2 3) = fun (env : Env) (h : Hp) =>
    bnd (rec 51 [(env 0), (.i .i64 (Int.ofNat 8)), (.s [])] h) fun v59 h59 =>
    ifD v59 (
      bnd (pField 3 (env 3) (resv 1 h59)) fun v60 h60 =>
      bnd (pLoad1 v60 h60) fun v61 h61 =>
      bnd (pField 3 (env 3) h61) fun v62 h62 =>
      bnd (pLoad1 v62 h62) fun v63 h63 =>
      bnd (rec 56 [(env 0), (.i .i64 (Int.ofNat 8)), v63] h63) fun v64 h64 =>
      cnd (sameR (pLoad1 v60 h64) v61 && true) (
      bnd (pBuildSliceAt (nthPos 0 h59.next) [(.s [])] 1 [(0, 1, v64)] h64) fun v65 h65 =>
      bnd (pAppend 1 16 v61 v65 h65) fun v66 h66 =>
      bnd (pField 3 (env 3) h66) fun v67 h67 =>
      bnd (pStore 1 v67 v66 h67) fun v68 h68 =>
      kk5 (env 0) (env 2) (env 3) h68)) (
      q0 (env 0) (env 2) (env 3) h59) := by kernel_rfl

theorem s91a5q2u (kk5 : TT3) : (fun (env : Env) (h : Hp) =>
    bnd (rec 51 [(env 0), (.i .i64 (Int.ofNat 8)), (.s [])] h) fun v69 h69 =>
    ifD v69 (
      bnd (pField 3 (env 3) (resv 1 h69)) fun v70 h70 =>
      bnd (pLoad1 v70 h70) fun v71 h71 =>
      bnd (pField 3 (env 3) h71) fun v72 h72 =>
      bnd (pLoad1 v72 h72) fun v73 h73 =>
      bnd (rec 56 [(env 0), (.i .i64 (Int.ofNat 8)), v73] h73) fun v74 h74 =>
      cnd (sameR (pLoad1 v70 h74) v71 && true) (
      bnd (pBuildSliceAt (nthPos 0 h69.next) [(.s [])] 1 [(0, 1, v74)] h74) fun v75 h75 =>
      bnd (pAppend 1 16 v71 v75 h75) fun v76 h76 =>
      bnd (pField 3 (env 3) h76) fun v77 h77 =>
      bnd (pStore 1 v77 v76 h77) fun v78 h78 =>
      kk5 (env 0) (env 2) (env 3) h78)) (
      s91a3 rec n (env 0) (env 2) (env 3) h69)) = (K3 (s91a5b rec n kk5) 0 2 3) := by kernel_rfl

theorem s91a5be (kk5 : TT3) : D91 rec n c91x8 (xs x0 0 (K3 (s91a3 rec n) 0 2 3)) (K3 kk5 0 2 3) = (K3 (s91a5b rec n kk5) 0 2 3) :=
  (s91a5q2 rec n kk5 (s91a3 rec n)).trans (s91a5q2u rec n kk5)

theorem s91a5le (m : Nat) : loopN (fun kk => D91 rec n c91x8 (xs x0 0 (K3 (s91a3 rec n) 0 2 3)) kk) m = (K3 (s91a5l rec n m) 0 2 3) := by
  induction m with
  | zero => exact (by kernel_rfl : loopN (fun kk => D91 rec n c91x8 (xs x0 0 (K3 (s91a3 rec n) 0 2 3)) kk) 0 = (K3 (s91a5l rec n 0) 0 2 3))
  | succ m ih =>
    refine (by kernel_rfl : loopN (fun kk => D91 rec n c91x8 (xs x0 0 (K3 (s91a3 rec n) 0 2 3)) kk) (m + 1) = D91 rec n c91x8 (xs x0 0 (K3 (s91a3 rec n) 0 2 3)) (loopN (fun kk => D91 rec n c91x8 (xs x0 0 (K3 (s91a3 rec n) 0 2 3)) kk) m)).trans ?_
    rw [ih]
    exact (s91a5be rec n (s91a5l rec n m)).trans (by kernel_rfl)

theorem s91a5e : D91 rec n c91x7 (xs x0 0 (K3 (s91a3 rec n) 0 2 3)) (K3 (s91a3 rec n) 0 2 3) = (K3 (s91a5 rec n) 0 2 3) :=
  (by kernel_rfl : D91 rec n c91x7 (xs x0 0 (K3 (s91a3 rec n) 0 2 3)) (K3 (s91a3 rec n) 0 2 3) = loopN (fun kk => D91 rec n c91x8 (xs x0 0 (K3 (s91a3 rec n) 0 2 3)) kk) n).trans ((s91a5le rec n n).trans (by kernel_rfl))

theorem s91a2p3 : D91 rec n c91x2 x0 (retK CF Try.f91) = D91 rec n c91x6 x0 (K3 (s91a3 rec n) 0 2 3) :=
  congrArg (fun k => D91 rec n c91x6 x0 k) (s91a3e rec n)

theorem s91a2e : D91 rec n c91x2 x0 (retK CF Try.f91) = (K3 (s91a2 rec n) 0 2 3) :=
  (s91a2p3 rec n).trans
  ((by kernel_rfl : D91 rec n c91x6 x0 (K3 (s91a3 rec n) 0 2 3) = D91 rec n c91x7 (xs x0 0 (K3 (s91a3 rec n) 0 2 3)) (K3 (s91a3 rec n) 0 2 3)).trans
  ((s91a5e rec n).trans (by kernel_rfl)))

theorem s91a1p4 : D91 rec n c91x1 x0 (retK CF Try.f91) = D91 rec n c91x9 x0 (K3 (s91a2 rec n) 0 2 3) :=
  congrArg (fun k => D91 rec n c91x9 x0 k) (s91a2e rec n)

theorem s91a1q5 (q0 : TT3) : D91 rec n c91x9 x0 (K3 q0 0 2 3) = fun (env : Env) (h : Hp) =>
    bnd (pBuild [(.i .i64 (Int.ofNat 0)), (.s []), (.i .i64 (Int.ofNat 0)), .l0, .l0, .l0] [(0, 1, (.i .i64 (Int.ofNat 9)))] h) fun v85 h85 =>
    bnd (pNew [(.i .i64 (Int.ofNat 0)), (.s []), (.i .i64 (Int.ofNat 0)), .l0, .l0, .l0] h85) fun v86 h86 =>
    bnd (pStore 6 v86 v85 h86) fun _ h87 =>
    q0 (env 0) (env 2) v86 h87 := by kernel_rfl

theorem s91a1q5u : (fun (env : Env) (h : Hp) =>
    bnd (pBuild [(.i .i64 (Int.ofNat 0)), (.s []), (.i .i64 (Int.ofNat 0)), .l0, .l0, .l0] [(0, 1, (.i .i64 (Int.ofNat 9)))] h) fun v88 h88 =>
    bnd (pNew [(.i .i64 (Int.ofNat 0)), (.s []), (.i .i64 (Int.ofNat 0)), .l0, .l0, .l0] h88) fun v89 h89 =>
    bnd (pStore 6 v89 v88 h89) fun _ h90 =>
    s91a2 rec n (env 0) (env 2) v89 h90) = (K2 (s91a1 rec n) 0 2) := by kernel_rfl

theorem s91a1e : D91 rec n c91x1 x0 (retK CF Try.f91) = (K2 (s91a1 rec n) 0 2) :=
  (s91a1p4 rec n).trans
  ((s91a1q5 rec n (s91a2 rec n)).trans (s91a1q5u rec n))

theorem s91p6 : D91 rec n c91 x0 (retK CF Try.f91) = D91 rec n c91x10 x0 (K2 (s91a1 rec n) 0 2) :=
  congrArg (fun k => D91 rec n c91x10 x0 k) (s91a1e rec n)

theorem s91q7 (q0 : TT2) : D91 rec n c91x10 x0 (K2 q0 0 2) = fun (env : Env) (h : Hp) =>
    bnd (pNew [(.i .i64 (Int.ofNat 0)), (.s []), (.i .i64 (Int.ofNat 0)), .l0, .l0, .l0] h) fun v93 h93 =>
    q0 (env 0) v93 h93 := by kernel_rfl

theorem s91q7u : (fun (env : Env) (h : Hp) =>
    bnd (pNew [(.i .i64 (Int.ofNat 0)), (.s []), (.i .i64 (Int.ofNat 0)), .l0, .l0, .l0] h) fun v94 h94 =>
    s91a1 rec n (env 0) v94 h94) = (K1 (s91 rec n) 0) := by kernel_rfl

theorem s91m : D91 rec n c91 x0 (retK CF Try.f91) = (K1 (s91 rec n) 0) :=
  (s91p6 rec n).trans
  ((s91q7 rec n (s91a1 rec n)).trans (s91q7u rec n))

theorem s91ok (args : List DV) (h : Hp) : bodyD CF rec n 91 args h = s91 rec n (args.getD 0 undefD) h :=
  (by kernel_rfl : bodyD CF rec n 91 args h = D91 rec n c91 x0 (retK CF Try.f91) (argsE args) h).trans ((congrFun (congrFun (s91m rec n) (argsE args)) h).trans (by kernel_rfl))

/-- api.Node] -/
noncomputable def s92 (rec : RT) (n : Nat) (x0 : DV) (h0 : Hp) : Res :=
  bnd (pEq (.slice 25) true x0 .l0 h0) fun v1 h1 =>
  ifD v1 (
    some (.l0, h1)) (
    bnd (pBuildSlice [] 0 [] h1) fun v2 h2 =>
    bnd (pAppend 6 104 v2 x0 h2) fun v3 h3 =>
    some (v3, h3))

noncomputable abbrev c92 : Code := cf Try.f92

noncomputable def D92 (rec : RT) (n : Nat) (c : Code) (X : Nat → K) (k : K) : K := codeD CF rec 8 n c X (retK CF Try.f92) k

theorem s92m : D92 rec n c92 x0 (retK CF Try.f92) = (K1 (s92 rec n) 0) :=
  (by kernel_rfl)

theorem s92ok (args : List DV) (h : Hp) : bodyD CF rec n 92 args h = s92 rec n (args.getD 0 undefD) h :=
  (by kernel_rfl : bodyD CF rec n 92 args h = D92 rec n c92 x0 (retK CF Try.f92) (argsE args) h).trans ((congrFun (congrFun (s92m rec n) (argsE args)) h).trans (by kernel_rfl))

/-- parse.parser).negative -/
noncomputable def s93 (rec : RT) (n : Nat) (x0 : DV) (h0 : Hp) : Res :=
  bnd (rec 55 [x0, (.i .i64 (Int.ofNat 1))] h0) fun v1 h1 =>
  bnd (pNew [(.i .i64 (Int.ofNat 0)), (.s []), (.i .i64 (Int.ofNat 0)), (.i .i64 (Int.ofNat 0))] h1) fun v2 h2 =>
  bnd (pStore 4 v2 v1 h2) fun _ h3 =>
  bnd (rec 51 [x0, (.i .i64 (Int.ofNat 3)), (.s [45])] h3) fun v4 h4 =>
  bnd (gD v4 true (pField 0 v2 h4) h4) fun v5 h5 =>
  bnd (gD v4 true (pLoad1 v5 h5) h5) fun v6 h6 =>
  bnd (gD v4 true (pInt .eql v6 (.i .i64 (Int.ofNat 4)) h6) h6) fun v7 h7 =>
  bnd (pPick v4 v7 (.b false) h7) fun v8 h8 =>
  bnd (gD v8 true (pField 3 v2 h8) h8) fun v9 h9 =>
  bnd (gD v8 true (pLoad1 v9 h9) h9) fun v10 h10 =>
  bnd (gD v8 true (some (x0, h10)) h10) fun v11 h11 =>
  bnd (gD v8 true (rec 55 [v11, (.i .i64 (Int.ofNat 0))] h11) h11) fun v12 h12 =>
  cnd (sameR (gD v8 true (pLoad1 v9 h12) h12) v10 && true) (
  bnd (gD v8 true (pPart1 3 v12 h12) h12) fun v13 h13 =>
  bnd (gD v8 true (pInt .add v13 (.i .i64 (Int.ofNat 1)) h13) h13) fun v14 h14 =>
  bnd (gD v8 true (pInt .eql v10 v14 h14) h14) fun v15 h15 =>
  bnd (pPick v8 v15 (.b false) h15) fun v16 h16 =>
  some (v16, h16))

noncomputable abbrev c93 : Code := cf Try.f93

noncomputable def D93 (rec : RT) (n : Nat) (c : Code) (X : Nat → K) (k : K) : K := codeD CF rec 22 n c X (retK CF Try.f93) k

theorem s93m : D93 rec n c93 x0 (retK CF Try.f93) = (K1 (s93 rec n) 0) :=
  (by kernel_rfl)

theorem s93ok (args : List DV) (h : Hp) : bodyD CF rec n 93 args h = s93 rec n (args.getD 0 undefD) h :=
  (by kernel_rfl : bodyD CF rec n 93 args h = D93 rec n c93 x0 (retK CF Try.f93) (argsE args) h).trans ((congrFun (congrFun (s93m rec n) (argsE args)) h).trans (by kernel_rfl))

end Go.Dd

/- Dd, the table of all functions (printed by gen.py). -/
set_option linter.unusedVariables false
set_option maxRecDepth 100000
namespace Go.Dd
open Go.Proofs

section
variable (ih : RT) (m : Nat) (f : FuncId) (args : List DV) (h : Hp)

noncomputable def qd6 : Res := bif Nat.beq f 4 then s4 ih m (args.getD 0 undefD) h else bodyD CF ih m f args h
theorem qd6e : qd6 ih m f args h = bodyD CF ih m f args h := by
  unfold qd6
  cases e : Nat.beq f 4 with
  | false => rfl
  | true => cases Nat.eq_of_beq_eq_true e; rw [cond_true]; exact (s4ok ih m args h).symm

noncomputable def qd7 : Res := bif Nat.beq f 5 then s5 ih m (args.getD 0 undefD) h else bodyD CF ih m f args h
theorem qd7e : qd7 ih m f args h = bodyD CF ih m f args h := by
  unfold qd7
  cases e : Nat.beq f 5 with
  | false => rfl
  | true => cases Nat.eq_of_beq_eq_true e; rw [cond_true]; exact (s5ok ih m args h).symm

noncomputable def qd5 : Res := bif Nat.blt f 5 then qd6 ih m f args h else qd7 ih m f args h
theorem qd5e : qd5 ih m f args h = bodyD CF ih m f args h := by
  unfold qd5
  cases Nat.blt f 5 with
  | false => exact qd7e ih m f args h
  | true => exact qd6e ih m f args h

noncomputable def qd9 : Res := bif Nat.beq f 6 then s6 ih m (args.getD 0 undefD) (args.getD 1 undefD) h else bodyD CF ih m f args h
theorem qd9e : qd9 ih m f args h = bodyD CF ih m f args h := by
  unfold qd9
  cases e : Nat.beq f 6 with
  | false => rfl
  | true => cases Nat.eq_of_beq_eq_true e; rw [cond_true]; exact (s6ok ih m args h).symm

noncomputable def qd10 : Res := bif Nat.beq f 8 then s8 ih m (args.getD 0 undefD) h else bodyD CF ih m f args h
theorem qd10e : qd10 ih m f args h = bodyD CF ih m f args h := by
  unfold qd10
  cases e : Nat.beq f 8 with
  | false => rfl
  | true => cases Nat.eq_of_beq_eq_true e; rw [cond_true]; exact (s8ok ih m args h).symm

noncomputable def qd8 : Res := bif Nat.blt f 8 then qd9 ih m f args h else qd10 ih m f args h
theorem qd8e : qd8 ih m f args h = bodyD CF ih m f args h := by
  unfold qd8
  cases Nat.blt f 8 with
  | false => exact qd10e ih m f args h
  | true => exact qd9e ih m f args h

noncomputable def qd4 : Res := bif Nat.blt f 6 then qd5 ih m f args h else qd8 ih m f args h
theorem qd4e : qd4 ih m f args h = bodyD CF ih m f args h := by
  unfold qd4
  cases Nat.blt f 6 with
  | false => exact qd8e ih m f args h
  | true => exact qd5e ih m f args h

noncomputable def qd13 : Res := bif Nat.beq f 9 then s9 ih m h else bodyD CF ih m f args h
theorem qd13e : qd13 ih m f args h = bodyD CF ih m f args h := by
  unfold qd13
  cases e : Nat.beq f 9 with
  | false => rfl
  | true => cases Nat.eq_of_beq_eq_true e; rw [cond_true]; exact (s9ok ih m args h).symm

noncomputable def qd14 : Res := bif Nat.beq f 10 then s10 ih m (args.getD 0 undefD) h else bodyD CF ih m f args h
theorem qd14e : qd14 ih m f args h = bodyD CF ih m f args h := by
  unfold qd14
  cases e : Nat.beq f 10 with
  | false => rfl
  | true => cases Nat.eq_of_beq_eq_true e; rw [cond_true]; exact (s10ok ih m args h).symm

noncomputable def qd12 : Res := bif Nat.blt f 10 then qd13 ih m f args h else qd14 ih m f args h
theorem qd12e : qd12 ih m f args h = bodyD CF ih m f args h := by
  unfold qd12
  cases Nat.blt f 10 with
  | false => exact qd14e ih m f args h
  | true => exact qd13e ih m f args h

noncomputable def qd16 : Res := bif Nat.beq f 11 then s11 ih m (args.getD 0 undefD) (args.getD 1 undefD) h else bodyD CF ih m f args h
theorem qd16e : qd16 ih m f args h = bodyD CF ih m f args h := by
  unfold qd16
  cases e : Nat.beq f 11 with
  | false => rfl
  | true => cases Nat.eq_of_beq_eq_true e; rw [cond_true]; exact (s11ok ih m args h).symm

noncomputable def qd17 : Res := bif Nat.beq f 12 then s12 ih m (args.getD 0 undefD) h else bodyD CF ih m f args h
theorem qd17e : qd17 ih m f args h = bodyD CF ih m f args h := by
  unfold qd17
  cases e : Nat.beq f 12 with
  | false => rfl
  | true => cases Nat.eq_of_beq_eq_true e; rw [cond_true]; exact (s12ok ih m args h).symm

noncomputable def qd15 : Res := bif Nat.blt f 12 then qd16 ih m f args h else qd17 ih m f args h
theorem qd15e : qd15 ih m f args h = bodyD CF ih m f args h := by
  unfold qd15
  cases Nat.blt f 12 with
  | false => exact qd17e ih m f args h
  | true => exact qd16e ih m f args h

noncomputable def qd11 : Res := bif Nat.blt f 11 then qd12 ih m f args h else qd15 ih m f args h
theorem qd11e : qd11 ih m f args h = bodyD CF ih m f args h := by
  unfold qd11
  cases Nat.blt f 11 with
  | false => exact qd15e ih m f args h
  | true => exact qd12e ih m f args h

noncomputable def qd3 : Res := bif Nat.blt f 9 then qd4 ih m f args h else qd11 ih m f args h
theorem qd3e : qd3 ih m f args h = bodyD CF ih m f args h := by
  unfold qd3
  cases Nat.blt f 9 with
  | false => exact qd11e ih m f args h
  | true => exact qd4e ih m f args h

noncomputable def qd21 : Res := bif Nat.beq f 13 then s13 ih m (args.getD 0 undefD) (args.getD 1 undefD) h else bodyD CF ih m f args h
theorem qd21e : qd21 ih m f args h = bodyD CF ih m f args h := by
  unfold qd21
  cases e : Nat.beq f 13 with
  | false => rfl
  | true => cases Nat.eq_of_beq_eq_true e; rw [cond_true]; exact (s13ok ih m args h).symm

noncomputable def qd22 : Res := bif Nat.beq f 14 then s14 ih m (args.getD 0 undefD) (args.getD 1 undefD) h else bodyD CF ih m f args h
theorem qd22e : qd22 ih m f args h = bodyD CF ih m f args h := by
  unfold qd22
  cases e : Nat.beq f 14 with
  | false => rfl
  | true => cases Nat.eq_of_beq_eq_true e; rw [cond_true]; exact (s14ok ih m args h).symm

noncomputable def qd20 : Res := bif Nat.blt f 14 then qd21 ih m f args h else qd22 ih m f args h
theorem qd20e : qd20 ih m f args h = bodyD CF ih m f args h := by
  unfold qd20
  cases Nat.blt f 14 with
  | false => exact qd22e ih m f args h
  | true => exact qd21e ih m f args h

noncomputable def qd24 : Res := bif Nat.beq f 15 then s15 ih m (args.getD 0 undefD) h else bodyD CF ih m f args h
theorem qd24e : qd24 ih m f args h = bodyD CF ih m f args h := by
  unfold qd24
  cases e : Nat.beq f 15 with
  | false => rfl
  | true => cases Nat.eq_of_beq_eq_true e; rw [cond_true]; exact (s15ok ih m args h).symm

noncomputable def qd25 : Res := bif Nat.beq f 17 then s17 ih m (args.getD 0 undefD) (args.getD 1 undefD) h else bodyD CF ih m f args h
theorem qd25e : qd25 ih m f args h = bodyD CF ih m f args h := by
  unfold qd25
  cases e : Nat.beq f 17 with
  | false => rfl
  | true => cases Nat.eq_of_beq_eq_true e; rw [cond_true]; exact (s17ok ih m args h).symm

noncomputable def qd23 : Res := bif Nat.blt f 17 then qd24 ih m f args h else qd25 ih m f args h
theorem qd23e : qd23 ih m f args h = bodyD CF ih m f args h := by
  unfold qd23
  cases Nat.blt f 17 with
  | false => exact qd25e ih m f args h
  | true => exact qd24e ih m f args h

noncomputable def qd19 : Res := bif Nat.blt f 15 then qd20 ih m f args h else qd23 ih m f args h
theorem qd19e : qd19 ih m f args h = bodyD CF ih m f args h := by
  unfold qd19
  cases Nat.blt f 15 with
  | false => exact qd23e ih m f args h
  | true => exact qd20e ih m f args h

noncomputable def qd28 : Res := bif Nat.beq f 18 then s18 ih m (args.getD 0 undefD) h else bodyD CF ih m f args h
theorem qd28e : qd28 ih m f args h = bodyD CF ih m f args h := by
  unfold qd28
  cases e : Nat.beq f 18 with
  | false => rfl
  | true => cases Nat.eq_of_beq_eq_true e; rw [cond_true]; exact (s18ok ih m args h).symm

noncomputable def qd29 : Res := bif Nat.beq f 19 then s19 ih m (args.getD 0 undefD) (args.getD 1 undefD) h else bodyD CF ih m f args h
theorem qd29e : qd29 ih m f args h = bodyD CF ih m f args h := by
  unfold qd29
  cases e : Nat.beq f 19 with
  | false => rfl
  | true => cases Nat.eq_of_beq_eq_true e; rw [cond_true]; exact (s19ok ih m args h).symm

noncomputable def qd27 : Res := bif Nat.blt f 19 then qd28 ih m f args h else qd29 ih m f args h
theorem qd27e : qd27 ih m f args h = bodyD CF ih m f args h := by
  unfold qd27
  cases Nat.blt f 19 with
  | false => exact qd29e ih m f args h
  | true => exact qd28e ih m f args h

noncomputable def qd31 : Res := bif Nat.beq f 20 then s20 ih m (args.getD 0 undefD) (args.getD 1 undefD) h else bodyD CF ih m f args h
theorem qd31e : qd31 ih m f args h = bodyD CF ih m f args h := by
  unfold qd31
  cases e : Nat.beq f 20 with
  | false => rfl
  | true => cases Nat.eq_of_beq_eq_true e; rw [cond_true]; exact (s20ok ih m args h).symm

noncomputable def qd33 : Res := bif Nat.beq f 21 then s21 ih m (args.getD 0 undefD) (args.getD 1 undefD) h else bodyD CF ih m f args h
theorem qd33e : qd33 ih m f args h = bodyD CF ih m f args h := by
  unfold qd33
  cases e : Nat.beq f 21 with
  | false => rfl
  | true => cases Nat.eq_of_beq_eq_true e; rw [cond_true]; exact (s21ok ih m args h).symm

noncomputable def qd34 : Res := bif Nat.beq f 22 then s22 ih m (args.getD 0 undefD) (args.getD 1 undefD) h else bodyD CF ih m f args h
theorem qd34e : qd34 ih m f args h = bodyD CF ih m f args h := by
  unfold qd34
  cases e : Nat.beq f 22 with
  | false => rfl
  | true => cases Nat.eq_of_beq_eq_true e; rw [cond_true]; exact (s22ok ih m args h).symm

noncomputable def qd32 : Res := bif Nat.blt f 22 then qd33 ih m f args h else qd34 ih m f args h
theorem qd32e : qd32 ih m f args h = bodyD CF ih m f args h := by
  unfold qd32
  cases Nat.blt f 22 with
  | false => exact qd34e ih m f args h
  | true => exact qd33e ih m f args h

noncomputable def qd30 : Res := bif Nat.blt f 21 then qd31 ih m f args h else qd32 ih m f args h
theorem qd30e : qd30 ih m f args h = bodyD CF ih m f args h := by
  unfold qd30
  cases Nat.blt f 21 with
  | false => exact qd32e ih m f args h
  | true => exact qd31e ih m f args h

noncomputable def qd26 : Res := bif Nat.blt f 20 then qd27 ih m f args h else qd30 ih m f args h
theorem qd26e : qd26 ih m f args h = bodyD CF ih m f args h := by
  unfold qd26
  cases Nat.blt f 20 with
  | false => exact qd30e ih m f args h
  | true => exact qd27e ih m f args h

noncomputable def qd18 : Res := bif Nat.blt f 18 then qd19 ih m f args h else qd26 ih m f args h
theorem qd18e : qd18 ih m f args h = bodyD CF ih m f args h := by
  unfold qd18
  cases Nat.blt f 18 with
  | false => exact qd26e ih m f args h
  | true => exact qd19e ih m f args h

noncomputable def qd2 : Res := bif Nat.blt f 13 then qd3 ih m f args h else qd18 ih m f args h
theorem qd2e : qd2 ih m f args h = bodyD CF ih m f args h := by
  unfold qd2
  cases Nat.blt f 13 with
  | false => exact qd18e ih m f args h
  | true => exact qd3e ih m f args h

noncomputable def qd39 : Res := bif Nat.beq f 23 then s23 ih m (args.getD 0 undefD) (args.getD 1 undefD) (args.getD 2 undefD) h else bodyD CF ih m f args h
theorem qd39e : qd39 ih m f args h = bodyD CF ih m f args h := by
  unfold qd39
  cases e : Nat.beq f 23 with
  | false => rfl
  | true => cases Nat.eq_of_beq_eq_true e; rw [cond_true]; exact (s23ok ih m args h).symm

noncomputable def qd40 : Res := bif Nat.beq f 24 then s24 ih m (args.getD 0 undefD) h else bodyD CF ih m f args h
theorem qd40e : qd40 ih m f args h = bodyD CF ih m f args h := by
  unfold qd40
  cases e : Nat.beq f 24 with
  | false => rfl
  | true => cases Nat.eq_of_beq_eq_true e; rw [cond_true]; exact (s24ok ih m args h).symm

noncomputable def qd38 : Res := bif Nat.blt f 24 then qd39 ih m f args h else qd40 ih m f args h
theorem qd38e : qd38 ih m f args h = bodyD CF ih m f args h := by
  unfold qd38
  cases Nat.blt f 24 with
  | false => exact qd40e ih m f args h
  | true => exact qd39e ih m f args h

noncomputable def qd42 : Res := bif Nat.beq f 29 then s29 ih m (args.getD 0 undefD) h else bodyD CF ih m f args h
theorem qd42e : qd42 ih m f args h = bodyD CF ih m f args h := by
  unfold qd42
  cases e : Nat.beq f 29 with
  | false => rfl
  | true => cases Nat.eq_of_beq_eq_true e; rw [cond_true]; exact (s29ok ih m args h).symm

noncomputable def qd43 : Res := bif Nat.beq f 30 then s30 ih m (args.getD 0 undefD) h else bodyD CF ih m f args h
theorem qd43e : qd43 ih m f args h = bodyD CF ih m f args h := by
  unfold qd43
  cases e : Nat.beq f 30 with
  | false => rfl
  | true => cases Nat.eq_of_beq_eq_true e; rw [cond_true]; exact (s30ok ih m args h).symm

noncomputable def qd41 : Res := bif Nat.blt f 30 then qd42 ih m f args h else qd43 ih m f args h
theorem qd41e : qd41 ih m f args h = bodyD CF ih m f args h := by
  unfold qd41
  cases Nat.blt f 30 with
  | false => exact qd43e ih m f args h
  | true => exact qd42e ih m f args h

noncomputable def qd37 : Res := bif Nat.blt f 29 then qd38 ih m f args h else qd41 ih m f args h
theorem qd37e : qd37 ih m f args h = bodyD CF ih m f args h := by
  unfold qd37
  cases Nat.blt f 29 with
  | false => exact qd41e ih m f args h
  | true => exact qd38e ih m f args h

noncomputable def qd46 : Res := bif Nat.beq f 31 then s31 ih m (args.getD 0 undefD) h else bodyD CF ih m f args h
theorem qd46e : qd46 ih m f args h = bodyD CF ih m f args h := by
  unfold qd46
  cases e : Nat.beq f 31 with
  | false => rfl
  | true => cases Nat.eq_of_beq_eq_true e; rw [cond_true]; exact (s31ok ih m args h).symm

noncomputable def qd47 : Res := bif Nat.beq f 32 then s32 ih m (args.getD 0 undefD) (args.getD 1 undefD) (args.getD 2 undefD) h else bodyD CF ih m f args h
theorem qd47e : qd47 ih m f args h = bodyD CF ih m f args h := by
  unfold qd47
  cases e : Nat.beq f 32 with
  | false => rfl
  | true => cases Nat.eq_of_beq_eq_true e; rw [cond_true]; exact (s32ok ih m args h).symm

noncomputable def qd45 : Res := bif Nat.blt f 32 then qd46 ih m f args h else qd47 ih m f args h
theorem qd45e : qd45 ih m f args h = bodyD CF ih m f args h := by
  unfold qd45
  cases Nat.blt f 32 with
  | false => exact qd47e ih m f args h
  | true => exact qd46e ih m f args h

noncomputable def qd49 : Res := bif Nat.beq f 33 then s33 ih m (args.getD 0 undefD) h else bodyD CF ih m f args h
theorem qd49e : qd49 ih m f args h = bodyD CF ih m f args h := by
  unfold qd49
  cases e : Nat.beq f 33 with
  | false => rfl
  | true => cases Nat.eq_of_beq_eq_true e; rw [cond_true]; exact (s33ok ih m args h).symm

noncomputable def qd50 : Res := bif Nat.beq f 34 then s34 ih m (args.getD 0 undefD) (args.getD 1 undefD) h else bodyD CF ih m f args h
theorem qd50e : qd50 ih m f args h = bodyD CF ih m f args h := by
  unfold qd50
  cases e : Nat.beq f 34 with
  | false => rfl
  | true => cases Nat.eq_of_beq_eq_true e; rw [cond_true]; exact (s34ok ih m args h).symm

noncomputable def qd48 : Res := bif Nat.blt f 34 then qd49 ih m f args h else qd50 ih m f args h
theorem qd48e : qd48 ih m f args h = bodyD CF ih m f args h := by
  unfold qd48
  cases Nat.blt f 34 with
  | false => exact qd50e ih m f args h
  | true => exact qd49e ih m f args h

noncomputable def qd44 : Res := bif Nat.blt f 33 then qd45 ih m f args h else qd48 ih m f args h
theorem qd44e : qd44 ih m f args h = bodyD CF ih m f args h := by
  unfold qd44
  cases Nat.blt f 33 with
  | false => exact qd48e ih m f args h
  | true => exact qd45e ih m f args h

noncomputable def qd36 : Res := bif Nat.blt f 31 then qd37 ih m f args h else qd44 ih m f args h
theorem qd36e : qd36 ih m f args h = bodyD CF ih m f args h := by
  unfold qd36
  cases Nat.blt f 31 with
  | false => exact qd44e ih m f args h
  | true => exact qd37e ih m f args h

noncomputable def qd54 : Res := bif Nat.beq f 35 then s35 ih m (args.getD 0 undefD) (args.getD 1 undefD) h else bodyD CF ih m f args h
theorem qd54e : qd54 ih m f args h = bodyD CF ih m f args h := by
  unfold qd54
  cases e : Nat.beq f 35 with
  | false => rfl
  | true => cases Nat.eq_of_beq_eq_true e; rw [cond_true]; exact (s35ok ih m args h).symm

noncomputable def qd55 : Res := bif Nat.beq f 36 then s36 ih m (args.getD 0 undefD) (args.getD 1 undefD) h else bodyD CF ih m f args h
theorem qd55e : qd55 ih m f args h = bodyD CF ih m f args h := by
  unfold qd55
  cases e : Nat.beq f 36 with
  | false => rfl
  | true => cases Nat.eq_of_beq_eq_true e; rw [cond_true]; exact (s36ok ih m args h).symm

noncomputable def qd53 : Res := bif Nat.blt f 36 then qd54 ih m f args h else qd55 ih m f args h
theorem qd53e : qd53 ih m f args h = bodyD CF ih m f args h := by
  unfold qd53
  cases Nat.blt f 36 with
  | false => exact qd55e ih m f args h
  | true => exact qd54e ih m f args h

noncomputable def qd57 : Res := bif Nat.beq f 37 then s37 ih m (args.getD 0 undefD) (args.getD 1 undefD) h else bodyD CF ih m f args h
theorem qd57e : qd57 ih m f args h = bodyD CF ih m f args h := by
  unfold qd57
  cases e : Nat.beq f 37 with
  | false => rfl
  | true => cases Nat.eq_of_beq_eq_true e; rw [cond_true]; exact (s37ok ih m args h).symm

noncomputable def qd58 : Res := bif Nat.beq f 38 then s38 ih m (args.getD 0 undefD) (args.getD 1 undefD) h else bodyD CF ih m f args h
theorem qd58e : qd58 ih m f args h = bodyD CF ih m f args h := by
  unfold qd58
  cases e : Nat.beq f 38 with
  | false => rfl
  | true => cases Nat.eq_of_beq_eq_true e; rw [cond_true]; exact (s38ok ih m args h).symm

noncomputable def qd56 : Res := bif Nat.blt f 38 then qd57 ih m f args h else qd58 ih m f args h
theorem qd56e : qd56 ih m f args h = bodyD CF ih m f args h := by
  unfold qd56
  cases Nat.blt f 38 with
  | false => exact qd58e ih m f args h
  | true => exact qd57e ih m f args h

noncomputable def qd52 : Res := bif Nat.blt f 37 then qd53 ih m f args h else qd56 ih m f args h
theorem qd52e : qd52 ih m f args h = bodyD CF ih m f args h := by
  unfold qd52
  cases Nat.blt f 37 with
  | false => exact qd56e ih m f args h
  | true => exact qd53e ih m f args h

noncomputable def qd61 : Res := bif Nat.beq f 39 then s39 ih m (args.getD 0 undefD) (args.getD 1 undefD) h else bodyD CF ih m f args h
theorem qd61e : qd61 ih m f args h = bodyD CF ih m f args h := by
  unfold qd61
  cases e : Nat.beq f 39 with
  | false => rfl
  | true => cases Nat.eq_of_beq_eq_true e; rw [cond_true]; exact (s39ok ih m args h).symm

noncomputable def qd62 : Res := bif Nat.beq f 40 then s40 ih m (args.getD 0 undefD) h else bodyD CF ih m f args h
theorem qd62e : qd62 ih m f args h = bodyD CF ih m f args h := by
  unfold qd62
  cases e : Nat.beq f 40 with
  | false => rfl
  | true => cases Nat.eq_of_beq_eq_true e; rw [cond_true]; exact (s40ok ih m args h).symm

noncomputable def qd60 : Res := bif Nat.blt f 40 then qd61 ih m f args h else qd62 ih m f args h
theorem qd60e : qd60 ih m f args h = bodyD CF ih m f args h := by
  unfold qd60
  cases Nat.blt f 40 with
  | false => exact qd62e ih m f args h
  | true => exact qd61e ih m f args h

noncomputable def qd64 : Res := bif Nat.beq f 47 then s47 ih m (args.getD 0 undefD) (args.getD 1 undefD) (args.getD 2 undefD) h else bodyD CF ih m f args h
theorem qd64e : qd64 ih m f args h = bodyD CF ih m f args h := by
  unfold qd64
  cases e : Nat.beq f 47 with
  | false => rfl
  | true => cases Nat.eq_of_beq_eq_true e; rw [cond_true]; exact (s47ok ih m args h).symm

noncomputable def qd66 : Res := bif Nat.beq f 48 then s48 ih m (args.getD 0 undefD) h else bodyD CF ih m f args h
theorem qd66e : qd66 ih m f args h = bodyD CF ih m f args h := by
  unfold qd66
  cases e : Nat.beq f 48 with
  | false => rfl
  | true => cases Nat.eq_of_beq_eq_true e; rw [cond_true]; exact (s48ok ih m args h).symm

noncomputable def qd67 : Res := bif Nat.beq f 49 then s49 ih m (args.getD 0 undefD) (args.getD 1 undefD) h else bodyD CF ih m f args h
theorem qd67e : qd67 ih m f args h = bodyD CF ih m f args h := by
  unfold qd67
  cases e : Nat.beq f 49 with
  | false => rfl
  | true => cases Nat.eq_of_beq_eq_true e; rw [cond_true]; exact (s49ok ih m args h).symm

noncomputable def qd65 : Res := bif Nat.blt f 49 then qd66 ih m f args h else qd67 ih m f args h
theorem qd65e : qd65 ih m f args h = bodyD CF ih m f args h := by
  unfold qd65
  cases Nat.blt f 49 with
  | false => exact qd67e ih m f args h
  | true => exact qd66e ih m f args h

noncomputable def qd63 : Res := bif Nat.blt f 48 then qd64 ih m f args h else qd65 ih m f args h
theorem qd63e : qd63 ih m f args h = bodyD CF ih m f args h := by
  unfold qd63
  cases Nat.blt f 48 with
  | false => exact qd65e ih m f args h
  | true => exact qd64e ih m f args h

noncomputable def qd59 : Res := bif Nat.blt f 47 then qd60 ih m f args h else qd63 ih m f args h
theorem qd59e : qd59 ih m f args h = bodyD CF ih m f args h := by
  unfold qd59
  cases Nat.blt f 47 with
  | false => exact qd63e ih m f args h
  | true => exact qd60e ih m f args h

noncomputable def qd51 : Res := bif Nat.blt f 39 then qd52 ih m f args h else qd59 ih m f args h
theorem qd51e : qd51 ih m f args h = bodyD CF ih m f args h := by
  unfold qd51
  cases Nat.blt f 39 with
  | false => exact qd59e ih m f args h
  | true => exact qd52e ih m f args h

noncomputable def qd35 : Res := bif Nat.blt f 35 then qd36 ih m f args h else qd51 ih m f args h
theorem qd35e : qd35 ih m f args h = bodyD CF ih m f args h := by
  unfold qd35
  cases Nat.blt f 35 with
  | false => exact qd51e ih m f args h
  | true => exact qd36e ih m f args h

noncomputable def qd1 : Res := bif Nat.blt f 23 then qd2 ih m f args h else qd35 ih m f args h
theorem qd1e : qd1 ih m f args h = bodyD CF ih m f args h := by
  unfold qd1
  cases Nat.blt f 23 with
  | false => exact qd35e ih m f args h
  | true => exact qd2e ih m f args h

noncomputable def qd73 : Res := bif Nat.beq f 50 then s50 ih m (args.getD 0 undefD) h else bodyD CF ih m f args h
theorem qd73e : qd73 ih m f args h = bodyD CF ih m f args h := by
  unfold qd73
  cases e : Nat.beq f 50 with
  | false => rfl
  | true => cases Nat.eq_of_beq_eq_true e; rw [cond_true]; exact (s50ok ih m args h).symm

noncomputable def qd74 : Res := bif Nat.beq f 51 then s51 ih m (args.getD 0 undefD) (args.getD 1 undefD) (args.getD 2 undefD) h else bodyD CF ih m f args h
theorem qd74e : qd74 ih m f args h = bodyD CF ih m f args h := by
  unfold qd74
  cases e : Nat.beq f 51 with
  | false => rfl
  | true => cases Nat.eq_of_beq_eq_true e; rw [cond_true]; exact (s51ok ih m args h).symm

noncomputable def qd72 : Res := bif Nat.blt f 51 then qd73 ih m f args h else qd74 ih m f args h
theorem qd72e : qd72 ih m f args h = bodyD CF ih m f args h := by
  unfold qd72
  cases Nat.blt f 51 with
  | false => exact qd74e ih m f args h
  | true => exact qd73e ih m f args h

noncomputable def qd76 : Res := bif Nat.beq f 52 then s52 ih m (args.getD 0 undefD) h else bodyD CF ih m f args h
theorem qd76e : qd76 ih m f args h = bodyD CF ih m f args h := by
  unfold qd76
  cases e : Nat.beq f 52 with
  | false => rfl
  | true => cases Nat.eq_of_beq_eq_true e; rw [cond_true]; exact (s52ok ih m args h).symm

noncomputable def qd77 : Res := bif Nat.beq f 53 then s53 ih m (args.getD 0 undefD) h else bodyD CF ih m f args h
theorem qd77e : qd77 ih m f args h = bodyD CF ih m f args h := by
  unfold qd77
  cases e : Nat.beq f 53 with
  | false => rfl
  | true => cases Nat.eq_of_beq_eq_true e; rw [cond_true]; exact (s53ok ih m args h).symm

noncomputable def qd75 : Res := bif Nat.blt f 53 then qd76 ih m f args h else qd77 ih m f args h
theorem qd75e : qd75 ih m f args h = bodyD CF ih m f args h := by
  unfold qd75
  cases Nat.blt f 53 with
  | false => exact qd77e ih m f args h
  | true => exact qd76e ih m f args h

noncomputable def qd71 : Res := bif Nat.blt f 52 then qd72 ih m f args h else qd75 ih m f args h
theorem qd71e : qd71 ih m f args h = bodyD CF ih m f args h := by
  unfold qd71
  cases Nat.blt f 52 with
  | false => exact qd75e ih m f args h
  | true => exact qd72e ih m f args h

noncomputable def qd80 : Res := bif Nat.beq f 54 then s54 ih m (args.getD 0 undefD) (args.getD 1 undefD) (args.getD 2 undefD) h else bodyD CF ih m f args h
theorem qd80e : qd80 ih m f args h = bodyD CF ih m f args h := by
  unfold qd80
  cases e : Nat.beq f 54 with
  | false => rfl
  | true => cases Nat.eq_of_beq_eq_true e; rw [cond_true]; exact (s54ok ih m args h).symm

noncomputable def qd81 : Res := bif Nat.beq f 55 then s55 ih m (args.getD 0 undefD) (args.getD 1 undefD) h else bodyD CF ih m f args h
theorem qd81e : qd81 ih m f args h = bodyD CF ih m f args h := by
  unfold qd81
  cases e : Nat.beq f 55 with
  | false => rfl
  | true => cases Nat.eq_of_beq_eq_true e; rw [cond_true]; exact (s55ok ih m args h).symm

noncomputable def qd79 : Res := bif Nat.blt f 55 then qd80 ih m f args h else qd81 ih m f args h
theorem qd79e : qd79 ih m f args h = bodyD CF ih m f args h := by
  unfold qd79
  cases Nat.blt f 55 with
  | false => exact qd81e ih m f args h
  | true => exact qd80e ih m f args h

noncomputable def qd83 : Res := bif Nat.beq f 56 then s56 ih m (args.getD 0 undefD) (args.getD 1 undefD) (args.getD 2 undefD) h else bodyD CF ih m f args h
theorem qd83e : qd83 ih m f args h = bodyD CF ih m f args h := by
  unfold qd83
  cases e : Nat.beq f 56 with
  | false => rfl
  | true => cases Nat.eq_of_beq_eq_true e; rw [cond_true]; exact (s56ok ih m args h).symm

noncomputable def qd84 : Res := bif Nat.beq f 62 then s62 ih m (args.getD 0 undefD) (args.getD 1 undefD) h else bodyD CF ih m f args h
theorem qd84e : qd84 ih m f args h = bodyD CF ih m f args h := by
  unfold qd84
  cases e : Nat.beq f 62 with
  | false => rfl
  | true => cases Nat.eq_of_beq_eq_true e; rw [cond_true]; exact (s62ok ih m args h).symm

noncomputable def qd82 : Res := bif Nat.blt f 62 then qd83 ih m f args h else qd84 ih m f args h
theorem qd82e : qd82 ih m f args h = bodyD CF ih m f args h := by
  unfold qd82
  cases Nat.blt f 62 with
  | false => exact qd84e ih m f args h
  | true => exact qd83e ih m f args h

noncomputable def qd78 : Res := bif Nat.blt f 56 then qd79 ih m f args h else qd82 ih m f args h
theorem qd78e : qd78 ih m f args h = bodyD CF ih m f args h := by
  unfold qd78
  cases Nat.blt f 56 with
  | false => exact qd82e ih m f args h
  | true => exact qd79e ih m f args h

noncomputable def qd70 : Res := bif Nat.blt f 54 then qd71 ih m f args h else qd78 ih m f args h
theorem qd70e : qd70 ih m f args h = bodyD CF ih m f args h := by
  unfold qd70
  cases Nat.blt f 54 with
  | false => exact qd78e ih m f args h
  | true => exact qd71e ih m f args h

noncomputable def qd88 : Res := bif Nat.beq f 63 then s63 ih m (args.getD 0 undefD) (args.getD 1 undefD) h else bodyD CF ih m f args h
theorem qd88e : qd88 ih m f args h = bodyD CF ih m f args h := by
  unfold qd88
  cases e : Nat.beq f 63 with
  | false => rfl
  | true => cases Nat.eq_of_beq_eq_true e; rw [cond_true]; exact (s63ok ih m args h).symm

noncomputable def qd89 : Res := bif Nat.beq f 64 then s64 ih m (args.getD 0 undefD) (args.getD 1 undefD) h else bodyD CF ih m f args h
theorem qd89e : qd89 ih m f args h = bodyD CF ih m f args h := by
  unfold qd89
  cases e : Nat.beq f 64 with
  | false => rfl
  | true => cases Nat.eq_of_beq_eq_true e; rw [cond_true]; exact (s64ok ih m args h).symm

noncomputable def qd87 : Res := bif Nat.blt f 64 then qd88 ih m f args h else qd89 ih m f args h
theorem qd87e : qd87 ih m f args h = bodyD CF ih m f args h := by
  unfold qd87
  cases Nat.blt f 64 with
  | false => exact qd89e ih m f args h
  | true => exact qd88e ih m f args h

noncomputable def qd91 : Res := bif Nat.beq f 65 then s65 ih m (args.getD 0 undefD) h else bodyD CF ih m f args h
theorem qd91e : qd91 ih m f args h = bodyD CF ih m f args h := by
  unfold qd91
  cases e : Nat.beq f 65 with
  | false => rfl
  | true => cases Nat.eq_of_beq_eq_true e; rw [cond_true]; exact (s65ok ih m args h).symm

noncomputable def qd92 : Res := bif Nat.beq f 66 then s66 ih m (args.getD 0 undefD) h else bodyD CF ih m f args h
theorem qd92e : qd92 ih m f args h = bodyD CF ih m f args h := by
  unfold qd92
  cases e : Nat.beq f 66 with
  | false => rfl
  | true => cases Nat.eq_of_beq_eq_true e; rw [cond_true]; exact (s66ok ih m args h).symm

noncomputable def qd90 : Res := bif Nat.blt f 66 then qd91 ih m f args h else qd92 ih m f args h
theorem qd90e : qd90 ih m f args h = bodyD CF ih m f args h := by
  unfold qd90
  cases Nat.blt f 66 with
  | false => exact qd92e ih m f args h
  | true => exact qd91e ih m f args h

noncomputable def qd86 : Res := bif Nat.blt f 65 then qd87 ih m f args h else qd90 ih m f args h
theorem qd86e : qd86 ih m f args h = bodyD CF ih m f args h := by
  unfold qd86
  cases Nat.blt f 65 with
  | false => exact qd90e ih m f args h
  | true => exact qd87e ih m f args h

noncomputable def qd95 : Res := bif Nat.beq f 67 then s67 ih m (args.getD 0 undefD) h else bodyD CF ih m f args h
theorem qd95e : qd95 ih m f args h = bodyD CF ih m f args h := by
  unfold qd95
  cases e : Nat.beq f 67 with
  | false => rfl
  | true => cases Nat.eq_of_beq_eq_true e; rw [cond_true]; exact (s67ok ih m args h).symm

noncomputable def qd96 : Res := bif Nat.beq f 68 then s68 ih m (args.getD 0 undefD) h else bodyD CF ih m f args h
theorem qd96e : qd96 ih m f args h = bodyD CF ih m f args h := by
  unfold qd96
  cases e : Nat.beq f 68 with
  | false => rfl
  | true => cases Nat.eq_of_beq_eq_true e; rw [cond_true]; exact (s68ok ih m args h).symm

noncomputable def qd94 : Res := bif Nat.blt f 68 then qd95 ih m f args h else qd96 ih m f args h
theorem qd94e : qd94 ih m f args h = bodyD CF ih m f args h := by
  unfold qd94
  cases Nat.blt f 68 with
  | false => exact qd96e ih m f args h
  | true => exact qd95e ih m f args h

noncomputable def qd98 : Res := bif Nat.beq f 69 then s69 ih m (args.getD 0 undefD) h else bodyD CF ih m f args h
theorem qd98e : qd98 ih m f args h = bodyD CF ih m f args h := by
  unfold qd98
  cases e : Nat.beq f 69 with
  | false => rfl
  | true => cases Nat.eq_of_beq_eq_true e; rw [cond_true]; exact (s69ok ih m args h).symm

noncomputable def qd100 : Res := bif Nat.beq f 70 then s70 ih m (args.getD 0 undefD) h else bodyD CF ih m f args h
theorem qd100e : qd100 ih m f args h = bodyD CF ih m f args h := by
  unfold qd100
  cases e : Nat.beq f 70 with
  | false => rfl
  | true => cases Nat.eq_of_beq_eq_true e; rw [cond_true]; exact (s70ok ih m args h).symm

noncomputable def qd101 : Res := bif Nat.beq f 71 then s71 ih m (args.getD 0 undefD) h else bodyD CF ih m f args h
theorem qd101e : qd101 ih m f args h = bodyD CF ih m f args h := by
  unfold qd101
  cases e : Nat.beq f 71 with
  | false => rfl
  | true => cases Nat.eq_of_beq_eq_true e; rw [cond_true]; exact (s71ok ih m args h).symm

noncomputable def qd99 : Res := bif Nat.blt f 71 then qd100 ih m f args h else qd101 ih m f args h
theorem qd99e : qd99 ih m f args h = bodyD CF ih m f args h := by
  unfold qd99
  cases Nat.blt f 71 with
  | false => exact qd101e ih m f args h
  | true => exact qd100e ih m f args h

noncomputable def qd97 : Res := bif Nat.blt f 70 then qd98 ih m f args h else qd99 ih m f args h
theorem qd97e : qd97 ih m f args h = bodyD CF ih m f args h := by
  unfold qd97
  cases Nat.blt f 70 with
  | false => exact qd99e ih m f args h
  | true => exact qd98e ih m f args h

noncomputable def qd93 : Res := bif Nat.blt f 69 then qd94 ih m f args h else qd97 ih m f args h
theorem qd93e : qd93 ih m f args h = bodyD CF ih m f args h := by
  unfold qd93
  cases Nat.blt f 69 with
  | false => exact qd97e ih m f args h
  | true => exact qd94e ih m f args h

noncomputable def qd85 : Res := bif Nat.blt f 67 then qd86 ih m f args h else qd93 ih m f args h
theorem qd85e : qd85 ih m f args h = bodyD CF ih m f args h := by
  unfold qd85
  cases Nat.blt f 67 with
  | false => exact qd93e ih m f args h
  | true => exact qd86e ih m f args h

noncomputable def qd69 : Res := bif Nat.blt f 63 then qd70 ih m f args h else qd85 ih m f args h
theorem qd69e : qd69 ih m f args h = bodyD CF ih m f args h := by
  unfold qd69
  cases Nat.blt f 63 with
  | false => exact qd85e ih m f args h
  | true => exact qd70e ih m f args h

noncomputable def qd106 : Res := bif Nat.beq f 72 then s72 ih m (args.getD 0 undefD) h else bodyD CF ih m f args h
theorem qd106e : qd106 ih m f args h = bodyD CF ih m f args h := by
  unfold qd106
  cases e : Nat.beq f 72 with
  | false => rfl
  | true => cases Nat.eq_of_beq_eq_true e; rw [cond_true]; exact (s72ok ih m args h).symm

noncomputable def qd107 : Res := bif Nat.beq f 78 then s78 ih m (args.getD 0 undefD) h else bodyD CF ih m f args h
theorem qd107e : qd107 ih m f args h = bodyD CF ih m f args h := by
  unfold qd107
  cases e : Nat.beq f 78 with
  | false => rfl
  | true => cases Nat.eq_of_beq_eq_true e; rw [cond_true]; exact (s78ok ih m args h).symm

noncomputable def qd105 : Res := bif Nat.blt f 78 then qd106 ih m f args h else qd107 ih m f args h
theorem qd105e : qd105 ih m f args h = bodyD CF ih m f args h := by
  unfold qd105
  cases Nat.blt f 78 with
  | false => exact qd107e ih m f args h
  | true => exact qd106e ih m f args h

noncomputable def qd109 : Res := bif Nat.beq f 79 then s79 ih m (args.getD 0 undefD) h else bodyD CF ih m f args h
theorem qd109e : qd109 ih m f args h = bodyD CF ih m f args h := by
  unfold qd109
  cases e : Nat.beq f 79 with
  | false => rfl
  | true => cases Nat.eq_of_beq_eq_true e; rw [cond_true]; exact (s79ok ih m args h).symm

noncomputable def qd110 : Res := bif Nat.beq f 80 then s80 ih m (args.getD 0 undefD) (args.getD 1 undefD) h else bodyD CF ih m f args h
theorem qd110e : qd110 ih m f args h = bodyD CF ih m f args h := by
  unfold qd110
  cases e : Nat.beq f 80 with
  | false => rfl
  | true => cases Nat.eq_of_beq_eq_true e; rw [cond_true]; exact (s80ok ih m args h).symm

noncomputable def qd108 : Res := bif Nat.blt f 80 then qd109 ih m f args h else qd110 ih m f args h
theorem qd108e : qd108 ih m f args h = bodyD CF ih m f args h := by
  unfold qd108
  cases Nat.blt f 80 with
  | false => exact qd110e ih m f args h
  | true => exact qd109e ih m f args h

noncomputable def qd104 : Res := bif Nat.blt f 79 then qd105 ih m f args h else qd108 ih m f args h
theorem qd104e : qd104 ih m f args h = bodyD CF ih m f args h := by
  unfold qd104
  cases Nat.blt f 79 with
  | false => exact qd108e ih m f args h
  | true => exact qd105e ih m f args h

noncomputable def qd113 : Res := bif Nat.beq f 81 then s81 ih m (args.getD 0 undefD) (args.getD 1 undefD) h else bodyD CF ih m f args h
theorem qd113e : qd113 ih m f args h = bodyD CF ih m f args h := by
  unfold qd113
  cases e : Nat.beq f 81 with
  | false => rfl
  | true => cases Nat.eq_of_beq_eq_true e; rw [cond_true]; exact (s81ok ih m args h).symm

noncomputable def qd114 : Res := bif Nat.beq f 82 then s82 ih m (args.getD 0 undefD) (args.getD 1 undefD) h else bodyD CF ih m f args h
theorem qd114e : qd114 ih m f args h = bodyD CF ih m f args h := by
  unfold qd114
  cases e : Nat.beq f 82 with
  | false => rfl
  | true => cases Nat.eq_of_beq_eq_true e; rw [cond_true]; exact (s82ok ih m args h).symm

noncomputable def qd112 : Res := bif Nat.blt f 82 then qd113 ih m f args h else qd114 ih m f args h
theorem qd112e : qd112 ih m f args h = bodyD CF ih m f args h := by
  unfold qd112
  cases Nat.blt f 82 with
  | false => exact qd114e ih m f args h
  | true => exact qd113e ih m f args h

noncomputable def qd116 : Res := bif Nat.beq f 83 then s83 ih m (args.getD 0 undefD) h else bodyD CF ih m f args h
theorem qd116e : qd116 ih m f args h = bodyD CF ih m f args h := by
  unfold qd116
  cases e : Nat.beq f 83 with
  | false => rfl
  | true => cases Nat.eq_of_beq_eq_true e; rw [cond_true]; exact (s83ok ih m args h).symm

noncomputable def qd117 : Res := bif Nat.beq f 84 then s84 ih m (args.getD 0 undefD) h else bodyD CF ih m f args h
theorem qd117e : qd117 ih m f args h = bodyD CF ih m f args h := by
  unfold qd117
  cases e : Nat.beq f 84 with
  | false => rfl
  | true => cases Nat.eq_of_beq_eq_true e; rw [cond_true]; exact (s84ok ih m args h).symm

noncomputable def qd115 : Res := bif Nat.blt f 84 then qd116 ih m f args h else qd117 ih m f args h
theorem qd115e : qd115 ih m f args h = bodyD CF ih m f args h := by
  unfold qd115
  cases Nat.blt f 84 with
  | false => exact qd117e ih m f args h
  | true => exact qd116e ih m f args h

noncomputable def qd111 : Res := bif Nat.blt f 83 then qd112 ih m f args h else qd115 ih m f args h
theorem qd111e : qd111 ih m f args h = bodyD CF ih m f args h := by
  unfold qd111
  cases Nat.blt f 83 with
  | false => exact qd115e ih m f args h
  | true => exact qd112e ih m f args h

noncomputable def qd103 : Res := bif Nat.blt f 81 then qd104 ih m f args h else qd111 ih m f args h
theorem qd103e : qd103 ih m f args h = bodyD CF ih m f args h := by
  unfold qd103
  cases Nat.blt f 81 with
  | false => exact qd111e ih m f args h
  | true => exact qd104e ih m f args h

noncomputable def qd121 : Res := bif Nat.beq f 85 then s85 ih m (args.getD 0 undefD) h else bodyD CF ih m f args h
theorem qd121e : qd121 ih m f args h = bodyD CF ih m f args h := by
  unfold qd121
  cases e : Nat.beq f 85 with
  | false => rfl
  | true => cases Nat.eq_of_beq_eq_true e; rw [cond_true]; exact (s85ok ih m args h).symm

noncomputable def qd122 : Res := bif Nat.beq f 86 then s86 ih m (args.getD 0 undefD) (args.getD 1 undefD) h else bodyD CF ih m f args h
theorem qd122e : qd122 ih m f args h = bodyD CF ih m f args h := by
  unfold qd122
  cases e : Nat.beq f 86 with
  | false => rfl
  | true => cases Nat.eq_of_beq_eq_true e; rw [cond_true]; exact (s86ok ih m args h).symm

noncomputable def qd120 : Res := bif Nat.blt f 86 then qd121 ih m f args h else qd122 ih m f args h
theorem qd120e : qd120 ih m f args h = bodyD CF ih m f args h := by
  unfold qd120
  cases Nat.blt f 86 with
  | false => exact qd122e ih m f args h
  | true => exact qd121e ih m f args h

noncomputable def qd124 : Res := bif Nat.beq f 87 then s87 ih m (args.getD 0 undefD) h else bodyD CF ih m f args h
theorem qd124e : qd124 ih m f args h = bodyD CF ih m f args h := by
  unfold qd124
  cases e : Nat.beq f 87 with
  | false => rfl
  | true => cases Nat.eq_of_beq_eq_true e; rw [cond_true]; exact (s87ok ih m args h).symm

noncomputable def qd125 : Res := bif Nat.beq f 88 then s88 ih m (args.getD 0 undefD) (args.getD 1 undefD) h else bodyD CF ih m f args h
theorem qd125e : qd125 ih m f args h = bodyD CF ih m f args h := by
  unfold qd125
  cases e : Nat.beq f 88 with
  | false => rfl
  | true => cases Nat.eq_of_beq_eq_true e; rw [cond_true]; exact (s88ok ih m args h).symm

noncomputable def qd123 : Res := bif Nat.blt f 88 then qd124 ih m f args h else qd125 ih m f args h
theorem qd123e : qd123 ih m f args h = bodyD CF ih m f args h := by
  unfold qd123
  cases Nat.blt f 88 with
  | false => exact qd125e ih m f args h
  | true => exact qd124e ih m f args h

noncomputable def qd119 : Res := bif Nat.blt f 87 then qd120 ih m f args h else qd123 ih m f args h
theorem qd119e : qd119 ih m f args h = bodyD CF ih m f args h := by
  unfold qd119
  cases Nat.blt f 87 with
  | false => exact qd123e ih m f args h
  | true => exact qd120e ih m f args h

noncomputable def qd128 : Res := bif Nat.beq f 89 then s89 ih m (args.getD 0 undefD) h else bodyD CF ih m f args h
theorem qd128e : qd128 ih m f args h = bodyD CF ih m f args h := by
  unfold qd128
  cases e : Nat.beq f 89 with
  | false => rfl
  | true => cases Nat.eq_of_beq_eq_true e; rw [cond_true]; exact (s89ok ih m args h).symm

noncomputable def qd129 : Res := bif Nat.beq f 90 then s90 ih m (args.getD 0 undefD) h else bodyD CF ih m f args h
theorem qd129e : qd129 ih m f args h = bodyD CF ih m f args h := by
  unfold qd129
  cases e : Nat.beq f 90 with
  | false => rfl
  | true => cases Nat.eq_of_beq_eq_true e; rw [cond_true]; exact (s90ok ih m args h).symm

noncomputable def qd127 : Res := bif Nat.blt f 90 then qd128 ih m f args h else qd129 ih m f args h
theorem qd127e : qd127 ih m f args h = bodyD CF ih m f args h := by
  unfold qd127
  cases Nat.blt f 90 with
  | false => exact qd129e ih m f args h
  | true => exact qd128e ih m f args h

noncomputable def qd131 : Res := bif Nat.beq f 91 then s91 ih m (args.getD 0 undefD) h else bodyD CF ih m f args h
theorem qd131e : qd131 ih m f args h = bodyD CF ih m f args h := by
  unfold qd131
  cases e : Nat.beq f 91 with
  | false => rfl
  | true => cases Nat.eq_of_beq_eq_true e; rw [cond_true]; exact (s91ok ih m args h).symm

noncomputable def qd133 : Res := bif Nat.beq f 92 then s92 ih m (args.getD 0 undefD) h else bodyD CF ih m f args h
theorem qd133e : qd133 ih m f args h = bodyD CF ih m f args h := by
  unfold qd133
  cases e : Nat.beq f 92 with
  | false => rfl
  | true => cases Nat.eq_of_beq_eq_true e; rw [cond_true]; exact (s92ok ih m args h).symm

noncomputable def qd134 : Res := bif Nat.beq f 93 then s93 ih m (args.getD 0 undefD) h else bodyD CF ih m f args h
theorem qd134e : qd134 ih m f args h = bodyD CF ih m f args h := by
  unfold qd134
  cases e : Nat.beq f 93 with
  | false => rfl
  | true => cases Nat.eq_of_beq_eq_true e; rw [cond_true]; exact (s93ok ih m args h).symm

noncomputable def qd132 : Res := bif Nat.blt f 93 then qd133 ih m f args h else qd134 ih m f args h
theorem qd132e : qd132 ih m f args h = bodyD CF ih m f args h := by
  unfold qd132
  cases Nat.blt f 93 with
  | false => exact qd134e ih m f args h
  | true => exact qd133e ih m f args h

noncomputable def qd130 : Res := bif Nat.blt f 92 then qd131 ih m f args h else qd132 ih m f args h
theorem qd130e : qd130 ih m f args h = bodyD CF ih m f args h := by
  unfold qd130
  cases Nat.blt f 92 with
  | false => exact qd132e ih m f args h
  | true => exact qd131e ih m f args h

noncomputable def qd126 : Res := bif Nat.blt f 91 then qd127 ih m f args h else qd130 ih m f args h
theorem qd126e : qd126 ih m f args h = bodyD CF ih m f args h := by
  unfold qd126
  cases Nat.blt f 91 with
  | false => exact qd130e ih m f args h
  | true => exact qd127e ih m f args h

noncomputable def qd118 : Res := bif Nat.blt f 89 then qd119 ih m f args h else qd126 ih m f args h
theorem qd118e : qd118 ih m f args h = bodyD CF ih m f args h := by
  unfold qd118
  cases Nat.blt f 89 with
  | false => exact qd126e ih m f args h
  | true => exact qd119e ih m f args h

noncomputable def qd102 : Res := bif Nat.blt f 85 then qd103 ih m f args h else qd118 ih m f args h
theorem qd102e : qd102 ih m f args h = bodyD CF ih m f args h := by
  unfold qd102
  cases Nat.blt f 85 with
  | false => exact qd118e ih m f args h
  | true => exact qd103e ih m f args h

noncomputable def qd68 : Res := bif Nat.blt f 72 then qd69 ih m f args h else qd102 ih m f args h
theorem qd68e : qd68 ih m f args h = bodyD CF ih m f args h := by
  unfold qd68
  cases Nat.blt f 72 with
  | false => exact qd102e ih m f args h
  | true => exact qd69e ih m f args h

noncomputable def qd0 : Res := bif Nat.blt f 50 then qd1 ih m f args h else qd68 ih m f args h
theorem qd0e : qd0 ih m f args h = bodyD CF ih m f args h := by
  unfold qd0
  cases Nat.blt f 50 with
  | false => exact qd68e ih m f args h
  | true => exact qd1e ih m f args h

end

/-- One level of calls: the functions one by one. -/
noncomputable def shB (ih : RT) (m : Nat) (f : FuncId) (args : List DV) (h : Hp) : Res := qd0 ih m f args h

theorem shB_eq (ih : RT) (m : Nat) (f : FuncId) (args : List DV) (h : Hp) : shB ih m f args h = bodyD CF ih m f args h := qd0e ih m f args h

noncomputable def shD (n : Nat) : FuncId → List DV → Hp → Res :=
  Nat.rec (motive := fun _ => FuncId → List DV → Hp → Res) (fun _ _ _ => none) (fun m ih => shB ih m) n

theorem shD_eq : ∀ n, shD n = fnD CF n
  | 0 => rfl
  | n + 1 => by
    have e : shD (n + 1) = shB (shD n) n := rfl
    have e' : fnD CF (n + 1) = bodyD CF (fnD CF n) n := rfl
    rw [e, e', ← shD_eq n]
    funext f args h
    exact shB_eq _ _ _ _ _

end Go.Dd

/- Dd, part R: from a run of Dd to a call of the program. -/
set_option linter.unusedVariables false
set_option linter.unusedSimpArgs false
set_option maxRecDepth 100000
namespace Go.Dd
open Go.Proofs Go.Lib Go.RowKit

theorem idxGo_eq (c : Nat) (hc : c < 256) : ∀ (l : List UInt8) (i : Nat), idxGo c (l.map (·.toNat)) i = if indexByte l c.toUInt8 = -1 then -1 else indexByte l c.toUInt8 + i
  | [], i => rfl
  | b :: l, i => by
    have hb : Nat.beq b.toNat c = (b == c.toUInt8) := by
      rw [Bool.eq_iff_iff]
      constructor
      · intro h
        have := Nat.eq_of_beq_eq_true h
        simp [← this]
      · intro h
        have h2 : b = c.toUInt8 := by simpa using h
        rw [h2]
        have : (c.toUInt8).toNat = c := by simp [Nat.toUInt8]; omega
        rw [this]; simp
    show (bif Nat.beq b.toNat c then Int.ofNat i else idxGo c (l.map (·.toNat)) (i + 1)) = _
    rw [hb]
    unfold indexByte
    cases h : (b == c.toUInt8) with
    | true => simp
    | false =>
      have ih := idxGo_eq c hc l (i + 1)
      have hge := indexByte_ge l c.toUInt8
      simp only [cond_false, Bool.false_eq_true, if_false]
      rw [ih]
      by_cases h1 : indexByte l c.toUInt8 = -1
      · simp [h1]
      · simp only [h1, if_false, beq_iff_eq]
        rw [if_neg (by omega)]
        omega

theorem idx_ok (G : Gd) : FnOk CF.P G 77 idxF := by
  intro args h v h1 hr ρ w args' H hargs
  unfold idxF at hr
  split at hr <;> (try (cases hr; done))
  rename_i l c
  cases hc : Nat.blt c 256 with
  | false => rw [hc] at hr; cases hr
  | true =>
    rw [hc] at hr
    have hc' : c < 256 := by simpa using hc
    simp only [cond_true, Option.some.injEq, Prod.mk.injEq] at hr
    obtain ⟨rfl, rfl⟩ := hr
    obtain ⟨a⟩ := args'
    cases hargs with
    | cons x x' l1 l1' hx hxs =>
    cases hxs with
    | cons y y' l2 l2' hy hys =>
    cases hys
    cases hx with
    | s l bs hbs =>
    cases hy with
    | i k n =>
    refine .inr ⟨ρ, w, .int .i64 (indexByte bs.data.toList c.toUInt8), ?_, Ex.refl _ _, ?_, H, Kp.refl _ _⟩
    · rw [run_callFunc_extern (fn := Try.f77) (e := Extern.BytealgIndexByte.indexByte) (by kernel_rfl) (by kernel_rfl) (by kernel_rfl) (by kernel_rfl) (by kernel_rfl)]
      rw [run_indexByteString bs (Int.ofNat c) w]
      rfl
    · have e := idxGo_eq c hc' bs.data.toList 0
      rw [hbs] at e
      have e2 : idxGo c l 0 = indexByte bs.data.toList c.toUInt8 := by
        rw [e]
        split
        · rename_i h; exact h.symm
        · simp
      rw [e2]
      exact .i _ _

theorem CF_own (G : Gd) (g : FuncId) (F : List DV → Hp → Res) (h : CF.I g = some F) : FnOk CF.P G g F := by
  have e : CF.I g = bif Nat.beq g 77 then some idxF else none := rfl
  rw [e] at h
  cases hg : Nat.beq g 77 with
  | false => rw [hg] at h; cases h
  | true =>
    rw [hg] at h
    cases h
    cases Nat.eq_of_beq_eq_true hg
    exact idx_ok G

theorem names_all : (Try.prog.funcs.toList.all fun fn => !(fn.name == "runtime.NumGoroutine")) = true := by kernel_rfl

theorem Try_ok : POk CF.P where
  mixed := by kernel_rfl
  names := by
    intro f fn hf
    have h := List.all_eq_true.1 names_all fn (by
      have : Try.prog.funcs[f]? = some fn := hf
      obtain ⟨hlt, rfl⟩ := Array.getElem?_eq_some_iff.1 this
      simp)
    simpa using h

def h00 : Hp := ⟨.h, .e⟩

/-- A run of Dd from nothing is a call of the program. -/
theorem top {n : Nat} {f : FuncId} {args : List DV} {v : DV} {h1 : Hp} (hr : shD n f args h00 = some (v, h1)) (fn : Func) (hf : Try.prog.funcs[f]? = some fn) (hb : fn.body.isSome = true)
    (w : World) (args' : Array Value) (hargs : VRs (fun _ => none) args args'.toList) :
    Calls Try.prog f args' w fun e w' => ∃ ρ' v', e = .returned v' ∧ VR ρ' v v' ∧ HR ⟨w.heap.size, fun _ => False, 0⟩ ρ' h1 w' ∧ Below w.heap.size w w' := by
  rw [shD_eq] at hr
  have H : HR ⟨w.heap.size, fun _ => False, 0⟩ (fun _ => none) h00 w := by
    constructor
    · exact ⟨Nat.le_refl _, fun _ h => h.elim⟩
    · exact Nat.zero_le _
    · rintro b a ⟨k, l, L, _, h2, _⟩; cases h2
    · intro b o h; cases b <;> cases h
    · intro b L h; cases h
    · intro b k l L i v h h2; cases h2
    · intro b l L es j h h2; cases h2
    · rintro b a ⟨k, l, L, _, h2, _⟩; cases h2
    · rintro b b' a ⟨k, l, L, _, h2, _⟩; cases h2
    · intro b l L h h2; cases h2
    · intro b es l i v h; cases b <;> cases h
    · intro b s pos L h h2; cases h2
    · intro b s pos b' s' pos' L L' h h' h2; cases h2
  rcases fnD_ok (C := CF) Try_ok CF_own n _ f args h00 v h1 hr _ w args' H hargs with ⟨_, h⟩ | ⟨ρ', w', v', h, _⟩
  · refine h.mono ?_
    rintro e w' ⟨ρ', v', h1, h2, h3, h4, h5⟩
    exact ⟨ρ', v', h1, h3, h4, h5.low⟩
  · exfalso
    have hf' : CF.P.funcs[f]? = some fn := hf
    have hn : ¬ fn.name = "runtime.NumGoroutine" := by simpa using Try_ok.names f fn hf'
    have hbn : fn.body ≠ none := by intro e; rw [e] at hb; cases hb
    unfold callFunc at h
    simp [hf', hn, hbn] at h

end Go.Dd

/- Dd, part U: the value of a result. -/
namespace Go.Dd

noncomputable def val (r : Res) : DV := Option.rec (motive := fun _ => DV) .u (fun p => p.1) r

theorem val_b {r : Res} {b : Bool} (h : val r = .b b) : ∃ h1, r = some (.b b, h1) := by
  cases r with
  | none => cases h
  | some p =>
    obtain ⟨v, h1⟩ := p
    have : v = .b b := h
    exact ⟨h1, by rw [this]⟩

end Go.Dd

/- Dd, part S1: heaps that have grown; nodes in a heap of Dd; lists of strings are compared. -/
set_option linter.unusedVariables false
set_option linter.unusedSimpArgs false
set_option maxRecDepth 100000
namespace Go.Dd
open Go.Proofs

def Wf (h : Hp) : Prop := ∀ b o, h.bl.get b = some o → b.toNat < h.next.toNat
def Ge (h h' : Hp) : Prop := ∀ b o, h.bl.get b = some o → h'.bl.get b = some o

theorem Ge.refl (h : Hp) : Ge h h := fun _ _ e => e
theorem Ge.trans {a b c : Hp} (h : Ge a b) (k : Ge b c) : Ge a c := fun x o e => k x o (h x o e)

noncomputable def nw (o : Ob) (h : Hp) : Hp := ⟨h.next.succ, Tr.set o h.next h.bl⟩

theorem nw_ne {h : Hp} (W : Wf h) {b : Pos} {o : Ob} (e : h.bl.get b = some o) : b ≠ h.next := by
  intro e2
  have := W b o e
  rw [e2] at this
  omega

theorem nw_ge {h : Hp} (W : Wf h) (o : Ob) : Ge h (nw o h) := by
  intro b o' e
  show (Tr.set o h.next h.bl).get b = some o'
  rw [Tr.get_set_other _ _ _ _ (nw_ne W e)]
  exact e

theorem nw_wf {h : Hp} (W : Wf h) (o : Ob) : Wf (nw o h) := by
  intro b o' e
  show b.toNat < h.next.succ.toNat
  rw [Pos.toNat_succ]
  by_cases hb : b = h.next
  · rw [hb]; omega
  · have : h.bl.get b = some o' := by
      rw [← Tr.get_set_other o h.next b h.bl hb]; exact e
    have := W b o' this
    omega

theorem nw_get (h : Hp) (o : Ob) : (nw o h).bl.get h.next = some o := Tr.get_set_same o _ _

theorem bnS (v : DV) (h : Hp) (k : DV → Hp → Res) : bnd (some (v, h)) k = k v h := rfl
theorem ifD_t (a b : Res) : ifD (.b true) a b = a := rfl
theorem ifD_f (a b : Res) : ifD (.b false) a b = b := rfl
theorem gD_tt (r : Res) (h : Hp) : gD (.b true) true r h = r := rfl
theorem gD_ff (r : Res) (h : Hp) : gD (.b false) false r h = r := rfl
theorem gD_ft (r : Res) (h : Hp) : gD (.b false) true r h = some (undefD, h) := rfl
theorem gD_tf (r : Res) (h : Hp) : gD (.b true) false r h = some (undefD, h) := rfl
theorem pick_t (x y : DV) (h : Hp) : pPick (.b true) x y h = some (x, h) := rfl
theorem pick_f (x y : DV) (h : Hp) : pPick (.b false) x y h = some (y, h) := rfl
theorem fld (b : Pos) (o i : Nat) (h : Hp) : pField i (.p b o) h = some (.p b (o + i), h) := rfl
theorem not_b (x : Bool) (h : Hp) : pUn .not (.b x) h = some (.b (!x), h) := rfl
theorem box_a (cs : List DV) (h : Hp) : pBox (.a cs) h = some (.p h.next 0, nw (.row .ex cs) h) := rfl
theorem new_a (cs : List DV) (h : Hp) : pNew cs h = some (.p h.next 0, nw (.row .ex cs) h) := rfl
theorem str_eq (x y : List Nat) (h : Hp) : pStr .eql (.s x) (.s y) h = some (.b (eqD x y), h) := rfl
theorem str_ne (x y : List Nat) (h : Hp) : pStr .neq (.s x) (.s y) h = some (.b (!eqD x y), h) := rfl
theorem int_eq (x y : Int) (h : Hp) : pInt .eql (.i .i64 x) (.i .i64 y) h = some (.b (x == y), h) := rfl
theorem int_ne (x y : Int) (h : Hp) : pInt .neq (.i .i64 x) (.i .i64 y) h = some (.b (x != y), h) := rfl
theorem int_lt (x y : Int) (h : Hp) : pInt .lss (.i .i64 x) (.i .i64 y) h = some (.b (decide (x < y)), h) := rfl
theorem int_ge (x y : Int) (h : Hp) : pInt .geq (.i .i64 x) (.i .i64 y) h = some (.b (decide (x ≥ y)), h) := rfl
theorem int_gt (x y : Int) (h : Hp) : pInt .gtr (.i .i64 x) (.i .i64 y) h = some (.b (decide (x > y)), h) := rfl
theorem int_add (x y : Int) (h : Hp) : pInt .add (.i .i64 x) (.i .i64 y) h = some (.i .i64 (IntKind.i64.wrap (x + y)), h) := rfl
theorem int_sub (x y : Int) (h : Hp) : pInt .sub (.i .i64 x) (.i .i64 y) h = some (.i .i64 (IntKind.i64.wrap (x - y)), h) := rfl

theorem wrap64s (n : Int) (h1 : -9223372036854775808 ≤ n) (h2 : n ≤ 9223372036854775807) : IntKind.i64.wrap n = n := by
  unfold IntKind.wrap
  simp [IntKind.bits, IntKind.signed, IntKind.min, IntKind.max]
  omega

theorem ld1 {h : Hp} {b : Pos} {k : Kind} {l : List DV} {o : Nat} {v : DV} (e : h.bl.get b = some (.row k l)) (ho : l[o]? = some v) (hv : v.one = true) : pLoad1 (.p b o) h = some (v, h) := by
  simp [pLoad1, cellD, rowOf, e, ho, hv]

theorem ldA {h : Hp} {b : Pos} {k : Kind} {l : List DV} {o n : Nat} {cs : List DV} (e : h.bl.get b = some (.row k l)) (ho : takeD n (l.drop o) = some cs) : pLoadA n (.p b o) h = some (.a cs, h) := by
  simp [pLoadA, cellsAt, rowOf, e, ho]

/-- A slice of strings. -/
def SL (h : Hp) (s : DV) (l : List (List Nat)) : Prop :=
  l.length ≤ 9223372036854775807 ∧ ((s = .l0 ∧ l = []) ∨ ∃ (b : Pos) (cap : Nat) (k : Kind) (row : List DV), s = .l b 0 l.length cap ∧ h.bl.get b = some (.row k row) ∧ ∀ (i : Nat) (x : List Nat), l[i]? = some x → row[i]? = some (DV.s x))

theorem SL.mono {h h' : Hp} {s : DV} {l : List (List Nat)} (g : Ge h h') (H : SL h s l) : SL h' s l := by
  obtain ⟨h0, H | ⟨b, cap, k, row, e1, e2, e3⟩⟩ := H
  · exact ⟨h0, .inl H⟩
  · exact ⟨h0, .inr ⟨b, cap, k, row, e1, g _ _ e2, e3⟩⟩

theorem SL.one {h : Hp} {s : DV} {l : List (List Nat)} (H : SL h s l) : s.one = true := by
  obtain ⟨_, ⟨rfl, _⟩ | ⟨b, cap, k, row, rfl, _⟩⟩ := H <;> rfl

theorem SL.len {h : Hp} {s : DV} {l : List (List Nat)} (H : SL h s l) (h' : Hp) : pLen s h' = some (.i .i64 (l.length : Int), h') := by
  obtain ⟨_, ⟨rfl, rfl⟩ | ⟨b, cap, k, row, rfl, _⟩⟩ := H <;> rfl

theorem SL.at {h : Hp} {s : DV} {l : List (List Nat)} (H : SL h s l) {i : Nat} {x : List Nat} (hi : l[i]? = some x) : ∃ p, pIndexAddr 1 s (.i .i64 (i : Int)) h = some (p, h) ∧ pLoad1 p h = some (.s x, h) := by
  obtain ⟨_, ⟨rfl, rfl⟩ | ⟨b, cap, k, row, rfl, e2, e3⟩⟩ := H
  · simp at hi
  · have hlt : i < l.length := (List.getElem?_eq_some_iff.1 hi).1
    refine ⟨.p b (0 + i * 1), ?_, ?_⟩
    · show (if 0 ≤ (i : Int) ∧ (i : Int) < (l.length : Int) then some (DV.p b (0 + (i : Int).toNat * 1), h) else none) = _
      rw [if_pos ⟨by omega, by omega⟩]
      rfl
    · refine ld1 e2 ?_ rfl
      simpa using e3 i x hi

theorem drop_cons {α : Type} {l : List α} {i : Nat} {x : α} (hi : l[i]? = some x) : l.drop i = x :: l.drop (i + 1) := by
  obtain ⟨h1, h2⟩ := List.getElem?_eq_some_iff.1 hi
  rw [← h2]
  exact List.drop_eq_getElem_cons h1

theorem dec_cons (x y : List Nat) (a b : List (List Nat)) : decide (x :: a = y :: b) = (decide (x = y) && decide (a = b)) := by
  by_cases h : x = y <;> simp [h]

theorem eqD_dec (x y : List Nat) : eqD x y = decide (x = y) := by
  rw [Bool.eq_iff_iff, eqD_iff]; simp

theorem s21_loop {rec : FuncId → List DV → Hp → Res} {n : Nat} {h : Hp} {s1 s2 : DV} {l1 l2 : List (List Nat)} (H1 : SL h s1 l1) (H2 : SL h s2 l2) (hl : l1.length = l2.length) :
    ∀ (m i : Nat), i ≤ l1.length → l1.length < m + i → s21a5l rec n m s1 s2 (.i .i64 (i : Int)) h = some (.b (decide (l1.drop i = l2.drop i)), h)
  | 0, i, h1, h2 => by omega
  | m + 1, i, h1, h2 => by
    show s21a5b rec n (s21a5l rec n m) s1 s2 (.i .i64 (i : Int)) h = _
    unfold s21a5b
    simp only [H1.len, bnS, int_lt]
    by_cases hi : i < l1.length
    · have hd : decide ((i : Int) < (l1.length : Int)) = true := by simp; omega
      have g1 : l1[i]? = some l1[i] := by simp [hi]
      have g2 : l2[i]? = some (l2[i]'(by omega)) := by simp [show i < l2.length by omega]
      obtain ⟨p1, a1, b1⟩ := H1.at g1
      obtain ⟨p2, a2, b2⟩ := H2.at g2
      simp only [hd, ifD_t, a1, b1, a2, b2, bnS, str_ne]
      rw [drop_cons g1, drop_cons g2]
      by_cases he : l1[i] = l2[i]'(by omega)
      · have q : eqD l1[i] (l2[i]'(by omega)) = true := by rw [eqD_iff]; exact he
        simp only [q, Bool.not_true, ifD_f, int_add, bnS]
        have hb := H1.1
        have e1 : IntKind.i64.wrap ((i : Int) + Int.ofNat 1) = ((i + 1 : Nat) : Int) := by
          rw [wrap64s _ (by simp; omega) (by simp; omega)]; simp
        rw [e1, s21_loop H1 H2 hl m (i + 1) (by omega) (by omega), dec_cons, decide_eq_true he]
        rfl
      · have q : eqD l1[i] (l2[i]'(by omega)) = false := by rw [eqD_dec]; simp [he]
        simp only [q, Bool.not_false, ifD_t]
        rw [dec_cons, decide_eq_false he]
        rfl
    · have hd : decide ((i : Int) < (l1.length : Int)) = false := by simp; omega
      simp only [hd, ifD_f]
      have e1 : l1.drop i = [] := List.drop_eq_nil_of_le (by omega)
      have e2 : l2.drop i = [] := List.drop_eq_nil_of_le (by omega)
      rw [e1, e2]
      rfl

theorem s21_ok {rec : FuncId → List DV → Hp → Res} {n : Nat} {h : Hp} {s1 s2 : DV} {l1 l2 : List (List Nat)} (H1 : SL h s1 l1) (H2 : SL h s2 l2) (hn : l1.length < n) :
    s21 rec n s1 s2 h = some (.b (decide (l1 = l2)), h) := by
  unfold s21 s21a1
  simp only [H1.len, H2.len, bnS, int_ne]
  by_cases hl : l1.length = l2.length
  · have q : ((l1.length : Int) != (l2.length : Int)) = false := by simp [hl]
    simp only [q, ifD_f]
    show s21a5l rec n n s1 s2 (.i .i64 ((0 : Nat) : Int)) h = _
    rw [s21_loop H1 H2 hl n 0 (by omega) (by omega)]
    simp
  · have q : ((l1.length : Int) != (l2.length : Int)) = true := by simp; omega
    simp only [q, ifD_t]
    have : l1 ≠ l2 := fun e => hl (by rw [e])
    simp [this]

theorem s22_loop {rec : FuncId → List DV → Hp → Res} {n : Nat} {h : Hp} {s1 s2 : DV} {l1 l2 : List (List Nat)} (H1 : SL h s1 l1) (H2 : SL h s2 l2) (hl : l1.length = l2.length) :
    ∀ (m i : Nat), i ≤ l1.length → l1.length < m + i → s22a5l rec n m s1 s2 (.i .i64 (l1.length : Int)) (.i .i64 (i : Int)) h = some (.b (decide (l1.drop i = l2.drop i)), h)
  | 0, i, h1, h2 => by omega
  | m + 1, i, h1, h2 => by
    show s22a5b rec n (s22a5l rec n m) s1 s2 (.i .i64 (l1.length : Int)) (.i .i64 (i : Int)) h = _
    unfold s22a5b
    simp only [bnS, int_lt]
    by_cases hi : i < l1.length
    · have hd : decide ((i : Int) < (l1.length : Int)) = true := by simp; omega
      have g1 : l1[i]? = some l1[i] := by simp [hi]
      have g2 : l2[i]? = some (l2[i]'(by omega)) := by simp [show i < l2.length by omega]
      obtain ⟨p1, a1, b1⟩ := H1.at g1
      obtain ⟨p2, a2, b2⟩ := H2.at g2
      simp only [hd, ifD_t, a1, b1, a2, b2, bnS, str_ne]
      rw [drop_cons g1, drop_cons g2]
      by_cases he : l1[i] = l2[i]'(by omega)
      · have q : eqD l1[i] (l2[i]'(by omega)) = true := by rw [eqD_iff]; exact he
        simp only [q, Bool.not_true, ifD_f, int_add, bnS]
        have hb := H1.1
        have e1 : IntKind.i64.wrap ((i : Int) + Int.ofNat 1) = ((i + 1 : Nat) : Int) := by
          rw [wrap64s _ (by simp; omega) (by simp; omega)]; simp
        rw [e1, s22_loop H1 H2 hl m (i + 1) (by omega) (by omega), dec_cons, decide_eq_true he]
        rfl
      · have q : eqD l1[i] (l2[i]'(by omega)) = false := by rw [eqD_dec]; simp [he]
        simp only [q, Bool.not_false, ifD_t]
        rw [dec_cons, decide_eq_false he]
        rfl
    · have hd : decide ((i : Int) < (l1.length : Int)) = false := by simp; omega
      simp only [hd, ifD_f]
      have e1 : l1.drop i = [] := List.drop_eq_nil_of_le (by omega)
      have e2 : l2.drop i = [] := List.drop_eq_nil_of_le (by omega)
      rw [e1, e2]
      rfl

theorem s22_ok {rec : FuncId → List DV → Hp → Res} {n : Nat} {h : Hp} {s1 s2 : DV} {l1 l2 : List (List Nat)} (H1 : SL h s1 l1) (H2 : SL h s2 l2) (hn : l1.length < n) :
    s22 rec n s1 s2 h = some (.b (decide (l1 = l2)), h) := by
  unfold s22 s22a1
  simp only [H1.len, H2.len, bnS, int_ne]
  by_cases hl : l1.length = l2.length
  · have q : ((l1.length : Int) != (l2.length : Int)) = false := by simp [hl]
    simp only [q, ifD_f]
    unfold s22a2
    simp only [H1.len, bnS]
    show s22a5l rec n n s1 s2 (.i .i64 (l1.length : Int)) (.i .i64 ((0 : Nat) : Int)) h = _
    rw [s22_loop H1 H2 hl n 0 (by omega) (by omega)]
    simp
  · have q : ((l1.length : Int) != (l2.length : Int)) = true := by simp; omega
    simp only [q, ifD_t]
    have : l1 ≠ l2 := fun e => hl (by rw [e])
    simp [this]

theorem enter21 (n : Nat) (x y : DV) (h : Hp) : shD (n + 1) 21 [x, y] h = s21 (shD n) n x y h := by kernel_rfl
theorem enter22 (n : Nat) (x y : DV) (h : Hp) : shD (n + 1) 22 [x, y] h = s22 (shD n) n x y h := by kernel_rfl
theorem enter23 (n : Nat) (x y z : DV) (h : Hp) : shD (n + 1) 23 [x, y, z] h = s23 (shD n) n x y z h := by kernel_rfl
theorem enter11 (n : Nat) (x y : DV) (h : Hp) : shD (n + 1) 11 [x, y] h = s11 (shD n) n x y h := by kernel_rfl
theorem enter13 (n : Nat) (x y : DV) (h : Hp) : shD (n + 1) 13 [x, y] h = s13 (shD n) n x y h := by kernel_rfl
theorem enter14 (n : Nat) (x y : DV) (h : Hp) : shD (n + 1) 14 [x, y] h = s14 (shD n) n x y h := by kernel_rfl

theorem f21_ok {n : Nat} {h : Hp} {s1 s2 : DV} {l1 l2 : List (List Nat)} (H1 : SL h s1 l1) (H2 : SL h s2 l2) (hn : l1.length + 1 < n) : shD n 21 [s1, s2] h = some (.b (decide (l1 = l2)), h) := by
  obtain ⟨n, rfl⟩ : ∃ m, n = m + 1 := ⟨n - 1, by omega⟩
  rw [enter21]
  exact s21_ok H1 H2 (by omega)

theorem f22_ok {n : Nat} {h : Hp} {s1 s2 : DV} {l1 l2 : List (List Nat)} (H1 : SL h s1 l1) (H2 : SL h s2 l2) (hn : l1.length + 1 < n) : shD n 22 [s1, s2] h = some (.b (decide (l1 = l2)), h) := by
  obtain ⟨n, rfl⟩ : ∃ m, n = m + 1 := ⟨n - 1, by omega⟩
  rw [enter22]
  exact s22_ok H1 H2 (by omega)

end Go.Dd

/- Dd, part S2: nodes in a heap of Dd; whether two are the same, by the program and by the document. -/
set_option linter.unusedVariables false
set_option linter.unusedSimpArgs false
set_option maxRecDepth 100000
namespace Go.Dd
open Go.Proofs

/-- A slice of nodes, by the cells of each. -/
def KL (h : Hp) (s : DV) (ks : List (List DV)) : Prop :=
  ks.length ≤ 9223372036854775807 ∧ ((s = .l0 ∧ ks = []) ∨ ∃ (b : Pos) (cap : Nat) (k : Kind) (row : List DV), s = .l b 0 ks.length cap ∧ h.bl.get b = some (.row k row) ∧ ∀ (i : Nat) (x : List DV), ks[i]? = some x → takeD 6 (row.drop (i * 6)) = some x)

theorem KL.mono {h h' : Hp} {s : DV} {l : List (List DV)} (g : Ge h h') (H : KL h s l) : KL h' s l := by
  obtain ⟨h0, H | ⟨b, cap, k, row, e1, e2, e3⟩⟩ := H
  · exact ⟨h0, .inl H⟩
  · exact ⟨h0, .inr ⟨b, cap, k, row, e1, g _ _ e2, e3⟩⟩

theorem KL.one {h : Hp} {s : DV} {l : List (List DV)} (H : KL h s l) : s.one = true := by
  obtain ⟨_, ⟨rfl, _⟩ | ⟨b, cap, k, row, rfl, _⟩⟩ := H <;> rfl

theorem KL.len {h : Hp} {s : DV} {l : List (List DV)} (H : KL h s l) (h' : Hp) : pLen s h' = some (.i .i64 (l.length : Int), h') := by
  obtain ⟨_, ⟨rfl, rfl⟩ | ⟨b, cap, k, row, rfl, _⟩⟩ := H <;> rfl

theorem KL.at {h : Hp} {s : DV} {l : List (List DV)} (H : KL h s l) {i : Nat} {x : List DV} (hi : l[i]? = some x) : ∃ p, (∀ h', pIndexAddr 6 s (.i .i64 (i : Int)) h' = some (p, h')) ∧ ∀ h', Ge h h' → pLoadA 6 p h' = some (.a x, h') := by
  obtain ⟨_, ⟨rfl, rfl⟩ | ⟨b, cap, k, row, rfl, e2, e3⟩⟩ := H
  · simp at hi
  · have hlt : i < l.length := (List.getElem?_eq_some_iff.1 hi).1
    refine ⟨.p b (0 + i * 6), fun h' => ?_, fun h' g => ?_⟩
    · show (if 0 ≤ (i : Int) ∧ (i : Int) < (l.length : Int) then some (DV.p b (0 + (i : Int).toNat * 6), h') else none) = _
      rw [if_pos ⟨by omega, by omega⟩]
      rfl
    · refine ldA (g _ _ e2) ?_
      simpa using e3 i x hi

/-- The cells of a node, so deep. -/
def ND (h : Hp) : Nat → List DV → Prop
  | 0, _ => False
  | d + 1, cs => ∃ (k : Int) (t : List Nat) (m : Int) (s1 s2 s3 : DV) (l1 l2 : List (List Nat)) (ks : List (List DV)), cs = [.i .i64 k, .s t, .i .i64 m, s1, s2, s3] ∧ SL h s1 l1 ∧ SL h s2 l2 ∧ KL h s3 ks ∧ ∀ x ∈ ks, ND h d x

theorem ND.mono {h h' : Hp} (g : Ge h h') : ∀ (d : Nat) (cs : List DV), ND h d cs → ND h' d cs
  | 0, _, H => H
  | d + 1, cs, ⟨k, t, m, s1, s2, s3, l1, l2, ks, e, a, b, c, f⟩ => ⟨k, t, m, s1, s2, s3, l1, l2, ks, e, a.mono g, b.mono g, c.mono g, fun x hx => ND.mono g d x (f x hx)⟩

theorem takeD_one : ∀ (n : Nat) (l x : List DV), takeD n l = some x → ∀ v ∈ x, v.one = true
  | 0, l, x, h, v, hv => by simp [takeD] at h; subst h; simp at hv
  | n + 1, [], x, h, v, hv => by simp [takeD] at h
  | n + 1, y :: l, x, h, v, hv => by
    simp only [takeD] at h
    split at h
    · rename_i hy
      cases h2 : takeD n l with
      | none => rw [h2] at h; simp at h
      | some x2 =>
        rw [h2] at h
        simp at h
        subst h
        rcases List.mem_cons.1 hv with rfl | hv
        · exact hy
        · exact takeD_one n l x2 h2 v hv
    · cases h

/-- What a call that answers a bool comes to. -/
def Ans (r : Bool) (h : Hp) (x : Res) : Prop := ∃ h1, x = some (.b r, h1) ∧ Ge h h1 ∧ Wf h1

def allR (rr : List DV → List DV → Bool) : List (List DV) → List (List DV) → Bool
  | x :: a, y :: b => rr x y && allR rr a b
  | _, _ => true

theorem wrap_succ (i n : Nat) (h : i < n) (hn : n ≤ 9223372036854775807) : IntKind.i64.wrap ((i : Int) + Int.ofNat 1) = ((i + 1 : Nat) : Int) := by
  rw [wrap64s _ (by simp; omega) (by simp; omega)]; simp

theorem s11_loop {rec : FuncId → List DV → Hp → Res} {n : Nat} {h : Hp} {b1 b2 : Pos} {c1 c2 : List DV} {s1 s2 : DV} {k1 k2 : List (List DV)} {rr : List DV → List DV → Bool}
    (G1 : h.bl.get b1 = some (.row .ex c1)) (G2 : h.bl.get b2 = some (.row .ex c2)) (C1 : c1[5]? = some s1) (C2 : c2[5]? = some s2) (H1 : KL h s1 k1) (H2 : KL h s2 k2) (hl : k1.length = k2.length)
    (Hc : ∀ (i : Nat) x y, k1[i]? = some x → k2[i]? = some y → ∀ h', Ge h h' → Wf h' → Ans (rr x y) h' (rec 11 [.a x, .a y] h')) :
    ∀ (m i : Nat) (h' : Hp), i ≤ k1.length → k1.length < m + i → Ge h h' → Wf h' → Ans (allR rr (k1.drop i) (k2.drop i)) h' (s11a7l rec n m (.p b1 0) (.p b2 0) (.i .i64 (i : Int)) h')
  | 0, i, h', h1, h2, g, W => by omega
  | m + 1, i, h', h1, h2, g, W => by
    show Ans _ _ (s11a7b rec n (s11a7l rec n m) (.p b1 0) (.p b2 0) (.i .i64 (i : Int)) h')
    unfold s11a7b
    have L1 : ∀ h'', Ge h h'' → pLoad1 (.p b1 (0 + 5)) h'' = some (s1, h'') := fun h'' g' => ld1 (g' _ _ G1) (by simpa using C1) H1.one
    have L2 : ∀ h'', Ge h h'' → pLoad1 (.p b2 (0 + 5)) h'' = some (s2, h'') := fun h'' g' => ld1 (g' _ _ G2) (by simpa using C2) H2.one
    simp only [fld, bnS, L1 _ g, H1.len, int_lt]
    by_cases hi : i < k1.length
    · have hd : decide ((i : Int) < (k1.length : Int)) = true := by simp; omega
      have g1 : k1[i]? = some k1[i] := by simp [hi]
      have g2 : k2[i]? = some (k2[i]'(by omega)) := by simp [show i < k2.length by omega]
      obtain ⟨p1, a1, e1⟩ := H1.at g1
      obtain ⟨p2, a2, e2⟩ := H2.at g2
      simp only [hd, ifD_t, fld, bnS, L1 _ g, L2 _ g, a1, a2, e1 _ g, e2 _ g]
      obtain ⟨h3, r3, g3, W3⟩ := Hc i _ _ g1 g2 h' g W
      rw [r3, drop_cons g1, drop_cons g2]
      simp only [bnS, not_b, allR]
      cases hq : rr k1[i] (k2[i]'(by omega)) with
      | false =>
        simp only [Bool.not_false, ifD_t, Bool.false_and]
        exact ⟨h3, rfl, g3, W3⟩
      | true =>
        simp only [Bool.not_true, ifD_f, int_add, bnS, Bool.true_and]
        rw [wrap_succ i _ hi H1.1]
        obtain ⟨h4, r4, g4, W4⟩ := s11_loop G1 G2 C1 C2 H1 H2 hl Hc m (i + 1) h3 (by omega) (by omega) (g.trans g3) W3
        exact ⟨h4, r4, g3.trans g4, W4⟩
    · have hd : decide ((i : Int) < (k1.length : Int)) = false := by simp; omega
      simp only [hd, ifD_f]
      rw [List.drop_eq_nil_of_le (show k1.length ≤ i by omega), List.drop_eq_nil_of_le (show k2.length ≤ i by omega)]
      exact ⟨h', rfl, Ge.refl _, W⟩

theorem putD_all : ∀ (l vs : List DV), l.length = vs.length → (∀ v ∈ l, v.one = true) → (∀ v ∈ vs, v.one = true) → putD l vs = some vs
  | [], [], _, _, _ => rfl
  | x :: l, v :: vs, h, h1, h2 => by
    have := putD_all l vs (by simpa using h) (fun y hy => h1 y (by simp [hy])) (fun y hy => h2 y (by simp [hy]))
    simp [putD, this, h1 x (by simp), h2 v (by simp)]
  | [], _ :: _, h, _, _ => by simp at h
  | _ :: _, [], h, _, _ => by simp at h

theorem takeD_len : ∀ (n : Nat) (l x : List DV), takeD n l = some x → x.length = n
  | 0, l, x, h => by simp [takeD] at h; subst h; rfl
  | n + 1, [], x, h => by simp [takeD] at h
  | n + 1, y :: l, x, h => by
    simp only [takeD] at h
    split at h
    · cases h2 : takeD n l with
      | none => rw [h2] at h; simp at h
      | some x2 => rw [h2] at h; simp at h; subst h; simp [takeD_len n l x2 h2]
    · cases h

theorem takeD_all : ∀ (x : List DV), (∀ v ∈ x, v.one = true) → takeD x.length x = some x
  | [], _ => rfl
  | v :: x, h => by simp [takeD, h v (by simp), takeD_all x (fun y hy => h y (by simp [hy]))]

def nz : List DV := [(.i .i64 (Int.ofNat 0)), (.s []), (.i .i64 (Int.ofNat 0)), .l0, .l0, .l0]

/-- A new node, stored over at once. -/
theorem new_store {h : Hp} {x : List DV} (W : Wf h) (hx : x.length = 6) (ho : ∀ v ∈ x, v.one = true) :
    ∃ h', pStore 6 (.p h.next 0) (.a x) (nw (.row .ex nz) h) = some (undefD, h') ∧ Ge h h' ∧ Wf h' ∧ h'.bl.get h.next = some (.row .ex x) ∧ h'.next = h.next.succ := by
  refine ⟨⟨h.next.succ, Tr.set (.row .ex x) h.next (nw (.row .ex nz) h).bl⟩, ?_, ?_, ?_, Tr.get_set_same _ _ _, rfl⟩
  · have hp : putAt 0 nz x = some x := by
      refine putD_all nz x (by rw [hx]; rfl) (by simp [nz, DV.one]) ho
    simp [pStore, cellsD, hx, storeAtD, nw_get, Kind.writable, hp]
    rfl
  · intro b o e
    show (Tr.set _ h.next _).get b = some o
    rw [Tr.get_set_other _ _ _ _ (nw_ne W e)]
    exact nw_ge W _ b o e
  · intro b o e
    show b.toNat < h.next.succ.toNat
    by_cases hb : b = h.next
    · rw [hb, Pos.toNat_succ]; omega
    · have e' : (Tr.set (.row .ex x) h.next (nw (.row .ex nz) h).bl).get b = some o := e
      rw [Tr.get_set_other _ _ _ _ hb] at e'
      exact nw_wf W (.row .ex nz) b o e'

end Go.Dd

/- Dd, part S3: the same nodes, by the program's functions. -/
set_option linter.unusedVariables false
set_option linter.unusedSimpArgs false
set_option maxRecDepth 100000
namespace Go.Dd
open Go.Proofs

theorem call14 (rec : FuncId → List DV → Hp → Res) (x y : DV) (h : Hp) : pCall CF rec (.f 14 [] []) [x, y] h = rec 14 [x, y] h := by kernel_rfl

theorem s23_loop {rec : FuncId → List DV → Hp → Res} {n : Nat} {h : Hp} {s1 s2 : DV} {k1 k2 : List (List DV)} {rr : List DV → List DV → Bool}
    (H1 : KL h s1 k1) (H2 : KL h s2 k2) (hl : k1.length = k2.length) (O1 : ∀ x ∈ k1, x.length = 6 ∧ ∀ v ∈ x, v.one = true) (O2 : ∀ x ∈ k2, x.length = 6 ∧ ∀ v ∈ x, v.one = true)
    (Hc : ∀ (i : Nat) x y, k1[i]? = some x → k2[i]? = some y → ∀ h', Ge h h' → Wf h' → Ans (rr x y) h' (rec 14 [.a x, .a y] h')) :
    ∀ (m i : Nat) (h' : Hp), i ≤ k1.length → k1.length < m + i → Ge h h' → Wf h' → Ans (allR rr (k1.drop i) (k2.drop i)) h' (s23a5l rec n m s2 (.f 14 [] []) s1 (.i .i64 (k1.length : Int)) (.i .i64 (i : Int)) h')
  | 0, i, h', h1, h2, g, W => by omega
  | m + 1, i, h', h1, h2, g, W => by
    show Ans _ _ (s23a5b rec n (s23a5l rec n m) s2 (.f 14 [] []) s1 (.i .i64 (k1.length : Int)) (.i .i64 (i : Int)) h')
    unfold s23a5b
    simp only [bnS, int_lt]
    by_cases hi : i < k1.length
    · have hd : decide ((i : Int) < (k1.length : Int)) = true := by simp; omega
      have g1 : k1[i]? = some k1[i] := by simp [hi]
      have g2 : k2[i]? = some (k2[i]'(by omega)) := by simp [show i < k2.length by omega]
      obtain ⟨p1, a1, e1⟩ := H1.at g1
      obtain ⟨p2, a2, e2⟩ := H2.at g2
      obtain ⟨o1, o1'⟩ := O1 k1[i] (List.getElem_mem hi)
      obtain ⟨o2, o2'⟩ := O2 (k2[i]'(by omega)) (List.getElem_mem _)
      simp only [hd, ifD_t, bnS, a1, e1 _ g, new_a]
      obtain ⟨h5, r5, g5, W5, q5, n5⟩ := new_store (h := h') (x := k1[i]) W o1 o1'
      have r5' : pStore 6 (.p h'.next 0) (.a k1[i]) (nw (.row .ex [(.i .i64 (Int.ofNat 0)), (.s []), (.i .i64 (Int.ofNat 0)), .l0, .l0, .l0]) h') = some (undefD, h5) := r5
      rw [r5']
      simp only [bnS, a2, e2 _ (g.trans g5)]
      obtain ⟨h9, r9, g9, W9, q9, n9⟩ := new_store (h := h5) (x := k2[i]'(by omega)) W5 o2 o2'
      have r9' : pStore 6 (.p h5.next 0) (.a (k2[i]'(by omega))) (nw (.row .ex [(.i .i64 (Int.ofNat 0)), (.s []), (.i .i64 (Int.ofNat 0)), .l0, .l0, .l0]) h5) = some (undefD, h9) := r9
      rw [r9']
      have la : pLoadA 6 (.p h'.next 0) h9 = some (.a k1[i], h9) := ldA (g9 _ _ q5) (by have := takeD_all k1[i] o1'; rw [o1] at this; simpa using this)
      have lb : pLoadA 6 (.p h5.next 0) h9 = some (.a (k2[i]'(by omega)), h9) := ldA q9 (by have := takeD_all (k2[i]'(by omega)) o2'; rw [o2] at this; simpa using this)
      simp only [bnS, la, lb, call14]
      obtain ⟨h3, r3, g3, W3⟩ := Hc i _ _ g1 g2 h9 ((g.trans g5).trans g9) W9
      have gg : Ge h' h3 := (g5.trans g9).trans g3
      rw [r3, drop_cons g1, drop_cons g2]
      simp only [bnS, not_b, allR]
      cases hq : rr k1[i] (k2[i]'(by omega)) with
      | false =>
        simp only [Bool.not_false, ifD_t, Bool.false_and]
        exact ⟨h3, rfl, gg, W3⟩
      | true =>
        simp only [Bool.not_true, ifD_f, int_add, bnS, Bool.true_and]
        rw [wrap_succ i _ hi H1.1]
        obtain ⟨h4, r4, g4, W4⟩ := s23_loop H1 H2 hl O1 O2 Hc m (i + 1) h3 (by omega) (by omega) (g.trans gg) W3
        exact ⟨h4, r4, gg.trans g4, W4⟩
    · have hd : decide ((i : Int) < (k1.length : Int)) = false := by simp; omega
      simp only [hd, ifD_f]
      rw [List.drop_eq_nil_of_le (show k1.length ≤ i by omega), List.drop_eq_nil_of_le (show k2.length ≤ i by omega)]
      exact ⟨h', rfl, Ge.refl _, W⟩

theorem f23_ok {n : Nat} {h : Hp} {s1 s2 : DV} {k1 k2 : List (List DV)} {rr : List DV → List DV → Bool}
    (H1 : KL h s1 k1) (H2 : KL h s2 k2) (O1 : ∀ x ∈ k1, x.length = 6 ∧ ∀ v ∈ x, v.one = true) (O2 : ∀ x ∈ k2, x.length = 6 ∧ ∀ v ∈ x, v.one = true) (hn : k1.length < n) (W : Wf h)
    (Hc : ∀ (i : Nat) x y, k1[i]? = some x → k2[i]? = some y → ∀ h', Ge h h' → Wf h' → Ans (rr x y) h' (shD n 14 [.a x, .a y] h')) :
    Ans (decide (k1.length = k2.length) && allR rr k1 k2) h (shD (n + 1) 23 [s1, s2, .f 14 [] []] h) := by
  rw [enter23]
  unfold s23 s23a1
  simp only [H1.len, H2.len, bnS, int_ne]
  by_cases hl : k1.length = k2.length
  · have q : ((k1.length : Int) != (k2.length : Int)) = false := by simp [hl]
    simp only [q, ifD_f]
    unfold s23a2
    simp only [H1.len, bnS]
    obtain ⟨h4, r4, g4, W4⟩ := s23_loop H1 H2 hl O1 O2 Hc n 0 h (by omega) (by omega) (Ge.refl _) W (n := n)
    refine ⟨h4, ?_, g4, W4⟩
    rw [decide_eq_true hl]
    exact r4
  · have q : ((k1.length : Int) != (k2.length : Int)) = true := by simp; omega
    simp only [q, ifD_t]
    rw [decide_eq_false hl]
    exact ⟨h, rfl, Ge.refl _, W⟩

end Go.Dd

/- Dd, part S4: whether two nodes are the same: the program and the document tell one thing. -/
set_option linter.unusedVariables false
set_option linter.unusedSimpArgs false
set_option maxRecDepth 100000
namespace Go.Dd
open Go.Proofs

/-- What both say. -/
noncomputable def sm (rr : List DV → List DV → Bool) (k k' : Int) (t t' : List Nat) (m m' : Int) (l1 l1' l2 l2' : List (List Nat)) (ks ks' : List (List DV)) : Bool :=
  (k == k') && eqD t t' && (m == m') && decide (l1 = l1') && decide (l2 = l2') && (decide (ks.length = ks'.length) && allR rr ks ks')

theorem step {a : Bool} {h h1 : Hp} {r : Res} {v : DV} {k : DV → Hp → Res} (e : r = some (v, h1)) (H : Ans a h (k v h1)) : Ans a h (bnd r k) := by
  rw [e]; exact H
theorem stepG {a g : Bool} {h h1 h2 : Hp} {r : Res} {v : DV} {k : DV → Hp → Res} (e : r = some (v, h1)) (H : Ans a h (k v h1)) : Ans a h (bnd (gD (.b g) g r h2) k) := by
  have : gD (.b g) g r h2 = r := by cases g <;> rfl
  rw [this, e]; exact H

theorem s14_ok {n : Nat} {h : Hp} {rr : List DV → List DV → Bool} {k k' : Int} {t t' : List Nat} {m m' : Int} {l1 l1' l2 l2' : List (List Nat)} {ks ks' : List (List DV)} {s1 s2 s3 s1' s2' s3' : DV}
    (A1 : SL h s1 l1) (A2 : SL h s2 l2) (A3 : KL h s3 ks) (B1 : SL h s1' l1') (B2 : SL h s2' l2') (B3 : KL h s3' ks')
    (O1 : ∀ x ∈ ks, x.length = 6 ∧ ∀ v ∈ x, v.one = true) (O2 : ∀ x ∈ ks', x.length = 6 ∧ ∀ v ∈ x, v.one = true) (W : Wf h)
    (hn1 : l1.length + 2 < n) (hn2 : l2.length + 2 < n) (hn3 : ks.length + 2 < n)
    (Hc : ∀ (i : Nat) x y, ks[i]? = some x → ks'[i]? = some y → ∀ h', Ge h h' → Wf h' → Ans (rr x y) h' (shD (n - 1) 14 [.a x, .a y] h')) :
    Ans (sm rr k k' t t' m m' l1 l1' l2 l2' ks ks') h (s14 (shD n) n (.a [.i .i64 k, .s t, .i .i64 m, s1, s2, s3]) (.a [.i .i64 k', .s t', .i .i64 m', s1', s2', s3']) h) := by
  unfold s14
  refine step (box_a _ _) ?_
  refine step (box_a _ _) ?_
  generalize hc : [DV.i .i64 k, .s t, .i .i64 m, s1, s2, s3] = c
  generalize hc' : [DV.i .i64 k', .s t', .i .i64 m', s1', s2', s3'] = c'
  generalize hh1 : nw (.row .ex c) h = h1
  have W1 : Wf h1 := hh1 ▸ nw_wf W _
  have G1 : Ge h h1 := hh1 ▸ nw_ge W _
  have q1 : h1.bl.get h.next = some (.row .ex c) := hh1 ▸ nw_get h _
  generalize hh2 : nw (.row .ex c') h1 = h2
  have W2 : Wf h2 := hh2 ▸ nw_wf W1 _
  have G2 : Ge h1 h2 := hh2 ▸ nw_ge W1 _
  have q2 : h2.bl.get h1.next = some (.row .ex c') := hh2 ▸ nw_get h1 _
  have q1 := G2 _ _ q1
  have G := G1.trans G2
  have x0 : pLoad1 (.p h.next (0 + 0)) h2 = some (.i .i64 k, h2) := ld1 q1 (by rw [← hc]; rfl) rfl
  have x1 : pLoad1 (.p h.next (0 + 1)) h2 = some (.s t, h2) := ld1 q1 (by rw [← hc]; rfl) rfl
  have x2 : pLoad1 (.p h.next (0 + 2)) h2 = some (.i .i64 m, h2) := ld1 q1 (by rw [← hc]; rfl) rfl
  have x3 : pLoad1 (.p h.next (0 + 3)) h2 = some (s1, h2) := ld1 q1 (by rw [← hc]; rfl) A1.one
  have x4 : pLoad1 (.p h.next (0 + 4)) h2 = some (s2, h2) := ld1 q1 (by rw [← hc]; rfl) A2.one
  have x5 : pLoad1 (.p h.next (0 + 5)) h2 = some (s3, h2) := ld1 q1 (by rw [← hc]; rfl) A3.one
  have y0 : pLoad1 (.p h1.next (0 + 0)) h2 = some (.i .i64 k', h2) := ld1 q2 (by rw [← hc']; rfl) rfl
  have y1 : pLoad1 (.p h1.next (0 + 1)) h2 = some (.s t', h2) := ld1 q2 (by rw [← hc']; rfl) rfl
  have y2 : pLoad1 (.p h1.next (0 + 2)) h2 = some (.i .i64 m', h2) := ld1 q2 (by rw [← hc']; rfl) rfl
  have y3 : pLoad1 (.p h1.next (0 + 3)) h2 = some (s1', h2) := ld1 q2 (by rw [← hc']; rfl) B1.one
  have y4 : pLoad1 (.p h1.next (0 + 4)) h2 = some (s2', h2) := ld1 q2 (by rw [← hc']; rfl) B2.one
  have y5 : pLoad1 (.p h1.next (0 + 5)) h2 = some (s3', h2) := ld1 q2 (by rw [← hc']; rfl) B3.one
  have z1 : shD n 22 [s1, s1'] h2 = some (.b (decide (l1 = l1')), h2) := f22_ok (A1.mono G) (B1.mono G) (by omega)
  have z2 : shD n 22 [s2, s2'] h2 = some (.b (decide (l2 = l2')), h2) := f22_ok (A2.mono G) (B2.mono G) (by omega)
  have z3 : Ans (decide (ks.length = ks'.length) && allR rr ks ks') h2 (shD n 23 [s3, s3', .f 14 [] []] h2) := by
    obtain ⟨n, rfl⟩ : ∃ m, n = m + 1 := ⟨n - 1, by omega⟩
    exact f23_ok (A3.mono G) (B3.mono G) O1 O2 (by omega) W2 (fun i x y hx hy h' g' W' => Hc i x y hx hy h' (G.trans g') W')
  obtain ⟨h3, r3, g3, W3⟩ := z3
  have GG : Ge h h3 := G.trans g3
  unfold sm
  refine step (fld _ _ _ _) (step x0 (step (fld _ _ _ _) (step y0 (step (int_eq _ _ _) ?_))))
  cases e1 : (k == k') with
  | false =>
    iterate 30 refine step rfl ?_
    exact ⟨h2, rfl, G, W2⟩
  | true =>
  refine stepG (fld _ _ _ _) (stepG x1 (stepG (fld _ _ _ _) (stepG y1 (stepG (str_eq _ _ _) (step (pick_t _ _ _) ?_)))))
  cases e2 : eqD t t' with
  | false =>
    iterate 24 refine step rfl ?_
    exact ⟨h2, rfl, G, W2⟩
  | true =>
  refine stepG (fld _ _ _ _) (stepG x2 (stepG (fld _ _ _ _) (stepG y2 (stepG (int_eq _ _ _) (step (pick_t _ _ _) ?_)))))
  cases e3 : (m == m') with
  | false =>
    iterate 18 refine step rfl ?_
    exact ⟨h2, rfl, G, W2⟩
  | true =>
  refine stepG (fld _ _ _ _) (stepG x3 (stepG (fld _ _ _ _) (stepG y3 (stepG z1 (step (pick_t _ _ _) ?_)))))
  cases e4 : decide (l1 = l1') with
  | false =>
    iterate 12 refine step rfl ?_
    exact ⟨h2, rfl, G, W2⟩
  | true =>
  refine stepG (fld _ _ _ _) (stepG x4 (stepG (fld _ _ _ _) (stepG y4 (stepG z2 (step (pick_t _ _ _) ?_)))))
  cases e5 : decide (l2 = l2') with
  | false =>
    iterate 6 refine step rfl ?_
    exact ⟨h2, rfl, G, W2⟩
  | true =>
  refine stepG (fld _ _ _ _) (stepG x5 (stepG (fld _ _ _ _) (stepG y5 (stepG r3 (step (pick_t _ _ _) ?_)))))
  exact ⟨h3, rfl, GG, W3⟩

end Go.Dd

/- Dd, part S5: the document's Same. -/
set_option linter.unusedVariables false
set_option linter.unusedSimpArgs false
set_option maxRecDepth 100000
namespace Go.Dd
open Go.Proofs

theorem s11_ok {n : Nat} {h : Hp} {rr : List DV → List DV → Bool} {k k' : Int} {t t' : List Nat} {m m' : Int} {l1 l1' l2 l2' : List (List Nat)} {ks ks' : List (List DV)} {s1 s2 s3 s1' s2' s3' : DV}
    (A1 : SL h s1 l1) (A2 : SL h s2 l2) (A3 : KL h s3 ks) (B1 : SL h s1' l1') (B2 : SL h s2' l2') (B3 : KL h s3' ks') (W : Wf h)
    (hn1 : l1.length + 2 < n) (hn2 : l2.length + 2 < n) (hn3 : ks.length + 2 < n)
    (Hc : ∀ (i : Nat) x y, ks[i]? = some x → ks'[i]? = some y → ∀ h', Ge h h' → Wf h' → Ans (rr x y) h' (shD n 11 [.a x, .a y] h')) :
    Ans (sm rr k k' t t' m m' l1 l1' l2 l2' ks ks') h (s11 (shD n) n (.a [.i .i64 k, .s t, .i .i64 m, s1, s2, s3]) (.a [.i .i64 k', .s t', .i .i64 m', s1', s2', s3']) h) := by
  unfold s11
  refine step (box_a _ _) ?_
  refine step (box_a _ _) ?_
  generalize hc : [DV.i .i64 k, .s t, .i .i64 m, s1, s2, s3] = c
  generalize hc' : [DV.i .i64 k', .s t', .i .i64 m', s1', s2', s3'] = c'
  generalize hh1 : nw (.row .ex c) h = h1
  have W1 : Wf h1 := hh1 ▸ nw_wf W _
  have G1 : Ge h h1 := hh1 ▸ nw_ge W _
  have q1 : h1.bl.get h.next = some (.row .ex c) := hh1 ▸ nw_get h _
  generalize hh2 : nw (.row .ex c') h1 = h2
  have W2 : Wf h2 := hh2 ▸ nw_wf W1 _
  have G2 : Ge h1 h2 := hh2 ▸ nw_ge W1 _
  have q2 : h2.bl.get h1.next = some (.row .ex c') := hh2 ▸ nw_get h1 _
  have q1 := G2 _ _ q1
  have G := G1.trans G2
  have x0 : pLoad1 (.p h.next (0 + 0)) h2 = some (.i .i64 k, h2) := ld1 q1 (by rw [← hc]; rfl) rfl
  have x1 : pLoad1 (.p h.next (0 + 1)) h2 = some (.s t, h2) := ld1 q1 (by rw [← hc]; rfl) rfl
  have x2 : pLoad1 (.p h.next (0 + 2)) h2 = some (.i .i64 m, h2) := ld1 q1 (by rw [← hc]; rfl) rfl
  have x3 : pLoad1 (.p h.next (0 + 3)) h2 = some (s1, h2) := ld1 q1 (by rw [← hc]; rfl) A1.one
  have x4 : pLoad1 (.p h.next (0 + 4)) h2 = some (s2, h2) := ld1 q1 (by rw [← hc]; rfl) A2.one
  have x5 : pLoad1 (.p h.next (0 + 5)) h2 = some (s3, h2) := ld1 q1 (by rw [← hc]; rfl) A3.one
  have y0 : pLoad1 (.p h1.next (0 + 0)) h2 = some (.i .i64 k', h2) := ld1 q2 (by rw [← hc']; rfl) rfl
  have y1 : pLoad1 (.p h1.next (0 + 1)) h2 = some (.s t', h2) := ld1 q2 (by rw [← hc']; rfl) rfl
  have y2 : pLoad1 (.p h1.next (0 + 2)) h2 = some (.i .i64 m', h2) := ld1 q2 (by rw [← hc']; rfl) rfl
  have y3 : pLoad1 (.p h1.next (0 + 3)) h2 = some (s1', h2) := ld1 q2 (by rw [← hc']; rfl) B1.one
  have y4 : pLoad1 (.p h1.next (0 + 4)) h2 = some (s2', h2) := ld1 q2 (by rw [← hc']; rfl) B2.one
  have y5 : pLoad1 (.p h1.next (0 + 5)) h2 = some (s3', h2) := ld1 q2 (by rw [← hc']; rfl) B3.one
  have z1 : shD n 21 [s1, s1'] h2 = some (.b (decide (l1 = l1')), h2) := f21_ok (A1.mono G) (B1.mono G) (by omega)
  have z2 : shD n 21 [s2, s2'] h2 = some (.b (decide (l2 = l2')), h2) := f21_ok (A2.mono G) (B2.mono G) (by omega)
  unfold sm s11a1
  refine step (fld _ _ _ _) (step x3 (step (fld _ _ _ _) (step y3 (step z1 ?_))))
  unfold s11a2
  refine step (fld _ _ _ _) (step x4 (step (fld _ _ _ _) (step y4 (step z2 ?_))))
  unfold s11a3
  refine step (not_b _ _) ?_
  cases e4 : decide (l1 = l1') with
  | false =>
    simp only [Bool.and_false, Bool.false_and, Bool.not_false]
    iterate 29 refine step rfl ?_
    exact ⟨h2, rfl, G, W2⟩
  | true =>
  refine stepG rfl (stepG (not_b _ _) (step (pick_f _ _ _) ?_))
  cases e5 : decide (l2 = l2') with
  | false =>
    simp only [Bool.and_false, Bool.false_and, Bool.not_false]
    iterate 26 refine step rfl ?_
    exact ⟨h2, rfl, G, W2⟩
  | true =>
  refine stepG (fld _ _ _ _) (stepG x0 (stepG (fld _ _ _ _) (stepG y0 (stepG (int_ne _ _ _) (step (pick_f _ _ _) ?_)))))
  have ne1 : (k != k') = !(k == k') := rfl
  rw [ne1]
  cases e1 : (k == k') with
  | false =>
    simp only [Bool.and_false, Bool.false_and, Bool.not_false]
    iterate 20 refine step rfl ?_
    exact ⟨h2, rfl, G, W2⟩
  | true =>
  refine stepG (fld _ _ _ _) (stepG x1 (stepG (fld _ _ _ _) (stepG y1 (stepG (str_ne _ _ _) (step (pick_f _ _ _) ?_)))))
  cases e2 : eqD t t' with
  | false =>
    simp only [Bool.and_false, Bool.false_and, Bool.not_false]
    iterate 14 refine step rfl ?_
    exact ⟨h2, rfl, G, W2⟩
  | true =>
  refine stepG (fld _ _ _ _) (stepG x2 (stepG (fld _ _ _ _) (stepG y2 (stepG (int_ne _ _ _) (step (pick_f _ _ _) ?_)))))
  have ne2 : (m != m') = !(m == m') := rfl
  rw [ne2]
  cases e3 : (m == m') with
  | false =>
    simp only [Bool.and_false, Bool.false_and, Bool.not_false]
    iterate 8 refine step rfl ?_
    exact ⟨h2, rfl, G, W2⟩
  | true =>
  refine stepG (fld _ _ _ _) (stepG x5 (stepG (A3.len _) (stepG (fld _ _ _ _) (stepG y5 (stepG (B3.len _) (stepG (int_ne _ _ _) (step (pick_f _ _ _) ?_)))))))
  by_cases hl : ks.length = ks'.length
  · have q : ((ks.length : Int) != (ks'.length : Int)) = false := by simp [hl]
    rw [q, decide_eq_true hl]
    obtain ⟨h4, r4, g4, W4⟩ := s11_loop (n := n) (b1 := h.next) (b2 := h1.next) (c1 := c) (c2 := c') q1 q2 (by rw [← hc]; rfl) (by rw [← hc']; rfl) (A3.mono G) (B3.mono G) hl (fun i x y hx hy h' g' W' => Hc i x y hx hy h' (G.trans g') W') n 0 h2 (by omega) (by omega) (Ge.refl _) W2
    exact ⟨h4, r4, G.trans g4, W4⟩
  · have q : ((ks.length : Int) != (ks'.length : Int)) = true := by simp; omega
    rw [q, decide_eq_false hl]
    exact ⟨h2, rfl, G, W2⟩

end Go.Dd

/- Dd, part S6: both tell one thing, whatever the two nodes are; and a node is the same as itself. -/
set_option linter.unusedVariables false
set_option linter.unusedSimpArgs false
set_option maxRecDepth 100000
namespace Go.Dd
open Go.Proofs

def Both (h : Hp) (r : Bool) (N : Nat) (x y : List DV) : Prop :=
  ∀ h' n, Ge h h' → Wf h' → N ≤ n → Ans r h' (shD n 14 [.a x, .a y] h') ∧ Ans r h' (shD n 11 [.a x, .a y] h')

def Says (h : Hp) (x y : List DV) (r : Bool) : Prop := (∃ N, Both h r N x y) ∧ (x = y → r = true)

theorem ND.shape {h : Hp} : ∀ {d : Nat} {x : List DV}, ND h d x → x.length = 6 ∧ ∀ v ∈ x, v.one = true
  | 0, x, H => H.elim
  | d + 1, x, ⟨k, t, m, s1, s2, s3, l1, l2, ks, e, a, b, c, f⟩ => by
    subst e
    refine ⟨rfl, fun v hv => ?_⟩
    simp only [List.mem_cons, List.not_mem_nil, or_false] at hv
    rcases hv with rfl | rfl | rfl | rfl | rfl | rfl
    · rfl
    · rfl
    · rfl
    · exact a.one
    · exact b.one
    · exact c.one

/-- One bound for many calls. -/
theorem bound_all {h : Hp} {rr : List DV → List DV → Bool} : ∀ (k1 k2 : List (List DV)), (∀ x ∈ k1, ∀ y ∈ k2, ∃ N, Both h (rr x y) N x y) →
    ∃ N, ∀ (i : Nat) x y, k1[i]? = some x → k2[i]? = some y → Both h (rr x y) N x y
  | [], k2, _ => ⟨0, fun i x y hx => by simp at hx⟩
  | x :: k1, [], _ => ⟨0, fun i x y _ hy => by simp at hy⟩
  | x :: k1, y :: k2, H => by
    obtain ⟨N1, h1⟩ := bound_all k1 k2 (fun a ha b hb => H a (by simp [ha]) b (by simp [hb]))
    obtain ⟨N2, h2⟩ := H x (by simp) y (by simp)
    refine ⟨max N1 N2, fun i a b ha hb => ?_⟩
    cases i with
    | zero =>
      simp at ha hb
      subst ha; subst hb
      exact fun h' n g W hn => h2 h' n g W (by omega)
    | succ i =>
      simp at ha hb
      exact fun h' n g W hn => h1 i a b ha hb h' n g W (by omega)

theorem allR_self {rr : List DV → List DV → Bool} : ∀ (k : List (List DV)), (∀ x ∈ k, rr x x = true) → allR rr k k = true
  | [], _ => rfl
  | x :: k, H => by simp [allR, H x (by simp), allR_self k (fun y hy => H y (by simp [hy]))]

theorem SL.det {h : Hp} {s : DV} {l l' : List (List Nat)} (H : SL h s l) (H' : SL h s l') : l = l' := by
  obtain ⟨_, ⟨rfl, rfl⟩ | ⟨b, cap, k, row, rfl, e2, e3⟩⟩ := H
  · obtain ⟨_, ⟨_, rfl⟩ | ⟨b, cap, k, row, h1, _⟩⟩ := H'
    · rfl
    · cases h1
  · obtain ⟨_, ⟨h1, _⟩ | ⟨b', cap', k', row', h1, f2, f3⟩⟩ := H'
    · cases h1
    · simp only [DV.l.injEq] at h1
      obtain ⟨rfl, _, hl, _⟩ := h1
      rw [e2] at f2
      cases f2
      refine List.ext_getElem hl fun i hi hi' => ?_
      have a := e3 i l[i] (by simp [hi])
      have b := f3 i l'[i] (by simp [hi'])
      rw [a] at b
      simpa using b

theorem KL.det {h : Hp} {s : DV} {l l' : List (List DV)} (H : KL h s l) (H' : KL h s l') : l = l' := by
  obtain ⟨_, ⟨rfl, rfl⟩ | ⟨b, cap, k, row, rfl, e2, e3⟩⟩ := H
  · obtain ⟨_, ⟨_, rfl⟩ | ⟨b, cap, k, row, h1, _⟩⟩ := H'
    · rfl
    · cases h1
  · obtain ⟨_, ⟨h1, _⟩ | ⟨b', cap', k', row', h1, f2, f3⟩⟩ := H'
    · cases h1
    · simp only [DV.l.injEq] at h1
      obtain ⟨rfl, _, hl, _⟩ := h1
      rw [e2] at f2
      cases f2
      refine List.ext_getElem hl fun i hi hi' => ?_
      have a := e3 i l[i] (by simp [hi])
      have b := f3 i l'[i] (by simp [hi'])
      rw [a] at b
      simpa using b

theorem says : ∀ (d : Nat) (h : Hp) (x y : List DV), ND h d x → ND h d y → ∃ r, Says h x y r
  | 0, h, x, y, H, _ => H.elim
  | d + 1, h, x, y, ⟨k, t, m, s1, s2, s3, l1, l2, ks, e, a, b, c, f⟩, ⟨k', t', m', s1', s2', s3', l1', l2', ks', e', a', b', c', f'⟩ => by
    classical
    have ih : ∀ u v, ∃ r, ND h d u → ND h d v → Says h u v r := fun u v => by
      by_cases hu : ND h d u
      · by_cases hv : ND h d v
        · obtain ⟨r, hr⟩ := says d h u v hu hv
          exact ⟨r, fun _ _ => hr⟩
        · exact ⟨true, fun _ h2 => absurd h2 hv⟩
      · exact ⟨true, fun h1 => absurd h1 hu⟩
    obtain ⟨rr, hrr⟩ : ∃ rr : List DV → List DV → Bool, ∀ u v, ND h d u → ND h d v → Says h u v (rr u v) :=
      ⟨fun u v => Classical.choose (ih u v), fun u v => Classical.choose_spec (ih u v)⟩
    obtain ⟨N, hN⟩ := bound_all (h := h) (rr := rr) ks ks' (fun u hu v hv => (hrr u v (f u hu) (f' v hv)).1)
    refine ⟨sm rr k k' t t' m m' l1 l1' l2 l2' ks ks', ⟨N + l1.length + l2.length + ks.length + 5, ?_⟩, ?_⟩
    · intro h' n g W hn
      obtain ⟨n, rfl⟩ : ∃ p, n = p + 1 := ⟨n - 1, by omega⟩
      subst e; subst e'
      have A1 := a.mono g
      have A2 := b.mono g
      have A3 := c.mono g
      have B1 := a'.mono g
      have B2 := b'.mono g
      have B3 := c'.mono g
      rw [enter14, enter11]
      exact ⟨s14_ok A1 A2 A3 B1 B2 B3 (fun u hu => (f u hu).shape) (fun u hu => (f' u hu).shape) W (by omega) (by omega) (by omega)
          (fun i u v hu hv h2 g2 W2 => (hN i u v hu hv h2 (n - 1) (g.trans g2) W2 (by omega)).1),
        s11_ok A1 A2 A3 B1 B2 B3 W (by omega) (by omega) (by omega)
          (fun i u v hu hv h2 g2 W2 => (hN i u v hu hv h2 n (g.trans g2) W2 (by omega)).2)⟩
    · intro exy
      rw [e, e'] at exy
      simp only [List.cons.injEq, DV.i.injEq, DV.s.injEq, true_and, and_true] at exy
      obtain ⟨rfl, rfl, rfl, rfl, rfl, rfl⟩ := exy
      obtain rfl := a.det a'
      obtain rfl := b.det b'
      obtain rfl := c.det c'
      have q : eqD t t = true := by rw [eqD_iff]
      have q2 : allR rr ks ks = true := allR_self ks (fun u hu => (hrr u u (f u hu) (f u hu)).2 rfl)
      simp [sm, q, q2]

end Go.Dd

/- Dd, part S7: Few answers a number. -/
set_option linter.unusedVariables false
set_option linter.unusedSimpArgs false
set_option maxRecDepth 100000
namespace Go.Dd
open Go.Proofs

/-- A call answers some int. -/
def AnsI (h : Hp) (x : Res) : Prop := ∃ (q : Int) (h1 : Hp), x = some (.i .i64 q, h1) ∧ Ge h h1 ∧ Wf h1

theorem stepI {h h1 : Hp} {r : Res} {v : DV} {k : DV → Hp → Res} (e : r = some (v, h1)) (H : AnsI h (k v h1)) : AnsI h (bnd r k) := by
  rw [e]; exact H

theorem s13_loop {rec : FuncId → List DV → Hp → Res} {n : Nat} {h : Hp} {b1 : Pos} {c1 : List DV} {s1 : DV} {k1 : List (List DV)} {mo : Int}
    (G1 : h.bl.get b1 = some (.row .ex c1)) (C1 : c1[5]? = some s1) (H1 : KL h s1 k1)
    (Hc : ∀ (i : Nat) x, k1[i]? = some x → ∀ h' q, Ge h h' → Wf h' → AnsI h' (rec 13 [.a x, .i .i64 q] h')) :
    ∀ (m i : Nat) (h' : Hp) (q : Int), i ≤ k1.length → k1.length < m + i → Ge h h' → Wf h' → AnsI h' (s13a5l rec n m (.i .i64 mo) (.p b1 0) (.i .i64 q) (.i .i64 (i : Int)) h')
  | 0, i, h', q, h1, h2, g, W => by omega
  | m + 1, i, h', q, h1, h2, g, W => by
    show AnsI _ (s13a5b rec n (s13a5l rec n m) (.i .i64 mo) (.p b1 0) (.i .i64 q) (.i .i64 (i : Int)) h')
    unfold s13a5b
    have L1 : ∀ h'', Ge h h'' → pLoad1 (.p b1 (0 + 5)) h'' = some (s1, h'') := fun h'' g' => ld1 (g' _ _ G1) (by simpa using C1) H1.one
    refine stepI (fld _ _ _ _) (stepI (L1 _ g) (stepI (H1.len _) (stepI (int_lt _ _ _) ?_)))
    by_cases hi : i < k1.length
    · have hd : decide ((i : Int) < (k1.length : Int)) = true := by simp; omega
      have g1 : k1[i]? = some k1[i] := by simp [hi]
      obtain ⟨p1, a1, e1⟩ := H1.at g1
      rw [hd, ifD_t]
      refine stepI (int_ge _ _ _) ?_
      cases decide (q ≥ mo) with
      | true => exact ⟨_, h', rfl, Ge.refl _, W⟩
      | false =>
      rw [ifD_f]
      refine stepI (fld _ _ _ _) (stepI (L1 _ g) (stepI (a1 _) (stepI (e1 _ g) (stepI (int_sub _ _ _) ?_))))
      obtain ⟨q3, h3, r3, g3, W3⟩ := Hc i _ g1 h' (IntKind.i64.wrap (mo - q)) g W
      refine stepI r3 (stepI (int_lt _ _ _) ?_)
      cases decide (q3 < Int.ofNat 0) with
      | true => exact ⟨_, h3, rfl, g3, W3⟩
      | false =>
      rw [ifD_f]
      refine stepI (int_add _ _ _) (stepI (int_add _ _ _) ?_)
      rw [wrap_succ i _ hi H1.1]
      obtain ⟨q4, h4, r4, g4, W4⟩ := s13_loop G1 C1 H1 Hc m (i + 1) h3 (IntKind.i64.wrap (q + q3)) (by omega) (by omega) (g.trans g3) W3
      exact ⟨q4, h4, r4, g3.trans g4, W4⟩
    · have hd : decide ((i : Int) < (k1.length : Int)) = false := by simp; omega
      rw [hd, ifD_f]
      unfold s13a3
      refine stepI (int_gt _ _ _) ?_
      cases decide (q > mo) with
      | true => exact ⟨_, h', rfl, Ge.refl _, W⟩
      | false => exact ⟨_, h', rfl, Ge.refl _, W⟩

theorem few_bound {h : Hp} : ∀ (k1 : List (List DV)), (∀ x ∈ k1, ∃ N, ∀ h' n q, Ge h h' → Wf h' → N ≤ n → AnsI h' (shD n 13 [.a x, .i .i64 q] h')) →
    ∃ N, ∀ x ∈ k1, ∀ h' n q, Ge h h' → Wf h' → N ≤ n → AnsI h' (shD n 13 [.a x, .i .i64 q] h')
  | [], _ => ⟨0, fun x hx => by simp at hx⟩
  | x :: k1, H => by
    obtain ⟨N1, h1⟩ := few_bound k1 (fun a ha => H a (by simp [ha]))
    obtain ⟨N2, h2⟩ := H x (by simp)
    refine ⟨max N1 N2, fun a ha h' n q g W hn => ?_⟩
    rcases List.mem_cons.1 ha with rfl | ha
    · exact h2 h' n q g W (by omega)
    · exact h1 a ha h' n q g W (by omega)

theorem few : ∀ (d : Nat) (h : Hp) (x : List DV), ND h d x → ∃ N, ∀ h' n q, Ge h h' → Wf h' → N ≤ n → AnsI h' (shD n 13 [.a x, .i .i64 q] h')
  | 0, h, x, H => H.elim
  | d + 1, h, x, ⟨k, t, m, s1, s2, s3, l1, l2, ks, e, a, b, c, f⟩ => by
    obtain ⟨N, hN⟩ := few_bound (h := h) ks (fun u hu => few d h u (f u hu))
    refine ⟨N + ks.length + 5, fun h' n q g W hn => ?_⟩
    obtain ⟨n, rfl⟩ : ∃ p, n = p + 1 := ⟨n - 1, by omega⟩
    subst e
    rw [enter13]
    unfold s13
    refine stepI (box_a _ _) ?_
    have W1 := nw_wf W (.row .ex [.i .i64 k, .s t, .i .i64 m, s1, s2, s3])
    have G1 := nw_ge W (.row .ex [.i .i64 k, .s t, .i .i64 m, s1, s2, s3])
    have A3 := (c.mono g).mono G1
    obtain ⟨q4, h4, r4, g4, W4⟩ := s13_loop (rec := shD n) (n := n) (mo := q) (nw_get h' _) rfl A3
      (fun i u hu h2 q2 g2 W2 => hN u (List.mem_of_getElem? hu) h2 n q2 ((g.trans G1).trans g2) W2 (by omega)) n 0 _ (Int.ofNat 1) (by omega) (by omega) (Ge.refl _) W1
    exact ⟨q4, h4, r4, G1.trans g4, W4⟩

end Go.Dd

/- Dd, part S8: a closed call stands wherever it is called: lives. -/
set_option linter.unusedVariables false
set_option linter.unusedSimpArgs false
set_option maxRecDepth 100000
namespace Go.Dd
open Go.Proofs Go.RowKit

theorem HR.later {G : Gd} {ρ : Ren} {h : Hp} {w w' : World} (H : HR G ρ h w) (e : Below w.heap.size w w') : HR G ρ h w' where
  sz := ⟨Nat.le_trans H.sz.1 e.size, fun k hk => Nat.lt_of_lt_of_le (H.sz.2 k hk) e.size⟩
  nx := H.nx
  ro := H.ro
  dom := H.dom
  lt := H.lt
  cell := fun b k l L i v h1 h2 h3 h4 => by
    obtain ⟨v', h5, h6⟩ := H.cell b k l L i v h1 h2 h3 h4
    exact ⟨v', by rw [e.cell (cell_lt h5)]; exact h5, h6⟩
  spare := fun b l L es j h1 h2 h3 => by
    obtain ⟨v', h5⟩ := H.spare b l L es j h1 h2 h3
    exact ⟨v', by rw [e.cell (cell_lt h5)]; exact h5⟩
  free := fun b a h1 h2 => by
    obtain ⟨v, hv⟩ := H.lt_cell h1
    rw [e.frozen (cell_lt hv)]
    exact H.free b a h1 h2
  inj := H.inj
  ex := H.ex
  grone := H.grone
  itr := fun b s pos L h1 h2 => by
    obtain ⟨a, b, bs, c, d⟩ := H.itr b s pos L h1 h2
    refine ⟨a, b, bs, ?_, d⟩
    rw [e.block _ (Array.getElem?_eq_some_iff.1 c).1]
    exact c
  itj := H.itj

theorem Kp.later {G : Gd} {ρ : Ren} {h : Hp} {w w' : World} (H : HR G ρ h w) (e : Below w.heap.size w w') : Kp G w w' :=
  ⟨e.mono H.sz.1, fun k hk => e.block k (H.sz.2 k hk)⟩

/-- What a closed call that answers a bool does to any heap: nothing. -/
theorem closed_ok {n : Nat} {f : FuncId} {r : Bool} {h1 : Hp} (hr : shD n f [] h00 = some (.b r, h1)) (fn : Func) (hf : Try.prog.funcs[f]? = some fn) (hb : fn.body.isSome = true) (G : Gd) :
    FnOk CF.P G f (fun args h => match args with
      | [] => some (.b r, h)
      | _ => none) := by
  intro args h v h2 he ρ w args' H hargs
  cases args with
  | cons _ _ => cases he
  | nil =>
    simp only [Option.some.injEq, Prod.mk.injEq] at he
    obtain ⟨rfl, rfl⟩ := he
    have e0 : args' = #[] := by
      obtain ⟨a⟩ := args'
      cases hargs
      rfl
    subst e0
    refine .inl ⟨?_, ?_⟩
    · have hf' : CF.P.funcs[f]? = some fn := hf
      have hn : ¬ fn.name = "runtime.NumGoroutine" := by simpa using Try_ok.names f fn hf'
      have hbn : fn.body ≠ none := by intro e; rw [e] at hb; cases hb
      unfold callFunc
      simp [hf', hn, hbn]
    · refine (top hr fn hf hb w #[] .nil).mono ?_
      rintro e w' ⟨ρ', v', rfl, hv, _, hbel⟩
      cases hv
      exact ⟨ρ, _, rfl, Ex.refl _ _, .b _, H.later hbel, Kp.later H hbel⟩

/-- The calls of a body, one of them by its answer. -/
noncomputable def recL (l : FuncId) (r : Bool) (n : Nat) : FuncId → List DV → Hp → Res := fun g =>
  bif Nat.beq g l then (fun args h => match args with
      | [] => some (.b r, h)
      | _ => none) else shD n g

theorem recL_ok {n m : Nat} {f : FuncId} {r : Bool} {h1 : Hp} (hr : shD m f [] h00 = some (.b r, h1)) (fn : Func) (hf : Try.prog.funcs[f]? = some fn) (hb : fn.body.isSome = true) : OkC CF (recL f r n) := by
  refine ⟨CF_own, fun G g => ?_⟩
  unfold recL
  cases hg : Nat.beq g f with
  | true =>
    cases Nat.eq_of_beq_eq_true hg
    exact closed_ok hr fn hf hb G
  | false =>
    show FnOk CF.P G g (shD n g)
    rw [shD_eq]
    exact fnD_ok Try_ok CF_own n G g

theorem recL_self (l : FuncId) (r : Bool) (n : Nat) (h : Hp) : recL l r n l [] h = some (.b r, h) := by
  unfold recL
  rw [show Nat.beq l l = true from by simp]
  rfl

theorem recL_other {l g : FuncId} (r : Bool) (n : Nat) (e : Nat.beq g l = false) : recL l r n g = shD n g := by
  unfold recL
  rw [e]
  rfl

end Go.Dd

/- Dd, part S9: ParseSame answers true, for any two nodes in a heap of Dd. -/
set_option linter.unusedVariables false
set_option linter.unusedSimpArgs false
set_option maxRecDepth 100000
namespace Go.Dd
open Go.Proofs

theorem eqD_self (t : List Nat) : eqD t t = true := by rw [eqD_iff]

theorem beq_slice {s : DV} (h : s = .l0 ∨ ∃ b o n c, s = .l b o n c) : DV.beq s s = true := by
  rcases h with rfl | ⟨b, o, n, c, rfl⟩
  · rfl
  · simp [DV.beq]

theorem SL.form {h : Hp} {s : DV} {l : List (List Nat)} (H : SL h s l) : s = .l0 ∨ ∃ b o n c, s = .l b o n c := by
  obtain ⟨_, ⟨rfl, _⟩ | ⟨b, cap, k, row, rfl, _⟩⟩ := H
  · exact .inl rfl
  · exact .inr ⟨_, _, _, _, rfl⟩

theorem KL.form {h : Hp} {s : DV} {l : List (List DV)} (H : KL h s l) : s = .l0 ∨ ∃ b o n c, s = .l b o n c := by
  obtain ⟨_, ⟨rfl, _⟩ | ⟨b, cap, k, row, rfl, _⟩⟩ := H
  · exact .inl rfl
  · exact .inr ⟨_, _, _, _, rfl⟩

theorem ND.beq {h : Hp} : ∀ {d : Nat} {x : List DV}, ND h d x → DV.beq (.a x) (.a x) = true
  | 0, x, H => H.elim
  | d + 1, x, ⟨k, t, m, s1, s2, s3, l1, l2, ks, e, a, b, c, f⟩ => by
    subst e
    simp [DV.beq, DV.beqs, eqD_self, beq_slice a.form, beq_slice b.form, beq_slice c.form]

theorem stepT {a : Bool} {h h1 : Hp} {r : Res} {v : DV} {k : DV → Hp → Res} (g : Ge h h1) (W : Wf h1) (e : r = some (v, h1)) (H : Ans a h1 (k v h1)) : Ans a h (bnd r k) := by
  obtain ⟨h2, q, g2, W2⟩ := H
  exact ⟨h2, by rw [e]; exact q, g.trans g2, W2⟩

theorem Ans.back {a : Bool} {h h1 : Hp} {r : Res} (g : Ge h h1) (H : Ans a h1 r) : Ans a h r := by
  obtain ⟨h2, q, g2, W2⟩ := H
  exact ⟨h2, q, g.trans g2, W2⟩

theorem stepGT {a g : Bool} {h h1 h2 : Hp} {r : Res} {v : DV} {k : DV → Hp → Res} (e : r = some (v, h1)) (H : Ans a h (k v h1)) : Ans a h (bnd (gD (.b g) g r h2) k) := stepG e H

theorem s6_ok {d : Nat} {h : Hp} {x y : List DV} (W : Wf h) (Hx : ND h d x) (Hy : ND h d y) : ∃ N, ∀ n, N ≤ n → Ans true h (s6 (recL 9 true n) n (.a x) (.a y) h) := by
  obtain ⟨N1, F1⟩ := few d h x Hx
  obtain ⟨N2, F2⟩ := few d h y Hy
  obtain ⟨r, ⟨N3, B3⟩, _⟩ := says d h x y Hx Hy
  obtain ⟨r', ⟨N4, B4⟩, er⟩ := says d h x x Hx Hx
  obtain rfl := er rfl
  refine ⟨N1 + N2 + N3 + N4, fun n hn => ?_⟩
  have e13 : recL 9 true n 13 = shD n 13 := recL_other true n rfl
  have e14 : recL 9 true n 14 = shD n 14 := recL_other true n rfl
  have e11 : recL 9 true n 11 = shD n 11 := recL_other true n rfl
  unfold s6
  rw [e13, e14, e11]
  obtain ⟨lx, ox⟩ := Hx.shape
  obtain ⟨ly, oy⟩ := Hy.shape
  have bx := Hx.beq
  have by' := Hy.beq
  refine step (box_a _ _) (step (box_a _ _) ?_)
  generalize hh1 : nw (.row .ex x) h = h1
  have W1 : Wf h1 := hh1 ▸ nw_wf W _
  have G1 : Ge h h1 := hh1 ▸ nw_ge W _
  have q1 : h1.bl.get h.next = some (.row .ex x) := hh1 ▸ nw_get h _
  generalize hh2 : nw (.row .ex y) h1 = h2
  have W2 : Wf h2 := hh2 ▸ nw_wf W1 _
  have G2 : Ge h1 h2 := hh2 ▸ nw_ge W1 _
  have q2 : h2.bl.get h1.next = some (.row .ex y) := hh2 ▸ nw_get h1 _
  have q1 := G2 _ _ q1
  have g2 := G1.trans G2
  have L1 : ∀ h', Ge h2 h' → pLoadA 6 (.p h.next 0) h' = some (.a x, h') := fun h' g => ldA (g _ _ q1) (by have := takeD_all x ox; rw [lx] at this; simpa using this)
  have L2 : ∀ h', Ge h2 h' → pLoadA 6 (.p h1.next 0) h' = some (.a y, h') := fun h' g => ldA (g _ _ q2) (by have := takeD_all y oy; rw [ly] at this; simpa using this)
  refine step (L1 _ (Ge.refl _)) ?_
  obtain ⟨q3, h4, r4, g4, W4⟩ := F1 h2 n (Int.ofNat 100) g2 W2 (by omega)
  refine step r4 (step (int_lt _ _ _) ?_)
  have live : ∀ h', Ge h h' → Wf h' → Ans true h (bnd (recL 9 true n 9 [] h') fun v10 h10 => some (v10, h10)) := fun h' g W' => step (recL_self 9 true n h') ⟨h', rfl, g, W'⟩
  cases decide (q3 < Int.ofNat 0) with
  | true => exact step (gD_tf _ _) (step (gD_tf _ _) (step (gD_tf _ _) (step (pick_t _ _ _) (live h4 (g2.trans g4) W4))))
  | false =>
  refine stepG (L2 _ g4) ?_
  obtain ⟨q5, h5, r5, g5, W5⟩ := F2 h4 n (Int.ofNat 100) (g2.trans g4) W4 (by omega)
  refine stepG r5 (stepG (int_lt _ _ _) (step (pick_f _ _ _) ?_))
  have g45 := g4.trans g5
  cases decide (q5 < Int.ofNat 0) with
  | true => exact live h5 (g2.trans g45) W5
  | false =>
  rw [ifD_f]
  refine step (L1 _ g45) (step (L2 _ g45) ?_)
  obtain ⟨⟨h6, r6, g6, W6⟩, _⟩ := B3 h5 n (g2.trans g45) W5 (by omega)
  refine step r6 (step (L1 _ (g45.trans g6)) ?_)
  rw [L1 _ g45]
  have sx : sameR (some (DV.a x, h5)) (.a x) = true := bx
  rw [sx]
  show Ans true h (bnd (pLoadA 6 (.p h1.next 0) h6) _)
  refine step (L2 _ (g45.trans g6)) ?_
  rw [L2 _ g45]
  have sy : sameR (some (DV.a y, h5)) (.a y) = true := by'
  rw [sy]
  show Ans true h (bnd (shD n 11 [.a x, .a y] h6) _)
  obtain ⟨_, ⟨h7, r7, g7, W7⟩⟩ := B3 h6 n ((g2.trans g45).trans g6) W6 (by omega)
  have g7' := (g45.trans g6).trans g7
  refine step r7 ?_
  have eb : pEq .bool true (.b r) (.b r) h7 = some (.b true, h7) := by cases r <;> rfl
  refine step eb (stepG (L1 _ g7') (stepG (L1 _ g7') ?_))
  obtain ⟨⟨h8, r8, g8, W8⟩, _⟩ := B4 h7 n (g2.trans g7') W7 (by omega)
  refine stepG r8 (step (pick_t _ _ _) (stepG (recL_self 9 true n h8) (step (pick_t _ _ _) ?_)))
  exact ⟨h8, rfl, (g2.trans g7').trans g8, W8⟩

theorem lives9 : ∃ h1, shD 900 9 [] h00 = some (.b true, h1) := val_b (by kernel_rfl)

end Go.Dd

/- Dd, part S10: what is handed in, as rows of a heap of Dd that are only read: nodes. -/
set_option linter.unusedVariables false
set_option linter.unusedSimpArgs false
set_option maxRecDepth 100000
namespace Go.Dd
open Go.Proofs Go.RowKit

/-- A heap of rows that are only read. -/
structure Ro (w : World) (ρ : Ren) (h : Hp) : Prop where
  dom : ∀ b o, h.bl.get b = some o → ∃ L, ρ b = some L
  lt : ∀ b L, ρ b = some L → b.toNat < h.next.toNat
  row : ∀ b o, h.bl.get b = some o → ∃ l, o = .row .ro l
  cell : ∀ b l L i v, h.bl.get b = some (.row .ro l) → ρ b = some L → l[i]? = some v → ∃ v', w.cell? (adr L i) = some v' ∧ VR ρ v v'
  sp : ∀ b o L, h.bl.get b = some o → ρ b = some L → L.sp = 0

theorem Ro.wf {w : World} {ρ : Ren} {h : Hp} (R : Ro w ρ h) : Wf h := fun b o e => by
  obtain ⟨L, hL⟩ := R.dom b o e
  exact R.lt b L hL

theorem Ro.isRo {w : World} {ρ : Ren} {h : Hp} (R : Ro w ρ h) {b : Pos} {a : Addr} (c : Claims ρ h b a) : isRo h b := by
  obtain ⟨k, l, L, h1, h2, _⟩ := c
  obtain ⟨l', e⟩ := R.row b _ h1
  exact ⟨l', by rw [h1, e]⟩

theorem Ro.hr {w : World} {ρ : Ren} {h : Hp} (R : Ro w ρ h) : HR ⟨w.heap.size, fun _ => False, 0⟩ ρ h w where
  sz := ⟨Nat.le_refl _, fun _ hh => hh.elim⟩
  nx := Nat.zero_le _
  ro := fun b a c _ => by
    obtain ⟨k, l, L, h1, h2, h3⟩ := c
    obtain ⟨l', e⟩ := R.row b _ h1
    cases e
    rcases h3 with ⟨i, v, h4, h5, rfl⟩ | ⟨es, j, h4, _⟩
    · obtain ⟨v', h6, _⟩ := R.cell b _ L i v h1 h2 h4
      exact cell_lt h6
    · cases h4
  dom := R.dom
  lt := R.lt
  cell := fun b k l L i v h1 h2 h3 h4 => by
    obtain ⟨l', e⟩ := R.row b _ h1
    cases e
    exact R.cell b _ L i v h1 h2 h3
  spare := fun b l L es j h1 => by
    obtain ⟨l', e⟩ := R.row b _ h1
    cases e
  free := fun b a c hn => absurd (R.isRo c) hn
  inj := fun b b' a c c' hn => absurd (R.isRo c) hn
  ex := fun b l L h1 h2 => by
    rcases h1 with h1 | h1
    · exact R.sp b _ L h1 h2
    · exact R.sp b _ L h1 h2
  grone := fun b es l i v h1 => by
    obtain ⟨l', e⟩ := R.row b _ h1
    cases e
  itr := fun b s pos L h1 => by
    obtain ⟨l', e⟩ := R.row b _ h1
    cases e
  itj := fun b s pos b' s' pos' L L' h1 => by
    obtain ⟨l', e⟩ := R.row b _ h1
    cases e

theorem Ro.none (w : World) : Ro w (fun _ => none) h00 where
  dom := fun b o h => by cases b <;> cases h
  lt := fun b L h => by cases h
  row := fun b o h => by cases b <;> cases h
  cell := fun b l L i v h => by cases b <;> cases h
  sp := fun b o L h => by cases b <;> cases h

theorem Ro.add {w : World} {ρ : Ren} {h : Hp} (R : Ro w ρ h) (L : Loc) (l : List DV) (hsp : L.sp = 0)
    (hc : ∀ (i : Nat) v, l[i]? = some v → ∃ v', w.cell? (adr L i) = some v' ∧ VR ρ v v') :
    Ro w (upd ρ h.next L) (nw (.row .ro l) h) ∧ Ext ρ (upd ρ h.next L) := by
  have fresh : ρ h.next = Option.none := by
    cases e : ρ h.next with
    | none => rfl
    | some L' => exact absurd (R.lt _ _ e) (Nat.lt_irrefl _)
  have ext : Ext ρ (upd ρ h.next L) := fun b L' e => by
    have hb : b ≠ h.next := fun e2 => by rw [e2, fresh] at e; cases e
    rw [upd_other _ _ hb]; exact e
  refine ⟨?_, ext⟩
  have get : ∀ b o, (nw (.row .ro l) h).bl.get b = some o → (b = h.next ∧ o = .row .ro l) ∨ (b ≠ h.next ∧ h.bl.get b = some o) := fun b o e => by
    by_cases hb : b = h.next
    · subst hb
      rw [nw_get] at e
      cases e
      exact .inl ⟨rfl, rfl⟩
    · refine .inr ⟨hb, ?_⟩
      rw [← Tr.get_set_other (.row .ro l) h.next b h.bl hb]
      exact e
  constructor
  · intro b o e
    rcases get b o e with ⟨rfl, _⟩ | ⟨hb, e2⟩
    · exact ⟨L, upd_same _ _ _⟩
    · rw [upd_other _ _ hb]; exact R.dom b o e2
  · intro b L' e
    show b.toNat < h.next.succ.toNat
    rw [Pos.toNat_succ]
    by_cases hb : b = h.next
    · rw [hb]; omega
    · rw [upd_other _ _ hb] at e
      have := R.lt b L' e
      omega
  · intro b o e
    rcases get b o e with ⟨rfl, rfl⟩ | ⟨hb, e2⟩
    · exact ⟨l, rfl⟩
    · exact R.row b o e2
  · intro b l' L' i v e e2 e3
    rcases get b _ e with ⟨rfl, e4⟩ | ⟨hb, e4⟩
    · cases e4
      rw [upd_same] at e2
      cases e2
      obtain ⟨v', h1, h2⟩ := hc i v e3
      exact ⟨v', h1, h2.mono ext⟩
    · rw [upd_other _ _ hb] at e2
      obtain ⟨v', h1, h2⟩ := R.cell b l' L' i v e4 e2 e3
      exact ⟨v', h1, h2.mono ext⟩
  · intro b o L' e e2
    rcases get b _ e with ⟨rfl, e4⟩ | ⟨hb, e4⟩
    · rw [upd_same] at e2
      cases e2
      exact hsp
    · rw [upd_other _ _ hb] at e2
      exact R.sp b o L' e4 e2

theorem cells_get {w : World} {base n : Nat} {a : Addr} {cs : List Value} (h : w.cells? base a n = some cs) : cs.length = n ∧ ∀ j, j < n → w.cell? (a.add j) = cs[j]? := by
  unfold World.cells? at h
  split at h
  · exact ⟨by simpa using mapM_some_length h, fun j hj => mapM_some_get h j j (by simp [hj])⟩
  · cases h

section
variable {H : Type} {enc : TypeId × Value → H} {w : World}

theorem one_cell {t : TypeId} {d : TypeDesc} (v : Value) : (Value.cells v).toList = [v] → True := fun _ => trivial

/-- A slice of strings. -/
theorem open_strs {n : Nat} {v : Value} {x : DataW H × List MemPlace} (hx : DataW.trod enc Try.prog w 0 (fun _ => true) true n 22 [v] = some x) {ρ : Ren} {h : Hp} (R : Ro w ρ h) :
    ∃ ρ' h' s l, Ro w ρ' h' ∧ Ge h h' ∧ Ext ρ ρ' ∧ VR ρ' s v ∧ SL h' s l := by
  rcases DataW.trod_slice Try.underlying22 hx with ⟨h1, _⟩ | ⟨a, len, cap, elems, rest, m, _, h1, _, _, h4, h5, h6, h7, _⟩
  · cases h1
    exact ⟨ρ, h, .l0, [], R, Ge.refl _, fun _ _ e => e, .l0, by simp, .inl ⟨rfl, rfl⟩⟩
  · cases h1
    have hc : Try.prog.cellsOf 9 = 1 := by kernel_rfl
    rw [hc] at h7
    let L : Loc := ⟨a.block, a.off, 0, a.spot⟩
    have ha : a = adr L 0 := rfl
    have hcell : ∀ i, i < len → ∃ bs : ByteArray, w.cell? (adr L i) = some (.string bs) := by
      intro i hi
      have e := h7 i hi
      rw [show elems[i]? = some elems[i] by simp [h6, hi]] at e
      simp only [Option.bind_eq_some_iff] at e
      obtain ⟨cs, e1, e2⟩ := e
      obtain ⟨c1, c2⟩ := cells_get e1
      obtain ⟨bs, rfl, _⟩ := DataW.trod_string Try.underlying9 e2
      have := c2 0 (by omega)
      rw [ha, adr_add, adr_add] at this
      refine ⟨bs, ?_⟩
      simpa using this
    let g : Nat → List Nat := fun i => match w.cell? (adr L i) with
      | some (.string bs) => bs.data.toList.map (·.toNat)
      | _ => []
    have hg : ∀ i, i < len → ∃ v', w.cell? (adr L i) = some v' ∧ VR ρ (.s (g i)) v' := by
      intro i hi
      obtain ⟨bs, e⟩ := hcell i hi
      refine ⟨_, e, ?_⟩
      simp only [g, e]
      exact .s _ bs rfl
    obtain ⟨R', ext⟩ := R.add L ((List.range len).map fun i => DV.s (g i)) rfl (fun i v hv => by
      simp only [List.getElem?_map, Option.map_eq_some_iff] at hv
      obtain ⟨j, hj, rfl⟩ := hv
      obtain ⟨hj1, hj2⟩ := List.getElem?_eq_some_iff.1 hj
      simp at hj1 hj2
      subst hj2
      exact hg i hj1)
    refine ⟨_, _, .l h.next 0 len cap, (List.range len).map g, R', nw_ge R.wf _, ext, ?_, ?_, .inr ⟨h.next, cap, .ro, _, ?_, nw_get h _, ?_⟩⟩
    · exact .l h.next 0 len cap L (upd_same _ _ _)
    · simp
      have : maxLen = 9223372036854775807 := by rfl
      omega
    · simp
    · intro i y hy
      simp only [List.getElem?_map, Option.map_eq_some_iff] at hy ⊢
      obtain ⟨j, hj, rfl⟩ := hy
      exact ⟨j, hj, rfl⟩

theorem flat_drop : ∀ (rows : List (List DV)) (i : Nat) (x : List DV), (∀ r ∈ rows, r.length = 6) → rows[i]? = some x → ∃ rest, rows.flatten.drop (i * 6) = x ++ rest
  | [], i, x, _, h => by simp at h
  | r :: rows, 0, x, hl, h => by
    simp at h
    subst h
    exact ⟨rows.flatten, by simp⟩
  | r :: rows, i + 1, x, hl, h => by
    simp at h
    obtain ⟨rest, e⟩ := flat_drop rows i x (fun r hr => hl r (by simp [hr])) h
    refine ⟨rest, ?_⟩
    have : (i + 1) * 6 = r.length + i * 6 := by rw [hl r (by simp)]; omega
    rw [List.flatten_cons, this, ← List.drop_drop, List.drop_left]
    exact e

theorem flat_get : ∀ (rows : List (List DV)) (q : Nat) (v : DV), (∀ r ∈ rows, r.length = 6) → rows.flatten[q]? = some v → ∃ i j x, rows[i]? = some x ∧ x[j]? = some v ∧ q = i * 6 + j
  | [], q, v, _, h => by simp at h
  | r :: rows, q, v, hl, h => by
    have h6 := hl r (by simp)
    by_cases hq : q < 6
    · rw [List.flatten_cons, List.getElem?_append_left (by omega)] at h
      exact ⟨0, q, r, rfl, h, by omega⟩
    · rw [List.flatten_cons, List.getElem?_append_right (by omega)] at h
      obtain ⟨i, j, x, h1, h2, h3⟩ := flat_get rows (q - r.length) v (fun r hr => hl r (by simp [hr])) h
      exact ⟨i + 1, j, x, by simpa using h1, h2, by omega⟩

theorem takeD_app (x rest : List DV) (ho : ∀ v ∈ x, v.one = true) : takeD x.length (x ++ rest) = some x := by
  induction x with
  | nil => simp [takeD]
  | cons y x ih => simp [takeD, ho y (by simp), ih (fun v hv => ho v (by simp [hv]))]

/-- A node that is handed in. -/
theorem open_node : ∀ (n : Nat) (cs : List Value) (x : DataW H × List MemPlace), DataW.trod enc Try.prog w 0 (fun _ => true) true n 25 cs = some x → ∀ {ρ : Ren} {h : Hp}, Ro w ρ h →
    ∃ ρ' h' ds, Ro w ρ' h' ∧ Ge h h' ∧ Ext ρ ρ' ∧ VRs ρ' ds cs ∧ ND h' n ds
  | 0, cs, x, hx, ρ, h, R => by simp [DataW.trod] at hx
  | n + 1, cs, x, hx, ρ, h, R => by
    obtain ⟨xs, m, e0, _, hl, hxl, hf⟩ := DataW.trod_struct Try.underlying25 hx
    cases e0
    have hc : Try.prog.cellsOf 25 = 6 := by kernel_rfl
    have hc3 : Try.prog.cellsOf 3 = 1 := by kernel_rfl
    have hc9 : Try.prog.cellsOf 9 = 1 := by kernel_rfl
    have hc22 : Try.prog.cellsOf 22 = 1 := by kernel_rfl
    have hc23 : Try.prog.cellsOf 23 = 1 := by kernel_rfl
    rw [hc] at hl
    obtain ⟨v0, v1, v2, v3, v4, v5, rfl⟩ : ∃ v0 v1 v2 v3 v4 v5, cs = [v0, v1, v2, v3, v4, v5] := by
      match cs, hl with
      | [v0, v1, v2, v3, v4, v5], _ => exact ⟨_, _, _, _, _, _, rfl⟩
    have some : ∀ i, i < 6 → ∃ y, xs[i]? = some y := fun i hi => ⟨xs[i]'(by rw [hxl]; exact hi), by simp⟩
    obtain ⟨y0, g0⟩ := some 0 (by omega)
    obtain ⟨y1, g1⟩ := some 1 (by omega)
    obtain ⟨y2, g2⟩ := some 2 (by omega)
    obtain ⟨y3, g3⟩ := some 3 (by omega)
    obtain ⟨y4, g4⟩ := some 4 (by omega)
    obtain ⟨y5, g5⟩ := some 5 (by omega)
    have f0 := hf 0 _ rfl
    have f1 := hf 1 _ rfl
    have f2 := hf 2 _ rfl
    have f3 := hf 3 _ rfl
    have f4 := hf 4 _ rfl
    have f5 := hf 5 _ rfl
    simp only [hc3, hc9, hc22, hc23, List.drop_zero, List.drop_succ_cons, List.take_succ_cons, List.take_zero, g0, g1, g2, g3, g4, g5] at f0 f1 f2 f3 f4 f5
    obtain ⟨k, e0, _⟩ := DataW.trod_int Try.underlying3 f0
    obtain ⟨t, e1, _⟩ := DataW.trod_string Try.underlying9 f1
    obtain ⟨mm, e2, _⟩ := DataW.trod_int Try.underlying3 f2
    cases e0; cases e1; cases e2
    obtain ⟨ρ1, h1, s1, l1, R1, G1, E1, V1, S1⟩ := open_strs f3 R
    obtain ⟨ρ2, h2, s2, l2, R2, G2, E2, V2, S2⟩ := open_strs f4 R1
    have fin : ∀ ρ3 h3 s3 ks, Ro w ρ3 h3 → Ge h2 h3 → Ext ρ2 ρ3 → VR ρ3 s3 v5 → KL h3 s3 ks → (∀ u ∈ ks, ND h3 n u) →
        ∃ ρ' h' ds, Ro w ρ' h' ∧ Ge h h' ∧ Ext ρ ρ' ∧ VRs ρ' ds [.int .i64 k, .string t, .int .i64 mm, v3, v4, v5] ∧ ND h' (n + 1) ds := by
      intro ρ3 h3 s3 ks R3 G3 E3 V3 K3 N3
      refine ⟨ρ3, h3, [.i .i64 k, .s (t.data.toList.map (·.toNat)), .i .i64 mm, s1, s2, s3], R3, (G1.trans G2).trans G3, (E1.trans E2).trans E3, ?_,
        k, _, mm, s1, s2, s3, l1, l2, ks, rfl, (S1.mono G2).mono G3, S2.mono G3, K3, N3⟩
      exact .cons _ _ _ _ (.i _ _) (.cons _ _ _ _ (.s _ t rfl) (.cons _ _ _ _ (.i _ _) (.cons _ _ _ _ ((V1.mono E2).mono E3) (.cons _ _ _ _ (V2.mono E3) (.cons _ _ _ _ V3 .nil)))))
    rcases DataW.trod_slice Try.underlying23 f5 with ⟨e5, _⟩ | ⟨a, len, cap, elems, rest, m', em, e5, _, _, q4, q5, q6, q7, _⟩
    · cases e5
      exact fin ρ2 h2 .l0 [] R2 (Ge.refl _) (fun _ _ e => e) .l0 ⟨by simp, .inl ⟨rfl, rfl⟩⟩ (fun u hu => by simp at hu)
    · cases e5
      rw [hc] at q7
      let L : Loc := ⟨a.block, a.off, 0, a.spot⟩
      have ha : a = adr L 0 := rfl
      have mono : ∀ (p q : Nat) (hp : Hp) (u : List DV), p ≤ q → ND hp p u → ND hp q u := by
        intro p
        induction p with
        | zero => intro q hp u _ hh; exact hh.elim
        | succ p ih =>
          intro q hp u hq hh
          obtain ⟨q, rfl⟩ : ∃ r, q = r + 1 := ⟨q - 1, by omega⟩
          obtain ⟨k, t, m, s1, s2, s3, l1, l2, ks, e, a, b, c, f⟩ := hh
          exact ⟨k, t, m, s1, s2, s3, l1, l2, ks, e, a, b, c, fun y hy => ih q hp y (by omega) (f y hy)⟩
      have pre : ∀ c, c ≤ len → ∃ (ρ3 : Ren) (h3 : Hp) (rows : List (List DV)), Ro w ρ3 h3 ∧ Ge h2 h3 ∧ Ext ρ2 ρ3 ∧ rows.length = c ∧ (∀ u ∈ rows, ND h3 n u) ∧
          ∀ (i j : Nat) u v, rows[i]? = Option.some u → u[j]? = Option.some v → ∃ v', w.cell? (adr L (i * 6 + j)) = Option.some v' ∧ VR ρ3 v v' := by
        intro c
        induction c with
        | zero => intro _; exact ⟨ρ2, h2, [], R2, Ge.refl _, fun _ _ e => e, rfl, fun u hu => by simp at hu, fun i j u v hu => by simp at hu⟩
        | succ c ih =>
          intro hcl
          obtain ⟨ρ3, h3, rows, R3, G3, E3, l3, N3, C3⟩ := ih (by omega)
          have e := q7 c (by omega)
          rw [show elems[c]? = Option.some (elems[c]'(by omega)) by simp] at e
          simp only [Option.bind_eq_some_iff] at e
          obtain ⟨cs, e1, e2⟩ := e
          obtain ⟨c1, c2⟩ := cells_get e1
          cases em
          obtain ⟨ρ4, h4, ds, R4, G4, E4, V4, N4⟩ := open_node m' cs _ e2 R3
          refine ⟨ρ4, h4, rows ++ [ds], R4, G3.trans G4, E3.trans E4, by simp [l3], ?_, ?_⟩
          · intro u hu
            rcases List.mem_append.1 hu with hu | hu
            · exact ND.mono G4 _ _ (N3 u hu)
            · simp at hu
              subst hu
              exact mono _ _ _ _ (by omega) N4
          · intro i j u v hu hv
            by_cases hi : i < rows.length
            · rw [List.getElem?_append_left hi] at hu
              obtain ⟨v', h5, h6⟩ := C3 i j u v hu hv
              exact ⟨v', h5, h6.mono E4⟩
            · rw [List.getElem?_append_right (by omega)] at hu
              have hi' : i - rows.length = 0 := by
                cases hk : i - rows.length with
                | zero => rfl
                | succ k => rw [hk] at hu; simp at hu
              rw [hi'] at hu
              simp at hu
              subst hu
              obtain ⟨v', h5, h6⟩ := V4.get j v hv
              refine ⟨v', ?_, h6⟩
              have hj : j < 6 := by
                have := V4.length
                have h7 := (List.getElem?_eq_some_iff.1 hv).1
                omega
              have := c2 j hj
              rw [ha, adr_add, adr_add] at this
              rw [show i * 6 + j = 0 + c * 6 + j by omega, this]
              exact h5
      obtain ⟨ρ3, h3, rows, R3, G3, E3, l3, N3, C3⟩ := pre len (Nat.le_refl _)
      have l6 : ∀ r ∈ rows, r.length = 6 := fun r hr => (N3 r hr).shape.1
      obtain ⟨R4, E4⟩ := R3.add L rows.flatten rfl (fun q v hq => by
        obtain ⟨i, j, u, g1, g2, rfl⟩ := flat_get rows q v l6 hq
        exact C3 i j u v g1 g2)
      have G4 := nw_ge R3.wf (.row .ro rows.flatten)
      refine fin _ _ (.l h3.next 0 len cap) rows R4 (G3.trans G4) (E3.trans E4) (.l h3.next 0 len cap L (upd_same _ _ _)) ⟨?_, .inr ⟨h3.next, cap, .ro, _, by rw [l3], nw_get h3 _, ?_⟩⟩ (fun u hu => ND.mono G4 _ _ (N3 u hu))
      · have : maxLen = 9223372036854775807 := by rfl
        omega
      · intro i u hu
        obtain ⟨rest, e⟩ := flat_drop rows i u l6 hu
        have hm := List.mem_of_getElem? hu
        have := takeD_app u rest (N3 u hm).shape.2
        rw [l6 u hm] at this
        rw [e]
        exact this

end
end Go.Dd

/- Dd, part T1: runs that come to something, whatever the fuel; heaps by what is known of them. -/
set_option linter.unusedVariables false
set_option linter.unusedSimpArgs false
set_option maxRecDepth 100000
namespace Go.Dd
open Go.Proofs

/-! ### Runs -/

/-- From some fuel on it comes to one thing. -/
def Ev (F : Nat → Res) (P : DV → Hp → Prop) : Prop := ∃ v h N, P v h ∧ ∀ n, N ≤ n → F n = some (v, h)

theorem Ev.ret {v : DV} {h : Hp} {P : DV → Hp → Prop} (H : P v h) : Ev (fun _ => some (v, h)) P := ⟨v, h, 0, H, fun _ _ => rfl⟩

theorem Ev.mono {F : Nat → Res} {P Q : DV → Hp → Prop} (H : Ev F P) (k : ∀ v h, P v h → Q v h) : Ev F Q := by
  obtain ⟨v, h, N, a, b⟩ := H
  exact ⟨v, h, N, k v h a, b⟩

theorem Ev.op {r : Res} {v : DV} {h : Hp} {k : Nat → DV → Hp → Res} {P : DV → Hp → Prop} (e : r = some (v, h)) (H : Ev (fun n => k n v h) P) : Ev (fun n => bnd r (k n)) P := by
  rw [e]; exact H

theorem Ev.call {F : Nat → Res} {Q P : DV → Hp → Prop} {k : Nat → DV → Hp → Res} (H : Ev F Q) (K : ∀ v h, Q v h → Ev (fun n => k n v h) P) : Ev (fun n => bnd (F n) (k n)) P := by
  obtain ⟨v, h, N, a, b⟩ := H
  obtain ⟨v', h', N', a', b'⟩ := K v h a
  refine ⟨v', h', max N N', a', fun n hn => ?_⟩
  show Dd.bnd (F n) (k n) = _
  rw [b n (by omega)]
  exact b' n (by omega)

theorem Ev.enter {G : Nat → Res} {F : Nat → Res} {P : DV → Hp → Prop} (e : ∀ n, F (n + 1) = G n) (H : Ev G P) : Ev F P := by
  obtain ⟨v, h, N, a, b⟩ := H
  refine ⟨v, h, N + 1, a, fun n hn => ?_⟩
  obtain ⟨n, rfl⟩ : ∃ m, n = m + 1 := ⟨n - 1, by omega⟩
  rw [e]
  exact b n (by omega)

/-- One round of a loop, the j-th. -/
theorem Ev.loop (j : Nat) {ll bb : Nat → Nat → Res} {P : DV → Hp → Prop} (e : ∀ n m, ll n (m + 1) = bb n m) (H : Ev (fun n => bb n (n - (j + 1))) P) : Ev (fun n => ll n (n - j)) P := by
  obtain ⟨v, h, N, a, b⟩ := H
  refine ⟨v, h, N + j + 1, a, fun n hn => ?_⟩
  have : n - j = (n - (j + 1)) + 1 := by omega
  show ll n (n - j) = _
  rw [this, e]
  exact b n (by omega)

/-- A run of a function under an enough fuel. -/
theorem Ev.get {F : Nat → Res} {P : DV → Hp → Prop} (H : Ev F P) : ∃ n v h, P v h ∧ F n = some (v, h) := by
  obtain ⟨v, h, N, a, b⟩ := H
  exact ⟨N, v, h, a, b N (Nat.le_refl _)⟩

theorem Ev.ift {F G : Nat → Res} {P : DV → Hp → Prop} (H : Ev F P) : Ev (fun n => ifD (.b true) (F n) (G n)) P := H
theorem Ev.iff {F G : Nat → Res} {P : DV → Hp → Prop} (H : Ev G P) : Ev (fun n => ifD (.b false) (F n) (G n)) P := H
theorem Ev.ifb {c : Bool} {F G : Nat → Res} {P : DV → Hp → Prop} (H : c = true → Ev F P) (H' : c = false → Ev G P) : Ev (fun n => ifD (.b c) (F n) (G n)) P := by
  cases c with
  | true => exact H rfl
  | false => exact H' rfl

theorem Ev.gt {F : Nat → Res} {h : Hp} {k : Nat → DV → Hp → Res} {P : DV → Hp → Prop} (H : Ev (fun n => bnd (F n) (k n)) P) : Ev (fun n => bnd (gD (.b true) true (F n) h) (k n)) P := H
theorem Ev.gf {F : Nat → Res} {h : Hp} {k : Nat → DV → Hp → Res} {P : DV → Hp → Prop} (H : Ev (fun n => bnd (F n) (k n)) P) : Ev (fun n => bnd (gD (.b false) false (F n) h) (k n)) P := H
theorem Ev.gtS {F : Nat → Res} {h : Hp} {k : Nat → DV → Hp → Res} {P : DV → Hp → Prop} (H : Ev (fun n => k n undefD h) P) : Ev (fun n => bnd (gD (.b false) true (F n) h) (k n)) P := H
theorem Ev.gfS {F : Nat → Res} {h : Hp} {k : Nat → DV → Hp → Res} {P : DV → Hp → Prop} (H : Ev (fun n => k n undefD h) P) : Ev (fun n => bnd (gD (.b true) false (F n) h) (k n)) P := H
theorem Ev.guS {F : Nat → Res} {b : Bool} {h : Hp} {k : Nat → DV → Hp → Res} {P : DV → Hp → Prop} (H : Ev (fun n => k n undefD h) P) : Ev (fun n => bnd (gD undefD b (F n) h) (k n)) P := H

theorem Ev.cnd {b : Bool} {F : Nat → Res} {P : DV → Hp → Prop} (e : b = true) (H : Ev F P) : Ev (fun n => cnd b (F n)) P := by
  subst e; exact H

/-! ### Comparisons part -/
section
variable {k : Nat → DV → Hp → Res} {P : DV → Hp → Prop} {h : Hp} {q : IntKind} {x y : Int} {s t : List Nat}

theorem pInt_eq (o : BinOp) (z : DV) (e : intBin o q x y = some z) : pInt o (.i q x) (.i q y) h = some (z, h) := by simp [pInt, e]

theorem Ev.ieq (H : x = y → Ev (fun n => k n (.b true) h) P) (H' : x ≠ y → Ev (fun n => k n (.b false) h) P) : Ev (fun n => bnd (pInt .eql (.i q x) (.i q y) h) (k n)) P := by
  refine Ev.op (pInt_eq .eql (.b (x == y)) rfl) ?_
  by_cases e : x = y
  · rw [show (x == y) = true by simpa using e]; exact H e
  · rw [show (x == y) = false by simpa using e]; exact H' e
theorem Ev.ine (H : x ≠ y → Ev (fun n => k n (.b true) h) P) (H' : x = y → Ev (fun n => k n (.b false) h) P) : Ev (fun n => bnd (pInt .neq (.i q x) (.i q y) h) (k n)) P := by
  refine Ev.op (pInt_eq .neq (.b (x != y)) rfl) ?_
  by_cases e : x = y
  · rw [show (x != y) = false by simpa using e]; exact H' e
  · rw [show (x != y) = true by simpa using e]; exact H e
theorem Ev.ilt (H : x < y → Ev (fun n => k n (.b true) h) P) (H' : ¬ x < y → Ev (fun n => k n (.b false) h) P) : Ev (fun n => bnd (pInt .lss (.i q x) (.i q y) h) (k n)) P := by
  refine Ev.op (pInt_eq .lss (.b (decide (x < y))) rfl) ?_
  by_cases e : x < y
  · rw [decide_eq_true e]; exact H e
  · rw [decide_eq_false e]; exact H' e
theorem Ev.ile (H : x ≤ y → Ev (fun n => k n (.b true) h) P) (H' : ¬ x ≤ y → Ev (fun n => k n (.b false) h) P) : Ev (fun n => bnd (pInt .leq (.i q x) (.i q y) h) (k n)) P := by
  refine Ev.op (pInt_eq .leq (.b (decide (x ≤ y))) rfl) ?_
  by_cases e : x ≤ y
  · rw [decide_eq_true e]; exact H e
  · rw [decide_eq_false e]; exact H' e
theorem Ev.igt (H : y < x → Ev (fun n => k n (.b true) h) P) (H' : ¬ y < x → Ev (fun n => k n (.b false) h) P) : Ev (fun n => bnd (pInt .gtr (.i q x) (.i q y) h) (k n)) P := by
  refine Ev.op (pInt_eq .gtr (.b (decide (x > y))) rfl) ?_
  by_cases e : y < x
  · rw [decide_eq_true e]; exact H e
  · rw [decide_eq_false e]; exact H' e
theorem Ev.ige (H : y ≤ x → Ev (fun n => k n (.b true) h) P) (H' : ¬ y ≤ x → Ev (fun n => k n (.b false) h) P) : Ev (fun n => bnd (pInt .geq (.i q x) (.i q y) h) (k n)) P := by
  refine Ev.op (pInt_eq .geq (.b (decide (x ≥ y))) rfl) ?_
  by_cases e : y ≤ x
  · rw [decide_eq_true e]; exact H e
  · rw [decide_eq_false e]; exact H' e
theorem Ev.seq (H : s = t → Ev (fun n => k n (.b true) h) P) (H' : s ≠ t → Ev (fun n => k n (.b false) h) P) : Ev (fun n => bnd (pStr .eql (.s s) (.s t) h) (k n)) P := by
  refine Ev.op (str_eq s t h) ?_
  by_cases e : s = t
  · rw [show eqD s t = true by rw [eqD_iff]; exact e]; exact H e
  · rw [show eqD s t = false by rw [eqD_dec]; simp [e]]; exact H' e
theorem Ev.sne (H : s ≠ t → Ev (fun n => k n (.b true) h) P) (H' : s = t → Ev (fun n => k n (.b false) h) P) : Ev (fun n => bnd (pStr .neq (.s s) (.s t) h) (k n)) P := by
  refine Ev.op (str_ne s t h) ?_
  by_cases e : s = t
  · rw [show eqD s t = true by rw [eqD_iff]; exact e]; exact H' e
  · rw [show eqD s t = false by rw [eqD_dec]; simp [e]]; exact H e
theorem Ev.iadd (H : Ev (fun n => k n (.i q (q.wrap (x + y))) h) P) : Ev (fun n => bnd (pInt .add (.i q x) (.i q y) h) (k n)) P := Ev.op (pInt_eq .add _ rfl) H
theorem Ev.isub (H : Ev (fun n => k n (.i q (q.wrap (x - y))) h) P) : Ev (fun n => bnd (pInt .sub (.i q x) (.i q y) h) (k n)) P := Ev.op (pInt_eq .sub _ rfl) H
theorem Ev.imul (H : Ev (fun n => k n (.i q (q.wrap (x * y))) h) P) : Ev (fun n => bnd (pInt .mul (.i q x) (.i q y) h) (k n)) P := Ev.op (pInt_eq .mul _ rfl) H
theorem Ev.sadd (hl : s.length + t.length ≤ 9223372036854775807) (H : Ev (fun n => k n (.s (s ++ t)) h) P) : Ev (fun n => bnd (pStr .add (.s s) (.s t) h) (k n)) P := by
  refine Ev.op (v := .s (s ++ t)) (h := h) ?_ H
  have e : ¬ (((s.length + t.length : Nat) : Int) > IntKind.i64.max) := by
    have : IntKind.i64.max = 9223372036854775807 := by rfl
    omega
  show (match strBin .add s t with
    | some v => some (v, h)
    | none => none) = _
  unfold strBin
  simp only [if_neg e]
end

/-! ### Heaps -/

/-- Rows that nobody writes any more. -/
abbrev Im := Pos → Option Ob
def ILe (I J : Im) : Prop := ∀ b o, I b = some o → J b = some o
theorem ILe.refl (I : Im) : ILe I I := fun _ _ h => h
theorem ILe.trans {I J K : Im} (a : ILe I J) (b : ILe J K) : ILe I K := fun x o h => b x o (a x o h)

abbrev Ls := List (Pos × Option Ob)

/-- What is known of a heap: rows that stay, rows that grow (A), objects (Q), a function's own rows (L). -/
structure Sy (I : Im) (A Q L : Ls) (h : Hp) : Prop where
  wf : Wf h
  im : ∀ b o, I b = some o → h.bl.get b = some o
  loc : ∀ b o, (b, o) ∈ A ++ Q ++ L → h.bl.get b = o
  lt : ∀ b o, (b, o) ∈ A ++ Q ++ L → b.toNat < h.next.toNat
  nd : ((A ++ Q ++ L).map (·.1)).Nodup
  dj : ∀ b o, (b, o) ∈ A ++ Q ++ L → I b = none

theorem perm3 {I : Im} {A Q L A' Q' L' : Ls} {h : Hp} (p : List.Perm (A ++ Q ++ L) (A' ++ Q' ++ L')) (S : Sy I A Q L h) : Sy I A' Q' L' h where
  wf := S.wf
  im := S.im
  loc := fun b o m => S.loc b o (p.mem_iff.2 m)
  lt := fun b o m => S.lt b o (p.mem_iff.2 m)
  nd := (p.map _).nodup_iff.1 S.nd
  dj := fun b o m => S.dj b o (p.mem_iff.2 m)

theorem sub3 {I : Im} {A Q L A' Q' L' : Ls} {h : Hp} (p : List.Sublist (A' ++ Q' ++ L') (A ++ Q ++ L)) (S : Sy I A Q L h) : Sy I A' Q' L' h where
  wf := S.wf
  im := S.im
  loc := fun b o m => S.loc b o (p.subset m)
  lt := fun b o m => S.lt b o (p.subset m)
  nd := (p.map _).nodup S.nd
  dj := fun b o m => S.dj b o (p.subset m)

/-- A row that was own is let go. -/
theorem Sy.dropL {I : Im} {A Q L : Ls} {e : Pos × Option Ob} {h : Hp} (S : Sy I A Q (e :: L) h) : Sy I A Q L h :=
  sub3 (by rw [List.append_assoc, List.append_assoc]; exact (List.Sublist.refl _).append ((List.Sublist.refl _).append (List.sublist_cons_self _ _))) S

theorem Sy.allL {I : Im} {A Q L M : Ls} {h : Hp} (S : Sy I A Q (M ++ L) h) : Sy I A Q L h :=
  sub3 (by rw [List.append_assoc, List.append_assoc]; exact (List.Sublist.refl _).append ((List.Sublist.refl _).append (List.sublist_append_right _ _))) S

theorem Sy.qL {I : Im} {A Q L : Ls} {e : Pos × Option Ob} {h : Hp} (S : Sy I A Q (e :: L) h) : Sy I A (Q ++ [e]) L h :=
  perm3 (by simp) S
theorem Sy.lQ {I : Im} {A Q L : Ls} {e : Pos × Option Ob} {h : Hp} (S : Sy I A (Q ++ [e]) L h) : Sy I A Q (e :: L) h :=
  perm3 (by simp) S

/-- A new name. -/
theorem Sy.add {I : Im} {A Q L : Ls} {h : Hp} (S : Sy I A Q L h) {h' : Hp} (o : Option Ob) (e1 : h'.next = h.next.succ) (e2 : ∀ b, h'.bl.get b = if b = h.next then o else h.bl.get b) : Sy I A Q ((h.next, o) :: L) h' := by
  have ne : ∀ b x, (b, x) ∈ A ++ Q ++ L → b ≠ h.next := fun b x m e => by
    have := S.lt b x m
    rw [e] at this
    omega
  have fresh : h.bl.get h.next = none := by
    cases e : h.bl.get h.next with
    | none => rfl
    | some o => exact absurd (S.wf _ _ e) (Nat.lt_irrefl _)
  have mem : ∀ b x, (b, x) ∈ A ++ Q ++ (h.next, o) :: L → (b = h.next ∧ x = o) ∨ (b, x) ∈ A ++ Q ++ L := fun b x m => by
    simp only [List.mem_append, List.mem_cons, Prod.mk.injEq] at m ⊢
    rcases m with (m | m) | (m | m)
    · exact .inr (.inl (.inl m))
    · exact .inr (.inl (.inr m))
    · exact .inl m
    · exact .inr (.inr m)
  have inone : I h.next = none := by
    cases e : I h.next with
    | none => rfl
    | some o => rw [S.im _ _ e] at fresh; cases fresh
  refine ⟨?_, ?_, ?_, ?_, ?_, ?_⟩
  · intro b x e
    rw [e1, Pos.toNat_succ]
    rw [e2] at e
    split at e
    · rename_i hb; rw [hb]; omega
    · have := S.wf b x e; omega
  · intro b x e
    have hb : b ≠ h.next := fun e3 => by rw [e3, inone] at e; cases e
    rw [e2, if_neg hb]
    exact S.im b x e
  · intro b x m
    rw [e2]
    rcases mem b x m with ⟨rfl, rfl⟩ | m
    · rw [if_pos rfl]
    · rw [if_neg (ne b x m)]; exact S.loc b x m
  · intro b x m
    rw [e1, Pos.toNat_succ]
    rcases mem b x m with ⟨rfl, rfl⟩ | m
    · omega
    · have := S.lt b x m; omega
  · have p : List.Perm ((A ++ Q ++ (h.next, o) :: L).map (·.1)) (h.next :: (A ++ Q ++ L).map (·.1)) := by
      have : List.Perm (A ++ Q ++ (h.next, o) :: L) ((h.next, o) :: (A ++ Q ++ L)) := List.perm_middle
      exact this.map _
    rw [p.nodup_iff, List.nodup_cons]
    refine ⟨fun m => ?_, S.nd⟩
    obtain ⟨⟨b, x⟩, m, e⟩ := List.mem_map.1 m
    exact ne b x m e
  · intro b x m
    rcases mem b x m with ⟨rfl, rfl⟩ | m
    · exact inone
    · exact S.dj b x m

theorem Sy.new {I : Im} {A Q L : Ls} {h : Hp} (S : Sy I A Q L h) (o : Ob) : Sy I A Q ((h.next, some o) :: L) (nw o h) :=
  S.add (some o) rfl (fun b => Tr.get_set o h.next b h.bl)

theorem Sy.res {I : Im} {A Q L : Ls} {h : Hp} (S : Sy I A Q L h) : Sy I A Q ((h.next, none) :: L) (resv 1 h) := by
  refine S.add none rfl (fun b => ?_)
  show h.bl.get b = _
  split
  · rename_i hb
    rw [hb]
    cases e : h.bl.get h.next with
    | none => rfl
    | some o => exact absurd (S.wf _ _ e) (Nat.lt_irrefl _)
  · rfl

/-- An entry is another. -/
inductive Rpl (b : Pos) (o o' : Option Ob) : Ls → Ls → Prop
  | head (L : Ls) : Rpl b o o' ((b, o) :: L) ((b, o') :: L)
  | tail (e : Pos × Option Ob) {L L' : Ls} : Rpl b o o' L L' → Rpl b o o' (e :: L) (e :: L')

theorem Rpl.keys {b : Pos} {o o' : Option Ob} {L L' : Ls} (r : Rpl b o o' L L') : L'.map (·.1) = L.map (·.1) := by
  induction r with
  | head L => rfl
  | tail e _ ih => simp [ih]

theorem Rpl.at {b : Pos} {o o' : Option Ob} {L L' : Ls} (r : Rpl b o o' L L') : (b, o) ∈ L ∧ (b, o') ∈ L' := by
  induction r with
  | head L => simp
  | tail e _ ih => simp [ih]

theorem Rpl.mem {b : Pos} {o o' : Option Ob} {L L' : Ls} (r : Rpl b o o' L L') (nd : (L.map (·.1)).Nodup) : ∀ c x, (c, x) ∈ L' → (c = b ∧ x = o') ∨ (c ≠ b ∧ (c, x) ∈ L) := by
  induction r with
  | head L =>
    intro c x m
    rcases List.mem_cons.1 m with m2 | m2
    · cases m2; exact .inl ⟨rfl, rfl⟩
    · refine .inr ⟨fun e => ?_, List.mem_cons_of_mem _ m2⟩
      subst e
      rw [List.map_cons, List.nodup_cons] at nd
      exact nd.1 (List.mem_map.2 ⟨_, m2, rfl⟩)
  | tail e r ih =>
    intro c x m
    rw [List.map_cons, List.nodup_cons] at nd
    rcases List.mem_cons.1 m with m | m
    · subst m
      refine .inr ⟨fun e => ?_, by simp⟩
      subst e
      exact nd.1 (List.mem_map.2 ⟨_, r.at.1, rfl⟩)
    · rcases ih nd.2 c x m with h | ⟨h1, h2⟩
      · exact .inl h
      · exact .inr ⟨h1, by simp [h2]⟩

theorem Sy.setAll {I : Im} {A Q L A' Q' L' : Ls} {h h' : Hp} {b : Pos} {o : Option Ob} {o' : Ob} (S : Sy I A Q L h) (r : Rpl b o (some o') (A ++ Q ++ L) (A' ++ Q' ++ L'))
    (e1 : h'.next = h.next) (e2 : ∀ c, h'.bl.get c = if c = b then some o' else h.bl.get c) : Sy I A' Q' L' h' := by
  have mem := r.mem S.nd
  have hb := S.lt b o r.at.1
  refine ⟨?_, ?_, ?_, ?_, ?_, ?_⟩
  · intro c x e
    rw [e1]
    rw [e2] at e
    split at e
    · rename_i hc; rw [hc]; exact hb
    · exact S.wf c x e
  · intro c x e
    have hc : c ≠ b := fun e3 => by rw [e3, S.dj b o r.at.1] at e; cases e
    rw [e2, if_neg hc]
    exact S.im c x e
  · intro c x m
    rw [e2]
    rcases mem c x m with ⟨rfl, rfl⟩ | ⟨hc, m⟩
    · rw [if_pos rfl]
    · rw [if_neg hc]; exact S.loc c x m
  · intro c x m
    rw [e1]
    rcases mem c x m with ⟨rfl, rfl⟩ | ⟨hc, m⟩
    · exact hb
    · exact S.lt c x m
  · rw [r.keys]; exact S.nd
  · intro c x m
    rcases mem c x m with ⟨rfl, rfl⟩ | ⟨hc, m⟩
    · exact S.dj c o r.at.1
    · exact S.dj c x m

theorem Rpl.left (A : Ls) {b : Pos} {o o' : Option Ob} {L L' : Ls} (r : Rpl b o o' L L') : Rpl b o o' (A ++ L) (A ++ L') := by
  induction A with
  | nil => exact r
  | cons e A ih => exact .tail e ih
theorem Rpl.right (A : Ls) {b : Pos} {o o' : Option Ob} {L L' : Ls} (r : Rpl b o o' L L') : Rpl b o o' (L ++ A) (L' ++ A) := by
  induction r with
  | head L => exact .head _
  | tail e _ ih => exact .tail e ih

theorem Sy.setL {I : Im} {A Q L L' : Ls} {h h' : Hp} {b : Pos} {o : Option Ob} {o' : Ob} (S : Sy I A Q L h) (r : Rpl b o (some o') L L')
    (e1 : h'.next = h.next) (e2 : ∀ c, h'.bl.get c = if c = b then some o' else h.bl.get c) : Sy I A Q L' h' := S.setAll (r.left _) e1 e2
theorem Sy.setQ {I : Im} {A Q Q' L : Ls} {h h' : Hp} {b : Pos} {o : Option Ob} {o' : Ob} (S : Sy I A Q L h) (r : Rpl b o (some o') Q Q')
    (e1 : h'.next = h.next) (e2 : ∀ c, h'.bl.get c = if c = b then some o' else h.bl.get c) : Sy I A Q' L h' := S.setAll ((r.left A).right L) e1 e2
theorem Sy.setA {I : Im} {A A' Q L : Ls} {h h' : Hp} {b : Pos} {o : Option Ob} {o' : Ob} (S : Sy I A Q L h) (r : Rpl b o (some o') A A')
    (e1 : h'.next = h.next) (e2 : ∀ c, h'.bl.get c = if c = b then some o' else h.bl.get c) : Sy I A' Q L h' := S.setAll ((r.right Q).right L) e1 e2

noncomputable def Im.put (I : Im) (b : Pos) (o : Ob) : Im := fun c => if c = b then some o else I c

/-- A row that nobody will write any more. -/
theorem Sy.freeze {I : Im} {A Q L : Ls} {h : Hp} {b : Pos} {o : Ob} (S : Sy I A Q ((b, some o) :: L) h) : Sy (I.put b o) A Q L h ∧ ILe I (I.put b o) := by
  have hb : (b, some o) ∈ A ++ Q ++ (b, some o) :: L := by simp
  have S' := S.dropL
  have nb : ∀ c x, (c, x) ∈ A ++ Q ++ L → c ≠ b := by
    intro c x m e
    subst e
    have p : List.Perm ((A ++ Q ++ (c, some o) :: L).map (·.1)) (c :: (A ++ Q ++ L).map (·.1)) := (List.perm_middle (a := (c, some o)) (l₁ := A ++ Q) (l₂ := L)).map _
    have := p.nodup_iff.1 S.nd
    rw [List.nodup_cons] at this
    exact this.1 (List.mem_map.2 ⟨_, m, rfl⟩)
  refine ⟨⟨S.wf, ?_, S'.loc, S'.lt, S'.nd, ?_⟩, ?_⟩
  · intro c x e
    unfold Im.put at e
    split at e
    · rename_i hc; subst hc; cases e; exact S.loc _ _ hb
    · exact S.im c x e
  · intro c x m
    unfold Im.put
    rw [if_neg (nb c x m)]
    exact S'.dj c x m
  · intro c x e
    have : c ≠ b := fun e2 => by rw [e2, S.dj b _ hb] at e; cases e
    unfold Im.put
    rw [if_neg this]
    exact e

theorem Im.put_same (I : Im) (b : Pos) (o : Ob) : I.put b o b = some o := by simp [Im.put]

theorem Sy.memL {I : Im} {A Q L : Ls} {h : Hp} {b : Pos} {o : Ob} (S : Sy I A Q L h) (m : (b, some o) ∈ L) : h.bl.get b = some o := S.loc b _ (by simp [m])
theorem Sy.memQ {I : Im} {A Q L : Ls} {h : Hp} {b : Pos} {o : Ob} (S : Sy I A Q L h) (m : (b, some o) ∈ Q) : h.bl.get b = some o := S.loc b _ (by simp [m])
theorem Sy.memA {I : Im} {A Q L : Ls} {h : Hp} {b : Pos} {o : Ob} (S : Sy I A Q L h) (m : (b, some o) ∈ A) : h.bl.get b = some o := S.loc b _ (by simp [m])

/-! ### Operations -/
section
variable {I : Im} {A Q L L' Q' : Ls} {h : Hp} {k : Nat → DV → Hp → Res} {P : DV → Hp → Prop} {b : Pos} {kd : Kind} {l l' cs : List DV} {o n : Nat} {v : DV}

theorem Ev.new (S : Sy I A Q L h) (H : ∀ b h', Sy I A Q ((b, some (.row .ex cs)) :: L) h' → Ev (fun n => k n (.p b 0) h') P) : Ev (fun n => bnd (pNew cs h) (k n)) P :=
  Ev.op (new_a cs h) (H _ _ (S.new _))

theorem Ev.box (S : Sy I A Q L h) (e : cellsD v = some cs) (H : ∀ b h', Sy I A Q ((b, some (.row .ex cs)) :: L) h' → Ev (fun n => k n (.p b 0) h') P) : Ev (fun n => bnd (pBox v h) (k n)) P := by
  have e2 : pBox v h = pNew cs h := by unfold pBox; rw [e]
  rw [e2]
  exact Ev.new S H

theorem Ev.ld (hg : h.bl.get b = some (.row kd l)) (e : l[o]? = some v) (hv : v.one = true) (H : Ev (fun n => k n v h) P) : Ev (fun n => bnd (pLoad1 (.p b o) h) (k n)) P := Ev.op (ld1 hg e hv) H
theorem Ev.ldL (S : Sy I A Q L h) (m : (b, some (.row kd l)) ∈ L) (e : l[o]? = some v) (hv : v.one = true) (H : Ev (fun n => k n v h) P) : Ev (fun n => bnd (pLoad1 (.p b o) h) (k n)) P := Ev.ld (S.memL m) e hv H
theorem Ev.ldQ (S : Sy I A Q L h) (m : (b, some (.row kd l)) ∈ Q) (e : l[o]? = some v) (hv : v.one = true) (H : Ev (fun n => k n v h) P) : Ev (fun n => bnd (pLoad1 (.p b o) h) (k n)) P := Ev.ld (S.memQ m) e hv H
theorem Ev.lds (hg : h.bl.get b = some (.row kd l)) (e : takeD n (l.drop o) = some cs) (H : Ev (fun n => k n (.a cs) h) P) : Ev (fun m => bnd (pLoadA n (.p b o) h) (k m)) P := Ev.op (ldA hg e) H

theorem take_all (h1 : l.length = n) (h2 : ∀ v ∈ l, v.one = true) : takeD n (l.drop 0) = some l := by
  subst h1; simpa using takeD_all l h2
theorem Ev.ldsL (S : Sy I A Q L h) (m : (b, some (.row kd l)) ∈ L) (h1 : l.length = n) (h2 : ∀ v ∈ l, v.one = true) (H : Ev (fun n => k n (.a l) h) P) : Ev (fun m => bnd (pLoadA n (.p b 0) h) (k m)) P := Ev.lds (S.memL m) (take_all h1 h2) H

theorem store_all {kw : Kind} (hk : kw.writable = true) (hg : h.bl.get b = some (.row kw l)) (h1 : l.length = n) (h2 : ∀ v ∈ l, v.one = true) (h3 : l'.length = n) (h4 : ∀ v ∈ l', v.one = true) :
    pStore n (.p b 0) (.a l') h = some (undefD, ⟨h.next, Tr.set (.row kw l') b h.bl⟩) := by
  have hp : putAt 0 l l' = some l' := putD_all l l' (by omega) h2 h4
  simp [pStore, cellsD, h3, storeAtD, hg, hk, hp]

theorem Ev.stsL (S : Sy I A Q L h) (r : Rpl b (some (.row .ex l)) (some (.row .ex l')) L L') (h1 : l.length = n) (h2 : ∀ v ∈ l, v.one = true) (h3 : l'.length = n) (h4 : ∀ v ∈ l', v.one = true)
    (H : ∀ h', Sy I A Q L' h' → Ev (fun n => k n undefD h') P) : Ev (fun m => bnd (pStore n (.p b 0) (.a l') h) (k m)) P :=
  Ev.op (store_all rfl (S.memL r.at.1) h1 h2 h3 h4) (H _ (S.setL r rfl (fun c => Tr.get_set _ _ _ _)))

theorem cells_one (hv : v.one = true) : cellsD v = some [v] := by
  cases v <;> first | rfl | cases hv

theorem putD_one : ∀ (o : Nat) (l : List DV), (∃ x, l[o]? = some x ∧ x.one = true) → v.one = true → putAt o l [v] = some (l.set o v)
  | 0, [], h, _ => by obtain ⟨x, h, _⟩ := h; simp at h
  | 0, x :: l, h, hv => by
    obtain ⟨y, h1, h2⟩ := h
    simp at h1
    subst h1
    simp [putAt, putD, hv, h2]
  | o + 1, [], h, _ => by obtain ⟨x, h, _⟩ := h; simp at h
  | o + 1, x :: l, h, hv => by
    have := putD_one o l (by simpa using h) hv
    simp [putAt, this]

theorem store_one {kw : Kind} (hk : kw.writable = true) (hg : h.bl.get b = some (.row kw l)) (h1 : ∃ x, l[o]? = some x ∧ x.one = true) (hv : v.one = true) :
    pStore 1 (.p b o) v h = some (undefD, ⟨h.next, Tr.set (.row kw (l.set o v)) b h.bl⟩) := by
  simp [pStore, cells_one hv, storeAtD, hg, hk, putD_one o l h1 hv]

theorem Ev.stL (S : Sy I A Q L h) (r : Rpl b (some (.row .ex l)) (some (.row .ex l')) L L') (e : l.set o v = l') (h1 : ∃ x, l[o]? = some x ∧ x.one = true) (hv : v.one = true)
    (H : ∀ h', Sy I A Q L' h' → Ev (fun n => k n undefD h') P) : Ev (fun m => bnd (pStore 1 (.p b o) v h) (k m)) P := by
  subst e
  exact Ev.op (store_one rfl (S.memL r.at.1) h1 hv) (H _ (S.setL r rfl (fun c => Tr.get_set _ _ _ _)))
theorem Ev.stQ (S : Sy I A Q L h) (r : Rpl b (some (.row .ex l)) (some (.row .ex l')) Q Q') (e : l.set o v = l') (h1 : ∃ x, l[o]? = some x ∧ x.one = true) (hv : v.one = true)
    (H : ∀ h', Sy I A Q' L h' → Ev (fun n => k n undefD h') P) : Ev (fun m => bnd (pStore 1 (.p b o) v h) (k m)) P := by
  subst e
  exact Ev.op (store_one rfl (S.memQ r.at.1) h1 hv) (H _ (S.setQ r rfl (fun c => Tr.get_set _ _ _ _)))

/-- A name is kept. -/
theorem Ev.resv (S : Sy I A Q L h) {F : Nat → Hp → Res} (H : ∀ b h', b = h.next → h' = resv 1 h → Sy I A Q ((b, none) :: L) h' → Ev (fun n => F n h') P) : Ev (fun n => F n (resv 1 h)) P := H _ _ rfl rfl S.res

theorem Ev.bs (S : Sy I A Q L h) {z : List DV} {ps : List (Nat × Nat × DV)} (e : fillD z ps = some cs) (H : ∀ b h', Sy I A Q ((b, some (.row .ex cs)) :: L) h' → Ev (fun m => k m (.l b 0 n n) h') P) : Ev (fun m => bnd (pBuildSlice z n ps h) (k m)) P := by
  refine Ev.op (v := .l h.next 0 n n) (h := nw (.row .ex cs) h) ?_ (H _ _ (S.new _))
  unfold pBuildSlice
  rw [e]
  rfl
theorem Ev.bsAt (S : Sy I A Q L h) {z : List DV} {ps : List (Nat × Nat × DV)} (r : Rpl b none (some (.row .ex cs)) L L') (e : fillD z ps = some cs)
    (H : ∀ h', Sy I A Q L' h' → Ev (fun m => k m (.l b 0 n n) h') P) : Ev (fun m => bnd (pBuildSliceAt b z n ps h) (k m)) P := by
  refine Ev.op (v := .l b 0 n n) (h := ⟨h.next, Tr.set (.row .ex cs) b h.bl⟩) ?_ (H _ (S.setL r rfl (fun c => Tr.get_set _ _ _ _)))
  unfold pBuildSliceAt
  rw [e]

theorem Ev.bld {z : List DV} {ps : List (Nat × Nat × DV)} (e : fillD z ps = some cs) (H : Ev (fun n => k n (.a cs) h) P) : Ev (fun n => bnd (pBuild z ps h) (k n)) P := by
  refine Ev.op (v := .a cs) (h := h) ?_ H
  unfold pBuild
  rw [e]

theorem same1 {S : Sy I A Q L h} (m : (b, some (.row kd l)) ∈ L) (e : l[o]? = some v) (hv : v.one = true) (hb : DV.beq v v = true) : sameR (pLoad1 (.p b o) h) v = true := by
  rw [ld1 (S.memL m) e hv]; exact hb
end

end Go.Dd

/- Dd, part ZR: a law of one text: from its run to its calls. -/
set_option linter.unusedVariables false
namespace Go.Dd
open Go.Proofs Go.RowKit

theorem Sy.start : Sy (fun _ => none) [] [] [] h00 where
  wf := fun b o e => by cases b <;> cases e
  im := fun b o e => by cases e
  loc := fun b o m => by simp at m
  lt := fun b o m => by simp at m
  nd := by simp
  dj := fun b o m => by simp at m

/-- A law of a text that runs to true, its lives answered, returns true. -/
theorem run_text {f : FuncId} {s : ByteArray} {F : Nat → Res} (e : ∀ n, bodyD CF (recL 9 true n) n f [.s (s.data.toList.map (·.toNat))] h00 = F n) (H : Ev F (fun v _ => v = .b true)) (fn : Func) (hf : Try.prog.funcs[f]? = some fn) (hb : fn.body.isSome = true) (w : World) :
    Calls Try.prog f #[.string s] w fun e w' => e = .returned (.bool true) ∧ Below w.heap.size w w' := by
  obtain ⟨v, h1, N, rfl, hN⟩ := H
  have hr := (e N).trans (hN N (Nat.le_refl _))
  obtain ⟨hl, el⟩ := lives9
  rcases body_ok (recL_ok el Try.f9 Try.func9 (by kernel_rfl)) Try_ok N f _ h00 _ h1 hr _ w #[.string s] (Ro.none w).hr (.cons _ _ _ _ (.s _ s rfl) .nil) with ⟨_, h⟩ | ⟨ρ', w', v', h, _⟩
  · refine h.mono ?_
    rintro e w' ⟨ρ', v', rfl, h2, h3, h4, h5⟩
    cases h3
    exact ⟨rfl, h5.low⟩
  · exfalso
    have hf' : CF.P.funcs[f]? = some fn := hf
    have hn : ¬ fn.name = "runtime.NumGoroutine" := by simpa using Try_ok.names f fn hf'
    have hbn : fn.body ≠ none := by intro e; rw [e] at hb; cases hb
    unfold callFunc at h
    simp [hf', hn, hbn] at h

theorem bytes_lt (s : ByteArray) : ∀ c ∈ s.data.toList.map (·.toNat), c < 256 := by
  intro c hc
  obtain ⟨b, _, rfl⟩ := List.mem_map.1 hc
  exact b.toNat_lt

end Go.Dd

