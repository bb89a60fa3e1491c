/- A part of the proof: Q4 Q5 Q6 Qt R U S1 S2 S3 S4 S5 S6 S7 S8 S9 S10 T1 ZR: each text has a comment of its own. -/
import Derived.Test.YtliejomdaookoaaPl1
import Derived.Lib.Bytealg
import Derived.KernelRfl
import Derived.ChangeArms
import Derived.WalkKit
import Derived.ProofKit
/- Dd, part Q4 (printed by gen.py): functions of the seat's program as Lean functions, linked to Dd. -/
set_option linter.unusedVariables false
set_option maxRecDepth 100000
namespace Go.Dd
open Go.Proofs
noncomputable section

variable (rec : RT) (n : Nat)
def s56a3 (rec : RT) (n : Nat) (x7 : DV) (h0 : Hp) : Res :=
 bnd (pField 1 x7 h0) fun v1 h1 =>
 bnd (pLoad1 v1 h1) fun v2 h2 =>
 some (v2, h2)
def s56a2 (rec : RT) (n : Nat) (x0 x2 x7 : DV) (h0 : Hp) : Res :=
 bnd (pLen x2 h0) fun v1 h1 =>
 bnd (pInt .eql v1 (.i .i64 (Int.ofNat 4)) h1) fun v2 h2 =>
 ifD v2 (
 bnd (pLoadA 4 x7 h2) fun v3 h3 =>
 bnd (rec 54 [x0, v3, (.i .i64 (Int.ofNat 18))] h3) fun v4 h4 =>
    s56a3 rec n x7 h4) (
    s56a3 rec n x7 h2)
def s56a1 (rec : RT) (n : Nat) (x0 x1 x2 : DV) (h0 : Hp) : Res :=
 bnd (rec 32 [x0, x1, (.s [])] h0) fun v1 h1 =>
 bnd (pNew [(.i .i64 (Int.ofNat 0)), (.s []), (.i .i64 (Int.ofNat 0)), (.i .i64 (Int.ofNat 0))] h1) fun v2 h2 =>
 bnd (pStore 4 v2 v1 h2) fun _ h3 =>
  s56a2 rec n x0 x2 v2 h3
/-- parse.parser).name -/
def s56 (rec : RT) (n : Nat) (x0 x1 x2 : DV) (h0 : Hp) : Res :=
  s56a1 rec n x0 x1 x2 h0
abbrev c56 : Code := cf Try.f56
abbrev c56x1 : Code := cR c56
abbrev c56x2 : Code := cR c56x1
abbrev c56x3 : Code := cR c56x2
abbrev c56x4 : Code := cL c56x2
abbrev c56x5 : Code := cL c56x1
abbrev c56x6 : Code := cL c56
abbrev r56 : K := retK CF Try.f56
def D56 (rec : RT) (n : Nat) (c : Code) (X : Nat → K) (k : K) : K := codeD CF rec 19 n c X r56 k
theorem s56a3e : D56 rec n c56x3 x0 r56 = (K1 (s56a3 rec n) 7) :=
  (by kernel_rfl)
theorem s56a2p1 : D56 rec n c56x2 x0 r56 = D56 rec n c56x4 x0 (K1 (s56a3 rec n) 7) :=
  congrArg (fun k => D56 rec n c56x4 x0 k) (s56a3e rec n)
theorem s56a2e : D56 rec n c56x2 x0 r56 = (K3 (s56a2 rec n) 0 2 7) :=
  (s56a2p1 rec n).trans
  ((by kernel_rfl))
theorem s56a1p2 : D56 rec n c56x1 x0 r56 = D56 rec n c56x5 x0 (K3 (s56a2 rec n) 0 2 7) :=
  congrArg (fun k => D56 rec n c56x5 x0 k) (s56a2e rec n)
theorem s56a1q3 (q0 : TT3) : D56 rec n c56x5 x0 (K3 q0 0 2 7) = fun (env : Env) (h : Hp) =>
 bnd (rec 32 [(env 0), (env 1), (.s [])] h) fun v1 h1 =>
 bnd (pNew [(.i .i64 (Int.ofNat 0)), (.s []), (.i .i64 (Int.ofNat 0)), (.i .i64 (Int.ofNat 0))] h1) fun v2 h2 =>
 bnd (pStore 4 v2 v1 h2) fun _ h3 =>
    q0 (env 0) (env 2) v2 h3 := by kernel_rfl
theorem s56a1q3u : (fun (env : Env) (h : Hp) =>
 bnd (rec 32 [(env 0), (env 1), (.s [])] h) fun v1 h1 =>
 bnd (pNew [(.i .i64 (Int.ofNat 0)), (.s []), (.i .i64 (Int.ofNat 0)), (.i .i64 (Int.ofNat 0))] h1) fun v2 h2 =>
 bnd (pStore 4 v2 v1 h2) fun _ h3 =>
    s56a2 rec n (env 0) (env 2) v2 h3) = (K3 (s56a1 rec n) 0 1 2) := by kernel_rfl
theorem s56a1e : D56 rec n c56x1 x0 r56 = (K3 (s56a1 rec n) 0 1 2) :=
  (s56a1p2 rec n).trans
  ((s56a1q3 rec n (s56a2 rec n)).trans (s56a1q3u rec n))
theorem s56p4 : D56 rec n c56 x0 r56 = D56 rec n c56x6 x0 (K3 (s56a1 rec n) 0 1 2) :=
  congrArg (fun k => D56 rec n c56x6 x0 k) (s56a1e rec n)
theorem s56m : D56 rec n c56 x0 r56 = (K3 (s56 rec n) 0 1 2) :=
  (s56p4 rec n).trans
  ((by kernel_rfl))
theorem s56ok (args : List DV) (h : Hp) : bodyD CF rec n 56 args h = s56 rec n (args.getD 0 undefD) (args.getD 1 undefD) (args.getD 2 undefD) h :=
  (by kernel_rfl : bodyD CF rec n 56 args h = D56 rec n c56 x0 r56 (argsE args) h).trans ((congrFun (congrFun (s56m rec n) (argsE args)) h).trans (by kernel_rfl))
def s57a7 (rec : RT) (n : Nat) (x0 x2 x3 : DV) (h0 : Hp) : Res :=
 bnd (rec 41 [x0, (.i .i64 (Int.ofNat 10)), (.s [91])] h0) fun v1 h1 =>
 ifD v1 (
 bnd (rec 76 [x0] h1) fun v2 h2 =>
 bnd (pStore 6 x2 v2 h2) fun _ h3 =>
 bnd (pLoadA 6 x2 h3) fun v4 _ =>
 some (v4, h3)) (
 bnd (rec 46 [x0, (.i .i64 (Int.ofNat 0))] h1) fun v5 h5 =>
 bnd (rec 44 [x0, v5, (.i .i64 (Int.ofNat 13))] h5) fun v6 h6 =>
 bnd (pLoadA 6 x3 h6) fun v7 h7 =>
 bnd (pStore 6 x2 v7 h7) fun _ h8 =>
 bnd (pLoadA 6 x2 h8) fun v9 _ =>
 some (v9, h8))
def s57a11 (rec : RT) (n : Nat) (x2 x3 : DV) (h0 : Hp) : Res :=
 bnd (pLoadA 6 x3 h0) fun v1 h1 =>
 bnd (pStore 6 x2 v1 h1) fun _ h2 =>
 bnd (pLoadA 6 x2 h2) fun v3 _ =>
 some (v3, h2)
def s57a10 (rec : RT) (n : Nat) (x0 x2 x3 x4 : DV) (h0 : Hp) : Res :=
 ifD x4 (
 bnd (rec 45 [x0] h0) fun v1 h1 =>
 bnd (pStore 6 x3 v1 h1) fun _ h2 =>
 bnd (rec 28 [x0, (.i .i64 (Int.ofNat 10)), (.s [41])] h2) fun v3 h3 =>
 bnd (pNil x0 h3) fun v4 h4 =>
 bnd (pField 2 v4 h4) fun v5 h5 =>
 bnd (pLoad1 v5 h5) fun v6 h6 =>
 bnd (pInt .sub v6 (.i .i64 (Int.ofNat 1)) h6) fun v7 h7 =>
 bnd (pNil x0 h7) fun v8 h8 =>
 bnd (pField 2 v8 h8) fun v9 h9 =>
 bnd (pStore 1 v9 v7 h9) fun _ h10 =>
    s57a11 rec n x2 x3 h10) (
    s57a11 rec n x2 x3 h0)
def s57a9 (rec : RT) (n : Nat) (x0 x2 x3 : DV) (h0 : Hp) : Res :=
 bnd (rec 75 [x0] h0) fun v1 h1 =>
  s57a10 rec n x0 x2 x3 v1 h1
def s57a8 (rec : RT) (n : Nat) (x0 x2 x3 x29 : DV) (h0 : Hp) : Res :=
 ifD x29 (
    s57a9 rec n x0 x2 x3 h0) (
    s57a7 rec n x0 x2 x3 h0)
def s57a6 (rec : RT) (n : Nat) (x0 x2 x3 : DV) (h0 : Hp) : Res :=
 bnd (rec 41 [x0, (.i .i64 (Int.ofNat 10)), (.s [40])] h0) fun v1 h1 =>
  s57a8 rec n x0 x2 x3 v1 h1
def s57a5 (rec : RT) (n : Nat) (x0 x2 x3 : DV) (h0 : Hp) : Res :=
 bnd (rec 41 [x0, (.i .i64 (Int.ofNat 7)), (.s [])] h0) fun v1 h1 =>
 ifD v1 (
 bnd (rec 74 [x0] h1) fun v2 h2 =>
 bnd (pStore 6 x2 v2 h2) fun _ h3 =>
 bnd (pLoadA 6 x2 h3) fun v4 _ =>
 some (v4, h3)) (
    s57a6 rec n x0 x2 x3 h1)
def s57a4 (rec : RT) (n : Nat) (x0 x2 x3 : DV) (h0 : Hp) : Res :=
 bnd (rec 41 [x0, (.i .i64 (Int.ofNat 1)), (.s [])] h0) fun v1 h1 =>
 ifD v1 (
 bnd (rec 42 [x0] h1) fun v2 h2 =>
 bnd (pPart1 1 v2 h2) fun v3 h3 =>
 bnd (pBuild [(.i .i64 (Int.ofNat 0)), (.s []), (.i .i64 (Int.ofNat 0)), .l0, .l0, .l0] [(0, 1, (.i .i64 (Int.ofNat 5))), (1, 1, v3)] h3) fun v4 h4 =>
 bnd (pStore 6 x2 v4 h4) fun _ h5 =>
 bnd (pLoadA 6 x2 h5) fun v6 _ =>
 some (v6, h5)) (
    s57a5 rec n x0 x2 x3 h1)
def s57a3 (rec : RT) (n : Nat) (x0 x2 x3 x4 : DV) (h0 : Hp) : Res :=
 ifD x4 (
 bnd (pLoadA 6 x3 h0) fun v1 h1 =>
 bnd (pStore 6 x2 v1 h1) fun _ h2 =>
 bnd (pLoadA 6 x2 h2) fun v3 _ =>
 some (v3, h2)) (
    s57a4 rec n x0 x2 x3 h0)
def s57a2 (rec : RT) (n : Nat) (x0 x2 : DV) (h0 : Hp) : Res :=
 bnd (rec 73 [x0] h0) fun v1 h1 =>
 bnd (pExtract 0 v1 h1) fun v2 h2 =>
 bnd (pExtract 1 v1 h2) fun v3 h3 =>
 bnd (pNew [(.i .i64 (Int.ofNat 0)), (.s []), (.i .i64 (Int.ofNat 0)), .l0, .l0, .l0] h3) fun v4 h4 =>
 bnd (pStore 6 v4 v2 h4) fun _ h5 =>
  s57a3 rec n x0 x2 v4 v3 h5
def s57a1 (rec : RT) (n : Nat) (x0 x2 : DV) (h0 : Hp) : Res :=
 bnd (pNil x0 h0) fun v1 h1 =>
 bnd (pField 3 v1 h1) fun v2 h2 =>
 bnd (pLoad1 v2 h2) fun v3 h3 =>
 bnd (pInt .neq v3 (.i .i64 (Int.ofNat 0)) h3) fun v4 h4 =>
 ifD v4 (
 bnd (pBuild [(.i .i64 (Int.ofNat 0)), (.s []), (.i .i64 (Int.ofNat 0)), .l0, .l0, .l0] [] h4) fun v5 h5 =>
 bnd (pStore 6 x2 v5 h5) fun _ h6 =>
 bnd (pLoadA 6 x2 h6) fun v7 _ =>
 some (v7, h6)) (
    s57a2 rec n x0 x2 h4)
/-- vivariumref07.P).primary -/
def s57 (rec : RT) (n : Nat) (x0 : DV) (h0 : Hp) : Res :=
 bnd (pNew [(.i .i64 (Int.ofNat 0)), (.s []), (.i .i64 (Int.ofNat 0)), .l0, .l0, .l0] h0) fun v1 h1 =>
  s57a1 rec n x0 v1 h1
abbrev c57 : Code := cf Try.f57
abbrev c57x1 : Code := cR c57
abbrev c57x2 : Code := cR c57x1
abbrev c57x3 : Code := cR c57x2
abbrev c57x4 : Code := cR c57x3
abbrev c57x5 : Code := cR c57x4
abbrev c57x6 : Code := cR c57x5
abbrev c57x7 : Code := cR c57x6
abbrev c57x8 : Code := cL c57x6
abbrev c57x9 : Code := cR c57x8
abbrev c57x10 : Code := cL c57x9
abbrev c57x11 : Code := cR c57x10
abbrev c57x12 : Code := cR c57x11
abbrev c57x13 : Code := cL c57x11
abbrev c57x14 : Code := cL c57x10
abbrev c57x15 : Code := cR c57x9
abbrev c57x16 : Code := cL c57x8
abbrev c57x17 : Code := cL c57x5
abbrev c57x18 : Code := cL c57x4
abbrev c57x19 : Code := cL c57x3
abbrev c57x20 : Code := cL c57x2
abbrev c57x21 : Code := cL c57x1
abbrev c57x22 : Code := cL c57
abbrev r57 : K := retK CF Try.f57
def D57 (rec : RT) (n : Nat) (c : Code) (X : Nat → K) (k : K) : K := codeD CF rec 54 n c X r57 k
theorem s57a7e : D57 rec n c57x7 x0 r57 = (K3 (s57a7 rec n) 0 2 3) :=
  (by kernel_rfl)
theorem s57a11e : D57 rec n c57x12 x0 (K3 (s57a7 rec n) 0 2 3) = (K2 (s57a11 rec n) 2 3) :=
  (by kernel_rfl)
theorem s57a10p1 : D57 rec n c57x11 x0 (K3 (s57a7 rec n) 0 2 3) = D57 rec n c57x13 x0 (K2 (s57a11 rec n) 2 3) :=
  congrArg (fun k => D57 rec n c57x13 x0 k) (s57a11e rec n)
theorem s57a10e : D57 rec n c57x11 x0 (K3 (s57a7 rec n) 0 2 3) = (K4 (s57a10 rec n) 0 2 3 4) :=
  (s57a10p1 rec n).trans
  ((by kernel_rfl))
theorem s57a9p2 : D57 rec n c57x10 x0 (K3 (s57a7 rec n) 0 2 3) = D57 rec n c57x14 x0 (K4 (s57a10 rec n) 0 2 3 4) :=
  congrArg (fun k => D57 rec n c57x14 x0 k) (s57a10e rec n)
theorem s57a9e : D57 rec n c57x10 x0 (K3 (s57a7 rec n) 0 2 3) = (K3 (s57a9 rec n) 0 2 3) :=
  (s57a9p2 rec n).trans
  ((by kernel_rfl))
theorem s57a8e : D57 rec n c57x9 x0 (K3 (s57a7 rec n) 0 2 3) = (K4 (s57a8 rec n) 0 2 3 29) :=
  (by kernel_rfl : D57 rec n c57x9 x0 (K3 (s57a7 rec n) 0 2 3) = (fun (env : Env) (h : Hp) => ifD (opr env (cC c57x9)) (D57 rec n c57x10 x0 (K3 (s57a7 rec n) 0 2 3) env h) (D57 rec n c57x15 x0 (K3 (s57a7 rec n) 0 2 3) env h))).trans (by rw [s57a9e rec n]; kernel_rfl)
theorem s57a6p3 : D57 rec n c57x6 x0 r57 = D57 rec n c57x8 x0 (K3 (s57a7 rec n) 0 2 3) :=
  congrArg (fun k => D57 rec n c57x8 x0 k) (s57a7e rec n)
theorem s57a6p4 : D57 rec n c57x8 x0 (K3 (s57a7 rec n) 0 2 3) = D57 rec n c57x16 x0 (K4 (s57a8 rec n) 0 2 3 29) :=
  congrArg (fun k => D57 rec n c57x16 x0 k) (s57a8e rec n)
theorem s57a6e : D57 rec n c57x6 x0 r57 = (K3 (s57a6 rec n) 0 2 3) :=
  (s57a6p3 rec n).trans
  ((s57a6p4 rec n).trans
  ((by kernel_rfl)))
theorem s57a5p5 : D57 rec n c57x5 x0 r57 = D57 rec n c57x17 x0 (K3 (s57a6 rec n) 0 2 3) :=
  congrArg (fun k => D57 rec n c57x17 x0 k) (s57a6e rec n)
theorem s57a5e : D57 rec n c57x5 x0 r57 = (K3 (s57a5 rec n) 0 2 3) :=
  (s57a5p5 rec n).trans
  ((by kernel_rfl))
theorem s57a4p6 : D57 rec n c57x4 x0 r57 = D57 rec n c57x18 x0 (K3 (s57a5 rec n) 0 2 3) :=
  congrArg (fun k => D57 rec n c57x18 x0 k) (s57a5e rec n)
theorem s57a4q7 (q0 : TT3) : D57 rec n c57x18 x0 (K3 q0 0 2 3) = fun (env : Env) (h : Hp) =>
 bnd (rec 41 [(env 0), (.i .i64 (Int.ofNat 1)), (.s [])] h) fun v1 h1 =>
 ifD v1 (
 bnd (rec 42 [(env 0)] h1) fun v2 h2 =>
 bnd (pPart1 1 v2 h2) fun v3 h3 =>
 bnd (pBuild [(.i .i64 (Int.ofNat 0)), (.s []), (.i .i64 (Int.ofNat 0)), .l0, .l0, .l0] [(0, 1, (.i .i64 (Int.ofNat 5))), (1, 1, v3)] h3) fun v4 h4 =>
 bnd (pStore 6 (env 2) v4 h4) fun _ h5 =>
 bnd (pLoadA 6 (env 2) h5) fun v6 _ =>
 some (v6, h5)) (
      q0 (env 0) (env 2) (env 3) h1) := by kernel_rfl
theorem s57a4q7u : (fun (env : Env) (h : Hp) =>
 bnd (rec 41 [(env 0), (.i .i64 (Int.ofNat 1)), (.s [])] h) fun v1 h1 =>
 ifD v1 (
 bnd (rec 42 [(env 0)] h1) fun v2 h2 =>
 bnd (pPart1 1 v2 h2) fun v3 h3 =>
 bnd (pBuild [(.i .i64 (Int.ofNat 0)), (.s []), (.i .i64 (Int.ofNat 0)), .l0, .l0, .l0] [(0, 1, (.i .i64 (Int.ofNat 5))), (1, 1, v3)] h3) fun v4 h4 =>
 bnd (pStore 6 (env 2) v4 h4) fun _ h5 =>
 bnd (pLoadA 6 (env 2) h5) fun v6 _ =>
 some (v6, h5)) (
      s57a5 rec n (env 0) (env 2) (env 3) h1)) = (K3 (s57a4 rec n) 0 2 3) := by kernel_rfl
theorem s57a4e : D57 rec n c57x4 x0 r57 = (K3 (s57a4 rec n) 0 2 3) :=
  (s57a4p6 rec n).trans
  ((s57a4q7 rec n (s57a5 rec n)).trans (s57a4q7u rec n))
theorem s57a3p8 : D57 rec n c57x3 x0 r57 = D57 rec n c57x19 x0 (K3 (s57a4 rec n) 0 2 3) :=
  congrArg (fun k => D57 rec n c57x19 x0 k) (s57a4e rec n)
theorem s57a3e : D57 rec n c57x3 x0 r57 = (K4 (s57a3 rec n) 0 2 3 4) :=
  (s57a3p8 rec n).trans
  ((by kernel_rfl))
theorem s57a2p9 : D57 rec n c57x2 x0 r57 = D57 rec n c57x20 x0 (K4 (s57a3 rec n) 0 2 3 4) :=
  congrArg (fun k => D57 rec n c57x20 x0 k) (s57a3e rec n)
theorem s57a2q10 (q0 : TT4) : D57 rec n c57x20 x0 (K4 q0 0 2 3 4) = fun (env : Env) (h : Hp) =>
 bnd (rec 73 [(env 0)] h) fun v1 h1 =>
 bnd (pExtract 0 v1 h1) fun v2 h2 =>
 bnd (pExtract 1 v1 h2) fun v3 h3 =>
 bnd (pNew [(.i .i64 (Int.ofNat 0)), (.s []), (.i .i64 (Int.ofNat 0)), .l0, .l0, .l0] h3) fun v4 h4 =>
 bnd (pStore 6 v4 v2 h4) fun _ h5 =>
    q0 (env 0) (env 2) v4 v3 h5 := by kernel_rfl
theorem s57a2q10u : (fun (env : Env) (h : Hp) =>
 bnd (rec 73 [(env 0)] h) fun v1 h1 =>
 bnd (pExtract 0 v1 h1) fun v2 h2 =>
 bnd (pExtract 1 v1 h2) fun v3 h3 =>
 bnd (pNew [(.i .i64 (Int.ofNat 0)), (.s []), (.i .i64 (Int.ofNat 0)), .l0, .l0, .l0] h3) fun v4 h4 =>
 bnd (pStore 6 v4 v2 h4) fun _ h5 =>
    s57a3 rec n (env 0) (env 2) v4 v3 h5) = (K2 (s57a2 rec n) 0 2) := by kernel_rfl
theorem s57a2e : D57 rec n c57x2 x0 r57 = (K2 (s57a2 rec n) 0 2) :=
  (s57a2p9 rec n).trans
  ((s57a2q10 rec n (s57a3 rec n)).trans (s57a2q10u rec n))
theorem s57a1p11 : D57 rec n c57x1 x0 r57 = D57 rec n c57x21 x0 (K2 (s57a2 rec n) 0 2) :=
  congrArg (fun k => D57 rec n c57x21 x0 k) (s57a2e rec n)
theorem s57a1q12 (q0 : TT2) : D57 rec n c57x21 x0 (K2 q0 0 2) = fun (env : Env) (h : Hp) =>
 bnd (pNil (env 0) h) fun v1 h1 =>
 bnd (pField 3 v1 h1) fun v2 h2 =>
 bnd (pLoad1 v2 h2) fun v3 h3 =>
 bnd (pInt .neq v3 (.i .i64 (Int.ofNat 0)) h3) fun v4 h4 =>
 ifD v4 (
 bnd (pBuild [(.i .i64 (Int.ofNat 0)), (.s []), (.i .i64 (Int.ofNat 0)), .l0, .l0, .l0] [] h4) fun v5 h5 =>
 bnd (pStore 6 (env 2) v5 h5) fun _ h6 =>
 bnd (pLoadA 6 (env 2) h6) fun v7 _ =>
 some (v7, h6)) (
      q0 (env 0) (env 2) h4) := by kernel_rfl
theorem s57a1q12u : (fun (env : Env) (h : Hp) =>
 bnd (pNil (env 0) h) fun v1 h1 =>
 bnd (pField 3 v1 h1) fun v2 h2 =>
 bnd (pLoad1 v2 h2) fun v3 h3 =>
 bnd (pInt .neq v3 (.i .i64 (Int.ofNat 0)) h3) fun v4 h4 =>
 ifD v4 (
 bnd (pBuild [(.i .i64 (Int.ofNat 0)), (.s []), (.i .i64 (Int.ofNat 0)), .l0, .l0, .l0] [] h4) fun v5 h5 =>
 bnd (pStore 6 (env 2) v5 h5) fun _ h6 =>
 bnd (pLoadA 6 (env 2) h6) fun v7 _ =>
 some (v7, h6)) (
      s57a2 rec n (env 0) (env 2) h4)) = (K2 (s57a1 rec n) 0 2) := by kernel_rfl
theorem s57a1e : D57 rec n c57x1 x0 r57 = (K2 (s57a1 rec n) 0 2) :=
  (s57a1p11 rec n).trans
  ((s57a1q12 rec n (s57a2 rec n)).trans (s57a1q12u rec n))
theorem s57p13 : D57 rec n c57 x0 r57 = D57 rec n c57x22 x0 (K2 (s57a1 rec n) 0 2) :=
  congrArg (fun k => D57 rec n c57x22 x0 k) (s57a1e rec n)
theorem s57q14 (q0 : TT2) : D57 rec n c57x22 x0 (K2 q0 0 2) = fun (env : Env) (h : Hp) =>
 bnd (pNew [(.i .i64 (Int.ofNat 0)), (.s []), (.i .i64 (Int.ofNat 0)), .l0, .l0, .l0] h) fun v1 h1 =>
    q0 (env 0) v1 h1 := by kernel_rfl
theorem s57q14u : (fun (env : Env) (h : Hp) =>
 bnd (pNew [(.i .i64 (Int.ofNat 0)), (.s []), (.i .i64 (Int.ofNat 0)), .l0, .l0, .l0] h) fun v1 h1 =>
    s57a1 rec n (env 0) v1 h1) = (K1 (s57 rec n) 0) := by kernel_rfl
theorem s57m : D57 rec n c57 x0 r57 = (K1 (s57 rec n) 0) :=
  (s57p13 rec n).trans
  ((s57q14 rec n (s57a1 rec n)).trans (s57q14u rec n))
theorem s57ok (args : List DV) (h : Hp) : bodyD CF rec n 57 args h = s57 rec n (args.getD 0 undefD) h :=
  (by kernel_rfl : bodyD CF rec n 57 args h = D57 rec n c57 x0 r57 (argsE args) h).trans ((congrFun (congrFun (s57m rec n) (argsE args)) h).trans (by kernel_rfl))
def s58a2 (rec : RT) (n : Nat) (x3 x4 : DV) (h0 : Hp) : Res :=
 bnd (pLoadA 6 x3 h0) fun v1 h1 =>
 bnd (pStore 6 x4 v1 h1) fun _ h2 =>
 bnd (pLoadA 6 x4 h2) fun v3 _ =>
 some (v3, h2)
def s58a3b (rec : RT) (n : Nat) (kk3 : TT3) (x0 x3 x4 : DV) (h0 : Hp) : Res :=
 bnd (rec 41 [x0, (.i .i64 (Int.ofNat 1)), (.s [])] h0) fun v1 h1 =>
 ifD v1 (
 bnd (rec 42 [x0] (resv 1 h1)) fun v2 h2 =>
 bnd (pPart1 1 v2 h2) fun v3 h3 =>
 bnd (pLoadA 6 x3 h3) fun v4 h4 =>
 cnd (sameR (pLoadA 6 x3 (resv 1 h1)) v4 && true) (
 bnd (pBuildSliceAt (nthPos 0 h1.next) [(.i .i64 (Int.ofNat 0)), (.s []), (.i .i64 (Int.ofNat 0)), .l0, .l0, .l0] 1 [(0, 6, v4)] h4) fun v5 h5 =>
 bnd (pBuild [(.i .i64 (Int.ofNat 0)), (.s []), (.i .i64 (Int.ofNat 0)), .l0, .l0, .l0] [(0, 1, (.i .i64 (Int.ofNat 7))), (1, 1, v3), (5, 1, v5)] h5) fun v6 h6 =>
 bnd (pStore 6 x3 v6 h6) fun v7 h7 =>
      kk3 x0 x3 x4 h7)) (
      s58a2 rec n x3 x4 h1)
def s58a3l (rec : RT) (n : Nat) (m : Nat) : TT3 :=
  Nat.rec (motive := fun _ => TT3) (fun _ _ _ _ => none) (fun _ ih => s58a3b rec n ih) m
def s58a3 (rec : RT) (n : Nat) : TT3 := s58a3l rec n n
def s58a1 (rec : RT) (n : Nat) (x0 x3 x4 : DV) (h0 : Hp) : Res :=
  s58a3 rec n x0 x3 x4 h0
/-- vivariumref07.P).unary -/
def s58 (rec : RT) (n : Nat) (x0 x1 : DV) (h0 : Hp) : Res :=
 bnd (pBox x1 h0) fun v1 h1 =>
 bnd (pNew [(.i .i64 (Int.ofNat 0)), (.s []), (.i .i64 (Int.ofNat 0)), .l0, .l0, .l0] h1) fun v2 h2 =>
  s58a1 rec n x0 v1 v2 h2
abbrev c58 : Code := cf Try.f58
abbrev c58x1 : Code := cR c58
abbrev c58x2 : Code := cR c58x1
abbrev c58x3 : Code := cL c58x1
abbrev c58x4 : Code := cL c58x3
abbrev c58x5 : Code := cL c58x4
abbrev c58x6 : Code := cL c58
abbrev r58 : K := retK CF Try.f58
def D58 (rec : RT) (n : Nat) (c : Code) (X : Nat → K) (k : K) : K := codeD CF rec 14 n c X r58 k
theorem s58a2e : D58 rec n c58x2 x0 r58 = (K2 (s58a2 rec n) 3 4) :=
  (by kernel_rfl)
theorem s58a3q1 (kk3 : TT3) (q0 : TT2) : D58 rec n c58x5 (xs x0 0 (K2 q0 3 4)) (K3 kk3 0 3 4) = fun (env : Env) (h : Hp) =>
 bnd (rec 41 [(env 0), (.i .i64 (Int.ofNat 1)), (.s [])] h) fun v1 h1 =>
 ifD v1 (
 bnd (rec 42 [(env 0)] (resv 1 h1)) fun v2 h2 =>
 bnd (pPart1 1 v2 h2) fun v3 h3 =>
 bnd (pLoadA 6 (env 3) h3) fun v4 h4 =>
 cnd (sameR (pLoadA 6 (env 3) (resv 1 h1)) v4 && true) (
 bnd (pBuildSliceAt (nthPos 0 h1.next) [(.i .i64 (Int.ofNat 0)), (.s []), (.i .i64 (Int.ofNat 0)), .l0, .l0, .l0] 1 [(0, 6, v4)] h4) fun v5 h5 =>
 bnd (pBuild [(.i .i64 (Int.ofNat 0)), (.s []), (.i .i64 (Int.ofNat 0)), .l0, .l0, .l0] [(0, 1, (.i .i64 (Int.ofNat 7))), (1, 1, v3), (5, 1, v5)] h5) fun v6 h6 =>
 bnd (pStore 6 (env 3) v6 h6) fun v7 h7 =>
      kk3 (env 0) (env 3) (env 4) h7)) (
      q0 (env 3) (env 4) h1) := by kernel_rfl
theorem s58a3q1u (kk3 : TT3) : (fun (env : Env) (h : Hp) =>
 bnd (rec 41 [(env 0), (.i .i64 (Int.ofNat 1)), (.s [])] h) fun v1 h1 =>
 ifD v1 (
 bnd (rec 42 [(env 0)] (resv 1 h1)) fun v2 h2 =>
 bnd (pPart1 1 v2 h2) fun v3 h3 =>
 bnd (pLoadA 6 (env 3) h3) fun v4 h4 =>
 cnd (sameR (pLoadA 6 (env 3) (resv 1 h1)) v4 && true) (
 bnd (pBuildSliceAt (nthPos 0 h1.next) [(.i .i64 (Int.ofNat 0)), (.s []), (.i .i64 (Int.ofNat 0)), .l0, .l0, .l0] 1 [(0, 6, v4)] h4) fun v5 h5 =>
 bnd (pBuild [(.i .i64 (Int.ofNat 0)), (.s []), (.i .i64 (Int.ofNat 0)), .l0, .l0, .l0] [(0, 1, (.i .i64 (Int.ofNat 7))), (1, 1, v3), (5, 1, v5)] h5) fun v6 h6 =>
 bnd (pStore 6 (env 3) v6 h6) fun v7 h7 =>
      kk3 (env 0) (env 3) (env 4) h7)) (
      s58a2 rec n (env 3) (env 4) h1)) = (K3 (s58a3b rec n kk3) 0 3 4) := by kernel_rfl
theorem s58a3be (kk3 : TT3) : D58 rec n c58x5 (xs x0 0 (K2 (s58a2 rec n) 3 4)) (K3 kk3 0 3 4) = (K3 (s58a3b rec n kk3) 0 3 4) :=
  (s58a3q1 rec n kk3 (s58a2 rec n)).trans (s58a3q1u rec n kk3)
theorem s58a3le (m : Nat) : loopN (fun kk => D58 rec n c58x5 (xs x0 0 (K2 (s58a2 rec n) 3 4)) kk) m = (K3 (s58a3l rec n m) 0 3 4) := by
  induction m with
  | zero => exact (by kernel_rfl : loopN (fun kk => D58 rec n c58x5 (xs x0 0 (K2 (s58a2 rec n) 3 4)) kk) 0 = (K3 (s58a3l rec n 0) 0 3 4))
  | succ m ih =>
    refine (by kernel_rfl : loopN (fun kk => D58 rec n c58x5 (xs x0 0 (K2 (s58a2 rec n) 3 4)) kk) (m + 1) = D58 rec n c58x5 (xs x0 0 (K2 (s58a2 rec n) 3 4)) (loopN (fun kk => D58 rec n c58x5 (xs x0 0 (K2 (s58a2 rec n) 3 4)) kk) m)).trans ?_
    rw [ih]
    exact (s58a3be rec n (s58a3l rec n m)).trans (by kernel_rfl)
theorem s58a3e : D58 rec n c58x4 (xs x0 0 (K2 (s58a2 rec n) 3 4)) (K2 (s58a2 rec n) 3 4) = (K3 (s58a3 rec n) 0 3 4) :=
  (by kernel_rfl : D58 rec n c58x4 (xs x0 0 (K2 (s58a2 rec n) 3 4)) (K2 (s58a2 rec n) 3 4) = loopN (fun kk => D58 rec n c58x5 (xs x0 0 (K2 (s58a2 rec n) 3 4)) kk) n).trans ((s58a3le rec n n).trans (by kernel_rfl))
theorem s58a1p2 : D58 rec n c58x1 x0 r58 = D58 rec n c58x3 x0 (K2 (s58a2 rec n) 3 4) :=
  congrArg (fun k => D58 rec n c58x3 x0 k) (s58a2e rec n)
theorem s58a1e : D58 rec n c58x1 x0 r58 = (K3 (s58a1 rec n) 0 3 4) :=
  (s58a1p2 rec n).trans
  ((by kernel_rfl : D58 rec n c58x3 x0 (K2 (s58a2 rec n) 3 4) = D58 rec n c58x4 (xs x0 0 (K2 (s58a2 rec n) 3 4)) (K2 (s58a2 rec n) 3 4)).trans
  ((s58a3e rec n).trans (by kernel_rfl)))
theorem s58p3 : D58 rec n c58 x0 r58 = D58 rec n c58x6 x0 (K3 (s58a1 rec n) 0 3 4) :=
  congrArg (fun k => D58 rec n c58x6 x0 k) (s58a1e rec n)
theorem s58q4 (q0 : TT3) : D58 rec n c58x6 x0 (K3 q0 0 3 4) = fun (env : Env) (h : Hp) =>
 bnd (pBox (env 1) h) fun v1 h1 =>
 bnd (pNew [(.i .i64 (Int.ofNat 0)), (.s []), (.i .i64 (Int.ofNat 0)), .l0, .l0, .l0] h1) fun v2 h2 =>
    q0 (env 0) v1 v2 h2 := by kernel_rfl
theorem s58q4u : (fun (env : Env) (h : Hp) =>
 bnd (pBox (env 1) h) fun v1 h1 =>
 bnd (pNew [(.i .i64 (Int.ofNat 0)), (.s []), (.i .i64 (Int.ofNat 0)), .l0, .l0, .l0] h1) fun v2 h2 =>
    s58a1 rec n (env 0) v1 v2 h2) = (K2 (s58 rec n) 0 1) := by kernel_rfl
theorem s58m : D58 rec n c58 x0 r58 = (K2 (s58 rec n) 0 1) :=
  (s58p3 rec n).trans
  ((s58q4 rec n (s58a1 rec n)).trans (s58q4u rec n))
theorem s58ok (args : List DV) (h : Hp) : bodyD CF rec n 58 args h = s58 rec n (args.getD 0 undefD) (args.getD 1 undefD) h :=
  (by kernel_rfl : bodyD CF rec n 58 args h = D58 rec n c58 x0 r58 (argsE args) h).trans ((congrFun (congrFun (s58m rec n) (argsE args)) h).trans (by kernel_rfl))
def s59a2 (rec : RT) (n : Nat) (x3 x4 : DV) (h0 : Hp) : Res :=
 bnd (pLoadA 6 x3 h0) fun v1 h1 =>
 bnd (pStore 6 x4 v1 h1) fun _ h2 =>
 bnd (pLoadA 6 x4 h2) fun v3 _ =>
 some (v3, h2)
def s59a3b (rec : RT) (n : Nat) (kk3 : TT3) (x0 x3 x4 : DV) (h0 : Hp) : Res :=
 bnd (rec 41 [x0, (.i .i64 (Int.ofNat 3)), (.s [])] h0) fun v1 h1 =>
 ifD v1 (
 bnd (rec 42 [x0] h1) fun v2 h2 =>
 bnd (pPart1 1 v2 h2) fun v3 h3 =>
 bnd (rec 57 [x0] h3) fun v4 h4 =>
 bnd (pNew [(.i .i64 (Int.ofNat 0)), (.s []), (.i .i64 (Int.ofNat 0)), .l0, .l0, .l0] h4) fun v5 h5 =>
 bnd (pStore 6 v5 v4 h5) fun _ h6 =>
 bnd (pLoadA 6 v5 h6) fun v7 h7 =>
 bnd (rec 58 [x0, v7] h7) fun v8 h8 =>
 bnd (pStore 6 v5 v8 h8) fun _ h9 =>
 bnd (pLoadA 6 x3 h9) fun v10 h10 =>
 bnd (pLoadA 6 v5 h10) fun v11 h11 =>
 bnd (pBuildSlice [(.i .i64 (Int.ofNat 0)), (.s []), (.i .i64 (Int.ofNat 0)), .l0, .l0, .l0, (.i .i64 (Int.ofNat 0)), (.s []), (.i .i64 (Int.ofNat 0)), .l0, .l0, .l0] 2 [(0, 6, v10), (6, 6, v11)] h11) fun v12 h12 =>
 bnd (pBuild [(.i .i64 (Int.ofNat 0)), (.s []), (.i .i64 (Int.ofNat 0)), .l0, .l0, .l0] [(0, 1, (.i .i64 (Int.ofNat 7))), (1, 1, v3), (5, 1, v12)] h12) fun v13 h13 =>
 bnd (pStore 6 x3 v13 h13) fun _ h14 =>
      kk3 x0 x3 x4 h14) (
      s59a2 rec n x3 x4 h1)
def s59a3l (rec : RT) (n : Nat) (m : Nat) : TT3 :=
  Nat.rec (motive := fun _ => TT3) (fun _ _ _ _ => none) (fun _ ih => s59a3b rec n ih) m
def s59a3 (rec : RT) (n : Nat) : TT3 := s59a3l rec n n
def s59a1 (rec : RT) (n : Nat) (x0 x3 x4 : DV) (h0 : Hp) : Res :=
  s59a3 rec n x0 x3 x4 h0
/-- vivariumref07.P).binary -/
def s59 (rec : RT) (n : Nat) (x0 x1 : DV) (h0 : Hp) : Res :=
 bnd (pBox x1 h0) fun v1 h1 =>
 bnd (pNew [(.i .i64 (Int.ofNat 0)), (.s []), (.i .i64 (Int.ofNat 0)), .l0, .l0, .l0] h1) fun v2 h2 =>
  s59a1 rec n x0 v1 v2 h2
abbrev c59 : Code := cf Try.f59
abbrev c59x1 : Code := cR c59
abbrev c59x2 : Code := cR c59x1
abbrev c59x3 : Code := cL c59x1
abbrev c59x4 : Code := cL c59x3
abbrev c59x5 : Code := cL c59x4
abbrev c59x6 : Code := cL c59
abbrev r59 : K := retK CF Try.f59
def D59 (rec : RT) (n : Nat) (c : Code) (X : Nat → K) (k : K) : K := codeD CF rec 23 n c X r59 k
theorem s59a2e : D59 rec n c59x2 x0 r59 = (K2 (s59a2 rec n) 3 4) :=
  (by kernel_rfl)
theorem s59a3q1 (kk3 : TT3) (q0 : TT2) : D59 rec n c59x5 (xs x0 0 (K2 q0 3 4)) (K3 kk3 0 3 4) = fun (env : Env) (h : Hp) =>
 bnd (rec 41 [(env 0), (.i .i64 (Int.ofNat 3)), (.s [])] h) fun v1 h1 =>
 ifD v1 (
 bnd (rec 42 [(env 0)] h1) fun v2 h2 =>
 bnd (pPart1 1 v2 h2) fun v3 h3 =>
 bnd (rec 57 [(env 0)] h3) fun v4 h4 =>
 bnd (pNew [(.i .i64 (Int.ofNat 0)), (.s []), (.i .i64 (Int.ofNat 0)), .l0, .l0, .l0] h4) fun v5 h5 =>
 bnd (pStore 6 v5 v4 h5) fun _ h6 =>
 bnd (pLoadA 6 v5 h6) fun v7 h7 =>
 bnd (rec 58 [(env 0), v7] h7) fun v8 h8 =>
 bnd (pStore 6 v5 v8 h8) fun _ h9 =>
 bnd (pLoadA 6 (env 3) h9) fun v10 h10 =>
 bnd (pLoadA 6 v5 h10) fun v11 h11 =>
 bnd (pBuildSlice [(.i .i64 (Int.ofNat 0)), (.s []), (.i .i64 (Int.ofNat 0)), .l0, .l0, .l0, (.i .i64 (Int.ofNat 0)), (.s []), (.i .i64 (Int.ofNat 0)), .l0, .l0, .l0] 2 [(0, 6, v10), (6, 6, v11)] h11) fun v12 h12 =>
 bnd (pBuild [(.i .i64 (Int.ofNat 0)), (.s []), (.i .i64 (Int.ofNat 0)), .l0, .l0, .l0] [(0, 1, (.i .i64 (Int.ofNat 7))), (1, 1, v3), (5, 1, v12)] h12) fun v13 h13 =>
 bnd (pStore 6 (env 3) v13 h13) fun _ h14 =>
      kk3 (env 0) (env 3) (env 4) h14) (
      q0 (env 3) (env 4) h1) := by kernel_rfl
theorem s59a3q1u (kk3 : TT3) : (fun (env : Env) (h : Hp) =>
 bnd (rec 41 [(env 0), (.i .i64 (Int.ofNat 3)), (.s [])] h) fun v1 h1 =>
 ifD v1 (
 bnd (rec 42 [(env 0)] h1) fun v2 h2 =>
 bnd (pPart1 1 v2 h2) fun v3 h3 =>
 bnd (rec 57 [(env 0)] h3) fun v4 h4 =>
 bnd (pNew [(.i .i64 (Int.ofNat 0)), (.s []), (.i .i64 (Int.ofNat 0)), .l0, .l0, .l0] h4) fun v5 h5 =>
 bnd (pStore 6 v5 v4 h5) fun _ h6 =>
 bnd (pLoadA 6 v5 h6) fun v7 h7 =>
 bnd (rec 58 [(env 0), v7] h7) fun v8 h8 =>
 bnd (pStore 6 v5 v8 h8) fun _ h9 =>
 bnd (pLoadA 6 (env 3) h9) fun v10 h10 =>
 bnd (pLoadA 6 v5 h10) fun v11 h11 =>
 bnd (pBuildSlice [(.i .i64 (Int.ofNat 0)), (.s []), (.i .i64 (Int.ofNat 0)), .l0, .l0, .l0, (.i .i64 (Int.ofNat 0)), (.s []), (.i .i64 (Int.ofNat 0)), .l0, .l0, .l0] 2 [(0, 6, v10), (6, 6, v11)] h11) fun v12 h12 =>
 bnd (pBuild [(.i .i64 (Int.ofNat 0)), (.s []), (.i .i64 (Int.ofNat 0)), .l0, .l0, .l0] [(0, 1, (.i .i64 (Int.ofNat 7))), (1, 1, v3), (5, 1, v12)] h12) fun v13 h13 =>
 bnd (pStore 6 (env 3) v13 h13) fun _ h14 =>
      kk3 (env 0) (env 3) (env 4) h14) (
      s59a2 rec n (env 3) (env 4) h1)) = (K3 (s59a3b rec n kk3) 0 3 4) := by kernel_rfl
theorem s59a3be (kk3 : TT3) : D59 rec n c59x5 (xs x0 0 (K2 (s59a2 rec n) 3 4)) (K3 kk3 0 3 4) = (K3 (s59a3b rec n kk3) 0 3 4) :=
  (s59a3q1 rec n kk3 (s59a2 rec n)).trans (s59a3q1u rec n kk3)
theorem s59a3le (m : Nat) : loopN (fun kk => D59 rec n c59x5 (xs x0 0 (K2 (s59a2 rec n) 3 4)) kk) m = (K3 (s59a3l rec n m) 0 3 4) := by
  induction m with
  | zero => exact (by kernel_rfl : loopN (fun kk => D59 rec n c59x5 (xs x0 0 (K2 (s59a2 rec n) 3 4)) kk) 0 = (K3 (s59a3l rec n 0) 0 3 4))
  | succ m ih =>
    refine (by kernel_rfl : loopN (fun kk => D59 rec n c59x5 (xs x0 0 (K2 (s59a2 rec n) 3 4)) kk) (m + 1) = D59 rec n c59x5 (xs x0 0 (K2 (s59a2 rec n) 3 4)) (loopN (fun kk => D59 rec n c59x5 (xs x0 0 (K2 (s59a2 rec n) 3 4)) kk) m)).trans ?_
    rw [ih]
    exact (s59a3be rec n (s59a3l rec n m)).trans (by kernel_rfl)
theorem s59a3e : D59 rec n c59x4 (xs x0 0 (K2 (s59a2 rec n) 3 4)) (K2 (s59a2 rec n) 3 4) = (K3 (s59a3 rec n) 0 3 4) :=
  (by kernel_rfl : D59 rec n c59x4 (xs x0 0 (K2 (s59a2 rec n) 3 4)) (K2 (s59a2 rec n) 3 4) = loopN (fun kk => D59 rec n c59x5 (xs x0 0 (K2 (s59a2 rec n) 3 4)) kk) n).trans ((s59a3le rec n n).trans (by kernel_rfl))
theorem s59a1p2 : D59 rec n c59x1 x0 r59 = D59 rec n c59x3 x0 (K2 (s59a2 rec n) 3 4) :=
  congrArg (fun k => D59 rec n c59x3 x0 k) (s59a2e rec n)
theorem s59a1e : D59 rec n c59x1 x0 r59 = (K3 (s59a1 rec n) 0 3 4) :=
  (s59a1p2 rec n).trans
  ((by kernel_rfl : D59 rec n c59x3 x0 (K2 (s59a2 rec n) 3 4) = D59 rec n c59x4 (xs x0 0 (K2 (s59a2 rec n) 3 4)) (K2 (s59a2 rec n) 3 4)).trans
  ((s59a3e rec n).trans (by kernel_rfl)))
theorem s59p3 : D59 rec n c59 x0 r59 = D59 rec n c59x6 x0 (K3 (s59a1 rec n) 0 3 4) :=
  congrArg (fun k => D59 rec n c59x6 x0 k) (s59a1e rec n)
theorem s59q4 (q0 : TT3) : D59 rec n c59x6 x0 (K3 q0 0 3 4) = fun (env : Env) (h : Hp) =>
 bnd (pBox (env 1) h) fun v1 h1 =>
 bnd (pNew [(.i .i64 (Int.ofNat 0)), (.s []), (.i .i64 (Int.ofNat 0)), .l0, .l0, .l0] h1) fun v2 h2 =>
    q0 (env 0) v1 v2 h2 := by kernel_rfl
theorem s59q4u : (fun (env : Env) (h : Hp) =>
 bnd (pBox (env 1) h) fun v1 h1 =>
 bnd (pNew [(.i .i64 (Int.ofNat 0)), (.s []), (.i .i64 (Int.ofNat 0)), .l0, .l0, .l0] h1) fun v2 h2 =>
    s59a1 rec n (env 0) v1 v2 h2) = (K2 (s59 rec n) 0 1) := by kernel_rfl
theorem s59m : D59 rec n c59 x0 r59 = (K2 (s59 rec n) 0 1) :=
  (s59p3 rec n).trans
  ((s59q4 rec n (s59a1 rec n)).trans (s59q4u rec n))
theorem s59ok (args : List DV) (h : Hp) : bodyD CF rec n 59 args h = s59 rec n (args.getD 0 undefD) (args.getD 1 undefD) h :=
  (by kernel_rfl : bodyD CF rec n 59 args h = D59 rec n c59 x0 r59 (argsE args) h).trans ((congrFun (congrFun (s59m rec n) (argsE args)) h).trans (by kernel_rfl))
/-- vivariumref07.P).keywords -/
def s60 (rec : RT) (n : Nat) (x0 x1 : DV) (h0 : Hp) : Res :=
 bnd (pBox x1 h0) fun v1 h1 =>
 bnd (pNew [(.i .i64 (Int.ofNat 0)), (.s []), (.i .i64 (Int.ofNat 0)), .l0, .l0, .l0] h1) fun v2 h2 =>
 bnd (rec 41 [x0, (.i .i64 (Int.ofNat 2)), (.s [])] h2) fun v3 h3 =>
 bnd (pUn .not v3 h3) fun v4 h4 =>
 ifD v4 (
 bnd (pLoadA 6 v1 h4) fun v5 h5 =>
 bnd (pStore 6 v2 v5 h5) fun _ h6 =>
 bnd (pLoadA 6 v2 h6) fun v7 _ =>
 some (v7, h6)) (
 bnd (rec 61 [x0] h4) fun v8 h8 =>
 bnd (pNew [(.i .i64 (Int.ofNat 0)), (.s []), (.i .i64 (Int.ofNat 0)), .l0, .l0, .l0] h8) fun v9 h9 =>
 bnd (pStore 6 v9 v8 h9) fun _ h10 =>
 bnd (pLoadA 6 v1 h10) fun v11 h11 =>
 bnd (pBuildSlice [(.i .i64 (Int.ofNat 0)), (.s []), (.i .i64 (Int.ofNat 0)), .l0, .l0, .l0] 1 [(0, 6, v11)] h11) fun v12 h12 =>
 bnd (pField 5 v9 h12) fun v13 h13 =>
 bnd (pLoad1 v13 h13) fun v14 h14 =>
 bnd (pAppend 6 104 v12 v14 h14) fun v15 h15 =>
 bnd (pField 1 v9 h15) fun v16 h16 =>
 bnd (pLoad1 v16 h16) fun v17 h17 =>
 bnd (pBuild [(.i .i64 (Int.ofNat 0)), (.s []), (.i .i64 (Int.ofNat 0)), .l0, .l0, .l0] [(0, 1, (.i .i64 (Int.ofNat 7))), (1, 1, v17), (5, 1, v15)] h17) fun v18 h18 =>
 bnd (pStore 6 v2 v18 h18) fun _ h19 =>
 bnd (pLoadA 6 v2 h19) fun v20 _ =>
 some (v20, h19))
abbrev c60 : Code := cf Try.f60
abbrev r60 : K := retK CF Try.f60
def D60 (rec : RT) (n : Nat) (c : Code) (X : Nat → K) (k : K) : K := codeD CF rec 23 n c X r60 k
theorem s60m : D60 rec n c60 x0 r60 = (K2 (s60 rec n) 0 1) :=
  (by kernel_rfl)
theorem s60ok (args : List DV) (h : Hp) : bodyD CF rec n 60 args h = s60 rec n (args.getD 0 undefD) (args.getD 1 undefD) h :=
  (by kernel_rfl : bodyD CF rec n 60 args h = D60 rec n c60 x0 r60 (argsE args) h).trans ((congrFun (congrFun (s60m rec n) (argsE args)) h).trans (by kernel_rfl))
def s61a6 (rec : RT) (n : Nat) (x2 x3 : DV) (h0 : Hp) : Res :=
 bnd (pLoadA 6 x3 h0) fun v1 h1 =>
 bnd (pStore 6 x2 v1 h1) fun _ h2 =>
 bnd (pLoadA 6 x2 h2) fun v3 _ =>
 some (v3, h2)
def s61a7b (rec : RT) (n : Nat) (kk7 : TT3) (x0 x2 x3 : DV) (h0 : Hp) : Res :=
 bnd (rec 41 [x0, (.i .i64 (Int.ofNat 2)), (.s [])] h0) fun v1 h1 =>
 ifD v1 (
 bnd (pField 1 x3 h1) fun v2 h2 =>
 bnd (pLoad1 v2 h2) fun v3 h3 =>
 bnd (rec 42 [x0] h3) fun v4 h4 =>
 cnd (sameR (pLoad1 v2 h4) v3 && true) (
 bnd (pPart1 1 v4 h4) fun v5 h5 =>
 bnd (pStr .add v3 v5 h5) fun v6 h6 =>
 bnd (pField 1 x3 h6) fun v7 h7 =>
 bnd (pStore 1 v7 v6 h7) fun v8 h8 =>
 bnd (rec 57 [x0] h8) fun v9 h9 =>
 bnd (pNew [(.i .i64 (Int.ofNat 0)), (.s []), (.i .i64 (Int.ofNat 0)), .l0, .l0, .l0] h9) fun v10 h10 =>
 bnd (pStore 6 v10 v9 h10) fun _ h11 =>
 bnd (pLoadA 6 v10 h11) fun v12 h12 =>
 bnd (rec 58 [x0, v12] h12) fun v13 h13 =>
 bnd (pStore 6 v10 v13 h13) fun _ h14 =>
 bnd (pField 5 x3 (resv 1 h14)) fun v15 h15 =>
 bnd (pLoad1 v15 h15) fun v16 h16 =>
 bnd (pLoadA 6 v10 h16) fun v17 h17 =>
 bnd (rec 59 [x0, v17] h17) fun v18 h18 =>
 cnd (sameR (pLoad1 v15 h18) v16 && true) (
 bnd (pBuildSliceAt (nthPos 0 h14.next) [(.i .i64 (Int.ofNat 0)), (.s []), (.i .i64 (Int.ofNat 0)), .l0, .l0, .l0] 1 [(0, 6, v18)] h18) fun v19 h19 =>
 bnd (pAppend 6 104 v16 v19 h19) fun v20 h20 =>
 bnd (pField 5 x3 h20) fun v21 h21 =>
 bnd (pStore 1 v21 v20 h21) fun v22 h22 =>
      kk7 x0 x2 x3 h22))) (
      s61a6 rec n x2 x3 h1)
def s61a7l (rec : RT) (n : Nat) (m : Nat) : TT3 :=
  Nat.rec (motive := fun _ => TT3) (fun _ _ _ _ => none) (fun _ ih => s61a7b rec n ih) m
def s61a7 (rec : RT) (n : Nat) : TT3 := s61a7l rec n n
def s61a5 (rec : RT) (n : Nat) (x0 x2 x3 : DV) (h0 : Hp) : Res :=
  s61a7 rec n x0 x2 x3 h0
def s61a4 (rec : RT) (n : Nat) (x0 x2 x3 : DV) (h0 : Hp) : Res :=
 bnd (rec 41 [x0, (.i .i64 (Int.ofNat 2)), (.s [])] h0) fun v1 h1 =>
 bnd (pUn .not v1 h1) fun v2 h2 =>
 ifD v2 (
 bnd (rec 46 [x0, (.i .i64 (Int.ofNat 0))] h2) fun v3 h3 =>
 bnd (rec 44 [x0, v3, (.i .i64 (Int.ofNat 13))] h3) fun v4 h4 =>
    s61a5 rec n x0 x2 x3 h4) (
    s61a5 rec n x0 x2 x3 h2)
def s61a3 (rec : RT) (n : Nat) (x0 x2 x3 : DV) (h0 : Hp) : Res :=
 bnd (rec 41 [x0, (.i .i64 (Int.ofNat 3)), (.s [])] h0) fun v1 h1 =>
 ifD v1 (
 bnd (rec 42 [x0] h1) fun v2 h2 =>
 bnd (pPart1 1 v2 h2) fun v3 h3 =>
 bnd (pField 1 x3 h3) fun v4 h4 =>
 bnd (pStore 1 v4 v3 h4) fun _ h5 =>
 bnd (rec 57 [x0] h5) fun v6 h6 =>
 bnd (pNew [(.i .i64 (Int.ofNat 0)), (.s []), (.i .i64 (Int.ofNat 0)), .l0, .l0, .l0] h6) fun v7 h7 =>
 bnd (pStore 6 v7 v6 h7) fun _ h8 =>
 bnd (pField 5 x3 (resv 1 h8)) fun v9 h9 =>
 bnd (pLoad1 v9 h9) fun v10 h10 =>
 bnd (pLoadA 6 v7 h10) fun v11 h11 =>
 bnd (rec 58 [x0, v11] h11) fun v12 h12 =>
 cnd (sameR (pLoad1 v9 h12) v10 && true) (
 bnd (pBuildSliceAt (nthPos 0 h8.next) [(.i .i64 (Int.ofNat 0)), (.s []), (.i .i64 (Int.ofNat 0)), .l0, .l0, .l0] 1 [(0, 6, v12)] h12) fun v13 h13 =>
 bnd (pAppend 6 104 v10 v13 h13) fun v14 h14 =>
 bnd (pField 5 x3 h14) fun v15 h15 =>
 bnd (pStore 1 v15 v14 h15) fun v16 h16 =>
 bnd (pLoadA 6 x3 h16) fun v17 h17 =>
 bnd (pStore 6 x2 v17 h17) fun _ h18 =>
 bnd (pLoadA 6 x2 h18) fun v19 _ =>
 some (v19, h18))) (
    s61a4 rec n x0 x2 x3 h1)
def s61a2 (rec : RT) (n : Nat) (x0 x2 x3 : DV) (h0 : Hp) : Res :=
 bnd (rec 41 [x0, (.i .i64 (Int.ofNat 1)), (.s [])] h0) fun v1 h1 =>
 ifD v1 (
 bnd (rec 42 [x0] h1) fun v2 h2 =>
 bnd (pPart1 1 v2 h2) fun v3 h3 =>
 bnd (pField 1 x3 h3) fun v4 h4 =>
 bnd (pStore 1 v4 v3 h4) fun _ h5 =>
 bnd (pLoadA 6 x3 h5) fun v6 h6 =>
 bnd (pStore 6 x2 v6 h6) fun _ h7 =>
 bnd (pLoadA 6 x2 h7) fun v8 _ =>
 some (v8, h7)) (
    s61a3 rec n x0 x2 x3 h1)
def s61a1 (rec : RT) (n : Nat) (x0 x2 : DV) (h0 : Hp) : Res :=
 bnd (pBuild [(.i .i64 (Int.ofNat 0)), (.s []), (.i .i64 (Int.ofNat 0)), .l0, .l0, .l0] [(0, 1, (.i .i64 (Int.ofNat 7)))] h0) fun v1 h1 =>
 bnd (pNew [(.i .i64 (Int.ofNat 0)), (.s []), (.i .i64 (Int.ofNat 0)), .l0, .l0, .l0] h1) fun v2 h2 =>
 bnd (pStore 6 v2 v1 h2) fun _ h3 =>
  s61a2 rec n x0 x2 v2 h3
/-- vivariumref07.P).message -/
def s61 (rec : RT) (n : Nat) (x0 : DV) (h0 : Hp) : Res :=
 bnd (pNew [(.i .i64 (Int.ofNat 0)), (.s []), (.i .i64 (Int.ofNat 0)), .l0, .l0, .l0] h0) fun v1 h1 =>
  s61a1 rec n x0 v1 h1
abbrev c61 : Code := cf Try.f61
abbrev c61x1 : Code := cR c61
abbrev c61x2 : Code := cR c61x1
abbrev c61x3 : Code := cR c61x2
abbrev c61x4 : Code := cR c61x3
abbrev c61x5 : Code := cR c61x4
abbrev c61x6 : Code := cR c61x5
abbrev c61x7 : Code := cL c61x5
abbrev c61x8 : Code := cL c61x7
abbrev c61x9 : Code := cL c61x8
abbrev c61x10 : Code := cL c61x4
abbrev c61x11 : Code := cL c61x3
abbrev c61x12 : Code := cL c61x2
abbrev c61x13 : Code := cL c61x1
abbrev c61x14 : Code := cL c61
abbrev r61 : K := retK CF Try.f61
def D61 (rec : RT) (n : Nat) (c : Code) (X : Nat → K) (k : K) : K := codeD CF rec 61 n c X r61 k
theorem s61a6e : D61 rec n c61x6 x0 r61 = (K2 (s61a6 rec n) 2 3) :=
  (by kernel_rfl)
theorem s61a7q1 (kk7 : TT3) (q0 : TT2) : D61 rec n c61x9 (xs x0 0 (K2 q0 2 3)) (K3 kk7 0 2 3) = fun (env : Env) (h : Hp) =>
 bnd (rec 41 [(env 0), (.i .i64 (Int.ofNat 2)), (.s [])] h) fun v1 h1 =>
 ifD v1 (
 bnd (pField 1 (env 3) h1) fun v2 h2 =>
 bnd (pLoad1 v2 h2) fun v3 h3 =>
 bnd (rec 42 [(env 0)] h3) fun v4 h4 =>
 cnd (sameR (pLoad1 v2 h4) v3 && true) (
 bnd (pPart1 1 v4 h4) fun v5 h5 =>
 bnd (pStr .add v3 v5 h5) fun v6 h6 =>
 bnd (pField 1 (env 3) h6) fun v7 h7 =>
 bnd (pStore 1 v7 v6 h7) fun v8 h8 =>
 bnd (rec 57 [(env 0)] h8) fun v9 h9 =>
 bnd (pNew [(.i .i64 (Int.ofNat 0)), (.s []), (.i .i64 (Int.ofNat 0)), .l0, .l0, .l0] h9) fun v10 h10 =>
 bnd (pStore 6 v10 v9 h10) fun _ h11 =>
 bnd (pLoadA 6 v10 h11) fun v12 h12 =>
 bnd (rec 58 [(env 0), v12] h12) fun v13 h13 =>
 bnd (pStore 6 v10 v13 h13) fun _ h14 =>
 bnd (pField 5 (env 3) (resv 1 h14)) fun v15 h15 =>
 bnd (pLoad1 v15 h15) fun v16 h16 =>
 bnd (pLoadA 6 v10 h16) fun v17 h17 =>
 bnd (rec 59 [(env 0), v17] h17) fun v18 h18 =>
 cnd (sameR (pLoad1 v15 h18) v16 && true) (
 bnd (pBuildSliceAt (nthPos 0 h14.next) [(.i .i64 (Int.ofNat 0)), (.s []), (.i .i64 (Int.ofNat 0)), .l0, .l0, .l0] 1 [(0, 6, v18)] h18) fun v19 h19 =>
 bnd (pAppend 6 104 v16 v19 h19) fun v20 h20 =>
 bnd (pField 5 (env 3) h20) fun v21 h21 =>
 bnd (pStore 1 v21 v20 h21) fun v22 h22 =>
      kk7 (env 0) (env 2) (env 3) h22))) (
      q0 (env 2) (env 3) h1) := by kernel_rfl
theorem s61a7q1u (kk7 : TT3) : (fun (env : Env) (h : Hp) =>
 bnd (rec 41 [(env 0), (.i .i64 (Int.ofNat 2)), (.s [])] h) fun v1 h1 =>
 ifD v1 (
 bnd (pField 1 (env 3) h1) fun v2 h2 =>
 bnd (pLoad1 v2 h2) fun v3 h3 =>
 bnd (rec 42 [(env 0)] h3) fun v4 h4 =>
 cnd (sameR (pLoad1 v2 h4) v3 && true) (
 bnd (pPart1 1 v4 h4) fun v5 h5 =>
 bnd (pStr .add v3 v5 h5) fun v6 h6 =>
 bnd (pField 1 (env 3) h6) fun v7 h7 =>
 bnd (pStore 1 v7 v6 h7) fun v8 h8 =>
 bnd (rec 57 [(env 0)] h8) fun v9 h9 =>
 bnd (pNew [(.i .i64 (Int.ofNat 0)), (.s []), (.i .i64 (Int.ofNat 0)), .l0, .l0, .l0] h9) fun v10 h10 =>
 bnd (pStore 6 v10 v9 h10) fun _ h11 =>
 bnd (pLoadA 6 v10 h11) fun v12 h12 =>
 bnd (rec 58 [(env 0), v12] h12) fun v13 h13 =>
 bnd (pStore 6 v10 v13 h13) fun _ h14 =>
 bnd (pField 5 (env 3) (resv 1 h14)) fun v15 h15 =>
 bnd (pLoad1 v15 h15) fun v16 h16 =>
 bnd (pLoadA 6 v10 h16) fun v17 h17 =>
 bnd (rec 59 [(env 0), v17] h17) fun v18 h18 =>
 cnd (sameR (pLoad1 v15 h18) v16 && true) (
 bnd (pBuildSliceAt (nthPos 0 h14.next) [(.i .i64 (Int.ofNat 0)), (.s []), (.i .i64 (Int.ofNat 0)), .l0, .l0, .l0] 1 [(0, 6, v18)] h18) fun v19 h19 =>
 bnd (pAppend 6 104 v16 v19 h19) fun v20 h20 =>
 bnd (pField 5 (env 3) h20) fun v21 h21 =>
 bnd (pStore 1 v21 v20 h21) fun v22 h22 =>
      kk7 (env 0) (env 2) (env 3) h22))) (
      s61a6 rec n (env 2) (env 3) h1)) = (K3 (s61a7b rec n kk7) 0 2 3) := by kernel_rfl
theorem s61a7be (kk7 : TT3) : D61 rec n c61x9 (xs x0 0 (K2 (s61a6 rec n) 2 3)) (K3 kk7 0 2 3) = (K3 (s61a7b rec n kk7) 0 2 3) :=
  (s61a7q1 rec n kk7 (s61a6 rec n)).trans (s61a7q1u rec n kk7)
theorem s61a7le (m : Nat) : loopN (fun kk => D61 rec n c61x9 (xs x0 0 (K2 (s61a6 rec n) 2 3)) kk) m = (K3 (s61a7l rec n m) 0 2 3) := by
  induction m with
  | zero => exact (by kernel_rfl : loopN (fun kk => D61 rec n c61x9 (xs x0 0 (K2 (s61a6 rec n) 2 3)) kk) 0 = (K3 (s61a7l rec n 0) 0 2 3))
  | succ m ih =>
    refine (by kernel_rfl : loopN (fun kk => D61 rec n c61x9 (xs x0 0 (K2 (s61a6 rec n) 2 3)) kk) (m + 1) = D61 rec n c61x9 (xs x0 0 (K2 (s61a6 rec n) 2 3)) (loopN (fun kk => D61 rec n c61x9 (xs x0 0 (K2 (s61a6 rec n) 2 3)) kk) m)).trans ?_
    rw [ih]
    exact (s61a7be rec n (s61a7l rec n m)).trans (by kernel_rfl)
theorem s61a7e : D61 rec n c61x8 (xs x0 0 (K2 (s61a6 rec n) 2 3)) (K2 (s61a6 rec n) 2 3) = (K3 (s61a7 rec n) 0 2 3) :=
  (by kernel_rfl : D61 rec n c61x8 (xs x0 0 (K2 (s61a6 rec n) 2 3)) (K2 (s61a6 rec n) 2 3) = loopN (fun kk => D61 rec n c61x9 (xs x0 0 (K2 (s61a6 rec n) 2 3)) kk) n).trans ((s61a7le rec n n).trans (by kernel_rfl))
theorem s61a5p2 : D61 rec n c61x5 x0 r61 = D61 rec n c61x7 x0 (K2 (s61a6 rec n) 2 3) :=
  congrArg (fun k => D61 rec n c61x7 x0 k) (s61a6e rec n)
theorem s61a5e : D61 rec n c61x5 x0 r61 = (K3 (s61a5 rec n) 0 2 3) :=
  (s61a5p2 rec n).trans
  ((by kernel_rfl : D61 rec n c61x7 x0 (K2 (s61a6 rec n) 2 3) = D61 rec n c61x8 (xs x0 0 (K2 (s61a6 rec n) 2 3)) (K2 (s61a6 rec n) 2 3)).trans
  ((s61a7e rec n).trans (by kernel_rfl)))
theorem s61a4p3 : D61 rec n c61x4 x0 r61 = D61 rec n c61x10 x0 (K3 (s61a5 rec n) 0 2 3) :=
  congrArg (fun k => D61 rec n c61x10 x0 k) (s61a5e rec n)
theorem s61a4e : D61 rec n c61x4 x0 r61 = (K3 (s61a4 rec n) 0 2 3) :=
  (s61a4p3 rec n).trans
  ((by kernel_rfl))
theorem s61a3p4 : D61 rec n c61x3 x0 r61 = D61 rec n c61x11 x0 (K3 (s61a4 rec n) 0 2 3) :=
  congrArg (fun k => D61 rec n c61x11 x0 k) (s61a4e rec n)
theorem s61a3q5 (q0 : TT3) : D61 rec n c61x11 x0 (K3 q0 0 2 3) = fun (env : Env) (h : Hp) =>
 bnd (rec 41 [(env 0), (.i .i64 (Int.ofNat 3)), (.s [])] h) fun v1 h1 =>
 ifD v1 (
 bnd (rec 42 [(env 0)] h1) fun v2 h2 =>
 bnd (pPart1 1 v2 h2) fun v3 h3 =>
 bnd (pField 1 (env 3) h3) fun v4 h4 =>
 bnd (pStore 1 v4 v3 h4) fun _ h5 =>
 bnd (rec 57 [(env 0)] h5) fun v6 h6 =>
 bnd (pNew [(.i .i64 (Int.ofNat 0)), (.s []), (.i .i64 (Int.ofNat 0)), .l0, .l0, .l0] h6) fun v7 h7 =>
 bnd (pStore 6 v7 v6 h7) fun _ h8 =>
 bnd (pField 5 (env 3) (resv 1 h8)) fun v9 h9 =>
 bnd (pLoad1 v9 h9) fun v10 h10 =>
 bnd (pLoadA 6 v7 h10) fun v11 h11 =>
 bnd (rec 58 [(env 0), v11] h11) fun v12 h12 =>
 cnd (sameR (pLoad1 v9 h12) v10 && true) (
 bnd (pBuildSliceAt (nthPos 0 h8.next) [(.i .i64 (Int.ofNat 0)), (.s []), (.i .i64 (Int.ofNat 0)), .l0, .l0, .l0] 1 [(0, 6, v12)] h12) fun v13 h13 =>
 bnd (pAppend 6 104 v10 v13 h13) fun v14 h14 =>
 bnd (pField 5 (env 3) h14) fun v15 h15 =>
 bnd (pStore 1 v15 v14 h15) fun v16 h16 =>
 bnd (pLoadA 6 (env 3) h16) fun v17 h17 =>
 bnd (pStore 6 (env 2) v17 h17) fun _ h18 =>
 bnd (pLoadA 6 (env 2) h18) fun v19 _ =>
 some (v19, h18))) (
      q0 (env 0) (env 2) (env 3) h1) := by kernel_rfl
theorem s61a3q5u : (fun (env : Env) (h : Hp) =>
 bnd (rec 41 [(env 0), (.i .i64 (Int.ofNat 3)), (.s [])] h) fun v1 h1 =>
 ifD v1 (
 bnd (rec 42 [(env 0)] h1) fun v2 h2 =>
 bnd (pPart1 1 v2 h2) fun v3 h3 =>
 bnd (pField 1 (env 3) h3) fun v4 h4 =>
 bnd (pStore 1 v4 v3 h4) fun _ h5 =>
 bnd (rec 57 [(env 0)] h5) fun v6 h6 =>
 bnd (pNew [(.i .i64 (Int.ofNat 0)), (.s []), (.i .i64 (Int.ofNat 0)), .l0, .l0, .l0] h6) fun v7 h7 =>
 bnd (pStore 6 v7 v6 h7) fun _ h8 =>
 bnd (pField 5 (env 3) (resv 1 h8)) fun v9 h9 =>
 bnd (pLoad1 v9 h9) fun v10 h10 =>
 bnd (pLoadA 6 v7 h10) fun v11 h11 =>
 bnd (rec 58 [(env 0), v11] h11) fun v12 h12 =>
 cnd (sameR (pLoad1 v9 h12) v10 && true) (
 bnd (pBuildSliceAt (nthPos 0 h8.next) [(.i .i64 (Int.ofNat 0)), (.s []), (.i .i64 (Int.ofNat 0)), .l0, .l0, .l0] 1 [(0, 6, v12)] h12) fun v13 h13 =>
 bnd (pAppend 6 104 v10 v13 h13) fun v14 h14 =>
 bnd (pField 5 (env 3) h14) fun v15 h15 =>
 bnd (pStore 1 v15 v14 h15) fun v16 h16 =>
 bnd (pLoadA 6 (env 3) h16) fun v17 h17 =>
 bnd (pStore 6 (env 2) v17 h17) fun _ h18 =>
 bnd (pLoadA 6 (env 2) h18) fun v19 _ =>
 some (v19, h18))) (
      s61a4 rec n (env 0) (env 2) (env 3) h1)) = (K3 (s61a3 rec n) 0 2 3) := by kernel_rfl
theorem s61a3e : D61 rec n c61x3 x0 r61 = (K3 (s61a3 rec n) 0 2 3) :=
  (s61a3p4 rec n).trans
  ((s61a3q5 rec n (s61a4 rec n)).trans (s61a3q5u rec n))
theorem s61a2p6 : D61 rec n c61x2 x0 r61 = D61 rec n c61x12 x0 (K3 (s61a3 rec n) 0 2 3) :=
  congrArg (fun k => D61 rec n c61x12 x0 k) (s61a3e rec n)
theorem s61a2e : D61 rec n c61x2 x0 r61 = (K3 (s61a2 rec n) 0 2 3) :=
  (s61a2p6 rec n).trans
  ((by kernel_rfl))
theorem s61a1p7 : D61 rec n c61x1 x0 r61 = D61 rec n c61x13 x0 (K3 (s61a2 rec n) 0 2 3) :=
  congrArg (fun k => D61 rec n c61x13 x0 k) (s61a2e rec n)
theorem s61a1q8 (q0 : TT3) : D61 rec n c61x13 x0 (K3 q0 0 2 3) = fun (env : Env) (h : Hp) =>
 bnd (pBuild [(.i .i64 (Int.ofNat 0)), (.s []), (.i .i64 (Int.ofNat 0)), .l0, .l0, .l0] [(0, 1, (.i .i64 (Int.ofNat 7)))] h) fun v1 h1 =>
 bnd (pNew [(.i .i64 (Int.ofNat 0)), (.s []), (.i .i64 (Int.ofNat 0)), .l0, .l0, .l0] h1) fun v2 h2 =>
 bnd (pStore 6 v2 v1 h2) fun _ h3 =>
    q0 (env 0) (env 2) v2 h3 := by kernel_rfl
theorem s61a1q8u : (fun (env : Env) (h : Hp) =>
 bnd (pBuild [(.i .i64 (Int.ofNat 0)), (.s []), (.i .i64 (Int.ofNat 0)), .l0, .l0, .l0] [(0, 1, (.i .i64 (Int.ofNat 7)))] h) fun v1 h1 =>
 bnd (pNew [(.i .i64 (Int.ofNat 0)), (.s []), (.i .i64 (Int.ofNat 0)), .l0, .l0, .l0] h1) fun v2 h2 =>
 bnd (pStore 6 v2 v1 h2) fun _ h3 =>
    s61a2 rec n (env 0) (env 2) v2 h3) = (K2 (s61a1 rec n) 0 2) := by kernel_rfl
theorem s61a1e : D61 rec n c61x1 x0 r61 = (K2 (s61a1 rec n) 0 2) :=
  (s61a1p7 rec n).trans
  ((s61a1q8 rec n (s61a2 rec n)).trans (s61a1q8u rec n))
theorem s61p9 : D61 rec n c61 x0 r61 = D61 rec n c61x14 x0 (K2 (s61a1 rec n) 0 2) :=
  congrArg (fun k => D61 rec n c61x14 x0 k) (s61a1e rec n)
theorem s61q10 (q0 : TT2) : D61 rec n c61x14 x0 (K2 q0 0 2) = fun (env : Env) (h : Hp) =>
 bnd (pNew [(.i .i64 (Int.ofNat 0)), (.s []), (.i .i64 (Int.ofNat 0)), .l0, .l0, .l0] h) fun v1 h1 =>
    q0 (env 0) v1 h1 := by kernel_rfl
theorem s61q10u : (fun (env : Env) (h : Hp) =>
 bnd (pNew [(.i .i64 (Int.ofNat 0)), (.s []), (.i .i64 (Int.ofNat 0)), .l0, .l0, .l0] h) fun v1 h1 =>
    s61a1 rec n (env 0) v1 h1) = (K1 (s61 rec n) 0) := by kernel_rfl
theorem s61m : D61 rec n c61 x0 r61 = (K1 (s61 rec n) 0) :=
  (s61p9 rec n).trans
  ((s61q10 rec n (s61a1 rec n)).trans (s61q10u rec n))
theorem s61ok (args : List DV) (h : Hp) : bodyD CF rec n 61 args h = s61 rec n (args.getD 0 undefD) h :=
  (by kernel_rfl : bodyD CF rec n 61 args h = D61 rec n c61 x0 r61 (argsE args) h).trans ((congrFun (congrFun (s61m rec n) (argsE args)) h).trans (by kernel_rfl))
/-- lex.in$1 -/
def s62 (rec : RT) (n : Nat) (x0 x1 : DV) (h0 : Hp) : Res :=
 bnd (pLoad1 x1 h0) fun v1 h1 =>
 bnd (rec 49 [v1, x0] h1) fun v2 h2 =>
 bnd (pInt .geq v2 (.i .i64 (Int.ofNat 0)) h2) fun v3 h3 =>
 some (v3, h3)
abbrev c62 : Code := cf Try.f62
abbrev r62 : K := retK CF Try.f62
def D62 (rec : RT) (n : Nat) (c : Code) (X : Nat → K) (k : K) : K := codeD CF rec 8 n c X r62 k
theorem s62m : D62 rec n c62 x0 r62 = (K2 (s62 rec n) 0 1) :=
  (by kernel_rfl)
theorem s62ok (args : List DV) (h : Hp) : bodyD CF rec n 62 args h = s62 rec n (args.getD 0 undefD) (args.getD 1 undefD) h :=
  (by kernel_rfl : bodyD CF rec n 62 args h = D62 rec n c62 x0 r62 (argsE args) h).trans ((congrFun (congrFun (s62m rec n) (argsE args)) h).trans (by kernel_rfl))
/-- stringslite.IndexByte -/
def s63 (rec : RT) (n : Nat) (x0 x1 : DV) (h0 : Hp) : Res :=
 bnd (idxF [x0, x1] h0) fun v1 h1 =>
 some (v1, h1)
abbrev c63 : Code := cf Try.f63
abbrev r63 : K := retK CF Try.f63
def D63 (rec : RT) (n : Nat) (c : Code) (X : Nat → K) (k : K) : K := codeD CF rec 8 n c X r63 k
theorem s63m : D63 rec n c63 x0 r63 = (K2 (s63 rec n) 0 1) :=
  (by kernel_rfl)
theorem s63ok (args : List DV) (h : Hp) : bodyD CF rec n 63 args h = s63 rec n (args.getD 0 undefD) (args.getD 1 undefD) h :=
  (by kernel_rfl : bodyD CF rec n 63 args h = D63 rec n c63 x0 r63 (argsE args) h).trans ((congrFun (congrFun (s63m rec n) (argsE args)) h).trans (by kernel_rfl))
/-- lex.reader).next -/
def s64 (rec : RT) (n : Nat) (x0 x1 : DV) (h0 : Hp) : Res :=
 bnd (pNil x0 h0) fun v1 h1 =>
 bnd (pField 1 v1 h1) fun v2 h2 =>
 bnd (pLoad1 v2 h2) fun v3 h3 =>
 bnd (pInt .add v3 x1 h3) fun v4 h4 =>
 bnd (pNil x0 h4) fun v5 h5 =>
 bnd (pField 0 v5 h5) fun v6 h6 =>
 bnd (pLoad1 v6 h6) fun v7 h7 =>
 bnd (pLenS v7 h7) fun v8 h8 =>
 bnd (pInt .geq v4 v8 h8) fun v9 h9 =>
 ifD v9 (
 some ((.i .u8 (Int.ofNat 0)), h9)) (
 bnd (pNil x0 h9) fun v10 h10 =>
 bnd (pField 0 v10 h10) fun v11 h11 =>
 bnd (pLoad1 v11 h11) fun v12 h12 =>
 bnd (pNil x0 h12) fun v13 h13 =>
 bnd (pField 1 v13 h13) fun v14 h14 =>
 bnd (pLoad1 v14 h14) fun v15 h15 =>
 bnd (pInt .add v15 x1 h15) fun v16 h16 =>
 bnd (pIndexS v12 v16 h16) fun v17 h17 =>
 some (v17, h17))
abbrev c64 : Code := cf Try.f64
abbrev r64 : K := retK CF Try.f64
def D64 (rec : RT) (n : Nat) (c : Code) (X : Nat → K) (k : K) : K := codeD CF rec 28 n c X r64 k
theorem s64m : D64 rec n c64 x0 r64 = (K2 (s64 rec n) 0 1) :=
  (by kernel_rfl)
theorem s64ok (args : List DV) (h : Hp) : bodyD CF rec n 64 args h = s64 rec n (args.getD 0 undefD) (args.getD 1 undefD) h :=
  (by kernel_rfl : bodyD CF rec n 64 args h = D64 rec n c64 x0 r64 (argsE args) h).trans ((congrFun (congrFun (s64m rec n) (argsE args)) h).trans (by kernel_rfl))
/-- lex.letter -/
def s65 (rec : RT) (n : Nat) (x0 : DV) (h0 : Hp) : Res :=
 bnd (pInt .geq x0 (.i .u8 (Int.ofNat 97)) h0) fun v1 h1 =>
 bnd (gD v1 true (some (x0, h1)) h1) fun v2 h2 =>
 bnd (gD v1 true (pInt .leq v2 (.i .u8 (Int.ofNat 122)) h2) h2) fun v3 h3 =>
 bnd (pPick v1 v3 (.b false) h3) fun v4 h4 =>
 bnd (gD v4 false (some (x0, h4)) h4) fun v5 h5 =>
 bnd (gD v4 false (pInt .geq v5 (.i .u8 (Int.ofNat 65)) h5) h5) fun v6 h6 =>
 bnd (gD v4 false (some (v6, h6)) h6) fun v7 h7 =>
 bnd (gD v7 true (some (x0, h7)) h7) fun v8 h8 =>
 bnd (gD v7 true (pInt .leq v8 (.i .u8 (Int.ofNat 90)) h8) h8) fun v9 h9 =>
 bnd (gD v4 false (pPick v7 v9 (.b false) h9) h9) fun v10 h10 =>
 bnd (pPick v4 (.b true) v10 h10) fun v11 h11 =>
 some (v11, h11)
abbrev c65 : Code := cf Try.f65
abbrev r65 : K := retK CF Try.f65
def D65 (rec : RT) (n : Nat) (c : Code) (X : Nat → K) (k : K) : K := codeD CF rec 17 n c X r65 k
theorem s65m : D65 rec n c65 x0 r65 = (K1 (s65 rec n) 0) :=
  (by kernel_rfl)
theorem s65ok (args : List DV) (h : Hp) : bodyD CF rec n 65 args h = s65 rec n (args.getD 0 undefD) h :=
  (by kernel_rfl : bodyD CF rec n 65 args h = D65 rec n c65 x0 r65 (argsE args) h).trans ((congrFun (congrFun (s65m rec n) (argsE args)) h).trans (by kernel_rfl))
/-- lex.reader).name -/
def s66 (rec : RT) (n : Nat) (x0 : DV) (h0 : Hp) : Res :=
 bnd (pNil x0 h0) fun v1 h1 =>
 bnd (pField 0 v1 h1) fun v2 h2 =>
 bnd (pLoad1 v2 h2) fun v3 h3 =>
 bnd (pLenS v3 h3) fun v4 h4 =>
 bnd (rec 47 [x0, (.f 78 [] []), v4] h4) fun v5 h5 =>
 bnd (pLenS v5 h5) fun v6 h6 =>
 bnd (pInt .gtr v6 (.i .i64 (Int.ofNat 24)) h6) fun v7 h7 =>
 ifD v7 (
 some (.t [(.s []), (.i .i64 (Int.ofNat 12))], h7)) (
 some (.t [v5, (.i .i64 (Int.ofNat 0))], h7))
abbrev c66 : Code := cf Try.f66
abbrev r66 : K := retK CF Try.f66
def D66 (rec : RT) (n : Nat) (c : Code) (X : Nat → K) (k : K) : K := codeD CF rec 16 n c X r66 k
theorem s66m : D66 rec n c66 x0 r66 = (K1 (s66 rec n) 0) :=
  (by kernel_rfl)
theorem s66ok (args : List DV) (h : Hp) : bodyD CF rec n 66 args h = s66 rec n (args.getD 0 undefD) h :=
  (by kernel_rfl : bodyD CF rec n 66 args h = D66 rec n c66 x0 r66 (argsE args) h).trans ((congrFun (congrFun (s66m rec n) (argsE args)) h).trans (by kernel_rfl))
/-- lex.reader).colon -/
def s67 (rec : RT) (n : Nat) (x0 : DV) (h0 : Hp) : Res :=
 bnd (rec 64 [x0, (.i .i64 (Int.ofNat 0))] h0) fun v1 h1 =>
 bnd (pInt .neq v1 (.i .u8 (Int.ofNat 58)) h1) fun v2 h2 =>
 bnd (gD v2 false (some (x0, h2)) h2) fun v3 h3 =>
 bnd (gD v2 false (rec 64 [v3, (.i .i64 (Int.ofNat 1))] h3) h3) fun v4 h4 =>
 bnd (gD v2 false (pInt .eql v4 (.i .u8 (Int.ofNat 61)) h4) h4) fun v5 h5 =>
 bnd (pPick v2 (.b true) v5 h5) fun v6 h6 =>
 ifD v6 (
 some ((.b false), h6)) (
 bnd (pNil x0 h6) fun v7 h7 =>
 bnd (pField 1 v7 h7) fun v8 h8 =>
 bnd (pLoad1 v8 h8) fun v9 h9 =>
 bnd (pInt .add v9 (.i .i64 (Int.ofNat 1)) h9) fun v10 h10 =>
 bnd (pNil x0 h10) fun v11 h11 =>
 bnd (pField 1 v11 h11) fun v12 h12 =>
 bnd (pStore 1 v12 v10 h12) fun _ h13 =>
 some ((.b true), h13))
abbrev c67 : Code := cf Try.f67
abbrev r67 : K := retK CF Try.f67
def D67 (rec : RT) (n : Nat) (c : Code) (X : Nat → K) (k : K) : K := codeD CF rec 18 n c X r67 k
theorem s67m : D67 rec n c67 x0 r67 = (K1 (s67 rec n) 0) :=
  (by kernel_rfl)
theorem s67ok (args : List DV) (h : Hp) : bodyD CF rec n 67 args h = s67 rec n (args.getD 0 undefD) h :=
  (by kernel_rfl : bodyD CF rec n 67 args h = D67 rec n c67 x0 r67 (argsE args) h).trans ((congrFun (congrFun (s67m rec n) (argsE args)) h).trans (by kernel_rfl))
/-- lex.digit -/
def s68 (rec : RT) (n : Nat) (x0 : DV) (h0 : Hp) : Res :=
 bnd (pInt .geq x0 (.i .u8 (Int.ofNat 48)) h0) fun v1 h1 =>
 bnd (gD v1 true (some (x0, h1)) h1) fun v2 h2 =>
 bnd (gD v1 true (pInt .leq v2 (.i .u8 (Int.ofNat 57)) h2) h2) fun v3 h3 =>
 bnd (pPick v1 v3 (.b false) h3) fun v4 h4 =>
 some (v4, h4)
abbrev c68 : Code := cf Try.f68
abbrev r68 : K := retK CF Try.f68
def D68 (rec : RT) (n : Nat) (c : Code) (X : Nat → K) (k : K) : K := codeD CF rec 9 n c X r68 k
theorem s68m : D68 rec n c68 x0 r68 = (K1 (s68 rec n) 0) :=
  (by kernel_rfl)
theorem s68ok (args : List DV) (h : Hp) : bodyD CF rec n 68 args h = s68 rec n (args.getD 0 undefD) h :=
  (by kernel_rfl : bodyD CF rec n 68 args h = D68 rec n c68 x0 r68 (argsE args) h).trans ((congrFun (congrFun (s68m rec n) (argsE args)) h).trans (by kernel_rfl))
def s69a3 (rec : RT) (n : Nat) (x4 : DV) (h0 : Hp) : Res :=
 some (.t [x4, (.i .i64 (Int.ofNat 0))], h0)
def s69a5b (rec : RT) (n : Nat) (kk5 : TT2) (x4 x14 : DV) (h0 : Hp) : Res :=
 bnd (pNext x14 h0) fun v1 h1 =>
 bnd (pExtract 0 v1 h1) fun v2 h2 =>
 ifD v2 (
 bnd (pExtract 2 v1 h2) fun v3 h3 =>
 bnd (pInt .gtr x4 (.i .i64 (Int.ofNat 115292150460684697)) h3) fun v4 h4 =>
 ifD v4 (
 some (.t [(.i .i64 (Int.ofNat 0)), (.i .i64 (Int.ofNat 2))], h4)) (
 bnd (pInt .mul x4 (.i .i64 (Int.ofNat 10)) h4) fun v5 h5 =>
 bnd (pInt .sub v3 (.i .i32 (Int.ofNat 48)) h5) fun v6 h6 =>
 bnd (pConvI .i64 v6 h6) fun v7 h7 =>
 bnd (pInt .add v5 v7 h7) fun v8 h8 =>
 bnd (pInt .gtr v8 (.i .i64 (Int.ofNat 1152921504606846976)) h8) fun v9 h9 =>
 ifD v9 (
 some (.t [(.i .i64 (Int.ofNat 0)), (.i .i64 (Int.ofNat 2))], h9)) (
          kk5 v8 x14 h9))) (
      s69a3 rec n x4 h2)
def s69a5l (rec : RT) (n : Nat) (m : Nat) : TT2 :=
  Nat.rec (motive := fun _ => TT2) (fun _ _ _ => none) (fun _ ih => s69a5b rec n ih) m
def s69a5 (rec : RT) (n : Nat) : TT2 := s69a5l rec n n
def s69a4 (rec : RT) (n : Nat) (x4 x14 : DV) (h0 : Hp) : Res :=
  s69a5 rec n x4 x14 h0
def s69a2 (rec : RT) (n : Nat) (x0 x4 : DV) (h0 : Hp) : Res :=
 bnd (pNil x0 h0) fun v1 h1 =>
 bnd (pField 0 v1 h1) fun v2 h2 =>
 bnd (pLoad1 v2 h2) fun v3 h3 =>
 bnd (pLenS v3 h3) fun v4 h4 =>
 bnd (rec 47 [x0, (.f 68 [] []), v4] h4) fun v5 h5 =>
 bnd (pRange v5 h5) fun v6 h6 =>
  s69a4 rec n x4 v6 h6
def s69a1 (rec : RT) (n : Nat) (x0 : DV) (h0 : Hp) : Res :=
  s69a2 rec n x0 (.i .i64 (Int.ofNat 0)) h0
/-- lex.reader).number -/
def s69 (rec : RT) (n : Nat) (x0 : DV) (h0 : Hp) : Res :=
  s69a1 rec n x0 h0
abbrev c69 : Code := cf Try.f69
abbrev c69x1 : Code := cR c69
abbrev c69x2 : Code := cR c69x1
abbrev c69x3 : Code := cR c69x2
abbrev c69x4 : Code := cL c69x2
abbrev c69x5 : Code := cR c69x4
abbrev c69x6 : Code := cL c69x5
abbrev c69x7 : Code := cL c69x6
abbrev c69x8 : Code := cL c69x4
abbrev c69x9 : Code := cL c69x1
abbrev c69x10 : Code := cL c69
abbrev r69 : K := retK CF Try.f69
def D69 (rec : RT) (n : Nat) (c : Code) (X : Nat → K) (k : K) : K := codeD CF rec 29 n c X r69 k
theorem s69a3e : D69 rec n c69x3 x0 r69 = (K1 (s69a3 rec n) 4) :=
  (by kernel_rfl)
theorem s69a5be (kk5 : TT2) : D69 rec n c69x7 (xs x0 0 (K1 (s69a3 rec n) 4)) (K2 kk5 4 14) = (K2 (s69a5b rec n kk5) 4 14) :=
  (by kernel_rfl)
theorem s69a5le (m : Nat) : loopN (fun kk => D69 rec n c69x7 (xs x0 0 (K1 (s69a3 rec n) 4)) kk) m = (K2 (s69a5l rec n m) 4 14) := by
  induction m with
  | zero => exact (by kernel_rfl : loopN (fun kk => D69 rec n c69x7 (xs x0 0 (K1 (s69a3 rec n) 4)) kk) 0 = (K2 (s69a5l rec n 0) 4 14))
  | succ m ih =>
    refine (by kernel_rfl : loopN (fun kk => D69 rec n c69x7 (xs x0 0 (K1 (s69a3 rec n) 4)) kk) (m + 1) = D69 rec n c69x7 (xs x0 0 (K1 (s69a3 rec n) 4)) (loopN (fun kk => D69 rec n c69x7 (xs x0 0 (K1 (s69a3 rec n) 4)) kk) m)).trans ?_
    rw [ih]
    exact (s69a5be rec n (s69a5l rec n m)).trans (by kernel_rfl)
theorem s69a5e : D69 rec n c69x6 (xs x0 0 (K1 (s69a3 rec n) 4)) (K1 (s69a3 rec n) 4) = (K2 (s69a5 rec n) 4 14) :=
  (by kernel_rfl : D69 rec n c69x6 (xs x0 0 (K1 (s69a3 rec n) 4)) (K1 (s69a3 rec n) 4) = loopN (fun kk => D69 rec n c69x7 (xs x0 0 (K1 (s69a3 rec n) 4)) kk) n).trans ((s69a5le rec n n).trans (by kernel_rfl))
theorem s69a4e : D69 rec n c69x5 x0 (K1 (s69a3 rec n) 4) = (K2 (s69a4 rec n) 4 14) :=
  (by kernel_rfl : D69 rec n c69x5 x0 (K1 (s69a3 rec n) 4) = D69 rec n c69x6 (xs x0 0 (K1 (s69a3 rec n) 4)) (K1 (s69a3 rec n) 4)).trans
  ((s69a5e rec n).trans (by kernel_rfl))
theorem s69a2p1 : D69 rec n c69x2 x0 r69 = D69 rec n c69x4 x0 (K1 (s69a3 rec n) 4) :=
  congrArg (fun k => D69 rec n c69x4 x0 k) (s69a3e rec n)
theorem s69a2p2 : D69 rec n c69x4 x0 (K1 (s69a3 rec n) 4) = D69 rec n c69x8 x0 (K2 (s69a4 rec n) 4 14) :=
  congrArg (fun k => D69 rec n c69x8 x0 k) (s69a4e rec n)
theorem s69a2e : D69 rec n c69x2 x0 r69 = (K2 (s69a2 rec n) 0 4) :=
  (s69a2p1 rec n).trans
  ((s69a2p2 rec n).trans
  ((by kernel_rfl)))
theorem s69a1p3 : D69 rec n c69x1 x0 r69 = D69 rec n c69x9 x0 (K2 (s69a2 rec n) 0 4) :=
  congrArg (fun k => D69 rec n c69x9 x0 k) (s69a2e rec n)
theorem s69a1e : D69 rec n c69x1 x0 r69 = (K1 (s69a1 rec n) 0) :=
  (s69a1p3 rec n).trans
  ((by kernel_rfl))
theorem s69p4 : D69 rec n c69 x0 r69 = D69 rec n c69x10 x0 (K1 (s69a1 rec n) 0) :=
  congrArg (fun k => D69 rec n c69x10 x0 k) (s69a1e rec n)
theorem s69m : D69 rec n c69 x0 r69 = (K1 (s69 rec n) 0) :=
  (s69p4 rec n).trans
  ((by kernel_rfl))
theorem s69ok (args : List DV) (h : Hp) : bodyD CF rec n 69 args h = s69 rec n (args.getD 0 undefD) h :=
  (by kernel_rfl : bodyD CF rec n 69 args h = D69 rec n c69 x0 r69 (argsE args) h).trans ((congrFun (congrFun (s69m rec n) (argsE args)) h).trans (by kernel_rfl))
def s70a3b (rec : RT) (n : Nat) (kk3 : TT2) (x0 x4 : DV) (h0 : Hp) : Res :=
 bnd (pNil x0 h0) fun v1 h1 =>
 bnd (pField 0 v1 h1) fun v2 h2 =>
 bnd (pLoad1 v2 h2) fun v3 h3 =>
 bnd (pLenS v3 h3) fun v4 h4 =>
 bnd (rec 47 [x0, (.f 79 [] []), v4] h4) fun v5 h5 =>
 bnd (pStr .add x4 v5 h5) fun v6 h6 =>
 bnd (pNil x0 h6) fun v7 h7 =>
 bnd (pField 1 v7 h7) fun v8 h8 =>
 bnd (pLoad1 v8 h8) fun v9 h9 =>
 bnd (pNil x0 h9) fun v10 h10 =>
 bnd (pField 0 v10 h10) fun v11 h11 =>
 bnd (pLoad1 v11 h11) fun v12 h12 =>
 bnd (pLenS v12 h12) fun v13 h13 =>
 bnd (pInt .geq v9 v13 h13) fun v14 h14 =>
 ifD v14 (
 some (.t [(.s []), (.i .i64 (Int.ofNat 11))], h14)) (
 bnd (pNil x0 h14) fun v15 h15 =>
 bnd (pField 1 v15 h15) fun v16 h16 =>
 bnd (pLoad1 v16 h16) fun v17 h17 =>
 bnd (pInt .add v17 (.i .i64 (Int.ofNat 1)) h17) fun v18 h18 =>
 bnd (pNil x0 h18) fun v19 h19 =>
 bnd (pField 1 v19 h19) fun v20 h20 =>
 bnd (pStore 1 v20 v18 h20) fun _ h21 =>
 bnd (rec 64 [x0, (.i .i64 (Int.ofNat 0))] h21) fun v22 h22 =>
 bnd (pInt .neq v22 (.i .u8 (Int.ofNat 39)) h22) fun v23 h23 =>
 ifD v23 (
 some (.t [v6, (.i .i64 (Int.ofNat 0))], h23)) (
 bnd (pStr .add v6 (.s [39]) h23) fun v24 h24 =>
 bnd (pNil x0 h24) fun v25 h25 =>
 bnd (pField 1 v25 h25) fun v26 h26 =>
 bnd (pLoad1 v26 h26) fun v27 h27 =>
 bnd (pInt .add v27 (.i .i64 (Int.ofNat 1)) h27) fun v28 h28 =>
 bnd (pNil x0 h28) fun v29 h29 =>
 bnd (pField 1 v29 h29) fun v30 h30 =>
 bnd (pStore 1 v30 v28 h30) fun _ h31 =>
        kk3 x0 v24 h31))
def s70a3l (rec : RT) (n : Nat) (m : Nat) : TT2 :=
  Nat.rec (motive := fun _ => TT2) (fun _ _ _ => none) (fun _ ih => s70a3b rec n ih) m
def s70a3 (rec : RT) (n : Nat) : TT2 := s70a3l rec n n
def s70a2 (rec : RT) (n : Nat) (x0 x4 : DV) (h0 : Hp) : Res :=
  s70a3 rec n x0 x4 h0
def s70a1 (rec : RT) (n : Nat) (x0 : DV) (h0 : Hp) : Res :=
  s70a2 rec n x0 (.s []) h0
/-- lex.reader).text -/
def s70 (rec : RT) (n : Nat) (x0 : DV) (h0 : Hp) : Res :=
  s70a1 rec n x0 h0
abbrev c70 : Code := cf Try.f70
abbrev c70x1 : Code := cR c70
abbrev c70x2 : Code := cR c70x1
abbrev c70x3 : Code := cL c70x2
abbrev c70x4 : Code := cL c70x3
abbrev c70x5 : Code := cL c70x1
abbrev c70x6 : Code := cL c70
abbrev r70 : K := retK CF Try.f70
def D70 (rec : RT) (n : Nat) (c : Code) (X : Nat → K) (k : K) : K := codeD CF rec 44 n c X r70 k
theorem s70a3be (kk3 : TT2) : D70 rec n c70x4 (xs x0 0 r70) (K2 kk3 0 4) = (K2 (s70a3b rec n kk3) 0 4) :=
  (by kernel_rfl)
theorem s70a3le (m : Nat) : loopN (fun kk => D70 rec n c70x4 (xs x0 0 r70) kk) m = (K2 (s70a3l rec n m) 0 4) := by
  induction m with
  | zero => exact (by kernel_rfl : loopN (fun kk => D70 rec n c70x4 (xs x0 0 r70) kk) 0 = (K2 (s70a3l rec n 0) 0 4))
  | succ m ih =>
    refine (by kernel_rfl : loopN (fun kk => D70 rec n c70x4 (xs x0 0 r70) kk) (m + 1) = D70 rec n c70x4 (xs x0 0 r70) (loopN (fun kk => D70 rec n c70x4 (xs x0 0 r70) kk) m)).trans ?_
    rw [ih]
    exact (s70a3be rec n (s70a3l rec n m)).trans (by kernel_rfl)
theorem s70a3e : D70 rec n c70x3 (xs x0 0 r70) r70 = (K2 (s70a3 rec n) 0 4) :=
  (by kernel_rfl : D70 rec n c70x3 (xs x0 0 r70) r70 = loopN (fun kk => D70 rec n c70x4 (xs x0 0 r70) kk) n).trans ((s70a3le rec n n).trans (by kernel_rfl))
theorem s70a2e : D70 rec n c70x2 x0 r70 = (K2 (s70a2 rec n) 0 4) :=
  (by kernel_rfl : D70 rec n c70x2 x0 r70 = D70 rec n c70x3 (xs x0 0 r70) r70).trans
  ((s70a3e rec n).trans (by kernel_rfl))
theorem s70a1p1 : D70 rec n c70x1 x0 r70 = D70 rec n c70x5 x0 (K2 (s70a2 rec n) 0 4) :=
  congrArg (fun k => D70 rec n c70x5 x0 k) (s70a2e rec n)
theorem s70a1e : D70 rec n c70x1 x0 r70 = (K1 (s70a1 rec n) 0) :=
  (s70a1p1 rec n).trans
  ((by kernel_rfl))
theorem s70p2 : D70 rec n c70 x0 r70 = D70 rec n c70x6 x0 (K1 (s70a1 rec n) 0) :=
  congrArg (fun k => D70 rec n c70x6 x0 k) (s70a1e rec n)
theorem s70m : D70 rec n c70 x0 r70 = (K1 (s70 rec n) 0) :=
  (s70p2 rec n).trans
  ((by kernel_rfl))
theorem s70ok (args : List DV) (h : Hp) : bodyD CF rec n 70 args h = s70 rec n (args.getD 0 undefD) h :=
  (by kernel_rfl : bodyD CF rec n 70 args h = D70 rec n c70 x0 r70 (argsE args) h).trans ((congrFun (congrFun (s70m rec n) (argsE args)) h).trans (by kernel_rfl))
def s71a7 (rec : RT) (n : Nat) (x5 : DV) (h0 : Hp) : Res :=
 some (.t [x5, (.i .i64 (Int.ofNat 0))], h0)
def s71a8b (rec : RT) (n : Nat) (kk8 : TT2) (x0 x5 : DV) (h0 : Hp) : Res :=
 bnd (rec 64 [x0, (.i .i64 (Int.ofNat 0))] h0) fun v1 h1 =>
 bnd (rec 65 [v1] h1) fun v2 h2 =>
 ifD v2 (
 bnd (pNil x0 h2) fun v3 h3 =>
 bnd (pField 1 v3 h3) fun v4 h4 =>
 bnd (pLoad1 v4 h4) fun v5 h5 =>
 bnd (rec 66 [x0] h5) fun v6 h6 =>
 bnd (pExtract 0 v6 h6) fun v7 h7 =>
 bnd (pExtract 1 v6 h7) fun v8 h8 =>
 bnd (rec 67 [x0] h8) fun v9 h9 =>
 bnd (pUn .not v9 h9) fun v10 h10 =>
 ifD v10 (
 bnd (pNil x0 h10) fun v11 h11 =>
 bnd (pField 1 v11 h11) fun v12 h12 =>
 bnd (pStore 1 v12 v5 h12) fun _ h13 =>
 some (.t [x5, (.i .i64 (Int.ofNat 0))], h13)) (
 bnd (pInt .neq v8 (.i .i64 (Int.ofNat 0)) h10) fun v14 h14 =>
 ifD v14 (
 some (.t [(.s []), v8], h14)) (
 bnd (pStr .add v7 (.s [58]) h14) fun v15 h15 =>
 bnd (pStr .add x5 v15 h15) fun v16 h16 =>
          kk8 x0 v16 h16))) (
      s71a7 rec n x5 h2)
def s71a8l (rec : RT) (n : Nat) (m : Nat) : TT2 :=
  Nat.rec (motive := fun _ => TT2) (fun _ _ _ => none) (fun _ ih => s71a8b rec n ih) m
def s71a8 (rec : RT) (n : Nat) : TT2 := s71a8l rec n n
def s71a6 (rec : RT) (n : Nat) (x0 x5 : DV) (h0 : Hp) : Res :=
  s71a8 rec n x0 x5 h0
def s71a5 (rec : RT) (n : Nat) (x0 x5 : DV) (h0 : Hp) : Res :=
 bnd (pStr .add x5 (.s [58]) h0) fun v1 h1 =>
  s71a6 rec n x0 v1 h1
def s71a4 (rec : RT) (n : Nat) (x0 x5 x6 : DV) (h0 : Hp) : Res :=
 bnd (pInt .neq x6 (.i .i64 (Int.ofNat 0)) h0) fun v1 h1 =>
 bnd (gD v1 false (some (x0, h1)) h1) fun v2 h2 =>
 bnd (gD v1 false (rec 67 [v2] h2) h2) fun v3 h3 =>
 bnd (gD v1 false (pUn .not v3 h3) h3) fun v4 h4 =>
 bnd (pPick v1 (.b true) v4 h4) fun v5 h5 =>
 ifD v5 (
 some (.t [x5, x6], h5)) (
    s71a5 rec n x0 x5 h5)
def s71a3 (rec : RT) (n : Nat) (x0 : DV) (h0 : Hp) : Res :=
 bnd (rec 66 [x0] h0) fun v1 h1 =>
 bnd (pExtract 0 v1 h1) fun v2 h2 =>
 bnd (pExtract 1 v1 h2) fun v3 h3 =>
  s71a4 rec n x0 v2 v3 h3
def s71a2 (rec : RT) (n : Nat) (x0 : DV) (h0 : Hp) : Res :=
 bnd (rec 64 [x0, (.i .i64 (Int.ofNat 0))] h0) fun v1 h1 =>
 bnd (rec 65 [v1] h1) fun v2 h2 =>
 bnd (pUn .not v2 h2) fun v3 h3 =>
 ifD v3 (
 some (.t [(.s []), (.i .i64 (Int.ofNat 10))], h3)) (
    s71a3 rec n x0 h3)
def s71a1 (rec : RT) (n : Nat) (x0 : DV) (h0 : Hp) : Res :=
 bnd (rec 48 [(.s [43, 45, 42, 47, 60, 62, 61, 126, 44, 64, 38, 37])] h0) fun v1 h1 =>
 bnd (rec 47 [x0, v1, (.i .i64 (Int.ofNat 2))] h1) fun v2 h2 =>
 bnd (pStr .neq v2 (.s []) h2) fun v3 h3 =>
 ifD v3 (
 some (.t [v2, (.i .i64 (Int.ofNat 0))], h3)) (
    s71a2 rec n x0 h3)
/-- lex.reader).symbol -/
def s71 (rec : RT) (n : Nat) (x0 : DV) (h0 : Hp) : Res :=
  s71a1 rec n x0 h0
abbrev c71 : Code := cf Try.f71
abbrev c71x1 : Code := cR c71
abbrev c71x2 : Code := cR c71x1
abbrev c71x3 : Code := cR c71x2
abbrev c71x4 : Code := cR c71x3
abbrev c71x5 : Code := cR c71x4
abbrev c71x6 : Code := cR c71x5
abbrev c71x7 : Code := cR c71x6
abbrev c71x8 : Code := cL c71x6
abbrev c71x9 : Code := cL c71x8
abbrev c71x10 : Code := cL c71x9
abbrev c71x11 : Code := cL c71x5
abbrev c71x12 : Code := cL c71x4
abbrev c71x13 : Code := cL c71x3
abbrev c71x14 : Code := cL c71x2
abbrev c71x15 : Code := cL c71x1
abbrev c71x16 : Code := cL c71
abbrev r71 : K := retK CF Try.f71
def D71 (rec : RT) (n : Nat) (c : Code) (X : Nat → K) (k : K) : K := codeD CF rec 64 n c X r71 k
theorem s71a7e : D71 rec n c71x7 x0 r71 = (K1 (s71a7 rec n) 5) :=
  (by kernel_rfl)
theorem s71a8be (kk8 : TT2) : D71 rec n c71x10 (xs x0 0 (K1 (s71a7 rec n) 5)) (K2 kk8 0 5) = (K2 (s71a8b rec n kk8) 0 5) :=
  (by kernel_rfl)
theorem s71a8le (m : Nat) : loopN (fun kk => D71 rec n c71x10 (xs x0 0 (K1 (s71a7 rec n) 5)) kk) m = (K2 (s71a8l rec n m) 0 5) := by
  induction m with
  | zero => exact (by kernel_rfl : loopN (fun kk => D71 rec n c71x10 (xs x0 0 (K1 (s71a7 rec n) 5)) kk) 0 = (K2 (s71a8l rec n 0) 0 5))
  | succ m ih =>
    refine (by kernel_rfl : loopN (fun kk => D71 rec n c71x10 (xs x0 0 (K1 (s71a7 rec n) 5)) kk) (m + 1) = D71 rec n c71x10 (xs x0 0 (K1 (s71a7 rec n) 5)) (loopN (fun kk => D71 rec n c71x10 (xs x0 0 (K1 (s71a7 rec n) 5)) kk) m)).trans ?_
    rw [ih]
    exact (s71a8be rec n (s71a8l rec n m)).trans (by kernel_rfl)
theorem s71a8e : D71 rec n c71x9 (xs x0 0 (K1 (s71a7 rec n) 5)) (K1 (s71a7 rec n) 5) = (K2 (s71a8 rec n) 0 5) :=
  (by kernel_rfl : D71 rec n c71x9 (xs x0 0 (K1 (s71a7 rec n) 5)) (K1 (s71a7 rec n) 5) = loopN (fun kk => D71 rec n c71x10 (xs x0 0 (K1 (s71a7 rec n) 5)) kk) n).trans ((s71a8le rec n n).trans (by kernel_rfl))
theorem s71a6p1 : D71 rec n c71x6 x0 r71 = D71 rec n c71x8 x0 (K1 (s71a7 rec n) 5) :=
  congrArg (fun k => D71 rec n c71x8 x0 k) (s71a7e rec n)
theorem s71a6e : D71 rec n c71x6 x0 r71 = (K2 (s71a6 rec n) 0 5) :=
  (s71a6p1 rec n).trans
  ((by kernel_rfl : D71 rec n c71x8 x0 (K1 (s71a7 rec n) 5) = D71 rec n c71x9 (xs x0 0 (K1 (s71a7 rec n) 5)) (K1 (s71a7 rec n) 5)).trans
  ((s71a8e rec n).trans (by kernel_rfl)))
theorem s71a5p2 : D71 rec n c71x5 x0 r71 = D71 rec n c71x11 x0 (K2 (s71a6 rec n) 0 5) :=
  congrArg (fun k => D71 rec n c71x11 x0 k) (s71a6e rec n)
theorem s71a5e : D71 rec n c71x5 x0 r71 = (K2 (s71a5 rec n) 0 5) :=
  (s71a5p2 rec n).trans
  ((by kernel_rfl))
theorem s71a4p3 : D71 rec n c71x4 x0 r71 = D71 rec n c71x12 x0 (K2 (s71a5 rec n) 0 5) :=
  congrArg (fun k => D71 rec n c71x12 x0 k) (s71a5e rec n)
theorem s71a4e : D71 rec n c71x4 x0 r71 = (K3 (s71a4 rec n) 0 5 6) :=
  (s71a4p3 rec n).trans
  ((by kernel_rfl))
theorem s71a3p4 : D71 rec n c71x3 x0 r71 = D71 rec n c71x13 x0 (K3 (s71a4 rec n) 0 5 6) :=
  congrArg (fun k => D71 rec n c71x13 x0 k) (s71a4e rec n)
theorem s71a3e : D71 rec n c71x3 x0 r71 = (K1 (s71a3 rec n) 0) :=
  (s71a3p4 rec n).trans
  ((by kernel_rfl))
theorem s71a2p5 : D71 rec n c71x2 x0 r71 = D71 rec n c71x14 x0 (K1 (s71a3 rec n) 0) :=
  congrArg (fun k => D71 rec n c71x14 x0 k) (s71a3e rec n)
theorem s71a2e : D71 rec n c71x2 x0 r71 = (K1 (s71a2 rec n) 0) :=
  (s71a2p5 rec n).trans
  ((by kernel_rfl))
theorem s71a1p6 : D71 rec n c71x1 x0 r71 = D71 rec n c71x15 x0 (K1 (s71a2 rec n) 0) :=
  congrArg (fun k => D71 rec n c71x15 x0 k) (s71a2e rec n)
theorem s71a1e : D71 rec n c71x1 x0 r71 = (K1 (s71a1 rec n) 0) :=
  (s71a1p6 rec n).trans
  ((by kernel_rfl))
theorem s71p7 : D71 rec n c71 x0 r71 = D71 rec n c71x16 x0 (K1 (s71a1 rec n) 0) :=
  congrArg (fun k => D71 rec n c71x16 x0 k) (s71a1e rec n)
theorem s71m : D71 rec n c71 x0 r71 = (K1 (s71 rec n) 0) :=
  (s71p7 rec n).trans
  ((by kernel_rfl))
theorem s71ok (args : List DV) (h : Hp) : bodyD CF rec n 71 args h = s71 rec n (args.getD 0 undefD) h :=
  (by kernel_rfl : bodyD CF rec n 71 args h = D71 rec n c71 x0 r71 (argsE args) h).trans ((congrFun (congrFun (s71m rec n) (argsE args)) h).trans (by kernel_rfl))
def s72a6 (rec : RT) (n : Nat) (x2 x4 : DV) (h0 : Hp) : Res :=
 bnd (pLoadA 6 x4 h0) fun v1 h1 =>
 bnd (pStore 6 x2 v1 h1) fun _ h2 =>
 bnd (pLoadA 6 x2 h2) fun v3 _ =>
 some (v3, h2)
def s72a7b (rec : RT) (n : Nat) (kk7 : TT3) (x0 x2 x4 : DV) (h0 : Hp) : Res :=
 bnd (rec 51 [x0, (.i .i64 (Int.ofNat 10)), (.s [59])] h0) fun v1 h1 =>
 ifD v1 (
 bnd (rec 52 [x0] h1) fun v2 h2 =>
 bnd (pField 5 x4 (resv 1 h2)) fun v3 h3 =>
 bnd (pLoad1 v3 h3) fun v4 h4 =>
 bnd (rec 85 [x0] h4) fun v5 h5 =>
 cnd (sameR (pLoad1 v3 h5) v4 && true) (
 bnd (rec 84 [v5] h5) fun v6 h6 =>
 cnd (sameR (pLoad1 v3 h6) v4 && true) (
 bnd (pBuildSliceAt (nthPos 0 h2.next) [(.i .i64 (Int.ofNat 0)), (.s []), (.i .i64 (Int.ofNat 0)), .l0, .l0, .l0] 1 [(0, 6, v6)] h6) fun v7 h7 =>
 bnd (pAppend 6 104 v4 v7 h7) fun v8 h8 =>
 bnd (pField 5 x4 h8) fun v9 h9 =>
 bnd (pStore 1 v9 v8 h9) fun v10 h10 =>
      kk7 x0 x2 x4 h10))) (
      s72a6 rec n x2 x4 h1)
def s72a7l (rec : RT) (n : Nat) (m : Nat) : TT3 :=
  Nat.rec (motive := fun _ => TT3) (fun _ _ _ _ => none) (fun _ ih => s72a7b rec n ih) m
def s72a7 (rec : RT) (n : Nat) : TT3 := s72a7l rec n n
def s72a5 (rec : RT) (n : Nat) (x0 x2 x4 : DV) (h0 : Hp) : Res :=
  s72a7 rec n x0 x2 x4 h0
def s72a4 (rec : RT) (n : Nat) (x0 x2 x3 : DV) (h0 : Hp) : Res :=
 bnd (pField 5 x3 (resv 2 h0)) fun v1 h1 =>
 bnd (pLoad1 v1 h1) fun v2 h2 =>
 bnd (pIndexAddr 6 v2 (.i .i64 (Int.ofNat 0)) h2) fun v3 h3 =>
 bnd (pLoadA 6 v3 h3) fun v4 h4 =>
 bnd (pLoadA 6 x3 h4) fun v5 h5 =>
 bnd (rec 84 [v5] h5) fun v6 h6 =>
 cnd (sameR (pLoadA 6 v3 h6) v4 && (sameR (pLoad1 v1 h6) v2 && true)) (
 bnd (pBuildSliceAt (nthPos 0 h0.next) [(.i .i64 (Int.ofNat 0)), (.s []), (.i .i64 (Int.ofNat 0)), .l0, .l0, .l0, (.i .i64 (Int.ofNat 0)), (.s []), (.i .i64 (Int.ofNat 0)), .l0, .l0, .l0] 2 [(0, 6, v4), (6, 6, v6)] h6) fun v7 h7 =>
 bnd (pBuild [(.i .i64 (Int.ofNat 0)), (.s []), (.i .i64 (Int.ofNat 0)), .l0, .l0, .l0] [(0, 1, (.i .i64 (Int.ofNat 8))), (5, 1, v7)] h7) fun v8 h8 =>
 bnd (pNewAt (nthPos 1 h0.next) [(.i .i64 (Int.ofNat 0)), (.s []), (.i .i64 (Int.ofNat 0)), .l0, .l0, .l0] h8) fun v9 h9 =>
 bnd (pStore 6 v9 v8 h9) fun v10 h10 =>
  s72a5 rec n x0 x2 v9 h10)
def s72a3 (rec : RT) (n : Nat) (x0 x2 x3 : DV) (h0 : Hp) : Res :=
 bnd (pField 0 x3 h0) fun v1 h1 =>
 bnd (pLoad1 v1 h1) fun v2 h2 =>
 bnd (pInt .neq v2 (.i .i64 (Int.ofNat 7)) h2) fun v3 h3 =>
 ifD v3 (
 bnd (rec 55 [x0, (.i .i64 (Int.ofNat 0))] h3) fun v4 h4 =>
 bnd (rec 54 [x0, v4, (.i .i64 (Int.ofNat 13))] h4) fun v5 h5 =>
 bnd (pLoadA 6 x3 h5) fun v6 h6 =>
 bnd (pStore 6 x2 v6 h6) fun _ h7 =>
 bnd (pLoadA 6 x2 h7) fun v8 _ =>
 some (v8, h7)) (
    s72a4 rec n x0 x2 x3 h3)
def s72a2 (rec : RT) (n : Nat) (x0 x2 x3 : DV) (h0 : Hp) : Res :=
 bnd (rec 51 [x0, (.i .i64 (Int.ofNat 10)), (.s [59])] h0) fun v1 h1 =>
 bnd (pUn .not v1 h1) fun v2 h2 =>
 ifD v2 (
 bnd (pLoadA 6 x3 h2) fun v3 h3 =>
 bnd (pStore 6 x2 v3 h3) fun _ h4 =>
 bnd (pLoadA 6 x2 h4) fun v5 _ =>
 some (v5, h4)) (
    s72a3 rec n x0 x2 x3 h2)
def s72a1 (rec : RT) (n : Nat) (x0 x2 : DV) (h0 : Hp) : Res :=
 bnd (rec 83 [x0] h0) fun v1 h1 =>
 bnd (rec 82 [x0, v1] h1) fun v2 h2 =>
 bnd (rec 81 [x0, v2] h2) fun v3 h3 =>
 bnd (rec 80 [x0, v3] h3) fun v4 h4 =>
 bnd (pNew [(.i .i64 (Int.ofNat 0)), (.s []), (.i .i64 (Int.ofNat 0)), .l0, .l0, .l0] h4) fun v5 h5 =>
 bnd (pStore 6 v5 v4 h5) fun _ h6 =>
  s72a2 rec n x0 x2 v5 h6
/-- parse.parser).cascade -/
def s72 (rec : RT) (n : Nat) (x0 : DV) (h0 : Hp) : Res :=
 bnd (pNew [(.i .i64 (Int.ofNat 0)), (.s []), (.i .i64 (Int.ofNat 0)), .l0, .l0, .l0] h0) fun v1 h1 =>
  s72a1 rec n x0 v1 h1
abbrev c72 : Code := cf Try.f72
abbrev c72x1 : Code := cR c72
abbrev c72x2 : Code := cR c72x1
abbrev c72x3 : Code := cR c72x2
abbrev c72x4 : Code := cR c72x3
abbrev c72x5 : Code := cR c72x4
abbrev c72x6 : Code := cR c72x5
abbrev c72x7 : Code := cL c72x5
abbrev c72x8 : Code := cL c72x7
abbrev c72x9 : Code := cL c72x8
abbrev c72x10 : Code := cL c72x4
abbrev c72x11 : Code := cL c72x3
abbrev c72x12 : Code := cL c72x2
abbrev c72x13 : Code := cL c72x1
abbrev c72x14 : Code := cL c72
abbrev r72 : K := retK CF Try.f72
def D72 (rec : RT) (n : Nat) (c : Code) (X : Nat → K) (k : K) : K := codeD CF rec 46 n c X r72 k
theorem s72a6e : D72 rec n c72x6 x0 r72 = (K2 (s72a6 rec n) 2 4) :=
  (by kernel_rfl)
theorem s72a7q1 (kk7 : TT3) (q0 : TT2) : D72 rec n c72x9 (xs x0 0 (K2 q0 2 4)) (K3 kk7 0 2 4) = fun (env : Env) (h : Hp) =>
 bnd (rec 51 [(env 0), (.i .i64 (Int.ofNat 10)), (.s [59])] h) fun v1 h1 =>
 ifD v1 (
 bnd (rec 52 [(env 0)] h1) fun v2 h2 =>
 bnd (pField 5 (env 4) (resv 1 h2)) fun v3 h3 =>
 bnd (pLoad1 v3 h3) fun v4 h4 =>
 bnd (rec 85 [(env 0)] h4) fun v5 h5 =>
 cnd (sameR (pLoad1 v3 h5) v4 && true) (
 bnd (rec 84 [v5] h5) fun v6 h6 =>
 cnd (sameR (pLoad1 v3 h6) v4 && true) (
 bnd (pBuildSliceAt (nthPos 0 h2.next) [(.i .i64 (Int.ofNat 0)), (.s []), (.i .i64 (Int.ofNat 0)), .l0, .l0, .l0] 1 [(0, 6, v6)] h6) fun v7 h7 =>
 bnd (pAppend 6 104 v4 v7 h7) fun v8 h8 =>
 bnd (pField 5 (env 4) h8) fun v9 h9 =>
 bnd (pStore 1 v9 v8 h9) fun v10 h10 =>
      kk7 (env 0) (env 2) (env 4) h10))) (
      q0 (env 2) (env 4) h1) := by kernel_rfl
theorem s72a7q1u (kk7 : TT3) : (fun (env : Env) (h : Hp) =>
 bnd (rec 51 [(env 0), (.i .i64 (Int.ofNat 10)), (.s [59])] h) fun v1 h1 =>
 ifD v1 (
 bnd (rec 52 [(env 0)] h1) fun v2 h2 =>
 bnd (pField 5 (env 4) (resv 1 h2)) fun v3 h3 =>
 bnd (pLoad1 v3 h3) fun v4 h4 =>
 bnd (rec 85 [(env 0)] h4) fun v5 h5 =>
 cnd (sameR (pLoad1 v3 h5) v4 && true) (
 bnd (rec 84 [v5] h5) fun v6 h6 =>
 cnd (sameR (pLoad1 v3 h6) v4 && true) (
 bnd (pBuildSliceAt (nthPos 0 h2.next) [(.i .i64 (Int.ofNat 0)), (.s []), (.i .i64 (Int.ofNat 0)), .l0, .l0, .l0] 1 [(0, 6, v6)] h6) fun v7 h7 =>
 bnd (pAppend 6 104 v4 v7 h7) fun v8 h8 =>
 bnd (pField 5 (env 4) h8) fun v9 h9 =>
 bnd (pStore 1 v9 v8 h9) fun v10 h10 =>
      kk7 (env 0) (env 2) (env 4) h10))) (
      s72a6 rec n (env 2) (env 4) h1)) = (K3 (s72a7b rec n kk7) 0 2 4) := by kernel_rfl
theorem s72a7be (kk7 : TT3) : D72 rec n c72x9 (xs x0 0 (K2 (s72a6 rec n) 2 4)) (K3 kk7 0 2 4) = (K3 (s72a7b rec n kk7) 0 2 4) :=
  (s72a7q1 rec n kk7 (s72a6 rec n)).trans (s72a7q1u rec n kk7)
theorem s72a7le (m : Nat) : loopN (fun kk => D72 rec n c72x9 (xs x0 0 (K2 (s72a6 rec n) 2 4)) kk) m = (K3 (s72a7l rec n m) 0 2 4) := by
  induction m with
  | zero => exact (by kernel_rfl : loopN (fun kk => D72 rec n c72x9 (xs x0 0 (K2 (s72a6 rec n) 2 4)) kk) 0 = (K3 (s72a7l rec n 0) 0 2 4))
  | succ m ih =>
    refine (by kernel_rfl : loopN (fun kk => D72 rec n c72x9 (xs x0 0 (K2 (s72a6 rec n) 2 4)) kk) (m + 1) = D72 rec n c72x9 (xs x0 0 (K2 (s72a6 rec n) 2 4)) (loopN (fun kk => D72 rec n c72x9 (xs x0 0 (K2 (s72a6 rec n) 2 4)) kk) m)).trans ?_
    rw [ih]
    exact (s72a7be rec n (s72a7l rec n m)).trans (by kernel_rfl)
theorem s72a7e : D72 rec n c72x8 (xs x0 0 (K2 (s72a6 rec n) 2 4)) (K2 (s72a6 rec n) 2 4) = (K3 (s72a7 rec n) 0 2 4) :=
  (by kernel_rfl : D72 rec n c72x8 (xs x0 0 (K2 (s72a6 rec n) 2 4)) (K2 (s72a6 rec n) 2 4) = loopN (fun kk => D72 rec n c72x9 (xs x0 0 (K2 (s72a6 rec n) 2 4)) kk) n).trans ((s72a7le rec n n).trans (by kernel_rfl))
theorem s72a5p2 : D72 rec n c72x5 x0 r72 = D72 rec n c72x7 x0 (K2 (s72a6 rec n) 2 4) :=
  congrArg (fun k => D72 rec n c72x7 x0 k) (s72a6e rec n)
theorem s72a5e : D72 rec n c72x5 x0 r72 = (K3 (s72a5 rec n) 0 2 4) :=
  (s72a5p2 rec n).trans
  ((by kernel_rfl : D72 rec n c72x7 x0 (K2 (s72a6 rec n) 2 4) = D72 rec n c72x8 (xs x0 0 (K2 (s72a6 rec n) 2 4)) (K2 (s72a6 rec n) 2 4)).trans
  ((s72a7e rec n).trans (by kernel_rfl)))
theorem s72a4p3 : D72 rec n c72x4 x0 r72 = D72 rec n c72x10 x0 (K3 (s72a5 rec n) 0 2 4) :=
  congrArg (fun k => D72 rec n c72x10 x0 k) (s72a5e rec n)
theorem s72a4q4 (q0 : TT3) : D72 rec n c72x10 x0 (K3 q0 0 2 4) = fun (env : Env) (h : Hp) =>
 bnd (pField 5 (env 3) (resv 2 h)) fun v1 h1 =>
 bnd (pLoad1 v1 h1) fun v2 h2 =>
 bnd (pIndexAddr 6 v2 (.i .i64 (Int.ofNat 0)) h2) fun v3 h3 =>
 bnd (pLoadA 6 v3 h3) fun v4 h4 =>
 bnd (pLoadA 6 (env 3) h4) fun v5 h5 =>
 bnd (rec 84 [v5] h5) fun v6 h6 =>
 cnd (sameR (pLoadA 6 v3 h6) v4 && (sameR (pLoad1 v1 h6) v2 && true)) (
 bnd (pBuildSliceAt (nthPos 0 h.next) [(.i .i64 (Int.ofNat 0)), (.s []), (.i .i64 (Int.ofNat 0)), .l0, .l0, .l0, (.i .i64 (Int.ofNat 0)), (.s []), (.i .i64 (Int.ofNat 0)), .l0, .l0, .l0] 2 [(0, 6, v4), (6, 6, v6)] h6) fun v7 h7 =>
 bnd (pBuild [(.i .i64 (Int.ofNat 0)), (.s []), (.i .i64 (Int.ofNat 0)), .l0, .l0, .l0] [(0, 1, (.i .i64 (Int.ofNat 8))), (5, 1, v7)] h7) fun v8 h8 =>
 bnd (pNewAt (nthPos 1 h.next) [(.i .i64 (Int.ofNat 0)), (.s []), (.i .i64 (Int.ofNat 0)), .l0, .l0, .l0] h8) fun v9 h9 =>
 bnd (pStore 6 v9 v8 h9) fun v10 h10 =>
    q0 (env 0) (env 2) v9 h10) := by kernel_rfl
theorem s72a4q4u : (fun (env : Env) (h : Hp) =>
 bnd (pField 5 (env 3) (resv 2 h)) fun v1 h1 =>
 bnd (pLoad1 v1 h1) fun v2 h2 =>
 bnd (pIndexAddr 6 v2 (.i .i64 (Int.ofNat 0)) h2) fun v3 h3 =>
 bnd (pLoadA 6 v3 h3) fun v4 h4 =>
 bnd (pLoadA 6 (env 3) h4) fun v5 h5 =>
 bnd (rec 84 [v5] h5) fun v6 h6 =>
 cnd (sameR (pLoadA 6 v3 h6) v4 && (sameR (pLoad1 v1 h6) v2 && true)) (
 bnd (pBuildSliceAt (nthPos 0 h.next) [(.i .i64 (Int.ofNat 0)), (.s []), (.i .i64 (Int.ofNat 0)), .l0, .l0, .l0, (.i .i64 (Int.ofNat 0)), (.s []), (.i .i64 (Int.ofNat 0)), .l0, .l0, .l0] 2 [(0, 6, v4), (6, 6, v6)] h6) fun v7 h7 =>
 bnd (pBuild [(.i .i64 (Int.ofNat 0)), (.s []), (.i .i64 (Int.ofNat 0)), .l0, .l0, .l0] [(0, 1, (.i .i64 (Int.ofNat 8))), (5, 1, v7)] h7) fun v8 h8 =>
 bnd (pNewAt (nthPos 1 h.next) [(.i .i64 (Int.ofNat 0)), (.s []), (.i .i64 (Int.ofNat 0)), .l0, .l0, .l0] h8) fun v9 h9 =>
 bnd (pStore 6 v9 v8 h9) fun v10 h10 =>
    s72a5 rec n (env 0) (env 2) v9 h10)) = (K3 (s72a4 rec n) 0 2 3) := by kernel_rfl
theorem s72a4e : D72 rec n c72x4 x0 r72 = (K3 (s72a4 rec n) 0 2 3) :=
  (s72a4p3 rec n).trans
  ((s72a4q4 rec n (s72a5 rec n)).trans (s72a4q4u rec n))
theorem s72a3p5 : D72 rec n c72x3 x0 r72 = D72 rec n c72x11 x0 (K3 (s72a4 rec n) 0 2 3) :=
  congrArg (fun k => D72 rec n c72x11 x0 k) (s72a4e rec n)
theorem s72a3e : D72 rec n c72x3 x0 r72 = (K3 (s72a3 rec n) 0 2 3) :=
  (s72a3p5 rec n).trans
  ((by kernel_rfl))
theorem s72a2p6 : D72 rec n c72x2 x0 r72 = D72 rec n c72x12 x0 (K3 (s72a3 rec n) 0 2 3) :=
  congrArg (fun k => D72 rec n c72x12 x0 k) (s72a3e rec n)
theorem s72a2e : D72 rec n c72x2 x0 r72 = (K3 (s72a2 rec n) 0 2 3) :=
  (s72a2p6 rec n).trans
  ((by kernel_rfl))
theorem s72a1p7 : D72 rec n c72x1 x0 r72 = D72 rec n c72x13 x0 (K3 (s72a2 rec n) 0 2 3) :=
  congrArg (fun k => D72 rec n c72x13 x0 k) (s72a2e rec n)
theorem s72a1q8 (q0 : TT3) : D72 rec n c72x13 x0 (K3 q0 0 2 3) = fun (env : Env) (h : Hp) =>
 bnd (rec 83 [(env 0)] h) fun v1 h1 =>
 bnd (rec 82 [(env 0), v1] h1) fun v2 h2 =>
 bnd (rec 81 [(env 0), v2] h2) fun v3 h3 =>
 bnd (rec 80 [(env 0), v3] h3) fun v4 h4 =>
 bnd (pNew [(.i .i64 (Int.ofNat 0)), (.s []), (.i .i64 (Int.ofNat 0)), .l0, .l0, .l0] h4) fun v5 h5 =>
 bnd (pStore 6 v5 v4 h5) fun _ h6 =>
    q0 (env 0) (env 2) v5 h6 := by kernel_rfl
theorem s72a1q8u : (fun (env : Env) (h : Hp) =>
 bnd (rec 83 [(env 0)] h) fun v1 h1 =>
 bnd (rec 82 [(env 0), v1] h1) fun v2 h2 =>
 bnd (rec 81 [(env 0), v2] h2) fun v3 h3 =>
 bnd (rec 80 [(env 0), v3] h3) fun v4 h4 =>
 bnd (pNew [(.i .i64 (Int.ofNat 0)), (.s []), (.i .i64 (Int.ofNat 0)), .l0, .l0, .l0] h4) fun v5 h5 =>
 bnd (pStore 6 v5 v4 h5) fun _ h6 =>
    s72a2 rec n (env 0) (env 2) v5 h6) = (K2 (s72a1 rec n) 0 2) := by kernel_rfl
theorem s72a1e : D72 rec n c72x1 x0 r72 = (K2 (s72a1 rec n) 0 2) :=
  (s72a1p7 rec n).trans
  ((s72a1q8 rec n (s72a2 rec n)).trans (s72a1q8u rec n))
theorem s72p9 : D72 rec n c72 x0 r72 = D72 rec n c72x14 x0 (K2 (s72a1 rec n) 0 2) :=
  congrArg (fun k => D72 rec n c72x14 x0 k) (s72a1e rec n)
theorem s72q10 (q0 : TT2) : D72 rec n c72x14 x0 (K2 q0 0 2) = fun (env : Env) (h : Hp) =>
 bnd (pNew [(.i .i64 (Int.ofNat 0)), (.s []), (.i .i64 (Int.ofNat 0)), .l0, .l0, .l0] h) fun v1 h1 =>
    q0 (env 0) v1 h1 := by kernel_rfl
theorem s72q10u : (fun (env : Env) (h : Hp) =>
 bnd (pNew [(.i .i64 (Int.ofNat 0)), (.s []), (.i .i64 (Int.ofNat 0)), .l0, .l0, .l0] h) fun v1 h1 =>
    s72a1 rec n (env 0) v1 h1) = (K1 (s72 rec n) 0) := by kernel_rfl
theorem s72m : D72 rec n c72 x0 r72 = (K1 (s72 rec n) 0) :=
  (s72p9 rec n).trans
  ((s72q10 rec n (s72a1 rec n)).trans (s72q10u rec n))
theorem s72ok (args : List DV) (h : Hp) : bodyD CF rec n 72 args h = s72 rec n (args.getD 0 undefD) h :=
  (by kernel_rfl : bodyD CF rec n 72 args h = D72 rec n c72 x0 r72 (argsE args) h).trans ((congrFun (congrFun (s72m rec n) (argsE args)) h).trans (by kernel_rfl))
/-- vivariumref07.P).plain -/
def s73 (rec : RT) (n : Nat) (x0 : DV) (h0 : Hp) : Res :=
 bnd (pNew [(.i .i64 (Int.ofNat 0)), (.s []), (.i .i64 (Int.ofNat 0)), .l0, .l0, .l0] h0) fun v1 h1 =>
 bnd (rec 46 [x0, (.i .i64 (Int.ofNat 0))] h1) fun v2 h2 =>
 bnd (pNew [(.i .i64 (Int.ofNat 0)), (.s []), (.i .i64 (Int.ofNat 0)), (.i .i64 (Int.ofNat 0))] h2) fun v3 h3 =>
 bnd (pStore 4 v3 v2 h3) fun _ h4 =>
 bnd (rec 41 [x0, (.i .i64 (Int.ofNat 3)), (.s [45])] h4) fun v5 h5 =>
 bnd (gD v5 true (some (x0, h5)) h5) fun v6 h6 =>
 bnd (gD v5 true (rec 46 [v6, (.i .i64 (Int.ofNat 1))] h6) h6) fun v7 h7 =>
 bnd (gD v5 true (pPart1 0 v7 h7) h7) fun v8 h8 =>
 bnd (gD v5 true (pInt .eql v8 (.i .i64 (Int.ofNat 4)) h8) h8) fun v9 h9 =>
 bnd (pPick v5 v9 (.b false) h9) fun v10 h10 =>
 bnd (gD v10 true (some (x0, h10)) h10) fun v11 h11 =>
 bnd (gD v10 true (rec 46 [v11, (.i .i64 (Int.ofNat 1))] h11) h11) fun v12 h12 =>
 bnd (gD v10 true (pPart1 3 v12 h12) h12) fun v13 h13 =>
 bnd (gD v10 true (pField 3 v3 h13) h13) fun v14 h14 =>
 bnd (gD v10 true (pLoad1 v14 h14) h14) fun v15 h15 =>
 cnd (sameR (gD v10 true (pLoad1 v14 h7) h7) v15 && true) (
 bnd (gD v10 true (pInt .add v15 (.i .i64 (Int.ofNat 1)) h15) h15) fun v16 h16 =>
 bnd (gD v10 true (pInt .eql v13 v16 h16) h16) fun v17 h17 =>
 bnd (pPick v10 v17 (.b false) h17) fun v18 h18 =>
 ifD v18 (
 bnd (rec 42 [x0] h18) fun v19 h19 =>
 bnd (rec 42 [x0] h19) fun v20 h20 =>
 bnd (pPart1 2 v20 h20) fun v21 h21 =>
 bnd (pUn .neg v21 h21) fun v22 h22 =>
 bnd (pBuild [(.i .i64 (Int.ofNat 0)), (.s []), (.i .i64 (Int.ofNat 0)), .l0, .l0, .l0] [(0, 1, (.i .i64 (Int.ofNat 1))), (2, 1, v22)] h22) fun v23 h23 =>
 bnd (pStore 6 v1 v23 h23) fun _ h24 =>
 bnd (pLoadA 6 v1 h24) fun v25 _ =>
 some (.t [v25, (.b true)], h24)) (
 bnd (rec 41 [x0, (.i .i64 (Int.ofNat 4)), (.s [])] h18) fun v26 h26 =>
 ifD v26 (
 bnd (rec 42 [x0] h26) fun v27 h27 =>
 bnd (pPart1 2 v27 h27) fun v28 h28 =>
 bnd (pBuild [(.i .i64 (Int.ofNat 0)), (.s []), (.i .i64 (Int.ofNat 0)), .l0, .l0, .l0] [(0, 1, (.i .i64 (Int.ofNat 1))), (2, 1, v28)] h28) fun v29 h29 =>
 bnd (pStore 6 v1 v29 h29) fun _ h30 =>
 bnd (pLoadA 6 v1 h30) fun v31 _ =>
 some (.t [v31, (.b true)], h30)) (
 bnd (rec 41 [x0, (.i .i64 (Int.ofNat 5)), (.s [])] h26) fun v32 h32 =>
 ifD v32 (
 bnd (rec 42 [x0] h32) fun v33 h33 =>
 bnd (pPart1 1 v33 h33) fun v34 h34 =>
 bnd (pBuild [(.i .i64 (Int.ofNat 0)), (.s []), (.i .i64 (Int.ofNat 0)), .l0, .l0, .l0] [(0, 1, (.i .i64 (Int.ofNat 2))), (1, 1, v34)] h34) fun v35 h35 =>
 bnd (pStore 6 v1 v35 h35) fun _ h36 =>
 bnd (pLoadA 6 v1 h36) fun v37 _ =>
 some (.t [v37, (.b true)], h36)) (
 bnd (rec 41 [x0, (.i .i64 (Int.ofNat 6)), (.s [])] h32) fun v38 h38 =>
 ifD v38 (
 bnd (rec 42 [x0] h38) fun v39 h39 =>
 bnd (pPart1 1 v39 h39) fun v40 h40 =>
 bnd (pBuild [(.i .i64 (Int.ofNat 0)), (.s []), (.i .i64 (Int.ofNat 0)), .l0, .l0, .l0] [(0, 1, (.i .i64 (Int.ofNat 3))), (1, 1, v40)] h40) fun v41 h41 =>
 bnd (pStore 6 v1 v41 h41) fun _ h42 =>
 bnd (pLoadA 6 v1 h42) fun v43 _ =>
 some (.t [v43, (.b true)], h42)) (
 bnd (pBuild [(.i .i64 (Int.ofNat 0)), (.s []), (.i .i64 (Int.ofNat 0)), .l0, .l0, .l0] [] h38) fun v44 h44 =>
 bnd (pStore 6 v1 v44 h44) fun _ h45 =>
 bnd (pLoadA 6 v1 h45) fun v46 _ =>
 some (.t [v46, (.b false)], h45))))))
abbrev c73 : Code := cf Try.f73
abbrev r73 : K := retK CF Try.f73
def D73 (rec : RT) (n : Nat) (c : Code) (X : Nat → K) (k : K) : K := codeD CF rec 50 n c X r73 k
theorem s73m : D73 rec n c73 x0 r73 = (K1 (s73 rec n) 0) :=
  (by kernel_rfl)
theorem s73ok (args : List DV) (h : Hp) : bodyD CF rec n 73 args h = s73 rec n (args.getD 0 undefD) h :=
  (by kernel_rfl : bodyD CF rec n 73 args h = D73 rec n c73 x0 r73 (argsE args) h).trans ((congrFun (congrFun (s73m rec n) (argsE args)) h).trans (by kernel_rfl))

end
end Go.Dd

/- Dd, part Q5 (printed by gen.py): functions of the seat's program as Lean functions, linked to Dd. -/
set_option linter.unusedVariables false
set_option maxRecDepth 100000
namespace Go.Dd
open Go.Proofs
noncomputable section

variable (rec : RT) (n : Nat)
def s74a5 (rec : RT) (n : Nat) (x2 x3 : DV) (h0 : Hp) : Res :=
 bnd (pLoadA 6 x3 h0) fun v1 h1 =>
 bnd (pStore 6 x2 v1 h1) fun _ h2 =>
 bnd (pLoadA 6 x2 h2) fun v3 _ =>
 some (v3, h2)
def s74a4 (rec : RT) (n : Nat) (x0 x2 x3 : DV) (h0 : Hp) : Res :=
 bnd (pNil x0 h0) fun v1 h1 =>
 bnd (pField 3 v1 h1) fun v2 h2 =>
 bnd (pLoad1 v2 h2) fun v3 h3 =>
 bnd (pInt .eql v3 (.i .i64 (Int.ofNat 0)) h3) fun v4 h4 =>
 ifD v4 (
 bnd (rec 42 [x0] h4) fun v5 h5 =>
 bnd (pNil x0 h5) fun v6 h6 =>
 bnd (pField 2 v6 h6) fun v7 h7 =>
 bnd (pLoad1 v7 h7) fun v8 h8 =>
 bnd (pInt .sub v8 (.i .i64 (Int.ofNat 1)) h8) fun v9 h9 =>
 bnd (pNil x0 h9) fun v10 h10 =>
 bnd (pField 2 v10 h10) fun v11 h11 =>
 bnd (pStore 1 v11 v9 h11) fun _ h12 =>
    s74a5 rec n x2 x3 h12) (
    s74a5 rec n x2 x3 h4)
def s74a9 (rec : RT) (n : Nat) (kk6 : TT4) (x0 x2 x3 x4 x5 : DV) (h0 : Hp) : Res :=
 bnd (pField 5 x3 h0) fun v1 h1 =>
 bnd (pLoad1 v1 h1) fun v2 h2 =>
 bnd (pLoadA 6 x5 h2) fun v3 h3 =>
 bnd (pBuildSlice [(.i .i64 (Int.ofNat 0)), (.s []), (.i .i64 (Int.ofNat 0)), .l0, .l0, .l0] 1 [(0, 6, v3)] h3) fun v4 h4 =>
 bnd (pAppend 6 104 v2 v4 h4) fun v5 h5 =>
 bnd (pField 5 x3 h5) fun v6 h6 =>
 bnd (pStore 1 v6 v5 h6) fun _ h7 =>
  kk6 x0 x2 x3 x4 h7
def s74a8 (rec : RT) (n : Nat) (kk6 : TT4) (x0 x2 x3 x4 x5 x6 : DV) (h0 : Hp) : Res :=
 bnd (pUn .not x6 h0) fun v1 h1 =>
 ifD v1 (
 bnd (rec 41 [x0, (.i .i64 (Int.ofNat 7)), (.s [])] h1) fun v2 h2 =>
 bnd (gD v2 false (some (x0, h2)) h2) fun v3 h3 =>
 bnd (gD v2 false (rec 41 [v3, (.i .i64 (Int.ofNat 10)), (.s [40])] h3) h3) fun v4 h4 =>
 bnd (pPick v2 (.b true) v4 h4) fun v5 h5 =>
 ifD v5 (
 bnd (rec 74 [x0] h5) fun v6 h6 =>
 bnd (pStore 6 x5 v6 h6) fun _ h7 =>
      s74a9 rec n kk6 x0 x2 x3 x4 x5 h7) (
 bnd (rec 46 [x0, (.i .i64 (Int.ofNat 0))] h5) fun v8 h8 =>
 bnd (rec 44 [x0, v8, (.i .i64 (Int.ofNat 13))] h8) fun v9 h9 =>
      s74a9 rec n kk6 x0 x2 x3 x4 x5 h9)) (
    s74a9 rec n kk6 x0 x2 x3 x4 x5 h1)
def s74a7 (rec : RT) (n : Nat) (kk6 : TT4) (x0 x2 x3 x4 : DV) (h0 : Hp) : Res :=
 bnd (rec 73 [x0] h0) fun v1 h1 =>
 bnd (pExtract 0 v1 h1) fun v2 h2 =>
 bnd (pExtract 1 v1 h2) fun v3 h3 =>
 bnd (pNew [(.i .i64 (Int.ofNat 0)), (.s []), (.i .i64 (Int.ofNat 0)), .l0, .l0, .l0] h3) fun v4 h4 =>
 bnd (pStore 6 v4 v2 h4) fun _ h5 =>
  s74a8 rec n kk6 x0 x2 x3 x4 v4 v3 h5
def s74a6b (rec : RT) (n : Nat) (kk6 : TT4) (x0 x2 x3 x4 : DV) (h0 : Hp) : Res :=
 bnd (gD x4 true (some (x0, h0)) h0) fun v1 h1 =>
 bnd (gD x4 true (pNil v1 h1) h1) fun v2 h2 =>
 bnd (gD x4 true (pField 3 v2 h2) h2) fun v3 h3 =>
 bnd (gD x4 true (pLoad1 v3 h3) h3) fun v4 h4 =>
 bnd (gD x4 true (pInt .eql v4 (.i .i64 (Int.ofNat 0)) h4) h4) fun v5 h5 =>
 bnd (pPick x4 v5 (.b false) h5) fun v6 h6 =>
 bnd (gD v6 true (some (x0, h6)) h6) fun v7 h7 =>
 bnd (gD v6 true (rec 41 [v7, (.i .i64 (Int.ofNat 10)), (.s [41])] h7) h7) fun v8 h8 =>
 bnd (gD v6 true (pUn .not v8 h8) h8) fun v9 h9 =>
 bnd (pPick v6 v9 (.b false) h9) fun v10 h10 =>
 ifD v10 (
      s74a7 rec n kk6 x0 x2 x3 x4 h10) (
      s74a4 rec n x0 x2 x3 h10)
def s74a6l (rec : RT) (n : Nat) (m : Nat) : TT4 :=
  Nat.rec (motive := fun _ => TT4) (fun _ _ _ _ _ => none) (fun _ ih => s74a6b rec n ih) m
def s74a6 (rec : RT) (n : Nat) : TT4 := s74a6l rec n n
def s74a3 (rec : RT) (n : Nat) (x0 x2 x3 x4 : DV) (h0 : Hp) : Res :=
  s74a6 rec n x0 x2 x3 x4 h0
def s74a2 (rec : RT) (n : Nat) (x0 x2 x3 : DV) (h0 : Hp) : Res :=
 bnd (rec 75 [x0] h0) fun v1 h1 =>
  s74a3 rec n x0 x2 x3 v1 h1
def s74a1 (rec : RT) (n : Nat) (x0 x2 : DV) (h0 : Hp) : Res :=
 bnd (pBuild [(.i .i64 (Int.ofNat 0)), (.s []), (.i .i64 (Int.ofNat 0)), .l0, .l0, .l0] [(0, 1, (.i .i64 (Int.ofNat 4)))] h0) fun v1 h1 =>
 bnd (pNew [(.i .i64 (Int.ofNat 0)), (.s []), (.i .i64 (Int.ofNat 0)), .l0, .l0, .l0] h1) fun v2 h2 =>
 bnd (pStore 6 v2 v1 h2) fun _ h3 =>
  s74a2 rec n x0 x2 v2 h3
/-- vivariumref07.P).literals -/
def s74 (rec : RT) (n : Nat) (x0 : DV) (h0 : Hp) : Res :=
 bnd (pNew [(.i .i64 (Int.ofNat 0)), (.s []), (.i .i64 (Int.ofNat 0)), .l0, .l0, .l0] h0) fun v1 h1 =>
  s74a1 rec n x0 v1 h1
abbrev c74 : Code := cf Try.f74
abbrev c74x1 : Code := cR c74
abbrev c74x2 : Code := cR c74x1
abbrev c74x3 : Code := cR c74x2
abbrev c74x4 : Code := cR c74x3
abbrev c74x5 : Code := cR c74x4
abbrev c74x6 : Code := cL c74x4
abbrev c74x7 : Code := cL c74x3
abbrev c74x8 : Code := cL c74x7
abbrev c74x9 : Code := cL c74x8
abbrev c74x10 : Code := cR c74x9
abbrev c74x11 : Code := cL c74x10
abbrev c74x12 : Code := cR c74x11
abbrev c74x13 : Code := cR c74x12
abbrev c74x14 : Code := cL c74x12
abbrev c74x15 : Code := cL c74x11
abbrev c74x16 : Code := cL c74x9
abbrev c74x17 : Code := cL c74x2
abbrev c74x18 : Code := cL c74x1
abbrev c74x19 : Code := cL c74
abbrev r74 : K := retK CF Try.f74
def D74 (rec : RT) (n : Nat) (c : Code) (X : Nat → K) (k : K) : K := codeD CF rec 63 n c X r74 k
theorem s74a5e : D74 rec n c74x5 x0 r74 = (K2 (s74a5 rec n) 2 3) :=
  (by kernel_rfl)
theorem s74a4p1 : D74 rec n c74x4 x0 r74 = D74 rec n c74x6 x0 (K2 (s74a5 rec n) 2 3) :=
  congrArg (fun k => D74 rec n c74x6 x0 k) (s74a5e rec n)
theorem s74a4e : D74 rec n c74x4 x0 r74 = (K3 (s74a4 rec n) 0 2 3) :=
  (s74a4p1 rec n).trans
  ((by kernel_rfl))
theorem s74a9q2 (kk6 : TT4) (q0 : TT3) : D74 rec n c74x13 (xs (xs x0 0 (K3 q0 0 2 3)) 1 (K4 kk6 0 2 3 4)) (K4 kk6 0 2 3 4) = fun (env : Env) (h : Hp) =>
 bnd (pField 5 (env 3) h) fun v1 h1 =>
 bnd (pLoad1 v1 h1) fun v2 h2 =>
 bnd (pLoadA 6 (env 5) h2) fun v3 h3 =>
 bnd (pBuildSlice [(.i .i64 (Int.ofNat 0)), (.s []), (.i .i64 (Int.ofNat 0)), .l0, .l0, .l0] 1 [(0, 6, v3)] h3) fun v4 h4 =>
 bnd (pAppend 6 104 v2 v4 h4) fun v5 h5 =>
 bnd (pField 5 (env 3) h5) fun v6 h6 =>
 bnd (pStore 1 v6 v5 h6) fun _ h7 =>
    kk6 (env 0) (env 2) (env 3) (env 4) h7 := by kernel_rfl
theorem s74a9q2u (kk6 : TT4) : (fun (env : Env) (h : Hp) =>
 bnd (pField 5 (env 3) h) fun v1 h1 =>
 bnd (pLoad1 v1 h1) fun v2 h2 =>
 bnd (pLoadA 6 (env 5) h2) fun v3 h3 =>
 bnd (pBuildSlice [(.i .i64 (Int.ofNat 0)), (.s []), (.i .i64 (Int.ofNat 0)), .l0, .l0, .l0] 1 [(0, 6, v3)] h3) fun v4 h4 =>
 bnd (pAppend 6 104 v2 v4 h4) fun v5 h5 =>
 bnd (pField 5 (env 3) h5) fun v6 h6 =>
 bnd (pStore 1 v6 v5 h6) fun _ h7 =>
    kk6 (env 0) (env 2) (env 3) (env 4) h7) = (K5 (s74a9 rec n kk6) 0 2 3 4 5) := by kernel_rfl
theorem s74a9e (kk6 : TT4) : D74 rec n c74x13 (xs (xs x0 0 (K3 (s74a4 rec n) 0 2 3)) 1 (K4 kk6 0 2 3 4)) (K4 kk6 0 2 3 4) = (K5 (s74a9 rec n kk6) 0 2 3 4 5) :=
  (s74a9q2 rec n kk6 (s74a4 rec n)).trans (s74a9q2u rec n kk6)
theorem s74a8p3 (kk6 : TT4) : D74 rec n c74x12 (xs (xs x0 0 (K3 (s74a4 rec n) 0 2 3)) 1 (K4 kk6 0 2 3 4)) (K4 kk6 0 2 3 4) = D74 rec n c74x14 (xs (xs x0 0 (K3 (s74a4 rec n) 0 2 3)) 1 (K4 kk6 0 2 3 4)) (K5 (s74a9 rec n kk6) 0 2 3 4 5) :=
  congrArg (fun k => D74 rec n c74x14 (xs (xs x0 0 (K3 (s74a4 rec n) 0 2 3)) 1 (K4 kk6 0 2 3 4)) k) (s74a9e rec n kk6)
theorem s74a8e (kk6 : TT4) : D74 rec n c74x12 (xs (xs x0 0 (K3 (s74a4 rec n) 0 2 3)) 1 (K4 kk6 0 2 3 4)) (K4 kk6 0 2 3 4) = (K6 (s74a8 rec n kk6) 0 2 3 4 5 6) :=
  (s74a8p3 rec n kk6).trans
  ((by kernel_rfl))
theorem s74a7p4 (kk6 : TT4) : D74 rec n c74x11 (xs (xs x0 0 (K3 (s74a4 rec n) 0 2 3)) 1 (K4 kk6 0 2 3 4)) (K4 kk6 0 2 3 4) = D74 rec n c74x15 (xs (xs x0 0 (K3 (s74a4 rec n) 0 2 3)) 1 (K4 kk6 0 2 3 4)) (K6 (s74a8 rec n kk6) 0 2 3 4 5 6) :=
  congrArg (fun k => D74 rec n c74x15 (xs (xs x0 0 (K3 (s74a4 rec n) 0 2 3)) 1 (K4 kk6 0 2 3 4)) k) (s74a8e rec n kk6)
theorem s74a7q5 (kk6 : TT4) (q0 : TT6) (q1 : TT3) : D74 rec n c74x15 (xs (xs x0 0 (K3 q1 0 2 3)) 1 (K4 kk6 0 2 3 4)) (K6 q0 0 2 3 4 5 6) = fun (env : Env) (h : Hp) =>
 bnd (rec 73 [(env 0)] h) fun v1 h1 =>
 bnd (pExtract 0 v1 h1) fun v2 h2 =>
 bnd (pExtract 1 v1 h2) fun v3 h3 =>
 bnd (pNew [(.i .i64 (Int.ofNat 0)), (.s []), (.i .i64 (Int.ofNat 0)), .l0, .l0, .l0] h3) fun v4 h4 =>
 bnd (pStore 6 v4 v2 h4) fun _ h5 =>
    q0 (env 0) (env 2) (env 3) (env 4) v4 v3 h5 := by kernel_rfl
theorem s74a7q5u (kk6 : TT4) : (fun (env : Env) (h : Hp) =>
 bnd (rec 73 [(env 0)] h) fun v1 h1 =>
 bnd (pExtract 0 v1 h1) fun v2 h2 =>
 bnd (pExtract 1 v1 h2) fun v3 h3 =>
 bnd (pNew [(.i .i64 (Int.ofNat 0)), (.s []), (.i .i64 (Int.ofNat 0)), .l0, .l0, .l0] h3) fun v4 h4 =>
 bnd (pStore 6 v4 v2 h4) fun _ h5 =>
    s74a8 rec n kk6 (env 0) (env 2) (env 3) (env 4) v4 v3 h5) = (K4 (s74a7 rec n kk6) 0 2 3 4) := by kernel_rfl
theorem s74a7e (kk6 : TT4) : D74 rec n c74x10 (xs x0 0 (K3 (s74a4 rec n) 0 2 3)) (K4 kk6 0 2 3 4) = (K4 (s74a7 rec n kk6) 0 2 3 4) :=
  (by kernel_rfl : D74 rec n c74x10 (xs x0 0 (K3 (s74a4 rec n) 0 2 3)) (K4 kk6 0 2 3 4) = D74 rec n c74x11 (xs (xs x0 0 (K3 (s74a4 rec n) 0 2 3)) 1 (K4 kk6 0 2 3 4)) (K4 kk6 0 2 3 4)).trans
  ((s74a7p4 rec n kk6).trans
  ((s74a7q5 rec n kk6 (s74a8 rec n kk6) (s74a4 rec n)).trans (s74a7q5u rec n kk6)))
theorem s74a6p6 (kk6 : TT4) : D74 rec n c74x9 (xs x0 0 (K3 (s74a4 rec n) 0 2 3)) (K4 kk6 0 2 3 4) = D74 rec n c74x16 (xs x0 0 (K3 (s74a4 rec n) 0 2 3)) (K4 (s74a7 rec n kk6) 0 2 3 4) :=
  congrArg (fun k => D74 rec n c74x16 (xs x0 0 (K3 (s74a4 rec n) 0 2 3)) k) (s74a7e rec n kk6)
theorem s74a6be (kk6 : TT4) : D74 rec n c74x9 (xs x0 0 (K3 (s74a4 rec n) 0 2 3)) (K4 kk6 0 2 3 4) = (K4 (s74a6b rec n kk6) 0 2 3 4) :=
  (s74a6p6 rec n kk6).trans
  ((by kernel_rfl))
theorem s74a6le (m : Nat) : loopN (fun kk => D74 rec n c74x9 (xs x0 0 (K3 (s74a4 rec n) 0 2 3)) kk) m = (K4 (s74a6l rec n m) 0 2 3 4) := by
  induction m with
  | zero => exact (by kernel_rfl : loopN (fun kk => D74 rec n c74x9 (xs x0 0 (K3 (s74a4 rec n) 0 2 3)) kk) 0 = (K4 (s74a6l rec n 0) 0 2 3 4))
  | succ m ih =>
    refine (by kernel_rfl : loopN (fun kk => D74 rec n c74x9 (xs x0 0 (K3 (s74a4 rec n) 0 2 3)) kk) (m + 1) = D74 rec n c74x9 (xs x0 0 (K3 (s74a4 rec n) 0 2 3)) (loopN (fun kk => D74 rec n c74x9 (xs x0 0 (K3 (s74a4 rec n) 0 2 3)) kk) m)).trans ?_
    rw [ih]
    exact (s74a6be rec n (s74a6l rec n m)).trans (by kernel_rfl)
theorem s74a6e : D74 rec n c74x8 (xs x0 0 (K3 (s74a4 rec n) 0 2 3)) (K3 (s74a4 rec n) 0 2 3) = (K4 (s74a6 rec n) 0 2 3 4) :=
  (by kernel_rfl : D74 rec n c74x8 (xs x0 0 (K3 (s74a4 rec n) 0 2 3)) (K3 (s74a4 rec n) 0 2 3) = loopN (fun kk => D74 rec n c74x9 (xs x0 0 (K3 (s74a4 rec n) 0 2 3)) kk) n).trans ((s74a6le rec n n).trans (by kernel_rfl))
theorem s74a3p7 : D74 rec n c74x3 x0 r74 = D74 rec n c74x7 x0 (K3 (s74a4 rec n) 0 2 3) :=
  congrArg (fun k => D74 rec n c74x7 x0 k) (s74a4e rec n)
theorem s74a3e : D74 rec n c74x3 x0 r74 = (K4 (s74a3 rec n) 0 2 3 4) :=
  (s74a3p7 rec n).trans
  ((by kernel_rfl : D74 rec n c74x7 x0 (K3 (s74a4 rec n) 0 2 3) = D74 rec n c74x8 (xs x0 0 (K3 (s74a4 rec n) 0 2 3)) (K3 (s74a4 rec n) 0 2 3)).trans
  ((s74a6e rec n).trans (by kernel_rfl)))
theorem s74a2p8 : D74 rec n c74x2 x0 r74 = D74 rec n c74x17 x0 (K4 (s74a3 rec n) 0 2 3 4) :=
  congrArg (fun k => D74 rec n c74x17 x0 k) (s74a3e rec n)
theorem s74a2e : D74 rec n c74x2 x0 r74 = (K3 (s74a2 rec n) 0 2 3) :=
  (s74a2p8 rec n).trans
  ((by kernel_rfl))
theorem s74a1p9 : D74 rec n c74x1 x0 r74 = D74 rec n c74x18 x0 (K3 (s74a2 rec n) 0 2 3) :=
  congrArg (fun k => D74 rec n c74x18 x0 k) (s74a2e rec n)
theorem s74a1q10 (q0 : TT3) : D74 rec n c74x18 x0 (K3 q0 0 2 3) = fun (env : Env) (h : Hp) =>
 bnd (pBuild [(.i .i64 (Int.ofNat 0)), (.s []), (.i .i64 (Int.ofNat 0)), .l0, .l0, .l0] [(0, 1, (.i .i64 (Int.ofNat 4)))] h) fun v1 h1 =>
 bnd (pNew [(.i .i64 (Int.ofNat 0)), (.s []), (.i .i64 (Int.ofNat 0)), .l0, .l0, .l0] h1) fun v2 h2 =>
 bnd (pStore 6 v2 v1 h2) fun _ h3 =>
    q0 (env 0) (env 2) v2 h3 := by kernel_rfl
theorem s74a1q10u : (fun (env : Env) (h : Hp) =>
 bnd (pBuild [(.i .i64 (Int.ofNat 0)), (.s []), (.i .i64 (Int.ofNat 0)), .l0, .l0, .l0] [(0, 1, (.i .i64 (Int.ofNat 4)))] h) fun v1 h1 =>
 bnd (pNew [(.i .i64 (Int.ofNat 0)), (.s []), (.i .i64 (Int.ofNat 0)), .l0, .l0, .l0] h1) fun v2 h2 =>
 bnd (pStore 6 v2 v1 h2) fun _ h3 =>
    s74a2 rec n (env 0) (env 2) v2 h3) = (K2 (s74a1 rec n) 0 2) := by kernel_rfl
theorem s74a1e : D74 rec n c74x1 x0 r74 = (K2 (s74a1 rec n) 0 2) :=
  (s74a1p9 rec n).trans
  ((s74a1q10 rec n (s74a2 rec n)).trans (s74a1q10u rec n))
theorem s74p11 : D74 rec n c74 x0 r74 = D74 rec n c74x19 x0 (K2 (s74a1 rec n) 0 2) :=
  congrArg (fun k => D74 rec n c74x19 x0 k) (s74a1e rec n)
theorem s74q12 (q0 : TT2) : D74 rec n c74x19 x0 (K2 q0 0 2) = fun (env : Env) (h : Hp) =>
 bnd (pNew [(.i .i64 (Int.ofNat 0)), (.s []), (.i .i64 (Int.ofNat 0)), .l0, .l0, .l0] h) fun v1 h1 =>
    q0 (env 0) v1 h1 := by kernel_rfl
theorem s74q12u : (fun (env : Env) (h : Hp) =>
 bnd (pNew [(.i .i64 (Int.ofNat 0)), (.s []), (.i .i64 (Int.ofNat 0)), .l0, .l0, .l0] h) fun v1 h1 =>
    s74a1 rec n (env 0) v1 h1) = (K1 (s74 rec n) 0) := by kernel_rfl
theorem s74m : D74 rec n c74 x0 r74 = (K1 (s74 rec n) 0) :=
  (s74p11 rec n).trans
  ((s74q12 rec n (s74a1 rec n)).trans (s74q12u rec n))
theorem s74ok (args : List DV) (h : Hp) : bodyD CF rec n 74 args h = s74 rec n (args.getD 0 undefD) h :=
  (by kernel_rfl : bodyD CF rec n 74 args h = D74 rec n c74 x0 r74 (argsE args) h).trans ((congrFun (congrFun (s74m rec n) (argsE args)) h).trans (by kernel_rfl))
/-- vivariumref07.P).open -/
def s75 (rec : RT) (n : Nat) (x0 : DV) (h0 : Hp) : Res :=
 bnd (rec 42 [x0] h0) fun v1 h1 =>
 bnd (pNew [(.i .i64 (Int.ofNat 0)), (.s []), (.i .i64 (Int.ofNat 0)), (.i .i64 (Int.ofNat 0))] h1) fun v2 h2 =>
 bnd (pStore 4 v2 v1 h2) fun _ h3 =>
 bnd (pNil x0 h3) fun v4 h4 =>
 bnd (pField 2 v4 h4) fun v5 h5 =>
 bnd (pLoad1 v5 h5) fun v6 h6 =>
 bnd (pInt .eql v6 (.i .i64 (Int.ofNat 20)) h6) fun v7 h7 =>
 ifD v7 (
 bnd (pLoadA 4 v2 h7) fun v8 h8 =>
 bnd (rec 44 [x0, v8, (.i .i64 (Int.ofNat 14))] h8) fun v9 h9 =>
 some ((.b false), h9)) (
 bnd (pNil x0 h7) fun v10 h10 =>
 bnd (pField 2 v10 h10) fun v11 h11 =>
 bnd (pLoad1 v11 h11) fun v12 h12 =>
 bnd (pInt .add v12 (.i .i64 (Int.ofNat 1)) h12) fun v13 h13 =>
 bnd (pNil x0 h13) fun v14 h14 =>
 bnd (pField 2 v14 h14) fun v15 h15 =>
 bnd (pStore 1 v15 v13 h15) fun _ h16 =>
 some ((.b true), h16))
abbrev c75 : Code := cf Try.f75
abbrev r75 : K := retK CF Try.f75
def D75 (rec : RT) (n : Nat) (c : Code) (X : Nat → K) (k : K) : K := codeD CF rec 21 n c X r75 k
theorem s75m : D75 rec n c75 x0 r75 = (K1 (s75 rec n) 0) :=
  (by kernel_rfl)
theorem s75ok (args : List DV) (h : Hp) : bodyD CF rec n 75 args h = s75 rec n (args.getD 0 undefD) h :=
  (by kernel_rfl : bodyD CF rec n 75 args h = D75 rec n c75 x0 r75 (argsE args) h).trans ((congrFun (congrFun (s75m rec n) (argsE args)) h).trans (by kernel_rfl))
def s76a6 (rec : RT) (n : Nat) (x0 x2 x3 : DV) (h0 : Hp) : Res :=
 bnd (rec 26 [x0] h0) fun v1 h1 =>
 bnd (pField 4 x3 h1) fun v2 h2 =>
 bnd (pStore 1 v2 v1 h2) fun _ h3 =>
 bnd (rec 27 [x0] h3) fun v4 h4 =>
 bnd (pField 5 x3 h4) fun v5 h5 =>
 bnd (pStore 1 v5 v4 h5) fun _ h6 =>
 bnd (rec 28 [x0, (.i .i64 (Int.ofNat 10)), (.s [93])] h6) fun v7 h7 =>
 bnd (pNil x0 h7) fun v8 h8 =>
 bnd (pField 2 v8 h8) fun v9 h9 =>
 bnd (pLoad1 v9 h9) fun v10 h10 =>
 bnd (pInt .sub v10 (.i .i64 (Int.ofNat 1)) h10) fun v11 h11 =>
 bnd (pNil x0 h11) fun v12 h12 =>
 bnd (pField 2 v12 h12) fun v13 h13 =>
 bnd (pStore 1 v13 v11 h13) fun _ h14 =>
 bnd (pLoadA 6 x3 h14) fun v15 h15 =>
 bnd (pStore 6 x2 v15 h15) fun _ h16 =>
 bnd (pLoadA 6 x2 h16) fun v17 _ =>
 some (v17, h16)
def s76a5 (rec : RT) (n : Nat) (x0 x2 x3 : DV) (h0 : Hp) : Res :=
 bnd (pField 3 x3 h0) fun v1 h1 =>
 bnd (pLoad1 v1 h1) fun v2 h2 =>
 bnd (pLen v2 h2) fun v3 h3 =>
 bnd (pInt .gtr v3 (.i .i64 (Int.ofNat 0)) h3) fun v4 h4 =>
 bnd (gD v4 true (some (x0, h4)) h4) fun v5 h5 =>
 bnd (gD v4 true (rec 41 [v5, (.i .i64 (Int.ofNat 10)), (.s [93])] h5) h5) fun v6 h6 =>
 bnd (gD v4 true (pUn .not v6 h6) h6) fun v7 h7 =>
 bnd (pPick v4 v7 (.b false) h7) fun v8 h8 =>
 ifD v8 (
 bnd (rec 28 [x0, (.i .i64 (Int.ofNat 10)), (.s [124])] h8) fun v9 h9 =>
    s76a6 rec n x0 x2 x3 h9) (
    s76a6 rec n x0 x2 x3 h8)
def s76a7b (rec : RT) (n : Nat) (kk7 : TT3) (x0 x2 x3 : DV) (h0 : Hp) : Res :=
 bnd (rec 41 [x0, (.i .i64 (Int.ofNat 8)), (.s [])] h0) fun v1 h1 =>
 ifD v1 (
 bnd (pField 3 x3 h1) fun v2 h2 =>
 bnd (pLoad1 v2 h2) fun v3 h3 =>
 bnd (rec 43 [x0, (.i .i64 (Int.ofNat 8)), v3] h3) fun v4 h4 =>
 bnd (pField 3 x3 h4) fun v5 h5 =>
 bnd (pStore 1 v5 v4 h5) fun _ h6 =>
      kk7 x0 x2 x3 h6) (
      s76a5 rec n x0 x2 x3 h1)
def s76a7l (rec : RT) (n : Nat) (m : Nat) : TT3 :=
  Nat.rec (motive := fun _ => TT3) (fun _ _ _ _ => none) (fun _ ih => s76a7b rec n ih) m
def s76a7 (rec : RT) (n : Nat) : TT3 := s76a7l rec n n
def s76a4 (rec : RT) (n : Nat) (x0 x2 x3 : DV) (h0 : Hp) : Res :=
  s76a7 rec n x0 x2 x3 h0
def s76a3 (rec : RT) (n : Nat) (x0 x2 x3 x4 : DV) (h0 : Hp) : Res :=
 bnd (pUn .not x4 h0) fun v1 h1 =>
 ifD v1 (
 bnd (pLoadA 6 x3 h1) fun v2 h2 =>
 bnd (pStore 6 x2 v2 h2) fun _ h3 =>
 bnd (pLoadA 6 x2 h3) fun v4 _ =>
 some (v4, h3)) (
    s76a4 rec n x0 x2 x3 h1)
def s76a2 (rec : RT) (n : Nat) (x0 x2 x3 : DV) (h0 : Hp) : Res :=
 bnd (rec 75 [x0] h0) fun v1 h1 =>
  s76a3 rec n x0 x2 x3 v1 h1
def s76a1 (rec : RT) (n : Nat) (x0 x2 : DV) (h0 : Hp) : Res :=
 bnd (pBuild [(.i .i64 (Int.ofNat 0)), (.s []), (.i .i64 (Int.ofNat 0)), .l0, .l0, .l0] [(0, 1, (.i .i64 (Int.ofNat 9)))] h0) fun v1 h1 =>
 bnd (pNew [(.i .i64 (Int.ofNat 0)), (.s []), (.i .i64 (Int.ofNat 0)), .l0, .l0, .l0] h1) fun v2 h2 =>
 bnd (pStore 6 v2 v1 h2) fun _ h3 =>
  s76a2 rec n x0 x2 v2 h3
/-- vivariumref07.P).block -/
def s76 (rec : RT) (n : Nat) (x0 : DV) (h0 : Hp) : Res :=
 bnd (pNew [(.i .i64 (Int.ofNat 0)), (.s []), (.i .i64 (Int.ofNat 0)), .l0, .l0, .l0] h0) fun v1 h1 =>
  s76a1 rec n x0 v1 h1
abbrev c76 : Code := cf Try.f76
abbrev c76x1 : Code := cR c76
abbrev c76x2 : Code := cR c76x1
abbrev c76x3 : Code := cR c76x2
abbrev c76x4 : Code := cR c76x3
abbrev c76x5 : Code := cR c76x4
abbrev c76x6 : Code := cR c76x5
abbrev c76x7 : Code := cL c76x5
abbrev c76x8 : Code := cL c76x4
abbrev c76x9 : Code := cL c76x8
abbrev c76x10 : Code := cL c76x9
abbrev c76x11 : Code := cL c76x3
abbrev c76x12 : Code := cL c76x2
abbrev c76x13 : Code := cL c76x1
abbrev c76x14 : Code := cL c76
abbrev r76 : K := retK CF Try.f76
def D76 (rec : RT) (n : Nat) (c : Code) (X : Nat → K) (k : K) : K := codeD CF rec 45 n c X r76 k
theorem s76a6e : D76 rec n c76x6 x0 r76 = (K3 (s76a6 rec n) 0 2 3) :=
  (by kernel_rfl)
theorem s76a5p1 : D76 rec n c76x5 x0 r76 = D76 rec n c76x7 x0 (K3 (s76a6 rec n) 0 2 3) :=
  congrArg (fun k => D76 rec n c76x7 x0 k) (s76a6e rec n)
theorem s76a5e : D76 rec n c76x5 x0 r76 = (K3 (s76a5 rec n) 0 2 3) :=
  (s76a5p1 rec n).trans
  ((by kernel_rfl))
theorem s76a7be (kk7 : TT3) : D76 rec n c76x10 (xs x0 0 (K3 (s76a5 rec n) 0 2 3)) (K3 kk7 0 2 3) = (K3 (s76a7b rec n kk7) 0 2 3) :=
  (by kernel_rfl)
theorem s76a7le (m : Nat) : loopN (fun kk => D76 rec n c76x10 (xs x0 0 (K3 (s76a5 rec n) 0 2 3)) kk) m = (K3 (s76a7l rec n m) 0 2 3) := by
  induction m with
  | zero => exact (by kernel_rfl : loopN (fun kk => D76 rec n c76x10 (xs x0 0 (K3 (s76a5 rec n) 0 2 3)) kk) 0 = (K3 (s76a7l rec n 0) 0 2 3))
  | succ m ih =>
    refine (by kernel_rfl : loopN (fun kk => D76 rec n c76x10 (xs x0 0 (K3 (s76a5 rec n) 0 2 3)) kk) (m + 1) = D76 rec n c76x10 (xs x0 0 (K3 (s76a5 rec n) 0 2 3)) (loopN (fun kk => D76 rec n c76x10 (xs x0 0 (K3 (s76a5 rec n) 0 2 3)) kk) m)).trans ?_
    rw [ih]
    exact (s76a7be rec n (s76a7l rec n m)).trans (by kernel_rfl)
theorem s76a7e : D76 rec n c76x9 (xs x0 0 (K3 (s76a5 rec n) 0 2 3)) (K3 (s76a5 rec n) 0 2 3) = (K3 (s76a7 rec n) 0 2 3) :=
  (by kernel_rfl : D76 rec n c76x9 (xs x0 0 (K3 (s76a5 rec n) 0 2 3)) (K3 (s76a5 rec n) 0 2 3) = loopN (fun kk => D76 rec n c76x10 (xs x0 0 (K3 (s76a5 rec n) 0 2 3)) kk) n).trans ((s76a7le rec n n).trans (by kernel_rfl))
theorem s76a4p2 : D76 rec n c76x4 x0 r76 = D76 rec n c76x8 x0 (K3 (s76a5 rec n) 0 2 3) :=
  congrArg (fun k => D76 rec n c76x8 x0 k) (s76a5e rec n)
theorem s76a4e : D76 rec n c76x4 x0 r76 = (K3 (s76a4 rec n) 0 2 3) :=
  (s76a4p2 rec n).trans
  ((by kernel_rfl : D76 rec n c76x8 x0 (K3 (s76a5 rec n) 0 2 3) = D76 rec n c76x9 (xs x0 0 (K3 (s76a5 rec n) 0 2 3)) (K3 (s76a5 rec n) 0 2 3)).trans
  ((s76a7e rec n).trans (by kernel_rfl)))
theorem s76a3p3 : D76 rec n c76x3 x0 r76 = D76 rec n c76x11 x0 (K3 (s76a4 rec n) 0 2 3) :=
  congrArg (fun k => D76 rec n c76x11 x0 k) (s76a4e rec n)
theorem s76a3e : D76 rec n c76x3 x0 r76 = (K4 (s76a3 rec n) 0 2 3 4) :=
  (s76a3p3 rec n).trans
  ((by kernel_rfl))
theorem s76a2p4 : D76 rec n c76x2 x0 r76 = D76 rec n c76x12 x0 (K4 (s76a3 rec n) 0 2 3 4) :=
  congrArg (fun k => D76 rec n c76x12 x0 k) (s76a3e rec n)
theorem s76a2e : D76 rec n c76x2 x0 r76 = (K3 (s76a2 rec n) 0 2 3) :=
  (s76a2p4 rec n).trans
  ((by kernel_rfl))
theorem s76a1p5 : D76 rec n c76x1 x0 r76 = D76 rec n c76x13 x0 (K3 (s76a2 rec n) 0 2 3) :=
  congrArg (fun k => D76 rec n c76x13 x0 k) (s76a2e rec n)
theorem s76a1q6 (q0 : TT3) : D76 rec n c76x13 x0 (K3 q0 0 2 3) = fun (env : Env) (h : Hp) =>
 bnd (pBuild [(.i .i64 (Int.ofNat 0)), (.s []), (.i .i64 (Int.ofNat 0)), .l0, .l0, .l0] [(0, 1, (.i .i64 (Int.ofNat 9)))] h) fun v1 h1 =>
 bnd (pNew [(.i .i64 (Int.ofNat 0)), (.s []), (.i .i64 (Int.ofNat 0)), .l0, .l0, .l0] h1) fun v2 h2 =>
 bnd (pStore 6 v2 v1 h2) fun _ h3 =>
    q0 (env 0) (env 2) v2 h3 := by kernel_rfl
theorem s76a1q6u : (fun (env : Env) (h : Hp) =>
 bnd (pBuild [(.i .i64 (Int.ofNat 0)), (.s []), (.i .i64 (Int.ofNat 0)), .l0, .l0, .l0] [(0, 1, (.i .i64 (Int.ofNat 9)))] h) fun v1 h1 =>
 bnd (pNew [(.i .i64 (Int.ofNat 0)), (.s []), (.i .i64 (Int.ofNat 0)), .l0, .l0, .l0] h1) fun v2 h2 =>
 bnd (pStore 6 v2 v1 h2) fun _ h3 =>
    s76a2 rec n (env 0) (env 2) v2 h3) = (K2 (s76a1 rec n) 0 2) := by kernel_rfl
theorem s76a1e : D76 rec n c76x1 x0 r76 = (K2 (s76a1 rec n) 0 2) :=
  (s76a1p5 rec n).trans
  ((s76a1q6 rec n (s76a2 rec n)).trans (s76a1q6u rec n))
theorem s76p7 : D76 rec n c76 x0 r76 = D76 rec n c76x14 x0 (K2 (s76a1 rec n) 0 2) :=
  congrArg (fun k => D76 rec n c76x14 x0 k) (s76a1e rec n)
theorem s76q8 (q0 : TT2) : D76 rec n c76x14 x0 (K2 q0 0 2) = fun (env : Env) (h : Hp) =>
 bnd (pNew [(.i .i64 (Int.ofNat 0)), (.s []), (.i .i64 (Int.ofNat 0)), .l0, .l0, .l0] h) fun v1 h1 =>
    q0 (env 0) v1 h1 := by kernel_rfl
theorem s76q8u : (fun (env : Env) (h : Hp) =>
 bnd (pNew [(.i .i64 (Int.ofNat 0)), (.s []), (.i .i64 (Int.ofNat 0)), .l0, .l0, .l0] h) fun v1 h1 =>
    s76a1 rec n (env 0) v1 h1) = (K1 (s76 rec n) 0) := by kernel_rfl
theorem s76m : D76 rec n c76 x0 r76 = (K1 (s76 rec n) 0) :=
  (s76p7 rec n).trans
  ((s76q8 rec n (s76a1 rec n)).trans (s76q8u rec n))
theorem s76ok (args : List DV) (h : Hp) : bodyD CF rec n 76 args h = s76 rec n (args.getD 0 undefD) h :=
  (by kernel_rfl : bodyD CF rec n 76 args h = D76 rec n c76 x0 r76 (argsE args) h).trans ((congrFun (congrFun (s76m rec n) (argsE args)) h).trans (by kernel_rfl))
/-- lex.reader).name$1 -/
def s78 (rec : RT) (n : Nat) (x0 : DV) (h0 : Hp) : Res :=
 bnd (rec 65 [x0] h0) fun v1 h1 =>
 bnd (gD v1 false (some (x0, h1)) h1) fun v2 h2 =>
 bnd (gD v1 false (rec 68 [v2] h2) h2) fun v3 h3 =>
 bnd (pPick v1 (.b true) v3 h3) fun v4 h4 =>
 some (v4, h4)
abbrev c78 : Code := cf Try.f78
abbrev r78 : K := retK CF Try.f78
def D78 (rec : RT) (n : Nat) (c : Code) (X : Nat → K) (k : K) : K := codeD CF rec 9 n c X r78 k
theorem s78m : D78 rec n c78 x0 r78 = (K1 (s78 rec n) 0) :=
  (by kernel_rfl)
theorem s78ok (args : List DV) (h : Hp) : bodyD CF rec n 78 args h = s78 rec n (args.getD 0 undefD) h :=
  (by kernel_rfl : bodyD CF rec n 78 args h = D78 rec n c78 x0 r78 (argsE args) h).trans ((congrFun (congrFun (s78m rec n) (argsE args)) h).trans (by kernel_rfl))
/-- lex.reader).text$1 -/
def s79 (rec : RT) (n : Nat) (x0 : DV) (h0 : Hp) : Res :=
 bnd (pInt .neq x0 (.i .u8 (Int.ofNat 39)) h0) fun v1 h1 =>
 some (v1, h1)
abbrev c79 : Code := cf Try.f79
abbrev r79 : K := retK CF Try.f79
def D79 (rec : RT) (n : Nat) (c : Code) (X : Nat → K) (k : K) : K := codeD CF rec 5 n c X r79 k
theorem s79m : D79 rec n c79 x0 r79 = (K1 (s79 rec n) 0) :=
  (by kernel_rfl)
theorem s79ok (args : List DV) (h : Hp) : bodyD CF rec n 79 args h = s79 rec n (args.getD 0 undefD) h :=
  (by kernel_rfl : bodyD CF rec n 79 args h = D79 rec n c79 x0 r79 (argsE args) h).trans ((congrFun (congrFun (s79m rec n) (argsE args)) h).trans (by kernel_rfl))
def s80a4 (rec : RT) (n : Nat) (x4 x5 : DV) (h0 : Hp) : Res :=
 bnd (pLoadA 6 x5 h0) fun v1 h1 =>
 bnd (pStore 6 x4 v1 h1) fun _ h2 =>
 bnd (pLoadA 6 x4 h2) fun v3 _ =>
 some (v3, h2)
def s80a5b (rec : RT) (n : Nat) (kk5 : TT3) (x0 x4 x5 : DV) (h0 : Hp) : Res :=
 bnd (rec 51 [x0, (.i .i64 (Int.ofNat 2)), (.s [])] h0) fun v1 h1 =>
 ifD v1 (
 bnd (pField 1 x5 h1) fun v2 h2 =>
 bnd (pLoad1 v2 h2) fun v3 h3 =>
 bnd (rec 52 [x0] h3) fun v4 h4 =>
 cnd (sameR (pLoad1 v2 h4) v3 && true) (
 bnd (pPart1 1 v4 h4) fun v5 h5 =>
 bnd (pStr .add v3 v5 h5) fun v6 h6 =>
 bnd (pField 1 x5 h6) fun v7 h7 =>
 bnd (pStore 1 v7 v6 h7) fun v8 h8 =>
 bnd (pField 5 x5 (resv 1 h8)) fun v9 h9 =>
 bnd (pLoad1 v9 h9) fun v10 h10 =>
 bnd (rec 83 [x0] h10) fun v11 h11 =>
 cnd (sameR (pLoad1 v9 h11) v10 && true) (
 bnd (rec 82 [x0, v11] h11) fun v12 h12 =>
 cnd (sameR (pLoad1 v9 h12) v10 && true) (
 bnd (rec 81 [x0, v12] h12) fun v13 h13 =>
 cnd (sameR (pLoad1 v9 h13) v10 && true) (
 bnd (pBuildSliceAt (nthPos 0 h8.next) [(.i .i64 (Int.ofNat 0)), (.s []), (.i .i64 (Int.ofNat 0)), .l0, .l0, .l0] 1 [(0, 6, v13)] h13) fun v14 h14 =>
 bnd (pAppend 6 104 v10 v14 h14) fun v15 h15 =>
 bnd (pField 5 x5 h15) fun v16 h16 =>
 bnd (pStore 1 v16 v15 h16) fun v17 h17 =>
      kk5 x0 x4 x5 h17))))) (
      s80a4 rec n x4 x5 h1)
def s80a5l (rec : RT) (n : Nat) (m : Nat) : TT3 :=
  Nat.rec (motive := fun _ => TT3) (fun _ _ _ _ => none) (fun _ ih => s80a5b rec n ih) m
def s80a5 (rec : RT) (n : Nat) : TT3 := s80a5l rec n n
def s80a3 (rec : RT) (n : Nat) (x0 x4 x5 : DV) (h0 : Hp) : Res :=
  s80a5 rec n x0 x4 x5 h0
def s80a2 (rec : RT) (n : Nat) (x0 x3 x4 : DV) (h0 : Hp) : Res :=
 bnd (pLoadA 6 x3 h0) fun v1 h1 =>
 bnd (pBuildSlice [(.i .i64 (Int.ofNat 0)), (.s []), (.i .i64 (Int.ofNat 0)), .l0, .l0, .l0] 1 [(0, 6, v1)] h1) fun v2 h2 =>
 bnd (rec 86 [(.s []), v2] h2) fun v3 h3 =>
 bnd (pNew [(.i .i64 (Int.ofNat 0)), (.s []), (.i .i64 (Int.ofNat 0)), .l0, .l0, .l0] h3) fun v4 h4 =>
 bnd (pStore 6 v4 v3 h4) fun _ h5 =>
  s80a3 rec n x0 x4 v4 h5
def s80a1 (rec : RT) (n : Nat) (x0 x3 x4 : DV) (h0 : Hp) : Res :=
 bnd (rec 51 [x0, (.i .i64 (Int.ofNat 2)), (.s [])] h0) fun v1 h1 =>
 bnd (pUn .not v1 h1) fun v2 h2 =>
 ifD v2 (
 bnd (pLoadA 6 x3 h2) fun v3 h3 =>
 bnd (pStore 6 x4 v3 h3) fun _ h4 =>
 bnd (pLoadA 6 x4 h4) fun v5 _ =>
 some (v5, h4)) (
    s80a2 rec n x0 x3 x4 h2)
/-- parse.parser).keywords -/
def s80 (rec : RT) (n : Nat) (x0 x1 : DV) (h0 : Hp) : Res :=
 bnd (pBox x1 h0) fun v1 h1 =>
 bnd (pNew [(.i .i64 (Int.ofNat 0)), (.s []), (.i .i64 (Int.ofNat 0)), .l0, .l0, .l0] h1) fun v2 h2 =>
  s80a1 rec n x0 v1 v2 h2
abbrev c80 : Code := cf Try.f80
abbrev c80x1 : Code := cR c80
abbrev c80x2 : Code := cR c80x1
abbrev c80x3 : Code := cR c80x2
abbrev c80x4 : Code := cR c80x3
abbrev c80x5 : Code := cL c80x3
abbrev c80x6 : Code := cL c80x5
abbrev c80x7 : Code := cL c80x6
abbrev c80x8 : Code := cL c80x2
abbrev c80x9 : Code := cL c80x1
abbrev c80x10 : Code := cL c80
abbrev r80 : K := retK CF Try.f80
def D80 (rec : RT) (n : Nat) (c : Code) (X : Nat → K) (k : K) : K := codeD CF rec 34 n c X r80 k
theorem s80a4e : D80 rec n c80x4 x0 r80 = (K2 (s80a4 rec n) 4 5) :=
  (by kernel_rfl)
theorem s80a5q1 (kk5 : TT3) (q0 : TT2) : D80 rec n c80x7 (xs x0 0 (K2 q0 4 5)) (K3 kk5 0 4 5) = fun (env : Env) (h : Hp) =>
 bnd (rec 51 [(env 0), (.i .i64 (Int.ofNat 2)), (.s [])] h) fun v1 h1 =>
 ifD v1 (
 bnd (pField 1 (env 5) h1) fun v2 h2 =>
 bnd (pLoad1 v2 h2) fun v3 h3 =>
 bnd (rec 52 [(env 0)] h3) fun v4 h4 =>
 cnd (sameR (pLoad1 v2 h4) v3 && true) (
 bnd (pPart1 1 v4 h4) fun v5 h5 =>
 bnd (pStr .add v3 v5 h5) fun v6 h6 =>
 bnd (pField 1 (env 5) h6) fun v7 h7 =>
 bnd (pStore 1 v7 v6 h7) fun v8 h8 =>
 bnd (pField 5 (env 5) (resv 1 h8)) fun v9 h9 =>
 bnd (pLoad1 v9 h9) fun v10 h10 =>
 bnd (rec 83 [(env 0)] h10) fun v11 h11 =>
 cnd (sameR (pLoad1 v9 h11) v10 && true) (
 bnd (rec 82 [(env 0), v11] h11) fun v12 h12 =>
 cnd (sameR (pLoad1 v9 h12) v10 && true) (
 bnd (rec 81 [(env 0), v12] h12) fun v13 h13 =>
 cnd (sameR (pLoad1 v9 h13) v10 && true) (
 bnd (pBuildSliceAt (nthPos 0 h8.next) [(.i .i64 (Int.ofNat 0)), (.s []), (.i .i64 (Int.ofNat 0)), .l0, .l0, .l0] 1 [(0, 6, v13)] h13) fun v14 h14 =>
 bnd (pAppend 6 104 v10 v14 h14) fun v15 h15 =>
 bnd (pField 5 (env 5) h15) fun v16 h16 =>
 bnd (pStore 1 v16 v15 h16) fun v17 h17 =>
      kk5 (env 0) (env 4) (env 5) h17))))) (
      q0 (env 4) (env 5) h1) := by kernel_rfl
theorem s80a5q1u (kk5 : TT3) : (fun (env : Env) (h : Hp) =>
 bnd (rec 51 [(env 0), (.i .i64 (Int.ofNat 2)), (.s [])] h) fun v1 h1 =>
 ifD v1 (
 bnd (pField 1 (env 5) h1) fun v2 h2 =>
 bnd (pLoad1 v2 h2) fun v3 h3 =>
 bnd (rec 52 [(env 0)] h3) fun v4 h4 =>
 cnd (sameR (pLoad1 v2 h4) v3 && true) (
 bnd (pPart1 1 v4 h4) fun v5 h5 =>
 bnd (pStr .add v3 v5 h5) fun v6 h6 =>
 bnd (pField 1 (env 5) h6) fun v7 h7 =>
 bnd (pStore 1 v7 v6 h7) fun v8 h8 =>
 bnd (pField 5 (env 5) (resv 1 h8)) fun v9 h9 =>
 bnd (pLoad1 v9 h9) fun v10 h10 =>
 bnd (rec 83 [(env 0)] h10) fun v11 h11 =>
 cnd (sameR (pLoad1 v9 h11) v10 && true) (
 bnd (rec 82 [(env 0), v11] h11) fun v12 h12 =>
 cnd (sameR (pLoad1 v9 h12) v10 && true) (
 bnd (rec 81 [(env 0), v12] h12) fun v13 h13 =>
 cnd (sameR (pLoad1 v9 h13) v10 && true) (
 bnd (pBuildSliceAt (nthPos 0 h8.next) [(.i .i64 (Int.ofNat 0)), (.s []), (.i .i64 (Int.ofNat 0)), .l0, .l0, .l0] 1 [(0, 6, v13)] h13) fun v14 h14 =>
 bnd (pAppend 6 104 v10 v14 h14) fun v15 h15 =>
 bnd (pField 5 (env 5) h15) fun v16 h16 =>
 bnd (pStore 1 v16 v15 h16) fun v17 h17 =>
      kk5 (env 0) (env 4) (env 5) h17))))) (
      s80a4 rec n (env 4) (env 5) h1)) = (K3 (s80a5b rec n kk5) 0 4 5) := by kernel_rfl
theorem s80a5be (kk5 : TT3) : D80 rec n c80x7 (xs x0 0 (K2 (s80a4 rec n) 4 5)) (K3 kk5 0 4 5) = (K3 (s80a5b rec n kk5) 0 4 5) :=
  (s80a5q1 rec n kk5 (s80a4 rec n)).trans (s80a5q1u rec n kk5)
theorem s80a5le (m : Nat) : loopN (fun kk => D80 rec n c80x7 (xs x0 0 (K2 (s80a4 rec n) 4 5)) kk) m = (K3 (s80a5l rec n m) 0 4 5) := by
  induction m with
  | zero => exact (by kernel_rfl : loopN (fun kk => D80 rec n c80x7 (xs x0 0 (K2 (s80a4 rec n) 4 5)) kk) 0 = (K3 (s80a5l rec n 0) 0 4 5))
  | succ m ih =>
    refine (by kernel_rfl : loopN (fun kk => D80 rec n c80x7 (xs x0 0 (K2 (s80a4 rec n) 4 5)) kk) (m + 1) = D80 rec n c80x7 (xs x0 0 (K2 (s80a4 rec n) 4 5)) (loopN (fun kk => D80 rec n c80x7 (xs x0 0 (K2 (s80a4 rec n) 4 5)) kk) m)).trans ?_
    rw [ih]
    exact (s80a5be rec n (s80a5l rec n m)).trans (by kernel_rfl)
theorem s80a5e : D80 rec n c80x6 (xs x0 0 (K2 (s80a4 rec n) 4 5)) (K2 (s80a4 rec n) 4 5) = (K3 (s80a5 rec n) 0 4 5) :=
  (by kernel_rfl : D80 rec n c80x6 (xs x0 0 (K2 (s80a4 rec n) 4 5)) (K2 (s80a4 rec n) 4 5) = loopN (fun kk => D80 rec n c80x7 (xs x0 0 (K2 (s80a4 rec n) 4 5)) kk) n).trans ((s80a5le rec n n).trans (by kernel_rfl))
theorem s80a3p2 : D80 rec n c80x3 x0 r80 = D80 rec n c80x5 x0 (K2 (s80a4 rec n) 4 5) :=
  congrArg (fun k => D80 rec n c80x5 x0 k) (s80a4e rec n)
theorem s80a3e : D80 rec n c80x3 x0 r80 = (K3 (s80a3 rec n) 0 4 5) :=
  (s80a3p2 rec n).trans
  ((by kernel_rfl : D80 rec n c80x5 x0 (K2 (s80a4 rec n) 4 5) = D80 rec n c80x6 (xs x0 0 (K2 (s80a4 rec n) 4 5)) (K2 (s80a4 rec n) 4 5)).trans
  ((s80a5e rec n).trans (by kernel_rfl)))
theorem s80a2p3 : D80 rec n c80x2 x0 r80 = D80 rec n c80x8 x0 (K3 (s80a3 rec n) 0 4 5) :=
  congrArg (fun k => D80 rec n c80x8 x0 k) (s80a3e rec n)
theorem s80a2q4 (q0 : TT3) : D80 rec n c80x8 x0 (K3 q0 0 4 5) = fun (env : Env) (h : Hp) =>
 bnd (pLoadA 6 (env 3) h) fun v1 h1 =>
 bnd (pBuildSlice [(.i .i64 (Int.ofNat 0)), (.s []), (.i .i64 (Int.ofNat 0)), .l0, .l0, .l0] 1 [(0, 6, v1)] h1) fun v2 h2 =>
 bnd (rec 86 [(.s []), v2] h2) fun v3 h3 =>
 bnd (pNew [(.i .i64 (Int.ofNat 0)), (.s []), (.i .i64 (Int.ofNat 0)), .l0, .l0, .l0] h3) fun v4 h4 =>
 bnd (pStore 6 v4 v3 h4) fun _ h5 =>
    q0 (env 0) (env 4) v4 h5 := by kernel_rfl
theorem s80a2q4u : (fun (env : Env) (h : Hp) =>
 bnd (pLoadA 6 (env 3) h) fun v1 h1 =>
 bnd (pBuildSlice [(.i .i64 (Int.ofNat 0)), (.s []), (.i .i64 (Int.ofNat 0)), .l0, .l0, .l0] 1 [(0, 6, v1)] h1) fun v2 h2 =>
 bnd (rec 86 [(.s []), v2] h2) fun v3 h3 =>
 bnd (pNew [(.i .i64 (Int.ofNat 0)), (.s []), (.i .i64 (Int.ofNat 0)), .l0, .l0, .l0] h3) fun v4 h4 =>
 bnd (pStore 6 v4 v3 h4) fun _ h5 =>
    s80a3 rec n (env 0) (env 4) v4 h5) = (K3 (s80a2 rec n) 0 3 4) := by kernel_rfl
theorem s80a2e : D80 rec n c80x2 x0 r80 = (K3 (s80a2 rec n) 0 3 4) :=
  (s80a2p3 rec n).trans
  ((s80a2q4 rec n (s80a3 rec n)).trans (s80a2q4u rec n))
theorem s80a1p5 : D80 rec n c80x1 x0 r80 = D80 rec n c80x9 x0 (K3 (s80a2 rec n) 0 3 4) :=
  congrArg (fun k => D80 rec n c80x9 x0 k) (s80a2e rec n)
theorem s80a1e : D80 rec n c80x1 x0 r80 = (K3 (s80a1 rec n) 0 3 4) :=
  (s80a1p5 rec n).trans
  ((by kernel_rfl))
theorem s80p6 : D80 rec n c80 x0 r80 = D80 rec n c80x10 x0 (K3 (s80a1 rec n) 0 3 4) :=
  congrArg (fun k => D80 rec n c80x10 x0 k) (s80a1e rec n)
theorem s80q7 (q0 : TT3) : D80 rec n c80x10 x0 (K3 q0 0 3 4) = fun (env : Env) (h : Hp) =>
 bnd (pBox (env 1) h) fun v1 h1 =>
 bnd (pNew [(.i .i64 (Int.ofNat 0)), (.s []), (.i .i64 (Int.ofNat 0)), .l0, .l0, .l0] h1) fun v2 h2 =>
    q0 (env 0) v1 v2 h2 := by kernel_rfl
theorem s80q7u : (fun (env : Env) (h : Hp) =>
 bnd (pBox (env 1) h) fun v1 h1 =>
 bnd (pNew [(.i .i64 (Int.ofNat 0)), (.s []), (.i .i64 (Int.ofNat 0)), .l0, .l0, .l0] h1) fun v2 h2 =>
    s80a1 rec n (env 0) v1 v2 h2) = (K2 (s80 rec n) 0 1) := by kernel_rfl
theorem s80m : D80 rec n c80 x0 r80 = (K2 (s80 rec n) 0 1) :=
  (s80p6 rec n).trans
  ((s80q7 rec n (s80a1 rec n)).trans (s80q7u rec n))
theorem s80ok (args : List DV) (h : Hp) : bodyD CF rec n 80 args h = s80 rec n (args.getD 0 undefD) (args.getD 1 undefD) h :=
  (by kernel_rfl : bodyD CF rec n 80 args h = D80 rec n c80 x0 r80 (argsE args) h).trans ((congrFun (congrFun (s80m rec n) (argsE args)) h).trans (by kernel_rfl))
def s81a2 (rec : RT) (n : Nat) (x3 x4 : DV) (h0 : Hp) : Res :=
 bnd (pLoadA 6 x3 h0) fun v1 h1 =>
 bnd (pStore 6 x4 v1 h1) fun _ h2 =>
 bnd (pLoadA 6 x4 h2) fun v3 _ =>
 some (v3, h2)
def s81a3b (rec : RT) (n : Nat) (kk3 : TT3) (x0 x3 x4 : DV) (h0 : Hp) : Res :=
 bnd (rec 51 [x0, (.i .i64 (Int.ofNat 3)), (.s [])] h0) fun v1 h1 =>
 ifD v1 (
 bnd (rec 52 [x0] h1) fun v2 h2 =>
 bnd (pNew [(.i .i64 (Int.ofNat 0)), (.s []), (.i .i64 (Int.ofNat 0)), (.i .i64 (Int.ofNat 0))] h2) fun v3 h3 =>
 bnd (pStore 4 v3 v2 h3) fun _ h4 =>
 bnd (pField 1 v3 (resv 1 h4)) fun v5 h5 =>
 bnd (pLoad1 v5 h5) fun v6 h6 =>
 bnd (pLoadA 6 x3 h6) fun v7 h7 =>
 bnd (rec 83 [x0] h7) fun v8 h8 =>
 cnd (sameR (pLoadA 6 x3 h8) v7 && (sameR (pLoad1 v5 h8) v6 && true)) (
 bnd (rec 82 [x0, v8] h8) fun v9 h9 =>
 cnd (sameR (pLoadA 6 x3 h9) v7 && (sameR (pLoad1 v5 h9) v6 && true)) (
 bnd (pBuildSliceAt (nthPos 0 h4.next) [(.i .i64 (Int.ofNat 0)), (.s []), (.i .i64 (Int.ofNat 0)), .l0, .l0, .l0, (.i .i64 (Int.ofNat 0)), (.s []), (.i .i64 (Int.ofNat 0)), .l0, .l0, .l0] 2 [(0, 6, v7), (6, 6, v9)] h9) fun v10 h10 =>
 bnd (rec 86 [v6, v10] h10) fun v11 h11 =>
 bnd (pStore 6 x3 v11 h11) fun v12 h12 =>
      kk3 x0 x3 x4 h12))) (
      s81a2 rec n x3 x4 h1)
def s81a3l (rec : RT) (n : Nat) (m : Nat) : TT3 :=
  Nat.rec (motive := fun _ => TT3) (fun _ _ _ _ => none) (fun _ ih => s81a3b rec n ih) m
def s81a3 (rec : RT) (n : Nat) : TT3 := s81a3l rec n n
def s81a1 (rec : RT) (n : Nat) (x0 x3 x4 : DV) (h0 : Hp) : Res :=
  s81a3 rec n x0 x3 x4 h0
/-- parse.parser).binary -/
def s81 (rec : RT) (n : Nat) (x0 x1 : DV) (h0 : Hp) : Res :=
 bnd (pBox x1 h0) fun v1 h1 =>
 bnd (pNew [(.i .i64 (Int.ofNat 0)), (.s []), (.i .i64 (Int.ofNat 0)), .l0, .l0, .l0] h1) fun v2 h2 =>
  s81a1 rec n x0 v1 v2 h2
abbrev c81 : Code := cf Try.f81
abbrev c81x1 : Code := cR c81
abbrev c81x2 : Code := cR c81x1
abbrev c81x3 : Code := cL c81x1
abbrev c81x4 : Code := cL c81x3
abbrev c81x5 : Code := cL c81x4
abbrev c81x6 : Code := cL c81
abbrev r81 : K := retK CF Try.f81
def D81 (rec : RT) (n : Nat) (c : Code) (X : Nat → K) (k : K) : K := codeD CF rec 20 n c X r81 k
theorem s81a2e : D81 rec n c81x2 x0 r81 = (K2 (s81a2 rec n) 3 4) :=
  (by kernel_rfl)
theorem s81a3q1 (kk3 : TT3) (q0 : TT2) : D81 rec n c81x5 (xs x0 0 (K2 q0 3 4)) (K3 kk3 0 3 4) = fun (env : Env) (h : Hp) =>
 bnd (rec 51 [(env 0), (.i .i64 (Int.ofNat 3)), (.s [])] h) fun v1 h1 =>
 ifD v1 (
 bnd (rec 52 [(env 0)] h1) fun v2 h2 =>
 bnd (pNew [(.i .i64 (Int.ofNat 0)), (.s []), (.i .i64 (Int.ofNat 0)), (.i .i64 (Int.ofNat 0))] h2) fun v3 h3 =>
 bnd (pStore 4 v3 v2 h3) fun _ h4 =>
 bnd (pField 1 v3 (resv 1 h4)) fun v5 h5 =>
 bnd (pLoad1 v5 h5) fun v6 h6 =>
 bnd (pLoadA 6 (env 3) h6) fun v7 h7 =>
 bnd (rec 83 [(env 0)] h7) fun v8 h8 =>
 cnd (sameR (pLoadA 6 (env 3) h8) v7 && (sameR (pLoad1 v5 h8) v6 && true)) (
 bnd (rec 82 [(env 0), v8] h8) fun v9 h9 =>
 cnd (sameR (pLoadA 6 (env 3) h9) v7 && (sameR (pLoad1 v5 h9) v6 && true)) (
 bnd (pBuildSliceAt (nthPos 0 h4.next) [(.i .i64 (Int.ofNat 0)), (.s []), (.i .i64 (Int.ofNat 0)), .l0, .l0, .l0, (.i .i64 (Int.ofNat 0)), (.s []), (.i .i64 (Int.ofNat 0)), .l0, .l0, .l0] 2 [(0, 6, v7), (6, 6, v9)] h9) fun v10 h10 =>
 bnd (rec 86 [v6, v10] h10) fun v11 h11 =>
 bnd (pStore 6 (env 3) v11 h11) fun v12 h12 =>
      kk3 (env 0) (env 3) (env 4) h12))) (
      q0 (env 3) (env 4) h1) := by kernel_rfl
theorem s81a3q1u (kk3 : TT3) : (fun (env : Env) (h : Hp) =>
 bnd (rec 51 [(env 0), (.i .i64 (Int.ofNat 3)), (.s [])] h) fun v1 h1 =>
 ifD v1 (
 bnd (rec 52 [(env 0)] h1) fun v2 h2 =>
 bnd (pNew [(.i .i64 (Int.ofNat 0)), (.s []), (.i .i64 (Int.ofNat 0)), (.i .i64 (Int.ofNat 0))] h2) fun v3 h3 =>
 bnd (pStore 4 v3 v2 h3) fun _ h4 =>
 bnd (pField 1 v3 (resv 1 h4)) fun v5 h5 =>
 bnd (pLoad1 v5 h5) fun v6 h6 =>
 bnd (pLoadA 6 (env 3) h6) fun v7 h7 =>
 bnd (rec 83 [(env 0)] h7) fun v8 h8 =>
 cnd (sameR (pLoadA 6 (env 3) h8) v7 && (sameR (pLoad1 v5 h8) v6 && true)) (
 bnd (rec 82 [(env 0), v8] h8) fun v9 h9 =>
 cnd (sameR (pLoadA 6 (env 3) h9) v7 && (sameR (pLoad1 v5 h9) v6 && true)) (
 bnd (pBuildSliceAt (nthPos 0 h4.next) [(.i .i64 (Int.ofNat 0)), (.s []), (.i .i64 (Int.ofNat 0)), .l0, .l0, .l0, (.i .i64 (Int.ofNat 0)), (.s []), (.i .i64 (Int.ofNat 0)), .l0, .l0, .l0] 2 [(0, 6, v7), (6, 6, v9)] h9) fun v10 h10 =>
 bnd (rec 86 [v6, v10] h10) fun v11 h11 =>
 bnd (pStore 6 (env 3) v11 h11) fun v12 h12 =>
      kk3 (env 0) (env 3) (env 4) h12))) (
      s81a2 rec n (env 3) (env 4) h1)) = (K3 (s81a3b rec n kk3) 0 3 4) := by kernel_rfl
theorem s81a3be (kk3 : TT3) : D81 rec n c81x5 (xs x0 0 (K2 (s81a2 rec n) 3 4)) (K3 kk3 0 3 4) = (K3 (s81a3b rec n kk3) 0 3 4) :=
  (s81a3q1 rec n kk3 (s81a2 rec n)).trans (s81a3q1u rec n kk3)
theorem s81a3le (m : Nat) : loopN (fun kk => D81 rec n c81x5 (xs x0 0 (K2 (s81a2 rec n) 3 4)) kk) m = (K3 (s81a3l rec n m) 0 3 4) := by
  induction m with
  | zero => exact (by kernel_rfl : loopN (fun kk => D81 rec n c81x5 (xs x0 0 (K2 (s81a2 rec n) 3 4)) kk) 0 = (K3 (s81a3l rec n 0) 0 3 4))
  | succ m ih =>
    refine (by kernel_rfl : loopN (fun kk => D81 rec n c81x5 (xs x0 0 (K2 (s81a2 rec n) 3 4)) kk) (m + 1) = D81 rec n c81x5 (xs x0 0 (K2 (s81a2 rec n) 3 4)) (loopN (fun kk => D81 rec n c81x5 (xs x0 0 (K2 (s81a2 rec n) 3 4)) kk) m)).trans ?_
    rw [ih]
    exact (s81a3be rec n (s81a3l rec n m)).trans (by kernel_rfl)
theorem s81a3e : D81 rec n c81x4 (xs x0 0 (K2 (s81a2 rec n) 3 4)) (K2 (s81a2 rec n) 3 4) = (K3 (s81a3 rec n) 0 3 4) :=
  (by kernel_rfl : D81 rec n c81x4 (xs x0 0 (K2 (s81a2 rec n) 3 4)) (K2 (s81a2 rec n) 3 4) = loopN (fun kk => D81 rec n c81x5 (xs x0 0 (K2 (s81a2 rec n) 3 4)) kk) n).trans ((s81a3le rec n n).trans (by kernel_rfl))
theorem s81a1p2 : D81 rec n c81x1 x0 r81 = D81 rec n c81x3 x0 (K2 (s81a2 rec n) 3 4) :=
  congrArg (fun k => D81 rec n c81x3 x0 k) (s81a2e rec n)
theorem s81a1e : D81 rec n c81x1 x0 r81 = (K3 (s81a1 rec n) 0 3 4) :=
  (s81a1p2 rec n).trans
  ((by kernel_rfl : D81 rec n c81x3 x0 (K2 (s81a2 rec n) 3 4) = D81 rec n c81x4 (xs x0 0 (K2 (s81a2 rec n) 3 4)) (K2 (s81a2 rec n) 3 4)).trans
  ((s81a3e rec n).trans (by kernel_rfl)))
theorem s81p3 : D81 rec n c81 x0 r81 = D81 rec n c81x6 x0 (K3 (s81a1 rec n) 0 3 4) :=
  congrArg (fun k => D81 rec n c81x6 x0 k) (s81a1e rec n)
theorem s81q4 (q0 : TT3) : D81 rec n c81x6 x0 (K3 q0 0 3 4) = fun (env : Env) (h : Hp) =>
 bnd (pBox (env 1) h) fun v1 h1 =>
 bnd (pNew [(.i .i64 (Int.ofNat 0)), (.s []), (.i .i64 (Int.ofNat 0)), .l0, .l0, .l0] h1) fun v2 h2 =>
    q0 (env 0) v1 v2 h2 := by kernel_rfl
theorem s81q4u : (fun (env : Env) (h : Hp) =>
 bnd (pBox (env 1) h) fun v1 h1 =>
 bnd (pNew [(.i .i64 (Int.ofNat 0)), (.s []), (.i .i64 (Int.ofNat 0)), .l0, .l0, .l0] h1) fun v2 h2 =>
    s81a1 rec n (env 0) v1 v2 h2) = (K2 (s81 rec n) 0 1) := by kernel_rfl
theorem s81m : D81 rec n c81 x0 r81 = (K2 (s81 rec n) 0 1) :=
  (s81p3 rec n).trans
  ((s81q4 rec n (s81a1 rec n)).trans (s81q4u rec n))
theorem s81ok (args : List DV) (h : Hp) : bodyD CF rec n 81 args h = s81 rec n (args.getD 0 undefD) (args.getD 1 undefD) h :=
  (by kernel_rfl : bodyD CF rec n 81 args h = D81 rec n c81 x0 r81 (argsE args) h).trans ((congrFun (congrFun (s81m rec n) (argsE args)) h).trans (by kernel_rfl))
def s82a2 (rec : RT) (n : Nat) (x3 x4 : DV) (h0 : Hp) : Res :=
 bnd (pLoadA 6 x3 h0) fun v1 h1 =>
 bnd (pStore 6 x4 v1 h1) fun _ h2 =>
 bnd (pLoadA 6 x4 h2) fun v3 _ =>
 some (v3, h2)
def s82a3b (rec : RT) (n : Nat) (kk3 : TT3) (x0 x3 x4 : DV) (h0 : Hp) : Res :=
 bnd (rec 51 [x0, (.i .i64 (Int.ofNat 1)), (.s [])] h0) fun v1 h1 =>
 ifD v1 (
 bnd (rec 52 [x0] (resv 1 h1)) fun v2 h2 =>
 bnd (pPart1 1 v2 h2) fun v3 h3 =>
 bnd (pLoadA 6 x3 h3) fun v4 h4 =>
 cnd (sameR (pLoadA 6 x3 (resv 1 h1)) v4 && true) (
 bnd (pBuildSliceAt (nthPos 0 h1.next) [(.i .i64 (Int.ofNat 0)), (.s []), (.i .i64 (Int.ofNat 0)), .l0, .l0, .l0] 1 [(0, 6, v4)] h4) fun v5 h5 =>
 bnd (rec 86 [v3, v5] h5) fun v6 h6 =>
 bnd (pStore 6 x3 v6 h6) fun v7 h7 =>
      kk3 x0 x3 x4 h7)) (
      s82a2 rec n x3 x4 h1)
def s82a3l (rec : RT) (n : Nat) (m : Nat) : TT3 :=
  Nat.rec (motive := fun _ => TT3) (fun _ _ _ _ => none) (fun _ ih => s82a3b rec n ih) m
def s82a3 (rec : RT) (n : Nat) : TT3 := s82a3l rec n n
def s82a1 (rec : RT) (n : Nat) (x0 x3 x4 : DV) (h0 : Hp) : Res :=
  s82a3 rec n x0 x3 x4 h0
/-- parse.parser).unary -/
def s82 (rec : RT) (n : Nat) (x0 x1 : DV) (h0 : Hp) : Res :=
 bnd (pBox x1 h0) fun v1 h1 =>
 bnd (pNew [(.i .i64 (Int.ofNat 0)), (.s []), (.i .i64 (Int.ofNat 0)), .l0, .l0, .l0] h1) fun v2 h2 =>
  s82a1 rec n x0 v1 v2 h2
abbrev c82 : Code := cf Try.f82
abbrev c82x1 : Code := cR c82
abbrev c82x2 : Code := cR c82x1
abbrev c82x3 : Code := cL c82x1
abbrev c82x4 : Code := cL c82x3
abbrev c82x5 : Code := cL c82x4
abbrev c82x6 : Code := cL c82
abbrev r82 : K := retK CF Try.f82
def D82 (rec : RT) (n : Nat) (c : Code) (X : Nat → K) (k : K) : K := codeD CF rec 14 n c X r82 k
theorem s82a2e : D82 rec n c82x2 x0 r82 = (K2 (s82a2 rec n) 3 4) :=
  (by kernel_rfl)
theorem s82a3q1 (kk3 : TT3) (q0 : TT2) : D82 rec n c82x5 (xs x0 0 (K2 q0 3 4)) (K3 kk3 0 3 4) = fun (env : Env) (h : Hp) =>
 bnd (rec 51 [(env 0), (.i .i64 (Int.ofNat 1)), (.s [])] h) fun v1 h1 =>
 ifD v1 (
 bnd (rec 52 [(env 0)] (resv 1 h1)) fun v2 h2 =>
 bnd (pPart1 1 v2 h2) fun v3 h3 =>
 bnd (pLoadA 6 (env 3) h3) fun v4 h4 =>
 cnd (sameR (pLoadA 6 (env 3) (resv 1 h1)) v4 && true) (
 bnd (pBuildSliceAt (nthPos 0 h1.next) [(.i .i64 (Int.ofNat 0)), (.s []), (.i .i64 (Int.ofNat 0)), .l0, .l0, .l0] 1 [(0, 6, v4)] h4) fun v5 h5 =>
 bnd (rec 86 [v3, v5] h5) fun v6 h6 =>
 bnd (pStore 6 (env 3) v6 h6) fun v7 h7 =>
      kk3 (env 0) (env 3) (env 4) h7)) (
      q0 (env 3) (env 4) h1) := by kernel_rfl
theorem s82a3q1u (kk3 : TT3) : (fun (env : Env) (h : Hp) =>
 bnd (rec 51 [(env 0), (.i .i64 (Int.ofNat 1)), (.s [])] h) fun v1 h1 =>
 ifD v1 (
 bnd (rec 52 [(env 0)] (resv 1 h1)) fun v2 h2 =>
 bnd (pPart1 1 v2 h2) fun v3 h3 =>
 bnd (pLoadA 6 (env 3) h3) fun v4 h4 =>
 cnd (sameR (pLoadA 6 (env 3) (resv 1 h1)) v4 && true) (
 bnd (pBuildSliceAt (nthPos 0 h1.next) [(.i .i64 (Int.ofNat 0)), (.s []), (.i .i64 (Int.ofNat 0)), .l0, .l0, .l0] 1 [(0, 6, v4)] h4) fun v5 h5 =>
 bnd (rec 86 [v3, v5] h5) fun v6 h6 =>
 bnd (pStore 6 (env 3) v6 h6) fun v7 h7 =>
      kk3 (env 0) (env 3) (env 4) h7)) (
      s82a2 rec n (env 3) (env 4) h1)) = (K3 (s82a3b rec n kk3) 0 3 4) := by kernel_rfl
theorem s82a3be (kk3 : TT3) : D82 rec n c82x5 (xs x0 0 (K2 (s82a2 rec n) 3 4)) (K3 kk3 0 3 4) = (K3 (s82a3b rec n kk3) 0 3 4) :=
  (s82a3q1 rec n kk3 (s82a2 rec n)).trans (s82a3q1u rec n kk3)
theorem s82a3le (m : Nat) : loopN (fun kk => D82 rec n c82x5 (xs x0 0 (K2 (s82a2 rec n) 3 4)) kk) m = (K3 (s82a3l rec n m) 0 3 4) := by
  induction m with
  | zero => exact (by kernel_rfl : loopN (fun kk => D82 rec n c82x5 (xs x0 0 (K2 (s82a2 rec n) 3 4)) kk) 0 = (K3 (s82a3l rec n 0) 0 3 4))
  | succ m ih =>
    refine (by kernel_rfl : loopN (fun kk => D82 rec n c82x5 (xs x0 0 (K2 (s82a2 rec n) 3 4)) kk) (m + 1) = D82 rec n c82x5 (xs x0 0 (K2 (s82a2 rec n) 3 4)) (loopN (fun kk => D82 rec n c82x5 (xs x0 0 (K2 (s82a2 rec n) 3 4)) kk) m)).trans ?_
    rw [ih]
    exact (s82a3be rec n (s82a3l rec n m)).trans (by kernel_rfl)
theorem s82a3e : D82 rec n c82x4 (xs x0 0 (K2 (s82a2 rec n) 3 4)) (K2 (s82a2 rec n) 3 4) = (K3 (s82a3 rec n) 0 3 4) :=
  (by kernel_rfl : D82 rec n c82x4 (xs x0 0 (K2 (s82a2 rec n) 3 4)) (K2 (s82a2 rec n) 3 4) = loopN (fun kk => D82 rec n c82x5 (xs x0 0 (K2 (s82a2 rec n) 3 4)) kk) n).trans ((s82a3le rec n n).trans (by kernel_rfl))
theorem s82a1p2 : D82 rec n c82x1 x0 r82 = D82 rec n c82x3 x0 (K2 (s82a2 rec n) 3 4) :=
  congrArg (fun k => D82 rec n c82x3 x0 k) (s82a2e rec n)
theorem s82a1e : D82 rec n c82x1 x0 r82 = (K3 (s82a1 rec n) 0 3 4) :=
  (s82a1p2 rec n).trans
  ((by kernel_rfl : D82 rec n c82x3 x0 (K2 (s82a2 rec n) 3 4) = D82 rec n c82x4 (xs x0 0 (K2 (s82a2 rec n) 3 4)) (K2 (s82a2 rec n) 3 4)).trans
  ((s82a3e rec n).trans (by kernel_rfl)))
theorem s82p3 : D82 rec n c82 x0 r82 = D82 rec n c82x6 x0 (K3 (s82a1 rec n) 0 3 4) :=
  congrArg (fun k => D82 rec n c82x6 x0 k) (s82a1e rec n)
theorem s82q4 (q0 : TT3) : D82 rec n c82x6 x0 (K3 q0 0 3 4) = fun (env : Env) (h : Hp) =>
 bnd (pBox (env 1) h) fun v1 h1 =>
 bnd (pNew [(.i .i64 (Int.ofNat 0)), (.s []), (.i .i64 (Int.ofNat 0)), .l0, .l0, .l0] h1) fun v2 h2 =>
    q0 (env 0) v1 v2 h2 := by kernel_rfl
theorem s82q4u : (fun (env : Env) (h : Hp) =>
 bnd (pBox (env 1) h) fun v1 h1 =>
 bnd (pNew [(.i .i64 (Int.ofNat 0)), (.s []), (.i .i64 (Int.ofNat 0)), .l0, .l0, .l0] h1) fun v2 h2 =>
    s82a1 rec n (env 0) v1 v2 h2) = (K2 (s82 rec n) 0 1) := by kernel_rfl
theorem s82m : D82 rec n c82 x0 r82 = (K2 (s82 rec n) 0 1) :=
  (s82p3 rec n).trans
  ((s82q4 rec n (s82a1 rec n)).trans (s82q4u rec n))
theorem s82ok (args : List DV) (h : Hp) : bodyD CF rec n 82 args h = s82 rec n (args.getD 0 undefD) (args.getD 1 undefD) h :=
  (by kernel_rfl : bodyD CF rec n 82 args h = D82 rec n c82 x0 r82 (argsE args) h).trans ((congrFun (congrFun (s82m rec n) (argsE args)) h).trans (by kernel_rfl))
def s83a3 (rec : RT) (n : Nat) (x2 : DV) (h0 : Hp) : Res :=
 bnd (pBuild [(.i .i64 (Int.ofNat 0)), (.s []), (.i .i64 (Int.ofNat 0)), .l0, .l0, .l0] [] h0) fun v1 h1 =>
 bnd (pStore 6 x2 v1 h1) fun _ h2 =>
 bnd (pLoadA 6 x2 h2) fun v3 _ =>
 some (v3, h2)
def s83a2 (rec : RT) (n : Nat) (x0 x2 : DV) (h0 : Hp) : Res :=
 bnd (rec 55 [x0, (.i .i64 (Int.ofNat 0))] h0) fun v1 h1 =>
 bnd (pNew [(.i .i64 (Int.ofNat 0)), (.s []), (.i .i64 (Int.ofNat 0)), (.i .i64 (Int.ofNat 0))] h1) fun v2 h2 =>
 bnd (pStore 4 v2 v1 h2) fun _ h3 =>
 bnd (pNil x0 h3) fun v4 h4 =>
 bnd (pField 3 v4 h4) fun v5 h5 =>
 bnd (pLoad1 v5 h5) fun v6 h6 =>
 bnd (pInt .neq v6 (.i .i64 (Int.ofNat 0)) h6) fun v7 h7 =>
 ifD v7 (
    s83a3 rec n x2 h7) (
 bnd (pField 0 v2 h7) fun v8 h8 =>
 bnd (pLoad1 v8 h8) fun v9 h9 =>
 bnd (pInt .eql v9 (.i .i64 (Int.ofNat 1)) h9) fun v10 h10 =>
 ifD v10 (
 bnd (rec 52 [x0] h10) fun v11 h11 =>
 bnd (pPart1 1 v11 h11) fun v12 h12 =>
 bnd (pBuild [(.i .i64 (Int.ofNat 0)), (.s []), (.i .i64 (Int.ofNat 0)), .l0, .l0, .l0] [(0, 1, (.i .i64 (Int.ofNat 5))), (1, 1, v12)] h12) fun v13 h13 =>
 bnd (pStore 6 x2 v13 h13) fun _ h14 =>
 bnd (pLoadA 6 x2 h14) fun v15 _ =>
 some (v15, h14)) (
 bnd (pField 0 v2 h10) fun v16 h16 =>
 bnd (pLoad1 v16 h16) fun v17 h17 =>
 bnd (pInt .eql v17 (.i .i64 (Int.ofNat 7)) h17) fun v18 h18 =>
 ifD v18 (
 bnd (rec 88 [x0, (.f 89 [x0] [])] h18) fun v19 h19 =>
 bnd (pStore 6 x2 v19 h19) fun _ h20 =>
 bnd (pLoadA 6 x2 h20) fun v21 _ =>
 some (v21, h20)) (
 bnd (rec 51 [x0, (.i .i64 (Int.ofNat 10)), (.s [40])] h18) fun v22 h22 =>
 ifD v22 (
 bnd (rec 88 [x0, (.f 90 [x0] [])] h22) fun v23 h23 =>
 bnd (pStore 6 x2 v23 h23) fun _ h24 =>
 bnd (pLoadA 6 x2 h24) fun v25 _ =>
 some (v25, h24)) (
 bnd (rec 51 [x0, (.i .i64 (Int.ofNat 10)), (.s [91])] h22) fun v26 h26 =>
 ifD v26 (
 bnd (rec 88 [x0, (.f 91 [x0] [])] h26) fun v27 h27 =>
 bnd (pStore 6 x2 v27 h27) fun _ h28 =>
 bnd (pLoadA 6 x2 h28) fun v29 _ =>
 some (v29, h28)) (
 bnd (pLoadA 4 v2 h26) fun v30 h30 =>
 bnd (rec 54 [x0, v30, (.i .i64 (Int.ofNat 13))] h30) fun v31 h31 =>
            s83a3 rec n x2 h31)))))
def s83a1 (rec : RT) (n : Nat) (x0 x2 : DV) (h0 : Hp) : Res :=
 bnd (rec 87 [x0] h0) fun v1 h1 =>
 bnd (pExtract 0 v1 h1) fun v2 h2 =>
 bnd (pExtract 1 v1 h2) fun v3 h3 =>
 bnd (pNew [(.i .i64 (Int.ofNat 0)), (.s []), (.i .i64 (Int.ofNat 0)), .l0, .l0, .l0] h3) fun v4 h4 =>
 bnd (pStore 6 v4 v2 h4) fun _ h5 =>
 ifD v3 (
 bnd (pLoadA 6 v4 h5) fun v6 h6 =>
 bnd (pStore 6 x2 v6 h6) fun _ h7 =>
 bnd (pLoadA 6 x2 h7) fun v8 _ =>
 some (v8, h7)) (
    s83a2 rec n x0 x2 h5)
/-- parse.parser).primary -/
def s83 (rec : RT) (n : Nat) (x0 : DV) (h0 : Hp) : Res :=
 bnd (pNew [(.i .i64 (Int.ofNat 0)), (.s []), (.i .i64 (Int.ofNat 0)), .l0, .l0, .l0] h0) fun v1 h1 =>
  s83a1 rec n x0 v1 h1
abbrev c83 : Code := cf Try.f83
abbrev c83x1 : Code := cR c83
abbrev c83x2 : Code := cR c83x1
abbrev c83x3 : Code := cR c83x2
abbrev c83x4 : Code := cL c83x2
abbrev c83x5 : Code := cL c83x1
abbrev c83x6 : Code := cL c83
abbrev r83 : K := retK CF Try.f83
def D83 (rec : RT) (n : Nat) (c : Code) (X : Nat → K) (k : K) : K := codeD CF rec 55 n c X r83 k
theorem s83a3e : D83 rec n c83x3 x0 r83 = (K1 (s83a3 rec n) 2) :=
  (by kernel_rfl)
theorem s83a2p1 : D83 rec n c83x2 x0 r83 = D83 rec n c83x4 x0 (K1 (s83a3 rec n) 2) :=
  congrArg (fun k => D83 rec n c83x4 x0 k) (s83a3e rec n)
theorem s83a2q2 (q0 : TT1) : D83 rec n c83x4 x0 (K1 q0 2) = fun (env : Env) (h : Hp) =>
 bnd (rec 55 [(env 0), (.i .i64 (Int.ofNat 0))] h) fun v1 h1 =>
 bnd (pNew [(.i .i64 (Int.ofNat 0)), (.s []), (.i .i64 (Int.ofNat 0)), (.i .i64 (Int.ofNat 0))] h1) fun v2 h2 =>
 bnd (pStore 4 v2 v1 h2) fun _ h3 =>
 bnd (pNil (env 0) h3) fun v4 h4 =>
 bnd (pField 3 v4 h4) fun v5 h5 =>
 bnd (pLoad1 v5 h5) fun v6 h6 =>
 bnd (pInt .neq v6 (.i .i64 (Int.ofNat 0)) h6) fun v7 h7 =>
 ifD v7 (
      q0 (env 2) h7) (
 bnd (pField 0 v2 h7) fun v8 h8 =>
 bnd (pLoad1 v8 h8) fun v9 h9 =>
 bnd (pInt .eql v9 (.i .i64 (Int.ofNat 1)) h9) fun v10 h10 =>
 ifD v10 (
 bnd (rec 52 [(env 0)] h10) fun v11 h11 =>
 bnd (pPart1 1 v11 h11) fun v12 h12 =>
 bnd (pBuild [(.i .i64 (Int.ofNat 0)), (.s []), (.i .i64 (Int.ofNat 0)), .l0, .l0, .l0] [(0, 1, (.i .i64 (Int.ofNat 5))), (1, 1, v12)] h12) fun v13 h13 =>
 bnd (pStore 6 (env 2) v13 h13) fun _ h14 =>
 bnd (pLoadA 6 (env 2) h14) fun v15 _ =>
 some (v15, h14)) (
 bnd (pField 0 v2 h10) fun v16 h16 =>
 bnd (pLoad1 v16 h16) fun v17 h17 =>
 bnd (pInt .eql v17 (.i .i64 (Int.ofNat 7)) h17) fun v18 h18 =>
 ifD v18 (
 bnd (rec 88 [(env 0), (.f 89 [(env 0)] [])] h18) fun v19 h19 =>
 bnd (pStore 6 (env 2) v19 h19) fun _ h20 =>
 bnd (pLoadA 6 (env 2) h20) fun v21 _ =>
 some (v21, h20)) (
 bnd (rec 51 [(env 0), (.i .i64 (Int.ofNat 10)), (.s [40])] h18) fun v22 h22 =>
 ifD v22 (
 bnd (rec 88 [(env 0), (.f 90 [(env 0)] [])] h22) fun v23 h23 =>
 bnd (pStore 6 (env 2) v23 h23) fun _ h24 =>
 bnd (pLoadA 6 (env 2) h24) fun v25 _ =>
 some (v25, h24)) (
 bnd (rec 51 [(env 0), (.i .i64 (Int.ofNat 10)), (.s [91])] h22) fun v26 h26 =>
 ifD v26 (
 bnd (rec 88 [(env 0), (.f 91 [(env 0)] [])] h26) fun v27 h27 =>
 bnd (pStore 6 (env 2) v27 h27) fun _ h28 =>
 bnd (pLoadA 6 (env 2) h28) fun v29 _ =>
 some (v29, h28)) (
 bnd (pLoadA 4 v2 h26) fun v30 h30 =>
 bnd (rec 54 [(env 0), v30, (.i .i64 (Int.ofNat 13))] h30) fun v31 h31 =>
              q0 (env 2) h31))))) := by kernel_rfl
theorem s83a2q2u : (fun (env : Env) (h : Hp) =>
 bnd (rec 55 [(env 0), (.i .i64 (Int.ofNat 0))] h) fun v1 h1 =>
 bnd (pNew [(.i .i64 (Int.ofNat 0)), (.s []), (.i .i64 (Int.ofNat 0)), (.i .i64 (Int.ofNat 0))] h1) fun v2 h2 =>
 bnd (pStore 4 v2 v1 h2) fun _ h3 =>
 bnd (pNil (env 0) h3) fun v4 h4 =>
 bnd (pField 3 v4 h4) fun v5 h5 =>
 bnd (pLoad1 v5 h5) fun v6 h6 =>
 bnd (pInt .neq v6 (.i .i64 (Int.ofNat 0)) h6) fun v7 h7 =>
 ifD v7 (
      s83a3 rec n (env 2) h7) (
 bnd (pField 0 v2 h7) fun v8 h8 =>
 bnd (pLoad1 v8 h8) fun v9 h9 =>
 bnd (pInt .eql v9 (.i .i64 (Int.ofNat 1)) h9) fun v10 h10 =>
 ifD v10 (
 bnd (rec 52 [(env 0)] h10) fun v11 h11 =>
 bnd (pPart1 1 v11 h11) fun v12 h12 =>
 bnd (pBuild [(.i .i64 (Int.ofNat 0)), (.s []), (.i .i64 (Int.ofNat 0)), .l0, .l0, .l0] [(0, 1, (.i .i64 (Int.ofNat 5))), (1, 1, v12)] h12) fun v13 h13 =>
 bnd (pStore 6 (env 2) v13 h13) fun _ h14 =>
 bnd (pLoadA 6 (env 2) h14) fun v15 _ =>
 some (v15, h14)) (
 bnd (pField 0 v2 h10) fun v16 h16 =>
 bnd (pLoad1 v16 h16) fun v17 h17 =>
 bnd (pInt .eql v17 (.i .i64 (Int.ofNat 7)) h17) fun v18 h18 =>
 ifD v18 (
 bnd (rec 88 [(env 0), (.f 89 [(env 0)] [])] h18) fun v19 h19 =>
 bnd (pStore 6 (env 2) v19 h19) fun _ h20 =>
 bnd (pLoadA 6 (env 2) h20) fun v21 _ =>
 some (v21, h20)) (
 bnd (rec 51 [(env 0), (.i .i64 (Int.ofNat 10)), (.s [40])] h18) fun v22 h22 =>
 ifD v22 (
 bnd (rec 88 [(env 0), (.f 90 [(env 0)] [])] h22) fun v23 h23 =>
 bnd (pStore 6 (env 2) v23 h23) fun _ h24 =>
 bnd (pLoadA 6 (env 2) h24) fun v25 _ =>
 some (v25, h24)) (
 bnd (rec 51 [(env 0), (.i .i64 (Int.ofNat 10)), (.s [91])] h22) fun v26 h26 =>
 ifD v26 (
 bnd (rec 88 [(env 0), (.f 91 [(env 0)] [])] h26) fun v27 h27 =>
 bnd (pStore 6 (env 2) v27 h27) fun _ h28 =>
 bnd (pLoadA 6 (env 2) h28) fun v29 _ =>
 some (v29, h28)) (
 bnd (pLoadA 4 v2 h26) fun v30 h30 =>
 bnd (rec 54 [(env 0), v30, (.i .i64 (Int.ofNat 13))] h30) fun v31 h31 =>
              s83a3 rec n (env 2) h31)))))) = (K2 (s83a2 rec n) 0 2) := by kernel_rfl
theorem s83a2e : D83 rec n c83x2 x0 r83 = (K2 (s83a2 rec n) 0 2) :=
  (s83a2p1 rec n).trans
  ((s83a2q2 rec n (s83a3 rec n)).trans (s83a2q2u rec n))
theorem s83a1p3 : D83 rec n c83x1 x0 r83 = D83 rec n c83x5 x0 (K2 (s83a2 rec n) 0 2) :=
  congrArg (fun k => D83 rec n c83x5 x0 k) (s83a2e rec n)
theorem s83a1q4 (q0 : TT2) : D83 rec n c83x5 x0 (K2 q0 0 2) = fun (env : Env) (h : Hp) =>
 bnd (rec 87 [(env 0)] h) fun v1 h1 =>
 bnd (pExtract 0 v1 h1) fun v2 h2 =>
 bnd (pExtract 1 v1 h2) fun v3 h3 =>
 bnd (pNew [(.i .i64 (Int.ofNat 0)), (.s []), (.i .i64 (Int.ofNat 0)), .l0, .l0, .l0] h3) fun v4 h4 =>
 bnd (pStore 6 v4 v2 h4) fun _ h5 =>
 ifD v3 (
 bnd (pLoadA 6 v4 h5) fun v6 h6 =>
 bnd (pStore 6 (env 2) v6 h6) fun _ h7 =>
 bnd (pLoadA 6 (env 2) h7) fun v8 _ =>
 some (v8, h7)) (
      q0 (env 0) (env 2) h5) := by kernel_rfl
theorem s83a1q4u : (fun (env : Env) (h : Hp) =>
 bnd (rec 87 [(env 0)] h) fun v1 h1 =>
 bnd (pExtract 0 v1 h1) fun v2 h2 =>
 bnd (pExtract 1 v1 h2) fun v3 h3 =>
 bnd (pNew [(.i .i64 (Int.ofNat 0)), (.s []), (.i .i64 (Int.ofNat 0)), .l0, .l0, .l0] h3) fun v4 h4 =>
 bnd (pStore 6 v4 v2 h4) fun _ h5 =>
 ifD v3 (
 bnd (pLoadA 6 v4 h5) fun v6 h6 =>
 bnd (pStore 6 (env 2) v6 h6) fun _ h7 =>
 bnd (pLoadA 6 (env 2) h7) fun v8 _ =>
 some (v8, h7)) (
      s83a2 rec n (env 0) (env 2) h5)) = (K2 (s83a1 rec n) 0 2) := by kernel_rfl
theorem s83a1e : D83 rec n c83x1 x0 r83 = (K2 (s83a1 rec n) 0 2) :=
  (s83a1p3 rec n).trans
  ((s83a1q4 rec n (s83a2 rec n)).trans (s83a1q4u rec n))
theorem s83p5 : D83 rec n c83 x0 r83 = D83 rec n c83x6 x0 (K2 (s83a1 rec n) 0 2) :=
  congrArg (fun k => D83 rec n c83x6 x0 k) (s83a1e rec n)
theorem s83q6 (q0 : TT2) : D83 rec n c83x6 x0 (K2 q0 0 2) = fun (env : Env) (h : Hp) =>
 bnd (pNew [(.i .i64 (Int.ofNat 0)), (.s []), (.i .i64 (Int.ofNat 0)), .l0, .l0, .l0] h) fun v1 h1 =>
    q0 (env 0) v1 h1 := by kernel_rfl
theorem s83q6u : (fun (env : Env) (h : Hp) =>
 bnd (pNew [(.i .i64 (Int.ofNat 0)), (.s []), (.i .i64 (Int.ofNat 0)), .l0, .l0, .l0] h) fun v1 h1 =>
    s83a1 rec n (env 0) v1 h1) = (K1 (s83 rec n) 0) := by kernel_rfl
theorem s83m : D83 rec n c83 x0 r83 = (K1 (s83 rec n) 0) :=
  (s83p5 rec n).trans
  ((s83q6 rec n (s83a1 rec n)).trans (s83q6u rec n))
theorem s83ok (args : List DV) (h : Hp) : bodyD CF rec n 83 args h = s83 rec n (args.getD 0 undefD) h :=
  (by kernel_rfl : bodyD CF rec n 83 args h = D83 rec n c83 x0 r83 (argsE args) h).trans ((congrFun (congrFun (s83m rec n) (argsE args)) h).trans (by kernel_rfl))
/-- parse.message -/
def s84 (rec : RT) (n : Nat) (x0 : DV) (h0 : Hp) : Res :=
 bnd (pBox x0 h0) fun v1 h1 =>
 bnd (pNew [(.i .i64 (Int.ofNat 0)), (.s []), (.i .i64 (Int.ofNat 0)), .l0, .l0, .l0] h1) fun v2 h2 =>
 bnd (pField 5 v1 h2) fun v3 h3 =>
 bnd (pLoad1 v3 h3) fun v4 h4 =>
 bnd (pLen v4 h4) fun v5 h5 =>
 bnd (pInt .eql v5 (.i .i64 (Int.ofNat 0)) h5) fun v6 h6 =>
 ifD v6 (
 bnd (pLoadA 6 v1 h6) fun v7 h7 =>
 bnd (pStore 6 v2 v7 h7) fun _ h8 =>
 bnd (pLoadA 6 v2 h8) fun v9 _ =>
 some (v9, h8)) (
 bnd (pField 1 v1 h6) fun v10 h10 =>
 bnd (pLoad1 v10 h10) fun v11 h11 =>
 bnd (pField 5 v1 h11) fun v12 h12 =>
 bnd (pLoad1 v12 h12) fun v13 h13 =>
 bnd (pSlice 6 v13 (some (.i .i64 (Int.ofNat 1))) none h13) fun v14 h14 =>
 cnd (sameR (pLoad1 v10 h14) v11 && true) (
 bnd (rec 92 [v14] h14) fun v15 h15 =>
 cnd (sameR (pLoad1 v10 h15) v11 && true) (
 bnd (pBuild [(.i .i64 (Int.ofNat 0)), (.s []), (.i .i64 (Int.ofNat 0)), .l0, .l0, .l0] [(0, 1, (.i .i64 (Int.ofNat 7))), (1, 1, v11), (5, 1, v15)] h15) fun v16 h16 =>
 bnd (pStore 6 v2 v16 h16) fun v17 h17 =>
 bnd (pLoadA 6 v2 h17) fun v18 _ =>
 some (v18, h17))))
abbrev c84 : Code := cf Try.f84
abbrev r84 : K := retK CF Try.f84
def D84 (rec : RT) (n : Nat) (c : Code) (X : Nat → K) (k : K) : K := codeD CF rec 15 n c X r84 k
theorem s84m : D84 rec n c84 x0 r84 = (K1 (s84 rec n) 0) :=
  (by kernel_rfl)
theorem s84ok (args : List DV) (h : Hp) : bodyD CF rec n 84 args h = s84 rec n (args.getD 0 undefD) h :=
  (by kernel_rfl : bodyD CF rec n 84 args h = D84 rec n c84 x0 r84 (argsE args) h).trans ((congrFun (congrFun (s84m rec n) (argsE args)) h).trans (by kernel_rfl))
/-- parse.parser).message -/
def s85 (rec : RT) (n : Nat) (x0 : DV) (h0 : Hp) : Res :=
 bnd (pNew [(.i .i64 (Int.ofNat 0)), (.s []), (.i .i64 (Int.ofNat 0)), .l0, .l0, .l0] h0) fun v1 h1 =>
 bnd (pNew [(.i .i64 (Int.ofNat 0)), (.s []), (.i .i64 (Int.ofNat 0)), .l0, .l0, .l0] h1) fun v2 h2 =>
 bnd (rec 55 [x0, (.i .i64 (Int.ofNat 0))] h2) fun v3 h3 =>
 bnd (pNew [(.i .i64 (Int.ofNat 0)), (.s []), (.i .i64 (Int.ofNat 0)), (.i .i64 (Int.ofNat 0))] h3) fun v4 h4 =>
 bnd (pStore 4 v4 v3 h4) fun _ h5 =>
 bnd (pField 0 v4 h5) fun v6 h6 =>
 bnd (pLoad1 v6 h6) fun v7 h7 =>
 bnd (pInt .eql v7 (.i .i64 (Int.ofNat 1)) h7) fun v8 h8 =>
 ifD v8 (
 bnd (rec 52 [x0] h8) fun v9 h9 =>
 bnd (pField 1 v4 h9) fun v10 h10 =>
 bnd (pLoad1 v10 h10) fun v11 h11 =>
 bnd (pLoadA 6 v2 h11) fun v12 h12 =>
 bnd (pBuildSlice [(.i .i64 (Int.ofNat 0)), (.s []), (.i .i64 (Int.ofNat 0)), .l0, .l0, .l0] 1 [(0, 6, v12)] h12) fun v13 h13 =>
 bnd (rec 86 [v11, v13] h13) fun v14 h14 =>
 bnd (pStore 6 v1 v14 h14) fun _ h15 =>
 bnd (pLoadA 6 v1 h15) fun v16 _ =>
 some (v16, h15)) (
 bnd (pInt .eql v7 (.i .i64 (Int.ofNat 3)) h8) fun v17 h17 =>
 ifD v17 (
 bnd (rec 52 [x0] h17) fun v18 h18 =>
 bnd (pField 1 v4 (resv 1 h18)) fun v19 h19 =>
 bnd (pLoad1 v19 h19) fun v20 h20 =>
 bnd (pLoadA 6 v2 h20) fun v21 h21 =>
 bnd (rec 83 [x0] h21) fun v22 h22 =>
 cnd (sameR (pLoadA 6 v2 h22) v21 && (sameR (pLoad1 v19 h22) v20 && true)) (
 bnd (rec 82 [x0, v22] h22) fun v23 h23 =>
 cnd (sameR (pLoadA 6 v2 h23) v21 && (sameR (pLoad1 v19 h23) v20 && true)) (
 bnd (pBuildSliceAt (nthPos 0 h18.next) [(.i .i64 (Int.ofNat 0)), (.s []), (.i .i64 (Int.ofNat 0)), .l0, .l0, .l0, (.i .i64 (Int.ofNat 0)), (.s []), (.i .i64 (Int.ofNat 0)), .l0, .l0, .l0] 2 [(0, 6, v21), (6, 6, v23)] h23) fun v24 h24 =>
 bnd (rec 86 [v20, v24] h24) fun v25 h25 =>
 bnd (pStore 6 v1 v25 h25) fun v26 h26 =>
 bnd (pLoadA 6 v1 h26) fun v27 _ =>
 some (v27, h26)))) (
 bnd (pInt .eql v7 (.i .i64 (Int.ofNat 2)) h17) fun v28 h28 =>
 ifD v28 (
 bnd (pLoadA 6 v2 h28) fun v29 h29 =>
 bnd (rec 80 [x0, v29] h29) fun v30 h30 =>
 bnd (pStore 6 v1 v30 h30) fun _ h31 =>
 bnd (pLoadA 6 v1 h31) fun v32 _ =>
 some (v32, h31)) (
 bnd (pLoadA 4 v4 h28) fun v33 h33 =>
 bnd (rec 54 [x0, v33, (.i .i64 (Int.ofNat 13))] h33) fun v34 h34 =>
 bnd (pLoadA 6 v2 h34) fun v35 h35 =>
 bnd (pStore 6 v1 v35 h35) fun _ h36 =>
 bnd (pLoadA 6 v1 h36) fun v37 _ =>
 some (v37, h36))))
abbrev c85 : Code := cf Try.f85
abbrev r85 : K := retK CF Try.f85
def D85 (rec : RT) (n : Nat) (c : Code) (X : Nat → K) (k : K) : K := codeD CF rec 40 n c X r85 k
theorem s85m : D85 rec n c85 x0 r85 = (K1 (s85 rec n) 0) :=
  (by kernel_rfl)
theorem s85ok (args : List DV) (h : Hp) : bodyD CF rec n 85 args h = s85 rec n (args.getD 0 undefD) h :=
  (by kernel_rfl : bodyD CF rec n 85 args h = D85 rec n c85 x0 r85 (argsE args) h).trans ((congrFun (congrFun (s85m rec n) (argsE args)) h).trans (by kernel_rfl))
/-- parse.send -/
def s86 (rec : RT) (n : Nat) (x0 x1 : DV) (h0 : Hp) : Res :=
 bnd (pNew [(.i .i64 (Int.ofNat 0)), (.s []), (.i .i64 (Int.ofNat 0)), .l0, .l0, .l0] h0) fun v1 h1 =>
 bnd (pBuild [(.i .i64 (Int.ofNat 0)), (.s []), (.i .i64 (Int.ofNat 0)), .l0, .l0, .l0] [(0, 1, (.i .i64 (Int.ofNat 7))), (1, 1, x0), (5, 1, x1)] h1) fun v2 h2 =>
 bnd (pStore 6 v1 v2 h2) fun _ h3 =>
 bnd (pLoadA 6 v1 h3) fun v4 _ =>
 some (v4, h3)
abbrev c86 : Code := cf Try.f86
abbrev r86 : K := retK CF Try.f86
def D86 (rec : RT) (n : Nat) (c : Code) (X : Nat → K) (k : K) : K := codeD CF rec 8 n c X r86 k
theorem s86m : D86 rec n c86 x0 r86 = (K2 (s86 rec n) 0 1) :=
  (by kernel_rfl)
theorem s86ok (args : List DV) (h : Hp) : bodyD CF rec n 86 args h = s86 rec n (args.getD 0 undefD) (args.getD 1 undefD) h :=
  (by kernel_rfl : bodyD CF rec n 86 args h = D86 rec n c86 x0 r86 (argsE args) h).trans ((congrFun (congrFun (s86m rec n) (argsE args)) h).trans (by kernel_rfl))
def s87a4 (rec : RT) (n : Nat) (x0 x2 x5 : DV) (h0 : Hp) : Res :=
 bnd (rec 52 [x0] h0) fun v1 h1 =>
 bnd (pLoadA 6 x5 h1) fun v2 h2 =>
 bnd (pStore 6 x2 v2 h2) fun _ h3 =>
 bnd (pLoadA 6 x2 h3) fun v4 _ =>
 some (.t [v4, (.b true)], h3)
def s87a3 (rec : RT) (n : Nat) (x0 x2 x4 x5 : DV) (h0 : Hp) : Res :=
 bnd (pNil x0 h0) fun v1 h1 =>
 bnd (pField 3 v1 h1) fun v2 h2 =>
 bnd (pLoad1 v2 h2) fun v3 h3 =>
 bnd (pInt .neq v3 (.i .i64 (Int.ofNat 0)) h3) fun v4 h4 =>
 ifD v4 (
 bnd (pLoadA 6 x5 h4) fun v5 h5 =>
 bnd (pStore 6 x2 v5 h5) fun _ h6 =>
 bnd (pLoadA 6 x2 h6) fun v7 _ =>
 some (.t [v7, (.b false)], h6)) (
 bnd (rec 93 [x0] h4) fun v8 h8 =>
 ifD v8 (
 bnd (rec 52 [x0] h8) fun v9 h9 =>
 bnd (rec 52 [x0] h9) fun v10 h10 =>
 bnd (pPart1 2 v10 h10) fun v11 h11 =>
 bnd (pUn .neg v11 h11) fun v12 h12 =>
 bnd (pBuild [(.i .i64 (Int.ofNat 0)), (.s []), (.i .i64 (Int.ofNat 0)), .l0, .l0, .l0] [(0, 1, (.i .i64 (Int.ofNat 1))), (2, 1, v12)] h12) fun v13 h13 =>
 bnd (pStore 6 x2 v13 h13) fun _ h14 =>
 bnd (pLoadA 6 x2 h14) fun v15 _ =>
 some (.t [v15, (.b true)], h14)) (
 bnd (pField 0 x4 h8) fun v16 h16 =>
 bnd (pLoad1 v16 h16) fun v17 h17 =>
 bnd (pInt .eql v17 (.i .i64 (Int.ofNat 4)) h17) fun v18 h18 =>
 ifD v18 (
 bnd (pField 0 x5 h18) fun v19 h19 =>
 bnd (pStore 1 v19 (.i .i64 (Int.ofNat 1)) h19) fun _ h20 =>
        s87a4 rec n x0 x2 x5 h20) (
 bnd (pField 0 x4 h18) fun v21 h21 =>
 bnd (pLoad1 v21 h21) fun v22 h22 =>
 bnd (pInt .eql v22 (.i .i64 (Int.ofNat 5)) h22) fun v23 h23 =>
 ifD v23 (
 bnd (pField 0 x5 h23) fun v24 h24 =>
 bnd (pStore 1 v24 (.i .i64 (Int.ofNat 2)) h24) fun _ h25 =>
          s87a4 rec n x0 x2 x5 h25) (
 bnd (pField 0 x4 h23) fun v26 h26 =>
 bnd (pLoad1 v26 h26) fun v27 h27 =>
 bnd (pInt .eql v27 (.i .i64 (Int.ofNat 6)) h27) fun v28 h28 =>
 ifD v28 (
 bnd (pField 0 x5 h28) fun v29 h29 =>
 bnd (pStore 1 v29 (.i .i64 (Int.ofNat 3)) h29) fun _ h30 =>
            s87a4 rec n x0 x2 x5 h30) (
 bnd (pLoadA 6 x5 h28) fun v31 h31 =>
 bnd (pStore 6 x2 v31 h31) fun _ h32 =>
 bnd (pLoadA 6 x2 h32) fun v33 _ =>
 some (.t [v33, (.b false)], h32))))))
def s87a2 (rec : RT) (n : Nat) (x0 x2 x4 : DV) (h0 : Hp) : Res :=
 bnd (pField 1 x4 h0) fun v1 h1 =>
 bnd (pLoad1 v1 h1) fun v2 h2 =>
 bnd (pField 2 x4 h2) fun v3 h3 =>
 bnd (pLoad1 v3 h3) fun v4 h4 =>
 bnd (pBuild [(.i .i64 (Int.ofNat 0)), (.s []), (.i .i64 (Int.ofNat 0)), .l0, .l0, .l0] [(1, 1, v2), (2, 1, v4)] h4) fun v5 h5 =>
 bnd (pNew [(.i .i64 (Int.ofNat 0)), (.s []), (.i .i64 (Int.ofNat 0)), .l0, .l0, .l0] h5) fun v6 h6 =>
 bnd (pStore 6 v6 v5 h6) fun _ h7 =>
  s87a3 rec n x0 x2 x4 v6 h7
def s87a1 (rec : RT) (n : Nat) (x0 x2 : DV) (h0 : Hp) : Res :=
 bnd (rec 55 [x0, (.i .i64 (Int.ofNat 0))] h0) fun v1 h1 =>
 bnd (pNew [(.i .i64 (Int.ofNat 0)), (.s []), (.i .i64 (Int.ofNat 0)), (.i .i64 (Int.ofNat 0))] h1) fun v2 h2 =>
 bnd (pStore 4 v2 v1 h2) fun _ h3 =>
  s87a2 rec n x0 x2 v2 h3
/-- parse.parser).plain -/
def s87 (rec : RT) (n : Nat) (x0 : DV) (h0 : Hp) : Res :=
 bnd (pNew [(.i .i64 (Int.ofNat 0)), (.s []), (.i .i64 (Int.ofNat 0)), .l0, .l0, .l0] h0) fun v1 h1 =>
  s87a1 rec n x0 v1 h1
abbrev c87 : Code := cf Try.f87
abbrev c87x1 : Code := cR c87
abbrev c87x2 : Code := cR c87x1
abbrev c87x3 : Code := cR c87x2
abbrev c87x4 : Code := cR c87x3
abbrev c87x5 : Code := cL c87x3
abbrev c87x6 : Code := cL c87x2
abbrev c87x7 : Code := cL c87x1
abbrev c87x8 : Code := cL c87
abbrev r87 : K := retK CF Try.f87
def D87 (rec : RT) (n : Nat) (c : Code) (X : Nat → K) (k : K) : K := codeD CF rec 49 n c X r87 k
theorem s87a4e : D87 rec n c87x4 x0 r87 = (K3 (s87a4 rec n) 0 2 5) :=
  (by kernel_rfl)
theorem s87a3p1 : D87 rec n c87x3 x0 r87 = D87 rec n c87x5 x0 (K3 (s87a4 rec n) 0 2 5) :=
  congrArg (fun k => D87 rec n c87x5 x0 k) (s87a4e rec n)
theorem s87a3q2 (q0 : TT3) : D87 rec n c87x5 x0 (K3 q0 0 2 5) = fun (env : Env) (h : Hp) =>
 bnd (pNil (env 0) h) fun v1 h1 =>
 bnd (pField 3 v1 h1) fun v2 h2 =>
 bnd (pLoad1 v2 h2) fun v3 h3 =>
 bnd (pInt .neq v3 (.i .i64 (Int.ofNat 0)) h3) fun v4 h4 =>
 ifD v4 (
 bnd (pLoadA 6 (env 5) h4) fun v5 h5 =>
 bnd (pStore 6 (env 2) v5 h5) fun _ h6 =>
 bnd (pLoadA 6 (env 2) h6) fun v7 _ =>
 some (.t [v7, (.b false)], h6)) (
 bnd (rec 93 [(env 0)] h4) fun v8 h8 =>
 ifD v8 (
 bnd (rec 52 [(env 0)] h8) fun v9 h9 =>
 bnd (rec 52 [(env 0)] h9) fun v10 h10 =>
 bnd (pPart1 2 v10 h10) fun v11 h11 =>
 bnd (pUn .neg v11 h11) fun v12 h12 =>
 bnd (pBuild [(.i .i64 (Int.ofNat 0)), (.s []), (.i .i64 (Int.ofNat 0)), .l0, .l0, .l0] [(0, 1, (.i .i64 (Int.ofNat 1))), (2, 1, v12)] h12) fun v13 h13 =>
 bnd (pStore 6 (env 2) v13 h13) fun _ h14 =>
 bnd (pLoadA 6 (env 2) h14) fun v15 _ =>
 some (.t [v15, (.b true)], h14)) (
 bnd (pField 0 (env 4) h8) fun v16 h16 =>
 bnd (pLoad1 v16 h16) fun v17 h17 =>
 bnd (pInt .eql v17 (.i .i64 (Int.ofNat 4)) h17) fun v18 h18 =>
 ifD v18 (
 bnd (pField 0 (env 5) h18) fun v19 h19 =>
 bnd (pStore 1 v19 (.i .i64 (Int.ofNat 1)) h19) fun _ h20 =>
          q0 (env 0) (env 2) (env 5) h20) (
 bnd (pField 0 (env 4) h18) fun v21 h21 =>
 bnd (pLoad1 v21 h21) fun v22 h22 =>
 bnd (pInt .eql v22 (.i .i64 (Int.ofNat 5)) h22) fun v23 h23 =>
 ifD v23 (
 bnd (pField 0 (env 5) h23) fun v24 h24 =>
 bnd (pStore 1 v24 (.i .i64 (Int.ofNat 2)) h24) fun _ h25 =>
            q0 (env 0) (env 2) (env 5) h25) (
 bnd (pField 0 (env 4) h23) fun v26 h26 =>
 bnd (pLoad1 v26 h26) fun v27 h27 =>
 bnd (pInt .eql v27 (.i .i64 (Int.ofNat 6)) h27) fun v28 h28 =>
 ifD v28 (
 bnd (pField 0 (env 5) h28) fun v29 h29 =>
 bnd (pStore 1 v29 (.i .i64 (Int.ofNat 3)) h29) fun _ h30 =>
              q0 (env 0) (env 2) (env 5) h30) (
 bnd (pLoadA 6 (env 5) h28) fun v31 h31 =>
 bnd (pStore 6 (env 2) v31 h31) fun _ h32 =>
 bnd (pLoadA 6 (env 2) h32) fun v33 _ =>
 some (.t [v33, (.b false)], h32)))))) := by kernel_rfl
theorem s87a3q2u : (fun (env : Env) (h : Hp) =>
 bnd (pNil (env 0) h) fun v1 h1 =>
 bnd (pField 3 v1 h1) fun v2 h2 =>
 bnd (pLoad1 v2 h2) fun v3 h3 =>
 bnd (pInt .neq v3 (.i .i64 (Int.ofNat 0)) h3) fun v4 h4 =>
 ifD v4 (
 bnd (pLoadA 6 (env 5) h4) fun v5 h5 =>
 bnd (pStore 6 (env 2) v5 h5) fun _ h6 =>
 bnd (pLoadA 6 (env 2) h6) fun v7 _ =>
 some (.t [v7, (.b false)], h6)) (
 bnd (rec 93 [(env 0)] h4) fun v8 h8 =>
 ifD v8 (
 bnd (rec 52 [(env 0)] h8) fun v9 h9 =>
 bnd (rec 52 [(env 0)] h9) fun v10 h10 =>
 bnd (pPart1 2 v10 h10) fun v11 h11 =>
 bnd (pUn .neg v11 h11) fun v12 h12 =>
 bnd (pBuild [(.i .i64 (Int.ofNat 0)), (.s []), (.i .i64 (Int.ofNat 0)), .l0, .l0, .l0] [(0, 1, (.i .i64 (Int.ofNat 1))), (2, 1, v12)] h12) fun v13 h13 =>
 bnd (pStore 6 (env 2) v13 h13) fun _ h14 =>
 bnd (pLoadA 6 (env 2) h14) fun v15 _ =>
 some (.t [v15, (.b true)], h14)) (
 bnd (pField 0 (env 4) h8) fun v16 h16 =>
 bnd (pLoad1 v16 h16) fun v17 h17 =>
 bnd (pInt .eql v17 (.i .i64 (Int.ofNat 4)) h17) fun v18 h18 =>
 ifD v18 (
 bnd (pField 0 (env 5) h18) fun v19 h19 =>
 bnd (pStore 1 v19 (.i .i64 (Int.ofNat 1)) h19) fun _ h20 =>
          s87a4 rec n (env 0) (env 2) (env 5) h20) (
 bnd (pField 0 (env 4) h18) fun v21 h21 =>
 bnd (pLoad1 v21 h21) fun v22 h22 =>
 bnd (pInt .eql v22 (.i .i64 (Int.ofNat 5)) h22) fun v23 h23 =>
 ifD v23 (
 bnd (pField 0 (env 5) h23) fun v24 h24 =>
 bnd (pStore 1 v24 (.i .i64 (Int.ofNat 2)) h24) fun _ h25 =>
            s87a4 rec n (env 0) (env 2) (env 5) h25) (
 bnd (pField 0 (env 4) h23) fun v26 h26 =>
 bnd (pLoad1 v26 h26) fun v27 h27 =>
 bnd (pInt .eql v27 (.i .i64 (Int.ofNat 6)) h27) fun v28 h28 =>
 ifD v28 (
 bnd (pField 0 (env 5) h28) fun v29 h29 =>
 bnd (pStore 1 v29 (.i .i64 (Int.ofNat 3)) h29) fun _ h30 =>
              s87a4 rec n (env 0) (env 2) (env 5) h30) (
 bnd (pLoadA 6 (env 5) h28) fun v31 h31 =>
 bnd (pStore 6 (env 2) v31 h31) fun _ h32 =>
 bnd (pLoadA 6 (env 2) h32) fun v33 _ =>
 some (.t [v33, (.b false)], h32))))))) = (K4 (s87a3 rec n) 0 2 4 5) := by kernel_rfl
theorem s87a3e : D87 rec n c87x3 x0 r87 = (K4 (s87a3 rec n) 0 2 4 5) :=
  (s87a3p1 rec n).trans
  ((s87a3q2 rec n (s87a4 rec n)).trans (s87a3q2u rec n))
theorem s87a2p3 : D87 rec n c87x2 x0 r87 = D87 rec n c87x6 x0 (K4 (s87a3 rec n) 0 2 4 5) :=
  congrArg (fun k => D87 rec n c87x6 x0 k) (s87a3e rec n)
theorem s87a2q4 (q0 : TT4) : D87 rec n c87x6 x0 (K4 q0 0 2 4 5) = fun (env : Env) (h : Hp) =>
 bnd (pField 1 (env 4) h) fun v1 h1 =>
 bnd (pLoad1 v1 h1) fun v2 h2 =>
 bnd (pField 2 (env 4) h2) fun v3 h3 =>
 bnd (pLoad1 v3 h3) fun v4 h4 =>
 bnd (pBuild [(.i .i64 (Int.ofNat 0)), (.s []), (.i .i64 (Int.ofNat 0)), .l0, .l0, .l0] [(1, 1, v2), (2, 1, v4)] h4) fun v5 h5 =>
 bnd (pNew [(.i .i64 (Int.ofNat 0)), (.s []), (.i .i64 (Int.ofNat 0)), .l0, .l0, .l0] h5) fun v6 h6 =>
 bnd (pStore 6 v6 v5 h6) fun _ h7 =>
    q0 (env 0) (env 2) (env 4) v6 h7 := by kernel_rfl
theorem s87a2q4u : (fun (env : Env) (h : Hp) =>
 bnd (pField 1 (env 4) h) fun v1 h1 =>
 bnd (pLoad1 v1 h1) fun v2 h2 =>
 bnd (pField 2 (env 4) h2) fun v3 h3 =>
 bnd (pLoad1 v3 h3) fun v4 h4 =>
 bnd (pBuild [(.i .i64 (Int.ofNat 0)), (.s []), (.i .i64 (Int.ofNat 0)), .l0, .l0, .l0] [(1, 1, v2), (2, 1, v4)] h4) fun v5 h5 =>
 bnd (pNew [(.i .i64 (Int.ofNat 0)), (.s []), (.i .i64 (Int.ofNat 0)), .l0, .l0, .l0] h5) fun v6 h6 =>
 bnd (pStore 6 v6 v5 h6) fun _ h7 =>
    s87a3 rec n (env 0) (env 2) (env 4) v6 h7) = (K3 (s87a2 rec n) 0 2 4) := by kernel_rfl
theorem s87a2e : D87 rec n c87x2 x0 r87 = (K3 (s87a2 rec n) 0 2 4) :=
  (s87a2p3 rec n).trans
  ((s87a2q4 rec n (s87a3 rec n)).trans (s87a2q4u rec n))
theorem s87a1p5 : D87 rec n c87x1 x0 r87 = D87 rec n c87x7 x0 (K3 (s87a2 rec n) 0 2 4) :=
  congrArg (fun k => D87 rec n c87x7 x0 k) (s87a2e rec n)
theorem s87a1q6 (q0 : TT3) : D87 rec n c87x7 x0 (K3 q0 0 2 4) = fun (env : Env) (h : Hp) =>
 bnd (rec 55 [(env 0), (.i .i64 (Int.ofNat 0))] h) fun v1 h1 =>
 bnd (pNew [(.i .i64 (Int.ofNat 0)), (.s []), (.i .i64 (Int.ofNat 0)), (.i .i64 (Int.ofNat 0))] h1) fun v2 h2 =>
 bnd (pStore 4 v2 v1 h2) fun _ h3 =>
    q0 (env 0) (env 2) v2 h3 := by kernel_rfl
theorem s87a1q6u : (fun (env : Env) (h : Hp) =>
 bnd (rec 55 [(env 0), (.i .i64 (Int.ofNat 0))] h) fun v1 h1 =>
 bnd (pNew [(.i .i64 (Int.ofNat 0)), (.s []), (.i .i64 (Int.ofNat 0)), (.i .i64 (Int.ofNat 0))] h1) fun v2 h2 =>
 bnd (pStore 4 v2 v1 h2) fun _ h3 =>
    s87a2 rec n (env 0) (env 2) v2 h3) = (K2 (s87a1 rec n) 0 2) := by kernel_rfl
theorem s87a1e : D87 rec n c87x1 x0 r87 = (K2 (s87a1 rec n) 0 2) :=
  (s87a1p5 rec n).trans
  ((s87a1q6 rec n (s87a2 rec n)).trans (s87a1q6u rec n))
theorem s87p7 : D87 rec n c87 x0 r87 = D87 rec n c87x8 x0 (K2 (s87a1 rec n) 0 2) :=
  congrArg (fun k => D87 rec n c87x8 x0 k) (s87a1e rec n)
theorem s87q8 (q0 : TT2) : D87 rec n c87x8 x0 (K2 q0 0 2) = fun (env : Env) (h : Hp) =>
 bnd (pNew [(.i .i64 (Int.ofNat 0)), (.s []), (.i .i64 (Int.ofNat 0)), .l0, .l0, .l0] h) fun v1 h1 =>
    q0 (env 0) v1 h1 := by kernel_rfl
theorem s87q8u : (fun (env : Env) (h : Hp) =>
 bnd (pNew [(.i .i64 (Int.ofNat 0)), (.s []), (.i .i64 (Int.ofNat 0)), .l0, .l0, .l0] h) fun v1 h1 =>
    s87a1 rec n (env 0) v1 h1) = (K1 (s87 rec n) 0) := by kernel_rfl
theorem s87m : D87 rec n c87 x0 r87 = (K1 (s87 rec n) 0) :=
  (s87p7 rec n).trans
  ((s87q8 rec n (s87a1 rec n)).trans (s87q8u rec n))
theorem s87ok (args : List DV) (h : Hp) : bodyD CF rec n 87 args h = s87 rec n (args.getD 0 undefD) h :=
  (by kernel_rfl : bodyD CF rec n 87 args h = D87 rec n c87 x0 r87 (argsE args) h).trans ((congrFun (congrFun (s87m rec n) (argsE args)) h).trans (by kernel_rfl))
/-- parse.parser).within -/
def s88 (rec : RT) (n : Nat) (x0 x1 : DV) (h0 : Hp) : Res :=
 bnd (pNew [(.i .i64 (Int.ofNat 0)), (.s []), (.i .i64 (Int.ofNat 0)), .l0, .l0, .l0] h0) fun v1 h1 =>
 bnd (rec 52 [x0] h1) fun v2 h2 =>
 bnd (pNew [(.i .i64 (Int.ofNat 0)), (.s []), (.i .i64 (Int.ofNat 0)), (.i .i64 (Int.ofNat 0))] h2) fun v3 h3 =>
 bnd (pStore 4 v3 v2 h3) fun _ h4 =>
 bnd (pNil x0 h4) fun v5 h5 =>
 bnd (pField 1 v5 h5) fun v6 h6 =>
 bnd (pLoad1 v6 h6) fun v7 h7 =>
 bnd (pInt .eql v7 (.i .i64 (Int.ofNat 20)) h7) fun v8 h8 =>
 ifD v8 (
 bnd (pLoadA 4 v3 h8) fun v9 h9 =>
 bnd (rec 54 [x0, v9, (.i .i64 (Int.ofNat 14))] h9) fun v10 h10 =>
 bnd (pBuild [(.i .i64 (Int.ofNat 0)), (.s []), (.i .i64 (Int.ofNat 0)), .l0, .l0, .l0] [] h10) fun v11 h11 =>
 bnd (pStore 6 v1 v11 h11) fun _ h12 =>
 bnd (pLoadA 6 v1 h12) fun v13 _ =>
 some (v13, h12)) (
 bnd (pNil x0 h8) fun v14 h14 =>
 bnd (pField 1 v14 h14) fun v15 h15 =>
 bnd (pLoad1 v15 h15) fun v16 h16 =>
 bnd (pInt .add v16 (.i .i64 (Int.ofNat 1)) h16) fun v17 h17 =>
 bnd (pNil x0 h17) fun v18 h18 =>
 bnd (pField 1 v18 h18) fun v19 h19 =>
 bnd (pStore 1 v19 v17 h19) fun _ h20 =>
 bnd (pCall CF rec x1 [] h20) fun v21 h21 =>
 bnd (pNew [(.i .i64 (Int.ofNat 0)), (.s []), (.i .i64 (Int.ofNat 0)), .l0, .l0, .l0] h21) fun v22 h22 =>
 bnd (pStore 6 v22 v21 h22) fun _ h23 =>
 bnd (pNil x0 h23) fun v24 h24 =>
 bnd (pField 1 v24 h24) fun v25 h25 =>
 bnd (pLoad1 v25 h25) fun v26 h26 =>
 bnd (pInt .sub v26 (.i .i64 (Int.ofNat 1)) h26) fun v27 h27 =>
 bnd (pNil x0 h27) fun v28 h28 =>
 bnd (pField 1 v28 h28) fun v29 h29 =>
 bnd (pStore 1 v29 v27 h29) fun _ h30 =>
 bnd (pLoadA 6 v22 h30) fun v31 h31 =>
 bnd (pStore 6 v1 v31 h31) fun _ h32 =>
 bnd (pLoadA 6 v1 h32) fun v33 _ =>
 some (v33, h32))
abbrev c88 : Code := cf Try.f88
abbrev r88 : K := retK CF Try.f88
def D88 (rec : RT) (n : Nat) (c : Code) (X : Nat → K) (k : K) : K := codeD CF rec 35 n c X r88 k
theorem s88m : D88 rec n c88 x0 r88 = (K2 (s88 rec n) 0 1) :=
  (by kernel_rfl)
theorem s88ok (args : List DV) (h : Hp) : bodyD CF rec n 88 args h = s88 rec n (args.getD 0 undefD) (args.getD 1 undefD) h :=
  (by kernel_rfl : bodyD CF rec n 88 args h = D88 rec n c88 x0 r88 (argsE args) h).trans ((congrFun (congrFun (s88m rec n) (argsE args)) h).trans (by kernel_rfl))

end
end Go.Dd

/- Dd, part Q6 (printed by gen.py): functions of the seat's program as Lean functions, linked to Dd. -/
set_option linter.unusedVariables false
set_option maxRecDepth 100000
namespace Go.Dd
open Go.Proofs
noncomputable section

variable (rec : RT) (n : Nat)
def s89a3 (rec : RT) (n : Nat) (x0 x2 x3 : DV) (h0 : Hp) : Res :=
 bnd (rec 52 [x0] h0) fun v1 h1 =>
 bnd (pLoadA 6 x3 h1) fun v2 h2 =>
 bnd (pStore 6 x2 v2 h2) fun _ h3 =>
 bnd (pLoadA 6 x2 h3) fun v4 _ =>
 some (v4, h3)
def s89a7 (rec : RT) (n : Nat) (kk4 : TT3) (x0 x2 x3 x4 : DV) (h0 : Hp) : Res :=
 bnd (pField 5 x3 h0) fun v1 h1 =>
 bnd (pLoad1 v1 h1) fun v2 h2 =>
 bnd (pLoadA 6 x4 h2) fun v3 h3 =>
 bnd (pBuildSlice [(.i .i64 (Int.ofNat 0)), (.s []), (.i .i64 (Int.ofNat 0)), .l0, .l0, .l0] 1 [(0, 6, v3)] h3) fun v4 h4 =>
 bnd (pAppend 6 104 v2 v4 h4) fun v5 h5 =>
 bnd (pField 5 x3 h5) fun v6 h6 =>
 bnd (pStore 1 v6 v5 h6) fun _ h7 =>
  kk4 x0 x2 x3 h7
def s89a6 (rec : RT) (n : Nat) (kk4 : TT3) (x0 x2 x3 x4 x5 : DV) (h0 : Hp) : Res :=
 ifD x5 (
    s89a7 rec n kk4 x0 x2 x3 x4 h0) (
 bnd (rec 51 [x0, (.i .i64 (Int.ofNat 7)), (.s [])] h0) fun v1 h1 =>
 bnd (gD v1 false (some (x0, h1)) h1) fun v2 h2 =>
 bnd (gD v1 false (rec 51 [v2, (.i .i64 (Int.ofNat 10)), (.s [40])] h2) h2) fun v3 h3 =>
 bnd (pPick v1 (.b true) v3 h3) fun v4 h4 =>
 ifD v4 (
 bnd (rec 88 [x0, (.f 89 [x0] [])] h4) fun v5 h5 =>
 bnd (pStore 6 x4 v5 h5) fun _ h6 =>
      s89a7 rec n kk4 x0 x2 x3 x4 h6) (
 bnd (rec 55 [x0, (.i .i64 (Int.ofNat 0))] h4) fun v7 h7 =>
 bnd (rec 54 [x0, v7, (.i .i64 (Int.ofNat 13))] h7) fun v8 h8 =>
      s89a7 rec n kk4 x0 x2 x3 x4 h8))
def s89a5 (rec : RT) (n : Nat) (kk4 : TT3) (x0 x2 x3 : DV) (h0 : Hp) : Res :=
 bnd (rec 87 [x0] h0) fun v1 h1 =>
 bnd (pExtract 0 v1 h1) fun v2 h2 =>
 bnd (pExtract 1 v1 h2) fun v3 h3 =>
 bnd (pNew [(.i .i64 (Int.ofNat 0)), (.s []), (.i .i64 (Int.ofNat 0)), .l0, .l0, .l0] h3) fun v4 h4 =>
 bnd (pStore 6 v4 v2 h4) fun _ h5 =>
  s89a6 rec n kk4 x0 x2 x3 v4 v3 h5
def s89a4b (rec : RT) (n : Nat) (kk4 : TT3) (x0 x2 x3 : DV) (h0 : Hp) : Res :=
 bnd (pNil x0 h0) fun v1 h1 =>
 bnd (pField 3 v1 h1) fun v2 h2 =>
 bnd (pLoad1 v2 h2) fun v3 h3 =>
 bnd (pInt .eql v3 (.i .i64 (Int.ofNat 0)) h3) fun v4 h4 =>
 bnd (gD v4 true (some (x0, h4)) h4) fun v5 h5 =>
 bnd (gD v4 true (rec 51 [v5, (.i .i64 (Int.ofNat 10)), (.s [41])] h5) h5) fun v6 h6 =>
 bnd (gD v4 true (pUn .not v6 h6) h6) fun v7 h7 =>
 bnd (pPick v4 v7 (.b false) h7) fun v8 h8 =>
 ifD v8 (
      s89a5 rec n kk4 x0 x2 x3 h8) (
      s89a3 rec n x0 x2 x3 h8)
def s89a4l (rec : RT) (n : Nat) (m : Nat) : TT3 :=
  Nat.rec (motive := fun _ => TT3) (fun _ _ _ _ => none) (fun _ ih => s89a4b rec n ih) m
def s89a4 (rec : RT) (n : Nat) : TT3 := s89a4l rec n n
def s89a2 (rec : RT) (n : Nat) (x0 x2 x3 : DV) (h0 : Hp) : Res :=
  s89a4 rec n x0 x2 x3 h0
def s89a1 (rec : RT) (n : Nat) (x0 x2 : DV) (h0 : Hp) : Res :=
 bnd (pBuild [(.i .i64 (Int.ofNat 0)), (.s []), (.i .i64 (Int.ofNat 0)), .l0, .l0, .l0] [(0, 1, (.i .i64 (Int.ofNat 4)))] h0) fun v1 h1 =>
 bnd (pNew [(.i .i64 (Int.ofNat 0)), (.s []), (.i .i64 (Int.ofNat 0)), .l0, .l0, .l0] h1) fun v2 h2 =>
 bnd (pStore 6 v2 v1 h2) fun _ h3 =>
  s89a2 rec n x0 x2 v2 h3
/-- parse.parser).literals -/
def s89 (rec : RT) (n : Nat) (x0 : DV) (h0 : Hp) : Res :=
 bnd (pNew [(.i .i64 (Int.ofNat 0)), (.s []), (.i .i64 (Int.ofNat 0)), .l0, .l0, .l0] h0) fun v1 h1 =>
  s89a1 rec n x0 v1 h1
abbrev c89 : Code := cf Try.f89
abbrev c89x1 : Code := cR c89
abbrev c89x2 : Code := cR c89x1
abbrev c89x3 : Code := cR c89x2
abbrev c89x4 : Code := cL c89x2
abbrev c89x5 : Code := cL c89x4
abbrev c89x6 : Code := cL c89x5
abbrev c89x7 : Code := cR c89x6
abbrev c89x8 : Code := cL c89x7
abbrev c89x9 : Code := cR c89x8
abbrev c89x10 : Code := cR c89x9
abbrev c89x11 : Code := cL c89x9
abbrev c89x12 : Code := cL c89x8
abbrev c89x13 : Code := cL c89x6
abbrev c89x14 : Code := cL c89x1
abbrev c89x15 : Code := cL c89
abbrev r89 : K := retK CF Try.f89
def D89 (rec : RT) (n : Nat) (c : Code) (X : Nat → K) (k : K) : K := codeD CF rec 48 n c X r89 k
theorem s89a3e : D89 rec n c89x3 x0 r89 = (K3 (s89a3 rec n) 0 2 3) :=
  (by kernel_rfl)
theorem s89a7q1 (kk4 : TT3) (q0 : TT3) : D89 rec n c89x10 (xs (xs x0 0 (K3 q0 0 2 3)) 1 (K3 kk4 0 2 3)) (K3 kk4 0 2 3) = fun (env : Env) (h : Hp) =>
 bnd (pField 5 (env 3) h) fun v1 h1 =>
 bnd (pLoad1 v1 h1) fun v2 h2 =>
 bnd (pLoadA 6 (env 4) h2) fun v3 h3 =>
 bnd (pBuildSlice [(.i .i64 (Int.ofNat 0)), (.s []), (.i .i64 (Int.ofNat 0)), .l0, .l0, .l0] 1 [(0, 6, v3)] h3) fun v4 h4 =>
 bnd (pAppend 6 104 v2 v4 h4) fun v5 h5 =>
 bnd (pField 5 (env 3) h5) fun v6 h6 =>
 bnd (pStore 1 v6 v5 h6) fun _ h7 =>
    kk4 (env 0) (env 2) (env 3) h7 := by kernel_rfl
theorem s89a7q1u (kk4 : TT3) : (fun (env : Env) (h : Hp) =>
 bnd (pField 5 (env 3) h) fun v1 h1 =>
 bnd (pLoad1 v1 h1) fun v2 h2 =>
 bnd (pLoadA 6 (env 4) h2) fun v3 h3 =>
 bnd (pBuildSlice [(.i .i64 (Int.ofNat 0)), (.s []), (.i .i64 (Int.ofNat 0)), .l0, .l0, .l0] 1 [(0, 6, v3)] h3) fun v4 h4 =>
 bnd (pAppend 6 104 v2 v4 h4) fun v5 h5 =>
 bnd (pField 5 (env 3) h5) fun v6 h6 =>
 bnd (pStore 1 v6 v5 h6) fun _ h7 =>
    kk4 (env 0) (env 2) (env 3) h7) = (K4 (s89a7 rec n kk4) 0 2 3 4) := by kernel_rfl
theorem s89a7e (kk4 : TT3) : D89 rec n c89x10 (xs (xs x0 0 (K3 (s89a3 rec n) 0 2 3)) 1 (K3 kk4 0 2 3)) (K3 kk4 0 2 3) = (K4 (s89a7 rec n kk4) 0 2 3 4) :=
  (s89a7q1 rec n kk4 (s89a3 rec n)).trans (s89a7q1u rec n kk4)
theorem s89a6p2 (kk4 : TT3) : D89 rec n c89x9 (xs (xs x0 0 (K3 (s89a3 rec n) 0 2 3)) 1 (K3 kk4 0 2 3)) (K3 kk4 0 2 3) = D89 rec n c89x11 (xs (xs x0 0 (K3 (s89a3 rec n) 0 2 3)) 1 (K3 kk4 0 2 3)) (K4 (s89a7 rec n kk4) 0 2 3 4) :=
  congrArg (fun k => D89 rec n c89x11 (xs (xs x0 0 (K3 (s89a3 rec n) 0 2 3)) 1 (K3 kk4 0 2 3)) k) (s89a7e rec n kk4)
theorem s89a6e (kk4 : TT3) : D89 rec n c89x9 (xs (xs x0 0 (K3 (s89a3 rec n) 0 2 3)) 1 (K3 kk4 0 2 3)) (K3 kk4 0 2 3) = (K5 (s89a6 rec n kk4) 0 2 3 4 5) :=
  (s89a6p2 rec n kk4).trans
  ((by kernel_rfl))
theorem s89a5p3 (kk4 : TT3) : D89 rec n c89x8 (xs (xs x0 0 (K3 (s89a3 rec n) 0 2 3)) 1 (K3 kk4 0 2 3)) (K3 kk4 0 2 3) = D89 rec n c89x12 (xs (xs x0 0 (K3 (s89a3 rec n) 0 2 3)) 1 (K3 kk4 0 2 3)) (K5 (s89a6 rec n kk4) 0 2 3 4 5) :=
  congrArg (fun k => D89 rec n c89x12 (xs (xs x0 0 (K3 (s89a3 rec n) 0 2 3)) 1 (K3 kk4 0 2 3)) k) (s89a6e rec n kk4)
theorem s89a5q4 (kk4 : TT3) (q0 : TT5) (q1 : TT3) : D89 rec n c89x12 (xs (xs x0 0 (K3 q1 0 2 3)) 1 (K3 kk4 0 2 3)) (K5 q0 0 2 3 4 5) = fun (env : Env) (h : Hp) =>
 bnd (rec 87 [(env 0)] h) fun v1 h1 =>
 bnd (pExtract 0 v1 h1) fun v2 h2 =>
 bnd (pExtract 1 v1 h2) fun v3 h3 =>
 bnd (pNew [(.i .i64 (Int.ofNat 0)), (.s []), (.i .i64 (Int.ofNat 0)), .l0, .l0, .l0] h3) fun v4 h4 =>
 bnd (pStore 6 v4 v2 h4) fun _ h5 =>
    q0 (env 0) (env 2) (env 3) v4 v3 h5 := by kernel_rfl
theorem s89a5q4u (kk4 : TT3) : (fun (env : Env) (h : Hp) =>
 bnd (rec 87 [(env 0)] h) fun v1 h1 =>
 bnd (pExtract 0 v1 h1) fun v2 h2 =>
 bnd (pExtract 1 v1 h2) fun v3 h3 =>
 bnd (pNew [(.i .i64 (Int.ofNat 0)), (.s []), (.i .i64 (Int.ofNat 0)), .l0, .l0, .l0] h3) fun v4 h4 =>
 bnd (pStore 6 v4 v2 h4) fun _ h5 =>
    s89a6 rec n kk4 (env 0) (env 2) (env 3) v4 v3 h5) = (K3 (s89a5 rec n kk4) 0 2 3) := by kernel_rfl
theorem s89a5e (kk4 : TT3) : D89 rec n c89x7 (xs x0 0 (K3 (s89a3 rec n) 0 2 3)) (K3 kk4 0 2 3) = (K3 (s89a5 rec n kk4) 0 2 3) :=
  (by kernel_rfl : D89 rec n c89x7 (xs x0 0 (K3 (s89a3 rec n) 0 2 3)) (K3 kk4 0 2 3) = D89 rec n c89x8 (xs (xs x0 0 (K3 (s89a3 rec n) 0 2 3)) 1 (K3 kk4 0 2 3)) (K3 kk4 0 2 3)).trans
  ((s89a5p3 rec n kk4).trans
  ((s89a5q4 rec n kk4 (s89a6 rec n kk4) (s89a3 rec n)).trans (s89a5q4u rec n kk4)))
theorem s89a4p5 (kk4 : TT3) : D89 rec n c89x6 (xs x0 0 (K3 (s89a3 rec n) 0 2 3)) (K3 kk4 0 2 3) = D89 rec n c89x13 (xs x0 0 (K3 (s89a3 rec n) 0 2 3)) (K3 (s89a5 rec n kk4) 0 2 3) :=
  congrArg (fun k => D89 rec n c89x13 (xs x0 0 (K3 (s89a3 rec n) 0 2 3)) k) (s89a5e rec n kk4)
theorem s89a4be (kk4 : TT3) : D89 rec n c89x6 (xs x0 0 (K3 (s89a3 rec n) 0 2 3)) (K3 kk4 0 2 3) = (K3 (s89a4b rec n kk4) 0 2 3) :=
  (s89a4p5 rec n kk4).trans
  ((by kernel_rfl))
theorem s89a4le (m : Nat) : loopN (fun kk => D89 rec n c89x6 (xs x0 0 (K3 (s89a3 rec n) 0 2 3)) kk) m = (K3 (s89a4l rec n m) 0 2 3) := by
  induction m with
  | zero => exact (by kernel_rfl : loopN (fun kk => D89 rec n c89x6 (xs x0 0 (K3 (s89a3 rec n) 0 2 3)) kk) 0 = (K3 (s89a4l rec n 0) 0 2 3))
  | succ m ih =>
    refine (by kernel_rfl : loopN (fun kk => D89 rec n c89x6 (xs x0 0 (K3 (s89a3 rec n) 0 2 3)) kk) (m + 1) = D89 rec n c89x6 (xs x0 0 (K3 (s89a3 rec n) 0 2 3)) (loopN (fun kk => D89 rec n c89x6 (xs x0 0 (K3 (s89a3 rec n) 0 2 3)) kk) m)).trans ?_
    rw [ih]
    exact (s89a4be rec n (s89a4l rec n m)).trans (by kernel_rfl)
theorem s89a4e : D89 rec n c89x5 (xs x0 0 (K3 (s89a3 rec n) 0 2 3)) (K3 (s89a3 rec n) 0 2 3) = (K3 (s89a4 rec n) 0 2 3) :=
  (by kernel_rfl : D89 rec n c89x5 (xs x0 0 (K3 (s89a3 rec n) 0 2 3)) (K3 (s89a3 rec n) 0 2 3) = loopN (fun kk => D89 rec n c89x6 (xs x0 0 (K3 (s89a3 rec n) 0 2 3)) kk) n).trans ((s89a4le rec n n).trans (by kernel_rfl))
theorem s89a2p6 : D89 rec n c89x2 x0 r89 = D89 rec n c89x4 x0 (K3 (s89a3 rec n) 0 2 3) :=
  congrArg (fun k => D89 rec n c89x4 x0 k) (s89a3e rec n)
theorem s89a2e : D89 rec n c89x2 x0 r89 = (K3 (s89a2 rec n) 0 2 3) :=
  (s89a2p6 rec n).trans
  ((by kernel_rfl : D89 rec n c89x4 x0 (K3 (s89a3 rec n) 0 2 3) = D89 rec n c89x5 (xs x0 0 (K3 (s89a3 rec n) 0 2 3)) (K3 (s89a3 rec n) 0 2 3)).trans
  ((s89a4e rec n).trans (by kernel_rfl)))
theorem s89a1p7 : D89 rec n c89x1 x0 r89 = D89 rec n c89x14 x0 (K3 (s89a2 rec n) 0 2 3) :=
  congrArg (fun k => D89 rec n c89x14 x0 k) (s89a2e rec n)
theorem s89a1q8 (q0 : TT3) : D89 rec n c89x14 x0 (K3 q0 0 2 3) = fun (env : Env) (h : Hp) =>
 bnd (pBuild [(.i .i64 (Int.ofNat 0)), (.s []), (.i .i64 (Int.ofNat 0)), .l0, .l0, .l0] [(0, 1, (.i .i64 (Int.ofNat 4)))] h) fun v1 h1 =>
 bnd (pNew [(.i .i64 (Int.ofNat 0)), (.s []), (.i .i64 (Int.ofNat 0)), .l0, .l0, .l0] h1) fun v2 h2 =>
 bnd (pStore 6 v2 v1 h2) fun _ h3 =>
    q0 (env 0) (env 2) v2 h3 := by kernel_rfl
theorem s89a1q8u : (fun (env : Env) (h : Hp) =>
 bnd (pBuild [(.i .i64 (Int.ofNat 0)), (.s []), (.i .i64 (Int.ofNat 0)), .l0, .l0, .l0] [(0, 1, (.i .i64 (Int.ofNat 4)))] h) fun v1 h1 =>
 bnd (pNew [(.i .i64 (Int.ofNat 0)), (.s []), (.i .i64 (Int.ofNat 0)), .l0, .l0, .l0] h1) fun v2 h2 =>
 bnd (pStore 6 v2 v1 h2) fun _ h3 =>
    s89a2 rec n (env 0) (env 2) v2 h3) = (K2 (s89a1 rec n) 0 2) := by kernel_rfl
theorem s89a1e : D89 rec n c89x1 x0 r89 = (K2 (s89a1 rec n) 0 2) :=
  (s89a1p7 rec n).trans
  ((s89a1q8 rec n (s89a2 rec n)).trans (s89a1q8u rec n))
theorem s89p9 : D89 rec n c89 x0 r89 = D89 rec n c89x15 x0 (K2 (s89a1 rec n) 0 2) :=
  congrArg (fun k => D89 rec n c89x15 x0 k) (s89a1e rec n)
theorem s89q10 (q0 : TT2) : D89 rec n c89x15 x0 (K2 q0 0 2) = fun (env : Env) (h : Hp) =>
 bnd (pNew [(.i .i64 (Int.ofNat 0)), (.s []), (.i .i64 (Int.ofNat 0)), .l0, .l0, .l0] h) fun v1 h1 =>
    q0 (env 0) v1 h1 := by kernel_rfl
theorem s89q10u : (fun (env : Env) (h : Hp) =>
 bnd (pNew [(.i .i64 (Int.ofNat 0)), (.s []), (.i .i64 (Int.ofNat 0)), .l0, .l0, .l0] h) fun v1 h1 =>
    s89a1 rec n (env 0) v1 h1) = (K1 (s89 rec n) 0) := by kernel_rfl
theorem s89m : D89 rec n c89 x0 r89 = (K1 (s89 rec n) 0) :=
  (s89p9 rec n).trans
  ((s89q10 rec n (s89a1 rec n)).trans (s89q10u rec n))
theorem s89ok (args : List DV) (h : Hp) : bodyD CF rec n 89 args h = s89 rec n (args.getD 0 undefD) h :=
  (by kernel_rfl : bodyD CF rec n 89 args h = D89 rec n c89 x0 r89 (argsE args) h).trans ((congrFun (congrFun (s89m rec n) (argsE args)) h).trans (by kernel_rfl))
/-- parse.parser).inner -/
def s90 (rec : RT) (n : Nat) (x0 : DV) (h0 : Hp) : Res :=
 bnd (pNew [(.i .i64 (Int.ofNat 0)), (.s []), (.i .i64 (Int.ofNat 0)), .l0, .l0, .l0] h0) fun v1 h1 =>
 bnd (rec 53 [x0] h1) fun v2 h2 =>
 bnd (pNew [(.i .i64 (Int.ofNat 0)), (.s []), (.i .i64 (Int.ofNat 0)), .l0, .l0, .l0] h2) fun v3 h3 =>
 bnd (pStore 6 v3 v2 h3) fun _ h4 =>
 bnd (rec 32 [x0, (.i .i64 (Int.ofNat 10)), (.s [41])] h4) fun v5 h5 =>
 bnd (pLoadA 6 v3 h5) fun v6 h6 =>
 bnd (pStore 6 v1 v6 h6) fun _ h7 =>
 bnd (pLoadA 6 v1 h7) fun v8 _ =>
 some (v8, h7)
abbrev c90 : Code := cf Try.f90
abbrev r90 : K := retK CF Try.f90
def D90 (rec : RT) (n : Nat) (c : Code) (X : Nat → K) (k : K) : K := codeD CF rec 9 n c X r90 k
theorem s90m : D90 rec n c90 x0 r90 = (K1 (s90 rec n) 0) :=
  (by kernel_rfl)
theorem s90ok (args : List DV) (h : Hp) : bodyD CF rec n 90 args h = s90 rec n (args.getD 0 undefD) h :=
  (by kernel_rfl : bodyD CF rec n 90 args h = D90 rec n c90 x0 r90 (argsE args) h).trans ((congrFun (congrFun (s90m rec n) (argsE args)) h).trans (by kernel_rfl))
def s91a4 (rec : RT) (n : Nat) (x0 x2 x3 : DV) (h0 : Hp) : Res :=
 bnd (rec 30 [x0] h0) fun v1 h1 =>
 bnd (pField 4 x3 h1) fun v2 h2 =>
 bnd (pStore 1 v2 v1 h2) fun _ h3 =>
 bnd (rec 31 [x0] h3) fun v4 h4 =>
 bnd (pField 5 x3 h4) fun v5 h5 =>
 bnd (pStore 1 v5 v4 h5) fun _ h6 =>
 bnd (rec 32 [x0, (.i .i64 (Int.ofNat 10)), (.s [93])] h6) fun v7 h7 =>
 bnd (pLoadA 6 x3 h7) fun v8 h8 =>
 bnd (pStore 6 x2 v8 h8) fun _ h9 =>
 bnd (pLoadA 6 x2 h9) fun v10 _ =>
 some (v10, h9)
def s91a3 (rec : RT) (n : Nat) (x0 x2 x3 : DV) (h0 : Hp) : Res :=
 bnd (pField 3 x3 h0) fun v1 h1 =>
 bnd (pLoad1 v1 h1) fun v2 h2 =>
 bnd (pLen v2 h2) fun v3 h3 =>
 bnd (pInt .gtr v3 (.i .i64 (Int.ofNat 0)) h3) fun v4 h4 =>
 bnd (gD v4 true (some (x0, h4)) h4) fun v5 h5 =>
 bnd (gD v4 true (rec 51 [v5, (.i .i64 (Int.ofNat 10)), (.s [93])] h5) h5) fun v6 h6 =>
 bnd (gD v4 true (pUn .not v6 h6) h6) fun v7 h7 =>
 bnd (pPick v4 v7 (.b false) h7) fun v8 h8 =>
 ifD v8 (
 bnd (rec 32 [x0, (.i .i64 (Int.ofNat 10)), (.s [124])] h8) fun v9 h9 =>
    s91a4 rec n x0 x2 x3 h9) (
    s91a4 rec n x0 x2 x3 h8)
def s91a5b (rec : RT) (n : Nat) (kk5 : TT3) (x0 x2 x3 : DV) (h0 : Hp) : Res :=
 bnd (rec 51 [x0, (.i .i64 (Int.ofNat 8)), (.s [])] h0) fun v1 h1 =>
 ifD v1 (
 bnd (pField 3 x3 (resv 1 h1)) fun v2 h2 =>
 bnd (pLoad1 v2 h2) fun v3 h3 =>
 bnd (pField 3 x3 h3) fun v4 h4 =>
 bnd (pLoad1 v4 h4) fun v5 h5 =>
 bnd (rec 56 [x0, (.i .i64 (Int.ofNat 8)), v5] h5) fun v6 h6 =>
 cnd (sameR (pLoad1 v2 h6) v3 && true) (
 bnd (pBuildSliceAt (nthPos 0 h1.next) [(.s [])] 1 [(0, 1, v6)] h6) fun v7 h7 =>
 bnd (pAppend 1 16 v3 v7 h7) fun v8 h8 =>
 bnd (pField 3 x3 h8) fun v9 h9 =>
 bnd (pStore 1 v9 v8 h9) fun v10 h10 =>
      kk5 x0 x2 x3 h10)) (
      s91a3 rec n x0 x2 x3 h1)
def s91a5l (rec : RT) (n : Nat) (m : Nat) : TT3 :=
  Nat.rec (motive := fun _ => TT3) (fun _ _ _ _ => none) (fun _ ih => s91a5b rec n ih) m
def s91a5 (rec : RT) (n : Nat) : TT3 := s91a5l rec n n
def s91a2 (rec : RT) (n : Nat) (x0 x2 x3 : DV) (h0 : Hp) : Res :=
  s91a5 rec n x0 x2 x3 h0
def s91a1 (rec : RT) (n : Nat) (x0 x2 : DV) (h0 : Hp) : Res :=
 bnd (pBuild [(.i .i64 (Int.ofNat 0)), (.s []), (.i .i64 (Int.ofNat 0)), .l0, .l0, .l0] [(0, 1, (.i .i64 (Int.ofNat 9)))] h0) fun v1 h1 =>
 bnd (pNew [(.i .i64 (Int.ofNat 0)), (.s []), (.i .i64 (Int.ofNat 0)), .l0, .l0, .l0] h1) fun v2 h2 =>
 bnd (pStore 6 v2 v1 h2) fun _ h3 =>
  s91a2 rec n x0 x2 v2 h3
/-- parse.parser).block -/
def s91 (rec : RT) (n : Nat) (x0 : DV) (h0 : Hp) : Res :=
 bnd (pNew [(.i .i64 (Int.ofNat 0)), (.s []), (.i .i64 (Int.ofNat 0)), .l0, .l0, .l0] h0) fun v1 h1 =>
  s91a1 rec n x0 v1 h1
abbrev c91 : Code := cf Try.f91
abbrev c91x1 : Code := cR c91
abbrev c91x2 : Code := cR c91x1
abbrev c91x3 : Code := cR c91x2
abbrev c91x4 : Code := cR c91x3
abbrev c91x5 : Code := cL c91x3
abbrev c91x6 : Code := cL c91x2
abbrev c91x7 : Code := cL c91x6
abbrev c91x8 : Code := cL c91x7
abbrev c91x9 : Code := cL c91x1
abbrev c91x10 : Code := cL c91
abbrev r91 : K := retK CF Try.f91
def D91 (rec : RT) (n : Nat) (c : Code) (X : Nat → K) (k : K) : K := codeD CF rec 36 n c X r91 k
theorem s91a4e : D91 rec n c91x4 x0 r91 = (K3 (s91a4 rec n) 0 2 3) :=
  (by kernel_rfl)
theorem s91a3p1 : D91 rec n c91x3 x0 r91 = D91 rec n c91x5 x0 (K3 (s91a4 rec n) 0 2 3) :=
  congrArg (fun k => D91 rec n c91x5 x0 k) (s91a4e rec n)
theorem s91a3e : D91 rec n c91x3 x0 r91 = (K3 (s91a3 rec n) 0 2 3) :=
  (s91a3p1 rec n).trans
  ((by kernel_rfl))
theorem s91a5q2 (kk5 : TT3) (q0 : TT3) : D91 rec n c91x8 (xs x0 0 (K3 q0 0 2 3)) (K3 kk5 0 2 3) = fun (env : Env) (h : Hp) =>
 bnd (rec 51 [(env 0), (.i .i64 (Int.ofNat 8)), (.s [])] h) fun v1 h1 =>
 ifD v1 (
 bnd (pField 3 (env 3) (resv 1 h1)) fun v2 h2 =>
 bnd (pLoad1 v2 h2) fun v3 h3 =>
 bnd (pField 3 (env 3) h3) fun v4 h4 =>
 bnd (pLoad1 v4 h4) fun v5 h5 =>
 bnd (rec 56 [(env 0), (.i .i64 (Int.ofNat 8)), v5] h5) fun v6 h6 =>
 cnd (sameR (pLoad1 v2 h6) v3 && true) (
 bnd (pBuildSliceAt (nthPos 0 h1.next) [(.s [])] 1 [(0, 1, v6)] h6) fun v7 h7 =>
 bnd (pAppend 1 16 v3 v7 h7) fun v8 h8 =>
 bnd (pField 3 (env 3) h8) fun v9 h9 =>
 bnd (pStore 1 v9 v8 h9) fun v10 h10 =>
      kk5 (env 0) (env 2) (env 3) h10)) (
      q0 (env 0) (env 2) (env 3) h1) := by kernel_rfl
theorem s91a5q2u (kk5 : TT3) : (fun (env : Env) (h : Hp) =>
 bnd (rec 51 [(env 0), (.i .i64 (Int.ofNat 8)), (.s [])] h) fun v1 h1 =>
 ifD v1 (
 bnd (pField 3 (env 3) (resv 1 h1)) fun v2 h2 =>
 bnd (pLoad1 v2 h2) fun v3 h3 =>
 bnd (pField 3 (env 3) h3) fun v4 h4 =>
 bnd (pLoad1 v4 h4) fun v5 h5 =>
 bnd (rec 56 [(env 0), (.i .i64 (Int.ofNat 8)), v5] h5) fun v6 h6 =>
 cnd (sameR (pLoad1 v2 h6) v3 && true) (
 bnd (pBuildSliceAt (nthPos 0 h1.next) [(.s [])] 1 [(0, 1, v6)] h6) fun v7 h7 =>
 bnd (pAppend 1 16 v3 v7 h7) fun v8 h8 =>
 bnd (pField 3 (env 3) h8) fun v9 h9 =>
 bnd (pStore 1 v9 v8 h9) fun v10 h10 =>
      kk5 (env 0) (env 2) (env 3) h10)) (
      s91a3 rec n (env 0) (env 2) (env 3) h1)) = (K3 (s91a5b rec n kk5) 0 2 3) := by kernel_rfl
theorem s91a5be (kk5 : TT3) : D91 rec n c91x8 (xs x0 0 (K3 (s91a3 rec n) 0 2 3)) (K3 kk5 0 2 3) = (K3 (s91a5b rec n kk5) 0 2 3) :=
  (s91a5q2 rec n kk5 (s91a3 rec n)).trans (s91a5q2u rec n kk5)
theorem s91a5le (m : Nat) : loopN (fun kk => D91 rec n c91x8 (xs x0 0 (K3 (s91a3 rec n) 0 2 3)) kk) m = (K3 (s91a5l rec n m) 0 2 3) := by
  induction m with
  | zero => exact (by kernel_rfl : loopN (fun kk => D91 rec n c91x8 (xs x0 0 (K3 (s91a3 rec n) 0 2 3)) kk) 0 = (K3 (s91a5l rec n 0) 0 2 3))
  | succ m ih =>
    refine (by kernel_rfl : loopN (fun kk => D91 rec n c91x8 (xs x0 0 (K3 (s91a3 rec n) 0 2 3)) kk) (m + 1) = D91 rec n c91x8 (xs x0 0 (K3 (s91a3 rec n) 0 2 3)) (loopN (fun kk => D91 rec n c91x8 (xs x0 0 (K3 (s91a3 rec n) 0 2 3)) kk) m)).trans ?_
    rw [ih]
    exact (s91a5be rec n (s91a5l rec n m)).trans (by kernel_rfl)
theorem s91a5e : D91 rec n c91x7 (xs x0 0 (K3 (s91a3 rec n) 0 2 3)) (K3 (s91a3 rec n) 0 2 3) = (K3 (s91a5 rec n) 0 2 3) :=
  (by kernel_rfl : D91 rec n c91x7 (xs x0 0 (K3 (s91a3 rec n) 0 2 3)) (K3 (s91a3 rec n) 0 2 3) = loopN (fun kk => D91 rec n c91x8 (xs x0 0 (K3 (s91a3 rec n) 0 2 3)) kk) n).trans ((s91a5le rec n n).trans (by kernel_rfl))
theorem s91a2p3 : D91 rec n c91x2 x0 r91 = D91 rec n c91x6 x0 (K3 (s91a3 rec n) 0 2 3) :=
  congrArg (fun k => D91 rec n c91x6 x0 k) (s91a3e rec n)
theorem s91a2e : D91 rec n c91x2 x0 r91 = (K3 (s91a2 rec n) 0 2 3) :=
  (s91a2p3 rec n).trans
  ((by kernel_rfl : D91 rec n c91x6 x0 (K3 (s91a3 rec n) 0 2 3) = D91 rec n c91x7 (xs x0 0 (K3 (s91a3 rec n) 0 2 3)) (K3 (s91a3 rec n) 0 2 3)).trans
  ((s91a5e rec n).trans (by kernel_rfl)))
theorem s91a1p4 : D91 rec n c91x1 x0 r91 = D91 rec n c91x9 x0 (K3 (s91a2 rec n) 0 2 3) :=
  congrArg (fun k => D91 rec n c91x9 x0 k) (s91a2e rec n)
theorem s91a1q5 (q0 : TT3) : D91 rec n c91x9 x0 (K3 q0 0 2 3) = fun (env : Env) (h : Hp) =>
 bnd (pBuild [(.i .i64 (Int.ofNat 0)), (.s []), (.i .i64 (Int.ofNat 0)), .l0, .l0, .l0] [(0, 1, (.i .i64 (Int.ofNat 9)))] h) fun v1 h1 =>
 bnd (pNew [(.i .i64 (Int.ofNat 0)), (.s []), (.i .i64 (Int.ofNat 0)), .l0, .l0, .l0] h1) fun v2 h2 =>
 bnd (pStore 6 v2 v1 h2) fun _ h3 =>
    q0 (env 0) (env 2) v2 h3 := by kernel_rfl
theorem s91a1q5u : (fun (env : Env) (h : Hp) =>
 bnd (pBuild [(.i .i64 (Int.ofNat 0)), (.s []), (.i .i64 (Int.ofNat 0)), .l0, .l0, .l0] [(0, 1, (.i .i64 (Int.ofNat 9)))] h) fun v1 h1 =>
 bnd (pNew [(.i .i64 (Int.ofNat 0)), (.s []), (.i .i64 (Int.ofNat 0)), .l0, .l0, .l0] h1) fun v2 h2 =>
 bnd (pStore 6 v2 v1 h2) fun _ h3 =>
    s91a2 rec n (env 0) (env 2) v2 h3) = (K2 (s91a1 rec n) 0 2) := by kernel_rfl
theorem s91a1e : D91 rec n c91x1 x0 r91 = (K2 (s91a1 rec n) 0 2) :=
  (s91a1p4 rec n).trans
  ((s91a1q5 rec n (s91a2 rec n)).trans (s91a1q5u rec n))
theorem s91p6 : D91 rec n c91 x0 r91 = D91 rec n c91x10 x0 (K2 (s91a1 rec n) 0 2) :=
  congrArg (fun k => D91 rec n c91x10 x0 k) (s91a1e rec n)
theorem s91q7 (q0 : TT2) : D91 rec n c91x10 x0 (K2 q0 0 2) = fun (env : Env) (h : Hp) =>
 bnd (pNew [(.i .i64 (Int.ofNat 0)), (.s []), (.i .i64 (Int.ofNat 0)), .l0, .l0, .l0] h) fun v1 h1 =>
    q0 (env 0) v1 h1 := by kernel_rfl
theorem s91q7u : (fun (env : Env) (h : Hp) =>
 bnd (pNew [(.i .i64 (Int.ofNat 0)), (.s []), (.i .i64 (Int.ofNat 0)), .l0, .l0, .l0] h) fun v1 h1 =>
    s91a1 rec n (env 0) v1 h1) = (K1 (s91 rec n) 0) := by kernel_rfl
theorem s91m : D91 rec n c91 x0 r91 = (K1 (s91 rec n) 0) :=
  (s91p6 rec n).trans
  ((s91q7 rec n (s91a1 rec n)).trans (s91q7u rec n))
theorem s91ok (args : List DV) (h : Hp) : bodyD CF rec n 91 args h = s91 rec n (args.getD 0 undefD) h :=
  (by kernel_rfl : bodyD CF rec n 91 args h = D91 rec n c91 x0 r91 (argsE args) h).trans ((congrFun (congrFun (s91m rec n) (argsE args)) h).trans (by kernel_rfl))
/-- api.Node] -/
def s92 (rec : RT) (n : Nat) (x0 : DV) (h0 : Hp) : Res :=
 bnd (pEq (.slice 25) true x0 .l0 h0) fun v1 h1 =>
 ifD v1 (
 some (.l0, h1)) (
 bnd (pBuildSlice [] 0 [] h1) fun v2 h2 =>
 bnd (pAppend 6 104 v2 x0 h2) fun v3 h3 =>
 some (v3, h3))
abbrev c92 : Code := cf Try.f92
abbrev r92 : K := retK CF Try.f92
def D92 (rec : RT) (n : Nat) (c : Code) (X : Nat → K) (k : K) : K := codeD CF rec 8 n c X r92 k
theorem s92m : D92 rec n c92 x0 r92 = (K1 (s92 rec n) 0) :=
  (by kernel_rfl)
theorem s92ok (args : List DV) (h : Hp) : bodyD CF rec n 92 args h = s92 rec n (args.getD 0 undefD) h :=
  (by kernel_rfl : bodyD CF rec n 92 args h = D92 rec n c92 x0 r92 (argsE args) h).trans ((congrFun (congrFun (s92m rec n) (argsE args)) h).trans (by kernel_rfl))
/-- parse.parser).negative -/
def s93 (rec : RT) (n : Nat) (x0 : DV) (h0 : Hp) : Res :=
 bnd (rec 55 [x0, (.i .i64 (Int.ofNat 1))] h0) fun v1 h1 =>
 bnd (pNew [(.i .i64 (Int.ofNat 0)), (.s []), (.i .i64 (Int.ofNat 0)), (.i .i64 (Int.ofNat 0))] h1) fun v2 h2 =>
 bnd (pStore 4 v2 v1 h2) fun _ h3 =>
 bnd (rec 51 [x0, (.i .i64 (Int.ofNat 3)), (.s [45])] h3) fun v4 h4 =>
 bnd (gD v4 true (pField 0 v2 h4) h4) fun v5 h5 =>
 bnd (gD v4 true (pLoad1 v5 h5) h5) fun v6 h6 =>
 bnd (gD v4 true (pInt .eql v6 (.i .i64 (Int.ofNat 4)) h6) h6) fun v7 h7 =>
 bnd (pPick v4 v7 (.b false) h7) fun v8 h8 =>
 bnd (gD v8 true (pField 3 v2 h8) h8) fun v9 h9 =>
 bnd (gD v8 true (pLoad1 v9 h9) h9) fun v10 h10 =>
 bnd (gD v8 true (some (x0, h10)) h10) fun v11 h11 =>
 bnd (gD v8 true (rec 55 [v11, (.i .i64 (Int.ofNat 0))] h11) h11) fun v12 h12 =>
 cnd (sameR (gD v8 true (pLoad1 v9 h12) h12) v10 && true) (
 bnd (gD v8 true (pPart1 3 v12 h12) h12) fun v13 h13 =>
 bnd (gD v8 true (pInt .add v13 (.i .i64 (Int.ofNat 1)) h13) h13) fun v14 h14 =>
 bnd (gD v8 true (pInt .eql v10 v14 h14) h14) fun v15 h15 =>
 bnd (pPick v8 v15 (.b false) h15) fun v16 h16 =>
 some (v16, h16))
abbrev c93 : Code := cf Try.f93
abbrev r93 : K := retK CF Try.f93
def D93 (rec : RT) (n : Nat) (c : Code) (X : Nat → K) (k : K) : K := codeD CF rec 22 n c X r93 k
theorem s93m : D93 rec n c93 x0 r93 = (K1 (s93 rec n) 0) :=
  (by kernel_rfl)
theorem s93ok (args : List DV) (h : Hp) : bodyD CF rec n 93 args h = s93 rec n (args.getD 0 undefD) h :=
  (by kernel_rfl : bodyD CF rec n 93 args h = D93 rec n c93 x0 r93 (argsE args) h).trans ((congrFun (congrFun (s93m rec n) (argsE args)) h).trans (by kernel_rfl))

end
end Go.Dd

/- Dd, the table of all functions (printed by gen.py). -/
set_option linter.unusedVariables false
set_option maxRecDepth 100000
namespace Go.Dd
open Go.Proofs
noncomputable section

section
variable (ih : RT) (m : Nat) (f : FuncId) (args : List DV) (h : Hp)
def qd6 : Res := bif Nat.beq f 7 then s7 ih m (args.getD 0 undefD) h else bodyD CF ih m f args h
theorem qd6e : qd6 ih m f args h = bodyD CF ih m f args h := by
  unfold qd6
  cases e : Nat.beq f 7 with
  | false => rfl
  | true => cases Nat.eq_of_beq_eq_true e; rw [cond_true]; exact (s7ok ih m args h).symm
def qd7 : Res := bif Nat.beq f 8 then s8 ih m (args.getD 0 undefD) h else bodyD CF ih m f args h
theorem qd7e : qd7 ih m f args h = bodyD CF ih m f args h := by
  unfold qd7
  cases e : Nat.beq f 8 with
  | false => rfl
  | true => cases Nat.eq_of_beq_eq_true e; rw [cond_true]; exact (s8ok ih m args h).symm
def qd5 : Res := bif Nat.blt f 8 then qd6 ih m f args h else qd7 ih m f args h
theorem qd5e : qd5 ih m f args h = bodyD CF ih m f args h := by
  unfold qd5
  cases Nat.blt f 8 with
  | false => exact qd7e ih m f args h
  | true => exact qd6e ih m f args h
def qd9 : Res := bif Nat.beq f 9 then s9 ih m h else bodyD CF ih m f args h
theorem qd9e : qd9 ih m f args h = bodyD CF ih m f args h := by
  unfold qd9
  cases e : Nat.beq f 9 with
  | false => rfl
  | true => cases Nat.eq_of_beq_eq_true e; rw [cond_true]; exact (s9ok ih m args h).symm
def qd11 : Res := bif Nat.beq f 10 then s10 ih m (args.getD 0 undefD) h else bodyD CF ih m f args h
theorem qd11e : qd11 ih m f args h = bodyD CF ih m f args h := by
  unfold qd11
  cases e : Nat.beq f 10 with
  | false => rfl
  | true => cases Nat.eq_of_beq_eq_true e; rw [cond_true]; exact (s10ok ih m args h).symm
def qd12 : Res := bif Nat.beq f 11 then s11 ih m (args.getD 0 undefD) (args.getD 1 undefD) h else bodyD CF ih m f args h
theorem qd12e : qd12 ih m f args h = bodyD CF ih m f args h := by
  unfold qd12
  cases e : Nat.beq f 11 with
  | false => rfl
  | true => cases Nat.eq_of_beq_eq_true e; rw [cond_true]; exact (s11ok ih m args h).symm
def qd10 : Res := bif Nat.blt f 11 then qd11 ih m f args h else qd12 ih m f args h
theorem qd10e : qd10 ih m f args h = bodyD CF ih m f args h := by
  unfold qd10
  cases Nat.blt f 11 with
  | false => exact qd12e ih m f args h
  | true => exact qd11e ih m f args h
def qd8 : Res := bif Nat.blt f 10 then qd9 ih m f args h else qd10 ih m f args h
theorem qd8e : qd8 ih m f args h = bodyD CF ih m f args h := by
  unfold qd8
  cases Nat.blt f 10 with
  | false => exact qd10e ih m f args h
  | true => exact qd9e ih m f args h
def qd4 : Res := bif Nat.blt f 9 then qd5 ih m f args h else qd8 ih m f args h
theorem qd4e : qd4 ih m f args h = bodyD CF ih m f args h := by
  unfold qd4
  cases Nat.blt f 9 with
  | false => exact qd8e ih m f args h
  | true => exact qd5e ih m f args h
def qd15 : Res := bif Nat.beq f 15 then s15 ih m (args.getD 0 undefD) h else bodyD CF ih m f args h
theorem qd15e : qd15 ih m f args h = bodyD CF ih m f args h := by
  unfold qd15
  cases e : Nat.beq f 15 with
  | false => rfl
  | true => cases Nat.eq_of_beq_eq_true e; rw [cond_true]; exact (s15ok ih m args h).symm
def qd16 : Res := bif Nat.beq f 16 then s16 ih m (args.getD 0 undefD) (args.getD 1 undefD) h else bodyD CF ih m f args h
theorem qd16e : qd16 ih m f args h = bodyD CF ih m f args h := by
  unfold qd16
  cases e : Nat.beq f 16 with
  | false => rfl
  | true => cases Nat.eq_of_beq_eq_true e; rw [cond_true]; exact (s16ok ih m args h).symm
def qd14 : Res := bif Nat.blt f 16 then qd15 ih m f args h else qd16 ih m f args h
theorem qd14e : qd14 ih m f args h = bodyD CF ih m f args h := by
  unfold qd14
  cases Nat.blt f 16 with
  | false => exact qd16e ih m f args h
  | true => exact qd15e ih m f args h
def qd18 : Res := bif Nat.beq f 17 then s17 ih m (args.getD 0 undefD) (args.getD 1 undefD) h else bodyD CF ih m f args h
theorem qd18e : qd18 ih m f args h = bodyD CF ih m f args h := by
  unfold qd18
  cases e : Nat.beq f 17 with
  | false => rfl
  | true => cases Nat.eq_of_beq_eq_true e; rw [cond_true]; exact (s17ok ih m args h).symm
def qd20 : Res := bif Nat.beq f 18 then s18 ih m (args.getD 0 undefD) h else bodyD CF ih m f args h
theorem qd20e : qd20 ih m f args h = bodyD CF ih m f args h := by
  unfold qd20
  cases e : Nat.beq f 18 with
  | false => rfl
  | true => cases Nat.eq_of_beq_eq_true e; rw [cond_true]; exact (s18ok ih m args h).symm
def qd21 : Res := bif Nat.beq f 19 then s19 ih m (args.getD 0 undefD) (args.getD 1 undefD) h else bodyD CF ih m f args h
theorem qd21e : qd21 ih m f args h = bodyD CF ih m f args h := by
  unfold qd21
  cases e : Nat.beq f 19 with
  | false => rfl
  | true => cases Nat.eq_of_beq_eq_true e; rw [cond_true]; exact (s19ok ih m args h).symm
def qd19 : Res := bif Nat.blt f 19 then qd20 ih m f args h else qd21 ih m f args h
theorem qd19e : qd19 ih m f args h = bodyD CF ih m f args h := by
  unfold qd19
  cases Nat.blt f 19 with
  | false => exact qd21e ih m f args h
  | true => exact qd20e ih m f args h
def qd17 : Res := bif Nat.blt f 18 then qd18 ih m f args h else qd19 ih m f args h
theorem qd17e : qd17 ih m f args h = bodyD CF ih m f args h := by
  unfold qd17
  cases Nat.blt f 18 with
  | false => exact qd19e ih m f args h
  | true => exact qd18e ih m f args h
def qd13 : Res := bif Nat.blt f 17 then qd14 ih m f args h else qd17 ih m f args h
theorem qd13e : qd13 ih m f args h = bodyD CF ih m f args h := by
  unfold qd13
  cases Nat.blt f 17 with
  | false => exact qd17e ih m f args h
  | true => exact qd14e ih m f args h
def qd3 : Res := bif Nat.blt f 15 then qd4 ih m f args h else qd13 ih m f args h
theorem qd3e : qd3 ih m f args h = bodyD CF ih m f args h := by
  unfold qd3
  cases Nat.blt f 15 with
  | false => exact qd13e ih m f args h
  | true => exact qd4e ih m f args h
def qd25 : Res := bif Nat.beq f 20 then s20 ih m (args.getD 0 undefD) (args.getD 1 undefD) h else bodyD CF ih m f args h
theorem qd25e : qd25 ih m f args h = bodyD CF ih m f args h := by
  unfold qd25
  cases e : Nat.beq f 20 with
  | false => rfl
  | true => cases Nat.eq_of_beq_eq_true e; rw [cond_true]; exact (s20ok ih m args h).symm
def qd26 : Res := bif Nat.beq f 21 then s21 ih m (args.getD 0 undefD) (args.getD 1 undefD) h else bodyD CF ih m f args h
theorem qd26e : qd26 ih m f args h = bodyD CF ih m f args h := by
  unfold qd26
  cases e : Nat.beq f 21 with
  | false => rfl
  | true => cases Nat.eq_of_beq_eq_true e; rw [cond_true]; exact (s21ok ih m args h).symm
def qd24 : Res := bif Nat.blt f 21 then qd25 ih m f args h else qd26 ih m f args h
theorem qd24e : qd24 ih m f args h = bodyD CF ih m f args h := by
  unfold qd24
  cases Nat.blt f 21 with
  | false => exact qd26e ih m f args h
  | true => exact qd25e ih m f args h
def qd28 : Res := bif Nat.beq f 24 then s24 ih m (args.getD 0 undefD) h else bodyD CF ih m f args h
theorem qd28e : qd28 ih m f args h = bodyD CF ih m f args h := by
  unfold qd28
  cases e : Nat.beq f 24 with
  | false => rfl
  | true => cases Nat.eq_of_beq_eq_true e; rw [cond_true]; exact (s24ok ih m args h).symm
def qd30 : Res := bif Nat.beq f 26 then s26 ih m (args.getD 0 undefD) h else bodyD CF ih m f args h
theorem qd30e : qd30 ih m f args h = bodyD CF ih m f args h := by
  unfold qd30
  cases e : Nat.beq f 26 with
  | false => rfl
  | true => cases Nat.eq_of_beq_eq_true e; rw [cond_true]; exact (s26ok ih m args h).symm
def qd31 : Res := bif Nat.beq f 27 then s27 ih m (args.getD 0 undefD) h else bodyD CF ih m f args h
theorem qd31e : qd31 ih m f args h = bodyD CF ih m f args h := by
  unfold qd31
  cases e : Nat.beq f 27 with
  | false => rfl
  | true => cases Nat.eq_of_beq_eq_true e; rw [cond_true]; exact (s27ok ih m args h).symm
def qd29 : Res := bif Nat.blt f 27 then qd30 ih m f args h else qd31 ih m f args h
theorem qd29e : qd29 ih m f args h = bodyD CF ih m f args h := by
  unfold qd29
  cases Nat.blt f 27 with
  | false => exact qd31e ih m f args h
  | true => exact qd30e ih m f args h
def qd27 : Res := bif Nat.blt f 26 then qd28 ih m f args h else qd29 ih m f args h
theorem qd27e : qd27 ih m f args h = bodyD CF ih m f args h := by
  unfold qd27
  cases Nat.blt f 26 with
  | false => exact qd29e ih m f args h
  | true => exact qd28e ih m f args h
def qd23 : Res := bif Nat.blt f 24 then qd24 ih m f args h else qd27 ih m f args h
theorem qd23e : qd23 ih m f args h = bodyD CF ih m f args h := by
  unfold qd23
  cases Nat.blt f 24 with
  | false => exact qd27e ih m f args h
  | true => exact qd24e ih m f args h
def qd34 : Res := bif Nat.beq f 28 then s28 ih m (args.getD 0 undefD) (args.getD 1 undefD) (args.getD 2 undefD) h else bodyD CF ih m f args h
theorem qd34e : qd34 ih m f args h = bodyD CF ih m f args h := by
  unfold qd34
  cases e : Nat.beq f 28 with
  | false => rfl
  | true => cases Nat.eq_of_beq_eq_true e; rw [cond_true]; exact (s28ok ih m args h).symm
def qd35 : Res := bif Nat.beq f 29 then s29 ih m (args.getD 0 undefD) h else bodyD CF ih m f args h
theorem qd35e : qd35 ih m f args h = bodyD CF ih m f args h := by
  unfold qd35
  cases e : Nat.beq f 29 with
  | false => rfl
  | true => cases Nat.eq_of_beq_eq_true e; rw [cond_true]; exact (s29ok ih m args h).symm
def qd33 : Res := bif Nat.blt f 29 then qd34 ih m f args h else qd35 ih m f args h
theorem qd33e : qd33 ih m f args h = bodyD CF ih m f args h := by
  unfold qd33
  cases Nat.blt f 29 with
  | false => exact qd35e ih m f args h
  | true => exact qd34e ih m f args h
def qd37 : Res := bif Nat.beq f 30 then s30 ih m (args.getD 0 undefD) h else bodyD CF ih m f args h
theorem qd37e : qd37 ih m f args h = bodyD CF ih m f args h := by
  unfold qd37
  cases e : Nat.beq f 30 with
  | false => rfl
  | true => cases Nat.eq_of_beq_eq_true e; rw [cond_true]; exact (s30ok ih m args h).symm
def qd39 : Res := bif Nat.beq f 31 then s31 ih m (args.getD 0 undefD) h else bodyD CF ih m f args h
theorem qd39e : qd39 ih m f args h = bodyD CF ih m f args h := by
  unfold qd39
  cases e : Nat.beq f 31 with
  | false => rfl
  | true => cases Nat.eq_of_beq_eq_true e; rw [cond_true]; exact (s31ok ih m args h).symm
def qd40 : Res := bif Nat.beq f 32 then s32 ih m (args.getD 0 undefD) (args.getD 1 undefD) (args.getD 2 undefD) h else bodyD CF ih m f args h
theorem qd40e : qd40 ih m f args h = bodyD CF ih m f args h := by
  unfold qd40
  cases e : Nat.beq f 32 with
  | false => rfl
  | true => cases Nat.eq_of_beq_eq_true e; rw [cond_true]; exact (s32ok ih m args h).symm
def qd38 : Res := bif Nat.blt f 32 then qd39 ih m f args h else qd40 ih m f args h
theorem qd38e : qd38 ih m f args h = bodyD CF ih m f args h := by
  unfold qd38
  cases Nat.blt f 32 with
  | false => exact qd40e ih m f args h
  | true => exact qd39e ih m f args h
def qd36 : Res := bif Nat.blt f 31 then qd37 ih m f args h else qd38 ih m f args h
theorem qd36e : qd36 ih m f args h = bodyD CF ih m f args h := by
  unfold qd36
  cases Nat.blt f 31 with
  | false => exact qd38e ih m f args h
  | true => exact qd37e ih m f args h
def qd32 : Res := bif Nat.blt f 30 then qd33 ih m f args h else qd36 ih m f args h
theorem qd32e : qd32 ih m f args h = bodyD CF ih m f args h := by
  unfold qd32
  cases Nat.blt f 30 with
  | false => exact qd36e ih m f args h
  | true => exact qd33e ih m f args h
def qd22 : Res := bif Nat.blt f 28 then qd23 ih m f args h else qd32 ih m f args h
theorem qd22e : qd22 ih m f args h = bodyD CF ih m f args h := by
  unfold qd22
  cases Nat.blt f 28 with
  | false => exact qd32e ih m f args h
  | true => exact qd23e ih m f args h
def qd2 : Res := bif Nat.blt f 20 then qd3 ih m f args h else qd22 ih m f args h
theorem qd2e : qd2 ih m f args h = bodyD CF ih m f args h := by
  unfold qd2
  cases Nat.blt f 20 with
  | false => exact qd22e ih m f args h
  | true => exact qd3e ih m f args h
def qd45 : Res := bif Nat.beq f 33 then s33 ih m (args.getD 0 undefD) h else bodyD CF ih m f args h
theorem qd45e : qd45 ih m f args h = bodyD CF ih m f args h := by
  unfold qd45
  cases e : Nat.beq f 33 with
  | false => rfl
  | true => cases Nat.eq_of_beq_eq_true e; rw [cond_true]; exact (s33ok ih m args h).symm
def qd46 : Res := bif Nat.beq f 34 then s34 ih m (args.getD 0 undefD) (args.getD 1 undefD) h else bodyD CF ih m f args h
theorem qd46e : qd46 ih m f args h = bodyD CF ih m f args h := by
  unfold qd46
  cases e : Nat.beq f 34 with
  | false => rfl
  | true => cases Nat.eq_of_beq_eq_true e; rw [cond_true]; exact (s34ok ih m args h).symm
def qd44 : Res := bif Nat.blt f 34 then qd45 ih m f args h else qd46 ih m f args h
theorem qd44e : qd44 ih m f args h = bodyD CF ih m f args h := by
  unfold qd44
  cases Nat.blt f 34 with
  | false => exact qd46e ih m f args h
  | true => exact qd45e ih m f args h
def qd48 : Res := bif Nat.beq f 35 then s35 ih m (args.getD 0 undefD) (args.getD 1 undefD) h else bodyD CF ih m f args h
theorem qd48e : qd48 ih m f args h = bodyD CF ih m f args h := by
  unfold qd48
  cases e : Nat.beq f 35 with
  | false => rfl
  | true => cases Nat.eq_of_beq_eq_true e; rw [cond_true]; exact (s35ok ih m args h).symm
def qd50 : Res := bif Nat.beq f 36 then s36 ih m (args.getD 0 undefD) (args.getD 1 undefD) h else bodyD CF ih m f args h
theorem qd50e : qd50 ih m f args h = bodyD CF ih m f args h := by
  unfold qd50
  cases e : Nat.beq f 36 with
  | false => rfl
  | true => cases Nat.eq_of_beq_eq_true e; rw [cond_true]; exact (s36ok ih m args h).symm
def qd51 : Res := bif Nat.beq f 37 then s37 ih m (args.getD 0 undefD) (args.getD 1 undefD) h else bodyD CF ih m f args h
theorem qd51e : qd51 ih m f args h = bodyD CF ih m f args h := by
  unfold qd51
  cases e : Nat.beq f 37 with
  | false => rfl
  | true => cases Nat.eq_of_beq_eq_true e; rw [cond_true]; exact (s37ok ih m args h).symm
def qd49 : Res := bif Nat.blt f 37 then qd50 ih m f args h else qd51 ih m f args h
theorem qd49e : qd49 ih m f args h = bodyD CF ih m f args h := by
  unfold qd49
  cases Nat.blt f 37 with
  | false => exact qd51e ih m f args h
  | true => exact qd50e ih m f args h
def qd47 : Res := bif Nat.blt f 36 then qd48 ih m f args h else qd49 ih m f args h
theorem qd47e : qd47 ih m f args h = bodyD CF ih m f args h := by
  unfold qd47
  cases Nat.blt f 36 with
  | false => exact qd49e ih m f args h
  | true => exact qd48e ih m f args h
def qd43 : Res := bif Nat.blt f 35 then qd44 ih m f args h else qd47 ih m f args h
theorem qd43e : qd43 ih m f args h = bodyD CF ih m f args h := by
  unfold qd43
  cases Nat.blt f 35 with
  | false => exact qd47e ih m f args h
  | true => exact qd44e ih m f args h
def qd54 : Res := bif Nat.beq f 38 then s38 ih m (args.getD 0 undefD) (args.getD 1 undefD) h else bodyD CF ih m f args h
theorem qd54e : qd54 ih m f args h = bodyD CF ih m f args h := by
  unfold qd54
  cases e : Nat.beq f 38 with
  | false => rfl
  | true => cases Nat.eq_of_beq_eq_true e; rw [cond_true]; exact (s38ok ih m args h).symm
def qd55 : Res := bif Nat.beq f 39 then s39 ih m (args.getD 0 undefD) (args.getD 1 undefD) h else bodyD CF ih m f args h
theorem qd55e : qd55 ih m f args h = bodyD CF ih m f args h := by
  unfold qd55
  cases e : Nat.beq f 39 with
  | false => rfl
  | true => cases Nat.eq_of_beq_eq_true e; rw [cond_true]; exact (s39ok ih m args h).symm
def qd53 : Res := bif Nat.blt f 39 then qd54 ih m f args h else qd55 ih m f args h
theorem qd53e : qd53 ih m f args h = bodyD CF ih m f args h := by
  unfold qd53
  cases Nat.blt f 39 with
  | false => exact qd55e ih m f args h
  | true => exact qd54e ih m f args h
def qd57 : Res := bif Nat.beq f 40 then s40 ih m (args.getD 0 undefD) h else bodyD CF ih m f args h
theorem qd57e : qd57 ih m f args h = bodyD CF ih m f args h := by
  unfold qd57
  cases e : Nat.beq f 40 with
  | false => rfl
  | true => cases Nat.eq_of_beq_eq_true e; rw [cond_true]; exact (s40ok ih m args h).symm
def qd59 : Res := bif Nat.beq f 41 then s41 ih m (args.getD 0 undefD) (args.getD 1 undefD) (args.getD 2 undefD) h else bodyD CF ih m f args h
theorem qd59e : qd59 ih m f args h = bodyD CF ih m f args h := by
  unfold qd59
  cases e : Nat.beq f 41 with
  | false => rfl
  | true => cases Nat.eq_of_beq_eq_true e; rw [cond_true]; exact (s41ok ih m args h).symm
def qd60 : Res := bif Nat.beq f 42 then s42 ih m (args.getD 0 undefD) h else bodyD CF ih m f args h
theorem qd60e : qd60 ih m f args h = bodyD CF ih m f args h := by
  unfold qd60
  cases e : Nat.beq f 42 with
  | false => rfl
  | true => cases Nat.eq_of_beq_eq_true e; rw [cond_true]; exact (s42ok ih m args h).symm
def qd58 : Res := bif Nat.blt f 42 then qd59 ih m f args h else qd60 ih m f args h
theorem qd58e : qd58 ih m f args h = bodyD CF ih m f args h := by
  unfold qd58
  cases Nat.blt f 42 with
  | false => exact qd60e ih m f args h
  | true => exact qd59e ih m f args h
def qd56 : Res := bif Nat.blt f 41 then qd57 ih m f args h else qd58 ih m f args h
theorem qd56e : qd56 ih m f args h = bodyD CF ih m f args h := by
  unfold qd56
  cases Nat.blt f 41 with
  | false => exact qd58e ih m f args h
  | true => exact qd57e ih m f args h
def qd52 : Res := bif Nat.blt f 40 then qd53 ih m f args h else qd56 ih m f args h
theorem qd52e : qd52 ih m f args h = bodyD CF ih m f args h := by
  unfold qd52
  cases Nat.blt f 40 with
  | false => exact qd56e ih m f args h
  | true => exact qd53e ih m f args h
def qd42 : Res := bif Nat.blt f 38 then qd43 ih m f args h else qd52 ih m f args h
theorem qd42e : qd42 ih m f args h = bodyD CF ih m f args h := by
  unfold qd42
  cases Nat.blt f 38 with
  | false => exact qd52e ih m f args h
  | true => exact qd43e ih m f args h
def qd64 : Res := bif Nat.beq f 43 then s43 ih m (args.getD 0 undefD) (args.getD 1 undefD) (args.getD 2 undefD) h else bodyD CF ih m f args h
theorem qd64e : qd64 ih m f args h = bodyD CF ih m f args h := by
  unfold qd64
  cases e : Nat.beq f 43 with
  | false => rfl
  | true => cases Nat.eq_of_beq_eq_true e; rw [cond_true]; exact (s43ok ih m args h).symm
def qd65 : Res := bif Nat.beq f 44 then s44 ih m (args.getD 0 undefD) (args.getD 1 undefD) (args.getD 2 undefD) h else bodyD CF ih m f args h
theorem qd65e : qd65 ih m f args h = bodyD CF ih m f args h := by
  unfold qd65
  cases e : Nat.beq f 44 with
  | false => rfl
  | true => cases Nat.eq_of_beq_eq_true e; rw [cond_true]; exact (s44ok ih m args h).symm
def qd63 : Res := bif Nat.blt f 44 then qd64 ih m f args h else qd65 ih m f args h
theorem qd63e : qd63 ih m f args h = bodyD CF ih m f args h := by
  unfold qd63
  cases Nat.blt f 44 with
  | false => exact qd65e ih m f args h
  | true => exact qd64e ih m f args h
def qd67 : Res := bif Nat.beq f 45 then s45 ih m (args.getD 0 undefD) h else bodyD CF ih m f args h
theorem qd67e : qd67 ih m f args h = bodyD CF ih m f args h := by
  unfold qd67
  cases e : Nat.beq f 45 with
  | false => rfl
  | true => cases Nat.eq_of_beq_eq_true e; rw [cond_true]; exact (s45ok ih m args h).symm
def qd69 : Res := bif Nat.beq f 46 then s46 ih m (args.getD 0 undefD) (args.getD 1 undefD) h else bodyD CF ih m f args h
theorem qd69e : qd69 ih m f args h = bodyD CF ih m f args h := by
  unfold qd69
  cases e : Nat.beq f 46 with
  | false => rfl
  | true => cases Nat.eq_of_beq_eq_true e; rw [cond_true]; exact (s46ok ih m args h).symm
def qd70 : Res := bif Nat.beq f 47 then s47 ih m (args.getD 0 undefD) (args.getD 1 undefD) (args.getD 2 undefD) h else bodyD CF ih m f args h
theorem qd70e : qd70 ih m f args h = bodyD CF ih m f args h := by
  unfold qd70
  cases e : Nat.beq f 47 with
  | false => rfl
  | true => cases Nat.eq_of_beq_eq_true e; rw [cond_true]; exact (s47ok ih m args h).symm
def qd68 : Res := bif Nat.blt f 47 then qd69 ih m f args h else qd70 ih m f args h
theorem qd68e : qd68 ih m f args h = bodyD CF ih m f args h := by
  unfold qd68
  cases Nat.blt f 47 with
  | false => exact qd70e ih m f args h
  | true => exact qd69e ih m f args h
def qd66 : Res := bif Nat.blt f 46 then qd67 ih m f args h else qd68 ih m f args h
theorem qd66e : qd66 ih m f args h = bodyD CF ih m f args h := by
  unfold qd66
  cases Nat.blt f 46 with
  | false => exact qd68e ih m f args h
  | true => exact qd67e ih m f args h
def qd62 : Res := bif Nat.blt f 45 then qd63 ih m f args h else qd66 ih m f args h
theorem qd62e : qd62 ih m f args h = bodyD CF ih m f args h := by
  unfold qd62
  cases Nat.blt f 45 with
  | false => exact qd66e ih m f args h
  | true => exact qd63e ih m f args h
def qd73 : Res := bif Nat.beq f 48 then s48 ih m (args.getD 0 undefD) h else bodyD CF ih m f args h
theorem qd73e : qd73 ih m f args h = bodyD CF ih m f args h := by
  unfold qd73
  cases e : Nat.beq f 48 with
  | false => rfl
  | true => cases Nat.eq_of_beq_eq_true e; rw [cond_true]; exact (s48ok ih m args h).symm
def qd74 : Res := bif Nat.beq f 49 then s49 ih m (args.getD 0 undefD) (args.getD 1 undefD) h else bodyD CF ih m f args h
theorem qd74e : qd74 ih m f args h = bodyD CF ih m f args h := by
  unfold qd74
  cases e : Nat.beq f 49 with
  | false => rfl
  | true => cases Nat.eq_of_beq_eq_true e; rw [cond_true]; exact (s49ok ih m args h).symm
def qd72 : Res := bif Nat.blt f 49 then qd73 ih m f args h else qd74 ih m f args h
theorem qd72e : qd72 ih m f args h = bodyD CF ih m f args h := by
  unfold qd72
  cases Nat.blt f 49 with
  | false => exact qd74e ih m f args h
  | true => exact qd73e ih m f args h
def qd76 : Res := bif Nat.beq f 50 then s50 ih m (args.getD 0 undefD) h else bodyD CF ih m f args h
theorem qd76e : qd76 ih m f args h = bodyD CF ih m f args h := by
  unfold qd76
  cases e : Nat.beq f 50 with
  | false => rfl
  | true => cases Nat.eq_of_beq_eq_true e; rw [cond_true]; exact (s50ok ih m args h).symm
def qd78 : Res := bif Nat.beq f 51 then s51 ih m (args.getD 0 undefD) (args.getD 1 undefD) (args.getD 2 undefD) h else bodyD CF ih m f args h
theorem qd78e : qd78 ih m f args h = bodyD CF ih m f args h := by
  unfold qd78
  cases e : Nat.beq f 51 with
  | false => rfl
  | true => cases Nat.eq_of_beq_eq_true e; rw [cond_true]; exact (s51ok ih m args h).symm
def qd79 : Res := bif Nat.beq f 52 then s52 ih m (args.getD 0 undefD) h else bodyD CF ih m f args h
theorem qd79e : qd79 ih m f args h = bodyD CF ih m f args h := by
  unfold qd79
  cases e : Nat.beq f 52 with
  | false => rfl
  | true => cases Nat.eq_of_beq_eq_true e; rw [cond_true]; exact (s52ok ih m args h).symm
def qd77 : Res := bif Nat.blt f 52 then qd78 ih m f args h else qd79 ih m f args h
theorem qd77e : qd77 ih m f args h = bodyD CF ih m f args h := by
  unfold qd77
  cases Nat.blt f 52 with
  | false => exact qd79e ih m f args h
  | true => exact qd78e ih m f args h
def qd75 : Res := bif Nat.blt f 51 then qd76 ih m f args h else qd77 ih m f args h
theorem qd75e : qd75 ih m f args h = bodyD CF ih m f args h := by
  unfold qd75
  cases Nat.blt f 51 with
  | false => exact qd77e ih m f args h
  | true => exact qd76e ih m f args h
def qd71 : Res := bif Nat.blt f 50 then qd72 ih m f args h else qd75 ih m f args h
theorem qd71e : qd71 ih m f args h = bodyD CF ih m f args h := by
  unfold qd71
  cases Nat.blt f 50 with
  | false => exact qd75e ih m f args h
  | true => exact qd72e ih m f args h
def qd61 : Res := bif Nat.blt f 48 then qd62 ih m f args h else qd71 ih m f args h
theorem qd61e : qd61 ih m f args h = bodyD CF ih m f args h := by
  unfold qd61
  cases Nat.blt f 48 with
  | false => exact qd71e ih m f args h
  | true => exact qd62e ih m f args h
def qd41 : Res := bif Nat.blt f 43 then qd42 ih m f args h else qd61 ih m f args h
theorem qd41e : qd41 ih m f args h = bodyD CF ih m f args h := by
  unfold qd41
  cases Nat.blt f 43 with
  | false => exact qd61e ih m f args h
  | true => exact qd42e ih m f args h
def qd1 : Res := bif Nat.blt f 33 then qd2 ih m f args h else qd41 ih m f args h
theorem qd1e : qd1 ih m f args h = bodyD CF ih m f args h := by
  unfold qd1
  cases Nat.blt f 33 with
  | false => exact qd41e ih m f args h
  | true => exact qd2e ih m f args h
def qd85 : Res := bif Nat.beq f 53 then s53 ih m (args.getD 0 undefD) h else bodyD CF ih m f args h
theorem qd85e : qd85 ih m f args h = bodyD CF ih m f args h := by
  unfold qd85
  cases e : Nat.beq f 53 with
  | false => rfl
  | true => cases Nat.eq_of_beq_eq_true e; rw [cond_true]; exact (s53ok ih m args h).symm
def qd86 : Res := bif Nat.beq f 54 then s54 ih m (args.getD 0 undefD) (args.getD 1 undefD) (args.getD 2 undefD) h else bodyD CF ih m f args h
theorem qd86e : qd86 ih m f args h = bodyD CF ih m f args h := by
  unfold qd86
  cases e : Nat.beq f 54 with
  | false => rfl
  | true => cases Nat.eq_of_beq_eq_true e; rw [cond_true]; exact (s54ok ih m args h).symm
def qd84 : Res := bif Nat.blt f 54 then qd85 ih m f args h else qd86 ih m f args h
theorem qd84e : qd84 ih m f args h = bodyD CF ih m f args h := by
  unfold qd84
  cases Nat.blt f 54 with
  | false => exact qd86e ih m f args h
  | true => exact qd85e ih m f args h
def qd88 : Res := bif Nat.beq f 55 then s55 ih m (args.getD 0 undefD) (args.getD 1 undefD) h else bodyD CF ih m f args h
theorem qd88e : qd88 ih m f args h = bodyD CF ih m f args h := by
  unfold qd88
  cases e : Nat.beq f 55 with
  | false => rfl
  | true => cases Nat.eq_of_beq_eq_true e; rw [cond_true]; exact (s55ok ih m args h).symm
def qd90 : Res := bif Nat.beq f 56 then s56 ih m (args.getD 0 undefD) (args.getD 1 undefD) (args.getD 2 undefD) h else bodyD CF ih m f args h
theorem qd90e : qd90 ih m f args h = bodyD CF ih m f args h := by
  unfold qd90
  cases e : Nat.beq f 56 with
  | false => rfl
  | true => cases Nat.eq_of_beq_eq_true e; rw [cond_true]; exact (s56ok ih m args h).symm
def qd91 : Res := bif Nat.beq f 57 then s57 ih m (args.getD 0 undefD) h else bodyD CF ih m f args h
theorem qd91e : qd91 ih m f args h = bodyD CF ih m f args h := by
  unfold qd91
  cases e : Nat.beq f 57 with
  | false => rfl
  | true => cases Nat.eq_of_beq_eq_true e; rw [cond_true]; exact (s57ok ih m args h).symm
def qd89 : Res := bif Nat.blt f 57 then qd90 ih m f args h else qd91 ih m f args h
theorem qd89e : qd89 ih m f args h = bodyD CF ih m f args h := by
  unfold qd89
  cases Nat.blt f 57 with
  | false => exact qd91e ih m f args h
  | true => exact qd90e ih m f args h
def qd87 : Res := bif Nat.blt f 56 then qd88 ih m f args h else qd89 ih m f args h
theorem qd87e : qd87 ih m f args h = bodyD CF ih m f args h := by
  unfold qd87
  cases Nat.blt f 56 with
  | false => exact qd89e ih m f args h
  | true => exact qd88e ih m f args h
def qd83 : Res := bif Nat.blt f 55 then qd84 ih m f args h else qd87 ih m f args h
theorem qd83e : qd83 ih m f args h = bodyD CF ih m f args h := by
  unfold qd83
  cases Nat.blt f 55 with
  | false => exact qd87e ih m f args h
  | true => exact qd84e ih m f args h
def qd94 : Res := bif Nat.beq f 58 then s58 ih m (args.getD 0 undefD) (args.getD 1 undefD) h else bodyD CF ih m f args h
theorem qd94e : qd94 ih m f args h = bodyD CF ih m f args h := by
  unfold qd94
  cases e : Nat.beq f 58 with
  | false => rfl
  | true => cases Nat.eq_of_beq_eq_true e; rw [cond_true]; exact (s58ok ih m args h).symm
def qd95 : Res := bif Nat.beq f 59 then s59 ih m (args.getD 0 undefD) (args.getD 1 undefD) h else bodyD CF ih m f args h
theorem qd95e : qd95 ih m f args h = bodyD CF ih m f args h := by
  unfold qd95
  cases e : Nat.beq f 59 with
  | false => rfl
  | true => cases Nat.eq_of_beq_eq_true e; rw [cond_true]; exact (s59ok ih m args h).symm
def qd93 : Res := bif Nat.blt f 59 then qd94 ih m f args h else qd95 ih m f args h
theorem qd93e : qd93 ih m f args h = bodyD CF ih m f args h := by
  unfold qd93
  cases Nat.blt f 59 with
  | false => exact qd95e ih m f args h
  | true => exact qd94e ih m f args h
def qd97 : Res := bif Nat.beq f 60 then s60 ih m (args.getD 0 undefD) (args.getD 1 undefD) h else bodyD CF ih m f args h
theorem qd97e : qd97 ih m f args h = bodyD CF ih m f args h := by
  unfold qd97
  cases e : Nat.beq f 60 with
  | false => rfl
  | true => cases Nat.eq_of_beq_eq_true e; rw [cond_true]; exact (s60ok ih m args h).symm
def qd99 : Res := bif Nat.beq f 61 then s61 ih m (args.getD 0 undefD) h else bodyD CF ih m f args h
theorem qd99e : qd99 ih m f args h = bodyD CF ih m f args h := by
  unfold qd99
  cases e : Nat.beq f 61 with
  | false => rfl
  | true => cases Nat.eq_of_beq_eq_true e; rw [cond_true]; exact (s61ok ih m args h).symm
def qd100 : Res := bif Nat.beq f 62 then s62 ih m (args.getD 0 undefD) (args.getD 1 undefD) h else bodyD CF ih m f args h
theorem qd100e : qd100 ih m f args h = bodyD CF ih m f args h := by
  unfold qd100
  cases e : Nat.beq f 62 with
  | false => rfl
  | true => cases Nat.eq_of_beq_eq_true e; rw [cond_true]; exact (s62ok ih m args h).symm
def qd98 : Res := bif Nat.blt f 62 then qd99 ih m f args h else qd100 ih m f args h
theorem qd98e : qd98 ih m f args h = bodyD CF ih m f args h := by
  unfold qd98
  cases Nat.blt f 62 with
  | false => exact qd100e ih m f args h
  | true => exact qd99e ih m f args h
def qd96 : Res := bif Nat.blt f 61 then qd97 ih m f args h else qd98 ih m f args h
theorem qd96e : qd96 ih m f args h = bodyD CF ih m f args h := by
  unfold qd96
  cases Nat.blt f 61 with
  | false => exact qd98e ih m f args h
  | true => exact qd97e ih m f args h
def qd92 : Res := bif Nat.blt f 60 then qd93 ih m f args h else qd96 ih m f args h
theorem qd92e : qd92 ih m f args h = bodyD CF ih m f args h := by
  unfold qd92
  cases Nat.blt f 60 with
  | false => exact qd96e ih m f args h
  | true => exact qd93e ih m f args h
def qd82 : Res := bif Nat.blt f 58 then qd83 ih m f args h else qd92 ih m f args h
theorem qd82e : qd82 ih m f args h = bodyD CF ih m f args h := by
  unfold qd82
  cases Nat.blt f 58 with
  | false => exact qd92e ih m f args h
  | true => exact qd83e ih m f args h
def qd104 : Res := bif Nat.beq f 63 then s63 ih m (args.getD 0 undefD) (args.getD 1 undefD) h else bodyD CF ih m f args h
theorem qd104e : qd104 ih m f args h = bodyD CF ih m f args h := by
  unfold qd104
  cases e : Nat.beq f 63 with
  | false => rfl
  | true => cases Nat.eq_of_beq_eq_true e; rw [cond_true]; exact (s63ok ih m args h).symm
def qd105 : Res := bif Nat.beq f 64 then s64 ih m (args.getD 0 undefD) (args.getD 1 undefD) h else bodyD CF ih m f args h
theorem qd105e : qd105 ih m f args h = bodyD CF ih m f args h := by
  unfold qd105
  cases e : Nat.beq f 64 with
  | false => rfl
  | true => cases Nat.eq_of_beq_eq_true e; rw [cond_true]; exact (s64ok ih m args h).symm
def qd103 : Res := bif Nat.blt f 64 then qd104 ih m f args h else qd105 ih m f args h
theorem qd103e : qd103 ih m f args h = bodyD CF ih m f args h := by
  unfold qd103
  cases Nat.blt f 64 with
  | false => exact qd105e ih m f args h
  | true => exact qd104e ih m f args h
def qd107 : Res := bif Nat.beq f 65 then s65 ih m (args.getD 0 undefD) h else bodyD CF ih m f args h
theorem qd107e : qd107 ih m f args h = bodyD CF ih m f args h := by
  unfold qd107
  cases e : Nat.beq f 65 with
  | false => rfl
  | true => cases Nat.eq_of_beq_eq_true e; rw [cond_true]; exact (s65ok ih m args h).symm
def qd109 : Res := bif Nat.beq f 66 then s66 ih m (args.getD 0 undefD) h else bodyD CF ih m f args h
theorem qd109e : qd109 ih m f args h = bodyD CF ih m f args h := by
  unfold qd109
  cases e : Nat.beq f 66 with
  | false => rfl
  | true => cases Nat.eq_of_beq_eq_true e; rw [cond_true]; exact (s66ok ih m args h).symm
def qd110 : Res := bif Nat.beq f 67 then s67 ih m (args.getD 0 undefD) h else bodyD CF ih m f args h
theorem qd110e : qd110 ih m f args h = bodyD CF ih m f args h := by
  unfold qd110
  cases e : Nat.beq f 67 with
  | false => rfl
  | true => cases Nat.eq_of_beq_eq_true e; rw [cond_true]; exact (s67ok ih m args h).symm
def qd108 : Res := bif Nat.blt f 67 then qd109 ih m f args h else qd110 ih m f args h
theorem qd108e : qd108 ih m f args h = bodyD CF ih m f args h := by
  unfold qd108
  cases Nat.blt f 67 with
  | false => exact qd110e ih m f args h
  | true => exact qd109e ih m f args h
def qd106 : Res := bif Nat.blt f 66 then qd107 ih m f args h else qd108 ih m f args h
theorem qd106e : qd106 ih m f args h = bodyD CF ih m f args h := by
  unfold qd106
  cases Nat.blt f 66 with
  | false => exact qd108e ih m f args h
  | true => exact qd107e ih m f args h
def qd102 : Res := bif Nat.blt f 65 then qd103 ih m f args h else qd106 ih m f args h
theorem qd102e : qd102 ih m f args h = bodyD CF ih m f args h := by
  unfold qd102
  cases Nat.blt f 65 with
  | false => exact qd106e ih m f args h
  | true => exact qd103e ih m f args h
def qd113 : Res := bif Nat.beq f 68 then s68 ih m (args.getD 0 undefD) h else bodyD CF ih m f args h
theorem qd113e : qd113 ih m f args h = bodyD CF ih m f args h := by
  unfold qd113
  cases e : Nat.beq f 68 with
  | false => rfl
  | true => cases Nat.eq_of_beq_eq_true e; rw [cond_true]; exact (s68ok ih m args h).symm
def qd114 : Res := bif Nat.beq f 69 then s69 ih m (args.getD 0 undefD) h else bodyD CF ih m f args h
theorem qd114e : qd114 ih m f args h = bodyD CF ih m f args h := by
  unfold qd114
  cases e : Nat.beq f 69 with
  | false => rfl
  | true => cases Nat.eq_of_beq_eq_true e; rw [cond_true]; exact (s69ok ih m args h).symm
def qd112 : Res := bif Nat.blt f 69 then qd113 ih m f args h else qd114 ih m f args h
theorem qd112e : qd112 ih m f args h = bodyD CF ih m f args h := by
  unfold qd112
  cases Nat.blt f 69 with
  | false => exact qd114e ih m f args h
  | true => exact qd113e ih m f args h
def qd116 : Res := bif Nat.beq f 70 then s70 ih m (args.getD 0 undefD) h else bodyD CF ih m f args h
theorem qd116e : qd116 ih m f args h = bodyD CF ih m f args h := by
  unfold qd116
  cases e : Nat.beq f 70 with
  | false => rfl
  | true => cases Nat.eq_of_beq_eq_true e; rw [cond_true]; exact (s70ok ih m args h).symm
def qd118 : Res := bif Nat.beq f 71 then s71 ih m (args.getD 0 undefD) h else bodyD CF ih m f args h
theorem qd118e : qd118 ih m f args h = bodyD CF ih m f args h := by
  unfold qd118
  cases e : Nat.beq f 71 with
  | false => rfl
  | true => cases Nat.eq_of_beq_eq_true e; rw [cond_true]; exact (s71ok ih m args h).symm
def qd119 : Res := bif Nat.beq f 72 then s72 ih m (args.getD 0 undefD) h else bodyD CF ih m f args h
theorem qd119e : qd119 ih m f args h = bodyD CF ih m f args h := by
  unfold qd119
  cases e : Nat.beq f 72 with
  | false => rfl
  | true => cases Nat.eq_of_beq_eq_true e; rw [cond_true]; exact (s72ok ih m args h).symm
def qd117 : Res := bif Nat.blt f 72 then qd118 ih m f args h else qd119 ih m f args h
theorem qd117e : qd117 ih m f args h = bodyD CF ih m f args h := by
  unfold qd117
  cases Nat.blt f 72 with
  | false => exact qd119e ih m f args h
  | true => exact qd118e ih m f args h
def qd115 : Res := bif Nat.blt f 71 then qd116 ih m f args h else qd117 ih m f args h
theorem qd115e : qd115 ih m f args h = bodyD CF ih m f args h := by
  unfold qd115
  cases Nat.blt f 71 with
  | false => exact qd117e ih m f args h
  | true => exact qd116e ih m f args h
def qd111 : Res := bif Nat.blt f 70 then qd112 ih m f args h else qd115 ih m f args h
theorem qd111e : qd111 ih m f args h = bodyD CF ih m f args h := by
  unfold qd111
  cases Nat.blt f 70 with
  | false => exact qd115e ih m f args h
  | true => exact qd112e ih m f args h
def qd101 : Res := bif Nat.blt f 68 then qd102 ih m f args h else qd111 ih m f args h
theorem qd101e : qd101 ih m f args h = bodyD CF ih m f args h := by
  unfold qd101
  cases Nat.blt f 68 with
  | false => exact qd111e ih m f args h
  | true => exact qd102e ih m f args h
def qd81 : Res := bif Nat.blt f 63 then qd82 ih m f args h else qd101 ih m f args h
theorem qd81e : qd81 ih m f args h = bodyD CF ih m f args h := by
  unfold qd81
  cases Nat.blt f 63 with
  | false => exact qd101e ih m f args h
  | true => exact qd82e ih m f args h
def qd124 : Res := bif Nat.beq f 73 then s73 ih m (args.getD 0 undefD) h else bodyD CF ih m f args h
theorem qd124e : qd124 ih m f args h = bodyD CF ih m f args h := by
  unfold qd124
  cases e : Nat.beq f 73 with
  | false => rfl
  | true => cases Nat.eq_of_beq_eq_true e; rw [cond_true]; exact (s73ok ih m args h).symm
def qd125 : Res := bif Nat.beq f 74 then s74 ih m (args.getD 0 undefD) h else bodyD CF ih m f args h
theorem qd125e : qd125 ih m f args h = bodyD CF ih m f args h := by
  unfold qd125
  cases e : Nat.beq f 74 with
  | false => rfl
  | true => cases Nat.eq_of_beq_eq_true e; rw [cond_true]; exact (s74ok ih m args h).symm
def qd123 : Res := bif Nat.blt f 74 then qd124 ih m f args h else qd125 ih m f args h
theorem qd123e : qd123 ih m f args h = bodyD CF ih m f args h := by
  unfold qd123
  cases Nat.blt f 74 with
  | false => exact qd125e ih m f args h
  | true => exact qd124e ih m f args h
def qd127 : Res := bif Nat.beq f 75 then s75 ih m (args.getD 0 undefD) h else bodyD CF ih m f args h
theorem qd127e : qd127 ih m f args h = bodyD CF ih m f args h := by
  unfold qd127
  cases e : Nat.beq f 75 with
  | false => rfl
  | true => cases Nat.eq_of_beq_eq_true e; rw [cond_true]; exact (s75ok ih m args h).symm
def qd129 : Res := bif Nat.beq f 76 then s76 ih m (args.getD 0 undefD) h else bodyD CF ih m f args h
theorem qd129e : qd129 ih m f args h = bodyD CF ih m f args h := by
  unfold qd129
  cases e : Nat.beq f 76 with
  | false => rfl
  | true => cases Nat.eq_of_beq_eq_true e; rw [cond_true]; exact (s76ok ih m args h).symm
def qd130 : Res := bif Nat.beq f 78 then s78 ih m (args.getD 0 undefD) h else bodyD CF ih m f args h
theorem qd130e : qd130 ih m f args h = bodyD CF ih m f args h := by
  unfold qd130
  cases e : Nat.beq f 78 with
  | false => rfl
  | true => cases Nat.eq_of_beq_eq_true e; rw [cond_true]; exact (s78ok ih m args h).symm
def qd128 : Res := bif Nat.blt f 78 then qd129 ih m f args h else qd130 ih m f args h
theorem qd128e : qd128 ih m f args h = bodyD CF ih m f args h := by
  unfold qd128
  cases Nat.blt f 78 with
  | false => exact qd130e ih m f args h
  | true => exact qd129e ih m f args h
def qd126 : Res := bif Nat.blt f 76 then qd127 ih m f args h else qd128 ih m f args h
theorem qd126e : qd126 ih m f args h = bodyD CF ih m f args h := by
  unfold qd126
  cases Nat.blt f 76 with
  | false => exact qd128e ih m f args h
  | true => exact qd127e ih m f args h
def qd122 : Res := bif Nat.blt f 75 then qd123 ih m f args h else qd126 ih m f args h
theorem qd122e : qd122 ih m f args h = bodyD CF ih m f args h := by
  unfold qd122
  cases Nat.blt f 75 with
  | false => exact qd126e ih m f args h
  | true => exact qd123e ih m f args h
def qd133 : Res := bif Nat.beq f 79 then s79 ih m (args.getD 0 undefD) h else bodyD CF ih m f args h
theorem qd133e : qd133 ih m f args h = bodyD CF ih m f args h := by
  unfold qd133
  cases e : Nat.beq f 79 with
  | false => rfl
  | true => cases Nat.eq_of_beq_eq_true e; rw [cond_true]; exact (s79ok ih m args h).symm
def qd134 : Res := bif Nat.beq f 80 then s80 ih m (args.getD 0 undefD) (args.getD 1 undefD) h else bodyD CF ih m f args h
theorem qd134e : qd134 ih m f args h = bodyD CF ih m f args h := by
  unfold qd134
  cases e : Nat.beq f 80 with
  | false => rfl
  | true => cases Nat.eq_of_beq_eq_true e; rw [cond_true]; exact (s80ok ih m args h).symm
def qd132 : Res := bif Nat.blt f 80 then qd133 ih m f args h else qd134 ih m f args h
theorem qd132e : qd132 ih m f args h = bodyD CF ih m f args h := by
  unfold qd132
  cases Nat.blt f 80 with
  | false => exact qd134e ih m f args h
  | true => exact qd133e ih m f args h
def qd136 : Res := bif Nat.beq f 81 then s81 ih m (args.getD 0 undefD) (args.getD 1 undefD) h else bodyD CF ih m f args h
theorem qd136e : qd136 ih m f args h = bodyD CF ih m f args h := by
  unfold qd136
  cases e : Nat.beq f 81 with
  | false => rfl
  | true => cases Nat.eq_of_beq_eq_true e; rw [cond_true]; exact (s81ok ih m args h).symm
def qd138 : Res := bif Nat.beq f 82 then s82 ih m (args.getD 0 undefD) (args.getD 1 undefD) h else bodyD CF ih m f args h
theorem qd138e : qd138 ih m f args h = bodyD CF ih m f args h := by
  unfold qd138
  cases e : Nat.beq f 82 with
  | false => rfl
  | true => cases Nat.eq_of_beq_eq_true e; rw [cond_true]; exact (s82ok ih m args h).symm
def qd139 : Res := bif Nat.beq f 83 then s83 ih m (args.getD 0 undefD) h else bodyD CF ih m f args h
theorem qd139e : qd139 ih m f args h = bodyD CF ih m f args h := by
  unfold qd139
  cases e : Nat.beq f 83 with
  | false => rfl
  | true => cases Nat.eq_of_beq_eq_true e; rw [cond_true]; exact (s83ok ih m args h).symm
def qd137 : Res := bif Nat.blt f 83 then qd138 ih m f args h else qd139 ih m f args h
theorem qd137e : qd137 ih m f args h = bodyD CF ih m f args h := by
  unfold qd137
  cases Nat.blt f 83 with
  | false => exact qd139e ih m f args h
  | true => exact qd138e ih m f args h
def qd135 : Res := bif Nat.blt f 82 then qd136 ih m f args h else qd137 ih m f args h
theorem qd135e : qd135 ih m f args h = bodyD CF ih m f args h := by
  unfold qd135
  cases Nat.blt f 82 with
  | false => exact qd137e ih m f args h
  | true => exact qd136e ih m f args h
def qd131 : Res := bif Nat.blt f 81 then qd132 ih m f args h else qd135 ih m f args h
theorem qd131e : qd131 ih m f args h = bodyD CF ih m f args h := by
  unfold qd131
  cases Nat.blt f 81 with
  | false => exact qd135e ih m f args h
  | true => exact qd132e ih m f args h
def qd121 : Res := bif Nat.blt f 79 then qd122 ih m f args h else qd131 ih m f args h
theorem qd121e : qd121 ih m f args h = bodyD CF ih m f args h := by
  unfold qd121
  cases Nat.blt f 79 with
  | false => exact qd131e ih m f args h
  | true => exact qd122e ih m f args h
def qd143 : Res := bif Nat.beq f 84 then s84 ih m (args.getD 0 undefD) h else bodyD CF ih m f args h
theorem qd143e : qd143 ih m f args h = bodyD CF ih m f args h := by
  unfold qd143
  cases e : Nat.beq f 84 with
  | false => rfl
  | true => cases Nat.eq_of_beq_eq_true e; rw [cond_true]; exact (s84ok ih m args h).symm
def qd144 : Res := bif Nat.beq f 85 then s85 ih m (args.getD 0 undefD) h else bodyD CF ih m f args h
theorem qd144e : qd144 ih m f args h = bodyD CF ih m f args h := by
  unfold qd144
  cases e : Nat.beq f 85 with
  | false => rfl
  | true => cases Nat.eq_of_beq_eq_true e; rw [cond_true]; exact (s85ok ih m args h).symm
def qd142 : Res := bif Nat.blt f 85 then qd143 ih m f args h else qd144 ih m f args h
theorem qd142e : qd142 ih m f args h = bodyD CF ih m f args h := by
  unfold qd142
  cases Nat.blt f 85 with
  | false => exact qd144e ih m f args h
  | true => exact qd143e ih m f args h
def qd146 : Res := bif Nat.beq f 86 then s86 ih m (args.getD 0 undefD) (args.getD 1 undefD) h else bodyD CF ih m f args h
theorem qd146e : qd146 ih m f args h = bodyD CF ih m f args h := by
  unfold qd146
  cases e : Nat.beq f 86 with
  | false => rfl
  | true => cases Nat.eq_of_beq_eq_true e; rw [cond_true]; exact (s86ok ih m args h).symm
def qd148 : Res := bif Nat.beq f 87 then s87 ih m (args.getD 0 undefD) h else bodyD CF ih m f args h
theorem qd148e : qd148 ih m f args h = bodyD CF ih m f args h := by
  unfold qd148
  cases e : Nat.beq f 87 with
  | false => rfl
  | true => cases Nat.eq_of_beq_eq_true e; rw [cond_true]; exact (s87ok ih m args h).symm
def qd149 : Res := bif Nat.beq f 88 then s88 ih m (args.getD 0 undefD) (args.getD 1 undefD) h else bodyD CF ih m f args h
theorem qd149e : qd149 ih m f args h = bodyD CF ih m f args h := by
  unfold qd149
  cases e : Nat.beq f 88 with
  | false => rfl
  | true => cases Nat.eq_of_beq_eq_true e; rw [cond_true]; exact (s88ok ih m args h).symm
def qd147 : Res := bif Nat.blt f 88 then qd148 ih m f args h else qd149 ih m f args h
theorem qd147e : qd147 ih m f args h = bodyD CF ih m f args h := by
  unfold qd147
  cases Nat.blt f 88 with
  | false => exact qd149e ih m f args h
  | true => exact qd148e ih m f args h
def qd145 : Res := bif Nat.blt f 87 then qd146 ih m f args h else qd147 ih m f args h
theorem qd145e : qd145 ih m f args h = bodyD CF ih m f args h := by
  unfold qd145
  cases Nat.blt f 87 with
  | false => exact qd147e ih m f args h
  | true => exact qd146e ih m f args h
def qd141 : Res := bif Nat.blt f 86 then qd142 ih m f args h else qd145 ih m f args h
theorem qd141e : qd141 ih m f args h = bodyD CF ih m f args h := by
  unfold qd141
  cases Nat.blt f 86 with
  | false => exact qd145e ih m f args h
  | true => exact qd142e ih m f args h
def qd152 : Res := bif Nat.beq f 89 then s89 ih m (args.getD 0 undefD) h else bodyD CF ih m f args h
theorem qd152e : qd152 ih m f args h = bodyD CF ih m f args h := by
  unfold qd152
  cases e : Nat.beq f 89 with
  | false => rfl
  | true => cases Nat.eq_of_beq_eq_true e; rw [cond_true]; exact (s89ok ih m args h).symm
def qd153 : Res := bif Nat.beq f 90 then s90 ih m (args.getD 0 undefD) h else bodyD CF ih m f args h
theorem qd153e : qd153 ih m f args h = bodyD CF ih m f args h := by
  unfold qd153
  cases e : Nat.beq f 90 with
  | false => rfl
  | true => cases Nat.eq_of_beq_eq_true e; rw [cond_true]; exact (s90ok ih m args h).symm
def qd151 : Res := bif Nat.blt f 90 then qd152 ih m f args h else qd153 ih m f args h
theorem qd151e : qd151 ih m f args h = bodyD CF ih m f args h := by
  unfold qd151
  cases Nat.blt f 90 with
  | false => exact qd153e ih m f args h
  | true => exact qd152e ih m f args h
def qd155 : Res := bif Nat.beq f 91 then s91 ih m (args.getD 0 undefD) h else bodyD CF ih m f args h
theorem qd155e : qd155 ih m f args h = bodyD CF ih m f args h := by
  unfold qd155
  cases e : Nat.beq f 91 with
  | false => rfl
  | true => cases Nat.eq_of_beq_eq_true e; rw [cond_true]; exact (s91ok ih m args h).symm
def qd157 : Res := bif Nat.beq f 92 then s92 ih m (args.getD 0 undefD) h else bodyD CF ih m f args h
theorem qd157e : qd157 ih m f args h = bodyD CF ih m f args h := by
  unfold qd157
  cases e : Nat.beq f 92 with
  | false => rfl
  | true => cases Nat.eq_of_beq_eq_true e; rw [cond_true]; exact (s92ok ih m args h).symm
def qd158 : Res := bif Nat.beq f 93 then s93 ih m (args.getD 0 undefD) h else bodyD CF ih m f args h
theorem qd158e : qd158 ih m f args h = bodyD CF ih m f args h := by
  unfold qd158
  cases e : Nat.beq f 93 with
  | false => rfl
  | true => cases Nat.eq_of_beq_eq_true e; rw [cond_true]; exact (s93ok ih m args h).symm
def qd156 : Res := bif Nat.blt f 93 then qd157 ih m f args h else qd158 ih m f args h
theorem qd156e : qd156 ih m f args h = bodyD CF ih m f args h := by
  unfold qd156
  cases Nat.blt f 93 with
  | false => exact qd158e ih m f args h
  | true => exact qd157e ih m f args h
def qd154 : Res := bif Nat.blt f 92 then qd155 ih m f args h else qd156 ih m f args h
theorem qd154e : qd154 ih m f args h = bodyD CF ih m f args h := by
  unfold qd154
  cases Nat.blt f 92 with
  | false => exact qd156e ih m f args h
  | true => exact qd155e ih m f args h
def qd150 : Res := bif Nat.blt f 91 then qd151 ih m f args h else qd154 ih m f args h
theorem qd150e : qd150 ih m f args h = bodyD CF ih m f args h := by
  unfold qd150
  cases Nat.blt f 91 with
  | false => exact qd154e ih m f args h
  | true => exact qd151e ih m f args h
def qd140 : Res := bif Nat.blt f 89 then qd141 ih m f args h else qd150 ih m f args h
theorem qd140e : qd140 ih m f args h = bodyD CF ih m f args h := by
  unfold qd140
  cases Nat.blt f 89 with
  | false => exact qd150e ih m f args h
  | true => exact qd141e ih m f args h
def qd120 : Res := bif Nat.blt f 84 then qd121 ih m f args h else qd140 ih m f args h
theorem qd120e : qd120 ih m f args h = bodyD CF ih m f args h := by
  unfold qd120
  cases Nat.blt f 84 with
  | false => exact qd140e ih m f args h
  | true => exact qd121e ih m f args h
def qd80 : Res := bif Nat.blt f 73 then qd81 ih m f args h else qd120 ih m f args h
theorem qd80e : qd80 ih m f args h = bodyD CF ih m f args h := by
  unfold qd80
  cases Nat.blt f 73 with
  | false => exact qd120e ih m f args h
  | true => exact qd81e ih m f args h
def qd0 : Res := bif Nat.blt f 53 then qd1 ih m f args h else qd80 ih m f args h
theorem qd0e : qd0 ih m f args h = bodyD CF ih m f args h := by
  unfold qd0
  cases Nat.blt f 53 with
  | false => exact qd80e ih m f args h
  | true => exact qd1e ih m f args h

end
/-- One level of calls: the functions one by one. -/
def shB (ih : RT) (m : Nat) (f : FuncId) (args : List DV) (h : Hp) : Res := qd0 ih m f args h
theorem shB_eq (ih : RT) (m : Nat) (f : FuncId) (args : List DV) (h : Hp) : shB ih m f args h = bodyD CF ih m f args h := qd0e ih m f args h
def shD (n : Nat) : FuncId → List DV → Hp → Res :=
  Nat.rec (motive := fun _ => FuncId → List DV → Hp → Res) (fun _ _ _ => none) (fun m ih => shB ih m) n
theorem shD_eq : ∀ n, shD n = fnD CF n
  | 0 => rfl
  | n + 1 => by
    have e : shD (n + 1) = shB (shD n) n := rfl
    have e' : fnD CF (n + 1) = bodyD CF (fnD CF n) n := rfl
    rw [e, e', ← shD_eq n]
    funext f args h
    exact shB_eq _ _ _ _ _

end
end Go.Dd

/- Dd, part R: from a run of Dd to a call of the program. -/
set_option linter.unusedVariables false
set_option linter.unusedSimpArgs false
set_option maxRecDepth 100000
namespace Go.Dd
open Go.Proofs Go.Lib Go.RowKit

theorem idxGo_eq (c : Nat) (hc : c < 256) : ∀ (l : List UInt8) (i : Nat), idxGo c (l.map (·.toNat)) i = if indexByte l c.toUInt8 = -1 then -1 else indexByte l c.toUInt8 + i
  | [], i => rfl
  | b :: l, i => by
    have hb : Nat.beq b.toNat c = (b == c.toUInt8) := by
      rw [Bool.eq_iff_iff]
      constructor
      · intro h
        have := Nat.eq_of_beq_eq_true h
        simp [← this]
      · intro h
        have h2 : b = c.toUInt8 := by simpa using h
        rw [h2]
        have : (c.toUInt8).toNat = c := by simp [Nat.toUInt8]; omega
        rw [this]; simp
    show (bif Nat.beq b.toNat c then Int.ofNat i else idxGo c (l.map (·.toNat)) (i + 1)) = _
    rw [hb]
    unfold indexByte
    cases h : (b == c.toUInt8) with
    | true => simp
    | false =>
      have ih := idxGo_eq c hc l (i + 1)
      have hge := indexByte_ge l c.toUInt8
      simp only [cond_false, Bool.false_eq_true, if_false]
      rw [ih]
      by_cases h1 : indexByte l c.toUInt8 = -1
      · simp [h1]
      · simp only [h1, if_false, beq_iff_eq]
        rw [if_neg (by omega)]
        omega

theorem idx_ok (G : Gd) : FnOk CF.P G 77 idxF := by
  intro args h v h1 hr ρ w args' H hargs
  unfold idxF at hr
  split at hr <;> (try (cases hr; done))
  rename_i l c
  cases hc : Nat.blt c 256 with
  | false => rw [hc] at hr; cases hr
  | true =>
    rw [hc] at hr
    have hc' : c < 256 := by simpa using hc
    simp only [cond_true, Option.some.injEq, Prod.mk.injEq] at hr
    obtain ⟨rfl, rfl⟩ := hr
    obtain ⟨a⟩ := args'
    cases hargs with
    | cons x x' l1 l1' hx hxs =>
    cases hxs with
    | cons y y' l2 l2' hy hys =>
    cases hys
    cases hx with
    | s l bs hbs =>
    cases hy with
    | i k n =>
    refine .inr ⟨ρ, w, .int .i64 (indexByte bs.data.toList c.toUInt8), ?_, Ex.refl _ _, ?_, H, Kp.refl _ _⟩
    · rw [run_callFunc_extern (fn := Try.f77) (e := Extern.BytealgIndexByte.indexByte) (by kernel_rfl) (by kernel_rfl) (by kernel_rfl) (by kernel_rfl) (by kernel_rfl)]
      rw [run_indexByteString bs (Int.ofNat c) w]
      rfl
    · have e := idxGo_eq c hc' bs.data.toList 0
      rw [hbs] at e
      have e2 : idxGo c l 0 = indexByte bs.data.toList c.toUInt8 := by
        rw [e]
        split
        · rename_i h; exact h.symm
        · simp
      rw [e2]
      exact .i _ _

theorem CF_own (G : Gd) (g : FuncId) (F : List DV → Hp → Res) (h : CF.I g = some F) : FnOk CF.P G g F := by
  have e : CF.I g = bif Nat.beq g 77 then some idxF else none := rfl
  rw [e] at h
  cases hg : Nat.beq g 77 with
  | false => rw [hg] at h; cases h
  | true =>
    rw [hg] at h
    cases h
    cases Nat.eq_of_beq_eq_true hg
    exact idx_ok G

theorem names_all : (Try.prog.funcs.toList.all fun fn => !(fn.name == "runtime.NumGoroutine")) = true := by kernel_rfl

theorem Try_ok : POk CF.P where
  mixed := by kernel_rfl
  names := by
    intro f fn hf
    have h := List.all_eq_true.1 names_all fn (by
      have : Try.prog.funcs[f]? = some fn := hf
      obtain ⟨hlt, rfl⟩ := Array.getElem?_eq_some_iff.1 this
      simp)
    simpa using h

def h00 : Hp := ⟨.h, .e⟩

/-- A run of Dd from nothing is a call of the program. -/
theorem top {n : Nat} {f : FuncId} {args : List DV} {v : DV} {h1 : Hp} (hr : shD n f args h00 = some (v, h1)) (fn : Func) (hf : Try.prog.funcs[f]? = some fn) (hb : fn.body.isSome = true)
    (w : World) (args' : Array Value) (hargs : VRs (fun _ => none) args args'.toList) :
    Calls Try.prog f args' w fun e w' => ∃ ρ' v', e = .returned v' ∧ VR ρ' v v' ∧ HR ⟨w.heap.size, fun _ => False, 0⟩ ρ' h1 w' ∧ Below w.heap.size w w' := by
  rw [shD_eq] at hr
  have H : HR ⟨w.heap.size, fun _ => False, 0⟩ (fun _ => none) h00 w := by
    constructor
    · exact ⟨Nat.le_refl _, fun _ h => h.elim⟩
    · exact Nat.zero_le _
    · rintro b a ⟨k, l, L, _, h2, _⟩; cases h2
    · intro b o h; cases b <;> cases h
    · intro b L h; cases h
    · intro b k l L i v h h2; cases h2
    · intro b l L es j h h2; cases h2
    · rintro b a ⟨k, l, L, _, h2, _⟩; cases h2
    · rintro b b' a ⟨k, l, L, _, h2, _⟩; cases h2
    · intro b l L h h2; cases h2
    · intro b es l i v h; cases b <;> cases h
    · intro b s pos L h h2; cases h2
    · intro b s pos b' s' pos' L L' h h' h2; cases h2
  rcases fnD_ok (C := CF) Try_ok CF_own n _ f args h00 v h1 hr _ w args' H hargs with ⟨_, h⟩ | ⟨ρ', w', v', h, _⟩
  · refine h.mono ?_
    rintro e w' ⟨ρ', v', h1, h2, h3, h4, h5⟩
    exact ⟨ρ', v', h1, h3, h4, h5.low⟩
  · exfalso
    have hf' : CF.P.funcs[f]? = some fn := hf
    have hn : ¬ fn.name = "runtime.NumGoroutine" := by simpa using Try_ok.names f fn hf'
    have hbn : fn.body ≠ none := by intro e; rw [e] at hb; cases hb
    unfold callFunc at h
    simp [hf', hn, hbn] at h

end Go.Dd

/- Dd, part U: the value of a result. -/
namespace Go.Dd

noncomputable def val (r : Res) : DV := Option.rec (motive := fun _ => DV) .u (fun p => p.1) r

theorem val_b {r : Res} {b : Bool} (h : val r = .b b) : ∃ h1, r = some (.b b, h1) := by
  cases r with
  | none => cases h
  | some p =>
    obtain ⟨v, h1⟩ := p
    have : v = .b b := h
    exact ⟨h1, by rw [this]⟩

end Go.Dd

/- Dd, part S1: heaps that have grown; nodes in a heap of Dd; lists of strings are compared. -/
set_option linter.unusedVariables false
set_option linter.unusedSimpArgs false
set_option maxRecDepth 100000
namespace Go.Dd
open Go.Proofs

def Wf (h : Hp) : Prop := ∀ b o, h.bl.get b = some o → b.toNat < h.next.toNat
noncomputable def nw (o : Ob) (h : Hp) : Hp := ⟨h.next.succ, Tr.set o h.next h.bl⟩

theorem new_a (cs : List DV) (h : Hp) : pNew cs h = some (.p h.next 0, nw (.row .ex cs) h) := rfl
theorem str_eq (x y : List Nat) (h : Hp) : pStr .eql (.s x) (.s y) h = some (.b (eqD x y), h) := rfl
theorem str_ne (x y : List Nat) (h : Hp) : pStr .neq (.s x) (.s y) h = some (.b (!eqD x y), h) := rfl
theorem wrap64s (n : Int) (h1 : -9223372036854775808 ≤ n) (h2 : n ≤ 9223372036854775807) : IntKind.i64.wrap n = n := by
  unfold IntKind.wrap
  simp [IntKind.bits, IntKind.signed, IntKind.min, IntKind.max]
  omega

theorem ld1 {h : Hp} {b : Pos} {k : Kind} {l : List DV} {o : Nat} {v : DV} (e : h.bl.get b = some (.row k l)) (ho : l[o]? = some v) (hv : v.one = true) : pLoad1 (.p b o) h = some (v, h) := by
  simp [pLoad1, cellD, rowOf, e, ho, hv]

theorem ldA {h : Hp} {b : Pos} {k : Kind} {l : List DV} {o n : Nat} {cs : List DV} (e : h.bl.get b = some (.row k l)) (ho : takeD n (l.drop o) = some cs) : pLoadA n (.p b o) h = some (.a cs, h) := by
  simp [pLoadA, cellsAt, rowOf, e, ho]

theorem drop_cons {α : Type} {l : List α} {i : Nat} {x : α} (hi : l[i]? = some x) : l.drop i = x :: l.drop (i + 1) := by
  obtain ⟨h1, h2⟩ := List.getElem?_eq_some_iff.1 hi
  rw [← h2]
  exact List.drop_eq_getElem_cons h1

theorem eqD_dec (x y : List Nat) : eqD x y = decide (x = y) := by
  rw [Bool.eq_iff_iff, eqD_iff]; simp

theorem enter11 (n : Nat) (x y : DV) (h : Hp) : shD (n + 1) 11 [x, y] h = s11 (shD n) n x y h := by kernel_rfl
end Go.Dd

/- Dd, part S2: nodes in a heap of Dd; whether two are the same, by the program and by the document. -/
set_option linter.unusedVariables false
set_option linter.unusedSimpArgs false
set_option maxRecDepth 100000
namespace Go.Dd
open Go.Proofs

theorem putD_all : ∀ (l vs : List DV), l.length = vs.length → (∀ v ∈ l, v.one = true) → (∀ v ∈ vs, v.one = true) → putD l vs = some vs
  | [], [], _, _, _ => rfl
  | x :: l, v :: vs, h, h1, h2 => by
    have := putD_all l vs (by simpa using h) (fun y hy => h1 y (by simp [hy])) (fun y hy => h2 y (by simp [hy]))
    simp [putD, this, h1 x (by simp), h2 v (by simp)]
  | [], _ :: _, h, _, _ => by simp at h
  | _ :: _, [], h, _, _ => by simp at h

theorem takeD_all : ∀ (x : List DV), (∀ v ∈ x, v.one = true) → takeD x.length x = some x
  | [], _ => rfl
  | v :: x, h => by simp [takeD, h v (by simp), takeD_all x (fun y hy => h y (by simp [hy]))]

end Go.Dd

/- Dd, part S3: the same nodes, by the program's functions. -/
set_option linter.unusedVariables false
set_option linter.unusedSimpArgs false
set_option maxRecDepth 100000
namespace Go.Dd
open Go.Proofs

end Go.Dd

/- Dd, part S4: whether two nodes are the same: the program and the document tell one thing. -/
set_option linter.unusedVariables false
set_option linter.unusedSimpArgs false
set_option maxRecDepth 100000
namespace Go.Dd
open Go.Proofs

end Go.Dd

/- Dd, part S5: the document's Same. -/
set_option linter.unusedVariables false
set_option linter.unusedSimpArgs false
set_option maxRecDepth 100000
namespace Go.Dd
open Go.Proofs

end Go.Dd

/- Dd, part S6: both tell one thing, whatever the two nodes are; and a node is the same as itself. -/
set_option linter.unusedVariables false
set_option linter.unusedSimpArgs false
set_option maxRecDepth 100000
namespace Go.Dd
open Go.Proofs

end Go.Dd

/- Dd, part S7: Few answers a number. -/
set_option linter.unusedVariables false
set_option linter.unusedSimpArgs false
set_option maxRecDepth 100000
namespace Go.Dd
open Go.Proofs

end Go.Dd

/- Dd, part S8: a closed call stands wherever it is called: lives. -/
set_option linter.unusedVariables false
set_option linter.unusedSimpArgs false
set_option maxRecDepth 100000
namespace Go.Dd
open Go.Proofs Go.RowKit

theorem HR.later {G : Gd} {ρ : Ren} {h : Hp} {w w' : World} (H : HR G ρ h w) (e : Below w.heap.size w w') : HR G ρ h w' where
  sz := ⟨Nat.le_trans H.sz.1 e.size, fun k hk => Nat.lt_of_lt_of_le (H.sz.2 k hk) e.size⟩
  nx := H.nx
  ro := H.ro
  dom := H.dom
  lt := H.lt
  cell := fun b k l L i v h1 h2 h3 h4 => by
    obtain ⟨v', h5, h6⟩ := H.cell b k l L i v h1 h2 h3 h4
    exact ⟨v', by rw [e.cell (cell_lt h5)]; exact h5, h6⟩
  spare := fun b l L es j h1 h2 h3 => by
    obtain ⟨v', h5⟩ := H.spare b l L es j h1 h2 h3
    exact ⟨v', by rw [e.cell (cell_lt h5)]; exact h5⟩
  free := fun b a h1 h2 => by
    obtain ⟨v, hv⟩ := H.lt_cell h1
    rw [e.frozen (cell_lt hv)]
    exact H.free b a h1 h2
  inj := H.inj
  ex := H.ex
  grone := H.grone
  itr := fun b s pos L h1 h2 => by
    obtain ⟨a, b, bs, c, d⟩ := H.itr b s pos L h1 h2
    refine ⟨a, b, bs, ?_, d⟩
    rw [e.block _ (Array.getElem?_eq_some_iff.1 c).1]
    exact c
  itj := H.itj

theorem Kp.later {G : Gd} {ρ : Ren} {h : Hp} {w w' : World} (H : HR G ρ h w) (e : Below w.heap.size w w') : Kp G w w' :=
  ⟨e.mono H.sz.1, fun k hk => e.block k (H.sz.2 k hk)⟩

/-- What a closed call that answers a bool does to any heap: nothing. -/
theorem closed_ok {n : Nat} {f : FuncId} {r : Bool} {h1 : Hp} (hr : shD n f [] h00 = some (.b r, h1)) (fn : Func) (hf : Try.prog.funcs[f]? = some fn) (hb : fn.body.isSome = true) (G : Gd) :
    FnOk CF.P G f (fun args h => match args with
      | [] => some (.b r, h)
      | _ => none) := by
  intro args h v h2 he ρ w args' H hargs
  cases args with
  | cons _ _ => cases he
  | nil =>
    simp only [Option.some.injEq, Prod.mk.injEq] at he
    obtain ⟨rfl, rfl⟩ := he
    have e0 : args' = #[] := by
      obtain ⟨a⟩ := args'
      cases hargs
      rfl
    subst e0
    refine .inl ⟨?_, ?_⟩
    · have hf' : CF.P.funcs[f]? = some fn := hf
      have hn : ¬ fn.name = "runtime.NumGoroutine" := by simpa using Try_ok.names f fn hf'
      have hbn : fn.body ≠ none := by intro e; rw [e] at hb; cases hb
      unfold callFunc
      simp [hf', hn, hbn]
    · refine (top hr fn hf hb w #[] .nil).mono ?_
      rintro e w' ⟨ρ', v', rfl, hv, _, hbel⟩
      cases hv
      exact ⟨ρ, _, rfl, Ex.refl _ _, .b _, H.later hbel, Kp.later H hbel⟩

/-- The calls of a body, one of them by its answer. -/
noncomputable def recL (l : FuncId) (r : Bool) (n : Nat) : FuncId → List DV → Hp → Res := fun g =>
  bif Nat.beq g l then (fun args h => match args with
      | [] => some (.b r, h)
      | _ => none) else shD n g

theorem recL_ok {n m : Nat} {f : FuncId} {r : Bool} {h1 : Hp} (hr : shD m f [] h00 = some (.b r, h1)) (fn : Func) (hf : Try.prog.funcs[f]? = some fn) (hb : fn.body.isSome = true) : OkC CF (recL f r n) := by
  refine ⟨CF_own, fun G g => ?_⟩
  unfold recL
  cases hg : Nat.beq g f with
  | true =>
    cases Nat.eq_of_beq_eq_true hg
    exact closed_ok hr fn hf hb G
  | false =>
    show FnOk CF.P G g (shD n g)
    rw [shD_eq]
    exact fnD_ok Try_ok CF_own n G g

theorem recL_self (l : FuncId) (r : Bool) (n : Nat) (h : Hp) : recL l r n l [] h = some (.b r, h) := by
  unfold recL
  rw [show Nat.beq l l = true from by simp]
  rfl

theorem recL_other {l g : FuncId} (r : Bool) (n : Nat) (e : Nat.beq g l = false) : recL l r n g = shD n g := by
  unfold recL
  rw [e]
  rfl

end Go.Dd

/- Dd, part S9: ParseSame answers true, for any two nodes in a heap of Dd. -/
set_option linter.unusedVariables false
set_option linter.unusedSimpArgs false
set_option maxRecDepth 100000
namespace Go.Dd
open Go.Proofs

theorem lives9 : ∃ h1, shD 900 9 [] h00 = some (.b true, h1) := val_b (by kernel_rfl)

end Go.Dd

/- Dd, part S10: what is handed in, as rows of a heap of Dd that are only read: nodes. -/
set_option linter.unusedVariables false
set_option linter.unusedSimpArgs false
set_option maxRecDepth 100000
namespace Go.Dd
open Go.Proofs Go.RowKit

/-- A heap of rows that are only read. -/
structure Ro (w : World) (ρ : Ren) (h : Hp) : Prop where
  dom : ∀ b o, h.bl.get b = some o → ∃ L, ρ b = some L
  lt : ∀ b L, ρ b = some L → b.toNat < h.next.toNat
  row : ∀ b o, h.bl.get b = some o → ∃ l, o = .row .ro l
  cell : ∀ b l L i v, h.bl.get b = some (.row .ro l) → ρ b = some L → l[i]? = some v → ∃ v', w.cell? (adr L i) = some v' ∧ VR ρ v v'
  sp : ∀ b o L, h.bl.get b = some o → ρ b = some L → L.sp = 0

theorem Ro.isRo {w : World} {ρ : Ren} {h : Hp} (R : Ro w ρ h) {b : Pos} {a : Addr} (c : Claims ρ h b a) : isRo h b := by
  obtain ⟨k, l, L, h1, h2, _⟩ := c
  obtain ⟨l', e⟩ := R.row b _ h1
  exact ⟨l', by rw [h1, e]⟩

theorem Ro.hr {w : World} {ρ : Ren} {h : Hp} (R : Ro w ρ h) : HR ⟨w.heap.size, fun _ => False, 0⟩ ρ h w where
  sz := ⟨Nat.le_refl _, fun _ hh => hh.elim⟩
  nx := Nat.zero_le _
  ro := fun b a c _ => by
    obtain ⟨k, l, L, h1, h2, h3⟩ := c
    obtain ⟨l', e⟩ := R.row b _ h1
    cases e
    rcases h3 with ⟨i, v, h4, h5, rfl⟩ | ⟨es, j, h4, _⟩
    · obtain ⟨v', h6, _⟩ := R.cell b _ L i v h1 h2 h4
      exact cell_lt h6
    · cases h4
  dom := R.dom
  lt := R.lt
  cell := fun b k l L i v h1 h2 h3 h4 => by
    obtain ⟨l', e⟩ := R.row b _ h1
    cases e
    exact R.cell b _ L i v h1 h2 h3
  spare := fun b l L es j h1 => by
    obtain ⟨l', e⟩ := R.row b _ h1
    cases e
  free := fun b a c hn => absurd (R.isRo c) hn
  inj := fun b b' a c c' hn => absurd (R.isRo c) hn
  ex := fun b l L h1 h2 => by
    rcases h1 with h1 | h1
    · exact R.sp b _ L h1 h2
    · exact R.sp b _ L h1 h2
  grone := fun b es l i v h1 => by
    obtain ⟨l', e⟩ := R.row b _ h1
    cases e
  itr := fun b s pos L h1 => by
    obtain ⟨l', e⟩ := R.row b _ h1
    cases e
  itj := fun b s pos b' s' pos' L L' h1 => by
    obtain ⟨l', e⟩ := R.row b _ h1
    cases e

theorem Ro.none (w : World) : Ro w (fun _ => none) h00 where
  dom := fun b o h => by cases b <;> cases h
  lt := fun b L h => by cases h
  row := fun b o h => by cases b <;> cases h
  cell := fun b l L i v h => by cases b <;> cases h
  sp := fun b o L h => by cases b <;> cases h

section
variable {H : Type} {enc : TypeId × Value → H} {w : World}

end
end Go.Dd

/- Dd, part T1: runs that come to something, whatever the fuel; heaps by what is known of them. -/
set_option linter.unusedVariables false
set_option linter.unusedSimpArgs false
set_option maxRecDepth 100000
namespace Go.Dd
open Go.Proofs

/-! ### Runs -/

/-- From some fuel on it comes to one thing. -/
def Ev (F : Nat → Res) (P : DV → Hp → Prop) : Prop := ∃ v h N, P v h ∧ ∀ n, N ≤ n → F n = some (v, h)

theorem Ev.ret {v : DV} {h : Hp} {P : DV → Hp → Prop} (H : P v h) : Ev (fun _ => some (v, h)) P := ⟨v, h, 0, H, fun _ _ => rfl⟩

theorem Ev.mono {F : Nat → Res} {P Q : DV → Hp → Prop} (H : Ev F P) (k : ∀ v h, P v h → Q v h) : Ev F Q := by
  obtain ⟨v, h, N, a, b⟩ := H
  exact ⟨v, h, N, k v h a, b⟩

theorem Ev.op {r : Res} {v : DV} {h : Hp} {k : Nat → DV → Hp → Res} {P : DV → Hp → Prop} (e : r = some (v, h)) (H : Ev (fun n => k n v h) P) : Ev (fun n => bnd r (k n)) P := by
  rw [e]; exact H

theorem Ev.call {F : Nat → Res} {Q P : DV → Hp → Prop} {k : Nat → DV → Hp → Res} (H : Ev F Q) (K : ∀ v h, Q v h → Ev (fun n => k n v h) P) : Ev (fun n => bnd (F n) (k n)) P := by
  obtain ⟨v, h, N, a, b⟩ := H
  obtain ⟨v', h', N', a', b'⟩ := K v h a
  refine ⟨v', h', max N N', a', fun n hn => ?_⟩
  show Dd.bnd (F n) (k n) = _
  rw [b n (by omega)]
  exact b' n (by omega)

theorem Ev.enter {G : Nat → Res} {F : Nat → Res} {P : DV → Hp → Prop} (e : ∀ n, F (n + 1) = G n) (H : Ev G P) : Ev F P := by
  obtain ⟨v, h, N, a, b⟩ := H
  refine ⟨v, h, N + 1, a, fun n hn => ?_⟩
  obtain ⟨n, rfl⟩ : ∃ m, n = m + 1 := ⟨n - 1, by omega⟩
  rw [e]
  exact b n (by omega)

/-- One round of a loop, the j-th. -/
theorem Ev.loop (j : Nat) {ll bb : Nat → Nat → Res} {P : DV → Hp → Prop} (e : ∀ n m, ll n (m + 1) = bb n m) (H : Ev (fun n => bb n (n - (j + 1))) P) : Ev (fun n => ll n (n - j)) P := by
  obtain ⟨v, h, N, a, b⟩ := H
  refine ⟨v, h, N + j + 1, a, fun n hn => ?_⟩
  have : n - j = (n - (j + 1)) + 1 := by omega
  show ll n (n - j) = _
  rw [this, e]
  exact b n (by omega)

theorem Ev.cnd {b : Bool} {F : Nat → Res} {P : DV → Hp → Prop} (e : b = true) (H : Ev F P) : Ev (fun n => cnd b (F n)) P := by
  subst e; exact H

/-! ### Comparisons part -/
section
variable {k : Nat → DV → Hp → Res} {P : DV → Hp → Prop} {h : Hp} {q : IntKind} {x y : Int} {s t : List Nat}

theorem pInt_eq (o : BinOp) (z : DV) (e : intBin o q x y = some z) : pInt o (.i q x) (.i q y) h = some (z, h) := by simp [pInt, e]

theorem Ev.ieq (H : x = y → Ev (fun n => k n (.b true) h) P) (H' : x ≠ y → Ev (fun n => k n (.b false) h) P) : Ev (fun n => bnd (pInt .eql (.i q x) (.i q y) h) (k n)) P := by
  refine Ev.op (pInt_eq .eql (.b (x == y)) rfl) ?_
  by_cases e : x = y
  · rw [show (x == y) = true by simpa using e]; exact H e
  · rw [show (x == y) = false by simpa using e]; exact H' e
theorem Ev.ine (H : x ≠ y → Ev (fun n => k n (.b true) h) P) (H' : x = y → Ev (fun n => k n (.b false) h) P) : Ev (fun n => bnd (pInt .neq (.i q x) (.i q y) h) (k n)) P := by
  refine Ev.op (pInt_eq .neq (.b (x != y)) rfl) ?_
  by_cases e : x = y
  · rw [show (x != y) = false by simpa using e]; exact H' e
  · rw [show (x != y) = true by simpa using e]; exact H e
theorem Ev.ilt (H : x < y → Ev (fun n => k n (.b true) h) P) (H' : ¬ x < y → Ev (fun n => k n (.b false) h) P) : Ev (fun n => bnd (pInt .lss (.i q x) (.i q y) h) (k n)) P := by
  refine Ev.op (pInt_eq .lss (.b (decide (x < y))) rfl) ?_
  by_cases e : x < y
  · rw [decide_eq_true e]; exact H e
  · rw [decide_eq_false e]; exact H' e
theorem Ev.ile (H : x ≤ y → Ev (fun n => k n (.b true) h) P) (H' : ¬ x ≤ y → Ev (fun n => k n (.b false) h) P) : Ev (fun n => bnd (pInt .leq (.i q x) (.i q y) h) (k n)) P := by
  refine Ev.op (pInt_eq .leq (.b (decide (x ≤ y))) rfl) ?_
  by_cases e : x ≤ y
  · rw [decide_eq_true e]; exact H e
  · rw [decide_eq_false e]; exact H' e
theorem Ev.igt (H : y < x → Ev (fun n => k n (.b true) h) P) (H' : ¬ y < x → Ev (fun n => k n (.b false) h) P) : Ev (fun n => bnd (pInt .gtr (.i q x) (.i q y) h) (k n)) P := by
  refine Ev.op (pInt_eq .gtr (.b (decide (x > y))) rfl) ?_
  by_cases e : y < x
  · rw [decide_eq_true e]; exact H e
  · rw [decide_eq_false e]; exact H' e
theorem Ev.ige (H : y ≤ x → Ev (fun n => k n (.b true) h) P) (H' : ¬ y ≤ x → Ev (fun n => k n (.b false) h) P) : Ev (fun n => bnd (pInt .geq (.i q x) (.i q y) h) (k n)) P := by
  refine Ev.op (pInt_eq .geq (.b (decide (x ≥ y))) rfl) ?_
  by_cases e : y ≤ x
  · rw [decide_eq_true e]; exact H e
  · rw [decide_eq_false e]; exact H' e
theorem Ev.seq (H : s = t → Ev (fun n => k n (.b true) h) P) (H' : s ≠ t → Ev (fun n => k n (.b false) h) P) : Ev (fun n => bnd (pStr .eql (.s s) (.s t) h) (k n)) P := by
  refine Ev.op (str_eq s t h) ?_
  by_cases e : s = t
  · rw [show eqD s t = true by rw [eqD_iff]; exact e]; exact H e
  · rw [show eqD s t = false by rw [eqD_dec]; simp [e]]; exact H' e
theorem Ev.sne (H : s ≠ t → Ev (fun n => k n (.b true) h) P) (H' : s = t → Ev (fun n => k n (.b false) h) P) : Ev (fun n => bnd (pStr .neq (.s s) (.s t) h) (k n)) P := by
  refine Ev.op (str_ne s t h) ?_
  by_cases e : s = t
  · rw [show eqD s t = true by rw [eqD_iff]; exact e]; exact H' e
  · rw [show eqD s t = false by rw [eqD_dec]; simp [e]]; exact H e
theorem Ev.iadd (H : Ev (fun n => k n (.i q (q.wrap (x + y))) h) P) : Ev (fun n => bnd (pInt .add (.i q x) (.i q y) h) (k n)) P := Ev.op (pInt_eq .add _ rfl) H
theorem Ev.isub (H : Ev (fun n => k n (.i q (q.wrap (x - y))) h) P) : Ev (fun n => bnd (pInt .sub (.i q x) (.i q y) h) (k n)) P := Ev.op (pInt_eq .sub _ rfl) H
theorem Ev.imul (H : Ev (fun n => k n (.i q (q.wrap (x * y))) h) P) : Ev (fun n => bnd (pInt .mul (.i q x) (.i q y) h) (k n)) P := Ev.op (pInt_eq .mul _ rfl) H
theorem Ev.sadd (hl : s.length + t.length ≤ 9223372036854775807) (H : Ev (fun n => k n (.s (s ++ t)) h) P) : Ev (fun n => bnd (pStr .add (.s s) (.s t) h) (k n)) P := by
  refine Ev.op (v := .s (s ++ t)) (h := h) ?_ H
  have e : ¬ (((s.length + t.length : Nat) : Int) > IntKind.i64.max) := by
    have : IntKind.i64.max = 9223372036854775807 := by rfl
    omega
  show (match strBin .add s t with
    | some v => some (v, h)
    | none => none) = _
  unfold strBin
  simp only [if_neg e]
end

/-! ### Heaps -/

/-- Rows that nobody writes any more. -/
abbrev Im := Pos → Option Ob
def ILe (I J : Im) : Prop := ∀ b o, I b = some o → J b = some o
theorem ILe.refl (I : Im) : ILe I I := fun _ _ h => h
theorem ILe.trans {I J K : Im} (a : ILe I J) (b : ILe J K) : ILe I K := fun x o h => b x o (a x o h)

abbrev Ls := List (Pos × Option Ob)

/-- What is known of a heap: rows that stay, rows that grow (A), objects (Q), a function's own rows (L). -/
structure Sy (I : Im) (A Q L : Ls) (h : Hp) : Prop where
  wf : Wf h
  im : ∀ b o, I b = some o → h.bl.get b = some o
  loc : ∀ b o, (b, o) ∈ A ++ Q ++ L → h.bl.get b = o
  lt : ∀ b o, (b, o) ∈ A ++ Q ++ L → b.toNat < h.next.toNat
  nd : ((A ++ Q ++ L).map (·.1)).Nodup
  dj : ∀ b o, (b, o) ∈ A ++ Q ++ L → I b = none

theorem perm3 {I : Im} {A Q L A' Q' L' : Ls} {h : Hp} (p : List.Perm (A ++ Q ++ L) (A' ++ Q' ++ L')) (S : Sy I A Q L h) : Sy I A' Q' L' h where
  wf := S.wf
  im := S.im
  loc := fun b o m => S.loc b o (p.mem_iff.2 m)
  lt := fun b o m => S.lt b o (p.mem_iff.2 m)
  nd := (p.map _).nodup_iff.1 S.nd
  dj := fun b o m => S.dj b o (p.mem_iff.2 m)

theorem sub3 {I : Im} {A Q L A' Q' L' : Ls} {h : Hp} (p : List.Sublist (A' ++ Q' ++ L') (A ++ Q ++ L)) (S : Sy I A Q L h) : Sy I A' Q' L' h where
  wf := S.wf
  im := S.im
  loc := fun b o m => S.loc b o (p.subset m)
  lt := fun b o m => S.lt b o (p.subset m)
  nd := (p.map _).nodup S.nd
  dj := fun b o m => S.dj b o (p.subset m)

/-- A row that was own is let go. -/
theorem Sy.dropL {I : Im} {A Q L : Ls} {e : Pos × Option Ob} {h : Hp} (S : Sy I A Q (e :: L) h) : Sy I A Q L h :=
  sub3 (by rw [List.append_assoc, List.append_assoc]; exact (List.Sublist.refl _).append ((List.Sublist.refl _).append (List.sublist_cons_self _ _))) S

theorem Sy.qL {I : Im} {A Q L : Ls} {e : Pos × Option Ob} {h : Hp} (S : Sy I A Q (e :: L) h) : Sy I A (Q ++ [e]) L h :=
  perm3 (by simp) S
theorem Sy.lQ {I : Im} {A Q L : Ls} {e : Pos × Option Ob} {h : Hp} (S : Sy I A (Q ++ [e]) L h) : Sy I A Q (e :: L) h :=
  perm3 (by simp) S

/-- A new name. -/
theorem Sy.add {I : Im} {A Q L : Ls} {h : Hp} (S : Sy I A Q L h) {h' : Hp} (o : Option Ob) (e1 : h'.next = h.next.succ) (e2 : ∀ b, h'.bl.get b = if b = h.next then o else h.bl.get b) : Sy I A Q ((h.next, o) :: L) h' := by
  have ne : ∀ b x, (b, x) ∈ A ++ Q ++ L → b ≠ h.next := fun b x m e => by
    have := S.lt b x m
    rw [e] at this
    omega
  have fresh : h.bl.get h.next = none := by
    cases e : h.bl.get h.next with
    | none => rfl
    | some o => exact absurd (S.wf _ _ e) (Nat.lt_irrefl _)
  have mem : ∀ b x, (b, x) ∈ A ++ Q ++ (h.next, o) :: L → (b = h.next ∧ x = o) ∨ (b, x) ∈ A ++ Q ++ L := fun b x m => by
    simp only [List.mem_append, List.mem_cons, Prod.mk.injEq] at m ⊢
    rcases m with (m | m) | (m | m)
    · exact .inr (.inl (.inl m))
    · exact .inr (.inl (.inr m))
    · exact .inl m
    · exact .inr (.inr m)
  have inone : I h.next = none := by
    cases e : I h.next with
    | none => rfl
    | some o => rw [S.im _ _ e] at fresh; cases fresh
  refine ⟨?_, ?_, ?_, ?_, ?_, ?_⟩
  · intro b x e
    rw [e1, Pos.toNat_succ]
    rw [e2] at e
    split at e
    · rename_i hb; rw [hb]; omega
    · have := S.wf b x e; omega
  · intro b x e
    have hb : b ≠ h.next := fun e3 => by rw [e3, inone] at e; cases e
    rw [e2, if_neg hb]
    exact S.im b x e
  · intro b x m
    rw [e2]
    rcases mem b x m with ⟨rfl, rfl⟩ | m
    · rw [if_pos rfl]
    · rw [if_neg (ne b x m)]; exact S.loc b x m
  · intro b x m
    rw [e1, Pos.toNat_succ]
    rcases mem b x m with ⟨rfl, rfl⟩ | m
    · omega
    · have := S.lt b x m; omega
  · have p : List.Perm ((A ++ Q ++ (h.next, o) :: L).map (·.1)) (h.next :: (A ++ Q ++ L).map (·.1)) := by
      have : List.Perm (A ++ Q ++ (h.next, o) :: L) ((h.next, o) :: (A ++ Q ++ L)) := List.perm_middle
      exact this.map _
    rw [p.nodup_iff, List.nodup_cons]
    refine ⟨fun m => ?_, S.nd⟩
    obtain ⟨⟨b, x⟩, m, e⟩ := List.mem_map.1 m
    exact ne b x m e
  · intro b x m
    rcases mem b x m with ⟨rfl, rfl⟩ | m
    · exact inone
    · exact S.dj b x m

theorem Sy.new {I : Im} {A Q L : Ls} {h : Hp} (S : Sy I A Q L h) (o : Ob) : Sy I A Q ((h.next, some o) :: L) (nw o h) :=
  S.add (some o) rfl (fun b => Tr.get_set o h.next b h.bl)

theorem Sy.res {I : Im} {A Q L : Ls} {h : Hp} (S : Sy I A Q L h) : Sy I A Q ((h.next, none) :: L) (resv 1 h) := by
  refine S.add none rfl (fun b => ?_)
  show h.bl.get b = _
  split
  · rename_i hb
    rw [hb]
    cases e : h.bl.get h.next with
    | none => rfl
    | some o => exact absurd (S.wf _ _ e) (Nat.lt_irrefl _)
  · rfl

/-- An entry is another. -/
inductive Rpl (b : Pos) (o o' : Option Ob) : Ls → Ls → Prop
  | head (L : Ls) : Rpl b o o' ((b, o) :: L) ((b, o') :: L)
  | tail (e : Pos × Option Ob) {L L' : Ls} : Rpl b o o' L L' → Rpl b o o' (e :: L) (e :: L')

theorem Rpl.keys {b : Pos} {o o' : Option Ob} {L L' : Ls} (r : Rpl b o o' L L') : L'.map (·.1) = L.map (·.1) := by
  induction r with
  | head L => rfl
  | tail e _ ih => simp [ih]

theorem Rpl.at {b : Pos} {o o' : Option Ob} {L L' : Ls} (r : Rpl b o o' L L') : (b, o) ∈ L ∧ (b, o') ∈ L' := by
  induction r with
  | head L => simp
  | tail e _ ih => simp [ih]

theorem Rpl.mem {b : Pos} {o o' : Option Ob} {L L' : Ls} (r : Rpl b o o' L L') (nd : (L.map (·.1)).Nodup) : ∀ c x, (c, x) ∈ L' → (c = b ∧ x = o') ∨ (c ≠ b ∧ (c, x) ∈ L) := by
  induction r with
  | head L =>
    intro c x m
    rcases List.mem_cons.1 m with m2 | m2
    · cases m2; exact .inl ⟨rfl, rfl⟩
    · refine .inr ⟨fun e => ?_, List.mem_cons_of_mem _ m2⟩
      subst e
      rw [List.map_cons, List.nodup_cons] at nd
      exact nd.1 (List.mem_map.2 ⟨_, m2, rfl⟩)
  | tail e r ih =>
    intro c x m
    rw [List.map_cons, List.nodup_cons] at nd
    rcases List.mem_cons.1 m with m | m
    · subst m
      refine .inr ⟨fun e => ?_, by simp⟩
      subst e
      exact nd.1 (List.mem_map.2 ⟨_, r.at.1, rfl⟩)
    · rcases ih nd.2 c x m with h | ⟨h1, h2⟩
      · exact .inl h
      · exact .inr ⟨h1, by simp [h2]⟩

theorem Sy.setAll {I : Im} {A Q L A' Q' L' : Ls} {h h' : Hp} {b : Pos} {o : Option Ob} {o' : Ob} (S : Sy I A Q L h) (r : Rpl b o (some o') (A ++ Q ++ L) (A' ++ Q' ++ L'))
    (e1 : h'.next = h.next) (e2 : ∀ c, h'.bl.get c = if c = b then some o' else h.bl.get c) : Sy I A' Q' L' h' := by
  have mem := r.mem S.nd
  have hb := S.lt b o r.at.1
  refine ⟨?_, ?_, ?_, ?_, ?_, ?_⟩
  · intro c x e
    rw [e1]
    rw [e2] at e
    split at e
    · rename_i hc; rw [hc]; exact hb
    · exact S.wf c x e
  · intro c x e
    have hc : c ≠ b := fun e3 => by rw [e3, S.dj b o r.at.1] at e; cases e
    rw [e2, if_neg hc]
    exact S.im c x e
  · intro c x m
    rw [e2]
    rcases mem c x m with ⟨rfl, rfl⟩ | ⟨hc, m⟩
    · rw [if_pos rfl]
    · rw [if_neg hc]; exact S.loc c x m
  · intro c x m
    rw [e1]
    rcases mem c x m with ⟨rfl, rfl⟩ | ⟨hc, m⟩
    · exact hb
    · exact S.lt c x m
  · rw [r.keys]; exact S.nd
  · intro c x m
    rcases mem c x m with ⟨rfl, rfl⟩ | ⟨hc, m⟩
    · exact S.dj c o r.at.1
    · exact S.dj c x m

theorem Rpl.left (A : Ls) {b : Pos} {o o' : Option Ob} {L L' : Ls} (r : Rpl b o o' L L') : Rpl b o o' (A ++ L) (A ++ L') := by
  induction A with
  | nil => exact r
  | cons e A ih => exact .tail e ih
theorem Rpl.right (A : Ls) {b : Pos} {o o' : Option Ob} {L L' : Ls} (r : Rpl b o o' L L') : Rpl b o o' (L ++ A) (L' ++ A) := by
  induction r with
  | head L => exact .head _
  | tail e _ ih => exact .tail e ih

theorem Sy.setL {I : Im} {A Q L L' : Ls} {h h' : Hp} {b : Pos} {o : Option Ob} {o' : Ob} (S : Sy I A Q L h) (r : Rpl b o (some o') L L')
    (e1 : h'.next = h.next) (e2 : ∀ c, h'.bl.get c = if c = b then some o' else h.bl.get c) : Sy I A Q L' h' := S.setAll (r.left _) e1 e2
theorem Sy.setQ {I : Im} {A Q Q' L : Ls} {h h' : Hp} {b : Pos} {o : Option Ob} {o' : Ob} (S : Sy I A Q L h) (r : Rpl b o (some o') Q Q')
    (e1 : h'.next = h.next) (e2 : ∀ c, h'.bl.get c = if c = b then some o' else h.bl.get c) : Sy I A Q' L h' := S.setAll ((r.left A).right L) e1 e2
theorem Sy.setA {I : Im} {A A' Q L : Ls} {h h' : Hp} {b : Pos} {o : Option Ob} {o' : Ob} (S : Sy I A Q L h) (r : Rpl b o (some o') A A')
    (e1 : h'.next = h.next) (e2 : ∀ c, h'.bl.get c = if c = b then some o' else h.bl.get c) : Sy I A' Q L h' := S.setAll ((r.right Q).right L) e1 e2

noncomputable def Im.put (I : Im) (b : Pos) (o : Ob) : Im := fun c => if c = b then some o else I c

/-- A row that nobody will write any more. -/
theorem Sy.freeze {I : Im} {A Q L : Ls} {h : Hp} {b : Pos} {o : Ob} (S : Sy I A Q ((b, some o) :: L) h) : Sy (I.put b o) A Q L h ∧ ILe I (I.put b o) := by
  have hb : (b, some o) ∈ A ++ Q ++ (b, some o) :: L := by simp
  have S' := S.dropL
  have nb : ∀ c x, (c, x) ∈ A ++ Q ++ L → c ≠ b := by
    intro c x m e
    subst e
    have p : List.Perm ((A ++ Q ++ (c, some o) :: L).map (·.1)) (c :: (A ++ Q ++ L).map (·.1)) := (List.perm_middle (a := (c, some o)) (l₁ := A ++ Q) (l₂ := L)).map _
    have := p.nodup_iff.1 S.nd
    rw [List.nodup_cons] at this
    exact this.1 (List.mem_map.2 ⟨_, m, rfl⟩)
  refine ⟨⟨S.wf, ?_, S'.loc, S'.lt, S'.nd, ?_⟩, ?_⟩
  · intro c x e
    unfold Im.put at e
    split at e
    · rename_i hc; subst hc; cases e; exact S.loc _ _ hb
    · exact S.im c x e
  · intro c x m
    unfold Im.put
    rw [if_neg (nb c x m)]
    exact S'.dj c x m
  · intro c x e
    have : c ≠ b := fun e2 => by rw [e2, S.dj b _ hb] at e; cases e
    unfold Im.put
    rw [if_neg this]
    exact e

theorem Im.put_same (I : Im) (b : Pos) (o : Ob) : I.put b o b = some o := by simp [Im.put]

theorem Sy.memL {I : Im} {A Q L : Ls} {h : Hp} {b : Pos} {o : Ob} (S : Sy I A Q L h) (m : (b, some o) ∈ L) : h.bl.get b = some o := S.loc b _ (by simp [m])
theorem Sy.memQ {I : Im} {A Q L : Ls} {h : Hp} {b : Pos} {o : Ob} (S : Sy I A Q L h) (m : (b, some o) ∈ Q) : h.bl.get b = some o := S.loc b _ (by simp [m])
theorem Sy.memA {I : Im} {A Q L : Ls} {h : Hp} {b : Pos} {o : Ob} (S : Sy I A Q L h) (m : (b, some o) ∈ A) : h.bl.get b = some o := S.loc b _ (by simp [m])

/-! ### Operations -/
section
variable {I : Im} {A Q L L' Q' : Ls} {h : Hp} {k : Nat → DV → Hp → Res} {P : DV → Hp → Prop} {b : Pos} {kd : Kind} {l l' cs : List DV} {o n : Nat} {v : DV}

theorem Ev.new (S : Sy I A Q L h) (H : ∀ b h', Sy I A Q ((b, some (.row .ex cs)) :: L) h' → Ev (fun n => k n (.p b 0) h') P) : Ev (fun n => bnd (pNew cs h) (k n)) P :=
  Ev.op (new_a cs h) (H _ _ (S.new _))

theorem Ev.box (S : Sy I A Q L h) (e : cellsD v = some cs) (H : ∀ b h', Sy I A Q ((b, some (.row .ex cs)) :: L) h' → Ev (fun n => k n (.p b 0) h') P) : Ev (fun n => bnd (pBox v h) (k n)) P := by
  have e2 : pBox v h = pNew cs h := by unfold pBox; rw [e]
  rw [e2]
  exact Ev.new S H

theorem Ev.ld (hg : h.bl.get b = some (.row kd l)) (e : l[o]? = some v) (hv : v.one = true) (H : Ev (fun n => k n v h) P) : Ev (fun n => bnd (pLoad1 (.p b o) h) (k n)) P := Ev.op (ld1 hg e hv) H
theorem Ev.ldL (S : Sy I A Q L h) (m : (b, some (.row kd l)) ∈ L) (e : l[o]? = some v) (hv : v.one = true) (H : Ev (fun n => k n v h) P) : Ev (fun n => bnd (pLoad1 (.p b o) h) (k n)) P := Ev.ld (S.memL m) e hv H
theorem Ev.ldQ (S : Sy I A Q L h) (m : (b, some (.row kd l)) ∈ Q) (e : l[o]? = some v) (hv : v.one = true) (H : Ev (fun n => k n v h) P) : Ev (fun n => bnd (pLoad1 (.p b o) h) (k n)) P := Ev.ld (S.memQ m) e hv H
theorem Ev.lds (hg : h.bl.get b = some (.row kd l)) (e : takeD n (l.drop o) = some cs) (H : Ev (fun n => k n (.a cs) h) P) : Ev (fun m => bnd (pLoadA n (.p b o) h) (k m)) P := Ev.op (ldA hg e) H

theorem take_all (h1 : l.length = n) (h2 : ∀ v ∈ l, v.one = true) : takeD n (l.drop 0) = some l := by
  subst h1; simpa using takeD_all l h2
theorem Ev.ldsL (S : Sy I A Q L h) (m : (b, some (.row kd l)) ∈ L) (h1 : l.length = n) (h2 : ∀ v ∈ l, v.one = true) (H : Ev (fun n => k n (.a l) h) P) : Ev (fun m => bnd (pLoadA n (.p b 0) h) (k m)) P := Ev.lds (S.memL m) (take_all h1 h2) H

theorem store_all {kw : Kind} (hk : kw.writable = true) (hg : h.bl.get b = some (.row kw l)) (h1 : l.length = n) (h2 : ∀ v ∈ l, v.one = true) (h3 : l'.length = n) (h4 : ∀ v ∈ l', v.one = true) :
    pStore n (.p b 0) (.a l') h = some (undefD, ⟨h.next, Tr.set (.row kw l') b h.bl⟩) := by
  have hp : putAt 0 l l' = some l' := putD_all l l' (by omega) h2 h4
  simp [pStore, cellsD, h3, storeAtD, hg, hk, hp]

theorem Ev.stsL (S : Sy I A Q L h) (r : Rpl b (some (.row .ex l)) (some (.row .ex l')) L L') (h1 : l.length = n) (h2 : ∀ v ∈ l, v.one = true) (h3 : l'.length = n) (h4 : ∀ v ∈ l', v.one = true)
    (H : ∀ h', Sy I A Q L' h' → Ev (fun n => k n undefD h') P) : Ev (fun m => bnd (pStore n (.p b 0) (.a l') h) (k m)) P :=
  Ev.op (store_all rfl (S.memL r.at.1) h1 h2 h3 h4) (H _ (S.setL r rfl (fun c => Tr.get_set _ _ _ _)))

theorem cells_one (hv : v.one = true) : cellsD v = some [v] := by
  cases v <;> first | rfl | cases hv

theorem putD_one : ∀ (o : Nat) (l : List DV), (∃ x, l[o]? = some x ∧ x.one = true) → v.one = true → putAt o l [v] = some (l.set o v)
  | 0, [], h, _ => by obtain ⟨x, h, _⟩ := h; simp at h
  | 0, x :: l, h, hv => by
    obtain ⟨y, h1, h2⟩ := h
    simp at h1
    subst h1
    simp [putAt, putD, hv, h2]
  | o + 1, [], h, _ => by obtain ⟨x, h, _⟩ := h; simp at h
  | o + 1, x :: l, h, hv => by
    have := putD_one o l (by simpa using h) hv
    simp [putAt, this]

theorem store_one {kw : Kind} (hk : kw.writable = true) (hg : h.bl.get b = some (.row kw l)) (h1 : ∃ x, l[o]? = some x ∧ x.one = true) (hv : v.one = true) :
    pStore 1 (.p b o) v h = some (undefD, ⟨h.next, Tr.set (.row kw (l.set o v)) b h.bl⟩) := by
  simp [pStore, cells_one hv, storeAtD, hg, hk, putD_one o l h1 hv]

theorem Ev.stL (S : Sy I A Q L h) (r : Rpl b (some (.row .ex l)) (some (.row .ex l')) L L') (e : l.set o v = l') (h1 : ∃ x, l[o]? = some x ∧ x.one = true) (hv : v.one = true)
    (H : ∀ h', Sy I A Q L' h' → Ev (fun n => k n undefD h') P) : Ev (fun m => bnd (pStore 1 (.p b o) v h) (k m)) P := by
  subst e
  exact Ev.op (store_one rfl (S.memL r.at.1) h1 hv) (H _ (S.setL r rfl (fun c => Tr.get_set _ _ _ _)))
theorem Ev.stQ (S : Sy I A Q L h) (r : Rpl b (some (.row .ex l)) (some (.row .ex l')) Q Q') (e : l.set o v = l') (h1 : ∃ x, l[o]? = some x ∧ x.one = true) (hv : v.one = true)
    (H : ∀ h', Sy I A Q' L h' → Ev (fun n => k n undefD h') P) : Ev (fun m => bnd (pStore 1 (.p b o) v h) (k m)) P := by
  subst e
  exact Ev.op (store_one rfl (S.memQ r.at.1) h1 hv) (H _ (S.setQ r rfl (fun c => Tr.get_set _ _ _ _)))

theorem Ev.bs (S : Sy I A Q L h) {z : List DV} {ps : List (Nat × Nat × DV)} (e : fillD z ps = some cs) (H : ∀ b h', Sy I A Q ((b, some (.row .ex cs)) :: L) h' → Ev (fun m => k m (.l b 0 n n) h') P) : Ev (fun m => bnd (pBuildSlice z n ps h) (k m)) P := by
  refine Ev.op (v := .l h.next 0 n n) (h := nw (.row .ex cs) h) ?_ (H _ _ (S.new _))
  unfold pBuildSlice
  rw [e]
  rfl
theorem Ev.bsAt (S : Sy I A Q L h) {z : List DV} {ps : List (Nat × Nat × DV)} (r : Rpl b none (some (.row .ex cs)) L L') (e : fillD z ps = some cs)
    (H : ∀ h', Sy I A Q L' h' → Ev (fun m => k m (.l b 0 n n) h') P) : Ev (fun m => bnd (pBuildSliceAt b z n ps h) (k m)) P := by
  refine Ev.op (v := .l b 0 n n) (h := ⟨h.next, Tr.set (.row .ex cs) b h.bl⟩) ?_ (H _ (S.setL r rfl (fun c => Tr.get_set _ _ _ _)))
  unfold pBuildSliceAt
  rw [e]

theorem Ev.bld {z : List DV} {ps : List (Nat × Nat × DV)} (e : fillD z ps = some cs) (H : Ev (fun n => k n (.a cs) h) P) : Ev (fun n => bnd (pBuild z ps h) (k n)) P := by
  refine Ev.op (v := .a cs) (h := h) ?_ H
  unfold pBuild
  rw [e]

theorem same1 {S : Sy I A Q L h} (m : (b, some (.row kd l)) ∈ L) (e : l[o]? = some v) (hv : v.one = true) (hb : DV.beq v v = true) : sameR (pLoad1 (.p b o) h) v = true := by
  rw [ld1 (S.memL m) e hv]; exact hb
end

end Go.Dd

/- Dd, part ZR: a law of one text: from its run to its calls. -/
set_option linter.unusedVariables false
namespace Go.Dd
open Go.Proofs Go.RowKit

theorem Sy.start : Sy (fun _ => none) [] [] [] h00 where
  wf := fun b o e => by cases b <;> cases e
  im := fun b o e => by cases e
  loc := fun b o m => by simp at m
  lt := fun b o m => by simp at m
  nd := by simp
  dj := fun b o m => by simp at m

/-- A law of a text that runs to true, its lives answered, returns true. -/
theorem run_text {f : FuncId} {s : ByteArray} {F : Nat → Res} (e : ∀ n, bodyD CF (recL 9 true n) n f [.s (s.data.toList.map (·.toNat))] h00 = F n) (H : Ev F (fun v _ => v = .b true)) (fn : Func) (hf : Try.prog.funcs[f]? = some fn) (hb : fn.body.isSome = true) (w : World) :
    Calls Try.prog f #[.string s] w fun e w' => e = .returned (.bool true) ∧ Below w.heap.size w w' := by
  obtain ⟨v, h1, N, rfl, hN⟩ := H
  have hr := (e N).trans (hN N (Nat.le_refl _))
  obtain ⟨hl, el⟩ := lives9
  rcases body_ok (recL_ok el Try.f9 Try.func9 (by kernel_rfl)) Try_ok N f _ h00 _ h1 hr _ w #[.string s] (Ro.none w).hr (.cons _ _ _ _ (.s _ s rfl) .nil) with ⟨_, h⟩ | ⟨ρ', w', v', h, _⟩
  · refine h.mono ?_
    rintro e w' ⟨ρ', v', rfl, h2, h3, h4, h5⟩
    cases h3
    exact ⟨rfl, h5.low⟩
  · exfalso
    have hf' : CF.P.funcs[f]? = some fn := hf
    have hn : ¬ fn.name = "runtime.NumGoroutine" := by simpa using Try_ok.names f fn hf'
    have hbn : fn.body ≠ none := by intro e; rw [e] at hb; cases hb
    unfold callFunc at h
    simp [hf', hn, hbn] at h

theorem bytes_lt (s : ByteArray) : ∀ c ∈ s.data.toList.map (·.toNat), c < 256 := by
  intro c hc
  obtain ⟨b, _, rfl⟩ := List.mem_map.1 hc
  exact b.toNat_lt

end Go.Dd

