/- A part of the proof: Q6 Qt SH R R1 R2 U S1 S2 S3 S4 S5 S6 S7 S8 S10 LV T1 ZR T2 T3 T4 T5: each text has a comment of its own. -/
import Derived.Test.YtliejomdaookoaaGreatDoorSa1
import Derived.Shelf.Strings.Builder1
import Derived.Shelf.Strings.Builder2
import Derived.Shelf.Strings.OnBuilder
import Derived.Shelf.Small.Strs
import Derived.Shelf.Strconv.Itoa0
import Derived.Shelf.Strconv.Itoa1
import Derived.Shelf.LaysM
import Derived.Shelf.Strconv.Itoa2
import Derived.Shelf.Strconv.Itoa3
import Derived.Shelf.Strings.Search1
import Derived.Shelf.Strings.Search2
import Derived.Shelf.Strings.Search3
import Derived.Shelf.Strings.Count
import Derived.Shelf.Strings.Shaped
import Derived.Shelf.Strings.Split
import Derived.Shelf.Strings.Replace
import Derived.Shelf.Unicode.DecodeSlow
import Derived.Test.YtliejomdaookoaaGreatDoorProg
import Derived.Lib.SplitLaws
import Derived.Lib.IndexBytes
import Derived.Lib.Bytealg
import Derived.KernelRfl
import Derived.ChangeArms
import Derived.WalkKit
import Derived.ProofKit
/- Dd, part Q6 (printed by gen.py): functions of the seat's program as Lean functions, linked to Dd. -/
set_option linter.unusedVariables false
set_option maxRecDepth 100000
namespace Go.Dd
open Go.Proofs
noncomputable section

variable (rec : RT) (n : Nat)
/-- lex.reader).name$1 -/
def s132 (rec : RT) (n : Nat) (x0 : DV) (h0 : Hp) : Res :=
 bnd (rec 107 [x0] h0) fun v1 h1 =>
 bnd (gD v1 false (some (x0, h1)) h1) fun v2 h2 =>
 bnd (gD v1 false (rec 110 [v2] h2) h2) fun v3 h3 =>
 bnd (pPick v1 (.b true) v3 h3) fun v4 h4 =>
 some (v4, h4)
abbrev c132 : Code := cf Tryz.f132
abbrev r132 : K := retK CF Tryz.f132
def D132 (rec : RT) (n : Nat) (c : Code) (X : Nat → K) (k : K) : K := codeD CF rec 9 n c X r132 k
theorem s132m : D132 rec n c132 x0 r132 = (K1 (s132 rec n) 0) :=
  (by kernel_rfl)
theorem s132ok (args : List DV) (h : Hp) : bodyD CF rec n 132 args h = s132 rec n (args.getD 0 undefD) h :=
  (by kernel_rfl : bodyD CF rec n 132 args h = D132 rec n c132 x0 r132 (argsE args) h).trans ((congrFun (congrFun (s132m rec n) (argsE args)) h).trans (by kernel_rfl))
/-- lex.reader).text$1 -/
def s133 (rec : RT) (n : Nat) (x0 : DV) (h0 : Hp) : Res :=
 bnd (pInt .neq x0 (.i .u8 (Int.ofNat 39)) h0) fun v1 h1 =>
 some (v1, h1)
abbrev c133 : Code := cf Tryz.f133
abbrev r133 : K := retK CF Tryz.f133
def D133 (rec : RT) (n : Nat) (c : Code) (X : Nat → K) (k : K) : K := codeD CF rec 5 n c X r133 k
theorem s133m : D133 rec n c133 x0 r133 = (K1 (s133 rec n) 0) :=
  (by kernel_rfl)
theorem s133ok (args : List DV) (h : Hp) : bodyD CF rec n 133 args h = s133 rec n (args.getD 0 undefD) h :=
  (by kernel_rfl : bodyD CF rec n 133 args h = D133 rec n c133 x0 r133 (argsE args) h).trans ((congrFun (congrFun (s133m rec n) (argsE args)) h).trans (by kernel_rfl))
def s134a4 (rec : RT) (n : Nat) (x4 x5 : DV) (h0 : Hp) : Res :=
 bnd (pLoadA 6 x5 h0) fun v1 h1 =>
 bnd (pStore 6 x4 v1 h1) fun _ h2 =>
 bnd (pLoadA 6 x4 h2) fun v3 _ =>
 some (v3, h2)
def s134a5b (rec : RT) (n : Nat) (kk5 : TT3) (x0 x4 x5 : DV) (h0 : Hp) : Res :=
 bnd (rec 77 [x0, (.i .i64 (Int.ofNat 2)), (.s [])] h0) fun v1 h1 =>
 ifD v1 (
 bnd (pField 1 x5 h1) fun v2 h2 =>
 bnd (pLoad1 v2 h2) fun v3 h3 =>
 bnd (rec 78 [x0] h3) fun v4 h4 =>
 cnd (sameR (pLoad1 v2 h4) v3 && true) (
 bnd (pPart1 1 v4 h4) fun v5 h5 =>
 bnd (pStr .add v3 v5 h5) fun v6 h6 =>
 bnd (pField 1 x5 h6) fun v7 h7 =>
 bnd (pStore 1 v7 v6 h7) fun v8 h8 =>
 bnd (pField 5 x5 (resv 1 h8)) fun v9 h9 =>
 bnd (pLoad1 v9 h9) fun v10 h10 =>
 bnd (rec 137 [x0] h10) fun v11 h11 =>
 cnd (sameR (pLoad1 v9 h11) v10 && true) (
 bnd (rec 136 [x0, v11] h11) fun v12 h12 =>
 cnd (sameR (pLoad1 v9 h12) v10 && true) (
 bnd (rec 135 [x0, v12] h12) fun v13 h13 =>
 cnd (sameR (pLoad1 v9 h13) v10 && true) (
 bnd (pBuildSliceAt (nthPos 0 h8.next) [(.i .i64 (Int.ofNat 0)), (.s []), (.i .i64 (Int.ofNat 0)), .l0, .l0, .l0] 1 [(0, 6, v13)] h13) fun v14 h14 =>
 bnd (pAppend 6 104 v10 v14 h14) fun v15 h15 =>
 bnd (pField 5 x5 h15) fun v16 h16 =>
 bnd (pStore 1 v16 v15 h16) fun v17 h17 =>
      kk5 x0 x4 x5 h17))))) (
      s134a4 rec n x4 x5 h1)
def s134a5l (rec : RT) (n : Nat) (m : Nat) : TT3 :=
  Nat.rec (motive := fun _ => TT3) (fun _ _ _ _ => none) (fun _ ih => s134a5b rec n ih) m
def s134a5 (rec : RT) (n : Nat) : TT3 := s134a5l rec n n
def s134a3 (rec : RT) (n : Nat) (x0 x4 x5 : DV) (h0 : Hp) : Res :=
  s134a5 rec n x0 x4 x5 h0
def s134a2 (rec : RT) (n : Nat) (x0 x3 x4 : DV) (h0 : Hp) : Res :=
 bnd (pLoadA 6 x3 h0) fun v1 h1 =>
 bnd (pBuildSlice [(.i .i64 (Int.ofNat 0)), (.s []), (.i .i64 (Int.ofNat 0)), .l0, .l0, .l0] 1 [(0, 6, v1)] h1) fun v2 h2 =>
 bnd (rec 149 [(.s []), v2] h2) fun v3 h3 =>
 bnd (pNew [(.i .i64 (Int.ofNat 0)), (.s []), (.i .i64 (Int.ofNat 0)), .l0, .l0, .l0] h3) fun v4 h4 =>
 bnd (pStore 6 v4 v3 h4) fun _ h5 =>
  s134a3 rec n x0 x4 v4 h5
def s134a1 (rec : RT) (n : Nat) (x0 x3 x4 : DV) (h0 : Hp) : Res :=
 bnd (rec 77 [x0, (.i .i64 (Int.ofNat 2)), (.s [])] h0) fun v1 h1 =>
 bnd (pUn .not v1 h1) fun v2 h2 =>
 ifD v2 (
 bnd (pLoadA 6 x3 h2) fun v3 h3 =>
 bnd (pStore 6 x4 v3 h3) fun _ h4 =>
 bnd (pLoadA 6 x4 h4) fun v5 _ =>
 some (v5, h4)) (
    s134a2 rec n x0 x3 x4 h2)
/-- parse.parser).keywords -/
def s134 (rec : RT) (n : Nat) (x0 x1 : DV) (h0 : Hp) : Res :=
 bnd (pBox x1 h0) fun v1 h1 =>
 bnd (pNew [(.i .i64 (Int.ofNat 0)), (.s []), (.i .i64 (Int.ofNat 0)), .l0, .l0, .l0] h1) fun v2 h2 =>
  s134a1 rec n x0 v1 v2 h2
abbrev c134 : Code := cf Tryz.f134
abbrev c134x1 : Code := cR c134
abbrev c134x2 : Code := cR c134x1
abbrev c134x3 : Code := cR c134x2
abbrev c134x4 : Code := cR c134x3
abbrev c134x5 : Code := cL c134x3
abbrev c134x6 : Code := cL c134x5
abbrev c134x7 : Code := cL c134x6
abbrev c134x8 : Code := cL c134x2
abbrev c134x9 : Code := cL c134x1
abbrev c134x10 : Code := cL c134
abbrev r134 : K := retK CF Tryz.f134
def D134 (rec : RT) (n : Nat) (c : Code) (X : Nat → K) (k : K) : K := codeD CF rec 34 n c X r134 k
theorem s134a4e : D134 rec n c134x4 x0 r134 = (K2 (s134a4 rec n) 4 5) :=
  (by kernel_rfl)
theorem s134a5q1 (kk5 : TT3) (q0 : TT2) : D134 rec n c134x7 (xs x0 0 (K2 q0 4 5)) (K3 kk5 0 4 5) = fun (env : Env) (h : Hp) =>
 bnd (rec 77 [(env 0), (.i .i64 (Int.ofNat 2)), (.s [])] h) fun v1 h1 =>
 ifD v1 (
 bnd (pField 1 (env 5) h1) fun v2 h2 =>
 bnd (pLoad1 v2 h2) fun v3 h3 =>
 bnd (rec 78 [(env 0)] h3) fun v4 h4 =>
 cnd (sameR (pLoad1 v2 h4) v3 && true) (
 bnd (pPart1 1 v4 h4) fun v5 h5 =>
 bnd (pStr .add v3 v5 h5) fun v6 h6 =>
 bnd (pField 1 (env 5) h6) fun v7 h7 =>
 bnd (pStore 1 v7 v6 h7) fun v8 h8 =>
 bnd (pField 5 (env 5) (resv 1 h8)) fun v9 h9 =>
 bnd (pLoad1 v9 h9) fun v10 h10 =>
 bnd (rec 137 [(env 0)] h10) fun v11 h11 =>
 cnd (sameR (pLoad1 v9 h11) v10 && true) (
 bnd (rec 136 [(env 0), v11] h11) fun v12 h12 =>
 cnd (sameR (pLoad1 v9 h12) v10 && true) (
 bnd (rec 135 [(env 0), v12] h12) fun v13 h13 =>
 cnd (sameR (pLoad1 v9 h13) v10 && true) (
 bnd (pBuildSliceAt (nthPos 0 h8.next) [(.i .i64 (Int.ofNat 0)), (.s []), (.i .i64 (Int.ofNat 0)), .l0, .l0, .l0] 1 [(0, 6, v13)] h13) fun v14 h14 =>
 bnd (pAppend 6 104 v10 v14 h14) fun v15 h15 =>
 bnd (pField 5 (env 5) h15) fun v16 h16 =>
 bnd (pStore 1 v16 v15 h16) fun v17 h17 =>
      kk5 (env 0) (env 4) (env 5) h17))))) (
      q0 (env 4) (env 5) h1) := by kernel_rfl
theorem s134a5q1u (kk5 : TT3) : (fun (env : Env) (h : Hp) =>
 bnd (rec 77 [(env 0), (.i .i64 (Int.ofNat 2)), (.s [])] h) fun v1 h1 =>
 ifD v1 (
 bnd (pField 1 (env 5) h1) fun v2 h2 =>
 bnd (pLoad1 v2 h2) fun v3 h3 =>
 bnd (rec 78 [(env 0)] h3) fun v4 h4 =>
 cnd (sameR (pLoad1 v2 h4) v3 && true) (
 bnd (pPart1 1 v4 h4) fun v5 h5 =>
 bnd (pStr .add v3 v5 h5) fun v6 h6 =>
 bnd (pField 1 (env 5) h6) fun v7 h7 =>
 bnd (pStore 1 v7 v6 h7) fun v8 h8 =>
 bnd (pField 5 (env 5) (resv 1 h8)) fun v9 h9 =>
 bnd (pLoad1 v9 h9) fun v10 h10 =>
 bnd (rec 137 [(env 0)] h10) fun v11 h11 =>
 cnd (sameR (pLoad1 v9 h11) v10 && true) (
 bnd (rec 136 [(env 0), v11] h11) fun v12 h12 =>
 cnd (sameR (pLoad1 v9 h12) v10 && true) (
 bnd (rec 135 [(env 0), v12] h12) fun v13 h13 =>
 cnd (sameR (pLoad1 v9 h13) v10 && true) (
 bnd (pBuildSliceAt (nthPos 0 h8.next) [(.i .i64 (Int.ofNat 0)), (.s []), (.i .i64 (Int.ofNat 0)), .l0, .l0, .l0] 1 [(0, 6, v13)] h13) fun v14 h14 =>
 bnd (pAppend 6 104 v10 v14 h14) fun v15 h15 =>
 bnd (pField 5 (env 5) h15) fun v16 h16 =>
 bnd (pStore 1 v16 v15 h16) fun v17 h17 =>
      kk5 (env 0) (env 4) (env 5) h17))))) (
      s134a4 rec n (env 4) (env 5) h1)) = (K3 (s134a5b rec n kk5) 0 4 5) := by kernel_rfl
theorem s134a5be (kk5 : TT3) : D134 rec n c134x7 (xs x0 0 (K2 (s134a4 rec n) 4 5)) (K3 kk5 0 4 5) = (K3 (s134a5b rec n kk5) 0 4 5) :=
  (s134a5q1 rec n kk5 (s134a4 rec n)).trans (s134a5q1u rec n kk5)
theorem s134a5le (m : Nat) : loopN (fun kk => D134 rec n c134x7 (xs x0 0 (K2 (s134a4 rec n) 4 5)) kk) m = (K3 (s134a5l rec n m) 0 4 5) := by
  induction m with
  | zero => exact (by kernel_rfl : loopN (fun kk => D134 rec n c134x7 (xs x0 0 (K2 (s134a4 rec n) 4 5)) kk) 0 = (K3 (s134a5l rec n 0) 0 4 5))
  | succ m ih =>
    refine (by kernel_rfl : loopN (fun kk => D134 rec n c134x7 (xs x0 0 (K2 (s134a4 rec n) 4 5)) kk) (m + 1) = D134 rec n c134x7 (xs x0 0 (K2 (s134a4 rec n) 4 5)) (loopN (fun kk => D134 rec n c134x7 (xs x0 0 (K2 (s134a4 rec n) 4 5)) kk) m)).trans ?_
    rw [ih]
    exact (s134a5be rec n (s134a5l rec n m)).trans (by kernel_rfl)
theorem s134a5e : D134 rec n c134x6 (xs x0 0 (K2 (s134a4 rec n) 4 5)) (K2 (s134a4 rec n) 4 5) = (K3 (s134a5 rec n) 0 4 5) :=
  (by kernel_rfl : D134 rec n c134x6 (xs x0 0 (K2 (s134a4 rec n) 4 5)) (K2 (s134a4 rec n) 4 5) = loopN (fun kk => D134 rec n c134x7 (xs x0 0 (K2 (s134a4 rec n) 4 5)) kk) n).trans ((s134a5le rec n n).trans (by kernel_rfl))
theorem s134a3p2 : D134 rec n c134x3 x0 r134 = D134 rec n c134x5 x0 (K2 (s134a4 rec n) 4 5) :=
  congrArg (fun k => D134 rec n c134x5 x0 k) (s134a4e rec n)
theorem s134a3e : D134 rec n c134x3 x0 r134 = (K3 (s134a3 rec n) 0 4 5) :=
  (s134a3p2 rec n).trans
  ((by kernel_rfl : D134 rec n c134x5 x0 (K2 (s134a4 rec n) 4 5) = D134 rec n c134x6 (xs x0 0 (K2 (s134a4 rec n) 4 5)) (K2 (s134a4 rec n) 4 5)).trans
  ((s134a5e rec n).trans (by kernel_rfl)))
theorem s134a2p3 : D134 rec n c134x2 x0 r134 = D134 rec n c134x8 x0 (K3 (s134a3 rec n) 0 4 5) :=
  congrArg (fun k => D134 rec n c134x8 x0 k) (s134a3e rec n)
theorem s134a2q4 (q0 : TT3) : D134 rec n c134x8 x0 (K3 q0 0 4 5) = fun (env : Env) (h : Hp) =>
 bnd (pLoadA 6 (env 3) h) fun v1 h1 =>
 bnd (pBuildSlice [(.i .i64 (Int.ofNat 0)), (.s []), (.i .i64 (Int.ofNat 0)), .l0, .l0, .l0] 1 [(0, 6, v1)] h1) fun v2 h2 =>
 bnd (rec 149 [(.s []), v2] h2) fun v3 h3 =>
 bnd (pNew [(.i .i64 (Int.ofNat 0)), (.s []), (.i .i64 (Int.ofNat 0)), .l0, .l0, .l0] h3) fun v4 h4 =>
 bnd (pStore 6 v4 v3 h4) fun _ h5 =>
    q0 (env 0) (env 4) v4 h5 := by kernel_rfl
theorem s134a2q4u : (fun (env : Env) (h : Hp) =>
 bnd (pLoadA 6 (env 3) h) fun v1 h1 =>
 bnd (pBuildSlice [(.i .i64 (Int.ofNat 0)), (.s []), (.i .i64 (Int.ofNat 0)), .l0, .l0, .l0] 1 [(0, 6, v1)] h1) fun v2 h2 =>
 bnd (rec 149 [(.s []), v2] h2) fun v3 h3 =>
 bnd (pNew [(.i .i64 (Int.ofNat 0)), (.s []), (.i .i64 (Int.ofNat 0)), .l0, .l0, .l0] h3) fun v4 h4 =>
 bnd (pStore 6 v4 v3 h4) fun _ h5 =>
    s134a3 rec n (env 0) (env 4) v4 h5) = (K3 (s134a2 rec n) 0 3 4) := by kernel_rfl
theorem s134a2e : D134 rec n c134x2 x0 r134 = (K3 (s134a2 rec n) 0 3 4) :=
  (s134a2p3 rec n).trans
  ((s134a2q4 rec n (s134a3 rec n)).trans (s134a2q4u rec n))
theorem s134a1p5 : D134 rec n c134x1 x0 r134 = D134 rec n c134x9 x0 (K3 (s134a2 rec n) 0 3 4) :=
  congrArg (fun k => D134 rec n c134x9 x0 k) (s134a2e rec n)
theorem s134a1e : D134 rec n c134x1 x0 r134 = (K3 (s134a1 rec n) 0 3 4) :=
  (s134a1p5 rec n).trans
  ((by kernel_rfl))
theorem s134p6 : D134 rec n c134 x0 r134 = D134 rec n c134x10 x0 (K3 (s134a1 rec n) 0 3 4) :=
  congrArg (fun k => D134 rec n c134x10 x0 k) (s134a1e rec n)
theorem s134q7 (q0 : TT3) : D134 rec n c134x10 x0 (K3 q0 0 3 4) = fun (env : Env) (h : Hp) =>
 bnd (pBox (env 1) h) fun v1 h1 =>
 bnd (pNew [(.i .i64 (Int.ofNat 0)), (.s []), (.i .i64 (Int.ofNat 0)), .l0, .l0, .l0] h1) fun v2 h2 =>
    q0 (env 0) v1 v2 h2 := by kernel_rfl
theorem s134q7u : (fun (env : Env) (h : Hp) =>
 bnd (pBox (env 1) h) fun v1 h1 =>
 bnd (pNew [(.i .i64 (Int.ofNat 0)), (.s []), (.i .i64 (Int.ofNat 0)), .l0, .l0, .l0] h1) fun v2 h2 =>
    s134a1 rec n (env 0) v1 v2 h2) = (K2 (s134 rec n) 0 1) := by kernel_rfl
theorem s134m : D134 rec n c134 x0 r134 = (K2 (s134 rec n) 0 1) :=
  (s134p6 rec n).trans
  ((s134q7 rec n (s134a1 rec n)).trans (s134q7u rec n))
theorem s134ok (args : List DV) (h : Hp) : bodyD CF rec n 134 args h = s134 rec n (args.getD 0 undefD) (args.getD 1 undefD) h :=
  (by kernel_rfl : bodyD CF rec n 134 args h = D134 rec n c134 x0 r134 (argsE args) h).trans ((congrFun (congrFun (s134m rec n) (argsE args)) h).trans (by kernel_rfl))
def s135a2 (rec : RT) (n : Nat) (x3 x4 : DV) (h0 : Hp) : Res :=
 bnd (pLoadA 6 x3 h0) fun v1 h1 =>
 bnd (pStore 6 x4 v1 h1) fun _ h2 =>
 bnd (pLoadA 6 x4 h2) fun v3 _ =>
 some (v3, h2)
def s135a3b (rec : RT) (n : Nat) (kk3 : TT3) (x0 x3 x4 : DV) (h0 : Hp) : Res :=
 bnd (rec 77 [x0, (.i .i64 (Int.ofNat 3)), (.s [])] h0) fun v1 h1 =>
 ifD v1 (
 bnd (rec 78 [x0] h1) fun v2 h2 =>
 bnd (pNew [(.i .i64 (Int.ofNat 0)), (.s []), (.i .i64 (Int.ofNat 0)), (.i .i64 (Int.ofNat 0))] h2) fun v3 h3 =>
 bnd (pStore 4 v3 v2 h3) fun _ h4 =>
 bnd (pField 1 v3 (resv 1 h4)) fun v5 h5 =>
 bnd (pLoad1 v5 h5) fun v6 h6 =>
 bnd (pLoadA 6 x3 h6) fun v7 h7 =>
 bnd (rec 137 [x0] h7) fun v8 h8 =>
 cnd (sameR (pLoadA 6 x3 h8) v7 && (sameR (pLoad1 v5 h8) v6 && true)) (
 bnd (rec 136 [x0, v8] h8) fun v9 h9 =>
 cnd (sameR (pLoadA 6 x3 h9) v7 && (sameR (pLoad1 v5 h9) v6 && true)) (
 bnd (pBuildSliceAt (nthPos 0 h4.next) [(.i .i64 (Int.ofNat 0)), (.s []), (.i .i64 (Int.ofNat 0)), .l0, .l0, .l0, (.i .i64 (Int.ofNat 0)), (.s []), (.i .i64 (Int.ofNat 0)), .l0, .l0, .l0] 2 [(0, 6, v7), (6, 6, v9)] h9) fun v10 h10 =>
 bnd (rec 149 [v6, v10] h10) fun v11 h11 =>
 bnd (pStore 6 x3 v11 h11) fun v12 h12 =>
      kk3 x0 x3 x4 h12))) (
      s135a2 rec n x3 x4 h1)
def s135a3l (rec : RT) (n : Nat) (m : Nat) : TT3 :=
  Nat.rec (motive := fun _ => TT3) (fun _ _ _ _ => none) (fun _ ih => s135a3b rec n ih) m
def s135a3 (rec : RT) (n : Nat) : TT3 := s135a3l rec n n
def s135a1 (rec : RT) (n : Nat) (x0 x3 x4 : DV) (h0 : Hp) : Res :=
  s135a3 rec n x0 x3 x4 h0
/-- parse.parser).binary -/
def s135 (rec : RT) (n : Nat) (x0 x1 : DV) (h0 : Hp) : Res :=
 bnd (pBox x1 h0) fun v1 h1 =>
 bnd (pNew [(.i .i64 (Int.ofNat 0)), (.s []), (.i .i64 (Int.ofNat 0)), .l0, .l0, .l0] h1) fun v2 h2 =>
  s135a1 rec n x0 v1 v2 h2
abbrev c135 : Code := cf Tryz.f135
abbrev c135x1 : Code := cR c135
abbrev c135x2 : Code := cR c135x1
abbrev c135x3 : Code := cL c135x1
abbrev c135x4 : Code := cL c135x3
abbrev c135x5 : Code := cL c135x4
abbrev c135x6 : Code := cL c135
abbrev r135 : K := retK CF Tryz.f135
def D135 (rec : RT) (n : Nat) (c : Code) (X : Nat → K) (k : K) : K := codeD CF rec 20 n c X r135 k
theorem s135a2e : D135 rec n c135x2 x0 r135 = (K2 (s135a2 rec n) 3 4) :=
  (by kernel_rfl)
theorem s135a3q1 (kk3 : TT3) (q0 : TT2) : D135 rec n c135x5 (xs x0 0 (K2 q0 3 4)) (K3 kk3 0 3 4) = fun (env : Env) (h : Hp) =>
 bnd (rec 77 [(env 0), (.i .i64 (Int.ofNat 3)), (.s [])] h) fun v1 h1 =>
 ifD v1 (
 bnd (rec 78 [(env 0)] h1) fun v2 h2 =>
 bnd (pNew [(.i .i64 (Int.ofNat 0)), (.s []), (.i .i64 (Int.ofNat 0)), (.i .i64 (Int.ofNat 0))] h2) fun v3 h3 =>
 bnd (pStore 4 v3 v2 h3) fun _ h4 =>
 bnd (pField 1 v3 (resv 1 h4)) fun v5 h5 =>
 bnd (pLoad1 v5 h5) fun v6 h6 =>
 bnd (pLoadA 6 (env 3) h6) fun v7 h7 =>
 bnd (rec 137 [(env 0)] h7) fun v8 h8 =>
 cnd (sameR (pLoadA 6 (env 3) h8) v7 && (sameR (pLoad1 v5 h8) v6 && true)) (
 bnd (rec 136 [(env 0), v8] h8) fun v9 h9 =>
 cnd (sameR (pLoadA 6 (env 3) h9) v7 && (sameR (pLoad1 v5 h9) v6 && true)) (
 bnd (pBuildSliceAt (nthPos 0 h4.next) [(.i .i64 (Int.ofNat 0)), (.s []), (.i .i64 (Int.ofNat 0)), .l0, .l0, .l0, (.i .i64 (Int.ofNat 0)), (.s []), (.i .i64 (Int.ofNat 0)), .l0, .l0, .l0] 2 [(0, 6, v7), (6, 6, v9)] h9) fun v10 h10 =>
 bnd (rec 149 [v6, v10] h10) fun v11 h11 =>
 bnd (pStore 6 (env 3) v11 h11) fun v12 h12 =>
      kk3 (env 0) (env 3) (env 4) h12))) (
      q0 (env 3) (env 4) h1) := by kernel_rfl
theorem s135a3q1u (kk3 : TT3) : (fun (env : Env) (h : Hp) =>
 bnd (rec 77 [(env 0), (.i .i64 (Int.ofNat 3)), (.s [])] h) fun v1 h1 =>
 ifD v1 (
 bnd (rec 78 [(env 0)] h1) fun v2 h2 =>
 bnd (pNew [(.i .i64 (Int.ofNat 0)), (.s []), (.i .i64 (Int.ofNat 0)), (.i .i64 (Int.ofNat 0))] h2) fun v3 h3 =>
 bnd (pStore 4 v3 v2 h3) fun _ h4 =>
 bnd (pField 1 v3 (resv 1 h4)) fun v5 h5 =>
 bnd (pLoad1 v5 h5) fun v6 h6 =>
 bnd (pLoadA 6 (env 3) h6) fun v7 h7 =>
 bnd (rec 137 [(env 0)] h7) fun v8 h8 =>
 cnd (sameR (pLoadA 6 (env 3) h8) v7 && (sameR (pLoad1 v5 h8) v6 && true)) (
 bnd (rec 136 [(env 0), v8] h8) fun v9 h9 =>
 cnd (sameR (pLoadA 6 (env 3) h9) v7 && (sameR (pLoad1 v5 h9) v6 && true)) (
 bnd (pBuildSliceAt (nthPos 0 h4.next) [(.i .i64 (Int.ofNat 0)), (.s []), (.i .i64 (Int.ofNat 0)), .l0, .l0, .l0, (.i .i64 (Int.ofNat 0)), (.s []), (.i .i64 (Int.ofNat 0)), .l0, .l0, .l0] 2 [(0, 6, v7), (6, 6, v9)] h9) fun v10 h10 =>
 bnd (rec 149 [v6, v10] h10) fun v11 h11 =>
 bnd (pStore 6 (env 3) v11 h11) fun v12 h12 =>
      kk3 (env 0) (env 3) (env 4) h12))) (
      s135a2 rec n (env 3) (env 4) h1)) = (K3 (s135a3b rec n kk3) 0 3 4) := by kernel_rfl
theorem s135a3be (kk3 : TT3) : D135 rec n c135x5 (xs x0 0 (K2 (s135a2 rec n) 3 4)) (K3 kk3 0 3 4) = (K3 (s135a3b rec n kk3) 0 3 4) :=
  (s135a3q1 rec n kk3 (s135a2 rec n)).trans (s135a3q1u rec n kk3)
theorem s135a3le (m : Nat) : loopN (fun kk => D135 rec n c135x5 (xs x0 0 (K2 (s135a2 rec n) 3 4)) kk) m = (K3 (s135a3l rec n m) 0 3 4) := by
  induction m with
  | zero => exact (by kernel_rfl : loopN (fun kk => D135 rec n c135x5 (xs x0 0 (K2 (s135a2 rec n) 3 4)) kk) 0 = (K3 (s135a3l rec n 0) 0 3 4))
  | succ m ih =>
    refine (by kernel_rfl : loopN (fun kk => D135 rec n c135x5 (xs x0 0 (K2 (s135a2 rec n) 3 4)) kk) (m + 1) = D135 rec n c135x5 (xs x0 0 (K2 (s135a2 rec n) 3 4)) (loopN (fun kk => D135 rec n c135x5 (xs x0 0 (K2 (s135a2 rec n) 3 4)) kk) m)).trans ?_
    rw [ih]
    exact (s135a3be rec n (s135a3l rec n m)).trans (by kernel_rfl)
theorem s135a3e : D135 rec n c135x4 (xs x0 0 (K2 (s135a2 rec n) 3 4)) (K2 (s135a2 rec n) 3 4) = (K3 (s135a3 rec n) 0 3 4) :=
  (by kernel_rfl : D135 rec n c135x4 (xs x0 0 (K2 (s135a2 rec n) 3 4)) (K2 (s135a2 rec n) 3 4) = loopN (fun kk => D135 rec n c135x5 (xs x0 0 (K2 (s135a2 rec n) 3 4)) kk) n).trans ((s135a3le rec n n).trans (by kernel_rfl))
theorem s135a1p2 : D135 rec n c135x1 x0 r135 = D135 rec n c135x3 x0 (K2 (s135a2 rec n) 3 4) :=
  congrArg (fun k => D135 rec n c135x3 x0 k) (s135a2e rec n)
theorem s135a1e : D135 rec n c135x1 x0 r135 = (K3 (s135a1 rec n) 0 3 4) :=
  (s135a1p2 rec n).trans
  ((by kernel_rfl : D135 rec n c135x3 x0 (K2 (s135a2 rec n) 3 4) = D135 rec n c135x4 (xs x0 0 (K2 (s135a2 rec n) 3 4)) (K2 (s135a2 rec n) 3 4)).trans
  ((s135a3e rec n).trans (by kernel_rfl)))
theorem s135p3 : D135 rec n c135 x0 r135 = D135 rec n c135x6 x0 (K3 (s135a1 rec n) 0 3 4) :=
  congrArg (fun k => D135 rec n c135x6 x0 k) (s135a1e rec n)
theorem s135q4 (q0 : TT3) : D135 rec n c135x6 x0 (K3 q0 0 3 4) = fun (env : Env) (h : Hp) =>
 bnd (pBox (env 1) h) fun v1 h1 =>
 bnd (pNew [(.i .i64 (Int.ofNat 0)), (.s []), (.i .i64 (Int.ofNat 0)), .l0, .l0, .l0] h1) fun v2 h2 =>
    q0 (env 0) v1 v2 h2 := by kernel_rfl
theorem s135q4u : (fun (env : Env) (h : Hp) =>
 bnd (pBox (env 1) h) fun v1 h1 =>
 bnd (pNew [(.i .i64 (Int.ofNat 0)), (.s []), (.i .i64 (Int.ofNat 0)), .l0, .l0, .l0] h1) fun v2 h2 =>
    s135a1 rec n (env 0) v1 v2 h2) = (K2 (s135 rec n) 0 1) := by kernel_rfl
theorem s135m : D135 rec n c135 x0 r135 = (K2 (s135 rec n) 0 1) :=
  (s135p3 rec n).trans
  ((s135q4 rec n (s135a1 rec n)).trans (s135q4u rec n))
theorem s135ok (args : List DV) (h : Hp) : bodyD CF rec n 135 args h = s135 rec n (args.getD 0 undefD) (args.getD 1 undefD) h :=
  (by kernel_rfl : bodyD CF rec n 135 args h = D135 rec n c135 x0 r135 (argsE args) h).trans ((congrFun (congrFun (s135m rec n) (argsE args)) h).trans (by kernel_rfl))
def s136a2 (rec : RT) (n : Nat) (x3 x4 : DV) (h0 : Hp) : Res :=
 bnd (pLoadA 6 x3 h0) fun v1 h1 =>
 bnd (pStore 6 x4 v1 h1) fun _ h2 =>
 bnd (pLoadA 6 x4 h2) fun v3 _ =>
 some (v3, h2)
def s136a3b (rec : RT) (n : Nat) (kk3 : TT3) (x0 x3 x4 : DV) (h0 : Hp) : Res :=
 bnd (rec 77 [x0, (.i .i64 (Int.ofNat 1)), (.s [])] h0) fun v1 h1 =>
 ifD v1 (
 bnd (rec 78 [x0] (resv 1 h1)) fun v2 h2 =>
 bnd (pPart1 1 v2 h2) fun v3 h3 =>
 bnd (pLoadA 6 x3 h3) fun v4 h4 =>
 cnd (sameR (pLoadA 6 x3 (resv 1 h1)) v4 && true) (
 bnd (pBuildSliceAt (nthPos 0 h1.next) [(.i .i64 (Int.ofNat 0)), (.s []), (.i .i64 (Int.ofNat 0)), .l0, .l0, .l0] 1 [(0, 6, v4)] h4) fun v5 h5 =>
 bnd (rec 149 [v3, v5] h5) fun v6 h6 =>
 bnd (pStore 6 x3 v6 h6) fun v7 h7 =>
      kk3 x0 x3 x4 h7)) (
      s136a2 rec n x3 x4 h1)
def s136a3l (rec : RT) (n : Nat) (m : Nat) : TT3 :=
  Nat.rec (motive := fun _ => TT3) (fun _ _ _ _ => none) (fun _ ih => s136a3b rec n ih) m
def s136a3 (rec : RT) (n : Nat) : TT3 := s136a3l rec n n
def s136a1 (rec : RT) (n : Nat) (x0 x3 x4 : DV) (h0 : Hp) : Res :=
  s136a3 rec n x0 x3 x4 h0
/-- parse.parser).unary -/
def s136 (rec : RT) (n : Nat) (x0 x1 : DV) (h0 : Hp) : Res :=
 bnd (pBox x1 h0) fun v1 h1 =>
 bnd (pNew [(.i .i64 (Int.ofNat 0)), (.s []), (.i .i64 (Int.ofNat 0)), .l0, .l0, .l0] h1) fun v2 h2 =>
  s136a1 rec n x0 v1 v2 h2
abbrev c136 : Code := cf Tryz.f136
abbrev c136x1 : Code := cR c136
abbrev c136x2 : Code := cR c136x1
abbrev c136x3 : Code := cL c136x1
abbrev c136x4 : Code := cL c136x3
abbrev c136x5 : Code := cL c136x4
abbrev c136x6 : Code := cL c136
abbrev r136 : K := retK CF Tryz.f136
def D136 (rec : RT) (n : Nat) (c : Code) (X : Nat → K) (k : K) : K := codeD CF rec 14 n c X r136 k
theorem s136a2e : D136 rec n c136x2 x0 r136 = (K2 (s136a2 rec n) 3 4) :=
  (by kernel_rfl)
theorem s136a3q1 (kk3 : TT3) (q0 : TT2) : D136 rec n c136x5 (xs x0 0 (K2 q0 3 4)) (K3 kk3 0 3 4) = fun (env : Env) (h : Hp) =>
 bnd (rec 77 [(env 0), (.i .i64 (Int.ofNat 1)), (.s [])] h) fun v1 h1 =>
 ifD v1 (
 bnd (rec 78 [(env 0)] (resv 1 h1)) fun v2 h2 =>
 bnd (pPart1 1 v2 h2) fun v3 h3 =>
 bnd (pLoadA 6 (env 3) h3) fun v4 h4 =>
 cnd (sameR (pLoadA 6 (env 3) (resv 1 h1)) v4 && true) (
 bnd (pBuildSliceAt (nthPos 0 h1.next) [(.i .i64 (Int.ofNat 0)), (.s []), (.i .i64 (Int.ofNat 0)), .l0, .l0, .l0] 1 [(0, 6, v4)] h4) fun v5 h5 =>
 bnd (rec 149 [v3, v5] h5) fun v6 h6 =>
 bnd (pStore 6 (env 3) v6 h6) fun v7 h7 =>
      kk3 (env 0) (env 3) (env 4) h7)) (
      q0 (env 3) (env 4) h1) := by kernel_rfl
theorem s136a3q1u (kk3 : TT3) : (fun (env : Env) (h : Hp) =>
 bnd (rec 77 [(env 0), (.i .i64 (Int.ofNat 1)), (.s [])] h) fun v1 h1 =>
 ifD v1 (
 bnd (rec 78 [(env 0)] (resv 1 h1)) fun v2 h2 =>
 bnd (pPart1 1 v2 h2) fun v3 h3 =>
 bnd (pLoadA 6 (env 3) h3) fun v4 h4 =>
 cnd (sameR (pLoadA 6 (env 3) (resv 1 h1)) v4 && true) (
 bnd (pBuildSliceAt (nthPos 0 h1.next) [(.i .i64 (Int.ofNat 0)), (.s []), (.i .i64 (Int.ofNat 0)), .l0, .l0, .l0] 1 [(0, 6, v4)] h4) fun v5 h5 =>
 bnd (rec 149 [v3, v5] h5) fun v6 h6 =>
 bnd (pStore 6 (env 3) v6 h6) fun v7 h7 =>
      kk3 (env 0) (env 3) (env 4) h7)) (
      s136a2 rec n (env 3) (env 4) h1)) = (K3 (s136a3b rec n kk3) 0 3 4) := by kernel_rfl
theorem s136a3be (kk3 : TT3) : D136 rec n c136x5 (xs x0 0 (K2 (s136a2 rec n) 3 4)) (K3 kk3 0 3 4) = (K3 (s136a3b rec n kk3) 0 3 4) :=
  (s136a3q1 rec n kk3 (s136a2 rec n)).trans (s136a3q1u rec n kk3)
theorem s136a3le (m : Nat) : loopN (fun kk => D136 rec n c136x5 (xs x0 0 (K2 (s136a2 rec n) 3 4)) kk) m = (K3 (s136a3l rec n m) 0 3 4) := by
  induction m with
  | zero => exact (by kernel_rfl : loopN (fun kk => D136 rec n c136x5 (xs x0 0 (K2 (s136a2 rec n) 3 4)) kk) 0 = (K3 (s136a3l rec n 0) 0 3 4))
  | succ m ih =>
    refine (by kernel_rfl : loopN (fun kk => D136 rec n c136x5 (xs x0 0 (K2 (s136a2 rec n) 3 4)) kk) (m + 1) = D136 rec n c136x5 (xs x0 0 (K2 (s136a2 rec n) 3 4)) (loopN (fun kk => D136 rec n c136x5 (xs x0 0 (K2 (s136a2 rec n) 3 4)) kk) m)).trans ?_
    rw [ih]
    exact (s136a3be rec n (s136a3l rec n m)).trans (by kernel_rfl)
theorem s136a3e : D136 rec n c136x4 (xs x0 0 (K2 (s136a2 rec n) 3 4)) (K2 (s136a2 rec n) 3 4) = (K3 (s136a3 rec n) 0 3 4) :=
  (by kernel_rfl : D136 rec n c136x4 (xs x0 0 (K2 (s136a2 rec n) 3 4)) (K2 (s136a2 rec n) 3 4) = loopN (fun kk => D136 rec n c136x5 (xs x0 0 (K2 (s136a2 rec n) 3 4)) kk) n).trans ((s136a3le rec n n).trans (by kernel_rfl))
theorem s136a1p2 : D136 rec n c136x1 x0 r136 = D136 rec n c136x3 x0 (K2 (s136a2 rec n) 3 4) :=
  congrArg (fun k => D136 rec n c136x3 x0 k) (s136a2e rec n)
theorem s136a1e : D136 rec n c136x1 x0 r136 = (K3 (s136a1 rec n) 0 3 4) :=
  (s136a1p2 rec n).trans
  ((by kernel_rfl : D136 rec n c136x3 x0 (K2 (s136a2 rec n) 3 4) = D136 rec n c136x4 (xs x0 0 (K2 (s136a2 rec n) 3 4)) (K2 (s136a2 rec n) 3 4)).trans
  ((s136a3e rec n).trans (by kernel_rfl)))
theorem s136p3 : D136 rec n c136 x0 r136 = D136 rec n c136x6 x0 (K3 (s136a1 rec n) 0 3 4) :=
  congrArg (fun k => D136 rec n c136x6 x0 k) (s136a1e rec n)
theorem s136q4 (q0 : TT3) : D136 rec n c136x6 x0 (K3 q0 0 3 4) = fun (env : Env) (h : Hp) =>
 bnd (pBox (env 1) h) fun v1 h1 =>
 bnd (pNew [(.i .i64 (Int.ofNat 0)), (.s []), (.i .i64 (Int.ofNat 0)), .l0, .l0, .l0] h1) fun v2 h2 =>
    q0 (env 0) v1 v2 h2 := by kernel_rfl
theorem s136q4u : (fun (env : Env) (h : Hp) =>
 bnd (pBox (env 1) h) fun v1 h1 =>
 bnd (pNew [(.i .i64 (Int.ofNat 0)), (.s []), (.i .i64 (Int.ofNat 0)), .l0, .l0, .l0] h1) fun v2 h2 =>
    s136a1 rec n (env 0) v1 v2 h2) = (K2 (s136 rec n) 0 1) := by kernel_rfl
theorem s136m : D136 rec n c136 x0 r136 = (K2 (s136 rec n) 0 1) :=
  (s136p3 rec n).trans
  ((s136q4 rec n (s136a1 rec n)).trans (s136q4u rec n))
theorem s136ok (args : List DV) (h : Hp) : bodyD CF rec n 136 args h = s136 rec n (args.getD 0 undefD) (args.getD 1 undefD) h :=
  (by kernel_rfl : bodyD CF rec n 136 args h = D136 rec n c136 x0 r136 (argsE args) h).trans ((congrFun (congrFun (s136m rec n) (argsE args)) h).trans (by kernel_rfl))
def s137a3 (rec : RT) (n : Nat) (x2 : DV) (h0 : Hp) : Res :=
 bnd (pBuild [(.i .i64 (Int.ofNat 0)), (.s []), (.i .i64 (Int.ofNat 0)), .l0, .l0, .l0] [] h0) fun v1 h1 =>
 bnd (pStore 6 x2 v1 h1) fun _ h2 =>
 bnd (pLoadA 6 x2 h2) fun v3 _ =>
 some (v3, h2)
def s137a2 (rec : RT) (n : Nat) (x0 x2 : DV) (h0 : Hp) : Res :=
 bnd (rec 81 [x0, (.i .i64 (Int.ofNat 0))] h0) fun v1 h1 =>
 bnd (pNew [(.i .i64 (Int.ofNat 0)), (.s []), (.i .i64 (Int.ofNat 0)), (.i .i64 (Int.ofNat 0))] h1) fun v2 h2 =>
 bnd (pStore 4 v2 v1 h2) fun _ h3 =>
 bnd (pNil x0 h3) fun v4 h4 =>
 bnd (pField 3 v4 h4) fun v5 h5 =>
 bnd (pLoad1 v5 h5) fun v6 h6 =>
 bnd (pInt .neq v6 (.i .i64 (Int.ofNat 0)) h6) fun v7 h7 =>
 ifD v7 (
    s137a3 rec n x2 h7) (
 bnd (pField 0 v2 h7) fun v8 h8 =>
 bnd (pLoad1 v8 h8) fun v9 h9 =>
 bnd (pInt .eql v9 (.i .i64 (Int.ofNat 1)) h9) fun v10 h10 =>
 ifD v10 (
 bnd (rec 78 [x0] h10) fun v11 h11 =>
 bnd (pPart1 1 v11 h11) fun v12 h12 =>
 bnd (pBuild [(.i .i64 (Int.ofNat 0)), (.s []), (.i .i64 (Int.ofNat 0)), .l0, .l0, .l0] [(0, 1, (.i .i64 (Int.ofNat 5))), (1, 1, v12)] h12) fun v13 h13 =>
 bnd (pStore 6 x2 v13 h13) fun _ h14 =>
 bnd (pLoadA 6 x2 h14) fun v15 _ =>
 some (v15, h14)) (
 bnd (pField 0 v2 h10) fun v16 h16 =>
 bnd (pLoad1 v16 h16) fun v17 h17 =>
 bnd (pInt .eql v17 (.i .i64 (Int.ofNat 7)) h17) fun v18 h18 =>
 ifD v18 (
 bnd (rec 151 [x0, (.f 152 [x0] [])] h18) fun v19 h19 =>
 bnd (pStore 6 x2 v19 h19) fun _ h20 =>
 bnd (pLoadA 6 x2 h20) fun v21 _ =>
 some (v21, h20)) (
 bnd (rec 77 [x0, (.i .i64 (Int.ofNat 10)), (.s [40])] h18) fun v22 h22 =>
 ifD v22 (
 bnd (rec 151 [x0, (.f 153 [x0] [])] h22) fun v23 h23 =>
 bnd (pStore 6 x2 v23 h23) fun _ h24 =>
 bnd (pLoadA 6 x2 h24) fun v25 _ =>
 some (v25, h24)) (
 bnd (rec 77 [x0, (.i .i64 (Int.ofNat 10)), (.s [91])] h22) fun v26 h26 =>
 ifD v26 (
 bnd (rec 151 [x0, (.f 154 [x0] [])] h26) fun v27 h27 =>
 bnd (pStore 6 x2 v27 h27) fun _ h28 =>
 bnd (pLoadA 6 x2 h28) fun v29 _ =>
 some (v29, h28)) (
 bnd (pLoadA 4 v2 h26) fun v30 h30 =>
 bnd (rec 80 [x0, v30, (.i .i64 (Int.ofNat 13))] h30) fun v31 h31 =>
            s137a3 rec n x2 h31)))))
def s137a1 (rec : RT) (n : Nat) (x0 x2 : DV) (h0 : Hp) : Res :=
 bnd (rec 150 [x0] h0) fun v1 h1 =>
 bnd (pExtract 0 v1 h1) fun v2 h2 =>
 bnd (pExtract 1 v1 h2) fun v3 h3 =>
 bnd (pNew [(.i .i64 (Int.ofNat 0)), (.s []), (.i .i64 (Int.ofNat 0)), .l0, .l0, .l0] h3) fun v4 h4 =>
 bnd (pStore 6 v4 v2 h4) fun _ h5 =>
 ifD v3 (
 bnd (pLoadA 6 v4 h5) fun v6 h6 =>
 bnd (pStore 6 x2 v6 h6) fun _ h7 =>
 bnd (pLoadA 6 x2 h7) fun v8 _ =>
 some (v8, h7)) (
    s137a2 rec n x0 x2 h5)
/-- parse.parser).primary -/
def s137 (rec : RT) (n : Nat) (x0 : DV) (h0 : Hp) : Res :=
 bnd (pNew [(.i .i64 (Int.ofNat 0)), (.s []), (.i .i64 (Int.ofNat 0)), .l0, .l0, .l0] h0) fun v1 h1 =>
  s137a1 rec n x0 v1 h1
abbrev c137 : Code := cf Tryz.f137
abbrev c137x1 : Code := cR c137
abbrev c137x2 : Code := cR c137x1
abbrev c137x3 : Code := cR c137x2
abbrev c137x4 : Code := cL c137x2
abbrev c137x5 : Code := cL c137x1
abbrev c137x6 : Code := cL c137
abbrev r137 : K := retK CF Tryz.f137
def D137 (rec : RT) (n : Nat) (c : Code) (X : Nat → K) (k : K) : K := codeD CF rec 55 n c X r137 k
theorem s137a3e : D137 rec n c137x3 x0 r137 = (K1 (s137a3 rec n) 2) :=
  (by kernel_rfl)
theorem s137a2p1 : D137 rec n c137x2 x0 r137 = D137 rec n c137x4 x0 (K1 (s137a3 rec n) 2) :=
  congrArg (fun k => D137 rec n c137x4 x0 k) (s137a3e rec n)
theorem s137a2q2 (q0 : TT1) : D137 rec n c137x4 x0 (K1 q0 2) = fun (env : Env) (h : Hp) =>
 bnd (rec 81 [(env 0), (.i .i64 (Int.ofNat 0))] h) fun v1 h1 =>
 bnd (pNew [(.i .i64 (Int.ofNat 0)), (.s []), (.i .i64 (Int.ofNat 0)), (.i .i64 (Int.ofNat 0))] h1) fun v2 h2 =>
 bnd (pStore 4 v2 v1 h2) fun _ h3 =>
 bnd (pNil (env 0) h3) fun v4 h4 =>
 bnd (pField 3 v4 h4) fun v5 h5 =>
 bnd (pLoad1 v5 h5) fun v6 h6 =>
 bnd (pInt .neq v6 (.i .i64 (Int.ofNat 0)) h6) fun v7 h7 =>
 ifD v7 (
      q0 (env 2) h7) (
 bnd (pField 0 v2 h7) fun v8 h8 =>
 bnd (pLoad1 v8 h8) fun v9 h9 =>
 bnd (pInt .eql v9 (.i .i64 (Int.ofNat 1)) h9) fun v10 h10 =>
 ifD v10 (
 bnd (rec 78 [(env 0)] h10) fun v11 h11 =>
 bnd (pPart1 1 v11 h11) fun v12 h12 =>
 bnd (pBuild [(.i .i64 (Int.ofNat 0)), (.s []), (.i .i64 (Int.ofNat 0)), .l0, .l0, .l0] [(0, 1, (.i .i64 (Int.ofNat 5))), (1, 1, v12)] h12) fun v13 h13 =>
 bnd (pStore 6 (env 2) v13 h13) fun _ h14 =>
 bnd (pLoadA 6 (env 2) h14) fun v15 _ =>
 some (v15, h14)) (
 bnd (pField 0 v2 h10) fun v16 h16 =>
 bnd (pLoad1 v16 h16) fun v17 h17 =>
 bnd (pInt .eql v17 (.i .i64 (Int.ofNat 7)) h17) fun v18 h18 =>
 ifD v18 (
 bnd (rec 151 [(env 0), (.f 152 [(env 0)] [])] h18) fun v19 h19 =>
 bnd (pStore 6 (env 2) v19 h19) fun _ h20 =>
 bnd (pLoadA 6 (env 2) h20) fun v21 _ =>
 some (v21, h20)) (
 bnd (rec 77 [(env 0), (.i .i64 (Int.ofNat 10)), (.s [40])] h18) fun v22 h22 =>
 ifD v22 (
 bnd (rec 151 [(env 0), (.f 153 [(env 0)] [])] h22) fun v23 h23 =>
 bnd (pStore 6 (env 2) v23 h23) fun _ h24 =>
 bnd (pLoadA 6 (env 2) h24) fun v25 _ =>
 some (v25, h24)) (
 bnd (rec 77 [(env 0), (.i .i64 (Int.ofNat 10)), (.s [91])] h22) fun v26 h26 =>
 ifD v26 (
 bnd (rec 151 [(env 0), (.f 154 [(env 0)] [])] h26) fun v27 h27 =>
 bnd (pStore 6 (env 2) v27 h27) fun _ h28 =>
 bnd (pLoadA 6 (env 2) h28) fun v29 _ =>
 some (v29, h28)) (
 bnd (pLoadA 4 v2 h26) fun v30 h30 =>
 bnd (rec 80 [(env 0), v30, (.i .i64 (Int.ofNat 13))] h30) fun v31 h31 =>
              q0 (env 2) h31))))) := by kernel_rfl
theorem s137a2q2u : (fun (env : Env) (h : Hp) =>
 bnd (rec 81 [(env 0), (.i .i64 (Int.ofNat 0))] h) fun v1 h1 =>
 bnd (pNew [(.i .i64 (Int.ofNat 0)), (.s []), (.i .i64 (Int.ofNat 0)), (.i .i64 (Int.ofNat 0))] h1) fun v2 h2 =>
 bnd (pStore 4 v2 v1 h2) fun _ h3 =>
 bnd (pNil (env 0) h3) fun v4 h4 =>
 bnd (pField 3 v4 h4) fun v5 h5 =>
 bnd (pLoad1 v5 h5) fun v6 h6 =>
 bnd (pInt .neq v6 (.i .i64 (Int.ofNat 0)) h6) fun v7 h7 =>
 ifD v7 (
      s137a3 rec n (env 2) h7) (
 bnd (pField 0 v2 h7) fun v8 h8 =>
 bnd (pLoad1 v8 h8) fun v9 h9 =>
 bnd (pInt .eql v9 (.i .i64 (Int.ofNat 1)) h9) fun v10 h10 =>
 ifD v10 (
 bnd (rec 78 [(env 0)] h10) fun v11 h11 =>
 bnd (pPart1 1 v11 h11) fun v12 h12 =>
 bnd (pBuild [(.i .i64 (Int.ofNat 0)), (.s []), (.i .i64 (Int.ofNat 0)), .l0, .l0, .l0] [(0, 1, (.i .i64 (Int.ofNat 5))), (1, 1, v12)] h12) fun v13 h13 =>
 bnd (pStore 6 (env 2) v13 h13) fun _ h14 =>
 bnd (pLoadA 6 (env 2) h14) fun v15 _ =>
 some (v15, h14)) (
 bnd (pField 0 v2 h10) fun v16 h16 =>
 bnd (pLoad1 v16 h16) fun v17 h17 =>
 bnd (pInt .eql v17 (.i .i64 (Int.ofNat 7)) h17) fun v18 h18 =>
 ifD v18 (
 bnd (rec 151 [(env 0), (.f 152 [(env 0)] [])] h18) fun v19 h19 =>
 bnd (pStore 6 (env 2) v19 h19) fun _ h20 =>
 bnd (pLoadA 6 (env 2) h20) fun v21 _ =>
 some (v21, h20)) (
 bnd (rec 77 [(env 0), (.i .i64 (Int.ofNat 10)), (.s [40])] h18) fun v22 h22 =>
 ifD v22 (
 bnd (rec 151 [(env 0), (.f 153 [(env 0)] [])] h22) fun v23 h23 =>
 bnd (pStore 6 (env 2) v23 h23) fun _ h24 =>
 bnd (pLoadA 6 (env 2) h24) fun v25 _ =>
 some (v25, h24)) (
 bnd (rec 77 [(env 0), (.i .i64 (Int.ofNat 10)), (.s [91])] h22) fun v26 h26 =>
 ifD v26 (
 bnd (rec 151 [(env 0), (.f 154 [(env 0)] [])] h26) fun v27 h27 =>
 bnd (pStore 6 (env 2) v27 h27) fun _ h28 =>
 bnd (pLoadA 6 (env 2) h28) fun v29 _ =>
 some (v29, h28)) (
 bnd (pLoadA 4 v2 h26) fun v30 h30 =>
 bnd (rec 80 [(env 0), v30, (.i .i64 (Int.ofNat 13))] h30) fun v31 h31 =>
              s137a3 rec n (env 2) h31)))))) = (K2 (s137a2 rec n) 0 2) := by kernel_rfl
theorem s137a2e : D137 rec n c137x2 x0 r137 = (K2 (s137a2 rec n) 0 2) :=
  (s137a2p1 rec n).trans
  ((s137a2q2 rec n (s137a3 rec n)).trans (s137a2q2u rec n))
theorem s137a1p3 : D137 rec n c137x1 x0 r137 = D137 rec n c137x5 x0 (K2 (s137a2 rec n) 0 2) :=
  congrArg (fun k => D137 rec n c137x5 x0 k) (s137a2e rec n)
theorem s137a1q4 (q0 : TT2) : D137 rec n c137x5 x0 (K2 q0 0 2) = fun (env : Env) (h : Hp) =>
 bnd (rec 150 [(env 0)] h) fun v1 h1 =>
 bnd (pExtract 0 v1 h1) fun v2 h2 =>
 bnd (pExtract 1 v1 h2) fun v3 h3 =>
 bnd (pNew [(.i .i64 (Int.ofNat 0)), (.s []), (.i .i64 (Int.ofNat 0)), .l0, .l0, .l0] h3) fun v4 h4 =>
 bnd (pStore 6 v4 v2 h4) fun _ h5 =>
 ifD v3 (
 bnd (pLoadA 6 v4 h5) fun v6 h6 =>
 bnd (pStore 6 (env 2) v6 h6) fun _ h7 =>
 bnd (pLoadA 6 (env 2) h7) fun v8 _ =>
 some (v8, h7)) (
      q0 (env 0) (env 2) h5) := by kernel_rfl
theorem s137a1q4u : (fun (env : Env) (h : Hp) =>
 bnd (rec 150 [(env 0)] h) fun v1 h1 =>
 bnd (pExtract 0 v1 h1) fun v2 h2 =>
 bnd (pExtract 1 v1 h2) fun v3 h3 =>
 bnd (pNew [(.i .i64 (Int.ofNat 0)), (.s []), (.i .i64 (Int.ofNat 0)), .l0, .l0, .l0] h3) fun v4 h4 =>
 bnd (pStore 6 v4 v2 h4) fun _ h5 =>
 ifD v3 (
 bnd (pLoadA 6 v4 h5) fun v6 h6 =>
 bnd (pStore 6 (env 2) v6 h6) fun _ h7 =>
 bnd (pLoadA 6 (env 2) h7) fun v8 _ =>
 some (v8, h7)) (
      s137a2 rec n (env 0) (env 2) h5)) = (K2 (s137a1 rec n) 0 2) := by kernel_rfl
theorem s137a1e : D137 rec n c137x1 x0 r137 = (K2 (s137a1 rec n) 0 2) :=
  (s137a1p3 rec n).trans
  ((s137a1q4 rec n (s137a2 rec n)).trans (s137a1q4u rec n))
theorem s137p5 : D137 rec n c137 x0 r137 = D137 rec n c137x6 x0 (K2 (s137a1 rec n) 0 2) :=
  congrArg (fun k => D137 rec n c137x6 x0 k) (s137a1e rec n)
theorem s137q6 (q0 : TT2) : D137 rec n c137x6 x0 (K2 q0 0 2) = fun (env : Env) (h : Hp) =>
 bnd (pNew [(.i .i64 (Int.ofNat 0)), (.s []), (.i .i64 (Int.ofNat 0)), .l0, .l0, .l0] h) fun v1 h1 =>
    q0 (env 0) v1 h1 := by kernel_rfl
theorem s137q6u : (fun (env : Env) (h : Hp) =>
 bnd (pNew [(.i .i64 (Int.ofNat 0)), (.s []), (.i .i64 (Int.ofNat 0)), .l0, .l0, .l0] h) fun v1 h1 =>
    s137a1 rec n (env 0) v1 h1) = (K1 (s137 rec n) 0) := by kernel_rfl
theorem s137m : D137 rec n c137 x0 r137 = (K1 (s137 rec n) 0) :=
  (s137p5 rec n).trans
  ((s137q6 rec n (s137a1 rec n)).trans (s137q6u rec n))
theorem s137ok (args : List DV) (h : Hp) : bodyD CF rec n 137 args h = s137 rec n (args.getD 0 undefD) h :=
  (by kernel_rfl : bodyD CF rec n 137 args h = D137 rec n c137 x0 r137 (argsE args) h).trans ((congrFun (congrFun (s137m rec n) (argsE args)) h).trans (by kernel_rfl))
/-- parse.message -/
def s138 (rec : RT) (n : Nat) (x0 : DV) (h0 : Hp) : Res :=
 bnd (pBox x0 h0) fun v1 h1 =>
 bnd (pNew [(.i .i64 (Int.ofNat 0)), (.s []), (.i .i64 (Int.ofNat 0)), .l0, .l0, .l0] h1) fun v2 h2 =>
 bnd (pField 5 v1 h2) fun v3 h3 =>
 bnd (pLoad1 v3 h3) fun v4 h4 =>
 bnd (pLen v4 h4) fun v5 h5 =>
 bnd (pInt .eql v5 (.i .i64 (Int.ofNat 0)) h5) fun v6 h6 =>
 ifD v6 (
 bnd (pLoadA 6 v1 h6) fun v7 h7 =>
 bnd (pStore 6 v2 v7 h7) fun _ h8 =>
 bnd (pLoadA 6 v2 h8) fun v9 _ =>
 some (v9, h8)) (
 bnd (pField 1 v1 h6) fun v10 h10 =>
 bnd (pLoad1 v10 h10) fun v11 h11 =>
 bnd (pField 5 v1 h11) fun v12 h12 =>
 bnd (pLoad1 v12 h12) fun v13 h13 =>
 bnd (pSlice 6 v13 (some (.i .i64 (Int.ofNat 1))) none h13) fun v14 h14 =>
 bnd (rec 155 [v14] h14) fun v15 h15 =>
 cnd (sameR (pLoad1 v10 h15) v11 && true) (
 bnd (pBuild [(.i .i64 (Int.ofNat 0)), (.s []), (.i .i64 (Int.ofNat 0)), .l0, .l0, .l0] [(0, 1, (.i .i64 (Int.ofNat 7))), (1, 1, v11), (5, 1, v15)] h15) fun v16 h16 =>
 bnd (pStore 6 v2 v16 h16) fun v17 h17 =>
 bnd (pLoadA 6 v2 h17) fun v18 _ =>
 some (v18, h17)))
abbrev c138 : Code := cf Tryz.f138
abbrev r138 : K := retK CF Tryz.f138
def D138 (rec : RT) (n : Nat) (c : Code) (X : Nat → K) (k : K) : K := codeD CF rec 15 n c X r138 k
theorem s138m : D138 rec n c138 x0 r138 = (K1 (s138 rec n) 0) :=
  (by kernel_rfl)
theorem s138ok (args : List DV) (h : Hp) : bodyD CF rec n 138 args h = s138 rec n (args.getD 0 undefD) h :=
  (by kernel_rfl : bodyD CF rec n 138 args h = D138 rec n c138 x0 r138 (argsE args) h).trans ((congrFun (congrFun (s138m rec n) (argsE args)) h).trans (by kernel_rfl))
/-- parse.parser).message -/
def s139 (rec : RT) (n : Nat) (x0 : DV) (h0 : Hp) : Res :=
 bnd (pNew [(.i .i64 (Int.ofNat 0)), (.s []), (.i .i64 (Int.ofNat 0)), .l0, .l0, .l0] h0) fun v1 h1 =>
 bnd (pNew [(.i .i64 (Int.ofNat 0)), (.s []), (.i .i64 (Int.ofNat 0)), .l0, .l0, .l0] h1) fun v2 h2 =>
 bnd (rec 81 [x0, (.i .i64 (Int.ofNat 0))] h2) fun v3 h3 =>
 bnd (pNew [(.i .i64 (Int.ofNat 0)), (.s []), (.i .i64 (Int.ofNat 0)), (.i .i64 (Int.ofNat 0))] h3) fun v4 h4 =>
 bnd (pStore 4 v4 v3 h4) fun _ h5 =>
 bnd (pField 0 v4 h5) fun v6 h6 =>
 bnd (pLoad1 v6 h6) fun v7 h7 =>
 bnd (pInt .eql v7 (.i .i64 (Int.ofNat 1)) h7) fun v8 h8 =>
 ifD v8 (
 bnd (rec 78 [x0] h8) fun v9 h9 =>
 bnd (pField 1 v4 h9) fun v10 h10 =>
 bnd (pLoad1 v10 h10) fun v11 h11 =>
 bnd (pLoadA 6 v2 h11) fun v12 h12 =>
 bnd (pBuildSlice [(.i .i64 (Int.ofNat 0)), (.s []), (.i .i64 (Int.ofNat 0)), .l0, .l0, .l0] 1 [(0, 6, v12)] h12) fun v13 h13 =>
 bnd (rec 149 [v11, v13] h13) fun v14 h14 =>
 bnd (pStore 6 v1 v14 h14) fun _ h15 =>
 bnd (pLoadA 6 v1 h15) fun v16 _ =>
 some (v16, h15)) (
 bnd (pInt .eql v7 (.i .i64 (Int.ofNat 3)) h8) fun v17 h17 =>
 ifD v17 (
 bnd (rec 78 [x0] h17) fun v18 h18 =>
 bnd (pField 1 v4 (resv 1 h18)) fun v19 h19 =>
 bnd (pLoad1 v19 h19) fun v20 h20 =>
 bnd (pLoadA 6 v2 h20) fun v21 h21 =>
 bnd (rec 137 [x0] h21) fun v22 h22 =>
 cnd (sameR (pLoadA 6 v2 h22) v21 && (sameR (pLoad1 v19 h22) v20 && true)) (
 bnd (rec 136 [x0, v22] h22) fun v23 h23 =>
 cnd (sameR (pLoadA 6 v2 h23) v21 && (sameR (pLoad1 v19 h23) v20 && true)) (
 bnd (pBuildSliceAt (nthPos 0 h18.next) [(.i .i64 (Int.ofNat 0)), (.s []), (.i .i64 (Int.ofNat 0)), .l0, .l0, .l0, (.i .i64 (Int.ofNat 0)), (.s []), (.i .i64 (Int.ofNat 0)), .l0, .l0, .l0] 2 [(0, 6, v21), (6, 6, v23)] h23) fun v24 h24 =>
 bnd (rec 149 [v20, v24] h24) fun v25 h25 =>
 bnd (pStore 6 v1 v25 h25) fun v26 h26 =>
 bnd (pLoadA 6 v1 h26) fun v27 _ =>
 some (v27, h26)))) (
 bnd (pInt .eql v7 (.i .i64 (Int.ofNat 2)) h17) fun v28 h28 =>
 ifD v28 (
 bnd (pLoadA 6 v2 h28) fun v29 h29 =>
 bnd (rec 134 [x0, v29] h29) fun v30 h30 =>
 bnd (pStore 6 v1 v30 h30) fun _ h31 =>
 bnd (pLoadA 6 v1 h31) fun v32 _ =>
 some (v32, h31)) (
 bnd (pLoadA 4 v4 h28) fun v33 h33 =>
 bnd (rec 80 [x0, v33, (.i .i64 (Int.ofNat 13))] h33) fun v34 h34 =>
 bnd (pLoadA 6 v2 h34) fun v35 h35 =>
 bnd (pStore 6 v1 v35 h35) fun _ h36 =>
 bnd (pLoadA 6 v1 h36) fun v37 _ =>
 some (v37, h36))))
abbrev c139 : Code := cf Tryz.f139
abbrev r139 : K := retK CF Tryz.f139
def D139 (rec : RT) (n : Nat) (c : Code) (X : Nat → K) (k : K) : K := codeD CF rec 40 n c X r139 k
theorem s139m : D139 rec n c139 x0 r139 = (K1 (s139 rec n) 0) :=
  (by kernel_rfl)
theorem s139ok (args : List DV) (h : Hp) : bodyD CF rec n 139 args h = s139 rec n (args.getD 0 undefD) h :=
  (by kernel_rfl : bodyD CF rec n 139 args h = D139 rec n c139 x0 r139 (argsE args) h).trans ((congrFun (congrFun (s139m rec n) (argsE args)) h).trans (by kernel_rfl))
/-- parse.send -/
def s149 (rec : RT) (n : Nat) (x0 x1 : DV) (h0 : Hp) : Res :=
 bnd (pNew [(.i .i64 (Int.ofNat 0)), (.s []), (.i .i64 (Int.ofNat 0)), .l0, .l0, .l0] h0) fun v1 h1 =>
 bnd (pBuild [(.i .i64 (Int.ofNat 0)), (.s []), (.i .i64 (Int.ofNat 0)), .l0, .l0, .l0] [(0, 1, (.i .i64 (Int.ofNat 7))), (1, 1, x0), (5, 1, x1)] h1) fun v2 h2 =>
 bnd (pStore 6 v1 v2 h2) fun _ h3 =>
 bnd (pLoadA 6 v1 h3) fun v4 _ =>
 some (v4, h3)
abbrev c149 : Code := cf Tryz.f149
abbrev r149 : K := retK CF Tryz.f149
def D149 (rec : RT) (n : Nat) (c : Code) (X : Nat → K) (k : K) : K := codeD CF rec 8 n c X r149 k
theorem s149m : D149 rec n c149 x0 r149 = (K2 (s149 rec n) 0 1) :=
  (by kernel_rfl)
theorem s149ok (args : List DV) (h : Hp) : bodyD CF rec n 149 args h = s149 rec n (args.getD 0 undefD) (args.getD 1 undefD) h :=
  (by kernel_rfl : bodyD CF rec n 149 args h = D149 rec n c149 x0 r149 (argsE args) h).trans ((congrFun (congrFun (s149m rec n) (argsE args)) h).trans (by kernel_rfl))
def s150a4 (rec : RT) (n : Nat) (x0 x2 x5 : DV) (h0 : Hp) : Res :=
 bnd (rec 78 [x0] h0) fun v1 h1 =>
 bnd (pLoadA 6 x5 h1) fun v2 h2 =>
 bnd (pStore 6 x2 v2 h2) fun _ h3 =>
 bnd (pLoadA 6 x2 h3) fun v4 _ =>
 some (.t [v4, (.b true)], h3)
def s150a3 (rec : RT) (n : Nat) (x0 x2 x4 x5 : DV) (h0 : Hp) : Res :=
 bnd (pNil x0 h0) fun v1 h1 =>
 bnd (pField 3 v1 h1) fun v2 h2 =>
 bnd (pLoad1 v2 h2) fun v3 h3 =>
 bnd (pInt .neq v3 (.i .i64 (Int.ofNat 0)) h3) fun v4 h4 =>
 ifD v4 (
 bnd (pLoadA 6 x5 h4) fun v5 h5 =>
 bnd (pStore 6 x2 v5 h5) fun _ h6 =>
 bnd (pLoadA 6 x2 h6) fun v7 _ =>
 some (.t [v7, (.b false)], h6)) (
 bnd (rec 161 [x0] h4) fun v8 h8 =>
 ifD v8 (
 bnd (rec 78 [x0] h8) fun v9 h9 =>
 bnd (rec 78 [x0] h9) fun v10 h10 =>
 bnd (pPart1 2 v10 h10) fun v11 h11 =>
 bnd (pUn .neg v11 h11) fun v12 h12 =>
 bnd (pBuild [(.i .i64 (Int.ofNat 0)), (.s []), (.i .i64 (Int.ofNat 0)), .l0, .l0, .l0] [(0, 1, (.i .i64 (Int.ofNat 1))), (2, 1, v12)] h12) fun v13 h13 =>
 bnd (pStore 6 x2 v13 h13) fun _ h14 =>
 bnd (pLoadA 6 x2 h14) fun v15 _ =>
 some (.t [v15, (.b true)], h14)) (
 bnd (pField 0 x4 h8) fun v16 h16 =>
 bnd (pLoad1 v16 h16) fun v17 h17 =>
 bnd (pInt .eql v17 (.i .i64 (Int.ofNat 4)) h17) fun v18 h18 =>
 ifD v18 (
 bnd (pField 0 x5 h18) fun v19 h19 =>
 bnd (pStore 1 v19 (.i .i64 (Int.ofNat 1)) h19) fun _ h20 =>
        s150a4 rec n x0 x2 x5 h20) (
 bnd (pField 0 x4 h18) fun v21 h21 =>
 bnd (pLoad1 v21 h21) fun v22 h22 =>
 bnd (pInt .eql v22 (.i .i64 (Int.ofNat 5)) h22) fun v23 h23 =>
 ifD v23 (
 bnd (pField 0 x5 h23) fun v24 h24 =>
 bnd (pStore 1 v24 (.i .i64 (Int.ofNat 2)) h24) fun _ h25 =>
          s150a4 rec n x0 x2 x5 h25) (
 bnd (pField 0 x4 h23) fun v26 h26 =>
 bnd (pLoad1 v26 h26) fun v27 h27 =>
 bnd (pInt .eql v27 (.i .i64 (Int.ofNat 6)) h27) fun v28 h28 =>
 ifD v28 (
 bnd (pField 0 x5 h28) fun v29 h29 =>
 bnd (pStore 1 v29 (.i .i64 (Int.ofNat 3)) h29) fun _ h30 =>
            s150a4 rec n x0 x2 x5 h30) (
 bnd (pLoadA 6 x5 h28) fun v31 h31 =>
 bnd (pStore 6 x2 v31 h31) fun _ h32 =>
 bnd (pLoadA 6 x2 h32) fun v33 _ =>
 some (.t [v33, (.b false)], h32))))))
def s150a2 (rec : RT) (n : Nat) (x0 x2 x4 : DV) (h0 : Hp) : Res :=
 bnd (pField 1 x4 h0) fun v1 h1 =>
 bnd (pLoad1 v1 h1) fun v2 h2 =>
 bnd (pField 2 x4 h2) fun v3 h3 =>
 bnd (pLoad1 v3 h3) fun v4 h4 =>
 bnd (pBuild [(.i .i64 (Int.ofNat 0)), (.s []), (.i .i64 (Int.ofNat 0)), .l0, .l0, .l0] [(1, 1, v2), (2, 1, v4)] h4) fun v5 h5 =>
 bnd (pNew [(.i .i64 (Int.ofNat 0)), (.s []), (.i .i64 (Int.ofNat 0)), .l0, .l0, .l0] h5) fun v6 h6 =>
 bnd (pStore 6 v6 v5 h6) fun _ h7 =>
  s150a3 rec n x0 x2 x4 v6 h7
def s150a1 (rec : RT) (n : Nat) (x0 x2 : DV) (h0 : Hp) : Res :=
 bnd (rec 81 [x0, (.i .i64 (Int.ofNat 0))] h0) fun v1 h1 =>
 bnd (pNew [(.i .i64 (Int.ofNat 0)), (.s []), (.i .i64 (Int.ofNat 0)), (.i .i64 (Int.ofNat 0))] h1) fun v2 h2 =>
 bnd (pStore 4 v2 v1 h2) fun _ h3 =>
  s150a2 rec n x0 x2 v2 h3
/-- parse.parser).plain -/
def s150 (rec : RT) (n : Nat) (x0 : DV) (h0 : Hp) : Res :=
 bnd (pNew [(.i .i64 (Int.ofNat 0)), (.s []), (.i .i64 (Int.ofNat 0)), .l0, .l0, .l0] h0) fun v1 h1 =>
  s150a1 rec n x0 v1 h1
abbrev c150 : Code := cf Tryz.f150
abbrev c150x1 : Code := cR c150
abbrev c150x2 : Code := cR c150x1
abbrev c150x3 : Code := cR c150x2
abbrev c150x4 : Code := cR c150x3
abbrev c150x5 : Code := cL c150x3
abbrev c150x6 : Code := cL c150x2
abbrev c150x7 : Code := cL c150x1
abbrev c150x8 : Code := cL c150
abbrev r150 : K := retK CF Tryz.f150
def D150 (rec : RT) (n : Nat) (c : Code) (X : Nat → K) (k : K) : K := codeD CF rec 49 n c X r150 k
theorem s150a4e : D150 rec n c150x4 x0 r150 = (K3 (s150a4 rec n) 0 2 5) :=
  (by kernel_rfl)
theorem s150a3p1 : D150 rec n c150x3 x0 r150 = D150 rec n c150x5 x0 (K3 (s150a4 rec n) 0 2 5) :=
  congrArg (fun k => D150 rec n c150x5 x0 k) (s150a4e rec n)
theorem s150a3q2 (q0 : TT3) : D150 rec n c150x5 x0 (K3 q0 0 2 5) = fun (env : Env) (h : Hp) =>
 bnd (pNil (env 0) h) fun v1 h1 =>
 bnd (pField 3 v1 h1) fun v2 h2 =>
 bnd (pLoad1 v2 h2) fun v3 h3 =>
 bnd (pInt .neq v3 (.i .i64 (Int.ofNat 0)) h3) fun v4 h4 =>
 ifD v4 (
 bnd (pLoadA 6 (env 5) h4) fun v5 h5 =>
 bnd (pStore 6 (env 2) v5 h5) fun _ h6 =>
 bnd (pLoadA 6 (env 2) h6) fun v7 _ =>
 some (.t [v7, (.b false)], h6)) (
 bnd (rec 161 [(env 0)] h4) fun v8 h8 =>
 ifD v8 (
 bnd (rec 78 [(env 0)] h8) fun v9 h9 =>
 bnd (rec 78 [(env 0)] h9) fun v10 h10 =>
 bnd (pPart1 2 v10 h10) fun v11 h11 =>
 bnd (pUn .neg v11 h11) fun v12 h12 =>
 bnd (pBuild [(.i .i64 (Int.ofNat 0)), (.s []), (.i .i64 (Int.ofNat 0)), .l0, .l0, .l0] [(0, 1, (.i .i64 (Int.ofNat 1))), (2, 1, v12)] h12) fun v13 h13 =>
 bnd (pStore 6 (env 2) v13 h13) fun _ h14 =>
 bnd (pLoadA 6 (env 2) h14) fun v15 _ =>
 some (.t [v15, (.b true)], h14)) (
 bnd (pField 0 (env 4) h8) fun v16 h16 =>
 bnd (pLoad1 v16 h16) fun v17 h17 =>
 bnd (pInt .eql v17 (.i .i64 (Int.ofNat 4)) h17) fun v18 h18 =>
 ifD v18 (
 bnd (pField 0 (env 5) h18) fun v19 h19 =>
 bnd (pStore 1 v19 (.i .i64 (Int.ofNat 1)) h19) fun _ h20 =>
          q0 (env 0) (env 2) (env 5) h20) (
 bnd (pField 0 (env 4) h18) fun v21 h21 =>
 bnd (pLoad1 v21 h21) fun v22 h22 =>
 bnd (pInt .eql v22 (.i .i64 (Int.ofNat 5)) h22) fun v23 h23 =>
 ifD v23 (
 bnd (pField 0 (env 5) h23) fun v24 h24 =>
 bnd (pStore 1 v24 (.i .i64 (Int.ofNat 2)) h24) fun _ h25 =>
            q0 (env 0) (env 2) (env 5) h25) (
 bnd (pField 0 (env 4) h23) fun v26 h26 =>
 bnd (pLoad1 v26 h26) fun v27 h27 =>
 bnd (pInt .eql v27 (.i .i64 (Int.ofNat 6)) h27) fun v28 h28 =>
 ifD v28 (
 bnd (pField 0 (env 5) h28) fun v29 h29 =>
 bnd (pStore 1 v29 (.i .i64 (Int.ofNat 3)) h29) fun _ h30 =>
              q0 (env 0) (env 2) (env 5) h30) (
 bnd (pLoadA 6 (env 5) h28) fun v31 h31 =>
 bnd (pStore 6 (env 2) v31 h31) fun _ h32 =>
 bnd (pLoadA 6 (env 2) h32) fun v33 _ =>
 some (.t [v33, (.b false)], h32)))))) := by kernel_rfl
theorem s150a3q2u : (fun (env : Env) (h : Hp) =>
 bnd (pNil (env 0) h) fun v1 h1 =>
 bnd (pField 3 v1 h1) fun v2 h2 =>
 bnd (pLoad1 v2 h2) fun v3 h3 =>
 bnd (pInt .neq v3 (.i .i64 (Int.ofNat 0)) h3) fun v4 h4 =>
 ifD v4 (
 bnd (pLoadA 6 (env 5) h4) fun v5 h5 =>
 bnd (pStore 6 (env 2) v5 h5) fun _ h6 =>
 bnd (pLoadA 6 (env 2) h6) fun v7 _ =>
 some (.t [v7, (.b false)], h6)) (
 bnd (rec 161 [(env 0)] h4) fun v8 h8 =>
 ifD v8 (
 bnd (rec 78 [(env 0)] h8) fun v9 h9 =>
 bnd (rec 78 [(env 0)] h9) fun v10 h10 =>
 bnd (pPart1 2 v10 h10) fun v11 h11 =>
 bnd (pUn .neg v11 h11) fun v12 h12 =>
 bnd (pBuild [(.i .i64 (Int.ofNat 0)), (.s []), (.i .i64 (Int.ofNat 0)), .l0, .l0, .l0] [(0, 1, (.i .i64 (Int.ofNat 1))), (2, 1, v12)] h12) fun v13 h13 =>
 bnd (pStore 6 (env 2) v13 h13) fun _ h14 =>
 bnd (pLoadA 6 (env 2) h14) fun v15 _ =>
 some (.t [v15, (.b true)], h14)) (
 bnd (pField 0 (env 4) h8) fun v16 h16 =>
 bnd (pLoad1 v16 h16) fun v17 h17 =>
 bnd (pInt .eql v17 (.i .i64 (Int.ofNat 4)) h17) fun v18 h18 =>
 ifD v18 (
 bnd (pField 0 (env 5) h18) fun v19 h19 =>
 bnd (pStore 1 v19 (.i .i64 (Int.ofNat 1)) h19) fun _ h20 =>
          s150a4 rec n (env 0) (env 2) (env 5) h20) (
 bnd (pField 0 (env 4) h18) fun v21 h21 =>
 bnd (pLoad1 v21 h21) fun v22 h22 =>
 bnd (pInt .eql v22 (.i .i64 (Int.ofNat 5)) h22) fun v23 h23 =>
 ifD v23 (
 bnd (pField 0 (env 5) h23) fun v24 h24 =>
 bnd (pStore 1 v24 (.i .i64 (Int.ofNat 2)) h24) fun _ h25 =>
            s150a4 rec n (env 0) (env 2) (env 5) h25) (
 bnd (pField 0 (env 4) h23) fun v26 h26 =>
 bnd (pLoad1 v26 h26) fun v27 h27 =>
 bnd (pInt .eql v27 (.i .i64 (Int.ofNat 6)) h27) fun v28 h28 =>
 ifD v28 (
 bnd (pField 0 (env 5) h28) fun v29 h29 =>
 bnd (pStore 1 v29 (.i .i64 (Int.ofNat 3)) h29) fun _ h30 =>
              s150a4 rec n (env 0) (env 2) (env 5) h30) (
 bnd (pLoadA 6 (env 5) h28) fun v31 h31 =>
 bnd (pStore 6 (env 2) v31 h31) fun _ h32 =>
 bnd (pLoadA 6 (env 2) h32) fun v33 _ =>
 some (.t [v33, (.b false)], h32))))))) = (K4 (s150a3 rec n) 0 2 4 5) := by kernel_rfl
theorem s150a3e : D150 rec n c150x3 x0 r150 = (K4 (s150a3 rec n) 0 2 4 5) :=
  (s150a3p1 rec n).trans
  ((s150a3q2 rec n (s150a4 rec n)).trans (s150a3q2u rec n))
theorem s150a2p3 : D150 rec n c150x2 x0 r150 = D150 rec n c150x6 x0 (K4 (s150a3 rec n) 0 2 4 5) :=
  congrArg (fun k => D150 rec n c150x6 x0 k) (s150a3e rec n)
theorem s150a2q4 (q0 : TT4) : D150 rec n c150x6 x0 (K4 q0 0 2 4 5) = fun (env : Env) (h : Hp) =>
 bnd (pField 1 (env 4) h) fun v1 h1 =>
 bnd (pLoad1 v1 h1) fun v2 h2 =>
 bnd (pField 2 (env 4) h2) fun v3 h3 =>
 bnd (pLoad1 v3 h3) fun v4 h4 =>
 bnd (pBuild [(.i .i64 (Int.ofNat 0)), (.s []), (.i .i64 (Int.ofNat 0)), .l0, .l0, .l0] [(1, 1, v2), (2, 1, v4)] h4) fun v5 h5 =>
 bnd (pNew [(.i .i64 (Int.ofNat 0)), (.s []), (.i .i64 (Int.ofNat 0)), .l0, .l0, .l0] h5) fun v6 h6 =>
 bnd (pStore 6 v6 v5 h6) fun _ h7 =>
    q0 (env 0) (env 2) (env 4) v6 h7 := by kernel_rfl
theorem s150a2q4u : (fun (env : Env) (h : Hp) =>
 bnd (pField 1 (env 4) h) fun v1 h1 =>
 bnd (pLoad1 v1 h1) fun v2 h2 =>
 bnd (pField 2 (env 4) h2) fun v3 h3 =>
 bnd (pLoad1 v3 h3) fun v4 h4 =>
 bnd (pBuild [(.i .i64 (Int.ofNat 0)), (.s []), (.i .i64 (Int.ofNat 0)), .l0, .l0, .l0] [(1, 1, v2), (2, 1, v4)] h4) fun v5 h5 =>
 bnd (pNew [(.i .i64 (Int.ofNat 0)), (.s []), (.i .i64 (Int.ofNat 0)), .l0, .l0, .l0] h5) fun v6 h6 =>
 bnd (pStore 6 v6 v5 h6) fun _ h7 =>
    s150a3 rec n (env 0) (env 2) (env 4) v6 h7) = (K3 (s150a2 rec n) 0 2 4) := by kernel_rfl
theorem s150a2e : D150 rec n c150x2 x0 r150 = (K3 (s150a2 rec n) 0 2 4) :=
  (s150a2p3 rec n).trans
  ((s150a2q4 rec n (s150a3 rec n)).trans (s150a2q4u rec n))
theorem s150a1p5 : D150 rec n c150x1 x0 r150 = D150 rec n c150x7 x0 (K3 (s150a2 rec n) 0 2 4) :=
  congrArg (fun k => D150 rec n c150x7 x0 k) (s150a2e rec n)
theorem s150a1q6 (q0 : TT3) : D150 rec n c150x7 x0 (K3 q0 0 2 4) = fun (env : Env) (h : Hp) =>
 bnd (rec 81 [(env 0), (.i .i64 (Int.ofNat 0))] h) fun v1 h1 =>
 bnd (pNew [(.i .i64 (Int.ofNat 0)), (.s []), (.i .i64 (Int.ofNat 0)), (.i .i64 (Int.ofNat 0))] h1) fun v2 h2 =>
 bnd (pStore 4 v2 v1 h2) fun _ h3 =>
    q0 (env 0) (env 2) v2 h3 := by kernel_rfl
theorem s150a1q6u : (fun (env : Env) (h : Hp) =>
 bnd (rec 81 [(env 0), (.i .i64 (Int.ofNat 0))] h) fun v1 h1 =>
 bnd (pNew [(.i .i64 (Int.ofNat 0)), (.s []), (.i .i64 (Int.ofNat 0)), (.i .i64 (Int.ofNat 0))] h1) fun v2 h2 =>
 bnd (pStore 4 v2 v1 h2) fun _ h3 =>
    s150a2 rec n (env 0) (env 2) v2 h3) = (K2 (s150a1 rec n) 0 2) := by kernel_rfl
theorem s150a1e : D150 rec n c150x1 x0 r150 = (K2 (s150a1 rec n) 0 2) :=
  (s150a1p5 rec n).trans
  ((s150a1q6 rec n (s150a2 rec n)).trans (s150a1q6u rec n))
theorem s150p7 : D150 rec n c150 x0 r150 = D150 rec n c150x8 x0 (K2 (s150a1 rec n) 0 2) :=
  congrArg (fun k => D150 rec n c150x8 x0 k) (s150a1e rec n)
theorem s150q8 (q0 : TT2) : D150 rec n c150x8 x0 (K2 q0 0 2) = fun (env : Env) (h : Hp) =>
 bnd (pNew [(.i .i64 (Int.ofNat 0)), (.s []), (.i .i64 (Int.ofNat 0)), .l0, .l0, .l0] h) fun v1 h1 =>
    q0 (env 0) v1 h1 := by kernel_rfl
theorem s150q8u : (fun (env : Env) (h : Hp) =>
 bnd (pNew [(.i .i64 (Int.ofNat 0)), (.s []), (.i .i64 (Int.ofNat 0)), .l0, .l0, .l0] h) fun v1 h1 =>
    s150a1 rec n (env 0) v1 h1) = (K1 (s150 rec n) 0) := by kernel_rfl
theorem s150m : D150 rec n c150 x0 r150 = (K1 (s150 rec n) 0) :=
  (s150p7 rec n).trans
  ((s150q8 rec n (s150a1 rec n)).trans (s150q8u rec n))
theorem s150ok (args : List DV) (h : Hp) : bodyD CF rec n 150 args h = s150 rec n (args.getD 0 undefD) h :=
  (by kernel_rfl : bodyD CF rec n 150 args h = D150 rec n c150 x0 r150 (argsE args) h).trans ((congrFun (congrFun (s150m rec n) (argsE args)) h).trans (by kernel_rfl))
/-- parse.parser).within -/
def s151 (rec : RT) (n : Nat) (x0 x1 : DV) (h0 : Hp) : Res :=
 bnd (pNew [(.i .i64 (Int.ofNat 0)), (.s []), (.i .i64 (Int.ofNat 0)), .l0, .l0, .l0] h0) fun v1 h1 =>
 bnd (rec 78 [x0] h1) fun v2 h2 =>
 bnd (pNew [(.i .i64 (Int.ofNat 0)), (.s []), (.i .i64 (Int.ofNat 0)), (.i .i64 (Int.ofNat 0))] h2) fun v3 h3 =>
 bnd (pStore 4 v3 v2 h3) fun _ h4 =>
 bnd (pNil x0 h4) fun v5 h5 =>
 bnd (pField 1 v5 h5) fun v6 h6 =>
 bnd (pLoad1 v6 h6) fun v7 h7 =>
 bnd (pInt .eql v7 (.i .i64 (Int.ofNat 20)) h7) fun v8 h8 =>
 ifD v8 (
 bnd (pLoadA 4 v3 h8) fun v9 h9 =>
 bnd (rec 80 [x0, v9, (.i .i64 (Int.ofNat 14))] h9) fun v10 h10 =>
 bnd (pBuild [(.i .i64 (Int.ofNat 0)), (.s []), (.i .i64 (Int.ofNat 0)), .l0, .l0, .l0] [] h10) fun v11 h11 =>
 bnd (pStore 6 v1 v11 h11) fun _ h12 =>
 bnd (pLoadA 6 v1 h12) fun v13 _ =>
 some (v13, h12)) (
 bnd (pNil x0 h8) fun v14 h14 =>
 bnd (pField 1 v14 h14) fun v15 h15 =>
 bnd (pLoad1 v15 h15) fun v16 h16 =>
 bnd (pInt .add v16 (.i .i64 (Int.ofNat 1)) h16) fun v17 h17 =>
 bnd (pNil x0 h17) fun v18 h18 =>
 bnd (pField 1 v18 h18) fun v19 h19 =>
 bnd (pStore 1 v19 v17 h19) fun _ h20 =>
 bnd (pCall CF rec x1 [] h20) fun v21 h21 =>
 bnd (pNew [(.i .i64 (Int.ofNat 0)), (.s []), (.i .i64 (Int.ofNat 0)), .l0, .l0, .l0] h21) fun v22 h22 =>
 bnd (pStore 6 v22 v21 h22) fun _ h23 =>
 bnd (pNil x0 h23) fun v24 h24 =>
 bnd (pField 1 v24 h24) fun v25 h25 =>
 bnd (pLoad1 v25 h25) fun v26 h26 =>
 bnd (pInt .sub v26 (.i .i64 (Int.ofNat 1)) h26) fun v27 h27 =>
 bnd (pNil x0 h27) fun v28 h28 =>
 bnd (pField 1 v28 h28) fun v29 h29 =>
 bnd (pStore 1 v29 v27 h29) fun _ h30 =>
 bnd (pLoadA 6 v22 h30) fun v31 h31 =>
 bnd (pStore 6 v1 v31 h31) fun _ h32 =>
 bnd (pLoadA 6 v1 h32) fun v33 _ =>
 some (v33, h32))
abbrev c151 : Code := cf Tryz.f151
abbrev r151 : K := retK CF Tryz.f151
def D151 (rec : RT) (n : Nat) (c : Code) (X : Nat → K) (k : K) : K := codeD CF rec 35 n c X r151 k
theorem s151m : D151 rec n c151 x0 r151 = (K2 (s151 rec n) 0 1) :=
  (by kernel_rfl)
theorem s151ok (args : List DV) (h : Hp) : bodyD CF rec n 151 args h = s151 rec n (args.getD 0 undefD) (args.getD 1 undefD) h :=
  (by kernel_rfl : bodyD CF rec n 151 args h = D151 rec n c151 x0 r151 (argsE args) h).trans ((congrFun (congrFun (s151m rec n) (argsE args)) h).trans (by kernel_rfl))
def s152a3 (rec : RT) (n : Nat) (x0 x2 x3 : DV) (h0 : Hp) : Res :=
 bnd (rec 78 [x0] h0) fun v1 h1 =>
 bnd (pLoadA 6 x3 h1) fun v2 h2 =>
 bnd (pStore 6 x2 v2 h2) fun _ h3 =>
 bnd (pLoadA 6 x2 h3) fun v4 _ =>
 some (v4, h3)
def s152a7 (rec : RT) (n : Nat) (kk4 : TT3) (x0 x2 x3 x4 : DV) (h0 : Hp) : Res :=
 bnd (pField 5 x3 h0) fun v1 h1 =>
 bnd (pLoad1 v1 h1) fun v2 h2 =>
 bnd (pLoadA 6 x4 h2) fun v3 h3 =>
 bnd (pBuildSlice [(.i .i64 (Int.ofNat 0)), (.s []), (.i .i64 (Int.ofNat 0)), .l0, .l0, .l0] 1 [(0, 6, v3)] h3) fun v4 h4 =>
 bnd (pAppend 6 104 v2 v4 h4) fun v5 h5 =>
 bnd (pField 5 x3 h5) fun v6 h6 =>
 bnd (pStore 1 v6 v5 h6) fun _ h7 =>
  kk4 x0 x2 x3 h7
def s152a6 (rec : RT) (n : Nat) (kk4 : TT3) (x0 x2 x3 x4 x5 : DV) (h0 : Hp) : Res :=
 ifD x5 (
    s152a7 rec n kk4 x0 x2 x3 x4 h0) (
 bnd (rec 77 [x0, (.i .i64 (Int.ofNat 7)), (.s [])] h0) fun v1 h1 =>
 bnd (gD v1 false (some (x0, h1)) h1) fun v2 h2 =>
 bnd (gD v1 false (rec 77 [v2, (.i .i64 (Int.ofNat 10)), (.s [40])] h2) h2) fun v3 h3 =>
 bnd (pPick v1 (.b true) v3 h3) fun v4 h4 =>
 ifD v4 (
 bnd (rec 151 [x0, (.f 152 [x0] [])] h4) fun v5 h5 =>
 bnd (pStore 6 x4 v5 h5) fun _ h6 =>
      s152a7 rec n kk4 x0 x2 x3 x4 h6) (
 bnd (rec 81 [x0, (.i .i64 (Int.ofNat 0))] h4) fun v7 h7 =>
 bnd (rec 80 [x0, v7, (.i .i64 (Int.ofNat 13))] h7) fun v8 h8 =>
      s152a7 rec n kk4 x0 x2 x3 x4 h8))
def s152a5 (rec : RT) (n : Nat) (kk4 : TT3) (x0 x2 x3 : DV) (h0 : Hp) : Res :=
 bnd (rec 150 [x0] h0) fun v1 h1 =>
 bnd (pExtract 0 v1 h1) fun v2 h2 =>
 bnd (pExtract 1 v1 h2) fun v3 h3 =>
 bnd (pNew [(.i .i64 (Int.ofNat 0)), (.s []), (.i .i64 (Int.ofNat 0)), .l0, .l0, .l0] h3) fun v4 h4 =>
 bnd (pStore 6 v4 v2 h4) fun _ h5 =>
  s152a6 rec n kk4 x0 x2 x3 v4 v3 h5
def s152a4b (rec : RT) (n : Nat) (kk4 : TT3) (x0 x2 x3 : DV) (h0 : Hp) : Res :=
 bnd (pNil x0 h0) fun v1 h1 =>
 bnd (pField 3 v1 h1) fun v2 h2 =>
 bnd (pLoad1 v2 h2) fun v3 h3 =>
 bnd (pInt .eql v3 (.i .i64 (Int.ofNat 0)) h3) fun v4 h4 =>
 bnd (gD v4 true (some (x0, h4)) h4) fun v5 h5 =>
 bnd (gD v4 true (rec 77 [v5, (.i .i64 (Int.ofNat 10)), (.s [41])] h5) h5) fun v6 h6 =>
 bnd (gD v4 true (pUn .not v6 h6) h6) fun v7 h7 =>
 bnd (pPick v4 v7 (.b false) h7) fun v8 h8 =>
 ifD v8 (
      s152a5 rec n kk4 x0 x2 x3 h8) (
      s152a3 rec n x0 x2 x3 h8)
def s152a4l (rec : RT) (n : Nat) (m : Nat) : TT3 :=
  Nat.rec (motive := fun _ => TT3) (fun _ _ _ _ => none) (fun _ ih => s152a4b rec n ih) m
def s152a4 (rec : RT) (n : Nat) : TT3 := s152a4l rec n n
def s152a2 (rec : RT) (n : Nat) (x0 x2 x3 : DV) (h0 : Hp) : Res :=
  s152a4 rec n x0 x2 x3 h0
def s152a1 (rec : RT) (n : Nat) (x0 x2 : DV) (h0 : Hp) : Res :=
 bnd (pBuild [(.i .i64 (Int.ofNat 0)), (.s []), (.i .i64 (Int.ofNat 0)), .l0, .l0, .l0] [(0, 1, (.i .i64 (Int.ofNat 4)))] h0) fun v1 h1 =>
 bnd (pNew [(.i .i64 (Int.ofNat 0)), (.s []), (.i .i64 (Int.ofNat 0)), .l0, .l0, .l0] h1) fun v2 h2 =>
 bnd (pStore 6 v2 v1 h2) fun _ h3 =>
  s152a2 rec n x0 x2 v2 h3
/-- parse.parser).literals -/
def s152 (rec : RT) (n : Nat) (x0 : DV) (h0 : Hp) : Res :=
 bnd (pNew [(.i .i64 (Int.ofNat 0)), (.s []), (.i .i64 (Int.ofNat 0)), .l0, .l0, .l0] h0) fun v1 h1 =>
  s152a1 rec n x0 v1 h1
abbrev c152 : Code := cf Tryz.f152
abbrev c152x1 : Code := cR c152
abbrev c152x2 : Code := cR c152x1
abbrev c152x3 : Code := cR c152x2
abbrev c152x4 : Code := cL c152x2
abbrev c152x5 : Code := cL c152x4
abbrev c152x6 : Code := cL c152x5
abbrev c152x7 : Code := cR c152x6
abbrev c152x8 : Code := cL c152x7
abbrev c152x9 : Code := cR c152x8
abbrev c152x10 : Code := cR c152x9
abbrev c152x11 : Code := cL c152x9
abbrev c152x12 : Code := cL c152x8
abbrev c152x13 : Code := cL c152x6
abbrev c152x14 : Code := cL c152x1
abbrev c152x15 : Code := cL c152
abbrev r152 : K := retK CF Tryz.f152
def D152 (rec : RT) (n : Nat) (c : Code) (X : Nat → K) (k : K) : K := codeD CF rec 48 n c X r152 k
theorem s152a3e : D152 rec n c152x3 x0 r152 = (K3 (s152a3 rec n) 0 2 3) :=
  (by kernel_rfl)
theorem s152a7q1 (kk4 : TT3) (q0 : TT3) : D152 rec n c152x10 (xs (xs x0 0 (K3 q0 0 2 3)) 1 (K3 kk4 0 2 3)) (K3 kk4 0 2 3) = fun (env : Env) (h : Hp) =>
 bnd (pField 5 (env 3) h) fun v1 h1 =>
 bnd (pLoad1 v1 h1) fun v2 h2 =>
 bnd (pLoadA 6 (env 4) h2) fun v3 h3 =>
 bnd (pBuildSlice [(.i .i64 (Int.ofNat 0)), (.s []), (.i .i64 (Int.ofNat 0)), .l0, .l0, .l0] 1 [(0, 6, v3)] h3) fun v4 h4 =>
 bnd (pAppend 6 104 v2 v4 h4) fun v5 h5 =>
 bnd (pField 5 (env 3) h5) fun v6 h6 =>
 bnd (pStore 1 v6 v5 h6) fun _ h7 =>
    kk4 (env 0) (env 2) (env 3) h7 := by kernel_rfl
theorem s152a7q1u (kk4 : TT3) : (fun (env : Env) (h : Hp) =>
 bnd (pField 5 (env 3) h) fun v1 h1 =>
 bnd (pLoad1 v1 h1) fun v2 h2 =>
 bnd (pLoadA 6 (env 4) h2) fun v3 h3 =>
 bnd (pBuildSlice [(.i .i64 (Int.ofNat 0)), (.s []), (.i .i64 (Int.ofNat 0)), .l0, .l0, .l0] 1 [(0, 6, v3)] h3) fun v4 h4 =>
 bnd (pAppend 6 104 v2 v4 h4) fun v5 h5 =>
 bnd (pField 5 (env 3) h5) fun v6 h6 =>
 bnd (pStore 1 v6 v5 h6) fun _ h7 =>
    kk4 (env 0) (env 2) (env 3) h7) = (K4 (s152a7 rec n kk4) 0 2 3 4) := by kernel_rfl
theorem s152a7e (kk4 : TT3) : D152 rec n c152x10 (xs (xs x0 0 (K3 (s152a3 rec n) 0 2 3)) 1 (K3 kk4 0 2 3)) (K3 kk4 0 2 3) = (K4 (s152a7 rec n kk4) 0 2 3 4) :=
  (s152a7q1 rec n kk4 (s152a3 rec n)).trans (s152a7q1u rec n kk4)
theorem s152a6p2 (kk4 : TT3) : D152 rec n c152x9 (xs (xs x0 0 (K3 (s152a3 rec n) 0 2 3)) 1 (K3 kk4 0 2 3)) (K3 kk4 0 2 3) = D152 rec n c152x11 (xs (xs x0 0 (K3 (s152a3 rec n) 0 2 3)) 1 (K3 kk4 0 2 3)) (K4 (s152a7 rec n kk4) 0 2 3 4) :=
  congrArg (fun k => D152 rec n c152x11 (xs (xs x0 0 (K3 (s152a3 rec n) 0 2 3)) 1 (K3 kk4 0 2 3)) k) (s152a7e rec n kk4)
theorem s152a6e (kk4 : TT3) : D152 rec n c152x9 (xs (xs x0 0 (K3 (s152a3 rec n) 0 2 3)) 1 (K3 kk4 0 2 3)) (K3 kk4 0 2 3) = (K5 (s152a6 rec n kk4) 0 2 3 4 5) :=
  (s152a6p2 rec n kk4).trans
  ((by kernel_rfl))
theorem s152a5p3 (kk4 : TT3) : D152 rec n c152x8 (xs (xs x0 0 (K3 (s152a3 rec n) 0 2 3)) 1 (K3 kk4 0 2 3)) (K3 kk4 0 2 3) = D152 rec n c152x12 (xs (xs x0 0 (K3 (s152a3 rec n) 0 2 3)) 1 (K3 kk4 0 2 3)) (K5 (s152a6 rec n kk4) 0 2 3 4 5) :=
  congrArg (fun k => D152 rec n c152x12 (xs (xs x0 0 (K3 (s152a3 rec n) 0 2 3)) 1 (K3 kk4 0 2 3)) k) (s152a6e rec n kk4)
theorem s152a5q4 (kk4 : TT3) (q0 : TT5) (q1 : TT3) : D152 rec n c152x12 (xs (xs x0 0 (K3 q1 0 2 3)) 1 (K3 kk4 0 2 3)) (K5 q0 0 2 3 4 5) = fun (env : Env) (h : Hp) =>
 bnd (rec 150 [(env 0)] h) fun v1 h1 =>
 bnd (pExtract 0 v1 h1) fun v2 h2 =>
 bnd (pExtract 1 v1 h2) fun v3 h3 =>
 bnd (pNew [(.i .i64 (Int.ofNat 0)), (.s []), (.i .i64 (Int.ofNat 0)), .l0, .l0, .l0] h3) fun v4 h4 =>
 bnd (pStore 6 v4 v2 h4) fun _ h5 =>
    q0 (env 0) (env 2) (env 3) v4 v3 h5 := by kernel_rfl
theorem s152a5q4u (kk4 : TT3) : (fun (env : Env) (h : Hp) =>
 bnd (rec 150 [(env 0)] h) fun v1 h1 =>
 bnd (pExtract 0 v1 h1) fun v2 h2 =>
 bnd (pExtract 1 v1 h2) fun v3 h3 =>
 bnd (pNew [(.i .i64 (Int.ofNat 0)), (.s []), (.i .i64 (Int.ofNat 0)), .l0, .l0, .l0] h3) fun v4 h4 =>
 bnd (pStore 6 v4 v2 h4) fun _ h5 =>
    s152a6 rec n kk4 (env 0) (env 2) (env 3) v4 v3 h5) = (K3 (s152a5 rec n kk4) 0 2 3) := by kernel_rfl
theorem s152a5e (kk4 : TT3) : D152 rec n c152x7 (xs x0 0 (K3 (s152a3 rec n) 0 2 3)) (K3 kk4 0 2 3) = (K3 (s152a5 rec n kk4) 0 2 3) :=
  (by kernel_rfl : D152 rec n c152x7 (xs x0 0 (K3 (s152a3 rec n) 0 2 3)) (K3 kk4 0 2 3) = D152 rec n c152x8 (xs (xs x0 0 (K3 (s152a3 rec n) 0 2 3)) 1 (K3 kk4 0 2 3)) (K3 kk4 0 2 3)).trans
  ((s152a5p3 rec n kk4).trans
  ((s152a5q4 rec n kk4 (s152a6 rec n kk4) (s152a3 rec n)).trans (s152a5q4u rec n kk4)))
theorem s152a4p5 (kk4 : TT3) : D152 rec n c152x6 (xs x0 0 (K3 (s152a3 rec n) 0 2 3)) (K3 kk4 0 2 3) = D152 rec n c152x13 (xs x0 0 (K3 (s152a3 rec n) 0 2 3)) (K3 (s152a5 rec n kk4) 0 2 3) :=
  congrArg (fun k => D152 rec n c152x13 (xs x0 0 (K3 (s152a3 rec n) 0 2 3)) k) (s152a5e rec n kk4)
theorem s152a4be (kk4 : TT3) : D152 rec n c152x6 (xs x0 0 (K3 (s152a3 rec n) 0 2 3)) (K3 kk4 0 2 3) = (K3 (s152a4b rec n kk4) 0 2 3) :=
  (s152a4p5 rec n kk4).trans
  ((by kernel_rfl))
theorem s152a4le (m : Nat) : loopN (fun kk => D152 rec n c152x6 (xs x0 0 (K3 (s152a3 rec n) 0 2 3)) kk) m = (K3 (s152a4l rec n m) 0 2 3) := by
  induction m with
  | zero => exact (by kernel_rfl : loopN (fun kk => D152 rec n c152x6 (xs x0 0 (K3 (s152a3 rec n) 0 2 3)) kk) 0 = (K3 (s152a4l rec n 0) 0 2 3))
  | succ m ih =>
    refine (by kernel_rfl : loopN (fun kk => D152 rec n c152x6 (xs x0 0 (K3 (s152a3 rec n) 0 2 3)) kk) (m + 1) = D152 rec n c152x6 (xs x0 0 (K3 (s152a3 rec n) 0 2 3)) (loopN (fun kk => D152 rec n c152x6 (xs x0 0 (K3 (s152a3 rec n) 0 2 3)) kk) m)).trans ?_
    rw [ih]
    exact (s152a4be rec n (s152a4l rec n m)).trans (by kernel_rfl)
theorem s152a4e : D152 rec n c152x5 (xs x0 0 (K3 (s152a3 rec n) 0 2 3)) (K3 (s152a3 rec n) 0 2 3) = (K3 (s152a4 rec n) 0 2 3) :=
  (by kernel_rfl : D152 rec n c152x5 (xs x0 0 (K3 (s152a3 rec n) 0 2 3)) (K3 (s152a3 rec n) 0 2 3) = loopN (fun kk => D152 rec n c152x6 (xs x0 0 (K3 (s152a3 rec n) 0 2 3)) kk) n).trans ((s152a4le rec n n).trans (by kernel_rfl))
theorem s152a2p6 : D152 rec n c152x2 x0 r152 = D152 rec n c152x4 x0 (K3 (s152a3 rec n) 0 2 3) :=
  congrArg (fun k => D152 rec n c152x4 x0 k) (s152a3e rec n)
theorem s152a2e : D152 rec n c152x2 x0 r152 = (K3 (s152a2 rec n) 0 2 3) :=
  (s152a2p6 rec n).trans
  ((by kernel_rfl : D152 rec n c152x4 x0 (K3 (s152a3 rec n) 0 2 3) = D152 rec n c152x5 (xs x0 0 (K3 (s152a3 rec n) 0 2 3)) (K3 (s152a3 rec n) 0 2 3)).trans
  ((s152a4e rec n).trans (by kernel_rfl)))
theorem s152a1p7 : D152 rec n c152x1 x0 r152 = D152 rec n c152x14 x0 (K3 (s152a2 rec n) 0 2 3) :=
  congrArg (fun k => D152 rec n c152x14 x0 k) (s152a2e rec n)
theorem s152a1q8 (q0 : TT3) : D152 rec n c152x14 x0 (K3 q0 0 2 3) = fun (env : Env) (h : Hp) =>
 bnd (pBuild [(.i .i64 (Int.ofNat 0)), (.s []), (.i .i64 (Int.ofNat 0)), .l0, .l0, .l0] [(0, 1, (.i .i64 (Int.ofNat 4)))] h) fun v1 h1 =>
 bnd (pNew [(.i .i64 (Int.ofNat 0)), (.s []), (.i .i64 (Int.ofNat 0)), .l0, .l0, .l0] h1) fun v2 h2 =>
 bnd (pStore 6 v2 v1 h2) fun _ h3 =>
    q0 (env 0) (env 2) v2 h3 := by kernel_rfl
theorem s152a1q8u : (fun (env : Env) (h : Hp) =>
 bnd (pBuild [(.i .i64 (Int.ofNat 0)), (.s []), (.i .i64 (Int.ofNat 0)), .l0, .l0, .l0] [(0, 1, (.i .i64 (Int.ofNat 4)))] h) fun v1 h1 =>
 bnd (pNew [(.i .i64 (Int.ofNat 0)), (.s []), (.i .i64 (Int.ofNat 0)), .l0, .l0, .l0] h1) fun v2 h2 =>
 bnd (pStore 6 v2 v1 h2) fun _ h3 =>
    s152a2 rec n (env 0) (env 2) v2 h3) = (K2 (s152a1 rec n) 0 2) := by kernel_rfl
theorem s152a1e : D152 rec n c152x1 x0 r152 = (K2 (s152a1 rec n) 0 2) :=
  (s152a1p7 rec n).trans
  ((s152a1q8 rec n (s152a2 rec n)).trans (s152a1q8u rec n))
theorem s152p9 : D152 rec n c152 x0 r152 = D152 rec n c152x15 x0 (K2 (s152a1 rec n) 0 2) :=
  congrArg (fun k => D152 rec n c152x15 x0 k) (s152a1e rec n)
theorem s152q10 (q0 : TT2) : D152 rec n c152x15 x0 (K2 q0 0 2) = fun (env : Env) (h : Hp) =>
 bnd (pNew [(.i .i64 (Int.ofNat 0)), (.s []), (.i .i64 (Int.ofNat 0)), .l0, .l0, .l0] h) fun v1 h1 =>
    q0 (env 0) v1 h1 := by kernel_rfl
theorem s152q10u : (fun (env : Env) (h : Hp) =>
 bnd (pNew [(.i .i64 (Int.ofNat 0)), (.s []), (.i .i64 (Int.ofNat 0)), .l0, .l0, .l0] h) fun v1 h1 =>
    s152a1 rec n (env 0) v1 h1) = (K1 (s152 rec n) 0) := by kernel_rfl
theorem s152m : D152 rec n c152 x0 r152 = (K1 (s152 rec n) 0) :=
  (s152p9 rec n).trans
  ((s152q10 rec n (s152a1 rec n)).trans (s152q10u rec n))
theorem s152ok (args : List DV) (h : Hp) : bodyD CF rec n 152 args h = s152 rec n (args.getD 0 undefD) h :=
  (by kernel_rfl : bodyD CF rec n 152 args h = D152 rec n c152 x0 r152 (argsE args) h).trans ((congrFun (congrFun (s152m rec n) (argsE args)) h).trans (by kernel_rfl))
/-- parse.parser).inner -/
def s153 (rec : RT) (n : Nat) (x0 : DV) (h0 : Hp) : Res :=
 bnd (pNew [(.i .i64 (Int.ofNat 0)), (.s []), (.i .i64 (Int.ofNat 0)), .l0, .l0, .l0] h0) fun v1 h1 =>
 bnd (rec 79 [x0] h1) fun v2 h2 =>
 bnd (pNew [(.i .i64 (Int.ofNat 0)), (.s []), (.i .i64 (Int.ofNat 0)), .l0, .l0, .l0] h2) fun v3 h3 =>
 bnd (pStore 6 v3 v2 h3) fun _ h4 =>
 bnd (rec 51 [x0, (.i .i64 (Int.ofNat 10)), (.s [41])] h4) fun v5 h5 =>
 bnd (pLoadA 6 v3 h5) fun v6 h6 =>
 bnd (pStore 6 v1 v6 h6) fun _ h7 =>
 bnd (pLoadA 6 v1 h7) fun v8 _ =>
 some (v8, h7)
abbrev c153 : Code := cf Tryz.f153
abbrev r153 : K := retK CF Tryz.f153
def D153 (rec : RT) (n : Nat) (c : Code) (X : Nat → K) (k : K) : K := codeD CF rec 9 n c X r153 k
theorem s153m : D153 rec n c153 x0 r153 = (K1 (s153 rec n) 0) :=
  (by kernel_rfl)
theorem s153ok (args : List DV) (h : Hp) : bodyD CF rec n 153 args h = s153 rec n (args.getD 0 undefD) h :=
  (by kernel_rfl : bodyD CF rec n 153 args h = D153 rec n c153 x0 r153 (argsE args) h).trans ((congrFun (congrFun (s153m rec n) (argsE args)) h).trans (by kernel_rfl))
def s154a4 (rec : RT) (n : Nat) (x0 x2 x3 : DV) (h0 : Hp) : Res :=
 bnd (rec 49 [x0] h0) fun v1 h1 =>
 bnd (pField 4 x3 h1) fun v2 h2 =>
 bnd (pStore 1 v2 v1 h2) fun _ h3 =>
 bnd (rec 50 [x0] h3) fun v4 h4 =>
 bnd (pField 5 x3 h4) fun v5 h5 =>
 bnd (pStore 1 v5 v4 h5) fun _ h6 =>
 bnd (rec 51 [x0, (.i .i64 (Int.ofNat 10)), (.s [93])] h6) fun v7 h7 =>
 bnd (pLoadA 6 x3 h7) fun v8 h8 =>
 bnd (pStore 6 x2 v8 h8) fun _ h9 =>
 bnd (pLoadA 6 x2 h9) fun v10 _ =>
 some (v10, h9)
def s154a3 (rec : RT) (n : Nat) (x0 x2 x3 : DV) (h0 : Hp) : Res :=
 bnd (pField 3 x3 h0) fun v1 h1 =>
 bnd (pLoad1 v1 h1) fun v2 h2 =>
 bnd (pLen v2 h2) fun v3 h3 =>
 bnd (pInt .gtr v3 (.i .i64 (Int.ofNat 0)) h3) fun v4 h4 =>
 bnd (gD v4 true (some (x0, h4)) h4) fun v5 h5 =>
 bnd (gD v4 true (rec 77 [v5, (.i .i64 (Int.ofNat 10)), (.s [93])] h5) h5) fun v6 h6 =>
 bnd (gD v4 true (pUn .not v6 h6) h6) fun v7 h7 =>
 bnd (pPick v4 v7 (.b false) h7) fun v8 h8 =>
 ifD v8 (
 bnd (rec 51 [x0, (.i .i64 (Int.ofNat 10)), (.s [124])] h8) fun v9 h9 =>
    s154a4 rec n x0 x2 x3 h9) (
    s154a4 rec n x0 x2 x3 h8)
def s154a5b (rec : RT) (n : Nat) (kk5 : TT3) (x0 x2 x3 : DV) (h0 : Hp) : Res :=
 bnd (rec 77 [x0, (.i .i64 (Int.ofNat 8)), (.s [])] h0) fun v1 h1 =>
 ifD v1 (
 bnd (pField 3 x3 (resv 1 h1)) fun v2 h2 =>
 bnd (pLoad1 v2 h2) fun v3 h3 =>
 bnd (pField 3 x3 h3) fun v4 h4 =>
 bnd (pLoad1 v4 h4) fun v5 h5 =>
 bnd (rec 82 [x0, (.i .i64 (Int.ofNat 8)), v5] h5) fun v6 h6 =>
 cnd (sameR (pLoad1 v2 h6) v3 && true) (
 bnd (pBuildSliceAt (nthPos 0 h1.next) [(.s [])] 1 [(0, 1, v6)] h6) fun v7 h7 =>
 bnd (pAppend 1 16 v3 v7 h7) fun v8 h8 =>
 bnd (pField 3 x3 h8) fun v9 h9 =>
 bnd (pStore 1 v9 v8 h9) fun v10 h10 =>
      kk5 x0 x2 x3 h10)) (
      s154a3 rec n x0 x2 x3 h1)
def s154a5l (rec : RT) (n : Nat) (m : Nat) : TT3 :=
  Nat.rec (motive := fun _ => TT3) (fun _ _ _ _ => none) (fun _ ih => s154a5b rec n ih) m
def s154a5 (rec : RT) (n : Nat) : TT3 := s154a5l rec n n
def s154a2 (rec : RT) (n : Nat) (x0 x2 x3 : DV) (h0 : Hp) : Res :=
  s154a5 rec n x0 x2 x3 h0
def s154a1 (rec : RT) (n : Nat) (x0 x2 : DV) (h0 : Hp) : Res :=
 bnd (pBuild [(.i .i64 (Int.ofNat 0)), (.s []), (.i .i64 (Int.ofNat 0)), .l0, .l0, .l0] [(0, 1, (.i .i64 (Int.ofNat 9)))] h0) fun v1 h1 =>
 bnd (pNew [(.i .i64 (Int.ofNat 0)), (.s []), (.i .i64 (Int.ofNat 0)), .l0, .l0, .l0] h1) fun v2 h2 =>
 bnd (pStore 6 v2 v1 h2) fun _ h3 =>
  s154a2 rec n x0 x2 v2 h3
/-- parse.parser).block -/
def s154 (rec : RT) (n : Nat) (x0 : DV) (h0 : Hp) : Res :=
 bnd (pNew [(.i .i64 (Int.ofNat 0)), (.s []), (.i .i64 (Int.ofNat 0)), .l0, .l0, .l0] h0) fun v1 h1 =>
  s154a1 rec n x0 v1 h1
abbrev c154 : Code := cf Tryz.f154
abbrev c154x1 : Code := cR c154
abbrev c154x2 : Code := cR c154x1
abbrev c154x3 : Code := cR c154x2
abbrev c154x4 : Code := cR c154x3
abbrev c154x5 : Code := cL c154x3
abbrev c154x6 : Code := cL c154x2
abbrev c154x7 : Code := cL c154x6
abbrev c154x8 : Code := cL c154x7
abbrev c154x9 : Code := cL c154x1
abbrev c154x10 : Code := cL c154
abbrev r154 : K := retK CF Tryz.f154
def D154 (rec : RT) (n : Nat) (c : Code) (X : Nat → K) (k : K) : K := codeD CF rec 36 n c X r154 k
theorem s154a4e : D154 rec n c154x4 x0 r154 = (K3 (s154a4 rec n) 0 2 3) :=
  (by kernel_rfl)
theorem s154a3p1 : D154 rec n c154x3 x0 r154 = D154 rec n c154x5 x0 (K3 (s154a4 rec n) 0 2 3) :=
  congrArg (fun k => D154 rec n c154x5 x0 k) (s154a4e rec n)
theorem s154a3e : D154 rec n c154x3 x0 r154 = (K3 (s154a3 rec n) 0 2 3) :=
  (s154a3p1 rec n).trans
  ((by kernel_rfl))
theorem s154a5q2 (kk5 : TT3) (q0 : TT3) : D154 rec n c154x8 (xs x0 0 (K3 q0 0 2 3)) (K3 kk5 0 2 3) = fun (env : Env) (h : Hp) =>
 bnd (rec 77 [(env 0), (.i .i64 (Int.ofNat 8)), (.s [])] h) fun v1 h1 =>
 ifD v1 (
 bnd (pField 3 (env 3) (resv 1 h1)) fun v2 h2 =>
 bnd (pLoad1 v2 h2) fun v3 h3 =>
 bnd (pField 3 (env 3) h3) fun v4 h4 =>
 bnd (pLoad1 v4 h4) fun v5 h5 =>
 bnd (rec 82 [(env 0), (.i .i64 (Int.ofNat 8)), v5] h5) fun v6 h6 =>
 cnd (sameR (pLoad1 v2 h6) v3 && true) (
 bnd (pBuildSliceAt (nthPos 0 h1.next) [(.s [])] 1 [(0, 1, v6)] h6) fun v7 h7 =>
 bnd (pAppend 1 16 v3 v7 h7) fun v8 h8 =>
 bnd (pField 3 (env 3) h8) fun v9 h9 =>
 bnd (pStore 1 v9 v8 h9) fun v10 h10 =>
      kk5 (env 0) (env 2) (env 3) h10)) (
      q0 (env 0) (env 2) (env 3) h1) := by kernel_rfl
theorem s154a5q2u (kk5 : TT3) : (fun (env : Env) (h : Hp) =>
 bnd (rec 77 [(env 0), (.i .i64 (Int.ofNat 8)), (.s [])] h) fun v1 h1 =>
 ifD v1 (
 bnd (pField 3 (env 3) (resv 1 h1)) fun v2 h2 =>
 bnd (pLoad1 v2 h2) fun v3 h3 =>
 bnd (pField 3 (env 3) h3) fun v4 h4 =>
 bnd (pLoad1 v4 h4) fun v5 h5 =>
 bnd (rec 82 [(env 0), (.i .i64 (Int.ofNat 8)), v5] h5) fun v6 h6 =>
 cnd (sameR (pLoad1 v2 h6) v3 && true) (
 bnd (pBuildSliceAt (nthPos 0 h1.next) [(.s [])] 1 [(0, 1, v6)] h6) fun v7 h7 =>
 bnd (pAppend 1 16 v3 v7 h7) fun v8 h8 =>
 bnd (pField 3 (env 3) h8) fun v9 h9 =>
 bnd (pStore 1 v9 v8 h9) fun v10 h10 =>
      kk5 (env 0) (env 2) (env 3) h10)) (
      s154a3 rec n (env 0) (env 2) (env 3) h1)) = (K3 (s154a5b rec n kk5) 0 2 3) := by kernel_rfl
theorem s154a5be (kk5 : TT3) : D154 rec n c154x8 (xs x0 0 (K3 (s154a3 rec n) 0 2 3)) (K3 kk5 0 2 3) = (K3 (s154a5b rec n kk5) 0 2 3) :=
  (s154a5q2 rec n kk5 (s154a3 rec n)).trans (s154a5q2u rec n kk5)
theorem s154a5le (m : Nat) : loopN (fun kk => D154 rec n c154x8 (xs x0 0 (K3 (s154a3 rec n) 0 2 3)) kk) m = (K3 (s154a5l rec n m) 0 2 3) := by
  induction m with
  | zero => exact (by kernel_rfl : loopN (fun kk => D154 rec n c154x8 (xs x0 0 (K3 (s154a3 rec n) 0 2 3)) kk) 0 = (K3 (s154a5l rec n 0) 0 2 3))
  | succ m ih =>
    refine (by kernel_rfl : loopN (fun kk => D154 rec n c154x8 (xs x0 0 (K3 (s154a3 rec n) 0 2 3)) kk) (m + 1) = D154 rec n c154x8 (xs x0 0 (K3 (s154a3 rec n) 0 2 3)) (loopN (fun kk => D154 rec n c154x8 (xs x0 0 (K3 (s154a3 rec n) 0 2 3)) kk) m)).trans ?_
    rw [ih]
    exact (s154a5be rec n (s154a5l rec n m)).trans (by kernel_rfl)
theorem s154a5e : D154 rec n c154x7 (xs x0 0 (K3 (s154a3 rec n) 0 2 3)) (K3 (s154a3 rec n) 0 2 3) = (K3 (s154a5 rec n) 0 2 3) :=
  (by kernel_rfl : D154 rec n c154x7 (xs x0 0 (K3 (s154a3 rec n) 0 2 3)) (K3 (s154a3 rec n) 0 2 3) = loopN (fun kk => D154 rec n c154x8 (xs x0 0 (K3 (s154a3 rec n) 0 2 3)) kk) n).trans ((s154a5le rec n n).trans (by kernel_rfl))
theorem s154a2p3 : D154 rec n c154x2 x0 r154 = D154 rec n c154x6 x0 (K3 (s154a3 rec n) 0 2 3) :=
  congrArg (fun k => D154 rec n c154x6 x0 k) (s154a3e rec n)
theorem s154a2e : D154 rec n c154x2 x0 r154 = (K3 (s154a2 rec n) 0 2 3) :=
  (s154a2p3 rec n).trans
  ((by kernel_rfl : D154 rec n c154x6 x0 (K3 (s154a3 rec n) 0 2 3) = D154 rec n c154x7 (xs x0 0 (K3 (s154a3 rec n) 0 2 3)) (K3 (s154a3 rec n) 0 2 3)).trans
  ((s154a5e rec n).trans (by kernel_rfl)))
theorem s154a1p4 : D154 rec n c154x1 x0 r154 = D154 rec n c154x9 x0 (K3 (s154a2 rec n) 0 2 3) :=
  congrArg (fun k => D154 rec n c154x9 x0 k) (s154a2e rec n)
theorem s154a1q5 (q0 : TT3) : D154 rec n c154x9 x0 (K3 q0 0 2 3) = fun (env : Env) (h : Hp) =>
 bnd (pBuild [(.i .i64 (Int.ofNat 0)), (.s []), (.i .i64 (Int.ofNat 0)), .l0, .l0, .l0] [(0, 1, (.i .i64 (Int.ofNat 9)))] h) fun v1 h1 =>
 bnd (pNew [(.i .i64 (Int.ofNat 0)), (.s []), (.i .i64 (Int.ofNat 0)), .l0, .l0, .l0] h1) fun v2 h2 =>
 bnd (pStore 6 v2 v1 h2) fun _ h3 =>
    q0 (env 0) (env 2) v2 h3 := by kernel_rfl
theorem s154a1q5u : (fun (env : Env) (h : Hp) =>
 bnd (pBuild [(.i .i64 (Int.ofNat 0)), (.s []), (.i .i64 (Int.ofNat 0)), .l0, .l0, .l0] [(0, 1, (.i .i64 (Int.ofNat 9)))] h) fun v1 h1 =>
 bnd (pNew [(.i .i64 (Int.ofNat 0)), (.s []), (.i .i64 (Int.ofNat 0)), .l0, .l0, .l0] h1) fun v2 h2 =>
 bnd (pStore 6 v2 v1 h2) fun _ h3 =>
    s154a2 rec n (env 0) (env 2) v2 h3) = (K2 (s154a1 rec n) 0 2) := by kernel_rfl
theorem s154a1e : D154 rec n c154x1 x0 r154 = (K2 (s154a1 rec n) 0 2) :=
  (s154a1p4 rec n).trans
  ((s154a1q5 rec n (s154a2 rec n)).trans (s154a1q5u rec n))
theorem s154p6 : D154 rec n c154 x0 r154 = D154 rec n c154x10 x0 (K2 (s154a1 rec n) 0 2) :=
  congrArg (fun k => D154 rec n c154x10 x0 k) (s154a1e rec n)
theorem s154q7 (q0 : TT2) : D154 rec n c154x10 x0 (K2 q0 0 2) = fun (env : Env) (h : Hp) =>
 bnd (pNew [(.i .i64 (Int.ofNat 0)), (.s []), (.i .i64 (Int.ofNat 0)), .l0, .l0, .l0] h) fun v1 h1 =>
    q0 (env 0) v1 h1 := by kernel_rfl
theorem s154q7u : (fun (env : Env) (h : Hp) =>
 bnd (pNew [(.i .i64 (Int.ofNat 0)), (.s []), (.i .i64 (Int.ofNat 0)), .l0, .l0, .l0] h) fun v1 h1 =>
    s154a1 rec n (env 0) v1 h1) = (K1 (s154 rec n) 0) := by kernel_rfl
theorem s154m : D154 rec n c154 x0 r154 = (K1 (s154 rec n) 0) :=
  (s154p6 rec n).trans
  ((s154q7 rec n (s154a1 rec n)).trans (s154q7u rec n))
theorem s154ok (args : List DV) (h : Hp) : bodyD CF rec n 154 args h = s154 rec n (args.getD 0 undefD) h :=
  (by kernel_rfl : bodyD CF rec n 154 args h = D154 rec n c154 x0 r154 (argsE args) h).trans ((congrFun (congrFun (s154m rec n) (argsE args)) h).trans (by kernel_rfl))
/-- api.Node] -/
def s155 (rec : RT) (n : Nat) (x0 : DV) (h0 : Hp) : Res :=
 bnd (pEq (.slice 25) true x0 .l0 h0) fun v1 h1 =>
 ifD v1 (
 some (.l0, h1)) (
 bnd (pBuildSlice [] 0 [] h1) fun v2 h2 =>
 bnd (pAppend 6 104 v2 x0 h2) fun v3 h3 =>
 some (v3, h3))
abbrev c155 : Code := cf Tryz.f155
abbrev r155 : K := retK CF Tryz.f155
def D155 (rec : RT) (n : Nat) (c : Code) (X : Nat → K) (k : K) : K := codeD CF rec 8 n c X r155 k
theorem s155m : D155 rec n c155 x0 r155 = (K1 (s155 rec n) 0) :=
  (by kernel_rfl)
theorem s155ok (args : List DV) (h : Hp) : bodyD CF rec n 155 args h = s155 rec n (args.getD 0 undefD) h :=
  (by kernel_rfl : bodyD CF rec n 155 args h = D155 rec n c155 x0 r155 (argsE args) h).trans ((congrFun (congrFun (s155m rec n) (argsE args)) h).trans (by kernel_rfl))
/-- parse.parser).negative -/
def s161 (rec : RT) (n : Nat) (x0 : DV) (h0 : Hp) : Res :=
 bnd (rec 81 [x0, (.i .i64 (Int.ofNat 1))] h0) fun v1 h1 =>
 bnd (pNew [(.i .i64 (Int.ofNat 0)), (.s []), (.i .i64 (Int.ofNat 0)), (.i .i64 (Int.ofNat 0))] h1) fun v2 h2 =>
 bnd (pStore 4 v2 v1 h2) fun _ h3 =>
 bnd (rec 77 [x0, (.i .i64 (Int.ofNat 3)), (.s [45])] h3) fun v4 h4 =>
 bnd (gD v4 true (pField 0 v2 h4) h4) fun v5 h5 =>
 bnd (gD v4 true (pLoad1 v5 h5) h5) fun v6 h6 =>
 bnd (gD v4 true (pInt .eql v6 (.i .i64 (Int.ofNat 4)) h6) h6) fun v7 h7 =>
 bnd (pPick v4 v7 (.b false) h7) fun v8 h8 =>
 bnd (gD v8 true (pField 3 v2 h8) h8) fun v9 h9 =>
 bnd (gD v8 true (pLoad1 v9 h9) h9) fun v10 h10 =>
 bnd (gD v8 true (some (x0, h10)) h10) fun v11 h11 =>
 bnd (gD v8 true (rec 81 [v11, (.i .i64 (Int.ofNat 0))] h11) h11) fun v12 h12 =>
 cnd (sameR (gD v8 true (pLoad1 v9 h12) h12) v10 && true) (
 bnd (gD v8 true (pPart1 3 v12 h12) h12) fun v13 h13 =>
 bnd (gD v8 true (pInt .add v13 (.i .i64 (Int.ofNat 1)) h13) h13) fun v14 h14 =>
 bnd (gD v8 true (pInt .eql v10 v14 h14) h14) fun v15 h15 =>
 bnd (pPick v8 v15 (.b false) h15) fun v16 h16 =>
 some (v16, h16))
abbrev c161 : Code := cf Tryz.f161
abbrev r161 : K := retK CF Tryz.f161
def D161 (rec : RT) (n : Nat) (c : Code) (X : Nat → K) (k : K) : K := codeD CF rec 22 n c X r161 k
theorem s161m : D161 rec n c161 x0 r161 = (K1 (s161 rec n) 0) :=
  (by kernel_rfl)
theorem s161ok (args : List DV) (h : Hp) : bodyD CF rec n 161 args h = s161 rec n (args.getD 0 undefD) h :=
  (by kernel_rfl : bodyD CF rec n 161 args h = D161 rec n c161 x0 r161 (argsE args) h).trans ((congrFun (congrFun (s161m rec n) (argsE args)) h).trans (by kernel_rfl))

end
end Go.Dd

/- Dd, the table of all functions (printed by gen.py). -/
set_option linter.unusedVariables false
set_option maxRecDepth 100000
namespace Go.Dd
open Go.Proofs
noncomputable section

section
variable (ih : RT) (m : Nat) (f : FuncId) (args : List DV) (h : Hp)
def qd6 : Res := bif Nat.beq f 7 then s7 ih m (args.getD 0 undefD) (args.getD 1 undefD) h else bodyD CF ih m f args h
theorem qd6e : qd6 ih m f args h = bodyD CF ih m f args h := by
  unfold qd6
  cases e : Nat.beq f 7 with
  | false => rfl
  | true => cases Nat.eq_of_beq_eq_true e; rw [cond_true]; exact (s7ok ih m args h).symm
def qd7 : Res := bif Nat.beq f 9 then s9 ih m (args.getD 0 undefD) h else bodyD CF ih m f args h
theorem qd7e : qd7 ih m f args h = bodyD CF ih m f args h := by
  unfold qd7
  cases e : Nat.beq f 9 with
  | false => rfl
  | true => cases Nat.eq_of_beq_eq_true e; rw [cond_true]; exact (s9ok ih m args h).symm
def qd5 : Res := bif Nat.blt f 9 then qd6 ih m f args h else qd7 ih m f args h
theorem qd5e : qd5 ih m f args h = bodyD CF ih m f args h := by
  unfold qd5
  cases Nat.blt f 9 with
  | false => exact qd7e ih m f args h
  | true => exact qd6e ih m f args h
def qd9 : Res := bif Nat.beq f 10 then s10 ih m h else bodyD CF ih m f args h
theorem qd9e : qd9 ih m f args h = bodyD CF ih m f args h := by
  unfold qd9
  cases e : Nat.beq f 10 with
  | false => rfl
  | true => cases Nat.eq_of_beq_eq_true e; rw [cond_true]; exact (s10ok ih m args h).symm
def qd10 : Res := bif Nat.beq f 13 then s13 ih m (args.getD 0 undefD) h else bodyD CF ih m f args h
theorem qd10e : qd10 ih m f args h = bodyD CF ih m f args h := by
  unfold qd10
  cases e : Nat.beq f 13 with
  | false => rfl
  | true => cases Nat.eq_of_beq_eq_true e; rw [cond_true]; exact (s13ok ih m args h).symm
def qd8 : Res := bif Nat.blt f 13 then qd9 ih m f args h else qd10 ih m f args h
theorem qd8e : qd8 ih m f args h = bodyD CF ih m f args h := by
  unfold qd8
  cases Nat.blt f 13 with
  | false => exact qd10e ih m f args h
  | true => exact qd9e ih m f args h
def qd4 : Res := bif Nat.blt f 10 then qd5 ih m f args h else qd8 ih m f args h
theorem qd4e : qd4 ih m f args h = bodyD CF ih m f args h := by
  unfold qd4
  cases Nat.blt f 10 with
  | false => exact qd8e ih m f args h
  | true => exact qd5e ih m f args h
def qd13 : Res := bif Nat.beq f 14 then s14 ih m (args.getD 0 undefD) h else bodyD CF ih m f args h
theorem qd13e : qd13 ih m f args h = bodyD CF ih m f args h := by
  unfold qd13
  cases e : Nat.beq f 14 with
  | false => rfl
  | true => cases Nat.eq_of_beq_eq_true e; rw [cond_true]; exact (s14ok ih m args h).symm
def qd14 : Res := bif Nat.beq f 16 then s16 ih m (args.getD 0 undefD) (args.getD 1 undefD) h else bodyD CF ih m f args h
theorem qd14e : qd14 ih m f args h = bodyD CF ih m f args h := by
  unfold qd14
  cases e : Nat.beq f 16 with
  | false => rfl
  | true => cases Nat.eq_of_beq_eq_true e; rw [cond_true]; exact (s16ok ih m args h).symm
def qd12 : Res := bif Nat.blt f 16 then qd13 ih m f args h else qd14 ih m f args h
theorem qd12e : qd12 ih m f args h = bodyD CF ih m f args h := by
  unfold qd12
  cases Nat.blt f 16 with
  | false => exact qd14e ih m f args h
  | true => exact qd13e ih m f args h
def qd16 : Res := bif Nat.beq f 18 then s18 ih m (args.getD 0 undefD) (args.getD 1 undefD) h else bodyD CF ih m f args h
theorem qd16e : qd16 ih m f args h = bodyD CF ih m f args h := by
  unfold qd16
  cases e : Nat.beq f 18 with
  | false => rfl
  | true => cases Nat.eq_of_beq_eq_true e; rw [cond_true]; exact (s18ok ih m args h).symm
def qd17 : Res := bif Nat.beq f 19 then s19 ih m (args.getD 0 undefD) h else bodyD CF ih m f args h
theorem qd17e : qd17 ih m f args h = bodyD CF ih m f args h := by
  unfold qd17
  cases e : Nat.beq f 19 with
  | false => rfl
  | true => cases Nat.eq_of_beq_eq_true e; rw [cond_true]; exact (s19ok ih m args h).symm
def qd15 : Res := bif Nat.blt f 19 then qd16 ih m f args h else qd17 ih m f args h
theorem qd15e : qd15 ih m f args h = bodyD CF ih m f args h := by
  unfold qd15
  cases Nat.blt f 19 with
  | false => exact qd17e ih m f args h
  | true => exact qd16e ih m f args h
def qd11 : Res := bif Nat.blt f 18 then qd12 ih m f args h else qd15 ih m f args h
theorem qd11e : qd11 ih m f args h = bodyD CF ih m f args h := by
  unfold qd11
  cases Nat.blt f 18 with
  | false => exact qd15e ih m f args h
  | true => exact qd12e ih m f args h
def qd3 : Res := bif Nat.blt f 14 then qd4 ih m f args h else qd11 ih m f args h
theorem qd3e : qd3 ih m f args h = bodyD CF ih m f args h := by
  unfold qd3
  cases Nat.blt f 14 with
  | false => exact qd11e ih m f args h
  | true => exact qd4e ih m f args h
def qd21 : Res := bif Nat.beq f 21 then s21 ih m (args.getD 0 undefD) h else bodyD CF ih m f args h
theorem qd21e : qd21 ih m f args h = bodyD CF ih m f args h := by
  unfold qd21
  cases e : Nat.beq f 21 with
  | false => rfl
  | true => cases Nat.eq_of_beq_eq_true e; rw [cond_true]; exact (s21ok ih m args h).symm
def qd22 : Res := bif Nat.beq f 22 then s22 ih m (args.getD 0 undefD) (args.getD 1 undefD) (args.getD 2 undefD) (args.getD 3 undefD) h else bodyD CF ih m f args h
theorem qd22e : qd22 ih m f args h = bodyD CF ih m f args h := by
  unfold qd22
  cases e : Nat.beq f 22 with
  | false => rfl
  | true => cases Nat.eq_of_beq_eq_true e; rw [cond_true]; exact (s22ok ih m args h).symm
def qd20 : Res := bif Nat.blt f 22 then qd21 ih m f args h else qd22 ih m f args h
theorem qd20e : qd20 ih m f args h = bodyD CF ih m f args h := by
  unfold qd20
  cases Nat.blt f 22 with
  | false => exact qd22e ih m f args h
  | true => exact qd21e ih m f args h
def qd24 : Res := bif Nat.beq f 26 then s26 ih m (args.getD 0 undefD) (args.getD 1 undefD) h else bodyD CF ih m f args h
theorem qd24e : qd24 ih m f args h = bodyD CF ih m f args h := by
  unfold qd24
  cases e : Nat.beq f 26 with
  | false => rfl
  | true => cases Nat.eq_of_beq_eq_true e; rw [cond_true]; exact (s26ok ih m args h).symm
def qd25 : Res := bif Nat.beq f 27 then s27 ih m (args.getD 0 undefD) h else bodyD CF ih m f args h
theorem qd25e : qd25 ih m f args h = bodyD CF ih m f args h := by
  unfold qd25
  cases e : Nat.beq f 27 with
  | false => rfl
  | true => cases Nat.eq_of_beq_eq_true e; rw [cond_true]; exact (s27ok ih m args h).symm
def qd23 : Res := bif Nat.blt f 27 then qd24 ih m f args h else qd25 ih m f args h
theorem qd23e : qd23 ih m f args h = bodyD CF ih m f args h := by
  unfold qd23
  cases Nat.blt f 27 with
  | false => exact qd25e ih m f args h
  | true => exact qd24e ih m f args h
def qd19 : Res := bif Nat.blt f 26 then qd20 ih m f args h else qd23 ih m f args h
theorem qd19e : qd19 ih m f args h = bodyD CF ih m f args h := by
  unfold qd19
  cases Nat.blt f 26 with
  | false => exact qd23e ih m f args h
  | true => exact qd20e ih m f args h
def qd28 : Res := bif Nat.beq f 28 then s28 ih m (args.getD 0 undefD) (args.getD 1 undefD) h else bodyD CF ih m f args h
theorem qd28e : qd28 ih m f args h = bodyD CF ih m f args h := by
  unfold qd28
  cases e : Nat.beq f 28 with
  | false => rfl
  | true => cases Nat.eq_of_beq_eq_true e; rw [cond_true]; exact (s28ok ih m args h).symm
def qd29 : Res := bif Nat.beq f 32 then s32 ih m (args.getD 0 undefD) h else bodyD CF ih m f args h
theorem qd29e : qd29 ih m f args h = bodyD CF ih m f args h := by
  unfold qd29
  cases e : Nat.beq f 32 with
  | false => rfl
  | true => cases Nat.eq_of_beq_eq_true e; rw [cond_true]; exact (s32ok ih m args h).symm
def qd27 : Res := bif Nat.blt f 32 then qd28 ih m f args h else qd29 ih m f args h
theorem qd27e : qd27 ih m f args h = bodyD CF ih m f args h := by
  unfold qd27
  cases Nat.blt f 32 with
  | false => exact qd29e ih m f args h
  | true => exact qd28e ih m f args h
def qd31 : Res := bif Nat.beq f 33 then s33 ih m (args.getD 0 undefD) h else bodyD CF ih m f args h
theorem qd31e : qd31 ih m f args h = bodyD CF ih m f args h := by
  unfold qd31
  cases e : Nat.beq f 33 with
  | false => rfl
  | true => cases Nat.eq_of_beq_eq_true e; rw [cond_true]; exact (s33ok ih m args h).symm
def qd33 : Res := bif Nat.beq f 35 then s35 ih m (args.getD 0 undefD) (args.getD 1 undefD) (args.getD 2 undefD) h else bodyD CF ih m f args h
theorem qd33e : qd33 ih m f args h = bodyD CF ih m f args h := by
  unfold qd33
  cases e : Nat.beq f 35 with
  | false => rfl
  | true => cases Nat.eq_of_beq_eq_true e; rw [cond_true]; exact (s35ok ih m args h).symm
def qd34 : Res := bif Nat.beq f 36 then s36 ih m (args.getD 0 undefD) h else bodyD CF ih m f args h
theorem qd34e : qd34 ih m f args h = bodyD CF ih m f args h := by
  unfold qd34
  cases e : Nat.beq f 36 with
  | false => rfl
  | true => cases Nat.eq_of_beq_eq_true e; rw [cond_true]; exact (s36ok ih m args h).symm
def qd32 : Res := bif Nat.blt f 36 then qd33 ih m f args h else qd34 ih m f args h
theorem qd32e : qd32 ih m f args h = bodyD CF ih m f args h := by
  unfold qd32
  cases Nat.blt f 36 with
  | false => exact qd34e ih m f args h
  | true => exact qd33e ih m f args h
def qd30 : Res := bif Nat.blt f 35 then qd31 ih m f args h else qd32 ih m f args h
theorem qd30e : qd30 ih m f args h = bodyD CF ih m f args h := by
  unfold qd30
  cases Nat.blt f 35 with
  | false => exact qd32e ih m f args h
  | true => exact qd31e ih m f args h
def qd26 : Res := bif Nat.blt f 33 then qd27 ih m f args h else qd30 ih m f args h
theorem qd26e : qd26 ih m f args h = bodyD CF ih m f args h := by
  unfold qd26
  cases Nat.blt f 33 with
  | false => exact qd30e ih m f args h
  | true => exact qd27e ih m f args h
def qd18 : Res := bif Nat.blt f 28 then qd19 ih m f args h else qd26 ih m f args h
theorem qd18e : qd18 ih m f args h = bodyD CF ih m f args h := by
  unfold qd18
  cases Nat.blt f 28 with
  | false => exact qd26e ih m f args h
  | true => exact qd19e ih m f args h
def qd2 : Res := bif Nat.blt f 21 then qd3 ih m f args h else qd18 ih m f args h
theorem qd2e : qd2 ih m f args h = bodyD CF ih m f args h := by
  unfold qd2
  cases Nat.blt f 21 with
  | false => exact qd18e ih m f args h
  | true => exact qd3e ih m f args h
def qd39 : Res := bif Nat.beq f 37 then s37 ih m (args.getD 0 undefD) (args.getD 1 undefD) h else bodyD CF ih m f args h
theorem qd39e : qd39 ih m f args h = bodyD CF ih m f args h := by
  unfold qd39
  cases e : Nat.beq f 37 with
  | false => rfl
  | true => cases Nat.eq_of_beq_eq_true e; rw [cond_true]; exact (s37ok ih m args h).symm
def qd40 : Res := bif Nat.beq f 48 then s48 ih m (args.getD 0 undefD) h else bodyD CF ih m f args h
theorem qd40e : qd40 ih m f args h = bodyD CF ih m f args h := by
  unfold qd40
  cases e : Nat.beq f 48 with
  | false => rfl
  | true => cases Nat.eq_of_beq_eq_true e; rw [cond_true]; exact (s48ok ih m args h).symm
def qd38 : Res := bif Nat.blt f 48 then qd39 ih m f args h else qd40 ih m f args h
theorem qd38e : qd38 ih m f args h = bodyD CF ih m f args h := by
  unfold qd38
  cases Nat.blt f 48 with
  | false => exact qd40e ih m f args h
  | true => exact qd39e ih m f args h
def qd42 : Res := bif Nat.beq f 49 then s49 ih m (args.getD 0 undefD) h else bodyD CF ih m f args h
theorem qd42e : qd42 ih m f args h = bodyD CF ih m f args h := by
  unfold qd42
  cases e : Nat.beq f 49 with
  | false => rfl
  | true => cases Nat.eq_of_beq_eq_true e; rw [cond_true]; exact (s49ok ih m args h).symm
def qd43 : Res := bif Nat.beq f 50 then s50 ih m (args.getD 0 undefD) h else bodyD CF ih m f args h
theorem qd43e : qd43 ih m f args h = bodyD CF ih m f args h := by
  unfold qd43
  cases e : Nat.beq f 50 with
  | false => rfl
  | true => cases Nat.eq_of_beq_eq_true e; rw [cond_true]; exact (s50ok ih m args h).symm
def qd41 : Res := bif Nat.blt f 50 then qd42 ih m f args h else qd43 ih m f args h
theorem qd41e : qd41 ih m f args h = bodyD CF ih m f args h := by
  unfold qd41
  cases Nat.blt f 50 with
  | false => exact qd43e ih m f args h
  | true => exact qd42e ih m f args h
def qd37 : Res := bif Nat.blt f 49 then qd38 ih m f args h else qd41 ih m f args h
theorem qd37e : qd37 ih m f args h = bodyD CF ih m f args h := by
  unfold qd37
  cases Nat.blt f 49 with
  | false => exact qd41e ih m f args h
  | true => exact qd38e ih m f args h
def qd46 : Res := bif Nat.beq f 51 then s51 ih m (args.getD 0 undefD) (args.getD 1 undefD) (args.getD 2 undefD) h else bodyD CF ih m f args h
theorem qd46e : qd46 ih m f args h = bodyD CF ih m f args h := by
  unfold qd46
  cases e : Nat.beq f 51 with
  | false => rfl
  | true => cases Nat.eq_of_beq_eq_true e; rw [cond_true]; exact (s51ok ih m args h).symm
def qd47 : Res := bif Nat.beq f 57 then s57 ih m (args.getD 0 undefD) (args.getD 1 undefD) h else bodyD CF ih m f args h
theorem qd47e : qd47 ih m f args h = bodyD CF ih m f args h := by
  unfold qd47
  cases e : Nat.beq f 57 with
  | false => rfl
  | true => cases Nat.eq_of_beq_eq_true e; rw [cond_true]; exact (s57ok ih m args h).symm
def qd45 : Res := bif Nat.blt f 57 then qd46 ih m f args h else qd47 ih m f args h
theorem qd45e : qd45 ih m f args h = bodyD CF ih m f args h := by
  unfold qd45
  cases Nat.blt f 57 with
  | false => exact qd47e ih m f args h
  | true => exact qd46e ih m f args h
def qd49 : Res := bif Nat.beq f 58 then s58 ih m (args.getD 0 undefD) (args.getD 1 undefD) h else bodyD CF ih m f args h
theorem qd49e : qd49 ih m f args h = bodyD CF ih m f args h := by
  unfold qd49
  cases e : Nat.beq f 58 with
  | false => rfl
  | true => cases Nat.eq_of_beq_eq_true e; rw [cond_true]; exact (s58ok ih m args h).symm
def qd50 : Res := bif Nat.beq f 61 then s61 ih m (args.getD 0 undefD) (args.getD 1 undefD) h else bodyD CF ih m f args h
theorem qd50e : qd50 ih m f args h = bodyD CF ih m f args h := by
  unfold qd50
  cases e : Nat.beq f 61 with
  | false => rfl
  | true => cases Nat.eq_of_beq_eq_true e; rw [cond_true]; exact (s61ok ih m args h).symm
def qd48 : Res := bif Nat.blt f 61 then qd49 ih m f args h else qd50 ih m f args h
theorem qd48e : qd48 ih m f args h = bodyD CF ih m f args h := by
  unfold qd48
  cases Nat.blt f 61 with
  | false => exact qd50e ih m f args h
  | true => exact qd49e ih m f args h
def qd44 : Res := bif Nat.blt f 58 then qd45 ih m f args h else qd48 ih m f args h
theorem qd44e : qd44 ih m f args h = bodyD CF ih m f args h := by
  unfold qd44
  cases Nat.blt f 58 with
  | false => exact qd48e ih m f args h
  | true => exact qd45e ih m f args h
def qd36 : Res := bif Nat.blt f 51 then qd37 ih m f args h else qd44 ih m f args h
theorem qd36e : qd36 ih m f args h = bodyD CF ih m f args h := by
  unfold qd36
  cases Nat.blt f 51 with
  | false => exact qd44e ih m f args h
  | true => exact qd37e ih m f args h
def qd54 : Res := bif Nat.beq f 62 then s62 ih m (args.getD 0 undefD) h else bodyD CF ih m f args h
theorem qd54e : qd54 ih m f args h = bodyD CF ih m f args h := by
  unfold qd54
  cases e : Nat.beq f 62 with
  | false => rfl
  | true => cases Nat.eq_of_beq_eq_true e; rw [cond_true]; exact (s62ok ih m args h).symm
def qd55 : Res := bif Nat.beq f 63 then s63 ih m (args.getD 0 undefD) (args.getD 1 undefD) h else bodyD CF ih m f args h
theorem qd55e : qd55 ih m f args h = bodyD CF ih m f args h := by
  unfold qd55
  cases e : Nat.beq f 63 with
  | false => rfl
  | true => cases Nat.eq_of_beq_eq_true e; rw [cond_true]; exact (s63ok ih m args h).symm
def qd53 : Res := bif Nat.blt f 63 then qd54 ih m f args h else qd55 ih m f args h
theorem qd53e : qd53 ih m f args h = bodyD CF ih m f args h := by
  unfold qd53
  cases Nat.blt f 63 with
  | false => exact qd55e ih m f args h
  | true => exact qd54e ih m f args h
def qd57 : Res := bif Nat.beq f 64 then s64 ih m (args.getD 0 undefD) (args.getD 1 undefD) (args.getD 2 undefD) h else bodyD CF ih m f args h
theorem qd57e : qd57 ih m f args h = bodyD CF ih m f args h := by
  unfold qd57
  cases e : Nat.beq f 64 with
  | false => rfl
  | true => cases Nat.eq_of_beq_eq_true e; rw [cond_true]; exact (s64ok ih m args h).symm
def qd58 : Res := bif Nat.beq f 74 then s74 ih m (args.getD 0 undefD) (args.getD 1 undefD) (args.getD 2 undefD) h else bodyD CF ih m f args h
theorem qd58e : qd58 ih m f args h = bodyD CF ih m f args h := by
  unfold qd58
  cases e : Nat.beq f 74 with
  | false => rfl
  | true => cases Nat.eq_of_beq_eq_true e; rw [cond_true]; exact (s74ok ih m args h).symm
def qd56 : Res := bif Nat.blt f 74 then qd57 ih m f args h else qd58 ih m f args h
theorem qd56e : qd56 ih m f args h = bodyD CF ih m f args h := by
  unfold qd56
  cases Nat.blt f 74 with
  | false => exact qd58e ih m f args h
  | true => exact qd57e ih m f args h
def qd52 : Res := bif Nat.blt f 64 then qd53 ih m f args h else qd56 ih m f args h
theorem qd52e : qd52 ih m f args h = bodyD CF ih m f args h := by
  unfold qd52
  cases Nat.blt f 64 with
  | false => exact qd56e ih m f args h
  | true => exact qd53e ih m f args h
def qd61 : Res := bif Nat.beq f 75 then s75 ih m (args.getD 0 undefD) h else bodyD CF ih m f args h
theorem qd61e : qd61 ih m f args h = bodyD CF ih m f args h := by
  unfold qd61
  cases e : Nat.beq f 75 with
  | false => rfl
  | true => cases Nat.eq_of_beq_eq_true e; rw [cond_true]; exact (s75ok ih m args h).symm
def qd62 : Res := bif Nat.beq f 76 then s76 ih m (args.getD 0 undefD) h else bodyD CF ih m f args h
theorem qd62e : qd62 ih m f args h = bodyD CF ih m f args h := by
  unfold qd62
  cases e : Nat.beq f 76 with
  | false => rfl
  | true => cases Nat.eq_of_beq_eq_true e; rw [cond_true]; exact (s76ok ih m args h).symm
def qd60 : Res := bif Nat.blt f 76 then qd61 ih m f args h else qd62 ih m f args h
theorem qd60e : qd60 ih m f args h = bodyD CF ih m f args h := by
  unfold qd60
  cases Nat.blt f 76 with
  | false => exact qd62e ih m f args h
  | true => exact qd61e ih m f args h
def qd64 : Res := bif Nat.beq f 77 then s77 ih m (args.getD 0 undefD) (args.getD 1 undefD) (args.getD 2 undefD) h else bodyD CF ih m f args h
theorem qd64e : qd64 ih m f args h = bodyD CF ih m f args h := by
  unfold qd64
  cases e : Nat.beq f 77 with
  | false => rfl
  | true => cases Nat.eq_of_beq_eq_true e; rw [cond_true]; exact (s77ok ih m args h).symm
def qd66 : Res := bif Nat.beq f 78 then s78 ih m (args.getD 0 undefD) h else bodyD CF ih m f args h
theorem qd66e : qd66 ih m f args h = bodyD CF ih m f args h := by
  unfold qd66
  cases e : Nat.beq f 78 with
  | false => rfl
  | true => cases Nat.eq_of_beq_eq_true e; rw [cond_true]; exact (s78ok ih m args h).symm
def qd67 : Res := bif Nat.beq f 79 then s79 ih m (args.getD 0 undefD) h else bodyD CF ih m f args h
theorem qd67e : qd67 ih m f args h = bodyD CF ih m f args h := by
  unfold qd67
  cases e : Nat.beq f 79 with
  | false => rfl
  | true => cases Nat.eq_of_beq_eq_true e; rw [cond_true]; exact (s79ok ih m args h).symm
def qd65 : Res := bif Nat.blt f 79 then qd66 ih m f args h else qd67 ih m f args h
theorem qd65e : qd65 ih m f args h = bodyD CF ih m f args h := by
  unfold qd65
  cases Nat.blt f 79 with
  | false => exact qd67e ih m f args h
  | true => exact qd66e ih m f args h
def qd63 : Res := bif Nat.blt f 78 then qd64 ih m f args h else qd65 ih m f args h
theorem qd63e : qd63 ih m f args h = bodyD CF ih m f args h := by
  unfold qd63
  cases Nat.blt f 78 with
  | false => exact qd65e ih m f args h
  | true => exact qd64e ih m f args h
def qd59 : Res := bif Nat.blt f 77 then qd60 ih m f args h else qd63 ih m f args h
theorem qd59e : qd59 ih m f args h = bodyD CF ih m f args h := by
  unfold qd59
  cases Nat.blt f 77 with
  | false => exact qd63e ih m f args h
  | true => exact qd60e ih m f args h
def qd51 : Res := bif Nat.blt f 75 then qd52 ih m f args h else qd59 ih m f args h
theorem qd51e : qd51 ih m f args h = bodyD CF ih m f args h := by
  unfold qd51
  cases Nat.blt f 75 with
  | false => exact qd59e ih m f args h
  | true => exact qd52e ih m f args h
def qd35 : Res := bif Nat.blt f 62 then qd36 ih m f args h else qd51 ih m f args h
theorem qd35e : qd35 ih m f args h = bodyD CF ih m f args h := by
  unfold qd35
  cases Nat.blt f 62 with
  | false => exact qd51e ih m f args h
  | true => exact qd36e ih m f args h
def qd1 : Res := bif Nat.blt f 37 then qd2 ih m f args h else qd35 ih m f args h
theorem qd1e : qd1 ih m f args h = bodyD CF ih m f args h := by
  unfold qd1
  cases Nat.blt f 37 with
  | false => exact qd35e ih m f args h
  | true => exact qd2e ih m f args h
def qd73 : Res := bif Nat.beq f 80 then s80 ih m (args.getD 0 undefD) (args.getD 1 undefD) (args.getD 2 undefD) h else bodyD CF ih m f args h
theorem qd73e : qd73 ih m f args h = bodyD CF ih m f args h := by
  unfold qd73
  cases e : Nat.beq f 80 with
  | false => rfl
  | true => cases Nat.eq_of_beq_eq_true e; rw [cond_true]; exact (s80ok ih m args h).symm
def qd74 : Res := bif Nat.beq f 81 then s81 ih m (args.getD 0 undefD) (args.getD 1 undefD) h else bodyD CF ih m f args h
theorem qd74e : qd74 ih m f args h = bodyD CF ih m f args h := by
  unfold qd74
  cases e : Nat.beq f 81 with
  | false => rfl
  | true => cases Nat.eq_of_beq_eq_true e; rw [cond_true]; exact (s81ok ih m args h).symm
def qd72 : Res := bif Nat.blt f 81 then qd73 ih m f args h else qd74 ih m f args h
theorem qd72e : qd72 ih m f args h = bodyD CF ih m f args h := by
  unfold qd72
  cases Nat.blt f 81 with
  | false => exact qd74e ih m f args h
  | true => exact qd73e ih m f args h
def qd76 : Res := bif Nat.beq f 82 then s82 ih m (args.getD 0 undefD) (args.getD 1 undefD) (args.getD 2 undefD) h else bodyD CF ih m f args h
theorem qd76e : qd76 ih m f args h = bodyD CF ih m f args h := by
  unfold qd76
  cases e : Nat.beq f 82 with
  | false => rfl
  | true => cases Nat.eq_of_beq_eq_true e; rw [cond_true]; exact (s82ok ih m args h).symm
def qd77 : Res := bif Nat.beq f 85 then s85 ih m (args.getD 0 undefD) (args.getD 1 undefD) h else bodyD CF ih m f args h
theorem qd77e : qd77 ih m f args h = bodyD CF ih m f args h := by
  unfold qd77
  cases e : Nat.beq f 85 with
  | false => rfl
  | true => cases Nat.eq_of_beq_eq_true e; rw [cond_true]; exact (s85ok ih m args h).symm
def qd75 : Res := bif Nat.blt f 85 then qd76 ih m f args h else qd77 ih m f args h
theorem qd75e : qd75 ih m f args h = bodyD CF ih m f args h := by
  unfold qd75
  cases Nat.blt f 85 with
  | false => exact qd77e ih m f args h
  | true => exact qd76e ih m f args h
def qd71 : Res := bif Nat.blt f 82 then qd72 ih m f args h else qd75 ih m f args h
theorem qd71e : qd71 ih m f args h = bodyD CF ih m f args h := by
  unfold qd71
  cases Nat.blt f 82 with
  | false => exact qd75e ih m f args h
  | true => exact qd72e ih m f args h
def qd80 : Res := bif Nat.beq f 89 then s89 ih m (args.getD 0 undefD) (args.getD 1 undefD) (args.getD 2 undefD) h else bodyD CF ih m f args h
theorem qd80e : qd80 ih m f args h = bodyD CF ih m f args h := by
  unfold qd80
  cases e : Nat.beq f 89 with
  | false => rfl
  | true => cases Nat.eq_of_beq_eq_true e; rw [cond_true]; exact (s89ok ih m args h).symm
def qd81 : Res := bif Nat.beq f 90 then s90 ih m (args.getD 0 undefD) (args.getD 1 undefD) h else bodyD CF ih m f args h
theorem qd81e : qd81 ih m f args h = bodyD CF ih m f args h := by
  unfold qd81
  cases e : Nat.beq f 90 with
  | false => rfl
  | true => cases Nat.eq_of_beq_eq_true e; rw [cond_true]; exact (s90ok ih m args h).symm
def qd79 : Res := bif Nat.blt f 90 then qd80 ih m f args h else qd81 ih m f args h
theorem qd79e : qd79 ih m f args h = bodyD CF ih m f args h := by
  unfold qd79
  cases Nat.blt f 90 with
  | false => exact qd81e ih m f args h
  | true => exact qd80e ih m f args h
def qd83 : Res := bif Nat.beq f 91 then s91 ih m (args.getD 0 undefD) h else bodyD CF ih m f args h
theorem qd83e : qd83 ih m f args h = bodyD CF ih m f args h := by
  unfold qd83
  cases e : Nat.beq f 91 with
  | false => rfl
  | true => cases Nat.eq_of_beq_eq_true e; rw [cond_true]; exact (s91ok ih m args h).symm
def qd84 : Res := bif Nat.beq f 105 then s105 ih m (args.getD 0 undefD) (args.getD 1 undefD) h else bodyD CF ih m f args h
theorem qd84e : qd84 ih m f args h = bodyD CF ih m f args h := by
  unfold qd84
  cases e : Nat.beq f 105 with
  | false => rfl
  | true => cases Nat.eq_of_beq_eq_true e; rw [cond_true]; exact (s105ok ih m args h).symm
def qd82 : Res := bif Nat.blt f 105 then qd83 ih m f args h else qd84 ih m f args h
theorem qd82e : qd82 ih m f args h = bodyD CF ih m f args h := by
  unfold qd82
  cases Nat.blt f 105 with
  | false => exact qd84e ih m f args h
  | true => exact qd83e ih m f args h
def qd78 : Res := bif Nat.blt f 91 then qd79 ih m f args h else qd82 ih m f args h
theorem qd78e : qd78 ih m f args h = bodyD CF ih m f args h := by
  unfold qd78
  cases Nat.blt f 91 with
  | false => exact qd82e ih m f args h
  | true => exact qd79e ih m f args h
def qd70 : Res := bif Nat.blt f 89 then qd71 ih m f args h else qd78 ih m f args h
theorem qd70e : qd70 ih m f args h = bodyD CF ih m f args h := by
  unfold qd70
  cases Nat.blt f 89 with
  | false => exact qd78e ih m f args h
  | true => exact qd71e ih m f args h
def qd88 : Res := bif Nat.beq f 106 then s106 ih m (args.getD 0 undefD) (args.getD 1 undefD) h else bodyD CF ih m f args h
theorem qd88e : qd88 ih m f args h = bodyD CF ih m f args h := by
  unfold qd88
  cases e : Nat.beq f 106 with
  | false => rfl
  | true => cases Nat.eq_of_beq_eq_true e; rw [cond_true]; exact (s106ok ih m args h).symm
def qd89 : Res := bif Nat.beq f 107 then s107 ih m (args.getD 0 undefD) h else bodyD CF ih m f args h
theorem qd89e : qd89 ih m f args h = bodyD CF ih m f args h := by
  unfold qd89
  cases e : Nat.beq f 107 with
  | false => rfl
  | true => cases Nat.eq_of_beq_eq_true e; rw [cond_true]; exact (s107ok ih m args h).symm
def qd87 : Res := bif Nat.blt f 107 then qd88 ih m f args h else qd89 ih m f args h
theorem qd87e : qd87 ih m f args h = bodyD CF ih m f args h := by
  unfold qd87
  cases Nat.blt f 107 with
  | false => exact qd89e ih m f args h
  | true => exact qd88e ih m f args h
def qd91 : Res := bif Nat.beq f 108 then s108 ih m (args.getD 0 undefD) h else bodyD CF ih m f args h
theorem qd91e : qd91 ih m f args h = bodyD CF ih m f args h := by
  unfold qd91
  cases e : Nat.beq f 108 with
  | false => rfl
  | true => cases Nat.eq_of_beq_eq_true e; rw [cond_true]; exact (s108ok ih m args h).symm
def qd92 : Res := bif Nat.beq f 109 then s109 ih m (args.getD 0 undefD) h else bodyD CF ih m f args h
theorem qd92e : qd92 ih m f args h = bodyD CF ih m f args h := by
  unfold qd92
  cases e : Nat.beq f 109 with
  | false => rfl
  | true => cases Nat.eq_of_beq_eq_true e; rw [cond_true]; exact (s109ok ih m args h).symm
def qd90 : Res := bif Nat.blt f 109 then qd91 ih m f args h else qd92 ih m f args h
theorem qd90e : qd90 ih m f args h = bodyD CF ih m f args h := by
  unfold qd90
  cases Nat.blt f 109 with
  | false => exact qd92e ih m f args h
  | true => exact qd91e ih m f args h
def qd86 : Res := bif Nat.blt f 108 then qd87 ih m f args h else qd90 ih m f args h
theorem qd86e : qd86 ih m f args h = bodyD CF ih m f args h := by
  unfold qd86
  cases Nat.blt f 108 with
  | false => exact qd90e ih m f args h
  | true => exact qd87e ih m f args h
def qd95 : Res := bif Nat.beq f 110 then s110 ih m (args.getD 0 undefD) h else bodyD CF ih m f args h
theorem qd95e : qd95 ih m f args h = bodyD CF ih m f args h := by
  unfold qd95
  cases e : Nat.beq f 110 with
  | false => rfl
  | true => cases Nat.eq_of_beq_eq_true e; rw [cond_true]; exact (s110ok ih m args h).symm
def qd96 : Res := bif Nat.beq f 111 then s111 ih m (args.getD 0 undefD) h else bodyD CF ih m f args h
theorem qd96e : qd96 ih m f args h = bodyD CF ih m f args h := by
  unfold qd96
  cases e : Nat.beq f 111 with
  | false => rfl
  | true => cases Nat.eq_of_beq_eq_true e; rw [cond_true]; exact (s111ok ih m args h).symm
def qd94 : Res := bif Nat.blt f 111 then qd95 ih m f args h else qd96 ih m f args h
theorem qd94e : qd94 ih m f args h = bodyD CF ih m f args h := by
  unfold qd94
  cases Nat.blt f 111 with
  | false => exact qd96e ih m f args h
  | true => exact qd95e ih m f args h
def qd98 : Res := bif Nat.beq f 112 then s112 ih m (args.getD 0 undefD) h else bodyD CF ih m f args h
theorem qd98e : qd98 ih m f args h = bodyD CF ih m f args h := by
  unfold qd98
  cases e : Nat.beq f 112 with
  | false => rfl
  | true => cases Nat.eq_of_beq_eq_true e; rw [cond_true]; exact (s112ok ih m args h).symm
def qd100 : Res := bif Nat.beq f 113 then s113 ih m (args.getD 0 undefD) h else bodyD CF ih m f args h
theorem qd100e : qd100 ih m f args h = bodyD CF ih m f args h := by
  unfold qd100
  cases e : Nat.beq f 113 with
  | false => rfl
  | true => cases Nat.eq_of_beq_eq_true e; rw [cond_true]; exact (s113ok ih m args h).symm
def qd101 : Res := bif Nat.beq f 114 then s114 ih m (args.getD 0 undefD) h else bodyD CF ih m f args h
theorem qd101e : qd101 ih m f args h = bodyD CF ih m f args h := by
  unfold qd101
  cases e : Nat.beq f 114 with
  | false => rfl
  | true => cases Nat.eq_of_beq_eq_true e; rw [cond_true]; exact (s114ok ih m args h).symm
def qd99 : Res := bif Nat.blt f 114 then qd100 ih m f args h else qd101 ih m f args h
theorem qd99e : qd99 ih m f args h = bodyD CF ih m f args h := by
  unfold qd99
  cases Nat.blt f 114 with
  | false => exact qd101e ih m f args h
  | true => exact qd100e ih m f args h
def qd97 : Res := bif Nat.blt f 113 then qd98 ih m f args h else qd99 ih m f args h
theorem qd97e : qd97 ih m f args h = bodyD CF ih m f args h := by
  unfold qd97
  cases Nat.blt f 113 with
  | false => exact qd99e ih m f args h
  | true => exact qd98e ih m f args h
def qd93 : Res := bif Nat.blt f 112 then qd94 ih m f args h else qd97 ih m f args h
theorem qd93e : qd93 ih m f args h = bodyD CF ih m f args h := by
  unfold qd93
  cases Nat.blt f 112 with
  | false => exact qd97e ih m f args h
  | true => exact qd94e ih m f args h
def qd85 : Res := bif Nat.blt f 110 then qd86 ih m f args h else qd93 ih m f args h
theorem qd85e : qd85 ih m f args h = bodyD CF ih m f args h := by
  unfold qd85
  cases Nat.blt f 110 with
  | false => exact qd93e ih m f args h
  | true => exact qd86e ih m f args h
def qd69 : Res := bif Nat.blt f 106 then qd70 ih m f args h else qd85 ih m f args h
theorem qd69e : qd69 ih m f args h = bodyD CF ih m f args h := by
  unfold qd69
  cases Nat.blt f 106 with
  | false => exact qd85e ih m f args h
  | true => exact qd70e ih m f args h
def qd106 : Res := bif Nat.beq f 126 then s126 ih m (args.getD 0 undefD) h else bodyD CF ih m f args h
theorem qd106e : qd106 ih m f args h = bodyD CF ih m f args h := by
  unfold qd106
  cases e : Nat.beq f 126 with
  | false => rfl
  | true => cases Nat.eq_of_beq_eq_true e; rw [cond_true]; exact (s126ok ih m args h).symm
def qd107 : Res := bif Nat.beq f 132 then s132 ih m (args.getD 0 undefD) h else bodyD CF ih m f args h
theorem qd107e : qd107 ih m f args h = bodyD CF ih m f args h := by
  unfold qd107
  cases e : Nat.beq f 132 with
  | false => rfl
  | true => cases Nat.eq_of_beq_eq_true e; rw [cond_true]; exact (s132ok ih m args h).symm
def qd105 : Res := bif Nat.blt f 132 then qd106 ih m f args h else qd107 ih m f args h
theorem qd105e : qd105 ih m f args h = bodyD CF ih m f args h := by
  unfold qd105
  cases Nat.blt f 132 with
  | false => exact qd107e ih m f args h
  | true => exact qd106e ih m f args h
def qd109 : Res := bif Nat.beq f 133 then s133 ih m (args.getD 0 undefD) h else bodyD CF ih m f args h
theorem qd109e : qd109 ih m f args h = bodyD CF ih m f args h := by
  unfold qd109
  cases e : Nat.beq f 133 with
  | false => rfl
  | true => cases Nat.eq_of_beq_eq_true e; rw [cond_true]; exact (s133ok ih m args h).symm
def qd110 : Res := bif Nat.beq f 134 then s134 ih m (args.getD 0 undefD) (args.getD 1 undefD) h else bodyD CF ih m f args h
theorem qd110e : qd110 ih m f args h = bodyD CF ih m f args h := by
  unfold qd110
  cases e : Nat.beq f 134 with
  | false => rfl
  | true => cases Nat.eq_of_beq_eq_true e; rw [cond_true]; exact (s134ok ih m args h).symm
def qd108 : Res := bif Nat.blt f 134 then qd109 ih m f args h else qd110 ih m f args h
theorem qd108e : qd108 ih m f args h = bodyD CF ih m f args h := by
  unfold qd108
  cases Nat.blt f 134 with
  | false => exact qd110e ih m f args h
  | true => exact qd109e ih m f args h
def qd104 : Res := bif Nat.blt f 133 then qd105 ih m f args h else qd108 ih m f args h
theorem qd104e : qd104 ih m f args h = bodyD CF ih m f args h := by
  unfold qd104
  cases Nat.blt f 133 with
  | false => exact qd108e ih m f args h
  | true => exact qd105e ih m f args h
def qd113 : Res := bif Nat.beq f 135 then s135 ih m (args.getD 0 undefD) (args.getD 1 undefD) h else bodyD CF ih m f args h
theorem qd113e : qd113 ih m f args h = bodyD CF ih m f args h := by
  unfold qd113
  cases e : Nat.beq f 135 with
  | false => rfl
  | true => cases Nat.eq_of_beq_eq_true e; rw [cond_true]; exact (s135ok ih m args h).symm
def qd114 : Res := bif Nat.beq f 136 then s136 ih m (args.getD 0 undefD) (args.getD 1 undefD) h else bodyD CF ih m f args h
theorem qd114e : qd114 ih m f args h = bodyD CF ih m f args h := by
  unfold qd114
  cases e : Nat.beq f 136 with
  | false => rfl
  | true => cases Nat.eq_of_beq_eq_true e; rw [cond_true]; exact (s136ok ih m args h).symm
def qd112 : Res := bif Nat.blt f 136 then qd113 ih m f args h else qd114 ih m f args h
theorem qd112e : qd112 ih m f args h = bodyD CF ih m f args h := by
  unfold qd112
  cases Nat.blt f 136 with
  | false => exact qd114e ih m f args h
  | true => exact qd113e ih m f args h
def qd116 : Res := bif Nat.beq f 137 then s137 ih m (args.getD 0 undefD) h else bodyD CF ih m f args h
theorem qd116e : qd116 ih m f args h = bodyD CF ih m f args h := by
  unfold qd116
  cases e : Nat.beq f 137 with
  | false => rfl
  | true => cases Nat.eq_of_beq_eq_true e; rw [cond_true]; exact (s137ok ih m args h).symm
def qd117 : Res := bif Nat.beq f 138 then s138 ih m (args.getD 0 undefD) h else bodyD CF ih m f args h
theorem qd117e : qd117 ih m f args h = bodyD CF ih m f args h := by
  unfold qd117
  cases e : Nat.beq f 138 with
  | false => rfl
  | true => cases Nat.eq_of_beq_eq_true e; rw [cond_true]; exact (s138ok ih m args h).symm
def qd115 : Res := bif Nat.blt f 138 then qd116 ih m f args h else qd117 ih m f args h
theorem qd115e : qd115 ih m f args h = bodyD CF ih m f args h := by
  unfold qd115
  cases Nat.blt f 138 with
  | false => exact qd117e ih m f args h
  | true => exact qd116e ih m f args h
def qd111 : Res := bif Nat.blt f 137 then qd112 ih m f args h else qd115 ih m f args h
theorem qd111e : qd111 ih m f args h = bodyD CF ih m f args h := by
  unfold qd111
  cases Nat.blt f 137 with
  | false => exact qd115e ih m f args h
  | true => exact qd112e ih m f args h
def qd103 : Res := bif Nat.blt f 135 then qd104 ih m f args h else qd111 ih m f args h
theorem qd103e : qd103 ih m f args h = bodyD CF ih m f args h := by
  unfold qd103
  cases Nat.blt f 135 with
  | false => exact qd111e ih m f args h
  | true => exact qd104e ih m f args h
def qd121 : Res := bif Nat.beq f 139 then s139 ih m (args.getD 0 undefD) h else bodyD CF ih m f args h
theorem qd121e : qd121 ih m f args h = bodyD CF ih m f args h := by
  unfold qd121
  cases e : Nat.beq f 139 with
  | false => rfl
  | true => cases Nat.eq_of_beq_eq_true e; rw [cond_true]; exact (s139ok ih m args h).symm
def qd122 : Res := bif Nat.beq f 149 then s149 ih m (args.getD 0 undefD) (args.getD 1 undefD) h else bodyD CF ih m f args h
theorem qd122e : qd122 ih m f args h = bodyD CF ih m f args h := by
  unfold qd122
  cases e : Nat.beq f 149 with
  | false => rfl
  | true => cases Nat.eq_of_beq_eq_true e; rw [cond_true]; exact (s149ok ih m args h).symm
def qd120 : Res := bif Nat.blt f 149 then qd121 ih m f args h else qd122 ih m f args h
theorem qd120e : qd120 ih m f args h = bodyD CF ih m f args h := by
  unfold qd120
  cases Nat.blt f 149 with
  | false => exact qd122e ih m f args h
  | true => exact qd121e ih m f args h
def qd124 : Res := bif Nat.beq f 150 then s150 ih m (args.getD 0 undefD) h else bodyD CF ih m f args h
theorem qd124e : qd124 ih m f args h = bodyD CF ih m f args h := by
  unfold qd124
  cases e : Nat.beq f 150 with
  | false => rfl
  | true => cases Nat.eq_of_beq_eq_true e; rw [cond_true]; exact (s150ok ih m args h).symm
def qd125 : Res := bif Nat.beq f 151 then s151 ih m (args.getD 0 undefD) (args.getD 1 undefD) h else bodyD CF ih m f args h
theorem qd125e : qd125 ih m f args h = bodyD CF ih m f args h := by
  unfold qd125
  cases e : Nat.beq f 151 with
  | false => rfl
  | true => cases Nat.eq_of_beq_eq_true e; rw [cond_true]; exact (s151ok ih m args h).symm
def qd123 : Res := bif Nat.blt f 151 then qd124 ih m f args h else qd125 ih m f args h
theorem qd123e : qd123 ih m f args h = bodyD CF ih m f args h := by
  unfold qd123
  cases Nat.blt f 151 with
  | false => exact qd125e ih m f args h
  | true => exact qd124e ih m f args h
def qd119 : Res := bif Nat.blt f 150 then qd120 ih m f args h else qd123 ih m f args h
theorem qd119e : qd119 ih m f args h = bodyD CF ih m f args h := by
  unfold qd119
  cases Nat.blt f 150 with
  | false => exact qd123e ih m f args h
  | true => exact qd120e ih m f args h
def qd128 : Res := bif Nat.beq f 152 then s152 ih m (args.getD 0 undefD) h else bodyD CF ih m f args h
theorem qd128e : qd128 ih m f args h = bodyD CF ih m f args h := by
  unfold qd128
  cases e : Nat.beq f 152 with
  | false => rfl
  | true => cases Nat.eq_of_beq_eq_true e; rw [cond_true]; exact (s152ok ih m args h).symm
def qd129 : Res := bif Nat.beq f 153 then s153 ih m (args.getD 0 undefD) h else bodyD CF ih m f args h
theorem qd129e : qd129 ih m f args h = bodyD CF ih m f args h := by
  unfold qd129
  cases e : Nat.beq f 153 with
  | false => rfl
  | true => cases Nat.eq_of_beq_eq_true e; rw [cond_true]; exact (s153ok ih m args h).symm
def qd127 : Res := bif Nat.blt f 153 then qd128 ih m f args h else qd129 ih m f args h
theorem qd127e : qd127 ih m f args h = bodyD CF ih m f args h := by
  unfold qd127
  cases Nat.blt f 153 with
  | false => exact qd129e ih m f args h
  | true => exact qd128e ih m f args h
def qd131 : Res := bif Nat.beq f 154 then s154 ih m (args.getD 0 undefD) h else bodyD CF ih m f args h
theorem qd131e : qd131 ih m f args h = bodyD CF ih m f args h := by
  unfold qd131
  cases e : Nat.beq f 154 with
  | false => rfl
  | true => cases Nat.eq_of_beq_eq_true e; rw [cond_true]; exact (s154ok ih m args h).symm
def qd133 : Res := bif Nat.beq f 155 then s155 ih m (args.getD 0 undefD) h else bodyD CF ih m f args h
theorem qd133e : qd133 ih m f args h = bodyD CF ih m f args h := by
  unfold qd133
  cases e : Nat.beq f 155 with
  | false => rfl
  | true => cases Nat.eq_of_beq_eq_true e; rw [cond_true]; exact (s155ok ih m args h).symm
def qd134 : Res := bif Nat.beq f 161 then s161 ih m (args.getD 0 undefD) h else bodyD CF ih m f args h
theorem qd134e : qd134 ih m f args h = bodyD CF ih m f args h := by
  unfold qd134
  cases e : Nat.beq f 161 with
  | false => rfl
  | true => cases Nat.eq_of_beq_eq_true e; rw [cond_true]; exact (s161ok ih m args h).symm
def qd132 : Res := bif Nat.blt f 161 then qd133 ih m f args h else qd134 ih m f args h
theorem qd132e : qd132 ih m f args h = bodyD CF ih m f args h := by
  unfold qd132
  cases Nat.blt f 161 with
  | false => exact qd134e ih m f args h
  | true => exact qd133e ih m f args h
def qd130 : Res := bif Nat.blt f 155 then qd131 ih m f args h else qd132 ih m f args h
theorem qd130e : qd130 ih m f args h = bodyD CF ih m f args h := by
  unfold qd130
  cases Nat.blt f 155 with
  | false => exact qd132e ih m f args h
  | true => exact qd131e ih m f args h
def qd126 : Res := bif Nat.blt f 154 then qd127 ih m f args h else qd130 ih m f args h
theorem qd126e : qd126 ih m f args h = bodyD CF ih m f args h := by
  unfold qd126
  cases Nat.blt f 154 with
  | false => exact qd130e ih m f args h
  | true => exact qd127e ih m f args h
def qd118 : Res := bif Nat.blt f 152 then qd119 ih m f args h else qd126 ih m f args h
theorem qd118e : qd118 ih m f args h = bodyD CF ih m f args h := by
  unfold qd118
  cases Nat.blt f 152 with
  | false => exact qd126e ih m f args h
  | true => exact qd119e ih m f args h
def qd102 : Res := bif Nat.blt f 139 then qd103 ih m f args h else qd118 ih m f args h
theorem qd102e : qd102 ih m f args h = bodyD CF ih m f args h := by
  unfold qd102
  cases Nat.blt f 139 with
  | false => exact qd118e ih m f args h
  | true => exact qd103e ih m f args h
def qd68 : Res := bif Nat.blt f 126 then qd69 ih m f args h else qd102 ih m f args h
theorem qd68e : qd68 ih m f args h = bodyD CF ih m f args h := by
  unfold qd68
  cases Nat.blt f 126 with
  | false => exact qd102e ih m f args h
  | true => exact qd69e ih m f args h
def qd0 : Res := bif Nat.blt f 80 then qd1 ih m f args h else qd68 ih m f args h
theorem qd0e : qd0 ih m f args h = bodyD CF ih m f args h := by
  unfold qd0
  cases Nat.blt f 80 with
  | false => exact qd68e ih m f args h
  | true => exact qd1e ih m f args h

end
/-- One level of calls: the functions one by one. -/
def shB (ih : RT) (m : Nat) (f : FuncId) (args : List DV) (h : Hp) : Res := qd0 ih m f args h
theorem shB_eq (ih : RT) (m : Nat) (f : FuncId) (args : List DV) (h : Hp) : shB ih m f args h = bodyD CF ih m f args h := qd0e ih m f args h
def shD (n : Nat) : FuncId → List DV → Hp → Res :=
  Nat.rec (motive := fun _ => FuncId → List DV → Hp → Res) (fun _ _ _ => none) (fun m ih => shB ih m) n
theorem shD_eq : ∀ n, shD n = fnD CF n
  | 0 => rfl
  | n + 1 => by
    have e : shD (n + 1) = shB (shD n) n := rfl
    have e' : fnD CF (n + 1) = bodyD CF (fnD CF n) n := rfl
    rw [e, e', ← shD_eq n]
    funext f args h
    exact shB_eq _ _ _ _ _

end
end Go.Dd

/-
  DERIVED: THE SHELF's CONTRACTS AT THIS DUMP, IN PLAIN WORDS (tools/lay-plain.mjs out of 'TryzShelf.lean', which tools/lay-shelf.mjs wrote): THE SAME DECLARATIONS UNDER THE SAME NAMES: 'import', 'namespace', 'open', 'def', 'theorem' AND NOTHING ELSE: no command of the shelf's: FOR A HAND-IN. Each laying: the table of numbers ('.._ren') and one theorem, a field a fact of the dump's own or the kernel's comparison; each contract: ONE APPLICATION.
-/
namespace Go.Proofs
open Go.Shelf
def Tryz.lays156_ren : Go.Shelf.Ren := ⟨fun | 156 => 30 | 165 => 54 | 166 => 55 | 169 => 56 | 240 => 83 | 241 => 84 | 276 => 115 | 277 => 116 | n => n, fun | 31 => 22 | 9 => 9 | 3 => 3 | 4 => 4 | 0 => 0 | 20 => 20 | 72 => 73 | 76 => 77 | 70 => 70 | 37 => 71 | 75 => 76 | 127 => 104 | 164 => 118 | 5 => 5 | 80 => 79 | n => n, fun | n => n⟩
theorem Tryz.lays156 : Go.Proofs.Lays.n156 Tryz.prog Tryz.lays156_ren := {
  mixed := by kernel_rfl
  f156 := Tryz.func30.trans (congrArg some (by kernel_rfl))
  f165 := Tryz.func54.trans (congrArg some (by kernel_rfl))
  f166 := Tryz.func55.trans (congrArg some (by kernel_rfl))
  f169 := Tryz.func56.trans (congrArg some (by kernel_rfl))
  f240 := Tryz.func83.trans (congrArg some (by kernel_rfl))
  f241 := Tryz.func84.trans (congrArg some (by kernel_rfl))
  f276 := Tryz.func115.trans (congrArg some (by kernel_rfl))
  f277 := Tryz.func116.trans (congrArg some (by kernel_rfl))
  t0 := Tryz.underlying0
  a0 := Tryz.isAgg0
  z0 := Tryz.sizeOf0
  v0 := Tryz.zeroValue0
  t3 := Tryz.underlying3
  a3 := Tryz.isAgg3
  z3 := Tryz.sizeOf3
  v3 := Tryz.zeroValue3
  t4 := Tryz.underlying4
  a4 := Tryz.isAgg4
  z4 := Tryz.sizeOf4
  v4 := Tryz.zeroValue4
  t9 := Tryz.underlying9
  a9 := Tryz.isAgg9
  z9 := Tryz.sizeOf9
  v9 := Tryz.zeroValue9
  t20 := Tryz.underlying20
  a20 := Tryz.isAgg20
  z20 := Tryz.sizeOf20
  v20 := Tryz.zeroValue20
  t31 := Tryz.underlying22
  a31 := Tryz.isAgg22
  z31 := Tryz.sizeOf22
  v31 := Tryz.zeroValue22
  t37 := Tryz.underlying71
  a37 := Tryz.isAgg71
  z37 := Tryz.sizeOf71
  v37 := Tryz.zeroValue71
  t70 := Tryz.underlying70
  a70 := Tryz.isAgg70
  z70 := Tryz.sizeOf70
  v70 := Tryz.zeroValue70
  t72 := Tryz.underlying73
  a72 := Tryz.isAgg73
  z72 := Tryz.sizeOf73
  v72 := Tryz.zeroValue73
  t75 := Tryz.underlying76
  a75 := Tryz.isAgg76
  z75 := Tryz.sizeOf76
  v75 := Tryz.zeroValue76
  t76 := Tryz.underlying77
  a76 := Tryz.isAgg77
  z76 := Tryz.sizeOf77
  v76 := Tryz.zeroValue77
  t127 := Tryz.underlying104
  a127 := Tryz.isAgg104
  z127 := Tryz.sizeOf104
  v127 := Tryz.zeroValue104
  t164 := Tryz.underlying118
  a164 := Tryz.isAgg118
  z164 := Tryz.sizeOf118
  v164 := Tryz.zeroValue118 }
theorem Tryz.Builder_Extra_156 : Builder.Extra Tryz.prog Tryz.lays156_ren := {
  sizeBuilder := by kernel_rfl
  liesBuilder := by kernel_rfl
  t5 := Tryz.underlying5
  a5 := Tryz.isAgg5
  z5 := Tryz.sizeOf5
  v5 := Tryz.zeroValue5
  infoByte := by kernel_rfl
  cellsByte := by kernel_rfl
  sizeByte := by kernel_rfl
  neB5 := by decide }
open Go.RowKit in
/-- No element: the empty string; the world is as it was. (Whatever the slice's address and capacity: a nil slice too.) (LAID: no walk: one application.) -/
theorem Tryz.strings_Join_none (a : Option Addr) (c : Nat) (sep : ByteArray) (w : World) :
    Calls Tryz.prog 30 #[.slice a 0 c, .string sep] w fun e w' => e = .returned (.string ⟨#[]⟩) ∧ w' = w := Any.strings_Join_none Tryz.lays156 Tryz.Builder_Extra_156 a c sep w
open Go.RowKit in
/-- strings.Join: "Join concatenates the elements of its first argument to create a single string. The separator string sep is placed between elements in the resulting string.": HOWEVER MANY ELEMENTS. Below the heap's end the world is as it was. (LAID: no walk: one application.) -/
theorem Tryz.strings_Join (bk o c : Nat) (xs : List ByteArray) (sep : ByteArray) (w : World) (hcells : ∀ (j : Nat) x, xs[j]? = some x → w.cell? ⟨bk, o + j, none⟩ = some (.string x)) (hbk : bk < w.heap.size) (hN : xs.length ≤ 140737488355328) (hcap : xs.length ≤ c) (hlen : (Lib.join (xs.map (·.data.toList)) sep.data.toList).length ≤ 140737488355328) :
    Calls Tryz.prog 30 #[.slice (some ⟨bk, o, none⟩) xs.length c, .string sep] w fun e w' => e = .returned (.string ⟨(Lib.join (xs.map (·.data.toList)) sep.data.toList).toArray⟩) ∧ Below w.heap.size w w' := Any.strings_Join Tryz.lays156 Tryz.Builder_Extra_156 bk o c xs sep w hcells hbk hN hcap hlen
def Tryz.laysM246_ren : Go.Shelf.Ren := ⟨fun | 246 => 87 | 283 => 121 | 284 => 122 | 285 => 123 | 286 => 124 | 129 => 144 | 317 => 143 | 318 => 145 | 319 => 146 | 320 => 147 | 337 => 159 | 338 => 160 | n => n, fun | 2 => 2 | 3 => 3 | 9 => 9 | 4 => 4 | 171 => 123 | 0 => 0 | 53 => 124 | 37 => 71 | 5 => 5 | 173 => 127 | 212 => 136 | 51 => 137 | 20 => 20 | 213 => 138 | 46 => 140 | 232 => 152 | 233 => 153 | n => n, fun | 17 => 1 | 18 => 4 | 19 => 5 | n => n⟩
def Tryz.laysM243_ren : Go.Shelf.Ren := ⟨fun | 243 => 59 | 246 => 87 | 283 => 121 | 284 => 122 | 285 => 123 | 286 => 124 | 129 => 144 | 317 => 143 | 318 => 145 | 319 => 146 | 320 => 147 | 337 => 159 | 338 => 160 | n => n, fun | 3 => 3 | 9 => 9 | 2 => 2 | 4 => 4 | 171 => 123 | 0 => 0 | 53 => 124 | 37 => 71 | 5 => 5 | 173 => 127 | 212 => 136 | 51 => 137 | 20 => 20 | 213 => 138 | 46 => 140 | 232 => 152 | 233 => 153 | n => n, fun | 17 => 1 | 18 => 4 | 19 => 5 | n => n⟩
def Tryz.laysM171_ren : Go.Shelf.Ren := ⟨fun | 171 => 34 | 243 => 59 | 246 => 87 | 283 => 121 | 284 => 122 | 285 => 123 | 286 => 124 | 129 => 144 | 317 => 143 | 318 => 145 | 319 => 146 | 320 => 147 | 337 => 159 | 338 => 160 | n => n, fun | 3 => 3 | 9 => 9 | 2 => 2 | 4 => 4 | 171 => 123 | 0 => 0 | 53 => 124 | 37 => 71 | 5 => 5 | 173 => 127 | 212 => 136 | 51 => 137 | 20 => 20 | 213 => 138 | 46 => 140 | 232 => 152 | 233 => 153 | n => n, fun | 17 => 1 | 18 => 4 | 19 => 5 | n => n⟩
theorem Tryz.laysM171 : Go.Proofs.LaysM.n171 Tryz.prog Tryz.laysM171_ren := {
  mixed := by kernel_rfl
  f129 := Tryz.func144.trans (congrArg some (by kernel_rfl))
  f171 := Tryz.func34.trans (congrArg some (by kernel_rfl))
  f243 := Tryz.func59.trans (congrArg some (by kernel_rfl))
  f246 := Tryz.func87.trans (congrArg some (by kernel_rfl))
  f283 := Tryz.func121.trans (congrArg some (by kernel_rfl))
  f284 := Tryz.func122.trans (congrArg some (by kernel_rfl))
  f285 := Tryz.func123.trans (congrArg some (by kernel_rfl))
  f286 := Tryz.func124.trans (congrArg some (by kernel_rfl))
  f317 := Tryz.func143.trans (congrArg some (by kernel_rfl))
  f318 := Tryz.func145.trans (congrArg some (by kernel_rfl))
  f319 := Tryz.func146.trans (congrArg some (by kernel_rfl))
  f320 := Tryz.func147.trans (congrArg some (by kernel_rfl))
  f337 := Tryz.func159.trans (congrArg some (by kernel_rfl))
  f338 := Tryz.func160.trans (congrArg some (by kernel_rfl))
  t0 := Tryz.underlying0
  a0 := Tryz.isAgg0
  z0 := Tryz.sizeOf0
  v0 := Tryz.zeroValue0
  t2 := Tryz.underlying2
  a2 := Tryz.isAgg2
  z2 := Tryz.sizeOf2
  v2 := Tryz.zeroValue2
  t3 := Tryz.underlying3
  a3 := Tryz.isAgg3
  z3 := Tryz.sizeOf3
  v3 := Tryz.zeroValue3
  t4 := Tryz.underlying4
  a4 := Tryz.isAgg4
  z4 := Tryz.sizeOf4
  v4 := Tryz.zeroValue4
  t5 := Tryz.underlying5
  a5 := Tryz.isAgg5
  z5 := Tryz.sizeOf5
  v5 := Tryz.zeroValue5
  t9 := Tryz.underlying9
  a9 := Tryz.isAgg9
  z9 := Tryz.sizeOf9
  v9 := Tryz.zeroValue9
  t20 := Tryz.underlying20
  a20 := Tryz.isAgg20
  z20 := Tryz.sizeOf20
  v20 := Tryz.zeroValue20
  t37 := Tryz.underlying71
  a37 := Tryz.isAgg71
  z37 := Tryz.sizeOf71
  v37 := Tryz.zeroValue71
  t46 := Tryz.underlying140
  a46 := Tryz.isAgg140
  z46 := Tryz.sizeOf140
  v46 := Tryz.zeroValue140
  t51 := Tryz.underlying137
  a51 := Tryz.isAgg137
  z51 := Tryz.sizeOf137
  v51 := Tryz.zeroValue137
  t53 := Tryz.underlying124
  a53 := Tryz.isAgg124
  z53 := Tryz.sizeOf124
  v53 := Tryz.zeroValue124
  t171 := Tryz.underlying123
  a171 := Tryz.isAgg123
  z171 := Tryz.sizeOf123
  v171 := Tryz.zeroValue123
  t173 := Tryz.underlying127
  a173 := Tryz.isAgg127
  z173 := Tryz.sizeOf127
  v173 := Tryz.zeroValue127
  t212 := Tryz.underlying136
  a212 := Tryz.isAgg136
  z212 := Tryz.sizeOf136
  v212 := Tryz.zeroValue136
  t213 := Tryz.underlying138
  a213 := Tryz.isAgg138
  z213 := Tryz.sizeOf138
  t232 := Tryz.underlying152
  a232 := Tryz.isAgg152
  z232 := Tryz.sizeOf152
  v232 := Tryz.zeroValue152
  t233 := Tryz.underlying153
  a233 := Tryz.isAgg153
  z233 := Tryz.sizeOf153
  v233 := Tryz.zeroValue153
  g17 := by kernel_rfl
  g18 := by kernel_rfl
  g19 := by kernel_rfl
  i0 := by kernel_rfl
  i2 := by kernel_rfl
  i3 := by kernel_rfl
  i4 := by kernel_rfl
  i5 := by kernel_rfl
  i9 := by kernel_rfl
  i20 := by kernel_rfl
  i37 := by kernel_rfl
  i46 := by kernel_rfl
  i51 := by kernel_rfl
  i53 := by kernel_rfl
  i171 := by kernel_rfl
  i173 := by kernel_rfl
  i212 := by kernel_rfl
  i232 := by kernel_rfl
  i233 := by kernel_rfl
  m17 := by kernel_rfl
  m18 := by kernel_rfl
  m19 := by kernel_rfl }
open Go.RowKit Go.Sort Go.Lib in
/-- strconv.Itoa: "Itoa is equivalent to FormatInt(int64(i), 10).": i's DECIMAL NUMERAL ('Lib.itoa': a '-' where i is negative, then the digits), FOR EVERY int. The world behind the call: the world before it, new blocks behind the heap (the library's 'var a [24]byte'), draws. (LAID: no walk: one application.) -/
theorem Tryz.strconv_Itoa (n : Int) (h0 : -9223372036854775808 ≤ n) (h1 : n ≤ 9223372036854775807) (w : World) (htab : Lib.TabIs Tryz.prog w "internal/strconv.uint64pow10" .u64 Lib.pow10Tab) :
    Calls Tryz.prog 34 #[.int .i64 n] w fun e w' => e = .returned (.string ⟨(Lib.itoa n).toArray⟩) ∧ ∃ k os, w' = grow (w.drewN k) os := Any.strconv_Itoa Tryz.laysM171 n h0 h1 w htab
def Tryz.lays219_ren : Go.Shelf.Ren := ⟨fun | 219 => 142 | 217 => 85 | 225 => 156 | 224 => 157 | 267 => 158 | 266 => 117 | 314 => 162 | n => n, fun | 9 => 9 | 3 => 3 | 4 => 4 | 5 => 5 | 46 => 140 | 146 => 150 | 51 => 137 | n => n, fun | 1 => 0 | n => n⟩
def Tryz.lays143_ren : Go.Shelf.Ren := ⟨fun | 143 => 120 | 219 => 142 | 217 => 85 | 225 => 156 | 224 => 157 | 267 => 158 | 266 => 117 | 314 => 162 | n => n, fun | 9 => 9 | 3 => 3 | 4 => 4 | 5 => 5 | 46 => 140 | 146 => 150 | 51 => 137 | n => n, fun | 1 => 0 | n => n⟩
def Tryz.laysM143_ren : Go.Shelf.Ren := ⟨fun | 143 => 120 | 219 => 142 | 217 => 85 | 225 => 156 | 224 => 157 | 267 => 158 | 266 => 117 | 314 => 162 | n => n, fun | 9 => 9 | 3 => 3 | 4 => 4 | 5 => 5 | 46 => 140 | 146 => 150 | 51 => 137 | n => n, fun | 1 => 0 | n => n⟩
theorem Tryz.laysM143 : Go.Proofs.LaysM.n143 Tryz.prog Tryz.laysM143_ren := {
  mixed := by kernel_rfl
  f143 := Tryz.func120.trans (congrArg some (by kernel_rfl))
  f217 := Tryz.func85.trans (congrArg some (by kernel_rfl))
  f219 := Tryz.func142.trans (congrArg some (by kernel_rfl))
  f224 := Tryz.func157.trans (congrArg some (by kernel_rfl))
  f225 := Tryz.func156.trans (congrArg some (by kernel_rfl))
  f266 := Tryz.func117.trans (congrArg some (by kernel_rfl))
  f267 := Tryz.func158.trans (congrArg some (by kernel_rfl))
  f314 := Tryz.func162.trans (congrArg some (by kernel_rfl))
  t3 := Tryz.underlying3
  a3 := Tryz.isAgg3
  z3 := Tryz.sizeOf3
  v3 := Tryz.zeroValue3
  t4 := Tryz.underlying4
  a4 := Tryz.isAgg4
  z4 := Tryz.sizeOf4
  v4 := Tryz.zeroValue4
  t5 := Tryz.underlying5
  a5 := Tryz.isAgg5
  z5 := Tryz.sizeOf5
  v5 := Tryz.zeroValue5
  t9 := Tryz.underlying9
  a9 := Tryz.isAgg9
  z9 := Tryz.sizeOf9
  v9 := Tryz.zeroValue9
  t46 := Tryz.underlying140
  a46 := Tryz.isAgg140
  z46 := Tryz.sizeOf140
  v46 := Tryz.zeroValue140
  t51 := Tryz.underlying137
  a51 := Tryz.isAgg137
  z51 := Tryz.sizeOf137
  v51 := Tryz.zeroValue137
  t146 := Tryz.underlying150
  a146 := Tryz.isAgg150
  z146 := Tryz.sizeOf150
  v146 := Tryz.zeroValue150
  g1 := by kernel_rfl
  i3 := by kernel_rfl
  i4 := by kernel_rfl
  i5 := by kernel_rfl
  i9 := by kernel_rfl
  i46 := by kernel_rfl
  i51 := by kernel_rfl
  i146 := by kernel_rfl
  m1 := by kernel_rfl
  s1_3 := fun w h => Go.Proofs.cell_of_shapedOpen_int (zero := #[.int .i64 0]) (t := 3) h (of_decide_eq_true (by kernel_rfl)) (by kernel_rfl) rfl (by kernel_rfl) (by kernel_rfl) Tryz.underlying3 }
def Tryz.lays221_ren : Go.Shelf.Ren := ⟨fun | 221 => 86 | 268 => 118 | 138 => 119 | 143 => 120 | 195 => 140 | 197 => 125 | 218 => 141 | 219 => 142 | 260 => 148 | 217 => 85 | 225 => 156 | 224 => 157 | 267 => 158 | 266 => 117 | 314 => 162 | n => n, fun | 9 => 9 | 3 => 3 | 31 => 22 | 4 => 4 | 0 => 0 | 105 => 129 | 21 => 21 | 5 => 5 | 46 => 140 | 119 => 146 | 139 => 149 | 138 => 148 | 146 => 150 | 51 => 137 | n => n, fun | 1 => 0 | 3 => 2 | 4 => 3 | n => n⟩
theorem Tryz.lays221 : Go.Proofs.Lays.n221 Tryz.prog Tryz.lays221_ren := {
  mixed := by kernel_rfl
  f138 := Tryz.func119.trans (congrArg some (by kernel_rfl))
  f143 := Tryz.func120.trans (congrArg some (by kernel_rfl))
  f195 := Tryz.func140.trans (congrArg some (by kernel_rfl))
  f197 := Tryz.func125.trans (congrArg some (by kernel_rfl))
  f217 := Tryz.func85.trans (congrArg some (by kernel_rfl))
  f218 := Tryz.func141.trans (congrArg some (by kernel_rfl))
  f219 := Tryz.func142.trans (congrArg some (by kernel_rfl))
  f221 := Tryz.func86.trans (congrArg some (by kernel_rfl))
  f224 := Tryz.func157.trans (congrArg some (by kernel_rfl))
  f225 := Tryz.func156.trans (congrArg some (by kernel_rfl))
  f260 := Tryz.func148.trans (congrArg some (by kernel_rfl))
  f266 := Tryz.func117.trans (congrArg some (by kernel_rfl))
  f267 := Tryz.func158.trans (congrArg some (by kernel_rfl))
  f268 := Tryz.func118.trans (congrArg some (by kernel_rfl))
  f314 := Tryz.func162.trans (congrArg some (by kernel_rfl))
  t0 := Tryz.underlying0
  a0 := Tryz.isAgg0
  z0 := Tryz.sizeOf0
  v0 := Tryz.zeroValue0
  t3 := Tryz.underlying3
  a3 := Tryz.isAgg3
  z3 := Tryz.sizeOf3
  v3 := Tryz.zeroValue3
  t4 := Tryz.underlying4
  a4 := Tryz.isAgg4
  z4 := Tryz.sizeOf4
  v4 := Tryz.zeroValue4
  t5 := Tryz.underlying5
  a5 := Tryz.isAgg5
  z5 := Tryz.sizeOf5
  v5 := Tryz.zeroValue5
  t9 := Tryz.underlying9
  a9 := Tryz.isAgg9
  z9 := Tryz.sizeOf9
  v9 := Tryz.zeroValue9
  t21 := Tryz.underlying21
  a21 := Tryz.isAgg21
  z21 := Tryz.sizeOf21
  v21 := Tryz.zeroValue21
  t31 := Tryz.underlying22
  a31 := Tryz.isAgg22
  z31 := Tryz.sizeOf22
  v31 := Tryz.zeroValue22
  t46 := Tryz.underlying140
  a46 := Tryz.isAgg140
  z46 := Tryz.sizeOf140
  v46 := Tryz.zeroValue140
  t51 := Tryz.underlying137
  a51 := Tryz.isAgg137
  z51 := Tryz.sizeOf137
  v51 := Tryz.zeroValue137
  t105 := Tryz.underlying129
  a105 := Tryz.isAgg129
  z105 := Tryz.sizeOf129
  v105 := Tryz.zeroValue129
  t119 := Tryz.underlying146
  a119 := Tryz.isAgg146
  z119 := Tryz.sizeOf146
  t138 := Tryz.underlying148
  a138 := Tryz.isAgg148
  z138 := Tryz.sizeOf148
  v138 := Tryz.zeroValue148
  t139 := Tryz.underlying149
  a139 := Tryz.isAgg149
  z139 := Tryz.sizeOf149
  v139 := Tryz.zeroValue149
  t146 := Tryz.underlying150
  a146 := Tryz.isAgg150
  z146 := Tryz.sizeOf150
  v146 := Tryz.zeroValue150
  g1 := by kernel_rfl
  g3 := by kernel_rfl
  g4 := by kernel_rfl }
open Go.RowKit Go.Lib in
theorem Tryz.strings_genSplit (s sep : ByteArray) (sv : Nat) (n : Int) (N : Nat) (m : Int) (w : World) (hs : s.size < 4294967281) (hm : w.cell? ⟨0, 0, none⟩ = some (.int .i64 m)) (h1 : 1 ≤ sep.size) (hsv : sv ≤ sep.size) (hn0 : n ≠ 0) (hn63 : n ≤ 9223372036854775807) (hN : (N : Int) = min (if n < 0 then (Lib.countB s sep : Int) + 1 else n) ((s.size : Int) + 1)) :
    Calls Tryz.prog 86 #[.string s, .string sep, .int .i64 sv, .int .i64 n] w fun e w' =>
      e = .returned (.slice (some ⟨w.heap.size, 0, none⟩) (Lib.splitB sep sv (N - 1) s).length N) ∧ w' = w.alloc (.cells (Lib.cellsOf (Lib.splitB sep sv (N - 1) s) N) 9) := Any.strings_genSplit Tryz.lays221 (by kernel_rfl) s sep sv n N m w hs hm h1 hsv hn0 hn63 hN
def Tryz.lays154_ren : Go.Shelf.Ren := ⟨fun | 154 => 88 | 138 => 119 | 165 => 54 | 143 => 120 | 166 => 55 | 197 => 125 | 169 => 56 | 195 => 140 | 218 => 141 | 240 => 83 | 241 => 84 | 219 => 142 | 260 => 148 | 276 => 115 | 277 => 116 | 217 => 85 | 225 => 156 | 224 => 157 | 267 => 158 | 266 => 117 | 314 => 162 | n => n, fun | 9 => 9 | 3 => 3 | 4 => 4 | 72 => 73 | 0 => 0 | 76 => 77 | 105 => 129 | 21 => 21 | 5 => 5 | 70 => 70 | 20 => 20 | 37 => 71 | 75 => 76 | 127 => 104 | 164 => 118 | 46 => 140 | 119 => 146 | 139 => 149 | 138 => 148 | 146 => 150 | 51 => 137 | 80 => 79 | n => n, fun | 1 => 0 | 3 => 2 | 4 => 3 | n => n⟩
def Tryz.lays155_ren : Go.Shelf.Ren := ⟨fun | 155 => 60 | 154 => 88 | 138 => 119 | 165 => 54 | 143 => 120 | 166 => 55 | 197 => 125 | 169 => 56 | 195 => 140 | 218 => 141 | 240 => 83 | 241 => 84 | 219 => 142 | 260 => 148 | 276 => 115 | 277 => 116 | 217 => 85 | 225 => 156 | 224 => 157 | 267 => 158 | 266 => 117 | 314 => 162 | n => n, fun | 9 => 9 | 3 => 3 | 4 => 4 | 72 => 73 | 0 => 0 | 76 => 77 | 105 => 129 | 21 => 21 | 5 => 5 | 70 => 70 | 20 => 20 | 37 => 71 | 75 => 76 | 127 => 104 | 164 => 118 | 46 => 140 | 119 => 146 | 139 => 149 | 138 => 148 | 146 => 150 | 51 => 137 | 80 => 79 | n => n, fun | 1 => 0 | 3 => 2 | 4 => 3 | n => n⟩
theorem Tryz.lays155 : Go.Proofs.Lays.n155 Tryz.prog Tryz.lays155_ren := {
  mixed := by kernel_rfl
  f138 := Tryz.func119.trans (congrArg some (by kernel_rfl))
  f143 := Tryz.func120.trans (congrArg some (by kernel_rfl))
  f154 := Tryz.func88.trans (congrArg some (by kernel_rfl))
  f155 := Tryz.func60.trans (congrArg some (by kernel_rfl))
  f165 := Tryz.func54.trans (congrArg some (by kernel_rfl))
  f166 := Tryz.func55.trans (congrArg some (by kernel_rfl))
  f169 := Tryz.func56.trans (congrArg some (by kernel_rfl))
  f195 := Tryz.func140.trans (congrArg some (by kernel_rfl))
  f197 := Tryz.func125.trans (congrArg some (by kernel_rfl))
  f217 := Tryz.func85.trans (congrArg some (by kernel_rfl))
  f218 := Tryz.func141.trans (congrArg some (by kernel_rfl))
  f219 := Tryz.func142.trans (congrArg some (by kernel_rfl))
  f224 := Tryz.func157.trans (congrArg some (by kernel_rfl))
  f225 := Tryz.func156.trans (congrArg some (by kernel_rfl))
  f240 := Tryz.func83.trans (congrArg some (by kernel_rfl))
  f241 := Tryz.func84.trans (congrArg some (by kernel_rfl))
  f260 := Tryz.func148.trans (congrArg some (by kernel_rfl))
  f266 := Tryz.func117.trans (congrArg some (by kernel_rfl))
  f267 := Tryz.func158.trans (congrArg some (by kernel_rfl))
  f276 := Tryz.func115.trans (congrArg some (by kernel_rfl))
  f277 := Tryz.func116.trans (congrArg some (by kernel_rfl))
  f314 := Tryz.func162.trans (congrArg some (by kernel_rfl))
  t0 := Tryz.underlying0
  a0 := Tryz.isAgg0
  z0 := Tryz.sizeOf0
  v0 := Tryz.zeroValue0
  t3 := Tryz.underlying3
  a3 := Tryz.isAgg3
  z3 := Tryz.sizeOf3
  v3 := Tryz.zeroValue3
  t4 := Tryz.underlying4
  a4 := Tryz.isAgg4
  z4 := Tryz.sizeOf4
  v4 := Tryz.zeroValue4
  t5 := Tryz.underlying5
  a5 := Tryz.isAgg5
  z5 := Tryz.sizeOf5
  v5 := Tryz.zeroValue5
  t9 := Tryz.underlying9
  a9 := Tryz.isAgg9
  z9 := Tryz.sizeOf9
  v9 := Tryz.zeroValue9
  t20 := Tryz.underlying20
  a20 := Tryz.isAgg20
  z20 := Tryz.sizeOf20
  v20 := Tryz.zeroValue20
  t21 := Tryz.underlying21
  a21 := Tryz.isAgg21
  z21 := Tryz.sizeOf21
  v21 := Tryz.zeroValue21
  t37 := Tryz.underlying71
  a37 := Tryz.isAgg71
  z37 := Tryz.sizeOf71
  v37 := Tryz.zeroValue71
  t46 := Tryz.underlying140
  a46 := Tryz.isAgg140
  z46 := Tryz.sizeOf140
  v46 := Tryz.zeroValue140
  t51 := Tryz.underlying137
  a51 := Tryz.isAgg137
  z51 := Tryz.sizeOf137
  v51 := Tryz.zeroValue137
  t70 := Tryz.underlying70
  a70 := Tryz.isAgg70
  z70 := Tryz.sizeOf70
  v70 := Tryz.zeroValue70
  t72 := Tryz.underlying73
  a72 := Tryz.isAgg73
  z72 := Tryz.sizeOf73
  v72 := Tryz.zeroValue73
  t75 := Tryz.underlying76
  a75 := Tryz.isAgg76
  z75 := Tryz.sizeOf76
  v75 := Tryz.zeroValue76
  t76 := Tryz.underlying77
  a76 := Tryz.isAgg77
  z76 := Tryz.sizeOf77
  v76 := Tryz.zeroValue77
  t105 := Tryz.underlying129
  a105 := Tryz.isAgg129
  z105 := Tryz.sizeOf129
  v105 := Tryz.zeroValue129
  t119 := Tryz.underlying146
  a119 := Tryz.isAgg146
  z119 := Tryz.sizeOf146
  t127 := Tryz.underlying104
  a127 := Tryz.isAgg104
  z127 := Tryz.sizeOf104
  v127 := Tryz.zeroValue104
  t138 := Tryz.underlying148
  a138 := Tryz.isAgg148
  z138 := Tryz.sizeOf148
  v138 := Tryz.zeroValue148
  t139 := Tryz.underlying149
  a139 := Tryz.isAgg149
  z139 := Tryz.sizeOf149
  v139 := Tryz.zeroValue149
  t146 := Tryz.underlying150
  a146 := Tryz.isAgg150
  z146 := Tryz.sizeOf150
  v146 := Tryz.zeroValue150
  t164 := Tryz.underlying118
  a164 := Tryz.isAgg118
  z164 := Tryz.sizeOf118
  v164 := Tryz.zeroValue118
  g1 := by kernel_rfl
  g3 := by kernel_rfl
  g4 := by kernel_rfl }
theorem Tryz.Builder_Extra_155 : Builder.Extra Tryz.prog Tryz.lays155_ren := {
  sizeBuilder := by kernel_rfl
  liesBuilder := by kernel_rfl
  t5 := Tryz.underlying5
  a5 := Tryz.isAgg5
  z5 := Tryz.sizeOf5
  v5 := Tryz.zeroValue5
  infoByte := by kernel_rfl
  cellsByte := by kernel_rfl
  sizeByte := by kernel_rfl
  neB5 := by decide }
open Go.RowKit Go.Lib in
/-- strings.ReplaceAll: "ReplaceAll returns a copy of the string s with all non-overlapping instances of old replaced by new.": AT AN old THAT IS NOT EMPTY: 'Lib.replaceAll s old new'. (LAID: no walk: one application.) -/
theorem Tryz.strings_ReplaceAll (s old new : ByteArray) (m : Int) (w : World) (hs : s.size < 4294967281) (hm : w.cell? ⟨0, 0, none⟩ = some (.int .i64 m)) (h1 : 1 ≤ old.size) (hlen : s.size + Lib.countB s old * new.size ≤ 140737488355328) :
    Calls Tryz.prog 60 #[.string s, .string old, .string new] w fun e w' =>
      e = .returned (.string ⟨(Lib.replaceAll s.data.toList old.data.toList new.data.toList).toArray⟩) ∧ Below w.heap.size w w' := Any.strings_ReplaceAll Tryz.lays155 Tryz.Builder_Extra_155 s old new m w hs hm h1 hlen
end Go.Proofs

/- Dd, part R: the library's functions, by the kit's contracts. -/
set_option linter.unusedVariables false
set_option linter.unusedSimpArgs false
set_option maxRecDepth 100000
namespace Go.Dd
open Go.Proofs Go.RowKit

theorem names_all : (Tryz.prog.funcs.toList.all fun fn => !(fn.name == "runtime.NumGoroutine")) = true := by kernel_rfl

theorem Try_ok : POk CF.P where
  mixed := by kernel_rfl
  names := by
    intro f fn hf
    have h := List.all_eq_true.1 names_all fn (by
      have : Tryz.prog.funcs[f]? = some fn := hf
      obtain ⟨hlt, rfl⟩ := Array.getElem?_eq_some_iff.1 this
      simp)
    simpa using h

theorem HR.later {G : Gd} {ρ : Ren} {h : Hp} {w w' : World} (H : HR G ρ h w) (e : Below w.heap.size w w') : HR G ρ h w' where
  gl := fun k hk => (e.block k (Nat.lt_of_lt_of_le hk H.sz.1)).trans (H.gl k hk)
  sz := ⟨Nat.le_trans H.sz.1 e.size, fun k hk => Nat.lt_of_lt_of_le (H.sz.2 k hk) e.size⟩
  nx := H.nx
  ro := H.ro
  dom := H.dom
  lt := H.lt
  cell := fun b k l L i v h1 h2 h3 h4 => by
    obtain ⟨v', h5, h6⟩ := H.cell b k l L i v h1 h2 h3 h4
    exact ⟨v', by rw [e.cell (cell_lt h5)]; exact h5, h6⟩
  spare := fun b l L es j h1 h2 h3 => by
    obtain ⟨v', h5⟩ := H.spare b l L es j h1 h2 h3
    exact ⟨v', by rw [e.cell (cell_lt h5)]; exact h5⟩
  free := fun b a h1 h2 => by
    obtain ⟨v, hv⟩ := H.lt_cell h1
    rw [e.frozen (cell_lt hv)]
    exact H.free b a h1 h2
  inj := H.inj
  ex := H.ex
  grone := H.grone
  itr := fun b s pos L h1 h2 => by
    obtain ⟨a, b, bs, c, d⟩ := H.itr b s pos L h1 h2
    refine ⟨a, b, bs, ?_, d⟩
    rw [e.block _ (Array.getElem?_eq_some_iff.1 c).1]
    exact c
  itj := H.itj

theorem Kp.later {G : Gd} {ρ : Ren} {h : Hp} {w w' : World} (H : HR G ρ h w) (e : Below w.heap.size w w') : Kp G w w' :=
  ⟨e.mono H.sz.1, fun k hk => e.block k (H.sz.2 k hk)⟩

/-- A call with a body. -/
theorem CallFn.of {G : Gd} {ρ : Ren} {w : World} {v : DV} {h1 : Hp} {g : FuncId} {args' : Array Value} (fn : Func) (hf : Tryz.prog.funcs[g]? = some fn) (hb : fn.body.isSome = true)
    (hc : Calls Tryz.prog g args' w (Post G ρ w v h1)) : CallFn CF.P G ρ w v h1 g args' := by
  refine .inl ⟨?_, hc⟩
  have hf' : CF.P.funcs[g]? = some fn := hf
  have hn : ¬ fn.name = "runtime.NumGoroutine" := by simpa using Try_ok.names g fn hf'
  have hbn : fn.body ≠ none := by intro e; rw [e] at hb; cases hb
  unfold callFunc
  simp [hf', hn, hbn]

/-! ### strings.Join -/

theorem joinN_eq (sep : List UInt8) : ∀ xs : List (List UInt8), joinN (sep.map (·.toNat)) (xs.map (·.map (·.toNat))) = (Lib.join xs sep).map (·.toNat)
  | [] => rfl
  | [x] => by simp [joinN, Lib.join, List.intercalate]
  | x :: y :: l => by
    have ih := joinN_eq sep (y :: l)
    simp only [List.map_cons] at ih ⊢
    rw [joinN, ih]
    simp [Lib.join, List.intercalate, List.map_append]

theorem strsD_ok {ρ : Ren} : ∀ {cells : List DV} {vs : List Value} {l : List (List Nat)}, VRs ρ cells vs → strsD cells = some l → ∃ xs : List ByteArray, vs = xs.map Value.string ∧ l = xs.map fun x => x.data.toList.map (·.toNat)
  | [], _, _, .nil, e => by
    simp only [strsD, Option.some.injEq] at e
    exact ⟨[], rfl, e.symm⟩
  | x :: c, _, _, .cons _ x' _ vs hx hs, e => by
    cases hx <;> try (simp [strsD] at e; done)
    rename_i t bs hb
    simp only [strsD, Option.map_eq_some_iff] at e
    obtain ⟨l0, e0, rfl⟩ := e
    obtain ⟨xs, rfl, rfl⟩ := strsD_ok hs e0
    exact ⟨bs :: xs, rfl, by simp [hb]⟩

theorem adr_of {w : World} {L : Loc} {i : Nat} {v : Value} (h : w.cell? (adr L i) = some v) : adr L i = ⟨L.bl, L.of + i, none⟩ := by
  unfold adr at *
  by_cases e : i = 0
  · subst e
    simp only [if_true] at h ⊢
    cases hs : L.spot with
    | none => rfl
    | some s =>
      rw [hs] at h
      unfold World.cell? at h
      split at h <;> simp at h
  · simp [e]

theorem strs_bytes (xs : List ByteArray) : (xs.map fun x => x.data.toList.map (·.toNat)) = (xs.map (·.data.toList)).map (·.map (·.toNat)) := by simp

theorem join_ok (G : Gd) : FnOk CF.P G 30 joinF := by
  intro args h v h1 hr ρ w args' H hargs
  unfold joinF at hr
  split at hr <;> (try (cases hr; done))
  rename_i x sep hno
  split at hr <;> (try (cases hr; done))
  rename_i n cells hsrc
  split at hr <;> (try (cases hr; done))
  rename_i l hl
  cases hc : Nat.ble (joinN sep l).length 100000000000 with
  | false => rw [hc] at hr; cases hr
  | true =>
  rw [hc] at hr
  cases hc2 : (Nat.ble n 100000000000 && capD x) with
  | false => rw [hc2] at hr; cases hr
  | true =>
  rw [hc2] at hr
  have hc' := Nat.le_of_ble_eq_true hc
  rw [Bool.and_eq_true] at hc2
  obtain ⟨hc2, hcap⟩ := hc2
  have hn' := Nat.le_of_ble_eq_true hc2
  simp only [cond_true, Option.some.injEq, Prod.mk.injEq] at hr
  obtain ⟨rfl, rfl⟩ := hr
  obtain ⟨a⟩ := args'
  cases hargs with
  | cons _ x' l1 l1' hx hxs =>
  cases hxs with
  | cons y y' l2 l2' hy hys =>
  cases hys
  cases hy with
  | s _ bs hbs =>
  refine CallFn.of Tryz.f30 (by kernel_rfl) (by kernel_rfl) ?_
  have hnone : ∀ (a : Option Addr) (c : Nat), l = [] → Calls Tryz.prog 30 #[.slice a 0 c, .string bs] w (Post G ρ w (.s (joinN sep l)) h) := by
    intro a c e
    subst e
    refine (Tryz.strings_Join_none a c bs w).mono ?_
    rintro e w' ⟨rfl, rfl⟩
    exact ⟨ρ, _, rfl, Ex.refl _ _, .s _ _ rfl, H, Kp.refl _ _⟩
  unfold srcD at hsrc
  cases hx with
  | l0 =>
    simp only [Option.some.injEq, Prod.mk.injEq] at hsrc
    obtain ⟨rfl, rfl⟩ := hsrc
    simp only [strsD, Option.some.injEq] at hl
    exact hnone _ _ hl.symm
  | le a c =>
    simp only [Option.some.injEq, Prod.mk.injEq] at hsrc
    obtain ⟨rfl, rfl⟩ := hsrc
    simp only [strsD, Option.some.injEq] at hl
    exact hnone _ _ hl.symm
  | l b o m cap L hL =>
    simp only at hsrc
    split at hsrc <;> (try (cases hsrc; done))
    rename_i cs hcs
    simp only [Option.some.injEq, Prod.mk.injEq] at hsrc
    obtain ⟨rfl, rfl⟩ := hsrc
    obtain ⟨e1, e2, e3, vs, e4, e5, e6⟩ := cellsAt_spec H hcs hL
    obtain ⟨xs, rfl, rfl⟩ := strsD_ok e4 hl
    simp only [List.length_map, Nat.mul_one] at e5
    subst e5
    cases xs with
    | nil => exact hnone _ _ rfl
    | cons x0 xs0 =>
      have h0 := e6 0 (.string x0) rfl
      have ha : adr L o = ⟨L.bl, L.of + o, none⟩ := adr_of h0
      rw [ha]
      have hsep := hbs
      refine (Tryz.strings_Join L.bl (L.of + o) (cap + L.sp) (x0 :: xs0) bs w ?_ (cell_lt h0) (by omega) ?_ ?_).mono ?_
      · intro j y hj
        have h5 := e6 j (.string y) (by rw [List.getElem?_map, hj]; rfl)
        rw [adr_of h5] at h5
        rw [show L.of + o + j = L.of + (o + j) by omega]
        exact h5
      · exact Nat.le_trans (Nat.le_of_ble_eq_true hcap) (Nat.le_add_right _ _)
      · have := hc'
        rw [← hbs, strs_bytes, joinN_eq, List.length_map] at this
        omega
      · rintro e w' ⟨rfl, hbel⟩
        refine ⟨ρ, _, rfl, Ex.refl _ _, .s _ _ ?_, H.later hbel, Kp.later H hbel⟩
        rw [← hbs, strs_bytes, joinN_eq]
  | u => simp at hsrc
  | s => exact (hno _ rfl).elim
  | _ => simp at hsrc

/-! ### strconv.Itoa -/

theorem digsN_eq : ∀ (f n : Nat) (acc : List Nat), n < 10 ^ f → 0 < f → digsN f n acc = (Lib.decDigits n).map (·.toNat) ++ acc
  | 0, n, acc, h, h0 => by omega
  | f + 1, n, acc, h, _ => by
    have hd : ∀ d, d < 10 → (UInt8.ofNat (48 + d)).toNat = 48 + d := fun d hd => by simp; omega
    unfold digsN
    rw [Lib.decDigits]
    cases e : Nat.ble 10 n with
    | false =>
      have hn : n < 10 := by
        rcases Nat.lt_or_ge n 10 with h | h
        · exact h
        · rw [Nat.ble_eq_true_of_le h] at e; cases e
      simp only [cond_false]
      rw [dif_pos hn]
      show (48 + n) :: acc = _
      simp [hd n hn]
      omega
    | true =>
      have hn := Nat.le_of_ble_eq_true e
      simp only [cond_true]
      rw [dif_neg (by omega)]
      have hf : 0 < f := by
        rcases Nat.eq_zero_or_pos f with h1 | h1
        · subst h1; simp at h; omega
        · exact h1
      show digsN f (n / 10) ((48 + n % 10) :: acc) = _
      rw [digsN_eq f (n / 10) _ (by rw [Nat.pow_succ] at h; omega) hf]
      simp [hd (n % 10) (by omega)]
      omega

theorem itoaN_eq (n : Int) (h0 : -9223372036854775808 ≤ n) (h1 : n ≤ 9223372036854775807) : itoaN n = (Lib.itoa n).map (·.toNat) := by
  unfold Lib.itoa itoaN
  cases n with
  | ofNat n =>
    rw [if_neg (by simp)]
    simp only
    rw [digsN_eq 20 n [] (by simp at h1; omega) (by omega)]
    simp
  | negSucc n =>
    rw [if_pos (by omega)]
    simp only
    rw [digsN_eq 20 _ [] (by show n + 1 < _; omega) (by omega)]
    simp

theorem itoa_ok (G : Gd) : FnOk CF.P G 34 itoaF := by
  intro args h v h1 hr ρ w args' H hargs
  unfold itoaF at hr
  split at hr <;> (try (cases hr; done))
  rename_i n
  cases hc : (decide (-9223372036854775808 ≤ n) && decide (n ≤ 9223372036854775807)) with
  | false => rw [hc] at hr; cases hr
  | true =>
  rw [hc] at hr
  simp only [Bool.and_eq_true, decide_eq_true_eq] at hc
  simp only [cond_true, Option.some.injEq, Prod.mk.injEq] at hr
  obtain ⟨rfl, rfl⟩ := hr
  obtain ⟨a⟩ := args'
  cases hargs with
  | cons _ x' l1 l1' hx hxs =>
  cases hxs
  cases hx
  refine CallFn.of Tryz.f34 (by kernel_rfl) (by kernel_rfl) ?_
  have F := G.ok w H.gl
  have htab : Lib.TabIs Tryz.prog w "internal/strconv.uint64pow10" .u64 Lib.pow10Tab := by
    obtain ⟨_, t, z, ht⟩ := F
    have hg : Tryz.prog.globalNamed "internal/strconv.uint64pow10" = some 1 := by kernel_rfl
    unfold Lib.TabIs World.var?
    rw [hg]
    simp only [Option.bind_some, ht]
  refine (Tryz.strconv_Itoa n hc.1 hc.2 w htab).mono ?_
  rintro e w' ⟨rfl, k, os, rfl⟩
  have hbel : Below w.heap.size w (Sort.grow (w.drewN k) os) := ⟨rfl, rfl, rfl, by simp [Sort.grow, World.drewN], fun i hi => by
    show (w.heap ++ os)[i]? = _
    rw [Array.getElem?_append_left hi]⟩
  exact ⟨ρ, _, rfl, Ex.refl _ _, .s _ _ (itoaN_eq n hc.1 hc.2).symm, H.later hbel, Kp.later H hbel⟩

end Go.Dd

/- Dd, part R1: the library's functions, by the kit's contracts: ReplaceAll, genSplit, IndexByteString. -/
set_option linter.unusedVariables false
set_option linter.unusedSimpArgs false
set_option maxRecDepth 100000
namespace Go.Dd
open Go.Proofs Go.Lib Go.RowKit

theorem beq_u8 (b c : UInt8) : Nat.beq b.toNat c.toNat = (b == c) := by
  rw [Bool.eq_iff_iff]
  constructor
  · intro h
    have := Nat.eq_of_beq_eq_true h
    simpa using UInt8.toNat_inj.1 this
  · intro h
    have h2 : b = c := by simpa using h
    rw [h2]; simp

theorem one_of {bs : ByteArray} {c : Nat} (h : bs.data.toList.map (·.toNat) = [c]) : ∃ u : UInt8, bs = ⟨#[u]⟩ ∧ u.toNat = c := by
  obtain ⟨⟨l⟩⟩ := bs
  match l, h with
  | [u], h => exact ⟨u, rfl, by simpa using h⟩

def replL (c : UInt8) (new : List UInt8) : List UInt8 → List UInt8
  | [] => []
  | x :: l => if x = c then new ++ replL c new l else x :: replL c new l

theorem index_ne {b c : UInt8} {l : List UInt8} (h : b ≠ c) {i : Nat} (hi : index l [c] = i) : index (b :: l) [c] = ((i + 1 : Nat) : Int) := by
  have hp : ([c] : List UInt8).isPrefixOf (b :: l) = false := by simp [List.isPrefixOf, Ne.symm h]
  rw [index, hp, hi]
  simp

theorem index_eq {c : UInt8} {l : List UInt8} : index (c :: l) [c] = ((0 : Nat) : Int) := by
  rw [index]; simp [List.isPrefixOf]

theorem replK_eq (c : UInt8) (new : List UInt8) : ∀ s : List UInt8, replaceK [c] new (count s [c]) s = replL c new s
  | [] => by rw [count_one]; rfl
  | b :: l => by
    have ih := replK_eq c new l
    by_cases h : b = c
    · subst h
      rw [count_cons_eq, Nat.add_comm, replaceK_hit _ _ _ _ 0 index_eq]
      simp [replL, ih]
    · rw [count_cons_ne _ _ _ h]
      simp only [replL, if_neg h]
      cases hk : count l [c] with
      | zero =>
        rw [hk] at ih
        simp only [replaceK] at ih ⊢
        rw [← ih]
      | succ k =>
        rw [hk] at ih
        obtain ⟨i, hi⟩ := index_of_count (s := l) (old := [c]) (by omega)
        rw [replaceK_hit _ _ _ _ i hi] at ih
        rw [replaceK_hit _ _ _ _ (i + 1) (index_ne h hi), ← ih]
        simp [Nat.add_right_comm]

theorem replL_self (c : UInt8) : ∀ s : List UInt8, replL c [c] s = s
  | [] => rfl
  | x :: l => by
    simp only [replL, replL_self c l]
    split
    · rename_i h; subst h; rfl
    · rfl

theorem replL_eq (s : List UInt8) (c : UInt8) (new : List UInt8) : replaceAll s [c] new = replL c new s := by
  unfold replaceAll replace
  split
  · rename_i h
    have : [c] = new := by simpa using h
    subst this
    rw [replL_self]
  · unfold replaceNum
    rw [if_pos (.inl (by decide))]
    exact replK_eq c new s

theorem replN_eq (c : UInt8) (new : List UInt8) : ∀ s : List UInt8, replN c.toNat (new.map (·.toNat)) (s.map (·.toNat)) = (replL c new s).map (·.toNat)
  | [] => rfl
  | x :: l => by
    simp only [List.map_cons, replN, replL, replN_eq c new l, beq_u8]
    by_cases h : x = c
    · subst h; simp
    · rw [if_neg h, show (x == c) = false by simpa using h]; simp

theorem repl_ok (G : Gd) : FnOk CF.P G 60 replF := by
  intro args h v h1 hr ρ w args' H hargs
  unfold replF at hr
  split at hr <;> (try (cases hr; done))
  rename_i s c new
  cases hc : Nat.blt c 256 with
  | false => rw [hc] at hr; cases hr
  | true =>
  rw [hc] at hr
  cases hc2 : Nat.ble s.length 4000000000 with
  | false => rw [hc2] at hr; cases hr
  | true =>
  rw [hc2] at hr
  cases hc3 : Nat.ble new.length 1000 with
  | false => rw [hc3] at hr; cases hr
  | true =>
  rw [hc3] at hr
  have hs' := Nat.le_of_ble_eq_true hc2
  have hn' := Nat.le_of_ble_eq_true hc3
  simp only [cond_true, Option.some.injEq, Prod.mk.injEq] at hr
  obtain ⟨rfl, rfl⟩ := hr
  obtain ⟨a⟩ := args'
  cases hargs with
  | cons _ x' l1 l1' hx hxs =>
  cases hxs with
  | cons _ y' l2 l2' hy hys =>
  cases hys with
  | cons _ z' l3 l3' hz hzs =>
  cases hzs
  cases hx with
  | s _ bs hbs =>
  cases hy with
  | s _ bc hbc =>
  cases hz with
  | s _ bn hbn =>
  obtain ⟨u, rfl, rfl⟩ := one_of hbc
  subst hbs hbn
  have e1 : bs.size ≤ 4000000000 := by rw [List.length_map, Array.length_toList] at hs'; exact hs'
  have e2 : bn.size ≤ 1000 := by rw [List.length_map, Array.length_toList] at hn'; exact hn'
  refine CallFn.of Tryz.f60 (by kernel_rfl) (by kernel_rfl) ?_
  obtain ⟨⟨m, hm⟩, _⟩ := G.ok w H.gl
  have hcnt : countB bs ⟨#[u]⟩ ≤ bs.size := countB_le _ (by simp [ByteArray.size]) _ _ (Nat.le_refl _)
  have hmul : countB bs ⟨#[u]⟩ * bn.size ≤ 4000000000 * 1000 := Nat.mul_le_mul (by omega) e2
  refine (Tryz.strings_ReplaceAll bs ⟨#[u]⟩ bn m w (by omega) hm (by simp [ByteArray.size]) (by omega)).mono ?_
  rintro e w' ⟨rfl, hbel⟩
  refine ⟨ρ, _, rfl, Ex.refl _ _, .s _ _ ?_, H.later hbel, Kp.later H hbel⟩
  rw [replN_eq, ← replL_eq]

/-! ### strings.genSplit -/

def headJoin (acc : List UInt8) : List (List UInt8) → List (List UInt8)
  | [] => []
  | p :: ps => (acc ++ p) :: ps

theorem pieces_eq (c : UInt8) : ∀ (s acc : List UInt8), piecesN c.toNat (acc.map (·.toNat)) (s.map (·.toNat)) = (headJoin acc (splitK [c] 1 (count s [c]) s)).map (·.map (·.toNat))
  | [], acc => by rw [count_one]; simp [piecesN, splitK, headJoin]
  | b :: l, acc => by
    simp only [List.map_cons, piecesN, beq_u8]
    by_cases h : b = c
    · subst h
      have ih := pieces_eq b l []
      rw [count_cons_eq, Nat.add_comm]
      simp only [splitK, index_eq]
      simp only [List.map_nil] at ih
      rw [show (b == b) = true by simp, cond_true, ih]
      have hd : headJoin [] (splitK [b] 1 (count l [b]) l) = splitK [b] 1 (count l [b]) l := by cases splitK [b] 1 (count l [b]) l <;> simp [headJoin]
      rw [hd]
      simp [headJoin]
    · have ih := pieces_eq c l (acc ++ [b])
      rw [show (b == c) = false by simpa using h, cond_false, count_cons_ne _ _ _ h]
      simp only [List.map_append, List.map_cons, List.map_nil] at ih
      rw [ih]
      cases hk : count l [c] with
      | zero => simp [splitK, headJoin]
      | succ k =>
        obtain ⟨i, hi⟩ := index_of_count (s := l) (old := [c]) (by omega)
        have hi2 := index_ne h hi
        simp only [splitK, hi, hi2]
        rw [if_neg (by first | (simp; done) | (simp; omega)), if_neg (by first | (simp; done) | (simp; omega))]
        simp [headJoin]

theorem split_ok (G : Gd) : FnOk CF.P G 86 splitF := by
  intro args h v h1 hr ρ w args' H hargs
  unfold splitF at hr
  split at hr <;> (try (cases hr; done))
  rename_i s c
  cases hc : Nat.blt c 256 with
  | false => rw [hc] at hr; cases hr
  | true =>
  rw [hc] at hr
  cases hc2 : Nat.ble s.length 4000000000 with
  | false => rw [hc2] at hr; cases hr
  | true =>
  rw [hc2] at hr
  have hs' := Nat.le_of_ble_eq_true hc2
  simp only [cond_true, Option.some.injEq, Prod.mk.injEq] at hr
  obtain ⟨rfl, rfl⟩ := hr
  obtain ⟨a⟩ := args'
  cases hargs with
  | cons _ x' l1 l1' hx hxs =>
  cases hxs with
  | cons _ y' l2 l2' hy hys =>
  cases hys with
  | cons _ z' l3 l3' hz hzs =>
  cases hzs with
  | cons _ z4 l4 l4' hz4 hzs4 =>
  cases hzs4
  cases hz
  cases hz4
  cases hx with
  | s _ bs hbs =>
  cases hy with
  | s _ bc hbc =>
  obtain ⟨u, rfl, rfl⟩ := one_of hbc
  subst hbs
  have e1 : bs.size ≤ 4000000000 := by rw [List.length_map, Array.length_toList] at hs'; exact hs'
  have hsz : (⟨#[u]⟩ : ByteArray).size = 1 := rfl
  have hcnt : countB bs ⟨#[u]⟩ ≤ bs.size := countB_le _ (by omega) _ _ (Nat.le_refl _)
  have hp : piecesN u.toNat [] (bs.data.toList.map (·.toNat)) = ((splitB ⟨#[u]⟩ 1 (countB bs ⟨#[u]⟩) bs).map (·.data.toList)).map (·.map (·.toNat)) := by
    have := pieces_eq u bs.data.toList []
    simp only [List.map_nil] at this
    rw [this, splitB_data]
    show (headJoin [] (splitK [u] 1 (count bs.data.toList [u]) bs.data.toList)).map _ = (splitK [u] 1 (count bs.data.toList [u]) bs.data.toList).map _
    cases splitK [u] 1 (count bs.data.toList [u]) bs.data.toList <;> simp [headJoin]
  have hlen := splitB_all ⟨#[u]⟩ (by omega) 1 _ bs rfl
  refine CallFn.of Tryz.f86 (by kernel_rfl) (by kernel_rfl) ?_
  obtain ⟨⟨m, hm⟩, _⟩ := G.ok w H.gl
  have hN : ((countB bs ⟨#[u]⟩ + 1 : Nat) : Int) = min (if (Int.negSucc 0) < 0 then (countB bs ⟨#[u]⟩ : Int) + 1 else Int.negSucc 0) ((bs.size : Int) + 1) := by
    rw [if_pos (by decide)]
    omega
  refine (Tryz.strings_genSplit bs ⟨#[u]⟩ 1 (Int.negSucc 0) (countB bs ⟨#[u]⟩ + 1) m w (by omega) hm (by omega) (by omega) (by decide) (by decide) hN).mono ?_
  rintro e w' ⟨rfl, rfl⟩
  simp only [Nat.add_sub_cancel] at *
  generalize hps : splitB ⟨#[u]⟩ 1 (countB bs ⟨#[u]⟩) bs = ps at *
  rw [hp]
  have hcell : cellsOf ps (countB bs ⟨#[u]⟩ + 1) = (ps.map Value.string).toArray := by rw [← hlen]; exact cellsOf_full ps
  rw [hcell]
  have hvs : ∀ qs : List ByteArray, VRs ρ (((qs.map (·.data.toList)).map (·.map (·.toNat))).map DV.s) (qs.map Value.string) := by
    intro qs
    induction qs with
    | nil => exact .nil
    | cons q qs ih => exact .cons _ _ _ _ (.s _ _ rfl) ih
  have H2 := H.newRow .ex _ (ps.map Value.string) (ps.map Value.string).toArray 9 0 (hvs ps) (fun i v hv => by simpa using hv) (.inl ⟨rfl, rfl⟩)
  refine ⟨_, _, rfl, H.exx ⟨w.heap.size, 0, 0, none⟩, ?_, H2, below_alloc H.sz _⟩
  have := VR.l (ρ := upd ρ h.next ⟨w.heap.size, 0, 0, none⟩) h.next 0 ps.length ps.length ⟨w.heap.size, 0, 0, none⟩ (upd_same _ _ _)
  simpa [adr, hlen] using this

end Go.Dd

/- Dd, part R2: from a run of Dd to a call of the program. -/
set_option linter.unusedVariables false
set_option linter.unusedSimpArgs false
set_option maxRecDepth 100000
namespace Go.Dd
open Go.Proofs Go.Lib Go.RowKit

theorem idxGo_eq (c : Nat) (hc : c < 256) : ∀ (l : List UInt8) (i : Nat), idxGo c (l.map (·.toNat)) i = if indexByte l c.toUInt8 = -1 then -1 else indexByte l c.toUInt8 + i
  | [], i => rfl
  | b :: l, i => by
    have hb : Nat.beq b.toNat c = (b == c.toUInt8) := by
      rw [Bool.eq_iff_iff]
      constructor
      · intro h
        have := Nat.eq_of_beq_eq_true h
        simp [← this]
      · intro h
        have h2 : b = c.toUInt8 := by simpa using h
        rw [h2]
        have : (c.toUInt8).toNat = c := by simp [Nat.toUInt8]; omega
        rw [this]; simp
    show (bif Nat.beq b.toNat c then Int.ofNat i else idxGo c (l.map (·.toNat)) (i + 1)) = _
    rw [hb]
    unfold indexByte
    cases h : (b == c.toUInt8) with
    | true => simp
    | false =>
      have ih := idxGo_eq c hc l (i + 1)
      have hge := indexByte_ge l c.toUInt8
      simp only [cond_false, Bool.false_eq_true, if_false]
      rw [ih]
      by_cases h1 : indexByte l c.toUInt8 = -1
      · simp [h1]
      · simp only [h1, if_false, beq_iff_eq]
        rw [if_neg (by omega)]
        omega

theorem idx_ok (G : Gd) : FnOk CF.P G 117 idxF := by
  intro args h v h1 hr ρ w args' H hargs
  unfold idxF at hr
  split at hr <;> (try (cases hr; done))
  rename_i l c
  cases hc : Nat.blt c 256 with
  | false => rw [hc] at hr; cases hr
  | true =>
    rw [hc] at hr
    have hc' : c < 256 := by simpa using hc
    simp only [cond_true, Option.some.injEq, Prod.mk.injEq] at hr
    obtain ⟨rfl, rfl⟩ := hr
    obtain ⟨a⟩ := args'
    cases hargs with
    | cons x x' l1 l1' hx hxs =>
    cases hxs with
    | cons y y' l2 l2' hy hys =>
    cases hys
    cases hx with
    | s l bs hbs =>
    cases hy with
    | i k n =>
    refine .inr ⟨ρ, w, .int .i64 (indexByte bs.data.toList c.toUInt8), ?_, Ex.refl _ _, ?_, H, Kp.refl _ _⟩
    · rw [run_callFunc_extern (fn := Tryz.f117) (e := Extern.BytealgIndexByte.indexByte) (by kernel_rfl) (by kernel_rfl) (by kernel_rfl) (by kernel_rfl) (by kernel_rfl)]
      rw [run_indexByteString bs (Int.ofNat c) w]
      rfl
    · have e := idxGo_eq c hc' bs.data.toList 0
      rw [hbs] at e
      have e2 : idxGo c l 0 = indexByte bs.data.toList c.toUInt8 := by
        rw [e]
        split
        · rename_i h; exact h.symm
        · simp
      rw [e2]
      exact .i _ _

theorem CF_own (G : Gd) (g : FuncId) (F : List DV → Hp → Res) (h : CF.I g = some F) : FnOk CF.P G g F := by
  have e : CF.I g = bif Nat.beq g 117 then some idxF else bif Nat.beq g 30 then some joinF else bif Nat.beq g 86 then some splitF else bif Nat.beq g 60 then some replF else bif Nat.beq g 34 then some itoaF else none := rfl
  rw [e] at h
  cases hg : Nat.beq g 117 with
  | true => rw [hg] at h; cases h; cases Nat.eq_of_beq_eq_true hg; exact idx_ok G
  | false =>
  rw [hg, cond_false] at h
  cases hg : Nat.beq g 30 with
  | true => rw [hg] at h; cases h; cases Nat.eq_of_beq_eq_true hg; exact join_ok G
  | false =>
  rw [hg, cond_false] at h
  cases hg : Nat.beq g 86 with
  | true => rw [hg] at h; cases h; cases Nat.eq_of_beq_eq_true hg; exact split_ok G
  | false =>
  rw [hg, cond_false] at h
  cases hg : Nat.beq g 60 with
  | true => rw [hg] at h; cases h; cases Nat.eq_of_beq_eq_true hg; exact repl_ok G
  | false =>
  rw [hg, cond_false] at h
  cases hg : Nat.beq g 34 with
  | true => rw [hg] at h; cases h; cases Nat.eq_of_beq_eq_true hg; exact itoa_ok G
  | false => rw [hg] at h; cases h

/-- The ground of a call: the world's blocks, and what the library reads of them. -/
def gdOf (w : World) (F : Facts w) : Gd := ⟨w.heap.size, fun _ => False, 0, w.heap, fun w' h => F.keep fun k hk => h k (Nat.lt_of_lt_of_le hk F.two)⟩

def h00 : Hp := ⟨.h, .e⟩

/-- A run of Dd from nothing is a call of the program. -/
theorem top {n : Nat} {f : FuncId} {args : List DV} {v : DV} {h1 : Hp} (hr : shD n f args h00 = some (v, h1)) (fn : Func) (hf : Tryz.prog.funcs[f]? = some fn) (hb : fn.body.isSome = true)
    (w : World) (F : Facts w) (args' : Array Value) (hargs : VRs (fun _ => none) args args'.toList) :
    Calls Tryz.prog f args' w fun e w' => ∃ ρ' v', e = .returned v' ∧ VR ρ' v v' ∧ HR (gdOf w F) ρ' h1 w' ∧ Below w.heap.size w w' := by
  rw [shD_eq] at hr
  have H : HR (gdOf w F) (fun _ => none) h00 w := by
    constructor
    · exact fun _ _ => rfl
    · exact ⟨Nat.le_refl _, fun _ h => h.elim⟩
    · exact Nat.zero_le _
    · rintro b a ⟨k, l, L, _, h2, _⟩; cases h2
    · intro b o h; cases b <;> cases h
    · intro b L h; cases h
    · intro b k l L i v h h2; cases h2
    · intro b l L es j h h2; cases h2
    · rintro b a ⟨k, l, L, _, h2, _⟩; cases h2
    · rintro b b' a ⟨k, l, L, _, h2, _⟩; cases h2
    · intro b l L h h2; cases h2
    · intro b es l i v h; cases b <;> cases h
    · intro b s pos L h h2; cases h2
    · intro b s pos b' s' pos' L L' h h' h2; cases h2
  rcases fnD_ok (C := CF) Try_ok CF_own n _ f args h00 v h1 hr _ w args' H hargs with ⟨_, h⟩ | ⟨ρ', w', v', h, _⟩
  · refine h.mono ?_
    rintro e w' ⟨ρ', v', h1, h2, h3, h4, h5⟩
    exact ⟨ρ', v', h1, h3, h4, h5.low⟩
  · exfalso
    have hf' : CF.P.funcs[f]? = some fn := hf
    have hn : ¬ fn.name = "runtime.NumGoroutine" := by simpa using Try_ok.names f fn hf'
    have hbn : fn.body ≠ none := by intro e; rw [e] at hb; cases hb
    unfold callFunc at h
    simp [hf', hn, hbn] at h

end Go.Dd

/- Dd, part U: the value of a result. -/
namespace Go.Dd

noncomputable def val (r : Res) : DV := Option.rec (motive := fun _ => DV) .u (fun p => p.1) r

theorem val_b {r : Res} {b : Bool} (h : val r = .b b) : ∃ h1, r = some (.b b, h1) := by
  cases r with
  | none => cases h
  | some p =>
    obtain ⟨v, h1⟩ := p
    have : v = .b b := h
    exact ⟨h1, by rw [this]⟩

end Go.Dd

/- Dd, part S1: heaps that have grown; nodes in a heap of Dd; lists of strings are compared. -/
set_option linter.unusedVariables false
set_option linter.unusedSimpArgs false
set_option maxRecDepth 100000
namespace Go.Dd
open Go.Proofs

def Wf (h : Hp) : Prop := ∀ b o, h.bl.get b = some o → b.toNat < h.next.toNat
def Ge (h h' : Hp) : Prop := ∀ b o, h.bl.get b = some o → h'.bl.get b = some o

theorem Ge.refl (h : Hp) : Ge h h := fun _ _ e => e
theorem Ge.trans {a b c : Hp} (h : Ge a b) (k : Ge b c) : Ge a c := fun x o e => k x o (h x o e)

noncomputable def nw (o : Ob) (h : Hp) : Hp := ⟨h.next.succ, Tr.set o h.next h.bl⟩

theorem nw_ne {h : Hp} (W : Wf h) {b : Pos} {o : Ob} (e : h.bl.get b = some o) : b ≠ h.next := by
  intro e2
  have := W b o e
  rw [e2] at this
  omega

theorem nw_ge {h : Hp} (W : Wf h) (o : Ob) : Ge h (nw o h) := by
  intro b o' e
  show (Tr.set o h.next h.bl).get b = some o'
  rw [Tr.get_set_other _ _ _ _ (nw_ne W e)]
  exact e

theorem nw_get (h : Hp) (o : Ob) : (nw o h).bl.get h.next = some o := Tr.get_set_same o _ _

theorem new_a (cs : List DV) (h : Hp) : pNew cs h = some (.p h.next 0, nw (.row .ex cs) h) := rfl
theorem str_eq (x y : List Nat) (h : Hp) : pStr .eql (.s x) (.s y) h = some (.b (eqD x y), h) := rfl
theorem str_ne (x y : List Nat) (h : Hp) : pStr .neq (.s x) (.s y) h = some (.b (!eqD x y), h) := rfl
theorem wrap64s (n : Int) (h1 : -9223372036854775808 ≤ n) (h2 : n ≤ 9223372036854775807) : IntKind.i64.wrap n = n := by
  unfold IntKind.wrap
  simp [IntKind.bits, IntKind.signed, IntKind.min, IntKind.max]
  omega

theorem ld1 {h : Hp} {b : Pos} {k : Kind} {l : List DV} {o : Nat} {v : DV} (e : h.bl.get b = some (.row k l)) (ho : l[o]? = some v) (hv : v.one = true) : pLoad1 (.p b o) h = some (v, h) := by
  simp [pLoad1, cellD, rowOf, e, ho, hv]

theorem ldA {h : Hp} {b : Pos} {k : Kind} {l : List DV} {o n : Nat} {cs : List DV} (e : h.bl.get b = some (.row k l)) (ho : takeD n (l.drop o) = some cs) : pLoadA n (.p b o) h = some (.a cs, h) := by
  simp [pLoadA, cellsAt, rowOf, e, ho]

theorem drop_cons {α : Type} {l : List α} {i : Nat} {x : α} (hi : l[i]? = some x) : l.drop i = x :: l.drop (i + 1) := by
  obtain ⟨h1, h2⟩ := List.getElem?_eq_some_iff.1 hi
  rw [← h2]
  exact List.drop_eq_getElem_cons h1

theorem eqD_dec (x y : List Nat) : eqD x y = decide (x = y) := by
  rw [Bool.eq_iff_iff, eqD_iff]; simp

theorem enter16 (n : Nat) (x y : DV) (h : Hp) : shD (n + 1) 16 [x, y] h = s16 (shD n) n x y h := by kernel_rfl
end Go.Dd

/- Dd, part S2: nodes in a heap of Dd; whether two are the same, by the program and by the document. -/
set_option linter.unusedVariables false
set_option linter.unusedSimpArgs false
set_option maxRecDepth 100000
namespace Go.Dd
open Go.Proofs

theorem putD_all : ∀ (l vs : List DV), l.length = vs.length → (∀ v ∈ l, v.one = true) → (∀ v ∈ vs, v.one = true) → putD l vs = some vs
  | [], [], _, _, _ => rfl
  | x :: l, v :: vs, h, h1, h2 => by
    have := putD_all l vs (by simpa using h) (fun y hy => h1 y (by simp [hy])) (fun y hy => h2 y (by simp [hy]))
    simp [putD, this, h1 x (by simp), h2 v (by simp)]
  | [], _ :: _, h, _, _ => by simp at h
  | _ :: _, [], h, _, _ => by simp at h

theorem takeD_all : ∀ (x : List DV), (∀ v ∈ x, v.one = true) → takeD x.length x = some x
  | [], _ => rfl
  | v :: x, h => by simp [takeD, h v (by simp), takeD_all x (fun y hy => h y (by simp [hy]))]

end Go.Dd

/- Dd, part S3: the same nodes, by the program's functions. -/
set_option linter.unusedVariables false
set_option linter.unusedSimpArgs false
set_option maxRecDepth 100000
namespace Go.Dd
open Go.Proofs

end Go.Dd

/- Dd, part S4: whether two nodes are the same: the program and the document tell one thing. -/
set_option linter.unusedVariables false
set_option linter.unusedSimpArgs false
set_option maxRecDepth 100000
namespace Go.Dd
open Go.Proofs

end Go.Dd

/- Dd, part S5: the document's Same. -/
set_option linter.unusedVariables false
set_option linter.unusedSimpArgs false
set_option maxRecDepth 100000
namespace Go.Dd
open Go.Proofs

end Go.Dd

/- Dd, part S6: both tell one thing, whatever the two nodes are; and a node is the same as itself. -/
set_option linter.unusedVariables false
set_option linter.unusedSimpArgs false
set_option maxRecDepth 100000
namespace Go.Dd
open Go.Proofs

end Go.Dd

/- Dd, part S7: Few answers a number. -/
set_option linter.unusedVariables false
set_option linter.unusedSimpArgs false
set_option maxRecDepth 100000
namespace Go.Dd
open Go.Proofs

end Go.Dd

/- Dd, part S8: a closed call stands wherever it is called: lives. -/
set_option linter.unusedVariables false
set_option linter.unusedSimpArgs false
set_option maxRecDepth 100000
namespace Go.Dd
open Go.Proofs Go.RowKit

/-- What a closed call that answers a bool does to any heap: nothing. -/
theorem closed_ok {n : Nat} {f : FuncId} {r : Bool} {h1 : Hp} (hr : shD n f [] h00 = some (.b r, h1)) (fn : Func) (hf : Tryz.prog.funcs[f]? = some fn) (hb : fn.body.isSome = true) (G : Gd) :
    FnOk CF.P G f (fun args h => match args with
      | [] => some (.b r, h)
      | _ => none) := by
  intro args h v h2 he ρ w args' H hargs
  cases args with
  | cons _ _ => cases he
  | nil =>
    simp only [Option.some.injEq, Prod.mk.injEq] at he
    obtain ⟨rfl, rfl⟩ := he
    have e0 : args' = #[] := by
      obtain ⟨a⟩ := args'
      cases hargs
      rfl
    subst e0
    refine .inl ⟨?_, ?_⟩
    · have hf' : CF.P.funcs[f]? = some fn := hf
      have hn : ¬ fn.name = "runtime.NumGoroutine" := by simpa using Try_ok.names f fn hf'
      have hbn : fn.body ≠ none := by intro e; rw [e] at hb; cases hb
      unfold callFunc
      simp [hf', hn, hbn]
    · refine (top hr fn hf hb w (G.ok w H.gl) #[] .nil).mono ?_
      rintro e w' ⟨ρ', v', rfl, hv, _, hbel⟩
      cases hv
      exact ⟨ρ, _, rfl, Ex.refl _ _, .b _, H.later hbel, Kp.later H hbel⟩

/-- The calls of a body, one of them by its answer. -/
noncomputable def recL (l : FuncId) (r : Bool) (n : Nat) : FuncId → List DV → Hp → Res := fun g =>
  bif Nat.beq g l then (fun args h => match args with
      | [] => some (.b r, h)
      | _ => none) else shD n g

theorem recL_ok {n m : Nat} {f : FuncId} {r : Bool} {h1 : Hp} (hr : shD m f [] h00 = some (.b r, h1)) (fn : Func) (hf : Tryz.prog.funcs[f]? = some fn) (hb : fn.body.isSome = true) : OkC CF (recL f r n) := by
  refine ⟨CF_own, fun G g => ?_⟩
  unfold recL
  cases hg : Nat.beq g f with
  | true =>
    cases Nat.eq_of_beq_eq_true hg
    exact closed_ok hr fn hf hb G
  | false =>
    show FnOk CF.P G g (shD n g)
    rw [shD_eq]
    exact fnD_ok Try_ok CF_own n G g

theorem recL_self (l : FuncId) (r : Bool) (n : Nat) (h : Hp) : recL l r n l [] h = some (.b r, h) := by
  unfold recL
  rw [show Nat.beq l l = true from by simp]
  rfl

theorem recL_other {l g : FuncId} (r : Bool) (n : Nat) (e : Nat.beq g l = false) : recL l r n g = shD n g := by
  unfold recL
  rw [e]
  rfl

end Go.Dd

/- Dd, part S10: what is handed in, as rows of a heap of Dd that are only read: nodes. -/
set_option linter.unusedVariables false
set_option linter.unusedSimpArgs false
set_option maxRecDepth 100000
namespace Go.Dd
open Go.Proofs Go.RowKit

/-- A heap of rows that are only read. -/
structure Ro (w : World) (ρ : Ren) (h : Hp) : Prop where
  dom : ∀ b o, h.bl.get b = some o → ∃ L, ρ b = some L
  lt : ∀ b L, ρ b = some L → b.toNat < h.next.toNat
  row : ∀ b o, h.bl.get b = some o → ∃ l, o = .row .ro l
  cell : ∀ b l L i v, h.bl.get b = some (.row .ro l) → ρ b = some L → l[i]? = some v → ∃ v', w.cell? (adr L i) = some v' ∧ VR ρ v v'
  sp : ∀ b o L, h.bl.get b = some o → ρ b = some L → L.sp = 0

theorem Ro.wf {w : World} {ρ : Ren} {h : Hp} (R : Ro w ρ h) : Wf h := fun b o e => by
  obtain ⟨L, hL⟩ := R.dom b o e
  exact R.lt b L hL

theorem Ro.isRo {w : World} {ρ : Ren} {h : Hp} (R : Ro w ρ h) {b : Pos} {a : Addr} (c : Claims ρ h b a) : isRo h b := by
  obtain ⟨k, l, L, h1, h2, _⟩ := c
  obtain ⟨l', e⟩ := R.row b _ h1
  exact ⟨l', by rw [h1, e]⟩

theorem Ro.hr {w : World} {ρ : Ren} {h : Hp} (R : Ro w ρ h) (F : Facts w) : HR (gdOf w F) ρ h w where
  gl := fun _ _ => rfl
  sz := ⟨Nat.le_refl _, fun _ hh => hh.elim⟩
  nx := Nat.zero_le _
  ro := fun b a c _ => by
    obtain ⟨k, l, L, h1, h2, h3⟩ := c
    obtain ⟨l', e⟩ := R.row b _ h1
    cases e
    rcases h3 with ⟨i, v, h4, h5, rfl⟩ | ⟨es, j, h4, _⟩
    · obtain ⟨v', h6, _⟩ := R.cell b _ L i v h1 h2 h4
      exact cell_lt h6
    · cases h4
  dom := R.dom
  lt := R.lt
  cell := fun b k l L i v h1 h2 h3 h4 => by
    obtain ⟨l', e⟩ := R.row b _ h1
    cases e
    exact R.cell b _ L i v h1 h2 h3
  spare := fun b l L es j h1 => by
    obtain ⟨l', e⟩ := R.row b _ h1
    cases e
  free := fun b a c hn => absurd (R.isRo c) hn
  inj := fun b b' a c c' hn => absurd (R.isRo c) hn
  ex := fun b l L h1 h2 => by
    rcases h1 with h1 | h1
    · exact R.sp b _ L h1 h2
    · exact R.sp b _ L h1 h2
  grone := fun b es l i v h1 => by
    obtain ⟨l', e⟩ := R.row b _ h1
    cases e
  itr := fun b s pos L h1 => by
    obtain ⟨l', e⟩ := R.row b _ h1
    cases e
  itj := fun b s pos b' s' pos' L L' h1 => by
    obtain ⟨l', e⟩ := R.row b _ h1
    cases e

theorem Ro.none (w : World) : Ro w (fun _ => none) h00 where
  dom := fun b o h => by cases b <;> cases h
  lt := fun b L h => by cases h
  row := fun b o h => by cases b <;> cases h
  cell := fun b l L i v h => by cases b <;> cases h
  sp := fun b o L h => by cases b <;> cases h

theorem Ro.add {w : World} {ρ : Ren} {h : Hp} (R : Ro w ρ h) (L : Loc) (l : List DV) (hsp : L.sp = 0)
    (hc : ∀ (i : Nat) v, l[i]? = some v → ∃ v', w.cell? (adr L i) = some v' ∧ VR ρ v v') :
    Ro w (upd ρ h.next L) (nw (.row .ro l) h) ∧ Ext ρ (upd ρ h.next L) := by
  have fresh : ρ h.next = Option.none := by
    cases e : ρ h.next with
    | none => rfl
    | some L' => exact absurd (R.lt _ _ e) (Nat.lt_irrefl _)
  have ext : Ext ρ (upd ρ h.next L) := fun b L' e => by
    have hb : b ≠ h.next := fun e2 => by rw [e2, fresh] at e; cases e
    rw [upd_other _ _ hb]; exact e
  refine ⟨?_, ext⟩
  have get : ∀ b o, (nw (.row .ro l) h).bl.get b = some o → (b = h.next ∧ o = .row .ro l) ∨ (b ≠ h.next ∧ h.bl.get b = some o) := fun b o e => by
    by_cases hb : b = h.next
    · subst hb
      rw [nw_get] at e
      cases e
      exact .inl ⟨rfl, rfl⟩
    · refine .inr ⟨hb, ?_⟩
      rw [← Tr.get_set_other (.row .ro l) h.next b h.bl hb]
      exact e
  constructor
  · intro b o e
    rcases get b o e with ⟨rfl, _⟩ | ⟨hb, e2⟩
    · exact ⟨L, upd_same _ _ _⟩
    · rw [upd_other _ _ hb]; exact R.dom b o e2
  · intro b L' e
    show b.toNat < h.next.succ.toNat
    rw [Pos.toNat_succ]
    by_cases hb : b = h.next
    · rw [hb]; omega
    · rw [upd_other _ _ hb] at e
      have := R.lt b L' e
      omega
  · intro b o e
    rcases get b o e with ⟨rfl, rfl⟩ | ⟨hb, e2⟩
    · exact ⟨l, rfl⟩
    · exact R.row b o e2
  · intro b l' L' i v e e2 e3
    rcases get b _ e with ⟨rfl, e4⟩ | ⟨hb, e4⟩
    · cases e4
      rw [upd_same] at e2
      cases e2
      obtain ⟨v', h1, h2⟩ := hc i v e3
      exact ⟨v', h1, h2.mono ext⟩
    · rw [upd_other _ _ hb] at e2
      obtain ⟨v', h1, h2⟩ := R.cell b l' L' i v e4 e2 e3
      exact ⟨v', h1, h2.mono ext⟩
  · intro b o L' e e2
    rcases get b _ e with ⟨rfl, e4⟩ | ⟨hb, e4⟩
    · rw [upd_same] at e2
      cases e2
      exact hsp
    · rw [upd_other _ _ hb] at e2
      exact R.sp b o L' e4 e2

theorem cells_get {w : World} {base n : Nat} {a : Addr} {cs : List Value} (h : w.cells? base a n = some cs) : cs.length = n ∧ ∀ j, j < n → w.cell? (a.add j) = cs[j]? := by
  unfold World.cells? at h
  split at h
  · exact ⟨by simpa using mapM_some_length h, fun j hj => mapM_some_get h j j (by simp [hj])⟩
  · cases h

section
variable {H : Type} {enc : TypeId × Value → H} {w : World}

theorem flat_get : ∀ (rows : List (List DV)) (q : Nat) (v : DV), (∀ r ∈ rows, r.length = 6) → rows.flatten[q]? = some v → ∃ i j x, rows[i]? = some x ∧ x[j]? = some v ∧ q = i * 6 + j
  | [], q, v, _, h => by simp at h
  | r :: rows, q, v, hl, h => by
    have h6 := hl r (by simp)
    by_cases hq : q < 6
    · rw [List.flatten_cons, List.getElem?_append_left (by omega)] at h
      exact ⟨0, q, r, rfl, h, by omega⟩
    · rw [List.flatten_cons, List.getElem?_append_right (by omega)] at h
      obtain ⟨i, j, x, h1, h2, h3⟩ := flat_get rows (q - r.length) v (fun r hr => hl r (by simp [hr])) h
      exact ⟨i + 1, j, x, by simpa using h1, h2, by omega⟩

end
end Go.Dd

/- Dd, part LV: lives runs to true. -/
set_option maxRecDepth 100000
namespace Go.Dd

theorem lives10 : ∃ h1, shD 900 10 [] h00 = some (.b true, h1) := val_b (by kernel_rfl)

end Go.Dd

/- Dd, part T1: runs that come to something, whatever the fuel; heaps by what is known of them. -/
set_option linter.unusedVariables false
set_option linter.unusedSimpArgs false
set_option maxRecDepth 100000
namespace Go.Dd
open Go.Proofs

/-! ### Runs -/

/-- From some fuel on it comes to one thing. -/
def Ev (F : Nat → Res) (P : DV → Hp → Prop) : Prop := ∃ v h N, P v h ∧ ∀ n, N ≤ n → F n = some (v, h)

theorem Ev.ret {v : DV} {h : Hp} {P : DV → Hp → Prop} (H : P v h) : Ev (fun _ => some (v, h)) P := ⟨v, h, 0, H, fun _ _ => rfl⟩

theorem Ev.mono {F : Nat → Res} {P Q : DV → Hp → Prop} (H : Ev F P) (k : ∀ v h, P v h → Q v h) : Ev F Q := by
  obtain ⟨v, h, N, a, b⟩ := H
  exact ⟨v, h, N, k v h a, b⟩

theorem Ev.op {r : Res} {v : DV} {h : Hp} {k : Nat → DV → Hp → Res} {P : DV → Hp → Prop} (e : r = some (v, h)) (H : Ev (fun n => k n v h) P) : Ev (fun n => bnd r (k n)) P := by
  rw [e]; exact H

theorem Ev.call {F : Nat → Res} {Q P : DV → Hp → Prop} {k : Nat → DV → Hp → Res} (H : Ev F Q) (K : ∀ v h, Q v h → Ev (fun n => k n v h) P) : Ev (fun n => bnd (F n) (k n)) P := by
  obtain ⟨v, h, N, a, b⟩ := H
  obtain ⟨v', h', N', a', b'⟩ := K v h a
  refine ⟨v', h', max N N', a', fun n hn => ?_⟩
  show Dd.bnd (F n) (k n) = _
  rw [b n (by omega)]
  exact b' n (by omega)

theorem Ev.enter {G : Nat → Res} {F : Nat → Res} {P : DV → Hp → Prop} (e : ∀ n, F (n + 1) = G n) (H : Ev G P) : Ev F P := by
  obtain ⟨v, h, N, a, b⟩ := H
  refine ⟨v, h, N + 1, a, fun n hn => ?_⟩
  obtain ⟨n, rfl⟩ : ∃ m, n = m + 1 := ⟨n - 1, by omega⟩
  rw [e]
  exact b n (by omega)

/-- One round of a loop, the j-th. -/
theorem Ev.loop (j : Nat) {ll bb : Nat → Nat → Res} {P : DV → Hp → Prop} (e : ∀ n m, ll n (m + 1) = bb n m) (H : Ev (fun n => bb n (n - (j + 1))) P) : Ev (fun n => ll n (n - j)) P := by
  obtain ⟨v, h, N, a, b⟩ := H
  refine ⟨v, h, N + j + 1, a, fun n hn => ?_⟩
  have : n - j = (n - (j + 1)) + 1 := by omega
  show ll n (n - j) = _
  rw [this, e]
  exact b n (by omega)

theorem Ev.ift {F G : Nat → Res} {P : DV → Hp → Prop} (H : Ev F P) : Ev (fun n => ifD (.b true) (F n) (G n)) P := H
theorem Ev.iff {F G : Nat → Res} {P : DV → Hp → Prop} (H : Ev G P) : Ev (fun n => ifD (.b false) (F n) (G n)) P := H
theorem Ev.cnd {b : Bool} {F : Nat → Res} {P : DV → Hp → Prop} (e : b = true) (H : Ev F P) : Ev (fun n => cnd b (F n)) P := by
  subst e; exact H

/-! ### Comparisons part -/
section
variable {k : Nat → DV → Hp → Res} {P : DV → Hp → Prop} {h : Hp} {q : IntKind} {x y : Int} {s t : List Nat}

theorem pInt_eq (o : BinOp) (z : DV) (e : intBin o q x y = some z) : pInt o (.i q x) (.i q y) h = some (z, h) := by simp [pInt, e]

theorem Ev.ieq (H : x = y → Ev (fun n => k n (.b true) h) P) (H' : x ≠ y → Ev (fun n => k n (.b false) h) P) : Ev (fun n => bnd (pInt .eql (.i q x) (.i q y) h) (k n)) P := by
  refine Ev.op (pInt_eq .eql (.b (x == y)) rfl) ?_
  by_cases e : x = y
  · rw [show (x == y) = true by simpa using e]; exact H e
  · rw [show (x == y) = false by simpa using e]; exact H' e
theorem Ev.ine (H : x ≠ y → Ev (fun n => k n (.b true) h) P) (H' : x = y → Ev (fun n => k n (.b false) h) P) : Ev (fun n => bnd (pInt .neq (.i q x) (.i q y) h) (k n)) P := by
  refine Ev.op (pInt_eq .neq (.b (x != y)) rfl) ?_
  by_cases e : x = y
  · rw [show (x != y) = false by simpa using e]; exact H' e
  · rw [show (x != y) = true by simpa using e]; exact H e
theorem Ev.ilt (H : x < y → Ev (fun n => k n (.b true) h) P) (H' : ¬ x < y → Ev (fun n => k n (.b false) h) P) : Ev (fun n => bnd (pInt .lss (.i q x) (.i q y) h) (k n)) P := by
  refine Ev.op (pInt_eq .lss (.b (decide (x < y))) rfl) ?_
  by_cases e : x < y
  · rw [decide_eq_true e]; exact H e
  · rw [decide_eq_false e]; exact H' e
theorem Ev.ile (H : x ≤ y → Ev (fun n => k n (.b true) h) P) (H' : ¬ x ≤ y → Ev (fun n => k n (.b false) h) P) : Ev (fun n => bnd (pInt .leq (.i q x) (.i q y) h) (k n)) P := by
  refine Ev.op (pInt_eq .leq (.b (decide (x ≤ y))) rfl) ?_
  by_cases e : x ≤ y
  · rw [decide_eq_true e]; exact H e
  · rw [decide_eq_false e]; exact H' e
theorem Ev.igt (H : y < x → Ev (fun n => k n (.b true) h) P) (H' : ¬ y < x → Ev (fun n => k n (.b false) h) P) : Ev (fun n => bnd (pInt .gtr (.i q x) (.i q y) h) (k n)) P := by
  refine Ev.op (pInt_eq .gtr (.b (decide (x > y))) rfl) ?_
  by_cases e : y < x
  · rw [decide_eq_true e]; exact H e
  · rw [decide_eq_false e]; exact H' e
theorem Ev.ige (H : y ≤ x → Ev (fun n => k n (.b true) h) P) (H' : ¬ y ≤ x → Ev (fun n => k n (.b false) h) P) : Ev (fun n => bnd (pInt .geq (.i q x) (.i q y) h) (k n)) P := by
  refine Ev.op (pInt_eq .geq (.b (decide (x ≥ y))) rfl) ?_
  by_cases e : y ≤ x
  · rw [decide_eq_true e]; exact H e
  · rw [decide_eq_false e]; exact H' e
theorem Ev.seq (H : s = t → Ev (fun n => k n (.b true) h) P) (H' : s ≠ t → Ev (fun n => k n (.b false) h) P) : Ev (fun n => bnd (pStr .eql (.s s) (.s t) h) (k n)) P := by
  refine Ev.op (str_eq s t h) ?_
  by_cases e : s = t
  · rw [show eqD s t = true by rw [eqD_iff]; exact e]; exact H e
  · rw [show eqD s t = false by rw [eqD_dec]; simp [e]]; exact H' e
theorem Ev.sne (H : s ≠ t → Ev (fun n => k n (.b true) h) P) (H' : s = t → Ev (fun n => k n (.b false) h) P) : Ev (fun n => bnd (pStr .neq (.s s) (.s t) h) (k n)) P := by
  refine Ev.op (str_ne s t h) ?_
  by_cases e : s = t
  · rw [show eqD s t = true by rw [eqD_iff]; exact e]; exact H' e
  · rw [show eqD s t = false by rw [eqD_dec]; simp [e]]; exact H e
theorem Ev.iadd (H : Ev (fun n => k n (.i q (q.wrap (x + y))) h) P) : Ev (fun n => bnd (pInt .add (.i q x) (.i q y) h) (k n)) P := Ev.op (pInt_eq .add _ rfl) H
theorem Ev.isub (H : Ev (fun n => k n (.i q (q.wrap (x - y))) h) P) : Ev (fun n => bnd (pInt .sub (.i q x) (.i q y) h) (k n)) P := Ev.op (pInt_eq .sub _ rfl) H
theorem Ev.imul (H : Ev (fun n => k n (.i q (q.wrap (x * y))) h) P) : Ev (fun n => bnd (pInt .mul (.i q x) (.i q y) h) (k n)) P := Ev.op (pInt_eq .mul _ rfl) H
theorem Ev.sadd (hl : s.length + t.length ≤ 9223372036854775807) (H : Ev (fun n => k n (.s (s ++ t)) h) P) : Ev (fun n => bnd (pStr .add (.s s) (.s t) h) (k n)) P := by
  refine Ev.op (v := .s (s ++ t)) (h := h) ?_ H
  have e : ¬ (((s.length + t.length : Nat) : Int) > IntKind.i64.max) := by
    have : IntKind.i64.max = 9223372036854775807 := by rfl
    omega
  show (match strBin .add s t with
    | some v => some (v, h)
    | none => none) = _
  unfold strBin
  simp only [if_neg e]
end

/-! ### Heaps -/

/-- Rows that nobody writes any more. -/
abbrev Im := Pos → Option Ob
def ILe (I J : Im) : Prop := ∀ b o, I b = some o → J b = some o
theorem ILe.refl (I : Im) : ILe I I := fun _ _ h => h
theorem ILe.trans {I J K : Im} (a : ILe I J) (b : ILe J K) : ILe I K := fun x o h => b x o (a x o h)

abbrev Ls := List (Pos × Option Ob)

/-- What is known of a heap: rows that stay, rows that grow (A), objects (Q), a function's own rows (L). -/
structure Sy (I : Im) (A Q L : Ls) (h : Hp) : Prop where
  wf : Wf h
  im : ∀ b o, I b = some o → h.bl.get b = some o
  loc : ∀ b o, (b, o) ∈ A ++ Q ++ L → h.bl.get b = o
  lt : ∀ b o, (b, o) ∈ A ++ Q ++ L → b.toNat < h.next.toNat
  nd : ((A ++ Q ++ L).map (·.1)).Nodup
  dj : ∀ b o, (b, o) ∈ A ++ Q ++ L → I b = none

theorem perm3 {I : Im} {A Q L A' Q' L' : Ls} {h : Hp} (p : List.Perm (A ++ Q ++ L) (A' ++ Q' ++ L')) (S : Sy I A Q L h) : Sy I A' Q' L' h where
  wf := S.wf
  im := S.im
  loc := fun b o m => S.loc b o (p.mem_iff.2 m)
  lt := fun b o m => S.lt b o (p.mem_iff.2 m)
  nd := (p.map _).nodup_iff.1 S.nd
  dj := fun b o m => S.dj b o (p.mem_iff.2 m)

theorem sub3 {I : Im} {A Q L A' Q' L' : Ls} {h : Hp} (p : List.Sublist (A' ++ Q' ++ L') (A ++ Q ++ L)) (S : Sy I A Q L h) : Sy I A' Q' L' h where
  wf := S.wf
  im := S.im
  loc := fun b o m => S.loc b o (p.subset m)
  lt := fun b o m => S.lt b o (p.subset m)
  nd := (p.map _).nodup S.nd
  dj := fun b o m => S.dj b o (p.subset m)

/-- A row that was own is let go. -/
theorem Sy.dropL {I : Im} {A Q L : Ls} {e : Pos × Option Ob} {h : Hp} (S : Sy I A Q (e :: L) h) : Sy I A Q L h :=
  sub3 (by rw [List.append_assoc, List.append_assoc]; exact (List.Sublist.refl _).append ((List.Sublist.refl _).append (List.sublist_cons_self _ _))) S

theorem Sy.qL {I : Im} {A Q L : Ls} {e : Pos × Option Ob} {h : Hp} (S : Sy I A Q (e :: L) h) : Sy I A (Q ++ [e]) L h :=
  perm3 (by simp) S
theorem Sy.lQ {I : Im} {A Q L : Ls} {e : Pos × Option Ob} {h : Hp} (S : Sy I A (Q ++ [e]) L h) : Sy I A Q (e :: L) h :=
  perm3 (by simp) S

/-- A new name. -/
theorem Sy.add {I : Im} {A Q L : Ls} {h : Hp} (S : Sy I A Q L h) {h' : Hp} (o : Option Ob) (e1 : h'.next = h.next.succ) (e2 : ∀ b, h'.bl.get b = if b = h.next then o else h.bl.get b) : Sy I A Q ((h.next, o) :: L) h' := by
  have ne : ∀ b x, (b, x) ∈ A ++ Q ++ L → b ≠ h.next := fun b x m e => by
    have := S.lt b x m
    rw [e] at this
    omega
  have fresh : h.bl.get h.next = none := by
    cases e : h.bl.get h.next with
    | none => rfl
    | some o => exact absurd (S.wf _ _ e) (Nat.lt_irrefl _)
  have mem : ∀ b x, (b, x) ∈ A ++ Q ++ (h.next, o) :: L → (b = h.next ∧ x = o) ∨ (b, x) ∈ A ++ Q ++ L := fun b x m => by
    simp only [List.mem_append, List.mem_cons, Prod.mk.injEq] at m ⊢
    rcases m with (m | m) | (m | m)
    · exact .inr (.inl (.inl m))
    · exact .inr (.inl (.inr m))
    · exact .inl m
    · exact .inr (.inr m)
  have inone : I h.next = none := by
    cases e : I h.next with
    | none => rfl
    | some o => rw [S.im _ _ e] at fresh; cases fresh
  refine ⟨?_, ?_, ?_, ?_, ?_, ?_⟩
  · intro b x e
    rw [e1, Pos.toNat_succ]
    rw [e2] at e
    split at e
    · rename_i hb; rw [hb]; omega
    · have := S.wf b x e; omega
  · intro b x e
    have hb : b ≠ h.next := fun e3 => by rw [e3, inone] at e; cases e
    rw [e2, if_neg hb]
    exact S.im b x e
  · intro b x m
    rw [e2]
    rcases mem b x m with ⟨rfl, rfl⟩ | m
    · rw [if_pos rfl]
    · rw [if_neg (ne b x m)]; exact S.loc b x m
  · intro b x m
    rw [e1, Pos.toNat_succ]
    rcases mem b x m with ⟨rfl, rfl⟩ | m
    · omega
    · have := S.lt b x m; omega
  · have p : List.Perm ((A ++ Q ++ (h.next, o) :: L).map (·.1)) (h.next :: (A ++ Q ++ L).map (·.1)) := by
      have : List.Perm (A ++ Q ++ (h.next, o) :: L) ((h.next, o) :: (A ++ Q ++ L)) := List.perm_middle
      exact this.map _
    rw [p.nodup_iff, List.nodup_cons]
    refine ⟨fun m => ?_, S.nd⟩
    obtain ⟨⟨b, x⟩, m, e⟩ := List.mem_map.1 m
    exact ne b x m e
  · intro b x m
    rcases mem b x m with ⟨rfl, rfl⟩ | m
    · exact inone
    · exact S.dj b x m

theorem Sy.new {I : Im} {A Q L : Ls} {h : Hp} (S : Sy I A Q L h) (o : Ob) : Sy I A Q ((h.next, some o) :: L) (nw o h) :=
  S.add (some o) rfl (fun b => Tr.get_set o h.next b h.bl)

theorem Sy.res {I : Im} {A Q L : Ls} {h : Hp} (S : Sy I A Q L h) : Sy I A Q ((h.next, none) :: L) (resv 1 h) := by
  refine S.add none rfl (fun b => ?_)
  show h.bl.get b = _
  split
  · rename_i hb
    rw [hb]
    cases e : h.bl.get h.next with
    | none => rfl
    | some o => exact absurd (S.wf _ _ e) (Nat.lt_irrefl _)
  · rfl

/-- An entry is another. -/
inductive Rpl (b : Pos) (o o' : Option Ob) : Ls → Ls → Prop
  | head (L : Ls) : Rpl b o o' ((b, o) :: L) ((b, o') :: L)
  | tail (e : Pos × Option Ob) {L L' : Ls} : Rpl b o o' L L' → Rpl b o o' (e :: L) (e :: L')

theorem Rpl.keys {b : Pos} {o o' : Option Ob} {L L' : Ls} (r : Rpl b o o' L L') : L'.map (·.1) = L.map (·.1) := by
  induction r with
  | head L => rfl
  | tail e _ ih => simp [ih]

theorem Rpl.at {b : Pos} {o o' : Option Ob} {L L' : Ls} (r : Rpl b o o' L L') : (b, o) ∈ L ∧ (b, o') ∈ L' := by
  induction r with
  | head L => simp
  | tail e _ ih => simp [ih]

theorem Rpl.mem {b : Pos} {o o' : Option Ob} {L L' : Ls} (r : Rpl b o o' L L') (nd : (L.map (·.1)).Nodup) : ∀ c x, (c, x) ∈ L' → (c = b ∧ x = o') ∨ (c ≠ b ∧ (c, x) ∈ L) := by
  induction r with
  | head L =>
    intro c x m
    rcases List.mem_cons.1 m with m2 | m2
    · cases m2; exact .inl ⟨rfl, rfl⟩
    · refine .inr ⟨fun e => ?_, List.mem_cons_of_mem _ m2⟩
      subst e
      rw [List.map_cons, List.nodup_cons] at nd
      exact nd.1 (List.mem_map.2 ⟨_, m2, rfl⟩)
  | tail e r ih =>
    intro c x m
    rw [List.map_cons, List.nodup_cons] at nd
    rcases List.mem_cons.1 m with m | m
    · subst m
      refine .inr ⟨fun e => ?_, by simp⟩
      subst e
      exact nd.1 (List.mem_map.2 ⟨_, r.at.1, rfl⟩)
    · rcases ih nd.2 c x m with h | ⟨h1, h2⟩
      · exact .inl h
      · exact .inr ⟨h1, by simp [h2]⟩

theorem Sy.setAll {I : Im} {A Q L A' Q' L' : Ls} {h h' : Hp} {b : Pos} {o : Option Ob} {o' : Ob} (S : Sy I A Q L h) (r : Rpl b o (some o') (A ++ Q ++ L) (A' ++ Q' ++ L'))
    (e1 : h'.next = h.next) (e2 : ∀ c, h'.bl.get c = if c = b then some o' else h.bl.get c) : Sy I A' Q' L' h' := by
  have mem := r.mem S.nd
  have hb := S.lt b o r.at.1
  refine ⟨?_, ?_, ?_, ?_, ?_, ?_⟩
  · intro c x e
    rw [e1]
    rw [e2] at e
    split at e
    · rename_i hc; rw [hc]; exact hb
    · exact S.wf c x e
  · intro c x e
    have hc : c ≠ b := fun e3 => by rw [e3, S.dj b o r.at.1] at e; cases e
    rw [e2, if_neg hc]
    exact S.im c x e
  · intro c x m
    rw [e2]
    rcases mem c x m with ⟨rfl, rfl⟩ | ⟨hc, m⟩
    · rw [if_pos rfl]
    · rw [if_neg hc]; exact S.loc c x m
  · intro c x m
    rw [e1]
    rcases mem c x m with ⟨rfl, rfl⟩ | ⟨hc, m⟩
    · exact hb
    · exact S.lt c x m
  · rw [r.keys]; exact S.nd
  · intro c x m
    rcases mem c x m with ⟨rfl, rfl⟩ | ⟨hc, m⟩
    · exact S.dj c o r.at.1
    · exact S.dj c x m

theorem Rpl.left (A : Ls) {b : Pos} {o o' : Option Ob} {L L' : Ls} (r : Rpl b o o' L L') : Rpl b o o' (A ++ L) (A ++ L') := by
  induction A with
  | nil => exact r
  | cons e A ih => exact .tail e ih
theorem Rpl.right (A : Ls) {b : Pos} {o o' : Option Ob} {L L' : Ls} (r : Rpl b o o' L L') : Rpl b o o' (L ++ A) (L' ++ A) := by
  induction r with
  | head L => exact .head _
  | tail e _ ih => exact .tail e ih

theorem Sy.setL {I : Im} {A Q L L' : Ls} {h h' : Hp} {b : Pos} {o : Option Ob} {o' : Ob} (S : Sy I A Q L h) (r : Rpl b o (some o') L L')
    (e1 : h'.next = h.next) (e2 : ∀ c, h'.bl.get c = if c = b then some o' else h.bl.get c) : Sy I A Q L' h' := S.setAll (r.left _) e1 e2
theorem Sy.setQ {I : Im} {A Q Q' L : Ls} {h h' : Hp} {b : Pos} {o : Option Ob} {o' : Ob} (S : Sy I A Q L h) (r : Rpl b o (some o') Q Q')
    (e1 : h'.next = h.next) (e2 : ∀ c, h'.bl.get c = if c = b then some o' else h.bl.get c) : Sy I A Q' L h' := S.setAll ((r.left A).right L) e1 e2
theorem Sy.setA {I : Im} {A A' Q L : Ls} {h h' : Hp} {b : Pos} {o : Option Ob} {o' : Ob} (S : Sy I A Q L h) (r : Rpl b o (some o') A A')
    (e1 : h'.next = h.next) (e2 : ∀ c, h'.bl.get c = if c = b then some o' else h.bl.get c) : Sy I A' Q L h' := S.setAll ((r.right Q).right L) e1 e2

noncomputable def Im.put (I : Im) (b : Pos) (o : Ob) : Im := fun c => if c = b then some o else I c

/-- A row that nobody will write any more. -/
theorem Sy.freeze {I : Im} {A Q L : Ls} {h : Hp} {b : Pos} {o : Ob} (S : Sy I A Q ((b, some o) :: L) h) : Sy (I.put b o) A Q L h ∧ ILe I (I.put b o) := by
  have hb : (b, some o) ∈ A ++ Q ++ (b, some o) :: L := by simp
  have S' := S.dropL
  have nb : ∀ c x, (c, x) ∈ A ++ Q ++ L → c ≠ b := by
    intro c x m e
    subst e
    have p : List.Perm ((A ++ Q ++ (c, some o) :: L).map (·.1)) (c :: (A ++ Q ++ L).map (·.1)) := (List.perm_middle (a := (c, some o)) (l₁ := A ++ Q) (l₂ := L)).map _
    have := p.nodup_iff.1 S.nd
    rw [List.nodup_cons] at this
    exact this.1 (List.mem_map.2 ⟨_, m, rfl⟩)
  refine ⟨⟨S.wf, ?_, S'.loc, S'.lt, S'.nd, ?_⟩, ?_⟩
  · intro c x e
    unfold Im.put at e
    split at e
    · rename_i hc; subst hc; cases e; exact S.loc _ _ hb
    · exact S.im c x e
  · intro c x m
    unfold Im.put
    rw [if_neg (nb c x m)]
    exact S'.dj c x m
  · intro c x e
    have : c ≠ b := fun e2 => by rw [e2, S.dj b _ hb] at e; cases e
    unfold Im.put
    rw [if_neg this]
    exact e

theorem Im.put_same (I : Im) (b : Pos) (o : Ob) : I.put b o b = some o := by simp [Im.put]

theorem Sy.memL {I : Im} {A Q L : Ls} {h : Hp} {b : Pos} {o : Ob} (S : Sy I A Q L h) (m : (b, some o) ∈ L) : h.bl.get b = some o := S.loc b _ (by simp [m])
theorem Sy.memQ {I : Im} {A Q L : Ls} {h : Hp} {b : Pos} {o : Ob} (S : Sy I A Q L h) (m : (b, some o) ∈ Q) : h.bl.get b = some o := S.loc b _ (by simp [m])
theorem Sy.memA {I : Im} {A Q L : Ls} {h : Hp} {b : Pos} {o : Ob} (S : Sy I A Q L h) (m : (b, some o) ∈ A) : h.bl.get b = some o := S.loc b _ (by simp [m])

/-! ### Operations -/
section
variable {I : Im} {A Q L L' Q' : Ls} {h : Hp} {k : Nat → DV → Hp → Res} {P : DV → Hp → Prop} {b : Pos} {kd : Kind} {l l' cs : List DV} {o n : Nat} {v : DV}

theorem Ev.new (S : Sy I A Q L h) (H : ∀ b h', Sy I A Q ((b, some (.row .ex cs)) :: L) h' → Ev (fun n => k n (.p b 0) h') P) : Ev (fun n => bnd (pNew cs h) (k n)) P :=
  Ev.op (new_a cs h) (H _ _ (S.new _))

theorem Ev.box (S : Sy I A Q L h) (e : cellsD v = some cs) (H : ∀ b h', Sy I A Q ((b, some (.row .ex cs)) :: L) h' → Ev (fun n => k n (.p b 0) h') P) : Ev (fun n => bnd (pBox v h) (k n)) P := by
  have e2 : pBox v h = pNew cs h := by unfold pBox; rw [e]
  rw [e2]
  exact Ev.new S H

theorem Ev.ld (hg : h.bl.get b = some (.row kd l)) (e : l[o]? = some v) (hv : v.one = true) (H : Ev (fun n => k n v h) P) : Ev (fun n => bnd (pLoad1 (.p b o) h) (k n)) P := Ev.op (ld1 hg e hv) H
theorem Ev.ldL (S : Sy I A Q L h) (m : (b, some (.row kd l)) ∈ L) (e : l[o]? = some v) (hv : v.one = true) (H : Ev (fun n => k n v h) P) : Ev (fun n => bnd (pLoad1 (.p b o) h) (k n)) P := Ev.ld (S.memL m) e hv H
theorem Ev.ldQ (S : Sy I A Q L h) (m : (b, some (.row kd l)) ∈ Q) (e : l[o]? = some v) (hv : v.one = true) (H : Ev (fun n => k n v h) P) : Ev (fun n => bnd (pLoad1 (.p b o) h) (k n)) P := Ev.ld (S.memQ m) e hv H
theorem Ev.lds (hg : h.bl.get b = some (.row kd l)) (e : takeD n (l.drop o) = some cs) (H : Ev (fun n => k n (.a cs) h) P) : Ev (fun m => bnd (pLoadA n (.p b o) h) (k m)) P := Ev.op (ldA hg e) H

theorem take_all (h1 : l.length = n) (h2 : ∀ v ∈ l, v.one = true) : takeD n (l.drop 0) = some l := by
  subst h1; simpa using takeD_all l h2
theorem Ev.ldsL (S : Sy I A Q L h) (m : (b, some (.row kd l)) ∈ L) (h1 : l.length = n) (h2 : ∀ v ∈ l, v.one = true) (H : Ev (fun n => k n (.a l) h) P) : Ev (fun m => bnd (pLoadA n (.p b 0) h) (k m)) P := Ev.lds (S.memL m) (take_all h1 h2) H

theorem store_all {kw : Kind} (hk : kw.writable = true) (hg : h.bl.get b = some (.row kw l)) (h1 : l.length = n) (h2 : ∀ v ∈ l, v.one = true) (h3 : l'.length = n) (h4 : ∀ v ∈ l', v.one = true) :
    pStore n (.p b 0) (.a l') h = some (undefD, ⟨h.next, Tr.set (.row kw l') b h.bl⟩) := by
  have hp : putAt 0 l l' = some l' := putD_all l l' (by omega) h2 h4
  simp [pStore, cellsD, h3, storeAtD, hg, hk, hp]

theorem Ev.stsL (S : Sy I A Q L h) (r : Rpl b (some (.row .ex l)) (some (.row .ex l')) L L') (h1 : l.length = n) (h2 : ∀ v ∈ l, v.one = true) (h3 : l'.length = n) (h4 : ∀ v ∈ l', v.one = true)
    (H : ∀ h', Sy I A Q L' h' → Ev (fun n => k n undefD h') P) : Ev (fun m => bnd (pStore n (.p b 0) (.a l') h) (k m)) P :=
  Ev.op (store_all rfl (S.memL r.at.1) h1 h2 h3 h4) (H _ (S.setL r rfl (fun c => Tr.get_set _ _ _ _)))

theorem cells_one (hv : v.one = true) : cellsD v = some [v] := by
  cases v <;> first | rfl | cases hv

theorem putD_one : ∀ (o : Nat) (l : List DV), (∃ x, l[o]? = some x ∧ x.one = true) → v.one = true → putAt o l [v] = some (l.set o v)
  | 0, [], h, _ => by obtain ⟨x, h, _⟩ := h; simp at h
  | 0, x :: l, h, hv => by
    obtain ⟨y, h1, h2⟩ := h
    simp at h1
    subst h1
    simp [putAt, putD, hv, h2]
  | o + 1, [], h, _ => by obtain ⟨x, h, _⟩ := h; simp at h
  | o + 1, x :: l, h, hv => by
    have := putD_one o l (by simpa using h) hv
    simp [putAt, this]

theorem store_one {kw : Kind} (hk : kw.writable = true) (hg : h.bl.get b = some (.row kw l)) (h1 : ∃ x, l[o]? = some x ∧ x.one = true) (hv : v.one = true) :
    pStore 1 (.p b o) v h = some (undefD, ⟨h.next, Tr.set (.row kw (l.set o v)) b h.bl⟩) := by
  simp [pStore, cells_one hv, storeAtD, hg, hk, putD_one o l h1 hv]

theorem Ev.stL (S : Sy I A Q L h) (r : Rpl b (some (.row .ex l)) (some (.row .ex l')) L L') (e : l.set o v = l') (h1 : ∃ x, l[o]? = some x ∧ x.one = true) (hv : v.one = true)
    (H : ∀ h', Sy I A Q L' h' → Ev (fun n => k n undefD h') P) : Ev (fun m => bnd (pStore 1 (.p b o) v h) (k m)) P := by
  subst e
  exact Ev.op (store_one rfl (S.memL r.at.1) h1 hv) (H _ (S.setL r rfl (fun c => Tr.get_set _ _ _ _)))
theorem Ev.stQ (S : Sy I A Q L h) (r : Rpl b (some (.row .ex l)) (some (.row .ex l')) Q Q') (e : l.set o v = l') (h1 : ∃ x, l[o]? = some x ∧ x.one = true) (hv : v.one = true)
    (H : ∀ h', Sy I A Q' L h' → Ev (fun n => k n undefD h') P) : Ev (fun m => bnd (pStore 1 (.p b o) v h) (k m)) P := by
  subst e
  exact Ev.op (store_one rfl (S.memQ r.at.1) h1 hv) (H _ (S.setQ r rfl (fun c => Tr.get_set _ _ _ _)))

theorem Ev.bs (S : Sy I A Q L h) {z : List DV} {ps : List (Nat × Nat × DV)} (e : fillD z ps = some cs) (H : ∀ b h', Sy I A Q ((b, some (.row .ex cs)) :: L) h' → Ev (fun m => k m (.l b 0 n n) h') P) : Ev (fun m => bnd (pBuildSlice z n ps h) (k m)) P := by
  refine Ev.op (v := .l h.next 0 n n) (h := nw (.row .ex cs) h) ?_ (H _ _ (S.new _))
  unfold pBuildSlice
  rw [e]
  rfl
theorem Ev.bsAt (S : Sy I A Q L h) {z : List DV} {ps : List (Nat × Nat × DV)} (r : Rpl b none (some (.row .ex cs)) L L') (e : fillD z ps = some cs)
    (H : ∀ h', Sy I A Q L' h' → Ev (fun m => k m (.l b 0 n n) h') P) : Ev (fun m => bnd (pBuildSliceAt b z n ps h) (k m)) P := by
  refine Ev.op (v := .l b 0 n n) (h := ⟨h.next, Tr.set (.row .ex cs) b h.bl⟩) ?_ (H _ (S.setL r rfl (fun c => Tr.get_set _ _ _ _)))
  unfold pBuildSliceAt
  rw [e]

theorem Ev.bld {z : List DV} {ps : List (Nat × Nat × DV)} (e : fillD z ps = some cs) (H : Ev (fun n => k n (.a cs) h) P) : Ev (fun n => bnd (pBuild z ps h) (k n)) P := by
  refine Ev.op (v := .a cs) (h := h) ?_ H
  unfold pBuild
  rw [e]

theorem same1 {S : Sy I A Q L h} (m : (b, some (.row kd l)) ∈ L) (e : l[o]? = some v) (hv : v.one = true) (hb : DV.beq v v = true) : sameR (pLoad1 (.p b o) h) v = true := by
  rw [ld1 (S.memL m) e hv]; exact hb
end

end Go.Dd

/- Dd, part ZR: a law of one text: from its run to its calls. -/
set_option linter.unusedVariables false
namespace Go.Dd
open Go.Proofs Go.RowKit

end Go.Dd

/- Dd, part T2: tokens, nodes, slices that stay and slices that grow. -/
set_option linter.unusedVariables false
set_option linter.unusedSimpArgs false
set_option maxRecDepth 100000
namespace Go.Dd
open Go.Proofs

def lim : Nat := 100000000000

structure Tok where
  kind : Int
  text : List Nat
  num : Int
  pos : Int

def tc (t : Tok) : List DV := [.i .i64 t.kind, .s t.text, .i .i64 t.num, .i .i64 t.pos]

inductive Node where
  | mk (kind : Int) (text : List Nat) (num : Int) (names temps : List (List Nat)) (kids : List Node)

/-- A slice that stays: its cells. -/
def Fz (I : Im) (sz : Nat) (s : DV) (len : Nat) (cells : List DV) : Prop :=
  ((s = .l0 ∨ s = .le) ∧ len = 0 ∧ cells = []) ∨
    ∃ (b : Pos) (o cap : Nat) (k : Kind) (row rest : List DV), s = .l b o len cap ∧ len ≤ cap ∧ I b = some (.row k row) ∧ row.drop o = cells ++ rest ∧ cells.length = len * sz ∧ ∀ v ∈ cells, v.one = true

theorem Fz.mono {I J : Im} (g : ILe I J) {sz : Nat} {s : DV} {len : Nat} {cells : List DV} (H : Fz I sz s len cells) : Fz J sz s len cells := by
  rcases H with H | ⟨b, o, cap, k, row, rest, h1, h2, h3, h4⟩
  · exact .inl H
  · exact .inr ⟨b, o, cap, k, row, rest, h1, h2, g _ _ h3, h4⟩

theorem Fz.one {I : Im} {sz : Nat} {s : DV} {len : Nat} {cells : List DV} (H : Fz I sz s len cells) : s.one = true := by
  rcases H with ⟨rfl | rfl, _⟩ | ⟨b, o, cap, k, row, rest, rfl, _⟩ <;> rfl

theorem Fz.beq {I : Im} {sz : Nat} {s : DV} {len : Nat} {cells : List DV} (H : Fz I sz s len cells) : DV.beq s s = true := by
  rcases H with ⟨rfl | rfl, _⟩ | ⟨b, o, cap, k, row, rest, rfl, _⟩
  · rfl
  · rfl
  · simp [DV.beq]

theorem Fz.len {I : Im} {sz : Nat} {s : DV} {len : Nat} {cells : List DV} (H : Fz I sz s len cells) (h : Hp) : pLen s h = some (.i .i64 (len : Int), h) := by
  rcases H with ⟨rfl | rfl, rfl, _⟩ | ⟨b, o, cap, k, row, rest, rfl, _⟩ <;> rfl

/-- An element. -/
theorem Fz.at {I : Im} {sz : Nat} {s : DV} {len : Nat} {cells : List DV} (H : Fz I sz s len cells) {A Q L : Ls} {h : Hp} (S : Sy I A Q L h) {i : Nat} (hi : i < len) :
    ∃ b o, (∀ h', pIndexAddr sz s (.i .i64 (i : Int)) h' = some (.p b o, h')) ∧ ∃ k row, h.bl.get b = some (.row k row) ∧ ∃ rest, row.drop o = cells.drop (i * sz) ++ rest := by
  rcases H with ⟨_, rfl, _⟩ | ⟨b, o, cap, k, row, rest, rfl, h2, h3, h4, h5, h6⟩
  · omega
  · refine ⟨b, o + i * sz, fun h' => ?_, k, row, S.im _ _ h3, rest, ?_⟩
    · show (if 0 ≤ (i : Int) ∧ (i : Int) < (len : Int) then some (DV.p b (o + (i : Int).toNat * sz), h') else none) = _
      rw [if_pos ⟨by omega, by omega⟩]
      rfl
    · have : i * sz ≤ cells.length := by rw [h5]; exact Nat.mul_le_mul_right _ (by omega)
      rw [← List.drop_drop, h4, List.drop_append_of_le_length this]

/-- The rest of a slice. -/
theorem Fz.tail {I : Im} {sz : Nat} {s : DV} {len : Nat} {cells : List DV} (H : Fz I sz s len cells) {A Q L : Ls} {h : Hp} (S : Sy I A Q L h) {i : Nat} (hi : i < len) :
    ∃ s', pSlice sz s (some (.i .i64 (Int.ofNat i))) none h = some (s', h) ∧ Fz I sz s' (len - i) (cells.drop (i * sz)) := by
  rcases H with ⟨_, rfl, _⟩ | ⟨b, o, cap, k, row, rest, rfl, h2, h3, h4, h5, h6⟩
  · omega
  · have hle : i * sz ≤ cells.length := by rw [h5]; exact Nat.mul_le_mul_right _ (by omega)
    have hd : row.drop (o + i * sz) = cells.drop (i * sz) ++ rest := by
      rw [← List.drop_drop, h4, List.drop_append_of_le_length hle]
    refine ⟨.l b (o + i * sz) (len - i) (cap - i), ?_, .inr ⟨b, o + i * sz, cap - i, k, row, rest, rfl, by omega, h3, hd, ?_, fun v hv => h6 v (List.mem_of_mem_drop hv)⟩⟩
    · have e1 : hiD none len cap = some len := by simp [hiD, h2]
      have e2 : loD (some (.i .i64 (Int.ofNat i))) len = some i := by
        show (if 0 ≤ (Int.ofNat i) ∧ (Int.ofNat i) ≤ (len : Int) then some (Int.ofNat i).toNat else none) = _
        have hi' : (Int.ofNat i) = (i : Int) := rfl
        rw [if_pos ⟨by omega, by omega⟩]
        rfl
      have hne : ¬ cap = i := by omega
      unfold pSlice
      simp only [e1, e2, S.im _ _ h3]
      cases k <;> simp [hne]
    · rw [List.length_drop, h5, Nat.sub_mul]

/-- A slice that grows: rows of its own in A. -/
def Gr (I : Im) (sz : Nat) (A : Ls) (s : DV) (len : Nat) (cells : List DV) : Prop :=
  cells.length = len * sz ∧ (∀ v ∈ cells, v.one = true) ∧
    ((A = [] ∧ s = .l0 ∧ len = 0) ∨ (A = [] ∧ ∃ b, s = .l b 0 len len ∧ I b = some (.row .ex cells)) ∨ ∃ b, A = [(b, some (.row (.gr sz) cells))] ∧ s = .l b 0 len len)

theorem Gr.nil (I : Im) (sz : Nat) : Gr I sz [] .l0 0 [] := ⟨by simp, by simp, .inl ⟨rfl, rfl, rfl⟩⟩

theorem Gr.one {I : Im} {sz : Nat} {A : Ls} {s : DV} {len : Nat} {cells : List DV} (H : Gr I sz A s len cells) : s.one = true := by
  obtain ⟨_, _, ⟨_, rfl, _⟩ | ⟨_, b, rfl, _⟩ | ⟨b, _, rfl⟩⟩ := H <;> rfl
theorem Gr.beq {I : Im} {sz : Nat} {A : Ls} {s : DV} {len : Nat} {cells : List DV} (H : Gr I sz A s len cells) : DV.beq s s = true := by
  obtain ⟨_, _, ⟨_, rfl, _⟩ | ⟨_, b, rfl, _⟩ | ⟨b, _, rfl⟩⟩ := H
  · rfl
  · simp [DV.beq]
  · simp [DV.beq]
theorem Gr.len {I : Im} {sz : Nat} {A : Ls} {s : DV} {len : Nat} {cells : List DV} (H : Gr I sz A s len cells) (h : Hp) : pLen s h = some (.i .i64 (len : Int), h) := by
  obtain ⟨_, _, ⟨_, rfl, rfl⟩ | ⟨_, b, rfl, _⟩ | ⟨b, _, rfl⟩⟩ := H <;> rfl
theorem Gr.mono {I J : Im} (g : ILe I J) {sz : Nat} {A : Ls} {s : DV} {len : Nat} {cells : List DV} (H : Gr I sz A s len cells) : Gr J sz A s len cells := by
  obtain ⟨h1, h2, h3 | ⟨h3, b, h4, h5⟩ | h3⟩ := H
  · exact ⟨h1, h2, .inl h3⟩
  · exact ⟨h1, h2, .inr (.inl ⟨h3, b, h4, g _ _ h5⟩)⟩
  · exact ⟨h1, h2, .inr (.inr h3)⟩

theorem takeD_app2 (x rest : List DV) (n : Nat) (hn : x.length = n) (ho : ∀ v ∈ x, v.one = true) : takeD n (x ++ rest) = some x := by
  subst hn
  induction x with
  | nil => simp [takeD]
  | cons y x ih => simp [takeD, ho y (by simp), ih (fun v hv => ho v (by simp [hv]))]

/-- Cells are appended. -/
theorem Gr.app {I : Im} {sz bytes : Nat} {A A0 Q L : Ls} {s : DV} {len : Nat} {cells : List DV} (H : Gr I sz A s len cells) {h : Hp} (S : Sy I (A ++ A0) Q L h) {x : DV} {n : Nat} {new : List DV} (hs : srcD sz x h = some (n, new))
    (h1 : new.length = n * sz) (h2 : ∀ v ∈ new, v.one = true) (hn : n ≠ 0) (hb : (len + n) * bytes ≤ roomD) :
    ∃ s' h' A', pAppend sz bytes s x h = some (s', h') ∧ Sy I (A' ++ A0) Q L h' ∧ Gr I sz A' s' (len + n) (cells ++ new) := by
  obtain ⟨g1, g2, g3⟩ := H
  have l' : (cells ++ new).length = (len + n) * sz := by rw [List.length_append, g1, h1, Nat.add_mul]
  have o' : ∀ v ∈ cells ++ new, v.one = true := fun v hv => by
    rcases List.mem_append.1 hv with hv | hv
    · exact g2 v hv
    · exact h2 v hv
  have mv : ∀ {e : Pos × Option Ob} {h' : Hp}, Sy I A0 Q (e :: L) h' → Sy I ([e] ++ A0) Q L h' := @fun e h' S => perm3 (by
    have : List.Perm (A0 ++ Q ++ e :: L) (e :: (A0 ++ Q ++ L)) := List.perm_middle
    simpa using this) S
  rcases g3 with ⟨rfl, rfl, rfl⟩ | ⟨rfl, b, rfl, hI⟩ | ⟨b, rfl, rfl⟩
  · have hc : cells = [] := by simpa using g1
    subst hc
    refine ⟨.l h.next 0 n n, nw (.row (.gr sz) new) h, [(h.next, some (.row (.gr sz) new))], ?_, mv (Sy.new (by simpa using S) _), ?_⟩
    · unfold pAppend
      simp only [hs, if_neg hn]
      rw [Nat.zero_add] at hb
      rw [if_pos hb]
      rfl
    · simp only [Nat.zero_add, List.nil_append]
      exact ⟨by simpa using l', by simpa using o', .inr (.inr ⟨_, rfl, rfl⟩)⟩
  · have hg := S.im _ _ hI
    have hc : cellsAt b 0 (len * sz) h = some cells := by
      simp only [cellsAt, rowOf, hg, List.drop_zero]
      have := takeD_app2 cells [] (len * sz) g1 g2
      simpa using this
    refine ⟨.l h.next 0 (len + n) (len + n), nw (.row (.gr sz) (cells ++ new)) h, [(h.next, some (.row (.gr sz) (cells ++ new)))], ?_, mv (Sy.new (by simpa using S) _), l', o', .inr (.inr ⟨_, rfl, rfl⟩)⟩
    unfold pAppend
    simp only [hs]
    rw [if_neg (by omega)]
    simp only [hg, hc]
    rw [if_pos hb]
    rfl
  · have hg := S.memA (b := b) (o := .row (.gr sz) cells) (by simp)
    have hc : cellsAt b 0 (len * sz) h = some cells := by
      simp only [cellsAt, rowOf, hg, List.drop_zero]
      have := takeD_app2 cells [] (len * sz) g1 g2
      simpa using this
    let h1 : Hp := ⟨h.next, Tr.set (.row .sp (killFrom 0 cells)) b h.bl⟩
    have S1 : Sy I ((b, some (.row .sp (killFrom 0 cells))) :: A0) Q L h1 := S.setA (Rpl.head A0) rfl (fun c => Tr.get_set _ _ _ _)
    have S2 := S1.new (.row (.gr sz) (cells ++ new))
    have S3 : Sy I ([(h.next, some (.row (.gr sz) (cells ++ new)))] ++ A0) Q L (nw (.row (.gr sz) (cells ++ new)) h1) := by
      have S4 : Sy I A0 Q ((h1.next, some (.row (.gr sz) (cells ++ new))) :: L) (nw (.row (.gr sz) (cells ++ new)) h1) :=
        sub3 (by simp) S2
      exact mv S4
    refine ⟨.l h.next 0 (len + n) (len + n), _, _, ?_, S3, l', o', .inr (.inr ⟨_, rfl, rfl⟩)⟩
    unfold pAppend
    simp only [hs]
    rw [if_neg (by omega)]
    simp only [hg, hc]
    rw [if_pos hb]
    have e3 : 0 + len * sz = cells.length := by rw [g1]; omega
    simp only [e3, and_self, if_true]
    rfl

/-- It grows no more. -/
theorem Gr.freeze {I : Im} {sz : Nat} {A A0 Q L : Ls} {s : DV} {len : Nat} {cells : List DV} (H : Gr I sz A s len cells) {h : Hp} (S : Sy I (A ++ A0) Q L h) : ∃ J, ILe I J ∧ Sy J A0 Q L h ∧ Fz J sz s len cells := by
  obtain ⟨g1, g2, g3⟩ := H
  rcases g3 with ⟨rfl, rfl, rfl⟩ | ⟨rfl, b, rfl, hI⟩ | ⟨b, rfl, rfl⟩
  · have hc : cells = [] := by simpa using g1
    exact ⟨I, ILe.refl _, by simpa using S, .inl ⟨.inl rfl, rfl, hc⟩⟩
  · exact ⟨I, ILe.refl _, by simpa using S, .inr ⟨b, 0, len, .ex, cells, [], rfl, Nat.le_refl _, hI, by simp, g1, g2⟩⟩
  · have S1 : Sy I A0 Q ((b, some (.row (.gr sz) cells)) :: L) h := perm3 (by
      have : List.Perm (A0 ++ Q ++ (b, some (Ob.row (.gr sz) cells)) :: L) ((b, some (Ob.row (.gr sz) cells)) :: (A0 ++ Q ++ L)) := List.perm_middle
      simpa using this.symm) S
    obtain ⟨S2, g⟩ := S1.freeze
    exact ⟨_, g, S2, .inr ⟨b, 0, len, .gr sz, cells, [], rfl, Nat.le_refl _, Im.put_same _ _ _, by simp, g1, g2⟩⟩

/-- A slice that was just built stays. -/
theorem Fz.built {I : Im} {sz : Nat} {A Q L : Ls} {b : Pos} {n : Nat} {cells : List DV} {h : Hp} (S : Sy I A Q ((b, some (.row .ex cells)) :: L) h) (h1 : cells.length = n * sz) (h2 : ∀ v ∈ cells, v.one = true) :
    ∃ J, ILe I J ∧ Sy J A Q L h ∧ Fz J sz (.l b 0 n n) n cells ∧ Gr J sz [] (.l b 0 n n) n cells := by
  obtain ⟨S2, g⟩ := S.freeze
  exact ⟨_, g, S2, .inr ⟨b, 0, n, .ex, cells, [], rfl, Nat.le_refl _, Im.put_same _ _ _, by simp, h1, h2⟩, h1, h2, .inr (.inl ⟨rfl, b, rfl, Im.put_same _ _ _⟩)⟩

/-- What a slice has, to be appended. -/
theorem Fz.src {I : Im} {sz : Nat} {s : DV} {len : Nat} {cells : List DV} (H : Fz I sz s len cells) {A Q L : Ls} {h : Hp} (S : Sy I A Q L h) : srcD sz s h = some (len, cells) := by
  rcases H with ⟨rfl | rfl, rfl, rfl⟩ | ⟨b, o, cap, k, row, rest, rfl, h2, h3, h4, h5, h6⟩
  · rfl
  · rfl
  · have : cellsAt b o (len * sz) h = some cells := by
      simp only [cellsAt, rowOf, S.im _ _ h3, h4]
      exact takeD_app2 cells rest (len * sz) h5 h6
    simp [srcD, this]

theorem src_own {I : Im} {sz : Nat} {A Q L : Ls} {h : Hp} (S : Sy I A Q L h) {b : Pos} {n : Nat} {cells : List DV} (m : (b, some (.row .ex cells)) ∈ L) (h1 : cells.length = n * sz) (h2 : ∀ v ∈ cells, v.one = true) : srcD sz (.l b 0 n n) h = some (n, cells) := by
  have : cellsAt b 0 (n * sz) h = some cells := by
    simp only [cellsAt, rowOf, S.memL m, List.drop_zero]
    have := takeD_app2 cells [] (n * sz) h1 h2
    simpa using this
  simp [srcD, this]

/-! ### Strings, tokens, nodes -/

def SS (I : Im) (s : DV) (l : List (List Nat)) : Prop := l.length ≤ lim ∧ Fz I 1 s l.length (l.map .s)
def TS' (I : Im) (s : DV) (l : List Tok) : Prop := l.length ≤ lim ∧ Fz I 4 s l.length (l.map tc).flatten

mutual
def NV (I : Im) : Node → List DV → Prop
  | .mk k t m ns ts ks, cs => ∃ s1 s2 s3, cs = [.i .i64 k, .s t, .i .i64 m, s1, s2, s3] ∧ SS I s1 ns ∧ SS I s2 ts ∧ ks.length ≤ lim ∧ ∃ cells, Fz I 6 s3 ks.length cells ∧ NVL I ks cells
def NVL (I : Im) : List Node → List DV → Prop
  | [], cells => cells = []
  | x :: l, cells => ∃ c rest, cells = c ++ rest ∧ NV I x c ∧ NVL I l rest
end

/-- A slice of nodes. -/
def NS (I : Im) (s : DV) (ks : List Node) : Prop := ks.length ≤ lim ∧ ∃ cells, Fz I 6 s ks.length cells ∧ NVL I ks cells

theorem SS.mono {I J : Im} (g : ILe I J) {s : DV} {l : List (List Nat)} (H : SS I s l) : SS J s l := ⟨H.1, H.2.mono g⟩
theorem TS'.mono {I J : Im} (g : ILe I J) {s : DV} {l : List Tok} (H : TS' I s l) : TS' J s l := ⟨H.1, H.2.mono g⟩

mutual
theorem NV.mono {I J : Im} (g : ILe I J) : ∀ {x : Node} {cs : List DV}, NV I x cs → NV J x cs
  | .mk k t m ns ts ks, cs, ⟨s1, s2, s3, e, a, b, c, cells, f, n⟩ => ⟨s1, s2, s3, e, a.mono g, b.mono g, c, cells, f.mono g, NVL.mono g n⟩
theorem NVL.mono {I J : Im} (g : ILe I J) : ∀ {l : List Node} {cells : List DV}, NVL I l cells → NVL J l cells
  | [], _, e => e
  | x :: l, _, ⟨c, rest, e, a, b⟩ => ⟨c, rest, e, NV.mono g a, NVL.mono g b⟩
end
theorem NS.mono {I J : Im} (g : ILe I J) {s : DV} {l : List Node} (H : NS I s l) : NS J s l := by
  obtain ⟨a, cells, b, c⟩ := H
  exact ⟨a, cells, b.mono g, c.mono g⟩

theorem NV.shape {I : Im} {x : Node} {cs : List DV} (H : NV I x cs) : cs.length = 6 ∧ (∀ v ∈ cs, v.one = true) ∧ DV.beq (.a cs) (.a cs) = true := by
  cases x with
  | mk k t m ns ts ks =>
    obtain ⟨s1, s2, s3, rfl, a, b, c, cells, f, n⟩ := H
    have o1 := a.2.one
    have o2 := b.2.one
    have o3 := f.one
    refine ⟨rfl, ?_, ?_⟩
    · intro v hv
      simp only [List.mem_cons, List.not_mem_nil, or_false] at hv
      rcases hv with rfl | rfl | rfl | rfl | rfl | rfl
      · rfl
      · rfl
      · rfl
      · exact o1
      · exact o2
      · exact o3
    · have e : eqD t t = true := by rw [eqD_iff]
      simp [DV.beq, DV.beqs, e, a.2.beq, b.2.beq, f.beq]

theorem NVL.shape {I : Im} : ∀ {l : List Node} {cells : List DV}, NVL I l cells → cells.length = l.length * 6 ∧ ∀ v ∈ cells, v.one = true
  | [], _, e => by
    have e : _ = [] := e
    subst e; simp
  | x :: l, _, ⟨c, rest, e, a, b⟩ => by
    obtain ⟨h1, h2⟩ := NVL.shape b
    obtain ⟨h3, h4, _⟩ := a.shape
    subst e
    refine ⟨by rw [List.length_append, h1, h3, List.length_cons]; omega, fun v hv => ?_⟩
    rcases List.mem_append.1 hv with hv | hv
    · exact h4 v hv
    · exact h2 v hv

theorem NVL.app {I : Im} : ∀ {l l' : List Node} {c c' : List DV}, NVL I l c → NVL I l' c' → NVL I (l ++ l') (c ++ c')
  | [], l', c, c', e, H => by
    have e : c = [] := e
    subst e; simpa using H
  | x :: l, l', _, c', ⟨c, rest, e, a, b⟩, H => by
    subst e
    exact ⟨c, rest ++ c', by simp, a, NVL.app b H⟩

theorem NVL.single {I : Im} {x : Node} {c : List DV} (H : NV I x c) : NVL I [x] c := ⟨c, [], by simp, H, rfl⟩

theorem NVL.drop {I : Im} : ∀ {l : List Node} {c : List DV} (i : Nat), NVL I l c → NVL I (l.drop i) (c.drop (i * 6))
  | l, c, 0, H => by simpa using H
  | [], c, i + 1, e => by
    have e : c = [] := e
    subst e; simp; rfl
  | x :: l, _, i + 1, ⟨c, rest, e, a, b⟩ => by
    subst e
    have := NVL.drop i b
    rw [List.drop_succ_cons, show (i + 1) * 6 = c.length + i * 6 by rw [a.shape.1]; omega, ← List.drop_drop, List.drop_left]
    exact this

theorem tc_drop : ∀ (l : List Tok) (i : Nat), (l.map tc).flatten.drop (i * 4) = ((l.drop i).map tc).flatten
  | l, 0 => by simp
  | [], i + 1 => by simp
  | t :: l, i + 1 => by
    have := tc_drop l i
    rw [List.map_cons, List.flatten_cons, List.drop_succ_cons, show (i + 1) * 4 = (tc t).length + i * 4 by simp [tc]; omega, ← List.drop_drop, List.drop_left]
    exact this

theorem TS'.tail {I : Im} {s : DV} {l : List Tok} (H : TS' I s l) {A Q L : Ls} {h : Hp} (S : Sy I A Q L h) {i : Nat} (hi : i < l.length) :
    ∃ s', pSlice 4 s (some (.i .i64 (Int.ofNat i))) none h = some (s', h) ∧ TS' I s' (l.drop i) := by
  obtain ⟨s', e, f⟩ := H.2.tail S hi
  refine ⟨s', e, ?_, ?_⟩
  · have := H.1
    simp; omega
  · rw [tc_drop] at f
    simpa using f

theorem TS'.at {I : Im} {s : DV} {l : List Tok} (H : TS' I s l) {A Q L : Ls} {h : Hp} (S : Sy I A Q L h) {i : Nat} {t : Tok} (hi : l[i]? = some t) :
    ∃ b o, (∀ h', pIndexAddr 4 s (.i .i64 (i : Int)) h' = some (.p b o, h')) ∧ pLoadA 4 (.p b o) h = some (.a (tc t), h) := by
  obtain ⟨hlt, hg⟩ := List.getElem?_eq_some_iff.1 hi
  obtain ⟨b, o, e, k, row, g, rest, d⟩ := H.2.at S hlt
  refine ⟨b, o, e, ldA g ?_⟩
  rw [d, tc_drop, drop_cons hi, List.map_cons, List.flatten_cons, List.append_assoc]
  refine takeD_app2 (tc t) _ 4 rfl ?_
  intro v hv
  simp only [tc, List.mem_cons, List.not_mem_nil, or_false] at hv
  rcases hv with rfl | rfl | rfl | rfl <;> rfl

end Go.Dd

/- Dd, part T3: the program's parser: what it says; its small methods. -/
set_option linter.unusedVariables false
set_option linter.unusedSimpArgs false
set_option maxRecDepth 100000
namespace Go.Dd
open Go.Proofs

section
variable {I : Im} {A Q L : Ls} {h : Hp} {k : Nat → DV → Hp → Res} {P : DV → Hp → Prop} {b : Pos} {o i : Nat} {v : DV}
theorem Ev.fld (H : Ev (fun n => k n (.p b (o + i)) h) P) : Ev (fun n => bnd (pField i (.p b o) h) (k n)) P := H
theorem Ev.neg {q : IntKind} {x : Int} (H : Ev (fun n => k n (.i q (q.wrap (0 - x))) h) P) : Ev (fun n => bnd (pUn .neg (.i q x) h) (k n)) P := H
theorem Ev.part {cs : List DV} (e : cs[i]? = some v) (H : Ev (fun n => k n v h) P) : Ev (fun n => bnd (pPart1 i (.a cs) h) (k n)) P := by
  refine Ev.op (v := v) (h := h) ?_ H
  simp [pPart1, e]
theorem Ev.extr {cs : List DV} (e : cs[i]? = some v) (H : Ev (fun n => k n v h) P) : Ev (fun n => bnd (pExtract i (.t cs) h) (k n)) P := by
  refine Ev.op (v := v) (h := h) ?_ H
  simp [pExtract, e]
end

theorem ones_nil : ∀ v ∈ ([] : List DV), v.one = true := fun v hv => by simp at hv
theorem ones_cons {v : DV} {l : List DV} (h : v.one = true) (t : ∀ w ∈ l, w.one = true) : ∀ w ∈ v :: l, w.one = true := fun w hw => by
  rcases List.mem_cons.1 hw with rfl | hw
  · exact h
  · exact t w hw
theorem tc_ones (t : Tok) : ∀ v ∈ tc t, v.one = true := ones_cons rfl (ones_cons rfl (ones_cons rfl (ones_cons rfl ones_nil)))

theorem fillD_one {cells : List DV} {off : Nat} {v : DV} {rest : List (Nat × Nat × DV)} (hv : v.one = true) (ho : off + 1 ≤ cells.length) : fillD cells ((off, 1, v) :: rest) = fillD (cells.set off v) rest := by
  have e : cells.take off ++ [v] ++ cells.drop (off + 1) = cells.set off v := by
    rw [List.set_eq_take_append_cons_drop, if_pos (by omega)]
    simp
  show (match cellsD v with
    | some cs => if cs.length = 1 ∧ off + 1 ≤ cells.length then fillD (cells.take off ++ cs ++ cells.drop (off + 1)) rest else none
    | none => none) = _
  rw [cells_one hv]
  show (if [v].length = 1 ∧ off + 1 ≤ cells.length then fillD (cells.take off ++ [v] ++ cells.drop (off + 1)) rest else none) = _
  rw [if_pos ⟨rfl, ho⟩, e]

/-! ### Steps, in short -/
section
variable {I : Im} {A Q L L' Q' : Ls} {h : Hp} {k : Nat → DV → Hp → Res} {F G : Nat → Res} {P : DV → Hp → Prop} {b : Pos} {kd : Kind} {l l' cs : List DV} {o n i : Nat} {v x y : DV}
theorem dp (S : Sy I A Q L h := by first | assumption | exact Sy.dropL (by assumption) | exact Sy.dropL (Sy.dropL (by assumption)) | exact Sy.dropL (Sy.dropL (Sy.dropL (by assumption))) | exact Sy.dropL (Sy.dropL (Sy.dropL (Sy.dropL (by assumption)))) | exact Sy.dropL (Sy.dropL (Sy.dropL (Sy.dropL (Sy.dropL (by assumption))))) | exact Sy.dropL (Sy.dropL (Sy.dropL (Sy.dropL (Sy.dropL (Sy.dropL (by assumption)))))) | exact Sy.dropL (Sy.dropL (Sy.dropL (Sy.dropL (Sy.dropL (Sy.dropL (Sy.dropL (by assumption)))))))) : Sy I A Q L h := S
theorem wf (H : Ev (fun n => k n (.p b (o + i)) h) P) : Ev (fun n => bnd (pField i (.p b o) h) (k n)) P := H
theorem wn (H : Ev (fun n => k n (.p b o) h) P) : Ev (fun n => bnd (pNil (.p b o) h) (k n)) P := H
theorem wm (H : Ev (fun n => k n v h) P) : Ev (fun n => bnd (some (v, h)) (k n)) P := H
theorem wl (H : Ev (fun n => k n v h) P) (S : Sy I A Q L h := by assumption) (m : (b, some (.row kd l)) ∈ L := by first | exact List.Mem.head _ | exact (List.Mem.tail _ (List.Mem.head _)) | exact (List.Mem.tail _ (List.Mem.tail _ (List.Mem.head _))) | exact (List.Mem.tail _ (List.Mem.tail _ (List.Mem.tail _ (List.Mem.head _)))) | exact (List.Mem.tail _ (List.Mem.tail _ (List.Mem.tail _ (List.Mem.tail _ (List.Mem.head _))))) | exact (List.Mem.tail _ (List.Mem.tail _ (List.Mem.tail _ (List.Mem.tail _ (List.Mem.tail _ (List.Mem.head _)))))) | exact (List.Mem.tail _ (List.Mem.tail _ (List.Mem.tail _ (List.Mem.tail _ (List.Mem.tail _ (List.Mem.tail _ (List.Mem.head _))))))) | exact (List.Mem.tail _ (List.Mem.tail _ (List.Mem.tail _ (List.Mem.tail _ (List.Mem.tail _ (List.Mem.tail _ (List.Mem.tail _ (List.Mem.head _)))))))) | exact (List.Mem.tail _ (List.Mem.tail _ (List.Mem.tail _ (List.Mem.tail _ (List.Mem.tail _ (List.Mem.tail _ (List.Mem.tail _ (List.Mem.tail _ (List.Mem.head _)))))))))) (e : l[o]? = some v := by rfl) (hv : v.one = true := by first | rfl | assumption | exact Fz.one (by assumption)) : Ev (fun n => bnd (pLoad1 (.p b o) h) (k n)) P := Ev.ldL S m e hv H
theorem wq (H : Ev (fun n => k n v h) P) (S : Sy I A Q L h := by assumption) (m : (b, some (.row kd l)) ∈ Q := by first | exact List.Mem.head _ | exact (List.Mem.tail _ (List.Mem.head _)) | exact (List.Mem.tail _ (List.Mem.tail _ (List.Mem.head _))) | exact (List.Mem.tail _ (List.Mem.tail _ (List.Mem.tail _ (List.Mem.head _)))) | exact (List.Mem.tail _ (List.Mem.tail _ (List.Mem.tail _ (List.Mem.tail _ (List.Mem.head _))))) | exact (List.Mem.tail _ (List.Mem.tail _ (List.Mem.tail _ (List.Mem.tail _ (List.Mem.tail _ (List.Mem.head _)))))) | exact (List.Mem.tail _ (List.Mem.tail _ (List.Mem.tail _ (List.Mem.tail _ (List.Mem.tail _ (List.Mem.tail _ (List.Mem.head _))))))) | exact (List.Mem.tail _ (List.Mem.tail _ (List.Mem.tail _ (List.Mem.tail _ (List.Mem.tail _ (List.Mem.tail _ (List.Mem.tail _ (List.Mem.head _)))))))) | exact (List.Mem.tail _ (List.Mem.tail _ (List.Mem.tail _ (List.Mem.tail _ (List.Mem.tail _ (List.Mem.tail _ (List.Mem.tail _ (List.Mem.tail _ (List.Mem.head _)))))))))) (e : l[o]? = some v := by rfl) (hv : v.one = true := by first | rfl | assumption | exact Fz.one (by assumption)) : Ev (fun n => bnd (pLoad1 (.p b o) h) (k n)) P := Ev.ldQ S m e hv H
theorem ws (H : Ev (fun n => k n (.a l) h) P) (S : Sy I A Q L h := by assumption) (m : (b, some (.row kd l)) ∈ L := by first | exact List.Mem.head _ | exact (List.Mem.tail _ (List.Mem.head _)) | exact (List.Mem.tail _ (List.Mem.tail _ (List.Mem.head _))) | exact (List.Mem.tail _ (List.Mem.tail _ (List.Mem.tail _ (List.Mem.head _)))) | exact (List.Mem.tail _ (List.Mem.tail _ (List.Mem.tail _ (List.Mem.tail _ (List.Mem.head _))))) | exact (List.Mem.tail _ (List.Mem.tail _ (List.Mem.tail _ (List.Mem.tail _ (List.Mem.tail _ (List.Mem.head _)))))) | exact (List.Mem.tail _ (List.Mem.tail _ (List.Mem.tail _ (List.Mem.tail _ (List.Mem.tail _ (List.Mem.tail _ (List.Mem.head _))))))) | exact (List.Mem.tail _ (List.Mem.tail _ (List.Mem.tail _ (List.Mem.tail _ (List.Mem.tail _ (List.Mem.tail _ (List.Mem.tail _ (List.Mem.head _)))))))) | exact (List.Mem.tail _ (List.Mem.tail _ (List.Mem.tail _ (List.Mem.tail _ (List.Mem.tail _ (List.Mem.tail _ (List.Mem.tail _ (List.Mem.tail _ (List.Mem.head _)))))))))) (h1 : l.length = n := by first | rfl | assumption) (h2 : ∀ v ∈ l, v.one = true := by first | assumption | exact tc_ones _ | (repeat (first | exact ones_nil | refine ones_cons (by first | rfl | assumption | exact Fz.one (by assumption)) ?_))) : Ev (fun m => bnd (pLoadA n (.p b 0) h) (k m)) P := Ev.ldsL S m h1 h2 H
theorem wa (H : ∀ b h', Sy I A Q ((b, some (.row .ex cs)) :: L) h' → Ev (fun n => k n (.p b 0) h') P) (S : Sy I A Q L h := by assumption) : Ev (fun n => bnd (pNew cs h) (k n)) P := Ev.new S H
theorem wt (H : ∀ h', Sy I A Q L' h' → Ev (fun n => k n undefD h') P) (S : Sy I A Q L h := by assumption) (r : Rpl b (some (.row .ex l)) (some (.row .ex l')) L L' := by first | exact Rpl.head _ | exact (Rpl.tail _ (Rpl.head _)) | exact (Rpl.tail _ (Rpl.tail _ (Rpl.head _))) | exact (Rpl.tail _ (Rpl.tail _ (Rpl.tail _ (Rpl.head _)))) | exact (Rpl.tail _ (Rpl.tail _ (Rpl.tail _ (Rpl.tail _ (Rpl.head _))))) | exact (Rpl.tail _ (Rpl.tail _ (Rpl.tail _ (Rpl.tail _ (Rpl.tail _ (Rpl.head _)))))) | exact (Rpl.tail _ (Rpl.tail _ (Rpl.tail _ (Rpl.tail _ (Rpl.tail _ (Rpl.tail _ (Rpl.head _))))))) | exact (Rpl.tail _ (Rpl.tail _ (Rpl.tail _ (Rpl.tail _ (Rpl.tail _ (Rpl.tail _ (Rpl.tail _ (Rpl.head _)))))))) | exact (Rpl.tail _ (Rpl.tail _ (Rpl.tail _ (Rpl.tail _ (Rpl.tail _ (Rpl.tail _ (Rpl.tail _ (Rpl.tail _ (Rpl.head _)))))))))) (h1 : l.length = n := by first | rfl | assumption) (h2 : ∀ v ∈ l, v.one = true := by first | assumption | exact tc_ones _ | (repeat (first | exact ones_nil | refine ones_cons (by first | rfl | assumption | exact Fz.one (by assumption)) ?_))) (h3 : l'.length = n := by first | rfl | assumption) (h4 : ∀ v ∈ l', v.one = true := by first | assumption | exact tc_ones _ | (repeat (first | exact ones_nil | refine ones_cons (by first | rfl | assumption | exact Fz.one (by assumption)) ?_))) : Ev (fun m => bnd (pStore n (.p b 0) (.a l') h) (k m)) P := Ev.stsL S r h1 h2 h3 h4 H
theorem wu (H : ∀ h', Sy I A Q L' h' → Ev (fun n => k n undefD h') P) (S : Sy I A Q L h := by assumption) (r : Rpl b (some (.row .ex l)) (some (.row .ex l')) L L' := by first | exact Rpl.head _ | exact (Rpl.tail _ (Rpl.head _)) | exact (Rpl.tail _ (Rpl.tail _ (Rpl.head _))) | exact (Rpl.tail _ (Rpl.tail _ (Rpl.tail _ (Rpl.head _)))) | exact (Rpl.tail _ (Rpl.tail _ (Rpl.tail _ (Rpl.tail _ (Rpl.head _))))) | exact (Rpl.tail _ (Rpl.tail _ (Rpl.tail _ (Rpl.tail _ (Rpl.tail _ (Rpl.head _)))))) | exact (Rpl.tail _ (Rpl.tail _ (Rpl.tail _ (Rpl.tail _ (Rpl.tail _ (Rpl.tail _ (Rpl.head _))))))) | exact (Rpl.tail _ (Rpl.tail _ (Rpl.tail _ (Rpl.tail _ (Rpl.tail _ (Rpl.tail _ (Rpl.tail _ (Rpl.head _)))))))) | exact (Rpl.tail _ (Rpl.tail _ (Rpl.tail _ (Rpl.tail _ (Rpl.tail _ (Rpl.tail _ (Rpl.tail _ (Rpl.tail _ (Rpl.head _)))))))))) (e : l.set o v = l' := by rfl) (h1 : ∃ x, l[o]? = some x ∧ x.one = true := by exact ⟨_, rfl, by first | rfl | assumption | exact Fz.one (by assumption)⟩) (hv : v.one = true := by first | rfl | assumption | exact Fz.one (by assumption)) : Ev (fun m => bnd (pStore 1 (.p b o) v h) (k m)) P := Ev.stL S r e h1 hv H
theorem wv (H : ∀ h', Sy I A Q' L h' → Ev (fun n => k n undefD h') P) (S : Sy I A Q L h := by assumption) (r : Rpl b (some (.row .ex l)) (some (.row .ex l')) Q Q' := by first | exact Rpl.head _ | exact (Rpl.tail _ (Rpl.head _)) | exact (Rpl.tail _ (Rpl.tail _ (Rpl.head _))) | exact (Rpl.tail _ (Rpl.tail _ (Rpl.tail _ (Rpl.head _)))) | exact (Rpl.tail _ (Rpl.tail _ (Rpl.tail _ (Rpl.tail _ (Rpl.head _))))) | exact (Rpl.tail _ (Rpl.tail _ (Rpl.tail _ (Rpl.tail _ (Rpl.tail _ (Rpl.head _)))))) | exact (Rpl.tail _ (Rpl.tail _ (Rpl.tail _ (Rpl.tail _ (Rpl.tail _ (Rpl.tail _ (Rpl.head _))))))) | exact (Rpl.tail _ (Rpl.tail _ (Rpl.tail _ (Rpl.tail _ (Rpl.tail _ (Rpl.tail _ (Rpl.tail _ (Rpl.head _)))))))) | exact (Rpl.tail _ (Rpl.tail _ (Rpl.tail _ (Rpl.tail _ (Rpl.tail _ (Rpl.tail _ (Rpl.tail _ (Rpl.tail _ (Rpl.head _)))))))))) (e : l.set o v = l' := by rfl) (h1 : ∃ x, l[o]? = some x ∧ x.one = true := by exact ⟨_, rfl, by first | rfl | assumption | exact Fz.one (by assumption)⟩) (hv : v.one = true := by first | rfl | assumption | exact Fz.one (by assumption)) : Ev (fun m => bnd (pStore 1 (.p b o) v h) (k m)) P := Ev.stQ S r e h1 hv H
theorem wb (H : ∀ b h', Sy I A Q ((b, some (.row .ex cs)) :: L) h' → Ev (fun n => k n (.p b 0) h') P) (S : Sy I A Q L h := by assumption) (e : cellsD v = some cs := by rfl) : Ev (fun n => bnd (pBox v h) (k n)) P := Ev.box S e H
theorem zt (H : Ev (fun n => bnd (F n) (k n)) P) : Ev (fun n => bnd (gD (.b true) true (F n) h) (k n)) P := H
theorem zf (H : Ev (fun n => bnd (F n) (k n)) P) : Ev (fun n => bnd (gD (.b false) false (F n) h) (k n)) P := H
theorem yf (H : Ev (fun n => k n undefD h) P) : Ev (fun n => bnd (gD (.b false) true (F n) h) (k n)) P := H
theorem yg (H : Ev (fun n => k n undefD h) P) : Ev (fun n => bnd (gD (.b true) false (F n) h) (k n)) P := H
theorem yu {c : Bool} (H : Ev (fun n => k n undefD h) P) : Ev (fun n => bnd (gD undefD c (F n) h) (k n)) P := H
theorem yt (H : Ev F P) : Ev (fun n => ifD (.b true) (F n) (G n)) P := H
theorem yj (H : Ev G P) : Ev (fun n => ifD (.b false) (F n) (G n)) P := H
theorem ap (H : Ev (fun n => k n x h) P) : Ev (fun n => bnd (pPick (.b true) x y h) (k n)) P := H
theorem aq (H : Ev (fun n => k n y h) P) : Ev (fun n => bnd (pPick (.b false) x y h) (k n)) P := H
theorem an (H : Ev (fun n => k n (.b false) h) P) : Ev (fun n => bnd (pUn .not (.b true) h) (k n)) P := H
theorem ao (H : Ev (fun n => k n (.b true) h) P) : Ev (fun n => bnd (pUn .not (.b false) h) (k n)) P := H
theorem wp (H : Ev (fun n => k n v h) P) (e : cs[i]? = some v := by rfl) : Ev (fun n => bnd (pPart1 i (.a cs) h) (k n)) P := Ev.part e H
theorem wx (H : Ev (fun n => k n v h) P) (e : cs[i]? = some v := by rfl) : Ev (fun n => bnd (pExtract i (.t cs) h) (k n)) P := Ev.extr e H
end
theorem wd {k : Nat → DV → Hp → Res} {P : DV → Hp → Prop} {h : Hp} {cs : List DV} {z : List DV} {ps : List (Nat × Nat × DV)} (H : Ev (fun n => k n (.a cs) h) P) (e : fillD z ps = some cs := by first | rfl | ((repeat (rw [fillD_one (by first | rfl | assumption | exact Fz.one (by assumption)) (by simp)])); rfl)) : Ev (fun n => bnd (pBuild z ps h) (k n)) P := Ev.bld e H


/-! ### What it says -/

structure PSt where
  toks : List Tok
  deep : Int
  pos : Int
  err : Int

def w64 (x : Int) : Int := IntKind.i64.wrap x

def lookS (st : PSt) (k : Nat) : Option Tok := st.toks[min k (st.toks.length - 1)]?
def failS (st : PSt) (t : Tok) (e : Int) : PSt := if st.err = 0 then { st with pos := t.pos, err := e } else st
def takeS (st : PSt) : Option (Tok × PSt) :=
  (lookS st 0).bind fun t => if t.kind = 0 then some (t, st) else if 2 ≤ st.toks.length then some (t, { st with toks := st.toks.drop 1 }) else none
def isS (st : PSt) (kind : Int) (text : List Nat) : Option Bool :=
  (lookS st 0).bind fun t => some (decide (st.err = 0) && decide (t.kind = kind) && (decide (text = []) || decide (t.text = text)))
def z4 : Tok := ⟨0, [], 0, 0⟩
def needS (st : PSt) (kind : Int) (text : List Nat) : Option (Tok × PSt) :=
  (isS st kind text).bind fun c => if c then takeS st else (lookS st 0).bind fun t => some (z4, failS st t 13)
def nameS (st : PSt) (kind : Int) (len : Nat) : Option (List Nat × PSt) :=
  (needS st kind []).bind fun r => some (r.1.text, if len = 4 then failS r.2 r.1 18 else r.2)
def negS (st : PSt) : Option Bool :=
  (lookS st 1).bind fun t => (isS st 3 [45]).bind fun c => (lookS st 0).bind fun u => some (c && decide (t.kind = 4) && decide (t.pos = w64 (u.pos + 1)))

def PS (p : Pos) (s : DV) (st : PSt) : Pos × Option Ob := (p, some (.row .ex [s, .i .i64 st.deep, .i .i64 st.pos, .i .i64 st.err]))

theorem lookS_lt {st : PSt} {k : Nat} {t : Tok} (h : lookS st k = some t) : 1 ≤ st.toks.length := by
  unfold lookS at h
  have := (List.getElem?_eq_some_iff.1 h).1
  omega

theorem enter81 (n : Nat) (x y : DV) (h : Hp) : shD (n + 1) 81 [x, y] h = s81 (shD n) n x y h := by kernel_rfl
theorem enter77 (n : Nat) (x y z : DV) (h : Hp) : shD (n + 1) 77 [x, y, z] h = s77 (shD n) n x y z h := by kernel_rfl
theorem enter78 (n : Nat) (x : DV) (h : Hp) : shD (n + 1) 78 [x] h = s78 (shD n) n x h := by kernel_rfl
theorem enter80 (n : Nat) (x y z : DV) (h : Hp) : shD (n + 1) 80 [x, y, z] h = s80 (shD n) n x y z h := by kernel_rfl
theorem enter51 (n : Nat) (x y z : DV) (h : Hp) : shD (n + 1) 51 [x, y, z] h = s51 (shD n) n x y z h := by kernel_rfl
theorem enter82 (n : Nat) (x y z : DV) (h : Hp) : shD (n + 1) 82 [x, y, z] h = s82 (shD n) n x y z h := by kernel_rfl
theorem enter161 (n : Nat) (x : DV) (h : Hp) : shD (n + 1) 161 [x] h = s161 (shD n) n x h := by kernel_rfl

section
variable {I : Im} {A L : Ls} {h : Hp} {p : Pos} {s : DV} {st : PSt}

theorem look_ok (S : Sy I A [PS p s st] L h) (T : TS' I s st.toks) {k : Nat} {t : Tok} (hk : lookS st k = some t) :
    Ev (fun n => shD n 81 [.p p 0, .i .i64 (Int.ofNat k)] h) (fun v h' => v = .a (tc t) ∧ Sy I A [PS p s st] L h') := by
  refine Ev.enter (fun n => enter81 n _ _ h) ?_
  unfold s81
  have hs := T.2.one
  refine wa fun _ _ _ => ?_; refine wn ?_; refine wf ?_; refine wq ?_; refine wn ?_; refine wf ?_; refine wq ?_
  refine Ev.op (T.2.len _) (Ev.isub ?_)
  have hlen := lookS_lt hk
  have hl := T.1
  have e1 : IntKind.i64.wrap ((st.toks.length : Int) - Int.ofNat 1) = ((st.toks.length - 1 : Nat) : Int) := by
    rw [wrap64s _ (by simp; omega) (by simp [lim] at hl ⊢; omega)]
    simp; omega
  rw [e1]
  have e2 : ∀ h, pMin (.i .i64 (Int.ofNat k)) (.i .i64 ((st.toks.length - 1 : Nat) : Int)) h = some (.i .i64 ((min k (st.toks.length - 1) : Nat) : Int), h) := fun h => by
    unfold pMin
    have : (if ((st.toks.length - 1 : Nat) : Int) < Int.ofNat k then ((st.toks.length - 1 : Nat) : Int) else Int.ofNat k) = ((min k (st.toks.length - 1) : Nat) : Int) := by
      show (if ((st.toks.length - 1 : Nat) : Int) < (k : Int) then ((st.toks.length - 1 : Nat) : Int) else (k : Int)) = _
      split <;> omega
    show some (DV.i .i64 (if ((st.toks.length - 1 : Nat) : Int) < Int.ofNat k then ((st.toks.length - 1 : Nat) : Int) else Int.ofNat k), h) = _
    rw [this]
  refine Ev.op (e2 _) ?_
  obtain ⟨b, o, a1, a2⟩ := T.at (by assumption) hk
  refine Ev.op (a1 _) (Ev.op a2 ?_)
  refine wt fun _ _ => ?_; refine ws ?_
  exact Ev.ret ⟨rfl, Sy.dropL (by assumption)⟩

theorem is_ok (S : Sy I A [PS p s st] L h) (T : TS' I s st.toks) {kind : Int} {text : List Nat} {c : Bool} (hc : isS st kind text = some c) :
    Ev (fun n => shD n 77 [.p p 0, .i .i64 kind, .s text] h) (fun v h' => v = .b c ∧ Sy I A [PS p s st] L h') := by
  unfold isS at hc
  obtain ⟨t, ht, hc⟩ := Option.bind_eq_some_iff.1 hc
  simp only [Option.some.injEq] at hc
  refine Ev.enter (fun n => enter77 n _ _ _ h) ?_
  unfold s77
  refine Ev.call (look_ok S T ht) ?_
  rintro _ _ ⟨rfl, S1⟩
  refine wa fun _ _ _ => ?_; refine wt fun _ _ => ?_; refine wn ?_; refine wf ?_; refine wq ?_
  refine Ev.ieq (fun e1 => ?_) (fun e1 => ?_)
  · refine zt ?_; refine wf ?_; refine zt ?_; refine wl ?_; refine zt ?_; refine wm ?_; refine zt ?_
    refine Ev.ieq (fun e2 => ?_) (fun e2 => ?_)
    · refine ap ?_; refine zt ?_; refine wm ?_; refine zt ?_
      refine Ev.seq (fun e3 => ?_) (fun e3 => ?_)
      · refine zt ?_; refine wm ?_; refine yg ?_; refine yg ?_; refine yg ?_; refine yg ?_; refine zt ?_; refine ap ?_; refine ap ?_
        exact Ev.ret ⟨by rw [← hc]; simp at e1; simp [e1, e2, e3], dp⟩
      · refine zt ?_; refine wm ?_; refine zf ?_; refine wf ?_; refine zf ?_; refine wl ?_; refine zf ?_; refine wm ?_; refine zf ?_
        refine Ev.seq (fun e4 => ?_) (fun e4 => ?_)
        · refine zt ?_; refine aq ?_; refine ap ?_
          exact Ev.ret ⟨by rw [← hc]; simp at e1; simp [e1, e2, e3, e4], dp⟩
        · refine zt ?_; refine aq ?_; refine ap ?_
          exact Ev.ret ⟨by rw [← hc]; simp at e1; simp [e1, e2, e3, e4], dp⟩
    · refine ap ?_; refine yf ?_; refine yf ?_; refine yf ?_; refine yu ?_; refine yu ?_; refine yu ?_; refine yu ?_; refine yf ?_; refine aq ?_
      exact Ev.ret ⟨by rw [← hc]; simp at e1; simp [e1, e2], dp⟩
  · refine yf ?_; refine yf ?_; refine yf ?_; refine yf ?_; refine aq ?_; refine yf ?_; refine yf ?_; refine yf ?_; refine yu ?_; refine yu ?_; refine yu ?_; refine yu ?_; refine yf ?_; refine aq ?_
    exact Ev.ret ⟨by rw [← hc]; simp at e1; simp [e1], dp⟩

theorem fail_ok (S : Sy I A [PS p s st] L h) (hs : s.one = true) (t : Tok) (e : Int) :
    Ev (fun n => shD n 80 [.p p 0, .a (tc t), .i .i64 e] h) (fun v h' => v = .t [] ∧ Sy I A [PS p s (failS st t e)] L h') := by
  refine Ev.enter (fun n => enter80 n _ _ _ h) ?_
  unfold s80
  refine wb fun _ _ _ => ?_; refine wn ?_; refine wf ?_; refine wq ?_
  refine Ev.ieq (fun e1 => ?_) (fun e1 => ?_)
  · refine yt ?_; refine wf ?_; refine wl ?_; refine wn ?_; refine wf ?_; refine wv fun _ _ => ?_; refine wn ?_; refine wf ?_; refine wv fun _ _ => ?_
    have : failS st t e = { st with pos := t.pos, err := e } := by simp at e1; simp [failS, e1]
    rw [this]
    exact Ev.ret ⟨rfl, dp⟩
  · refine yj ?_
    have : failS st t e = st := by simp at e1; simp [failS, e1]
    rw [this]
    exact Ev.ret ⟨rfl, dp⟩

theorem take_ok (S : Sy I A [PS p s st] L h) (T : TS' I s st.toks) {t : Tok} {st' : PSt} (ht : takeS st = some (t, st')) :
    Ev (fun n => shD n 78 [.p p 0] h) (fun v h' => v = .a (tc t) ∧ ∃ s', Sy I A [PS p s' st'] L h' ∧ TS' I s' st'.toks) := by
  unfold takeS at ht
  obtain ⟨u, hu, ht⟩ := Option.bind_eq_some_iff.1 ht
  have hs := T.2.one
  refine Ev.enter (fun n => enter78 n _ h) ?_
  unfold s78 s78a1
  refine wa fun _ _ _ => ?_
  refine Ev.call (look_ok (by assumption) T hu) ?_
  rintro _ _ ⟨rfl, S1⟩
  unfold s78a2
  refine wa fun _ _ _ => ?_; refine wt fun _ _ => ?_; refine wf ?_; refine wl ?_
  unfold s78a3
  refine Ev.ine (fun e1 => ?_) (fun e1 => ?_)
  · refine yt ?_; refine wn ?_; refine wf ?_; refine wq ?_
    simp only [show ¬ u.kind = 0 from e1, if_false] at ht
    split at ht
    · rename_i h2
      simp only [Option.some.injEq, Prod.mk.injEq] at ht
      obtain ⟨rfl, rfl⟩ := ht
      obtain ⟨s', e, T'⟩ := T.tail (i := 1) (by assumption) (by omega)
      have hs' := T'.2.one
      refine Ev.op e ?_
      refine wn ?_; refine wf ?_; refine wv fun _ _ => ?_; refine ws ?_; refine wt fun _ _ => ?_; refine ws ?_
      exact Ev.ret ⟨rfl, s', dp, T'⟩
    · cases ht
  · refine yj ?_; refine ws ?_; refine wt fun _ _ => ?_; refine ws ?_
    simp only [show u.kind = 0 from e1, if_true, Option.some.injEq, Prod.mk.injEq] at ht
    obtain ⟨rfl, rfl⟩ := ht
    exact Ev.ret ⟨rfl, s, dp, T⟩

theorem failS_toks (st : PSt) (t : Tok) (e : Int) : (failS st t e).toks = st.toks := by
  unfold failS; split <;> rfl

theorem need_ok (S : Sy I A [PS p s st] L h) (T : TS' I s st.toks) {kind : Int} {text : List Nat} {t : Tok} {st' : PSt} (ht : needS st kind text = some (t, st')) :
    Ev (fun n => shD n 51 [.p p 0, .i .i64 kind, .s text] h) (fun v h' => v = .a (tc t) ∧ ∃ s', Sy I A [PS p s' st'] L h' ∧ TS' I s' st'.toks) := by
  unfold needS at ht
  obtain ⟨c, hc, ht⟩ := Option.bind_eq_some_iff.1 ht
  refine Ev.enter (fun n => enter51 n _ _ _ h) ?_
  unfold s51
  refine wa fun _ _ _ => ?_
  refine Ev.call (is_ok (by assumption) T hc) ?_
  rintro _ _ ⟨rfl, S1⟩
  cases c with
  | true =>
    refine an ?_; refine yj ?_
    refine Ev.call (take_ok (by assumption) T ht) ?_
    rintro _ _ ⟨rfl, s', S2, T2⟩
    refine wt fun _ _ => ?_; refine ws ?_
    exact Ev.ret ⟨rfl, s', dp, T2⟩
  | false =>
    refine ao ?_; refine yt ?_
    obtain ⟨u, hu, ht⟩ := Option.bind_eq_some_iff.1 (by simpa using ht)
    simp only [Option.some.injEq, Prod.mk.injEq] at ht
    obtain ⟨rfl, rfl⟩ := ht
    refine Ev.call (look_ok (k := 0) (by assumption) T hu) ?_
    rintro _ _ ⟨rfl, S2⟩
    refine Ev.call (fail_ok (by assumption) T.2.one u _) ?_
    rintro _ _ ⟨rfl, S3⟩
    refine wd ?_; refine wt fun _ _ => ?_; refine ws ?_
    exact Ev.ret ⟨rfl, s, dp, by rw [failS_toks]; exact T⟩

theorem name_ok (S : Sy I A [PS p s st] L h) (T : TS' I s st.toks) {kind : Int} {x : DV} {len : Nat} (hl : ∀ h, pLen x h = some (.i .i64 (len : Int), h)) {t : List Nat} {st' : PSt} (ht : nameS st kind len = some (t, st')) :
    Ev (fun n => shD n 82 [.p p 0, .i .i64 kind, x] h) (fun v h' => v = .s t ∧ ∃ s', Sy I A [PS p s' st'] L h' ∧ TS' I s' st'.toks) := by
  unfold nameS at ht
  obtain ⟨⟨u, st1⟩, hu, ht⟩ := Option.bind_eq_some_iff.1 ht
  simp only [Option.some.injEq, Prod.mk.injEq] at ht
  obtain ⟨rfl, rfl⟩ := ht
  refine Ev.enter (fun n => enter82 n _ _ _ h) ?_
  unfold s82 s82a1
  refine Ev.call (need_ok S T hu) ?_
  rintro _ _ ⟨rfl, s', S1, T1⟩
  unfold s82a2
  refine wa fun _ _ _ => ?_; refine wt fun _ _ => ?_
  refine Ev.op (hl _) ?_
  unfold s82a3
  refine Ev.ieq (fun e1 => ?_) (fun e1 => ?_)
  · refine yt ?_; refine ws ?_
    have e2 : len = 4 := by simp at e1; omega
    rw [if_pos e2]
    refine Ev.call (fail_ok (by assumption) T1.2.one u _) ?_
    rintro _ _ ⟨rfl, S3⟩
    refine wf ?_; refine wl ?_
    exact Ev.ret ⟨rfl, s', dp, by rw [failS_toks]; exact T1⟩
  · refine yj ?_; refine wf ?_; refine wl ?_
    have e2 : ¬ len = 4 := by simp at e1; omega
    rw [if_neg e2]
    exact Ev.ret ⟨rfl, s', dp, T1⟩

theorem neg_ok (S : Sy I A [PS p s st] L h) (T : TS' I s st.toks) {c : Bool} (hc : negS st = some c) :
    Ev (fun n => shD n 161 [.p p 0] h) (fun v h' => v = .b c ∧ Sy I A [PS p s st] L h') := by
  unfold negS at hc
  obtain ⟨t, ht, hc⟩ := Option.bind_eq_some_iff.1 hc
  obtain ⟨d, hd, hc⟩ := Option.bind_eq_some_iff.1 hc
  obtain ⟨u, hu, hc⟩ := Option.bind_eq_some_iff.1 hc
  simp only [Option.some.injEq] at hc
  refine Ev.enter (fun n => enter161 n _ h) ?_
  unfold s161
  refine Ev.call (look_ok (k := 1) S T ht) ?_
  rintro _ _ ⟨rfl, S1⟩
  refine wa fun _ _ _ => ?_; refine wt fun _ _ => ?_
  refine Ev.call (is_ok (by assumption) T hd) ?_
  rintro _ _ ⟨rfl, S2⟩
  cases d with
  | false =>
    refine yf ?_; refine yf ?_; refine yf ?_; refine aq ?_; refine yf ?_; refine yf ?_; refine yf ?_; refine yf ?_
    refine Ev.cnd rfl ?_
    refine yf ?_; refine yf ?_; refine yf ?_; refine aq ?_
    exact Ev.ret ⟨by rw [← hc]; rfl, dp⟩
  | true =>
    refine zt ?_; refine wf ?_; refine zt ?_; refine wl ?_; refine zt ?_
    refine Ev.ieq (fun e1 => ?_) (fun e1 => ?_)
    · refine ap ?_; refine zt ?_; refine wf ?_; refine zt ?_; refine wl ?_; refine zt ?_; refine wm ?_; refine zt ?_
      refine Ev.call (look_ok (k := 0) (by assumption) T hu) ?_
      rintro _ _ ⟨rfl, S3⟩
      refine Ev.cnd ?_ ?_
      · rw [Bool.and_true]
        exact same1 (S := S3) (List.Mem.head _) rfl rfl (by simp [DV.beq])
      refine zt ?_; refine wp ?_; refine zt ?_
      refine Ev.iadd ?_
      refine zt ?_
      refine Ev.ieq (fun e2 => ?_) (fun e2 => ?_)
      · refine ap ?_
        exact Ev.ret ⟨by rw [← hc, decide_eq_true (show t.kind = 4 from e1), decide_eq_true (show t.pos = w64 (u.pos + 1) from e2)]; rfl, dp⟩
      · refine ap ?_
        exact Ev.ret ⟨by rw [← hc, decide_eq_true (show t.kind = 4 from e1), decide_eq_false (show ¬ t.pos = w64 (u.pos + 1) from e2)]; rfl, dp⟩
    · refine ap ?_; refine yf ?_; refine yf ?_; refine yf ?_; refine yf ?_
      refine Ev.cnd rfl ?_
      refine yf ?_; refine yf ?_; refine yf ?_; refine aq ?_
      exact Ev.ret ⟨by rw [← hc, decide_eq_false (show ¬ t.kind = 4 from e1)]; rfl, dp⟩

end
end Go.Dd

/- Dd, part T4: the program's parser: nodes, plain things, messages to one name, temporaries. -/
set_option linter.unusedVariables false
set_option linter.unusedSimpArgs false
set_option maxRecDepth 100000
namespace Go.Dd
open Go.Proofs

/-! ### Operations, more -/

theorem fill6 {c : List DV} (h : c.length = 6) : fillD [(.i .i64 (Int.ofNat 0)), (.s []), (.i .i64 (Int.ofNat 0)), .l0, .l0, .l0] [(0, 6, .a c)] = some c := by
  simp [fillD, cellsD, h]
theorem fill12 {c d : List DV} (h : c.length = 6) (h' : d.length = 6) : fillD [(.i .i64 (Int.ofNat 0)), (.s []), (.i .i64 (Int.ofNat 0)), .l0, .l0, .l0, (.i .i64 (Int.ofNat 0)), (.s []), (.i .i64 (Int.ofNat 0)), .l0, .l0, .l0] [(0, 6, .a c), (6, 6, .a d)] = some (c ++ d) := by
  have e : List.take 6 (c ++ [(.i .i64 (Int.ofNat 0)), (.s []), (.i .i64 (Int.ofNat 0)), .l0, .l0, .l0]) = c := by rw [← h, List.take_left]
  have e2 : List.drop 12 (c ++ [(DV.i .i64 (Int.ofNat 0)), (.s []), (.i .i64 (Int.ofNat 0)), .l0, .l0, .l0]) = [] := by simp [h]
  simp [fillD, cellsD, h, h']

section
variable {I : Im} {A Q L L' : Ls} {h : Hp} {k : Nat → DV → Hp → Res} {P : DV → Hp → Prop} {b : Pos} {cs : List DV} {n : Nat} {kd : Kind} {l : List DV}
theorem Ev.bsAt0 (S : Sy I A Q L h) {z : List DV} {ps : List (Nat × Nat × DV)} (r : Rpl b none (some (.row .ex cs)) L L') (e : fillD z ps = some cs)
    (H : ∀ h', Sy I A Q L' h' → Ev (fun m => k m (.l b 0 n n) h') P) : Ev (fun m => bnd (pBuildSliceAt (nthPos 0 b) z n ps h) (k m)) P := Ev.bsAt S r e H

theorem sameA (S : Sy I A Q L h) (m : (b, some (.row kd l)) ∈ L) (h1 : l.length = n) (h2 : ∀ v ∈ l, v.one = true) (hb : DV.beq (.a l) (.a l) = true) : sameR (pLoadA n (.p b 0) h) (.a l) = true := by
  rw [ldA (S.memL m) (take_all h1 h2)]; exact hb
end

/-! ### What it says -/

def zN : Node := .mk 0 [] 0 [] [] []
def sendN (t : List Nat) (ks : List Node) : Node := .mk 7 t 0 [] [] ks
def Node.kids : Node → List Node | .mk _ _ _ _ _ ks => ks
def Node.text : Node → List Nat | .mk _ t _ _ _ _ => t
def Node.kind : Node → Int | .mk k _ _ _ _ _ => k

def plainS (st : PSt) : Option ((Node × Bool) × PSt) :=
  (lookS st 0).bind fun t =>
    if st.err = 0 then (negS st).bind fun c =>
      if c then (takeS st).bind fun r => (takeS r.2).bind fun q => some ((.mk 1 [] (w64 (0 - q.1.num)) [] [] [], true), q.2)
      else if t.kind = 4 then (takeS st).bind fun r => some ((.mk 1 t.text t.num [] [] [], true), r.2)
      else if t.kind = 5 then (takeS st).bind fun r => some ((.mk 2 t.text t.num [] [] [], true), r.2)
      else if t.kind = 6 then (takeS st).bind fun r => some ((.mk 3 t.text t.num [] [] [], true), r.2)
      else some ((.mk 0 t.text t.num [] [] [], false), st)
    else some ((.mk 0 t.text t.num [] [] [], false), st)

def withinS (f : PSt → Option (Node × PSt)) (st : PSt) : Option (Node × PSt) :=
  (takeS st).bind fun r => if r.2.deep = 20 then some (zN, failS r.2 r.1 14)
    else (f { r.2 with deep := w64 (r.2.deep + 1) }).bind fun q => some (q.1, { q.2 with deep := w64 (q.2.deep - 1) })

def unaryS : Nat → Node → PSt → Option (Node × PSt)
  | 0, _, _ => none
  | f + 1, x, st => (isS st 1 []).bind fun c => if c then (takeS st).bind fun r => unaryS f (sendN r.1.text [x]) r.2 else some (x, st)

def tempsL : Nat → List (List Nat) → PSt → Option (List (List Nat) × PSt)
  | 0, _, _ => none
  | f + 1, l, st => (isS st 1 []).bind fun c => if c then (takeS st).bind fun r => tempsL f (l ++ [r.1.text]) r.2 else (needS st 10 [124]).bind fun r => some (l, r.2)
def tempsS (f : Nat) (st : PSt) : Option (List (List Nat) × PSt) :=
  (isS st 10 [124]).bind fun c => if c then (takeS st).bind fun r => tempsL f [] r.2 else some ([], st)

/-! ### The walks -/

/-- What a method that answers a node leaves. -/
def NPost (I : Im) (A L : Ls) (p : Pos) (x : Node) (st : PSt) (v : DV) (h : Hp) : Prop := ∃ J s cs, v = .a cs ∧ ILe I J ∧ Sy J A [PS p s st] L h ∧ TS' J s st.toks ∧ NV J x cs

theorem NPost.le {I J : Im} {A L : Ls} {p : Pos} {x : Node} {st : PSt} (g : ILe I J) : ∀ v h, NPost J A L p x st v h → NPost I A L p x st v h := by
  rintro v h ⟨K, s, cs, e, g', r⟩
  exact ⟨K, s, cs, e, g.trans g', r⟩

def NOk (g : FuncId) (f : PSt → Option (Node × PSt)) : Prop := ∀ (I : Im) (A L : Ls) (h : Hp) (p : Pos) (s : DV) (st : PSt) (x : Node) (st' : PSt), Sy I A [PS p s st] L h → TS' I s st.toks → f st = some (x, st') →
  Ev (fun n => shD n g [.p p 0] h) (NPost I A L p x st')

def NOk1 (g : FuncId) (f : Node → PSt → Option (Node × PSt)) : Prop := ∀ (I : Im) (A L : Ls) (h : Hp) (p : Pos) (s : DV) (st : PSt) (x y : Node) (cs : List DV) (st' : PSt), Sy I A [PS p s st] L h → TS' I s st.toks → NV I x cs → f x st = some (y, st') →
  Ev (fun n => shD n g [.p p 0, .a cs] h) (NPost I A L p y st')

theorem NS.nil (I : Im) : NS I .l0 [] := ⟨by simp, [], .inl ⟨.inl rfl, rfl, rfl⟩, rfl⟩
theorem SS.nil (I : Im) : SS I .l0 [] := ⟨by simp, .inl ⟨.inl rfl, rfl, rfl⟩⟩
theorem NV.of {I : Im} {k : Int} {t : List Nat} {m : Int} {s1 s2 s3 : DV} {ns ts : List (List Nat)} {ks : List Node} (h1 : SS I s1 ns) (h2 : SS I s2 ts) (h3 : NS I s3 ks) : NV I (.mk k t m ns ts ks) [.i .i64 k, .s t, .i .i64 m, s1, s2, s3] :=
  ⟨s1, s2, s3, rfl, h1, h2, h3.1, h3.2⟩
theorem NV.flat {I : Im} (k : Int) (t : List Nat) (m : Int) : NV I (.mk k t m [] [] []) [.i .i64 k, .s t, .i .i64 m, .l0, .l0, .l0] := NV.of (SS.nil I) (SS.nil I) (NS.nil I)
theorem NS.one {I : Im} {s : DV} {ks : List Node} (H : NS I s ks) : s.one = true := by
  obtain ⟨_, c, f, _⟩ := H; exact f.one
theorem NS.len {I : Im} {s : DV} {ks : List Node} (H : NS I s ks) (h : Hp) : pLen s h = some (.i .i64 (ks.length : Int), h) := by
  obtain ⟨_, c, f, _⟩ := H; exact f.len h

theorem enter149 (n : Nat) (x y : DV) (h : Hp) : shD (n + 1) 149 [x, y] h = s149 (shD n) n x y h := by kernel_rfl
theorem enter138 (n : Nat) (x : DV) (h : Hp) : shD (n + 1) 138 [x] h = s138 (shD n) n x h := by kernel_rfl
theorem enter155 (n : Nat) (x : DV) (h : Hp) : shD (n + 1) 155 [x] h = s155 (shD n) n x h := by kernel_rfl
theorem enter150 (n : Nat) (x : DV) (h : Hp) : shD (n + 1) 150 [x] h = s150 (shD n) n x h := by kernel_rfl
theorem enter151 (n : Nat) (x y : DV) (h : Hp) : shD (n + 1) 151 [x, y] h = s151 (shD n) n x y h := by kernel_rfl
theorem enter136 (n : Nat) (x y : DV) (h : Hp) : shD (n + 1) 136 [x, y] h = s136 (shD n) n x y h := by kernel_rfl
theorem enter49 (n : Nat) (x : DV) (h : Hp) : shD (n + 1) 49 [x] h = s49 (shD n) n x h := by kernel_rfl

theorem send_ok {I : Im} {A Q L : Ls} {h : Hp} (S : Sy I A Q L h) {t : List Nat} {x : DV} {ks : List Node} (N : NS I x ks) :
    Ev (fun n => shD n 149 [.s t, x] h) (fun v h' => ∃ cs, v = .a cs ∧ NV I (sendN t ks) cs ∧ Sy I A Q L h') := by
  have hx := N.one
  refine Ev.enter (fun n => enter149 n _ _ h) ?_
  unfold s149
  refine wa fun _ _ _ => ?_; refine wd ?_; refine wt fun _ _ => ?_; refine ws ?_
  exact Ev.ret ⟨_, rfl, NV.of (SS.nil I) (SS.nil I) N, dp⟩

section
variable {I : Im} {A L : Ls} {h : Hp} {p : Pos} {s : DV} {st : PSt}

theorem plain_ok (S : Sy I A [PS p s st] L h) (T : TS' I s st.toks) {x : Node} {c : Bool} {st' : PSt} (hm : plainS st = some ((x, c), st')) :
    Ev (fun n => shD n 150 [.p p 0] h) (fun v h' => ∃ s' cs, v = .t [.a cs, .b c] ∧ Sy I A [PS p s' st'] L h' ∧ TS' I s' st'.toks ∧ NV I x cs) := by
  unfold plainS at hm
  obtain ⟨t, ht, hm⟩ := Option.bind_eq_some_iff.1 hm
  refine Ev.enter (fun n => enter150 n _ h) ?_
  unfold s150 s150a1
  refine wa fun _ _ _ => ?_
  refine Ev.call (look_ok (k := 0) (by assumption) T ht) ?_
  rintro _ _ ⟨rfl, S1⟩
  unfold s150a2 s150a3 s150a4
  refine wa fun _ _ _ => ?_; refine wt fun _ _ => ?_; refine wf ?_; refine wl ?_; refine wf ?_; refine wl ?_; refine wd ?_; refine wa fun _ _ _ => ?_; refine wt fun _ _ => ?_; refine wn ?_; refine wf ?_; refine wq ?_
  refine Ev.ine (fun e1 => ?_) (fun e1 => ?_)
  · refine yt ?_; refine ws ?_; refine wt fun _ _ => ?_; refine ws ?_
    rw [if_neg (show ¬ st.err = 0 from e1)] at hm
    simp only [Option.some.injEq, Prod.mk.injEq] at hm
    obtain ⟨⟨rfl, rfl⟩, rfl⟩ := hm
    exact Ev.ret ⟨s, _, rfl, dp, T, NV.flat _ _ _⟩
  · refine yj ?_
    rw [if_pos (show st.err = 0 from e1)] at hm
    obtain ⟨d, hd, hm⟩ := Option.bind_eq_some_iff.1 hm
    refine Ev.call (neg_ok (by assumption) T hd) ?_
    rintro _ _ ⟨rfl, S2⟩
    cases d with
    | true =>
      refine yt ?_
      rw [if_pos rfl] at hm
      obtain ⟨⟨t1, st1⟩, ht1, hm⟩ := Option.bind_eq_some_iff.1 hm
      obtain ⟨⟨t2, st2⟩, ht2, hm⟩ := Option.bind_eq_some_iff.1 hm
      simp only [Option.some.injEq, Prod.mk.injEq] at hm
      obtain ⟨⟨rfl, rfl⟩, rfl⟩ := hm
      refine Ev.call (take_ok (by assumption) T ht1) ?_
      rintro _ _ ⟨rfl, s3, S3, T3⟩
      refine Ev.call (take_ok (by assumption) T3 ht2) ?_
      rintro _ _ ⟨rfl, s4, S4, T4⟩
      refine wp ?_
      refine Ev.neg ?_
      refine wd ?_; refine wt fun _ _ => ?_; refine ws ?_
      exact Ev.ret ⟨s4, _, rfl, dp, T4, NV.flat _ _ _⟩
    | false =>
      refine yj ?_; refine wf ?_; refine wl ?_
      rw [if_neg (by simp)] at hm
      refine Ev.ieq (fun e2 => ?_) (fun e2 => ?_)
      · refine yt ?_; refine wf ?_; refine wu fun _ _ => ?_
        rw [if_pos (show t.kind = 4 from e2)] at hm
        obtain ⟨⟨t1, st1⟩, ht1, hm⟩ := Option.bind_eq_some_iff.1 hm
        simp only [Option.some.injEq, Prod.mk.injEq] at hm
        obtain ⟨⟨rfl, rfl⟩, rfl⟩ := hm
        refine Ev.call (take_ok (by assumption) T ht1) ?_
        rintro _ _ ⟨rfl, s3, S3, T3⟩
        refine ws ?_; refine wt fun _ _ => ?_; refine ws ?_
        exact Ev.ret ⟨s3, _, rfl, dp, T3, NV.flat _ _ _⟩
      · refine yj ?_; refine wf ?_; refine wl ?_
        rw [if_neg (show ¬ t.kind = 4 from e2)] at hm
        refine Ev.ieq (fun e3 => ?_) (fun e3 => ?_)
        · refine yt ?_; refine wf ?_; refine wu fun _ _ => ?_
          rw [if_pos (show t.kind = 5 from e3)] at hm
          obtain ⟨⟨t1, st1⟩, ht1, hm⟩ := Option.bind_eq_some_iff.1 hm
          simp only [Option.some.injEq, Prod.mk.injEq] at hm
          obtain ⟨⟨rfl, rfl⟩, rfl⟩ := hm
          refine Ev.call (take_ok (by assumption) T ht1) ?_
          rintro _ _ ⟨rfl, s3, S3, T3⟩
          refine ws ?_; refine wt fun _ _ => ?_; refine ws ?_
          exact Ev.ret ⟨s3, _, rfl, dp, T3, NV.flat _ _ _⟩
        · refine yj ?_; refine wf ?_; refine wl ?_
          rw [if_neg (show ¬ t.kind = 5 from e3)] at hm
          refine Ev.ieq (fun e4 => ?_) (fun e4 => ?_)
          · refine yt ?_; refine wf ?_; refine wu fun _ _ => ?_
            rw [if_pos (show t.kind = 6 from e4)] at hm
            obtain ⟨⟨t1, st1⟩, ht1, hm⟩ := Option.bind_eq_some_iff.1 hm
            simp only [Option.some.injEq, Prod.mk.injEq] at hm
            obtain ⟨⟨rfl, rfl⟩, rfl⟩ := hm
            refine Ev.call (take_ok (by assumption) T ht1) ?_
            rintro _ _ ⟨rfl, s3, S3, T3⟩
            refine ws ?_; refine wt fun _ _ => ?_; refine ws ?_
            exact Ev.ret ⟨s3, _, rfl, dp, T3, NV.flat _ _ _⟩
          · refine yj ?_; refine ws ?_; refine wt fun _ _ => ?_; refine ws ?_
            rw [if_neg (show ¬ t.kind = 6 from e4)] at hm
            simp only [Option.some.injEq, Prod.mk.injEq] at hm
            obtain ⟨⟨rfl, rfl⟩, rfl⟩ := hm
            exact Ev.ret ⟨s, _, rfl, dp, T, NV.flat _ _ _⟩

theorem within_ok {g : FuncId} {f : PSt → Option (Node × PSt)} (hg : ∀ (rec : FuncId → List DV → Hp → Res) (x : DV) (h : Hp), pCall CF rec (.f g [x] []) [] h = rec g [x] h) (F : NOk g f) (S : Sy I A [PS p s st] L h) (T : TS' I s st.toks) {x : Node} {st' : PSt} (hm : withinS f st = some (x, st')) :
    Ev (fun n => shD n 151 [.p p 0, .f g [.p p 0] []] h) (NPost I A L p x st') := by
  unfold withinS at hm
  obtain ⟨⟨t, st1⟩, ht, hm⟩ := Option.bind_eq_some_iff.1 hm
  refine Ev.enter (fun n => enter151 n _ _ h) ?_
  unfold s151
  simp only [hg]
  refine wa fun _ _ _ => ?_
  refine Ev.call (take_ok (by assumption) T ht) ?_
  rintro _ _ ⟨rfl, s1, S1, T1⟩
  have hs1 := T1.2.one
  refine wa fun _ _ _ => ?_; refine wt fun _ _ => ?_; refine wn ?_; refine wf ?_; refine wq ?_
  refine Ev.ieq (fun e1 => ?_) (fun e1 => ?_)
  · refine yt ?_; refine ws ?_
    rw [if_pos (show st1.deep = 20 from e1)] at hm
    simp only [Option.some.injEq, Prod.mk.injEq] at hm
    obtain ⟨rfl, rfl⟩ := hm
    refine Ev.call (fail_ok (by assumption) T1.2.one t _) ?_
    rintro _ _ ⟨rfl, S3⟩
    refine wd ?_; refine wt fun _ _ => ?_; refine ws ?_
    exact Ev.ret ⟨I, s1, _, rfl, ILe.refl _, dp, by rw [failS_toks]; exact T1, NV.flat _ _ _⟩
  · refine yj ?_; refine wn ?_; refine wf ?_; refine wq ?_
    rw [if_neg (show ¬ st1.deep = 20 from e1)] at hm
    obtain ⟨⟨y, st2⟩, hy, hm⟩ := Option.bind_eq_some_iff.1 hm
    simp only [Option.some.injEq, Prod.mk.injEq] at hm
    obtain ⟨rfl, rfl⟩ := hm
    refine Ev.iadd ?_
    refine wn ?_; refine wf ?_; refine wv fun _ _ => ?_
    refine Ev.call (F I A _ _ p s1 { st1 with deep := w64 (st1.deep + 1) } _ _ (by assumption) T1 hy) ?_
    rintro _ _ ⟨J, s2, cs, rfl, g2, S2, T2, N2⟩
    obtain ⟨l2, o2, b2⟩ := N2.shape
    have hs2 := T2.2.one
    refine wa fun _ _ _ => ?_; refine wt fun _ _ => ?_; refine wn ?_; refine wf ?_; refine wq ?_
    refine Ev.isub ?_
    refine wn ?_; refine wf ?_; refine wv fun _ _ => ?_; refine ws ?_; refine wt fun _ _ => ?_; refine ws ?_
    exact Ev.ret ⟨J, s2, cs, rfl, g2, dp, T2, N2⟩

theorem unary_loop : ∀ (f j : Nat) (I : Im) (A L : Ls) (h : Hp) (p : Pos) (s : DV) (st : PSt) (x y : Node) (cs z : List DV) (st' : PSt) (b3 b4 : Pos), Sy I A [PS p s st] ((b4, some (.row .ex z)) :: (b3, some (.row .ex cs)) :: L) h →
    z.length = 6 → (∀ v ∈ z, v.one = true) → TS' I s st.toks → NV I x cs → unaryS f x st = some (y, st') → Ev (fun n => s136a3l (shD n) n (n - j) (.p p 0) (.p b3 0) (.p b4 0) h) (NPost I A L p y st')
  | 0, j, I, A, L, h, p, s, st, x, y, cs, z, st', b3, b4, S, z1, z2, T, N, hm => by cases hm
  | f + 1, j, I, A, L, h, p, s, st, x, y, cs, z, st', b3, b4, S, z1, z2, T, N, hm => by
    unfold unaryS at hm
    obtain ⟨c, hc, hm⟩ := Option.bind_eq_some_iff.1 hm
    refine Ev.loop j (ll := fun n m => s136a3l (shD n) n m (.p p 0) (.p b3 0) (.p b4 0) h) (bb := fun n m => s136a3b (shD n) n (s136a3l (shD n) n m) (.p p 0) (.p b3 0) (.p b4 0) h) (fun _ _ => rfl) ?_
    unfold s136a3b s136a2
    obtain ⟨l1, o1, b1⟩ := N.shape
    refine Ev.call (is_ok S T hc) ?_
    rintro _ _ ⟨rfl, S1⟩
    cases c with
    | false =>
      refine yj ?_; refine ws ?_; refine wt fun _ _ => ?_; refine ws ?_
      rw [if_neg (by simp)] at hm
      simp only [Option.some.injEq, Prod.mk.injEq] at hm
      obtain ⟨rfl, rfl⟩ := hm
      exact Ev.ret ⟨I, s, cs, rfl, ILe.refl _, dp, T, N⟩
    | true =>
      refine yt ?_
      rw [if_pos rfl] at hm
      obtain ⟨⟨t, st1⟩, ht, hm⟩ := Option.bind_eq_some_iff.1 hm
      have Sr := S1.res
      refine Ev.call (take_ok Sr T ht) ?_
      rintro _ _ ⟨rfl, s2, S2, T2⟩
      refine wp ?_; refine ws ?_
      refine Ev.cnd ?_ ?_
      · rw [Bool.and_true]; exact sameA Sr (by first | exact List.Mem.head _ | exact (List.Mem.tail _ (List.Mem.head _)) | exact (List.Mem.tail _ (List.Mem.tail _ (List.Mem.head _))) | exact (List.Mem.tail _ (List.Mem.tail _ (List.Mem.tail _ (List.Mem.head _)))) | exact (List.Mem.tail _ (List.Mem.tail _ (List.Mem.tail _ (List.Mem.tail _ (List.Mem.head _))))) | exact (List.Mem.tail _ (List.Mem.tail _ (List.Mem.tail _ (List.Mem.tail _ (List.Mem.tail _ (List.Mem.head _)))))) | exact (List.Mem.tail _ (List.Mem.tail _ (List.Mem.tail _ (List.Mem.tail _ (List.Mem.tail _ (List.Mem.tail _ (List.Mem.head _))))))) | exact (List.Mem.tail _ (List.Mem.tail _ (List.Mem.tail _ (List.Mem.tail _ (List.Mem.tail _ (List.Mem.tail _ (List.Mem.tail _ (List.Mem.head _)))))))) | exact (List.Mem.tail _ (List.Mem.tail _ (List.Mem.tail _ (List.Mem.tail _ (List.Mem.tail _ (List.Mem.tail _ (List.Mem.tail _ (List.Mem.tail _ (List.Mem.head _)))))))))) l1 o1 b1
      refine Ev.bsAt0 S2 (by first | exact Rpl.head _ | exact (Rpl.tail _ (Rpl.head _)) | exact (Rpl.tail _ (Rpl.tail _ (Rpl.head _))) | exact (Rpl.tail _ (Rpl.tail _ (Rpl.tail _ (Rpl.head _)))) | exact (Rpl.tail _ (Rpl.tail _ (Rpl.tail _ (Rpl.tail _ (Rpl.head _))))) | exact (Rpl.tail _ (Rpl.tail _ (Rpl.tail _ (Rpl.tail _ (Rpl.tail _ (Rpl.head _)))))) | exact (Rpl.tail _ (Rpl.tail _ (Rpl.tail _ (Rpl.tail _ (Rpl.tail _ (Rpl.tail _ (Rpl.head _))))))) | exact (Rpl.tail _ (Rpl.tail _ (Rpl.tail _ (Rpl.tail _ (Rpl.tail _ (Rpl.tail _ (Rpl.tail _ (Rpl.head _)))))))) | exact (Rpl.tail _ (Rpl.tail _ (Rpl.tail _ (Rpl.tail _ (Rpl.tail _ (Rpl.tail _ (Rpl.tail _ (Rpl.tail _ (Rpl.head _)))))))))) (fill6 l1) ?_
      intro h3 S3
      obtain ⟨J, gJ, S4, F4, _⟩ := Fz.built (sz := 6) (n := 1) S3 (by omega) o1
      have N4 : NS J _ [x] := ⟨by simp [lim], cs, F4, NVL.single (N.mono gJ)⟩
      refine Ev.call (send_ok S4 N4) ?_
      rintro _ _ ⟨cs5, rfl, N5, S5⟩
      obtain ⟨l5, o5, b5⟩ := N5.shape
      refine wt fun _ _ => ?_
      exact (unary_loop f (j + 1) J A L _ p s2 st1 _ y cs5 z st' b3 b4 (by assumption) z1 z2 (T2.mono gJ) N5 hm).mono (NPost.le gJ)

theorem unary_ok (f : Nat) : NOk1 136 (unaryS f) := by
  intro I A L h p s st x y cs st' S T N hm
  refine Ev.enter (fun n => enter136 n _ _ h) ?_
  unfold s136 s136a1 s136a3
  refine wb fun _ _ _ => ?_; refine wa fun _ _ _ => ?_
  exact unary_loop f 0 _ _ _ _ _ _ _ _ _ _ _ _ _ _ (by assumption) rfl (by first | assumption | exact tc_ones _ | (repeat (first | exact ones_nil | refine ones_cons (by first | rfl | assumption | exact Fz.one (by assumption)) ?_))) T N hm

theorem temps_loop : ∀ (f j : Nat) (I : Im) (B A L : Ls) (h : Hp) (p : Pos) (s x : DV) (st : PSt) (l l' : List (List Nat)) (st' : PSt), Sy I (B ++ A) [PS p s st] L h → Gr I 1 B x l.length (l.map .s) → l.length + f ≤ lim →
    TS' I s st.toks → tempsL f l st = some (l', st') →
    Ev (fun n => s49a6l (shD n) n (n - j) (.p p 0) x h) (fun v h' => ∃ J s', ILe I J ∧ Sy J A [PS p s' st'] L h' ∧ TS' J s' st'.toks ∧ SS J v l')
  | 0, j, I, B, A, L, h, p, s, x, st, l, l', st', S, G, hl, T, hm => by cases hm
  | f + 1, j, I, B, A, L, h, p, s, x, st, l, l', st', S, G, hl, T, hm => by
    unfold tempsL at hm
    obtain ⟨c, hc, hm⟩ := Option.bind_eq_some_iff.1 hm
    refine Ev.loop j (ll := fun n m => s49a6l (shD n) n m (.p p 0) x h) (bb := fun n m => s49a6b (shD n) n (s49a6l (shD n) n m) (.p p 0) x h) (fun _ _ => rfl) ?_
    unfold s49a6b s49a5
    refine Ev.call (is_ok S T hc) ?_
    rintro _ _ ⟨rfl, S1⟩
    cases c with
    | false =>
      refine yj ?_
      rw [if_neg (by simp)] at hm
      obtain ⟨⟨t, st1⟩, ht, hm⟩ := Option.bind_eq_some_iff.1 hm
      simp only [Option.some.injEq, Prod.mk.injEq] at hm
      obtain ⟨rfl, rfl⟩ := hm
      refine Ev.call (need_ok S1 T ht) ?_
      rintro _ _ ⟨rfl, s2, S2, T2⟩
      obtain ⟨J, gJ, S3, F3⟩ := G.freeze S2
      exact Ev.ret ⟨J, s2, gJ, S3, T2.mono gJ, by omega, F3⟩
    | true =>
      refine yt ?_
      rw [if_pos rfl] at hm
      obtain ⟨⟨t, st1⟩, ht, hm⟩ := Option.bind_eq_some_iff.1 hm
      refine Ev.call (take_ok S1 T ht) ?_
      rintro _ _ ⟨rfl, s2, S2, T2⟩
      refine wp ?_
      refine Ev.bs S2 (cs := [.s t.text]) rfl ?_
      intro b3 h3 S3
      have hr : (l.length + 1) * 16 ≤ roomD := by simp [roomD, lim] at hl ⊢; omega
      obtain ⟨x4, h4, B4, e4, S4, G4⟩ := G.app S3 (src_own S3 (n := 1) (List.Mem.head _) rfl (ones_cons rfl ones_nil)) rfl (ones_cons rfl ones_nil) (by omega) hr
      refine Ev.op e4 ?_
      refine temps_loop f (j + 1) I B4 A L h4 p s2 x4 st1 (l ++ [t.text]) l' st' (dp) ?_ (by simp; omega) T2 hm
      simpa using G4

theorem temps_ok (f : Nat) (hf : f ≤ lim) (S : Sy I A [PS p s st] L h) (T : TS' I s st.toks) {l' : List (List Nat)} {st' : PSt} (hm : tempsS f st = some (l', st')) :
    Ev (fun n => shD n 49 [.p p 0] h) (fun v h' => ∃ J s', ILe I J ∧ Sy J A [PS p s' st'] L h' ∧ TS' J s' st'.toks ∧ SS J v l') := by
  unfold tempsS at hm
  obtain ⟨c, hc, hm⟩ := Option.bind_eq_some_iff.1 hm
  refine Ev.enter (fun n => enter49 n _ h) ?_
  unfold s49 s49a1 s49a2
  refine Ev.call (is_ok S T hc) ?_
  rintro _ _ ⟨rfl, S1⟩
  cases c with
  | false =>
    refine ao ?_; refine yt ?_
    rw [if_neg (by simp)] at hm
    simp only [Option.some.injEq, Prod.mk.injEq] at hm
    obtain ⟨rfl, rfl⟩ := hm
    exact Ev.ret ⟨I, s, ILe.refl _, S1, T, SS.nil I⟩
  | true =>
    refine an ?_; refine yj ?_
    rw [if_pos rfl] at hm
    obtain ⟨⟨t, st1⟩, ht, hm⟩ := Option.bind_eq_some_iff.1 hm
    unfold s49a3 s49a4 s49a6
    refine Ev.call (take_ok S1 T ht) ?_
    rintro _ _ ⟨rfl, s2, S2, T2⟩
    exact temps_loop f 0 I [] A L _ p s2 .l0 st1 [] l' st' S2 (Gr.nil I 1) (by simpa using hf) T2 hm

end
end Go.Dd

/- Dd, part T5: the program's parser: expressions, blocks, statements. -/
set_option linter.unusedVariables false
set_option linter.unusedSimpArgs false
set_option maxRecDepth 100000
namespace Go.Dd
open Go.Proofs

/-! ### What it says -/
abbrev PF := PSt → Option (Node × PSt)

def innerS (E : PF) : PF := fun st => (E st).bind fun r => (needS r.2 10 [41]).bind fun q => some (r.1, q.2)

def litsL (LI : PF) : Nat → List Node → PSt → Option (List Node × PSt)
  | 0, _, _ => none
  | f + 1, xs, st => if st.err = 0 then (isS st 10 [41]).bind fun c => if c then some (xs, st) else
      (plainS st).bind fun r => if r.1.2 then litsL LI f (xs ++ [r.1.1]) r.2 else
        (isS r.2 7 []).bind fun c1 => (if c1 then some true else isS r.2 10 [40]).bind fun c2 =>
          if c2 then (withinS LI r.2).bind fun q => litsL LI f (xs ++ [q.1]) q.2 else (lookS r.2 0).bind fun t => litsL LI f (xs ++ [r.1.1]) (failS r.2 t 13)
    else some (xs, st)
def literalsS (LI : PF) (f : Nat) : PF := fun st => (litsL LI f [] st).bind fun r => (takeS r.2).bind fun q => some (.mk 4 [] 0 [] [] r.1, q.2)

def paramsL : Nat → List (List Nat) → PSt → Option (List (List Nat) × PSt)
  | 0, _, _ => none
  | f + 1, l, st => (isS st 8 []).bind fun c => if c then (nameS st 8 l.length).bind fun r => paramsL f (l ++ [r.1]) r.2 else some (l, st)

def stmtsL (E : PF) : Nat → List Node → PSt → Option (List Node × PSt)
  | 0, _, _ => none
  | f + 1, xs, st => if st.err = 0 then (isS st 0 []).bind fun c => if c then some (xs, st) else (isS st 10 [93]).bind fun c => if c then some (xs, st) else
      (isS st 10 [94]).bind fun c =>
        if c then (takeS st).bind fun r => (E r.2).bind fun q => (isS q.2 10 [46]).bind fun d => if d then (takeS q.2).bind fun u => some (xs ++ [.mk 10 [] 0 [] [] [q.1]], u.2) else some (xs ++ [.mk 10 [] 0 [] [] [q.1]], q.2)
        else (E st).bind fun q => (isS q.2 10 [46]).bind fun d => if d then (takeS q.2).bind fun u => stmtsL E f (xs ++ [q.1]) u.2 else some (xs ++ [q.1], q.2)
    else some (xs, st)

def bar (l : List (List Nat)) (st : PSt) : Option PSt :=
  if 0 < l.length then (isS st 10 [93]).bind fun c => if c then some st else (needS st 10 [124]).bind fun r => some r.2 else some st
def blockS (E : PF) (f : Nat) : PF := fun st => (paramsL f [] st).bind fun r => (bar r.1 r.2).bind fun st2 => (tempsS f st2).bind fun q => (stmtsL E f [] q.2).bind fun u => (needS u.2 10 [93]).bind fun w => some (.mk 9 [] 0 r.1 q.1 u.1, w.2)

def primaryS (LI E : PF) (f : Nat) : PF := fun st => (plainS st).bind fun r => if r.1.2 then some (r.1.1, r.2) else (lookS r.2 0).bind fun t =>
  if r.2.err = 0 then
    if t.kind = 1 then (takeS r.2).bind fun q => some (.mk 5 q.1.text 0 [] [] [], q.2)
    else if t.kind = 7 then withinS LI r.2
    else (isS r.2 10 [40]).bind fun c => if c then withinS (innerS E) r.2 else (isS r.2 10 [91]).bind fun c => if c then withinS (blockS E f) r.2 else some (zN, failS r.2 t 13)
  else some (zN, r.2)

def binaryL (P : PF) (g : Nat) : Nat → Node → PSt → Option (Node × PSt)
  | 0, _, _ => none
  | f + 1, x, st => (isS st 3 []).bind fun c => if c then (takeS st).bind fun r => (P r.2).bind fun q => (unaryS g q.1 q.2).bind fun u => binaryL P g f (sendN r.1.text [x, u.1]) u.2 else some (x, st)

def keysL (P : PF) (g : Nat) : Nat → List Nat → List Node → PSt → Option (Node × PSt)
  | 0, _, _, _ => none
  | f + 1, t, ks, st => (isS st 2 []).bind fun c => if c then (takeS st).bind fun r => if t.length + r.1.text.length ≤ lim then
      (P r.2).bind fun q => (unaryS g q.1 q.2).bind fun u => (binaryL P g g u.1 u.2).bind fun w => keysL P g f (t ++ r.1.text) (ks ++ [w.1]) w.2 else none
    else some (sendN t ks, st)
def keysS (P : PF) (g : Nat) : Node → PF := fun x st => (isS st 2 []).bind fun c => if c then keysL P g g [] [x] st else some (x, st)

def msgN (x : Node) : Node := if x.kids.length = 0 then x else sendN x.text (x.kids.drop 1)
def msgS (P : PF) (g : Nat) : PF := fun st => (lookS st 0).bind fun t =>
  if t.kind = 1 then (takeS st).bind fun r => some (sendN t.text [zN], r.2)
  else if t.kind = 3 then (takeS st).bind fun r => (P r.2).bind fun q => (unaryS g q.1 q.2).bind fun u => some (sendN t.text [zN, u.1], u.2)
  else if t.kind = 2 then keysS P g zN st
  else some (zN, failS st t 13)

def casL (P : PF) (g : Nat) : Nat → List Node → PSt → Option (Node × PSt)
  | 0, _, _ => none
  | f + 1, ks, st => (isS st 10 [59]).bind fun c => if c then (takeS st).bind fun r => (msgS P g r.2).bind fun q => casL P g f (ks ++ [msgN q.1]) q.2 else some (.mk 8 [] 0 [] [] ks, st)
def cascadeS (P : PF) (g : Nat) : PF := fun st => (P st).bind fun q => (unaryS g q.1 q.2).bind fun u => (binaryL P g g u.1 u.2).bind fun w => (keysS P g w.1 w.2).bind fun n =>
  (isS n.2 10 [59]).bind fun c => if c then
      if n.1.kind = 7 then (n.1.kids[0]?).bind fun k0 => casL P g g [k0, msgN n.1] n.2
      else (lookS n.2 0).bind fun t => some (n.1, failS n.2 t 13)
    else some n
def exprS (P E : PF) (g : Nat) : PF := fun st => (isS st 1 []).bind fun c => (if c then (lookS st 1).bind fun t => some (decide (t.kind = 9)) else some false).bind fun d =>
  if d then (takeS st).bind fun r => (takeS r.2).bind fun q => (E q.2).bind fun u => some (.mk 6 r.1.text 0 [] [] [u.1], u.2) else cascadeS P g st

def litF : Nat → PF
  | 0 => fun _ => none
  | f + 1 => literalsS (litF f) f
def exprF : Nat → PF
  | 0 => fun _ => none
  | f + 1 => exprS (primaryS (litF f) (exprF f) f) (exprF f) f

/-! ### Slices of nodes -/

theorem NVL.at {I : Im} : ∀ {l : List Node} {c : List DV} {i : Nat} {x : Node}, NVL I l c → l[i]? = some x → ∃ d rest, c.drop (i * 6) = d ++ rest ∧ NV I x d := by
  intro l c i x H hi
  have := H.drop i
  rw [drop_cons hi] at this
  obtain ⟨d, rest, e, N, _⟩ := this
  exact ⟨d, rest, e, N⟩

theorem NS.at {I : Im} {s : DV} {ks : List Node} (H : NS I s ks) {i : Nat} {x : Node} (hi : ks[i]? = some x) :
    ∃ b o c, (∀ h', pIndexAddr 6 s (.i .i64 (i : Int)) h' = some (.p b o, h')) ∧ NV I x c ∧ ∀ (J : Im) (A Q L : Ls) (h : Hp), ILe I J → Sy J A Q L h → pLoadA 6 (.p b o) h = some (.a c, h) := by
  obtain ⟨_, cells, F, N⟩ := H
  obtain ⟨hlt, _⟩ := List.getElem?_eq_some_iff.1 hi
  obtain ⟨d, rest, e, Nd⟩ := N.at hi
  rcases F with ⟨_, h2, _⟩ | ⟨b, o, cap, k, row, rest2, rfl, h2, h3, h4, h5, h6⟩
  · omega
  · refine ⟨b, o + i * 6, d, fun h' => ?_, Nd, fun J A Q L h g S => ldA (S.im _ _ (g _ _ h3)) ?_⟩
    · show (if 0 ≤ (i : Int) ∧ (i : Int) < (ks.length : Int) then some (DV.p b (o + (i : Int).toNat * 6), h') else none) = _
      rw [if_pos ⟨by omega, by omega⟩]
      rfl
    · have hle : i * 6 ≤ cells.length := by rw [h5]; exact Nat.mul_le_mul_right _ (by omega)
      rw [← List.drop_drop, h4, List.drop_append_of_le_length hle, e, List.append_assoc]
      obtain ⟨s1, s2, _⟩ := Nd.shape
      exact takeD_app2 d _ 6 s1 s2

/-- The rest of a slice, which may be nothing. -/
theorem Fz.rest {I : Im} {sz : Nat} {s : DV} {len : Nat} {cells : List DV} (H : Fz I sz s len cells) {A Q L : Ls} {h : Hp} (S : Sy I A Q L h) {i : Nat} (hi : i ≤ len) (h0 : 0 < len) :
    ∃ s' h' J, pSlice sz s (some (.i .i64 (Int.ofNat i))) none h = some (s', h') ∧ ILe I J ∧ Sy J A Q L h' ∧ Fz J sz s' (len - i) (cells.drop (i * sz)) ∧ s' ≠ .l0 := by
  rcases H with ⟨_, rfl, _⟩ | ⟨b, o, cap, k, row, rest, rfl, h2, h3, h4, h5, h6⟩
  · omega
  · have hle : i * sz ≤ cells.length := by rw [h5]; exact Nat.mul_le_mul_right _ (by omega)
    have hd : row.drop (o + i * sz) = cells.drop (i * sz) ++ rest := by
      rw [← List.drop_drop, h4, List.drop_append_of_le_length hle]
    have e1 : hiD none len cap = some len := by simp [hiD, h2]
    have e2 : loD (some (.i .i64 (Int.ofNat i))) len = some i := by
      show (if 0 ≤ (Int.ofNat i) ∧ (Int.ofNat i) ≤ (len : Int) then some (Int.ofNat i).toNat else none) = _
      have hi' : (Int.ofNat i) = (i : Int) := rfl
      rw [if_pos ⟨by omega, by omega⟩]
      rfl
    have hlen : (cells.drop (i * sz)).length = (len - i) * sz := by rw [List.length_drop, h5, Nat.sub_mul]
    by_cases hc : cap = i
    · have hz : len - i = 0 := by omega
      have hnil : cells.drop (i * sz) = [] := List.eq_nil_of_length_eq_zero (by rw [hlen, hz]; simp)
      have hg := S.im _ _ h3
      have other : (k = .ro ∨ k = .ex) → pSlice sz (.l b o len cap) (some (.i .i64 (Int.ofNat i))) none h = some (.l b o (len - i) (cap - i), h) := fun hk => by
        unfold pSlice
        simp only [e1, e2, hg]
        rcases hk with rfl | rfl <;> simp [hc]
      have grow : (k ≠ .ro ∧ k ≠ .ex) → pSlice sz (.l b o len cap) (some (.i .i64 (Int.ofNat i))) none h = some (.le, h) := fun hk => by
        unfold pSlice
        simp only [e1, e2, hg]
        cases k with
        | ro => exact absurd rfl hk.1
        | ex => exact absurd rfl hk.2
        | gr es => simp [hc]
        | sp => simp [hc]
      by_cases hk : k = .ro ∨ k = .ex
      · refine ⟨_, _, I, other hk, ILe.refl _, S, .inr ⟨b, o, cap - i, k, row, row.drop o, rfl, by omega, h3, ?_, hlen, fun v hv => h6 v (List.mem_of_mem_drop hv)⟩, by simp⟩
        rw [hnil]; rfl
      · refine ⟨_, _, I, grow ⟨fun e => hk (.inl e), fun e => hk (.inr e)⟩, ILe.refl _, S, ?_, by simp⟩
        rw [hz, hnil]
        exact .inl ⟨.inr rfl, rfl, rfl⟩
    · refine ⟨.l b (o + i * sz) (len - i) (cap - i), h, I, ?_, ILe.refl _, S, .inr ⟨b, o + i * sz, cap - i, k, row, rest, rfl, by omega, h3, hd, hlen, fun v hv => h6 v (List.mem_of_mem_drop hv)⟩, by simp⟩
      unfold pSlice
      simp only [e1, e2, S.im _ _ h3]
      cases k <;> simp [hc]

/-- A slice copied. -/
theorem clone_ok {I : Im} {A Q L : Ls} {h : Hp} (S : Sy I A Q L h) {x : DV} {ks : List Node} (N : NS I x ks) :
    Ev (fun n => shD n 155 [x] h) (fun v h' => ∃ J, ILe I J ∧ Sy J A Q L h' ∧ NS J v ks) := by
  refine Ev.enter (fun n => enter155 n _ h) ?_
  unfold s155
  have N0 := N
  obtain ⟨hl, cells, F, NL⟩ := N
  have F0 := F
  rcases F with ⟨rfl | rfl, h2, hc⟩ | ⟨b, o, cap, k, row, rest, rfl, _⟩
  · refine Ev.op (show pEq (.slice 25) true .l0 .l0 h = some (.b true, h) from rfl) ?_
    refine yt ?_
    exact Ev.ret ⟨I, ILe.refl _, S, N0⟩
  · refine Ev.op (show pEq (.slice 25) true .le .l0 h = some (.b false, h) from rfl) ?_
    refine yj ?_
    refine Ev.bs S (cs := []) rfl ?_
    intro b1 h1 S1
    have hks : ks = [] := List.eq_nil_of_length_eq_zero h2
    subst hks
    have hg := S1.memL (List.Mem.head _)
    have e : pAppend 6 104 (.l b1 0 0 0) .le h1 = some (.l b1 0 0 0, ⟨h1.next, Tr.set (.row .ex []) b1 h1.bl⟩) := by
      unfold pAppend
      simp only [srcD]
      simp [storeAtD, hg, Kind.writable, putAt, putD]
    refine Ev.op e ?_
    have S2 : Sy I A Q ((b1, some (.row .ex [])) :: L) ⟨h1.next, Tr.set (.row .ex []) b1 h1.bl⟩ := S1.setL (Rpl.head _) rfl (fun c => Tr.get_set _ _ _ _)
    obtain ⟨J, gJ, S4, F4, _⟩ := Fz.built (sz := 6) (n := 0) S2 (by simp) ones_nil
    exact Ev.ret ⟨J, gJ, S4, by simp, [], F4, rfl⟩
  · refine Ev.op (show pEq (.slice 25) true (.l b o ks.length cap) .l0 h = some (.b false, h) from rfl) ?_
    refine yj ?_
    refine Ev.bs S (cs := []) rfl ?_
    intro b1 h1 S1
    by_cases hk : ks.length = 0
    · have hks : ks = [] := List.eq_nil_of_length_eq_zero hk
      subst hks
      have hs : srcD 6 (.l b o ([] : List Node).length cap) h1 = some (0, []) := by
        have hc : cells = [] := NL
        rw [F0.src S1.dropL, hc]
        rfl
      have hg := S1.memL (List.Mem.head _)
      have e : pAppend 6 104 (.l b1 0 0 0) (.l b o ([] : List Node).length cap) h1 = some (.l b1 0 0 0, ⟨h1.next, Tr.set (.row .ex []) b1 h1.bl⟩) := by
        unfold pAppend
        simp only [hs]
        simp [storeAtD, hg, Kind.writable, putAt, putD]
      refine Ev.op e ?_
      have S2 : Sy I A Q ((b1, some (.row .ex [])) :: L) ⟨h1.next, Tr.set (.row .ex []) b1 h1.bl⟩ := S1.setL (Rpl.head _) rfl (fun c => Tr.get_set _ _ _ _)
      obtain ⟨J, gJ, S4, F4, _⟩ := Fz.built (sz := 6) (n := 0) S2 (by simp) ones_nil
      exact Ev.ret ⟨J, gJ, S4, by simp, [], F4, rfl⟩
    · obtain ⟨J, gJ, S4, F4, G4⟩ := Fz.built (sz := 6) (n := 0) S1 (by simp) ones_nil
      obtain ⟨c1, c2⟩ := NL.shape
      have hr : (0 + ks.length) * 104 ≤ roomD := by simp [roomD, lim] at hl ⊢; omega
      obtain ⟨x5, h5, B5, e5, S5, G5⟩ := G4.app (A0 := A) S4 ((F0.mono gJ).src S4) c1 c2 hk hr
      refine Ev.op e5 ?_
      obtain ⟨K, gK, S6, F6⟩ := G5.freeze S5
      refine Ev.ret ⟨K, gJ.trans gK, S6, hl, cells, by simpa using F6, (NL.mono gJ).mono gK⟩

theorem same1S {I : Im} {A Q L : Ls} {h : Hp} {b : Pos} {kd : Kind} {l : List DV} {o : Nat} {v : DV} (S : Sy I A Q L h) (m : (b, some (.row kd l)) ∈ L) (e : l[o]? = some v) (hv : v.one = true) (hb : DV.beq v v = true) : sameR (pLoad1 (.p b o) h) v = true := same1 (S := S) m e hv hb

theorem beq_s (t : List Nat) : DV.beq (.s t) (.s t) = true := by
  have e : eqD t t = true := by rw [eqD_iff]
  simp [DV.beq, e]

theorem message_ok {I : Im} {A Q L : Ls} {h : Hp} (S : Sy I A Q L h) {x : Node} {cs : List DV} (N : NV I x cs) :
    Ev (fun n => shD n 138 [.a cs] h) (fun v h' => ∃ J ds, v = .a ds ∧ ILe I J ∧ Sy J A Q L h' ∧ NV J (msgN x) ds) := by
  refine Ev.enter (fun n => enter138 n _ h) ?_
  unfold s138
  have N0 := N
  obtain ⟨k, t, m, ns, ts, ks⟩ := x
  obtain ⟨s1, s2, s3, rfl, a, b, c, cells, F, NL⟩ := N
  have o1 := a.2.one
  have o2 := b.2.one
  have o3 := F.one
  refine wb fun _ _ _ => ?_; refine wa fun _ _ _ => ?_; refine wf ?_; refine wl ?_
  refine Ev.op (F.len _) ?_
  refine Ev.ieq (fun e1 => ?_) (fun e1 => ?_)
  · refine yt ?_; refine ws ?_; refine wt fun _ _ => ?_; refine ws ?_
    refine Ev.ret ⟨I, _, rfl, ILe.refl _, dp, ?_⟩
    have e2 : ks.length = 0 := by simp at e1; simp [e1]
    rw [show msgN (.mk k t m ns ts ks) = .mk k t m ns ts ks by simp [msgN, Node.kids, e2]]
    exact N0
  · refine yj ?_; refine wf ?_; refine wl ?_; refine wf ?_; refine wl ?_
    have e2 : ks.length ≠ 0 := fun e => e1 (by rw [e]; rfl)
    rename_i bb hh SX
    obtain ⟨s4, h4, J, e4, g4, S4, F4, n4⟩ := F.rest SX (i := 1) (by omega) (by omega)
    refine Ev.op e4 ?_
    have N4 : NS J s4 (ks.drop 1) := ⟨by simp; omega, cells.drop (1 * 6), by simpa using F4, (NL.mono g4).drop 1⟩
    refine Ev.call (clone_ok S4 N4) ?_
    rintro v5 h5 ⟨K, g5, S5, N5⟩
    have o5 := N5.one
    refine Ev.cnd ?_ ?_
    · rw [Bool.and_true]; exact same1S S5 (by first | exact List.Mem.head _ | exact (List.Mem.tail _ (List.Mem.head _)) | exact (List.Mem.tail _ (List.Mem.tail _ (List.Mem.head _))) | exact (List.Mem.tail _ (List.Mem.tail _ (List.Mem.tail _ (List.Mem.head _)))) | exact (List.Mem.tail _ (List.Mem.tail _ (List.Mem.tail _ (List.Mem.tail _ (List.Mem.head _))))) | exact (List.Mem.tail _ (List.Mem.tail _ (List.Mem.tail _ (List.Mem.tail _ (List.Mem.tail _ (List.Mem.head _)))))) | exact (List.Mem.tail _ (List.Mem.tail _ (List.Mem.tail _ (List.Mem.tail _ (List.Mem.tail _ (List.Mem.tail _ (List.Mem.head _))))))) | exact (List.Mem.tail _ (List.Mem.tail _ (List.Mem.tail _ (List.Mem.tail _ (List.Mem.tail _ (List.Mem.tail _ (List.Mem.tail _ (List.Mem.head _)))))))) | exact (List.Mem.tail _ (List.Mem.tail _ (List.Mem.tail _ (List.Mem.tail _ (List.Mem.tail _ (List.Mem.tail _ (List.Mem.tail _ (List.Mem.tail _ (List.Mem.head _)))))))))) rfl rfl (beq_s _)
    refine wd ?_; refine wt fun _ _ => ?_; refine ws ?_
    refine Ev.ret ⟨K, _, rfl, g4.trans g5, dp, ?_⟩
    rw [show msgN (.mk k t m ns ts ks) = sendN t (ks.drop 1) by simp [msgN, Node.kids, Node.text, e2]]
    exact NV.of (SS.nil K) (SS.nil K) N5

end Go.Dd

