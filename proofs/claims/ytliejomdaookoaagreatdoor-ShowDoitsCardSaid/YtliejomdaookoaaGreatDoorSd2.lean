/- A part of the proof: Q5 Q6 Qt SH R R1 R2 U S1 S2 S3 S4 S5 S6 S7 S8 S10 LV T1 ZR T2 T3 T4 T5: each text has a comment of its own. -/
import Derived.Test.YtliejomdaookoaaGreatDoorSd1
import Derived.Shelf.Strings.Builder1
import Derived.Shelf.Strings.Builder2
import Derived.Shelf.Strings.OnBuilder
import Derived.Shelf.Small.Strs
import Derived.Shelf.Strconv.Itoa0
import Derived.Shelf.Strconv.Itoa1
import Derived.Shelf.LaysM
import Derived.Shelf.Strconv.Itoa2
import Derived.Shelf.Strconv.Itoa3
import Derived.Shelf.Strings.Search1
import Derived.Shelf.Strings.Search2
import Derived.Shelf.Strings.Search3
import Derived.Shelf.Strings.Count
import Derived.Shelf.Strings.Shaped
import Derived.Shelf.Strings.Split
import Derived.Shelf.Strings.Replace
import Derived.Shelf.Unicode.DecodeSlow
import Derived.Test.YtliejomdaookoaaGreatDoorProg
import Derived.Lib.SplitLaws
import Derived.Lib.IndexBytes
import Derived.Lib.Bytealg
import Derived.KernelRfl
import Derived.ChangeArms
import Derived.WalkKit
import Derived.ProofKit
set_option linter.unusedVariables false
set_option linter.unusedSimpArgs false
set_option linter.constructorNameAsVariable false
set_option maxRecDepth 100000
namespace Go.Dd
open Go.Proofs
noncomputable section
variable (rec : RT) (n : Nat)
def fO (rec : RT) (n : Nat) (x0 x3 x4 x7 x9 : DV) (h0 : Hp) : aH :=
 bnd (cP x0 (some x7) (some x9) h0) fun v1 h1 =>
 bnd (aB 1 x3 h1) fun v2 h2 =>
 bnd (aC 1 v2 v1 h2) fun _ h3 =>
 bnd (aE 4 x3 h3) fun v4 h4 =>
 bnd (aC 4 x4 v4 h4) fun _ h5 =>
 bnd (aE 4 x4 h5) fun v6 _ =>
 some (.t [v6, x9, (.i .i64 (Int.ofNat 0))], h5)
def oX (rec : RT) (n : Nat) (kk10 : TT5) (x0 x3 x4 x7 x9 : DV) (h0 : Hp) : aH :=
 bnd (rec 97 [x0, x9] h0) fun v1 h1 =>
 aU v1 (
 bnd (aF .add x9 (.i .i64 (Int.ofNat 1)) h1) fun v2 h2 =>
 bnd (rec 95 [x0, v2] h2) fun v3 h3 =>
 bnd (aF .neq v3 (.i .i64 (Int.ofNat 1)) h3) fun v4 h4 =>
 aU v4 (
  fO rec n x0 x3 x4 x7 v2 h4) (
 bnd (rec 96 [x0, v2] h4) fun v5 h5 =>
 bnd (rec 97 [x0, v5] h5) fun v6 h6 =>
 bnd (jZ .not v6 h6) fun v7 h7 =>
 aU v7 (
  fO rec n x0 x3 x4 x7 v2 h7) (
 bnd (aF .sub v5 v2 h7) fun v8 h8 =>
 bnd (aF .gtr v8 (.i .i64 (Int.ofNat 24)) h8) fun v9 h9 =>
 aU v9 (
 bnd (aE 4 x3 h9) fun v10 h10 =>
 bnd (aC 4 x4 v10 h10) fun _ h11 =>
 bnd (aE 4 x4 h11) fun v12 _ =>
 some (.t [v12, (.i .i64 (Int.ofNat 0)), (.i .i64 (Int.ofNat 12))], h11)) (
  kk10 x0 x3 x4 x7 v5 h9)))) (
  fO rec n x0 x3 x4 x7 x9 h1)
def jU (rec : RT) (n : Nat) (m : Nat) : TT5 :=
 Nat.rec (motive := fun _ => TT5) (fun _ _ _ _ _ _ => none) (fun _ ih => oX rec n ih) m
def aSg (rec : RT) (n : Nat) : TT5 := jU rec n n
def bAk (rec : RT) (n : Nat) (x0 x3 x4 x7 x9 : DV) (h0 : Hp) : aH :=
 aSg rec n x0 x3 x4 x7 x9 h0
def bBu (rec : RT) (n : Nat) (x0 x3 x4 x7 x9 : DV) (h0 : Hp) : aH :=
 bnd (aF .sub x9 x7 h0) fun v1 h1 =>
 bnd (aF .gtr v1 (.i .i64 (Int.ofNat 24)) h1) fun v2 h2 =>
 aU v2 (
 bnd (aE 4 x3 h2) fun v3 h3 =>
 bnd (aC 4 x4 v3 h3) fun _ h4 =>
 bnd (aE 4 x4 h4) fun v5 _ =>
 some (.t [v5, (.i .i64 (Int.ofNat 0)), (.i .i64 (Int.ofNat 12))], h4)) (
  bAk rec n x0 x3 x4 x7 x9 h2)
def bBz (rec : RT) (n : Nat) (x0 x3 x4 x7 : DV) (h0 : Hp) : aH :=
 bnd (rec 96 [x0, x7] h0) fun v1 h1 =>
  bBu rec n x0 x3 x4 x7 v1 h1
def aBv (rec : RT) (n : Nat) (x0 x3 x4 x7 : DV) (h0 : Hp) : aH :=
 bnd (rec 95 [x0, x7] h0) fun v1 h1 =>
 bnd (aF .neq v1 (.i .i64 (Int.ofNat 1)) h1) fun v2 h2 =>
 aU v2 (
 bnd (aE 4 x3 h2) fun v3 h3 =>
 bnd (aC 4 x4 v3 h3) fun _ h4 =>
 bnd (aE 4 x4 h4) fun v5 _ =>
 some (.t [v5, (.i .i64 (Int.ofNat 0)), (.i .i64 (Int.ofNat 10))], h4)) (
  bBz rec n x0 x3 x4 x7 h2)
def aIq (rec : RT) (n : Nat) (x0 x3 x4 x7 x8 : DV) (h0 : Hp) : aH :=
 bnd (cP x0 (some x7) (some x8) h0) fun v1 h1 =>
 bnd (aB 1 x3 h1) fun v2 h2 =>
 bnd (aC 1 v2 v1 h2) fun _ h3 =>
 bnd (aE 4 x3 h3) fun v4 h4 =>
 bnd (aC 4 x4 v4 h4) fun _ h5 =>
 bnd (aE 4 x4 h5) fun v6 _ =>
 some (.t [v6, x8, (.i .i64 (Int.ofNat 0))], h5)
def bQg (rec : RT) (n : Nat) (x0 x3 x4 x7 x8 : DV) (h0 : Hp) : aH :=
 bnd (rec 95 [x0, x8] h0) fun v1 h1 =>
 bnd (aF .eql v1 (.i .i64 (Int.ofNat 3)) h1) fun v2 h2 =>
 aU v2 (
 bnd (aF .add x8 (.i .i64 (Int.ofNat 1)) h2) fun v3 h3 =>
  aIq rec n x0 x3 x4 x7 v3 h3) (
  aIq rec n x0 x3 x4 x7 x8 h2)
def bNi (rec : RT) (n : Nat) (x0 x3 x4 x7 : DV) (h0 : Hp) : aH :=
 bnd (aF .add x7 (.i .i64 (Int.ofNat 1)) h0) fun v1 h1 =>
  bQg rec n x0 x3 x4 x7 v1 h1
def aEc (rec : RT) (n : Nat) (x0 x3 x4 x7 x32 : DV) (h0 : Hp) : aH :=
 aU x32 (
  bNi rec n x0 x3 x4 x7 h0) (
  aBv rec n x0 x3 x4 x7 h0)
def bDr (rec : RT) (n : Nat) (x0 x3 x4 x7 : DV) (h0 : Hp) : aH :=
 bnd (rec 95 [x0, x7] h0) fun v1 h1 =>
 bnd (aF .eql v1 (.i .i64 (Int.ofNat 3)) h1) fun v2 h2 =>
  aEc rec n x0 x3 x4 x7 v2 h2
def aMq (rec : RT) (n : Nat) (x0 x3 x4 x7 : DV) (h0 : Hp) : aH :=
 bnd (aB 0 x3 h0) fun v1 h1 =>
 bnd (aC 1 v1 (.i .i64 (Int.ofNat 6)) h1) fun _ h2 =>
  bDr rec n x0 x3 x4 x7 h2
def aTr (rec : RT) (n : Nat) (x0 x3 x4 x7 : DV) (h0 : Hp) : aH :=
 bnd (cS x0 h0) fun v1 h1 =>
 bnd (aF .lss x7 v1 h1) fun v2 h2 =>
 bnd (gD v2 true (some (x0, h2)) h2) fun v3 h3 =>
 bnd (gD v2 true (some (x7, h3)) h3) fun v4 h4 =>
 bnd (gD v2 true (bF v3 v4 h4) h4) fun v5 h5 =>
 bnd (gD v2 true (aF .eql v5 (.i .u8 (Int.ofNat 40)) h5) h5) fun v6 h6 =>
 bnd (aV v2 v6 (.b false) h6) fun v7 h7 =>
 aU v7 (
 bnd (aB 0 x3 h7) fun v8 h8 =>
 bnd (aC 1 v8 (.i .i64 (Int.ofNat 7)) h8) fun _ h9 =>
 bnd (aE 4 x3 h9) fun v10 h10 =>
 bnd (aF .add x7 (.i .i64 (Int.ofNat 1)) h10) fun v11 h11 =>
 bnd (aC 4 x4 v10 h11) fun _ h12 =>
 bnd (aE 4 x4 h12) fun v13 _ =>
 some (.t [v13, v11, (.i .i64 (Int.ofNat 0))], h12)) (
  aMq rec n x0 x3 x4 x7 h7)
def aUt (rec : RT) (n : Nat) (x0 x3 x4 : DV) (h0 : Hp) : aH :=
 bnd (aB 3 x3 h0) fun v1 h1 =>
 bnd (aD v1 h1) fun v2 h2 =>
 bnd (aF .add v2 (.i .i64 (Int.ofNat 1)) h2) fun v3 h3 =>
  aTr rec n x0 x3 x4 v3 h3
def s99 (rec : RT) (n : Nat) (x0 x1 : DV) (h0 : Hp) : aH :=
 bnd (dW x1 h0) fun v1 h1 =>
 bnd (bG [(.i .i64 (Int.ofNat 0)), (.s []), (.i .i64 (Int.ofNat 0)), (.i .i64 (Int.ofNat 0))] h1) fun v2 h2 =>
  aUt rec n x0 v1 v2 h2
abbrev c99 : Code := cf Tryz.f99
abbrev bBk := cR c99
abbrev bDb := cR bBk
abbrev bCm := cR bDb
abbrev bBt := cR bCm
abbrev aTj := cR bBt
abbrev bCr := cR aTj
abbrev aYw := cR bCr
abbrev aVi := cR aYw
abbrev dKk := cR aVi
abbrev aGl := cL aVi
abbrev aEz := cL aGl
abbrev rM := cL aEz
abbrev bJj := cL aYw
abbrev bWs := cL bCr
abbrev bKr := cL aTj
abbrev aAy := cL bBt
abbrev dBo := cR aAy
abbrev bIr := cL aAy
abbrev bTb := cL bCm
abbrev bOr := cL bDb
abbrev bHd := cL bBk
abbrev bGy := cL c99
abbrev r99 : K := bD CF Tryz.f99
def D99 (rec : RT) (n : Nat) (c : Code) (X : Nat → K) (k : K) : K := aR CF rec 90 n c X r99 k
theorem cUv : D99 rec n dKk x0 r99 = (K5 (fO rec n) 0 3 4 7 9) := by kernel_rfl
theorem bIp (kk10 : TT5) : D99 rec n rM (xs x0 0 (K5 (fO rec n) 0 3 4 7 9)) (K5 kk10 0 3 4 7 9) = (K5 (oX rec n kk10) 0 3 4 7 9) := by kernel_rfl
theorem bIw (m : Nat) : aG (fun kk => D99 rec n rM (xs x0 0 (K5 (fO rec n) 0 3 4 7 9)) kk) m = (K5 (jU rec n m) 0 3 4 7 9) := by
 induction m with
 | zero => exact (by kernel_rfl : aG (fun kk => D99 rec n rM (xs x0 0 (K5 (fO rec n) 0 3 4 7 9)) kk) 0 = (K5 (jU rec n 0) 0 3 4 7 9))
 | succ m ih =>
  refine (by kernel_rfl : aG (fun kk => D99 rec n rM (xs x0 0 (K5 (fO rec n) 0 3 4 7 9)) kk) (m + 1) = D99 rec n rM (xs x0 0 (K5 (fO rec n) 0 3 4 7 9)) (aG (fun kk => D99 rec n rM (xs x0 0 (K5 (fO rec n) 0 3 4 7 9)) kk) m)).trans ?_
  rw [ih]
  exact (bIp rec n (jU rec n m)).trans (by kernel_rfl)
theorem cGf : D99 rec n aEz (xs x0 0 (K5 (fO rec n) 0 3 4 7 9)) (K5 (fO rec n) 0 3 4 7 9) = (K5 (aSg rec n) 0 3 4 7 9) :=
 (by kernel_rfl : D99 rec n aEz (xs x0 0 (K5 (fO rec n) 0 3 4 7 9)) (K5 (fO rec n) 0 3 4 7 9) = aG (fun kk => D99 rec n rM (xs x0 0 (K5 (fO rec n) 0 3 4 7 9)) kk) n).trans ((bIw rec n n).trans (by kernel_rfl))
theorem cAz : D99 rec n aVi x0 r99 = D99 rec n aGl x0 (K5 (fO rec n) 0 3 4 7 9) :=
 congrArg (fun k => D99 rec n aGl x0 k) (cUv rec n)
theorem dAv : D99 rec n aVi x0 r99 = (K5 (bAk rec n) 0 3 4 7 9) :=
 (cAz rec n).trans
 ((by kernel_rfl : D99 rec n aGl x0 (K5 (fO rec n) 0 3 4 7 9) = D99 rec n aEz (xs x0 0 (K5 (fO rec n) 0 3 4 7 9)) (K5 (fO rec n) 0 3 4 7 9)).trans
 ((cGf rec n).trans (by kernel_rfl)))
theorem cFo : D99 rec n aYw x0 r99 = D99 rec n bJj x0 (K5 (bAk rec n) 0 3 4 7 9) :=
 congrArg (fun k => D99 rec n bJj x0 k) (dAv rec n)
theorem dCw : D99 rec n aYw x0 r99 = (K5 (bBu rec n) 0 3 4 7 9) :=
 (cFo rec n).trans
 ((by kernel_rfl))
theorem bYz : D99 rec n bCr x0 r99 = D99 rec n bWs x0 (K5 (bBu rec n) 0 3 4 7 9) :=
 congrArg (fun k => D99 rec n bWs x0 k) (dCw rec n)
theorem cYb : D99 rec n bCr x0 r99 = (K4 (bBz rec n) 0 3 4 7) :=
 (bYz rec n).trans
 ((by kernel_rfl))
theorem cLc : D99 rec n aTj x0 r99 = D99 rec n bKr x0 (K4 (bBz rec n) 0 3 4 7) :=
 congrArg (fun k => D99 rec n bKr x0 k) (cYb rec n)
theorem cYe : D99 rec n aTj x0 r99 = (K4 (aBv rec n) 0 3 4 7) :=
 (cLc rec n).trans
 ((by kernel_rfl))
theorem cGc : D99 rec n dBo x0 (K4 (aBv rec n) 0 3 4 7) = (K5 (aEc rec n) 0 3 4 7 32) := by kernel_rfl
theorem bYu : D99 rec n bBt x0 r99 = D99 rec n aAy x0 (K4 (aBv rec n) 0 3 4 7) :=
 congrArg (fun k => D99 rec n aAy x0 k) (cYe rec n)
theorem cBv : D99 rec n aAy x0 (K4 (aBv rec n) 0 3 4 7) = D99 rec n bIr x0 (K5 (aEc rec n) 0 3 4 7 32) :=
 congrArg (fun k => D99 rec n bIr x0 k) (cGc rec n)
theorem dBq : D99 rec n bBt x0 r99 = (K4 (bDr rec n) 0 3 4 7) :=
 (bYu rec n).trans
 ((cBv rec n).trans
 ((by kernel_rfl)))
theorem cHw : D99 rec n bCm x0 r99 = D99 rec n bTb x0 (K4 (bDr rec n) 0 3 4 7) :=
 congrArg (fun k => D99 rec n bTb x0 k) (dBq rec n)
theorem cRf : D99 rec n bCm x0 r99 = (K4 (aMq rec n) 0 3 4 7) :=
 (cHw rec n).trans
 ((by kernel_rfl))
theorem bQd : D99 rec n bDb x0 r99 = D99 rec n bOr x0 (K4 (aMq rec n) 0 3 4 7) :=
 congrArg (fun k => D99 rec n bOr x0 k) (cRf rec n)
theorem cXx : D99 rec n bDb x0 r99 = (K4 (aTr rec n) 0 3 4 7) :=
 (bQd rec n).trans
 ((by kernel_rfl))
theorem bUq : D99 rec n bBk x0 r99 = D99 rec n bHd x0 (K4 (aTr rec n) 0 3 4 7) :=
 congrArg (fun k => D99 rec n bHd x0 k) (cXx rec n)
theorem dDt : D99 rec n bBk x0 r99 = (K3 (aUt rec n) 0 3 4) :=
 (bUq rec n).trans
 ((by kernel_rfl))
theorem cZn : D99 rec n c99 x0 r99 = D99 rec n bGy x0 (K3 (aUt rec n) 0 3 4) :=
 congrArg (fun k => D99 rec n bGy x0 k) (dDt rec n)
theorem dPc : D99 rec n c99 x0 r99 = (K2 (s99 rec n) 0 1) :=
 (cZn rec n).trans
 ((by kernel_rfl))
theorem dJs (args : List DV) (h : Hp) : aL CF rec n 99 args h = s99 rec n (args.getD 0 aA) (args.getD 1 aA) h :=
 cZ (dPc rec n) args h (by kernel_rfl) (by kernel_rfl)
def bWc (rec : RT) (n : Nat) (x0 x2 x3 : DV) (h0 : Hp) : aH :=
 bnd (rec 68 [x0, (.i .i64 (Int.ofNat 10)), (.s [91])] h0) fun v1 h1 =>
 aU v1 (
 bnd (rec 131 [x0] h1) fun v2 h2 =>
 bnd (aC 6 x2 v2 h2) fun _ h3 =>
 bnd (aE 6 x2 h3) fun v4 _ =>
 some (v4, h3)) (
 bnd (rec 73 [x0, (.i .i64 (Int.ofNat 0))] h1) fun v5 h5 =>
 bnd (rec 71 [x0, v5, (.i .i64 (Int.ofNat 13))] h5) fun v6 h6 =>
 bnd (aE 6 x3 h6) fun v7 h7 =>
 bnd (aC 6 x2 v7 h7) fun _ h8 =>
 bnd (aE 6 x2 h8) fun v9 _ =>
 some (v9, h8))
def vT (rec : RT) (n : Nat) (x2 x3 : DV) (h0 : Hp) : aH :=
 bnd (aE 6 x3 h0) fun v1 h1 =>
 bnd (aC 6 x2 v1 h1) fun _ h2 =>
 bnd (aE 6 x2 h2) fun v3 _ =>
 some (v3, h2)
def aWj (rec : RT) (n : Nat) (x0 x2 x3 x4 : DV) (h0 : Hp) : aH :=
 aU x4 (
 bnd (rec 72 [x0] h0) fun v1 h1 =>
 bnd (aC 6 x3 v1 h1) fun _ h2 =>
 bnd (rec 47 [x0, (.i .i64 (Int.ofNat 10)), (.s [41])] h2) fun v3 h3 =>
 bnd (bM x0 h3) fun v4 h4 =>
 bnd (aB 2 v4 h4) fun v5 h5 =>
 bnd (aD v5 h5) fun v6 h6 =>
 bnd (aF .sub v6 (.i .i64 (Int.ofNat 1)) h6) fun v7 h7 =>
 bnd (bM x0 h7) fun v8 h8 =>
 bnd (aB 2 v8 h8) fun v9 h9 =>
 bnd (aC 1 v9 v7 h9) fun _ h10 =>
  vT rec n x2 x3 h10) (
  vT rec n x2 x3 h0)
def bQq (rec : RT) (n : Nat) (x0 x2 x3 : DV) (h0 : Hp) : aH :=
 bnd (rec 130 [x0] h0) fun v1 h1 =>
  aWj rec n x0 x2 x3 v1 h1
def bJd (rec : RT) (n : Nat) (x0 x2 x3 x29 : DV) (h0 : Hp) : aH :=
 aU x29 (
  bQq rec n x0 x2 x3 h0) (
  bWc rec n x0 x2 x3 h0)
def bKv (rec : RT) (n : Nat) (x0 x2 x3 : DV) (h0 : Hp) : aH :=
 bnd (rec 68 [x0, (.i .i64 (Int.ofNat 10)), (.s [40])] h0) fun v1 h1 =>
  bJd rec n x0 x2 x3 v1 h1
def bWa (rec : RT) (n : Nat) (x0 x2 x3 : DV) (h0 : Hp) : aH :=
 bnd (rec 68 [x0, (.i .i64 (Int.ofNat 7)), (.s [])] h0) fun v1 h1 =>
 aU v1 (
 bnd (rec 129 [x0] h1) fun v2 h2 =>
 bnd (aC 6 x2 v2 h2) fun _ h3 =>
 bnd (aE 6 x2 h3) fun v4 _ =>
 some (v4, h3)) (
  bKv rec n x0 x2 x3 h1)
def bQo (rec : RT) (n : Nat) (x0 x2 x3 : DV) (h0 : Hp) : aH :=
 bnd (rec 68 [x0, (.i .i64 (Int.ofNat 1)), (.s [])] h0) fun v1 h1 =>
 aU v1 (
 bnd (rec 69 [x0] h1) fun v2 h2 =>
 bnd (cB 1 v2 h2) fun v3 h3 =>
 bnd (bB [(.i .i64 (Int.ofNat 0)), (.s []), (.i .i64 (Int.ofNat 0)), .l0, .l0, .l0] [(0, 1, (.i .i64 (Int.ofNat 5))), (1, 1, v3)] h3) fun v4 h4 =>
 bnd (aC 6 x2 v4 h4) fun _ h5 =>
 bnd (aE 6 x2 h5) fun v6 _ =>
 some (v6, h5)) (
  bWa rec n x0 x2 x3 h1)
def bJs (rec : RT) (n : Nat) (x0 x2 x3 x4 : DV) (h0 : Hp) : aH :=
 aU x4 (
 bnd (aE 6 x3 h0) fun v1 h1 =>
 bnd (aC 6 x2 v1 h1) fun _ h2 =>
 bnd (aE 6 x2 h2) fun v3 _ =>
 some (v3, h2)) (
  bQo rec n x0 x2 x3 h0)
def bYi (rec : RT) (n : Nat) (x0 x2 : DV) (h0 : Hp) : aH :=
 bnd (rec 128 [x0] h0) fun v1 h1 =>
 bnd (aK 0 v1 h1) fun v2 h2 =>
 bnd (aK 1 v1 h2) fun v3 h3 =>
 bnd (bG [(.i .i64 (Int.ofNat 0)), (.s []), (.i .i64 (Int.ofNat 0)), .l0, .l0, .l0] h3) fun v4 h4 =>
 bnd (aC 6 v4 v2 h4) fun _ h5 =>
  bJs rec n x0 x2 v4 v3 h5
def bUi (rec : RT) (n : Nat) (x0 x2 : DV) (h0 : Hp) : aH :=
 bnd (bM x0 h0) fun v1 h1 =>
 bnd (aB 3 v1 h1) fun v2 h2 =>
 bnd (aD v2 h2) fun v3 h3 =>
 bnd (aF .neq v3 (.i .i64 (Int.ofNat 0)) h3) fun v4 h4 =>
 aU v4 (
 bnd (bB [(.i .i64 (Int.ofNat 0)), (.s []), (.i .i64 (Int.ofNat 0)), .l0, .l0, .l0] [] h4) fun v5 h5 =>
 bnd (aC 6 x2 v5 h5) fun _ h6 =>
 bnd (aE 6 x2 h6) fun v7 _ =>
 some (v7, h6)) (
  bYi rec n x0 x2 h4)
def s100 (rec : RT) (n : Nat) (x0 : DV) (h0 : Hp) : aH :=
 bnd (bG [(.i .i64 (Int.ofNat 0)), (.s []), (.i .i64 (Int.ofNat 0)), .l0, .l0, .l0] h0) fun v1 h1 =>
  bUi rec n x0 v1 h1
abbrev c100 : Code := cf Tryz.f100
abbrev r100 : K := bD CF Tryz.f100
def D100 (rec : RT) (n : Nat) (c : Code) (X : Nat → K) (k : K) : K := aR CF rec 54 n c X r100 k
theorem dIf : D100 rec n c100 x0 r100 = (K1 (s100 rec n) 0) := by kernel_rfl
theorem cUs (args : List DV) (h : Hp) : aL CF rec n 100 args h = s100 rec n (args.getD 0 aA) h :=
 cZ (dIf rec n) args h (by kernel_rfl) (by kernel_rfl)
def eU (rec : RT) (n : Nat) (x3 x4 : DV) (h0 : Hp) : aH :=
 bnd (aE 6 x3 h0) fun v1 h1 =>
 bnd (aC 6 x4 v1 h1) fun _ h2 =>
 bnd (aE 6 x4 h2) fun v3 _ =>
 some (v3, h2)
def wH (rec : RT) (n : Nat) (kk3 : cQ) (x0 x3 x4 : DV) (h0 : Hp) : aH :=
 bnd (rec 68 [x0, (.i .i64 (Int.ofNat 1)), (.s [])] h0) fun v1 h1 =>
 aU v1 (
 bnd (rec 69 [x0] (hC 1 h1)) fun v2 h2 =>
 bnd (cB 1 v2 h2) fun v3 h3 =>
 bnd (aE 6 x3 h3) fun v4 h4 =>
 cnd (bP (aE 6 x3 (hC 1 h1)) v4 && true) (
 bnd (aZ (cT 0 h1.next) [(.i .i64 (Int.ofNat 0)), (.s []), (.i .i64 (Int.ofNat 0)), .l0, .l0, .l0] 1 [(0, 6, v4)] h4) fun v5 h5 =>
 bnd (bB [(.i .i64 (Int.ofNat 0)), (.s []), (.i .i64 (Int.ofNat 0)), .l0, .l0, .l0] [(0, 1, (.i .i64 (Int.ofNat 7))), (1, 1, v3), (5, 1, v5)] h5) fun v6 h6 =>
 bnd (aC 6 x3 v6 h6) fun v7 h7 =>
      kk3 x0 x3 x4 h7)) (
      eU rec n x3 x4 h1)
def mI (rec : RT) (n : Nat) (m : Nat) : cQ :=
 Nat.rec (motive := fun _ => cQ) (fun _ _ _ _ => none) (fun _ ih => wH rec n ih) m
def aRu (rec : RT) (n : Nat) : cQ := mI rec n n
def aGg (rec : RT) (n : Nat) (x0 x3 x4 : DV) (h0 : Hp) : aH :=
 aRu rec n x0 x3 x4 h0
def s101 (rec : RT) (n : Nat) (x0 x1 : DV) (h0 : Hp) : aH :=
 bnd (dW x1 h0) fun v1 h1 =>
 bnd (bG [(.i .i64 (Int.ofNat 0)), (.s []), (.i .i64 (Int.ofNat 0)), .l0, .l0, .l0] h1) fun v2 h2 =>
  aGg rec n x0 v1 v2 h2
abbrev c101 : Code := cf Tryz.f101
abbrev aGt := cR c101
abbrev cVi := cR aGt
abbrev aJi := cL aGt
abbrev aHx := cL aJi
abbrev pL := cL aHx
abbrev bRy := cL c101
abbrev r101 : K := bD CF Tryz.f101
def D101 (rec : RT) (n : Nat) (c : Code) (X : Nat → K) (k : K) : K := aR CF rec 14 n c X r101 k
theorem cLm : D101 rec n cVi x0 r101 = (K2 (eU rec n) 3 4) := by kernel_rfl
theorem bYa (kk3 : cQ) : D101 rec n pL (xs x0 0 (K2 (eU rec n) 3 4)) (K3 kk3 0 3 4) = (K3 (wH rec n kk3) 0 3 4) := by kernel_rfl
theorem bJt (m : Nat) : aG (fun kk => D101 rec n pL (xs x0 0 (K2 (eU rec n) 3 4)) kk) m = (K3 (mI rec n m) 0 3 4) := by
 induction m with
 | zero => exact (by kernel_rfl : aG (fun kk => D101 rec n pL (xs x0 0 (K2 (eU rec n) 3 4)) kk) 0 = (K3 (mI rec n 0) 0 3 4))
 | succ m ih =>
  refine (by kernel_rfl : aG (fun kk => D101 rec n pL (xs x0 0 (K2 (eU rec n) 3 4)) kk) (m + 1) = D101 rec n pL (xs x0 0 (K2 (eU rec n) 3 4)) (aG (fun kk => D101 rec n pL (xs x0 0 (K2 (eU rec n) 3 4)) kk) m)).trans ?_
  rw [ih]
  exact (bYa rec n (mI rec n m)).trans (by kernel_rfl)
theorem cMl : D101 rec n aHx (xs x0 0 (K2 (eU rec n) 3 4)) (K2 (eU rec n) 3 4) = (K3 (aRu rec n) 0 3 4) :=
 (by kernel_rfl : D101 rec n aHx (xs x0 0 (K2 (eU rec n) 3 4)) (K2 (eU rec n) 3 4) = aG (fun kk => D101 rec n pL (xs x0 0 (K2 (eU rec n) 3 4)) kk) n).trans ((bJt rec n n).trans (by kernel_rfl))
theorem bLu : D101 rec n aGt x0 r101 = D101 rec n aJi x0 (K2 (eU rec n) 3 4) :=
 congrArg (fun k => D101 rec n aJi x0 k) (cLm rec n)
theorem cDv : D101 rec n aGt x0 r101 = (K3 (aGg rec n) 0 3 4) :=
 (bLu rec n).trans
 ((by kernel_rfl : D101 rec n aJi x0 (K2 (eU rec n) 3 4) = D101 rec n aHx (xs x0 0 (K2 (eU rec n) 3 4)) (K2 (eU rec n) 3 4)).trans
 ((cMl rec n).trans (by kernel_rfl)))
theorem cTg : D101 rec n c101 x0 r101 = D101 rec n bRy x0 (K3 (aGg rec n) 0 3 4) :=
 congrArg (fun k => D101 rec n bRy x0 k) (cDv rec n)
theorem dJx : D101 rec n c101 x0 r101 = (K2 (s101 rec n) 0 1) :=
 (cTg rec n).trans
 ((by kernel_rfl))
theorem cVz (args : List DV) (h : Hp) : aL CF rec n 101 args h = s101 rec n (args.getD 0 aA) (args.getD 1 aA) h :=
 cZ (dJx rec n) args h (by kernel_rfl) (by kernel_rfl)
def eR (rec : RT) (n : Nat) (x3 x4 : DV) (h0 : Hp) : aH :=
 bnd (aE 6 x3 h0) fun v1 h1 =>
 bnd (aC 6 x4 v1 h1) fun _ h2 =>
 bnd (aE 6 x4 h2) fun v3 _ =>
 some (v3, h2)
def vY (rec : RT) (n : Nat) (kk3 : cQ) (x0 x3 x4 : DV) (h0 : Hp) : aH :=
 bnd (rec 68 [x0, (.i .i64 (Int.ofNat 3)), (.s [])] h0) fun v1 h1 =>
 aU v1 (
 bnd (rec 69 [x0] h1) fun v2 h2 =>
 bnd (cB 1 v2 h2) fun v3 h3 =>
 bnd (rec 100 [x0] h3) fun v4 h4 =>
 bnd (bG [(.i .i64 (Int.ofNat 0)), (.s []), (.i .i64 (Int.ofNat 0)), .l0, .l0, .l0] h4) fun v5 h5 =>
 bnd (aC 6 v5 v4 h5) fun _ h6 =>
 bnd (aE 6 v5 h6) fun v7 h7 =>
 bnd (rec 101 [x0, v7] h7) fun v8 h8 =>
 bnd (aC 6 v5 v8 h8) fun _ h9 =>
 bnd (aE 6 x3 h9) fun v10 h10 =>
 bnd (aE 6 v5 h10) fun v11 h11 =>
 bnd (aO [(.i .i64 (Int.ofNat 0)), (.s []), (.i .i64 (Int.ofNat 0)), .l0, .l0, .l0, (.i .i64 (Int.ofNat 0)), (.s []), (.i .i64 (Int.ofNat 0)), .l0, .l0, .l0] 2 [(0, 6, v10), (6, 6, v11)] h11) fun v12 h12 =>
 bnd (bB [(.i .i64 (Int.ofNat 0)), (.s []), (.i .i64 (Int.ofNat 0)), .l0, .l0, .l0] [(0, 1, (.i .i64 (Int.ofNat 7))), (1, 1, v3), (5, 1, v12)] h12) fun v13 h13 =>
 bnd (aC 6 x3 v13 h13) fun _ h14 =>
      kk3 x0 x3 x4 h14) (
      eR rec n x3 x4 h1)
def nG (rec : RT) (n : Nat) (m : Nat) : cQ :=
 Nat.rec (motive := fun _ => cQ) (fun _ _ _ _ => none) (fun _ ih => vY rec n ih) m
def aRc (rec : RT) (n : Nat) : cQ := nG rec n n
def aFz (rec : RT) (n : Nat) (x0 x3 x4 : DV) (h0 : Hp) : aH :=
 aRc rec n x0 x3 x4 h0
def s102 (rec : RT) (n : Nat) (x0 x1 : DV) (h0 : Hp) : aH :=
 bnd (dW x1 h0) fun v1 h1 =>
 bnd (bG [(.i .i64 (Int.ofNat 0)), (.s []), (.i .i64 (Int.ofNat 0)), .l0, .l0, .l0] h1) fun v2 h2 =>
  aFz rec n x0 v1 v2 h2
abbrev c102 : Code := cf Tryz.f102
abbrev aJx := cR c102
abbrev dBh := cR aJx
abbrev aKf := cL aJx
abbrev aKt := cL aKf
abbrev qD := cL aKt
abbrev bOv := cL c102
abbrev r102 : K := bD CF Tryz.f102
def D102 (rec : RT) (n : Nat) (c : Code) (X : Nat → K) (k : K) : K := aR CF rec 23 n c X r102 k
theorem cHp : D102 rec n dBh x0 r102 = (K2 (eR rec n) 3 4) := by kernel_rfl
theorem bYj (kk3 : cQ) : D102 rec n qD (xs x0 0 (K2 (eR rec n) 3 4)) (K3 kk3 0 3 4) = (K3 (vY rec n kk3) 0 3 4) := by kernel_rfl
theorem bNj (m : Nat) : aG (fun kk => D102 rec n qD (xs x0 0 (K2 (eR rec n) 3 4)) kk) m = (K3 (nG rec n m) 0 3 4) := by
 induction m with
 | zero => exact (by kernel_rfl : aG (fun kk => D102 rec n qD (xs x0 0 (K2 (eR rec n) 3 4)) kk) 0 = (K3 (nG rec n 0) 0 3 4))
 | succ m ih =>
  refine (by kernel_rfl : aG (fun kk => D102 rec n qD (xs x0 0 (K2 (eR rec n) 3 4)) kk) (m + 1) = D102 rec n qD (xs x0 0 (K2 (eR rec n) 3 4)) (aG (fun kk => D102 rec n qD (xs x0 0 (K2 (eR rec n) 3 4)) kk) m)).trans ?_
  rw [ih]
  exact (bYj rec n (nG rec n m)).trans (by kernel_rfl)
theorem cJo : D102 rec n aKt (xs x0 0 (K2 (eR rec n) 3 4)) (K2 (eR rec n) 3 4) = (K3 (aRc rec n) 0 3 4) :=
 (by kernel_rfl : D102 rec n aKt (xs x0 0 (K2 (eR rec n) 3 4)) (K2 (eR rec n) 3 4) = aG (fun kk => D102 rec n qD (xs x0 0 (K2 (eR rec n) 3 4)) kk) n).trans ((bNj rec n n).trans (by kernel_rfl))
theorem bVn : D102 rec n aJx x0 r102 = D102 rec n aKf x0 (K2 (eR rec n) 3 4) :=
 congrArg (fun k => D102 rec n aKf x0 k) (cHp rec n)
theorem cEj : D102 rec n aJx x0 r102 = (K3 (aFz rec n) 0 3 4) :=
 (bVn rec n).trans
 ((by kernel_rfl : D102 rec n aKf x0 (K2 (eR rec n) 3 4) = D102 rec n aKt (xs x0 0 (K2 (eR rec n) 3 4)) (K2 (eR rec n) 3 4)).trans
 ((cJo rec n).trans (by kernel_rfl)))
theorem cWx : D102 rec n c102 x0 r102 = D102 rec n bOv x0 (K3 (aFz rec n) 0 3 4) :=
 congrArg (fun k => D102 rec n bOv x0 k) (cEj rec n)
theorem dEf : D102 rec n c102 x0 r102 = (K2 (s102 rec n) 0 1) :=
 (cWx rec n).trans
 ((by kernel_rfl))
theorem cZi (args : List DV) (h : Hp) : aL CF rec n 102 args h = s102 rec n (args.getD 0 aA) (args.getD 1 aA) h :=
 cZ (dEf rec n) args h (by kernel_rfl) (by kernel_rfl)
def s103 (rec : RT) (n : Nat) (x0 x1 : DV) (h0 : Hp) : aH :=
 bnd (dW x1 h0) fun v1 h1 =>
 bnd (bG [(.i .i64 (Int.ofNat 0)), (.s []), (.i .i64 (Int.ofNat 0)), .l0, .l0, .l0] h1) fun v2 h2 =>
 bnd (rec 68 [x0, (.i .i64 (Int.ofNat 2)), (.s [])] h2) fun v3 h3 =>
 bnd (jZ .not v3 h3) fun v4 h4 =>
 aU v4 (
 bnd (aE 6 v1 h4) fun v5 h5 =>
 bnd (aC 6 v2 v5 h5) fun _ h6 =>
 bnd (aE 6 v2 h6) fun v7 _ =>
 some (v7, h6)) (
 bnd (rec 104 [x0] h4) fun v8 h8 =>
 bnd (bG [(.i .i64 (Int.ofNat 0)), (.s []), (.i .i64 (Int.ofNat 0)), .l0, .l0, .l0] h8) fun v9 h9 =>
 bnd (aC 6 v9 v8 h9) fun _ h10 =>
 bnd (aE 6 v1 h10) fun v11 h11 =>
 bnd (aO [(.i .i64 (Int.ofNat 0)), (.s []), (.i .i64 (Int.ofNat 0)), .l0, .l0, .l0] 1 [(0, 6, v11)] h11) fun v12 h12 =>
 bnd (aB 5 v9 h12) fun v13 h13 =>
 bnd (aD v13 h13) fun v14 h14 =>
 bnd (aX 6 104 v12 v14 h14) fun v15 h15 =>
 bnd (aB 1 v9 h15) fun v16 h16 =>
 bnd (aD v16 h16) fun v17 h17 =>
 bnd (bB [(.i .i64 (Int.ofNat 0)), (.s []), (.i .i64 (Int.ofNat 0)), .l0, .l0, .l0] [(0, 1, (.i .i64 (Int.ofNat 7))), (1, 1, v17), (5, 1, v15)] h17) fun v18 h18 =>
 bnd (aC 6 v2 v18 h18) fun _ h19 =>
 bnd (aE 6 v2 h19) fun v20 _ =>
 some (v20, h19))
abbrev c103 : Code := cf Tryz.f103
abbrev r103 : K := bD CF Tryz.f103
def D103 (rec : RT) (n : Nat) (c : Code) (X : Nat → K) (k : K) : K := aR CF rec 23 n c X r103 k
theorem dGj : D103 rec n c103 x0 r103 = (K2 (s103 rec n) 0 1) :=
 (by kernel_rfl)
theorem cZw (args : List DV) (h : Hp) : aL CF rec n 103 args h = s103 rec n (args.getD 0 aA) (args.getD 1 aA) h :=
 cZ (dGj rec n) args h (by kernel_rfl) (by kernel_rfl)
def eV (rec : RT) (n : Nat) (x2 x3 : DV) (h0 : Hp) : aH :=
 bnd (aE 6 x3 h0) fun v1 h1 =>
 bnd (aC 6 x2 v1 h1) fun _ h2 =>
 bnd (aE 6 x2 h2) fun v3 _ =>
 some (v3, h2)
def wB (rec : RT) (n : Nat) (kk7 : cQ) (x0 x2 x3 : DV) (h0 : Hp) : aH :=
 bnd (rec 68 [x0, (.i .i64 (Int.ofNat 2)), (.s [])] h0) fun v1 h1 =>
 aU v1 (
 bnd (aB 1 x3 h1) fun v2 h2 =>
 bnd (aD v2 h2) fun v3 h3 =>
 bnd (rec 69 [x0] h3) fun v4 h4 =>
 cnd (bP (aD v2 h4) v3 && true) (
 bnd (cB 1 v4 h4) fun v5 h5 =>
 bnd (bY .add v3 v5 h5) fun v6 h6 =>
 bnd (aB 1 x3 h6) fun v7 h7 =>
 bnd (aC 1 v7 v6 h7) fun v8 h8 =>
 bnd (rec 100 [x0] h8) fun v9 h9 =>
 bnd (bG [(.i .i64 (Int.ofNat 0)), (.s []), (.i .i64 (Int.ofNat 0)), .l0, .l0, .l0] h9) fun v10 h10 =>
 bnd (aC 6 v10 v9 h10) fun _ h11 =>
 bnd (aE 6 v10 h11) fun v12 h12 =>
 bnd (rec 101 [x0, v12] h12) fun v13 h13 =>
 bnd (aC 6 v10 v13 h13) fun _ h14 =>
 bnd (aB 5 x3 (hC 1 h14)) fun v15 h15 =>
 bnd (aD v15 h15) fun v16 h16 =>
 bnd (aE 6 v10 h16) fun v17 h17 =>
 bnd (rec 102 [x0, v17] h17) fun v18 h18 =>
 cnd (bP (aD v15 h18) v16 && true) (
 bnd (aZ (cT 0 h14.next) [(.i .i64 (Int.ofNat 0)), (.s []), (.i .i64 (Int.ofNat 0)), .l0, .l0, .l0] 1 [(0, 6, v18)] h18) fun v19 h19 =>
 bnd (aX 6 104 v16 v19 h19) fun v20 h20 =>
 bnd (aB 5 x3 h20) fun v21 h21 =>
 bnd (aC 1 v21 v20 h21) fun v22 h22 =>
      kk7 x0 x2 x3 h22))) (
      eV rec n x2 x3 h1)
def mB (rec : RT) (n : Nat) (m : Nat) : cQ :=
 Nat.rec (motive := fun _ => cQ) (fun _ _ _ _ => none) (fun _ ih => wB rec n ih) m
def aIv (rec : RT) (n : Nat) : cQ := mB rec n n
def uE (rec : RT) (n : Nat) (x0 x2 x3 : DV) (h0 : Hp) : aH :=
 aIv rec n x0 x2 x3 h0
def aFe (rec : RT) (n : Nat) (x0 x2 x3 : DV) (h0 : Hp) : aH :=
 bnd (rec 68 [x0, (.i .i64 (Int.ofNat 2)), (.s [])] h0) fun v1 h1 =>
 bnd (jZ .not v1 h1) fun v2 h2 =>
 aU v2 (
 bnd (rec 73 [x0, (.i .i64 (Int.ofNat 0))] h2) fun v3 h3 =>
 bnd (rec 71 [x0, v3, (.i .i64 (Int.ofNat 13))] h3) fun v4 h4 =>
  uE rec n x0 x2 x3 h4) (
  uE rec n x0 x2 x3 h2)
def aKk (rec : RT) (n : Nat) (x0 x2 x3 : DV) (h0 : Hp) : aH :=
 bnd (rec 68 [x0, (.i .i64 (Int.ofNat 3)), (.s [])] h0) fun v1 h1 =>
 aU v1 (
 bnd (rec 69 [x0] h1) fun v2 h2 =>
 bnd (cB 1 v2 h2) fun v3 h3 =>
 bnd (aB 1 x3 h3) fun v4 h4 =>
 bnd (aC 1 v4 v3 h4) fun _ h5 =>
 bnd (rec 100 [x0] h5) fun v6 h6 =>
 bnd (bG [(.i .i64 (Int.ofNat 0)), (.s []), (.i .i64 (Int.ofNat 0)), .l0, .l0, .l0] h6) fun v7 h7 =>
 bnd (aC 6 v7 v6 h7) fun _ h8 =>
 bnd (aB 5 x3 (hC 1 h8)) fun v9 h9 =>
 bnd (aD v9 h9) fun v10 h10 =>
 bnd (aE 6 v7 h10) fun v11 h11 =>
 bnd (rec 101 [x0, v11] h11) fun v12 h12 =>
 cnd (bP (aD v9 h12) v10 && true) (
 bnd (aZ (cT 0 h8.next) [(.i .i64 (Int.ofNat 0)), (.s []), (.i .i64 (Int.ofNat 0)), .l0, .l0, .l0] 1 [(0, 6, v12)] h12) fun v13 h13 =>
 bnd (aX 6 104 v10 v13 h13) fun v14 h14 =>
 bnd (aB 5 x3 h14) fun v15 h15 =>
 bnd (aC 1 v15 v14 h15) fun v16 h16 =>
 bnd (aE 6 x3 h16) fun v17 h17 =>
 bnd (aC 6 x2 v17 h17) fun _ h18 =>
 bnd (aE 6 x2 h18) fun v19 _ =>
 some (v19, h18))) (
  aFe rec n x0 x2 x3 h1)
def aGm (rec : RT) (n : Nat) (x0 x2 x3 : DV) (h0 : Hp) : aH :=
 bnd (rec 68 [x0, (.i .i64 (Int.ofNat 1)), (.s [])] h0) fun v1 h1 =>
 aU v1 (
 bnd (rec 69 [x0] h1) fun v2 h2 =>
 bnd (cB 1 v2 h2) fun v3 h3 =>
 bnd (aB 1 x3 h3) fun v4 h4 =>
 bnd (aC 1 v4 v3 h4) fun _ h5 =>
 bnd (aE 6 x3 h5) fun v6 h6 =>
 bnd (aC 6 x2 v6 h6) fun _ h7 =>
 bnd (aE 6 x2 h7) fun v8 _ =>
 some (v8, h7)) (
  aKk rec n x0 x2 x3 h1)
def aEw (rec : RT) (n : Nat) (x0 x2 : DV) (h0 : Hp) : aH :=
 bnd (bB [(.i .i64 (Int.ofNat 0)), (.s []), (.i .i64 (Int.ofNat 0)), .l0, .l0, .l0] [(0, 1, (.i .i64 (Int.ofNat 7)))] h0) fun v1 h1 =>
 bnd (bG [(.i .i64 (Int.ofNat 0)), (.s []), (.i .i64 (Int.ofNat 0)), .l0, .l0, .l0] h1) fun v2 h2 =>
 bnd (aC 6 v2 v1 h2) fun _ h3 =>
  aGm rec n x0 x2 v2 h3
def s104 (rec : RT) (n : Nat) (x0 : DV) (h0 : Hp) : aH :=
 bnd (bG [(.i .i64 (Int.ofNat 0)), (.s []), (.i .i64 (Int.ofNat 0)), .l0, .l0, .l0] h0) fun v1 h1 =>
  aEw rec n x0 v1 h1
abbrev c104 : Code := cf Tryz.f104
abbrev aIn := cR c104
abbrev aJy := cR aIn
abbrev aFv := cR aJy
abbrev aHq := cR aFv
abbrev aFi := cR aHq
abbrev dCp := cR aFi
abbrev aDt := cL aFi
abbrev aHf := cL aDt
abbrev qP := cL aHf
abbrev aUc := cL aHq
abbrev bBa := cL aFv
abbrev aYt := cL aJy
abbrev aXp := cL aIn
abbrev bBw := cL c104
abbrev r104 : K := bD CF Tryz.f104
def D104 (rec : RT) (n : Nat) (c : Code) (X : Nat → K) (k : K) : K := aR CF rec 61 n c X r104 k
theorem cHb : D104 rec n dCp x0 r104 = (K2 (eV rec n) 2 3) := by kernel_rfl
theorem bJe (kk7 : cQ) : D104 rec n qP (xs x0 0 (K2 (eV rec n) 2 3)) (K3 kk7 0 2 3) = (K3 (wB rec n kk7) 0 2 3) := by kernel_rfl
theorem bWg (m : Nat) : aG (fun kk => D104 rec n qP (xs x0 0 (K2 (eV rec n) 2 3)) kk) m = (K3 (mB rec n m) 0 2 3) := by
 induction m with
 | zero => exact (by kernel_rfl : aG (fun kk => D104 rec n qP (xs x0 0 (K2 (eV rec n) 2 3)) kk) 0 = (K3 (mB rec n 0) 0 2 3))
 | succ m ih =>
  refine (by kernel_rfl : aG (fun kk => D104 rec n qP (xs x0 0 (K2 (eV rec n) 2 3)) kk) (m + 1) = D104 rec n qP (xs x0 0 (K2 (eV rec n) 2 3)) (aG (fun kk => D104 rec n qP (xs x0 0 (K2 (eV rec n) 2 3)) kk) m)).trans ?_
  rw [ih]
  exact (bJe rec n (mB rec n m)).trans (by kernel_rfl)
theorem cEc : D104 rec n aHf (xs x0 0 (K2 (eV rec n) 2 3)) (K2 (eV rec n) 2 3) = (K3 (aIv rec n) 0 2 3) :=
 (by kernel_rfl : D104 rec n aHf (xs x0 0 (K2 (eV rec n) 2 3)) (K2 (eV rec n) 2 3) = aG (fun kk => D104 rec n qP (xs x0 0 (K2 (eV rec n) 2 3)) kk) n).trans ((bWg rec n n).trans (by kernel_rfl))
theorem bGx : D104 rec n aFi x0 r104 = D104 rec n aDt x0 (K2 (eV rec n) 2 3) :=
 congrArg (fun k => D104 rec n aDt x0 k) (cHb rec n)
theorem bZk : D104 rec n aFi x0 r104 = (K3 (uE rec n) 0 2 3) :=
 (bGx rec n).trans
 ((by kernel_rfl : D104 rec n aDt x0 (K2 (eV rec n) 2 3) = D104 rec n aHf (xs x0 0 (K2 (eV rec n) 2 3)) (K2 (eV rec n) 2 3)).trans
 ((cEc rec n).trans (by kernel_rfl)))
theorem bQt : D104 rec n aHq x0 r104 = D104 rec n aUc x0 (K3 (uE rec n) 0 2 3) :=
 congrArg (fun k => D104 rec n aUc x0 k) (bZk rec n)
theorem cMm : D104 rec n aHq x0 r104 = (K3 (aFe rec n) 0 2 3) :=
 (bQt rec n).trans
 ((by kernel_rfl))
theorem bLo : D104 rec n aFv x0 r104 = D104 rec n bBa x0 (K3 (aFe rec n) 0 2 3) :=
 congrArg (fun k => D104 rec n bBa x0 k) (cMm rec n)
theorem cCi : D104 rec n aFv x0 r104 = (K3 (aKk rec n) 0 2 3) :=
 (bLo rec n).trans
 ((by kernel_rfl))
theorem bSn : D104 rec n aJy x0 r104 = D104 rec n aYt x0 (K3 (aKk rec n) 0 2 3) :=
 congrArg (fun k => D104 rec n aYt x0 k) (cCi rec n)
theorem cAh : D104 rec n aJy x0 r104 = (K3 (aGm rec n) 0 2 3) :=
 (bSn rec n).trans
 ((by kernel_rfl))
theorem bPq : D104 rec n aIn x0 r104 = D104 rec n aXp x0 (K3 (aGm rec n) 0 2 3) :=
 congrArg (fun k => D104 rec n aXp x0 k) (cAh rec n)
theorem cBf : D104 rec n aIn x0 r104 = (K2 (aEw rec n) 0 2) :=
 (bPq rec n).trans
 ((by kernel_rfl))
theorem cXp : D104 rec n c104 x0 r104 = D104 rec n bBw x0 (K2 (aEw rec n) 0 2) :=
 congrArg (fun k => D104 rec n bBw x0 k) (cBf rec n)
theorem dKo : D104 rec n c104 x0 r104 = (K1 (s104 rec n) 0) :=
 (cXp rec n).trans
 ((by kernel_rfl))
theorem cRc (args : List DV) (h : Hp) : aL CF rec n 104 args h = s104 rec n (args.getD 0 aA) h :=
 cZ (dKo rec n) args h (by kernel_rfl) (by kernel_rfl)
def s105 (rec : RT) (n : Nat) (x0 x1 : DV) (h0 : Hp) : aH :=
 bnd (aD x1 h0) fun v1 h1 =>
 bnd (rec 57 [v1, x0] h1) fun v2 h2 =>
 bnd (aF .geq v2 (.i .i64 (Int.ofNat 0)) h2) fun v3 h3 =>
 some (v3, h3)
abbrev c105 : Code := cf Tryz.f105
abbrev r105 : K := bD CF Tryz.f105
def D105 (rec : RT) (n : Nat) (c : Code) (X : Nat → K) (k : K) : K := aR CF rec 8 n c X r105 k
theorem dJb : D105 rec n c105 x0 r105 = (K2 (s105 rec n) 0 1) :=
 (by kernel_rfl)
theorem cVt (args : List DV) (h : Hp) : aL CF rec n 105 args h = s105 rec n (args.getD 0 aA) (args.getD 1 aA) h :=
 cZ (dJb rec n) args h (by kernel_rfl) (by kernel_rfl)
def s106 (rec : RT) (n : Nat) (x0 x1 : DV) (h0 : Hp) : aH :=
 bnd (bM x0 h0) fun v1 h1 =>
 bnd (aB 1 v1 h1) fun v2 h2 =>
 bnd (aD v2 h2) fun v3 h3 =>
 bnd (aF .add v3 x1 h3) fun v4 h4 =>
 bnd (bM x0 h4) fun v5 h5 =>
 bnd (aB 0 v5 h5) fun v6 h6 =>
 bnd (aD v6 h6) fun v7 h7 =>
 bnd (cS v7 h7) fun v8 h8 =>
 bnd (aF .geq v4 v8 h8) fun v9 h9 =>
 aU v9 (
 some ((.i .u8 (Int.ofNat 0)), h9)) (
 bnd (bM x0 h9) fun v10 h10 =>
 bnd (aB 0 v10 h10) fun v11 h11 =>
 bnd (aD v11 h11) fun v12 h12 =>
 bnd (bM x0 h12) fun v13 h13 =>
 bnd (aB 1 v13 h13) fun v14 h14 =>
 bnd (aD v14 h14) fun v15 h15 =>
 bnd (aF .add v15 x1 h15) fun v16 h16 =>
 bnd (bF v12 v16 h16) fun v17 h17 =>
 some (v17, h17))
abbrev c106 : Code := cf Tryz.f106
abbrev r106 : K := bD CF Tryz.f106
def D106 (rec : RT) (n : Nat) (c : Code) (X : Nat → K) (k : K) : K := aR CF rec 28 n c X r106 k
theorem dLf : D106 rec n c106 x0 r106 = (K2 (s106 rec n) 0 1) :=
 (by kernel_rfl)
theorem dAu (args : List DV) (h : Hp) : aL CF rec n 106 args h = s106 rec n (args.getD 0 aA) (args.getD 1 aA) h :=
 cZ (dLf rec n) args h (by kernel_rfl) (by kernel_rfl)
def s107 (rec : RT) (n : Nat) (x0 : DV) (h0 : Hp) : aH :=
 bnd (aF .geq x0 (.i .u8 (Int.ofNat 97)) h0) fun v1 h1 =>
 bnd (gD v1 true (some (x0, h1)) h1) fun v2 h2 =>
 bnd (gD v1 true (aF .leq v2 (.i .u8 (Int.ofNat 122)) h2) h2) fun v3 h3 =>
 bnd (aV v1 v3 (.b false) h3) fun v4 h4 =>
 bnd (gD v4 false (some (x0, h4)) h4) fun v5 h5 =>
 bnd (gD v4 false (aF .geq v5 (.i .u8 (Int.ofNat 65)) h5) h5) fun v6 h6 =>
 bnd (gD v4 false (some (v6, h6)) h6) fun v7 h7 =>
 bnd (gD v7 true (some (x0, h7)) h7) fun v8 h8 =>
 bnd (gD v7 true (aF .leq v8 (.i .u8 (Int.ofNat 90)) h8) h8) fun v9 h9 =>
 bnd (gD v4 false (aV v7 v9 (.b false) h9) h9) fun v10 h10 =>
 bnd (aV v4 (.b true) v10 h10) fun v11 h11 =>
 some (v11, h11)
abbrev c107 : Code := cf Tryz.f107
abbrev r107 : K := bD CF Tryz.f107
def D107 (rec : RT) (n : Nat) (c : Code) (X : Nat → K) (k : K) : K := aR CF rec 17 n c X r107 k
theorem dHk : D107 rec n c107 x0 r107 = (K1 (s107 rec n) 0) :=
 (by kernel_rfl)
theorem cTk (args : List DV) (h : Hp) : aL CF rec n 107 args h = s107 rec n (args.getD 0 aA) h :=
 cZ (dHk rec n) args h (by kernel_rfl) (by kernel_rfl)
def s108 (rec : RT) (n : Nat) (x0 : DV) (h0 : Hp) : aH :=
 bnd (bM x0 h0) fun v1 h1 =>
 bnd (aB 0 v1 h1) fun v2 h2 =>
 bnd (aD v2 h2) fun v3 h3 =>
 bnd (cS v3 h3) fun v4 h4 =>
 bnd (rec 74 [x0, (.f 132 [] []), v4] h4) fun v5 h5 =>
 bnd (cS v5 h5) fun v6 h6 =>
 bnd (aF .gtr v6 (.i .i64 (Int.ofNat 24)) h6) fun v7 h7 =>
 aU v7 (
 some (.t [(.s []), (.i .i64 (Int.ofNat 12))], h7)) (
 some (.t [v5, (.i .i64 (Int.ofNat 0))], h7))
abbrev c108 : Code := cf Tryz.f108
abbrev r108 : K := bD CF Tryz.f108
def D108 (rec : RT) (n : Nat) (c : Code) (X : Nat → K) (k : K) : K := aR CF rec 16 n c X r108 k
theorem dIq : D108 rec n c108 x0 r108 = (K1 (s108 rec n) 0) :=
 (by kernel_rfl)
theorem cRy (args : List DV) (h : Hp) : aL CF rec n 108 args h = s108 rec n (args.getD 0 aA) h :=
 cZ (dIq rec n) args h (by kernel_rfl) (by kernel_rfl)
def s109 (rec : RT) (n : Nat) (x0 : DV) (h0 : Hp) : aH :=
 bnd (rec 106 [x0, (.i .i64 (Int.ofNat 0))] h0) fun v1 h1 =>
 bnd (aF .neq v1 (.i .u8 (Int.ofNat 58)) h1) fun v2 h2 =>
 bnd (gD v2 false (some (x0, h2)) h2) fun v3 h3 =>
 bnd (gD v2 false (rec 106 [v3, (.i .i64 (Int.ofNat 1))] h3) h3) fun v4 h4 =>
 bnd (gD v2 false (aF .eql v4 (.i .u8 (Int.ofNat 61)) h4) h4) fun v5 h5 =>
 bnd (aV v2 (.b true) v5 h5) fun v6 h6 =>
 aU v6 (
 some ((.b false), h6)) (
 bnd (bM x0 h6) fun v7 h7 =>
 bnd (aB 1 v7 h7) fun v8 h8 =>
 bnd (aD v8 h8) fun v9 h9 =>
 bnd (aF .add v9 (.i .i64 (Int.ofNat 1)) h9) fun v10 h10 =>
 bnd (bM x0 h10) fun v11 h11 =>
 bnd (aB 1 v11 h11) fun v12 h12 =>
 bnd (aC 1 v12 v10 h12) fun _ h13 =>
 some ((.b true), h13))
abbrev c109 : Code := cf Tryz.f109
abbrev r109 : K := bD CF Tryz.f109
def D109 (rec : RT) (n : Nat) (c : Code) (X : Nat → K) (k : K) : K := aR CF rec 18 n c X r109 k
theorem dFo : D109 rec n c109 x0 r109 = (K1 (s109 rec n) 0) :=
 (by kernel_rfl)
theorem cWy (args : List DV) (h : Hp) : aL CF rec n 109 args h = s109 rec n (args.getD 0 aA) h :=
 cZ (dFo rec n) args h (by kernel_rfl) (by kernel_rfl)
def s110 (rec : RT) (n : Nat) (x0 : DV) (h0 : Hp) : aH :=
 bnd (aF .geq x0 (.i .u8 (Int.ofNat 48)) h0) fun v1 h1 =>
 bnd (gD v1 true (some (x0, h1)) h1) fun v2 h2 =>
 bnd (gD v1 true (aF .leq v2 (.i .u8 (Int.ofNat 57)) h2) h2) fun v3 h3 =>
 bnd (aV v1 v3 (.b false) h3) fun v4 h4 =>
 some (v4, h4)
abbrev c110 : Code := cf Tryz.f110
abbrev r110 : K := bD CF Tryz.f110
def D110 (rec : RT) (n : Nat) (c : Code) (X : Nat → K) (k : K) : K := aR CF rec 9 n c X r110 k
theorem dFx : D110 rec n c110 x0 r110 = (K1 (s110 rec n) 0) :=
 (by kernel_rfl)
theorem cTu (args : List DV) (h : Hp) : aL CF rec n 110 args h = s110 rec n (args.getD 0 aA) h :=
 cZ (dFx rec n) args h (by kernel_rfl) (by kernel_rfl)
def eA (rec : RT) (n : Nat) (x4 : DV) (h0 : Hp) : aH :=
 some (.t [x4, (.i .i64 (Int.ofNat 0))], h0)
def oO (rec : RT) (n : Nat) (kk5 : dE) (x4 x14 : DV) (h0 : Hp) : aH :=
 bnd (vJ x14 h0) fun v1 h1 =>
 bnd (aK 0 v1 h1) fun v2 h2 =>
 aU v2 (
 bnd (aK 2 v1 h2) fun v3 h3 =>
 bnd (aF .gtr x4 (.i .i64 (Int.ofNat 115292150460684697)) h3) fun v4 h4 =>
 aU v4 (
 some (.t [(.i .i64 (Int.ofNat 0)), (.i .i64 (Int.ofNat 2))], h4)) (
 bnd (aF .mul x4 (.i .i64 (Int.ofNat 10)) h4) fun v5 h5 =>
 bnd (aF .sub v3 (.i .i32 (Int.ofNat 48)) h5) fun v6 h6 =>
 bnd (kJ .i64 v6 h6) fun v7 h7 =>
 bnd (aF .add v5 v7 h7) fun v8 h8 =>
 bnd (aF .gtr v8 (.i .i64 (Int.ofNat 1152921504606846976)) h8) fun v9 h9 =>
 aU v9 (
 some (.t [(.i .i64 (Int.ofNat 0)), (.i .i64 (Int.ofNat 2))], h9)) (
  kk5 v8 x14 h9))) (
  eA rec n x4 h2)
def jP (rec : RT) (n : Nat) (m : Nat) : dE :=
 Nat.rec (motive := fun _ => dE) (fun _ _ _ => none) (fun _ ih => oO rec n ih) m
def aSs (rec : RT) (n : Nat) : dE := jP rec n n
def aJe (rec : RT) (n : Nat) (x4 x14 : DV) (h0 : Hp) : aH :=
 aSs rec n x4 x14 h0
def aDx (rec : RT) (n : Nat) (x0 x4 : DV) (h0 : Hp) : aH :=
 bnd (bM x0 h0) fun v1 h1 =>
 bnd (aB 0 v1 h1) fun v2 h2 =>
 bnd (aD v2 h2) fun v3 h3 =>
 bnd (cS v3 h3) fun v4 h4 =>
 bnd (rec 74 [x0, (.f 110 [] []), v4] h4) fun v5 h5 =>
 bnd (aKy v5 h5) fun v6 h6 =>
  aJe rec n x4 v6 h6
def aHd (rec : RT) (n : Nat) (x0 : DV) (h0 : Hp) : aH :=
 aDx rec n x0 (.i .i64 (Int.ofNat 0)) h0
def s111 (rec : RT) (n : Nat) (x0 : DV) (h0 : Hp) : aH :=
 aHd rec n x0 h0
abbrev c111 : Code := cf Tryz.f111
abbrev aJd := cR c111
abbrev aGr := cR aJd
abbrev cXm := cR aGr
abbrev yR := cL aGr
abbrev aQa := cR yR
abbrev aDy := cL aQa
abbrev pV := cL aDy
abbrev bVk := cL yR
abbrev bSj := cL aJd
abbrev aYv := cL c111
abbrev r111 : K := bD CF Tryz.f111
def D111 (rec : RT) (n : Nat) (c : Code) (X : Nat → K) (k : K) : K := aR CF rec 29 n c X r111 k
theorem cJm : D111 rec n cXm x0 r111 = (K1 (eA rec n) 4) := by kernel_rfl
theorem bWt (kk5 : dE) : D111 rec n pV (xs x0 0 (K1 (eA rec n) 4)) (K2 kk5 4 14) = (K2 (oO rec n kk5) 4 14) := by kernel_rfl
theorem bHx (m : Nat) : aG (fun kk => D111 rec n pV (xs x0 0 (K1 (eA rec n) 4)) kk) m = (K2 (jP rec n m) 4 14) := by
 induction m with
 | zero => exact (by kernel_rfl : aG (fun kk => D111 rec n pV (xs x0 0 (K1 (eA rec n) 4)) kk) 0 = (K2 (jP rec n 0) 4 14))
 | succ m ih =>
  refine (by kernel_rfl : aG (fun kk => D111 rec n pV (xs x0 0 (K1 (eA rec n) 4)) kk) (m + 1) = D111 rec n pV (xs x0 0 (K1 (eA rec n) 4)) (aG (fun kk => D111 rec n pV (xs x0 0 (K1 (eA rec n) 4)) kk) m)).trans ?_
  rw [ih]
  exact (bWt rec n (jP rec n m)).trans (by kernel_rfl)
theorem bZo : D111 rec n aDy (xs x0 0 (K1 (eA rec n) 4)) (K1 (eA rec n) 4) = (K2 (aSs rec n) 4 14) :=
 (by kernel_rfl : D111 rec n aDy (xs x0 0 (K1 (eA rec n) 4)) (K1 (eA rec n) 4) = aG (fun kk => D111 rec n pV (xs x0 0 (K1 (eA rec n) 4)) kk) n).trans ((bHx rec n n).trans (by kernel_rfl))
theorem cGj : D111 rec n aQa x0 (K1 (eA rec n) 4) = (K2 (aJe rec n) 4 14) :=
 (by kernel_rfl : D111 rec n aQa x0 (K1 (eA rec n) 4) = D111 rec n aDy (xs x0 0 (K1 (eA rec n) 4)) (K1 (eA rec n) 4)).trans
 ((bZo rec n).trans (by kernel_rfl))
theorem bQy : D111 rec n aGr x0 r111 = D111 rec n yR x0 (K1 (eA rec n) 4) :=
 congrArg (fun k => D111 rec n yR x0 k) (cJm rec n)
theorem bLg : D111 rec n yR x0 (K1 (eA rec n) 4) = D111 rec n bVk x0 (K2 (aJe rec n) 4 14) :=
 congrArg (fun k => D111 rec n bVk x0 k) (cGj rec n)
theorem bZe : D111 rec n aGr x0 r111 = (K2 (aDx rec n) 0 4) :=
 (bQy rec n).trans
 ((bLg rec n).trans
 ((by kernel_rfl)))
theorem bRz : D111 rec n aJd x0 r111 = D111 rec n bSj x0 (K2 (aDx rec n) 0 4) :=
 congrArg (fun k => D111 rec n bSj x0 k) (bZe rec n)
theorem cDg : D111 rec n aJd x0 r111 = (K1 (aHd rec n) 0) :=
 (bRz rec n).trans
 ((by kernel_rfl))
theorem cSz : D111 rec n c111 x0 r111 = D111 rec n aYv x0 (K1 (aHd rec n) 0) :=
 congrArg (fun k => D111 rec n aYv x0 k) (cDg rec n)
theorem dFy : D111 rec n c111 x0 r111 = (K1 (s111 rec n) 0) :=
 (cSz rec n).trans
 ((by kernel_rfl))
theorem cWm (args : List DV) (h : Hp) : aL CF rec n 111 args h = s111 rec n (args.getD 0 aA) h :=
 cZ (dFy rec n) args h (by kernel_rfl) (by kernel_rfl)
def vX (rec : RT) (n : Nat) (kk3 : dE) (x0 x4 : DV) (h0 : Hp) : aH :=
 bnd (bM x0 h0) fun v1 h1 =>
 bnd (aB 0 v1 h1) fun v2 h2 =>
 bnd (aD v2 h2) fun v3 h3 =>
 bnd (cS v3 h3) fun v4 h4 =>
 bnd (rec 74 [x0, (.f 133 [] []), v4] h4) fun v5 h5 =>
 bnd (bY .add x4 v5 h5) fun v6 h6 =>
 bnd (bM x0 h6) fun v7 h7 =>
 bnd (aB 1 v7 h7) fun v8 h8 =>
 bnd (aD v8 h8) fun v9 h9 =>
 bnd (bM x0 h9) fun v10 h10 =>
 bnd (aB 0 v10 h10) fun v11 h11 =>
 bnd (aD v11 h11) fun v12 h12 =>
 bnd (cS v12 h12) fun v13 h13 =>
 bnd (aF .geq v9 v13 h13) fun v14 h14 =>
 aU v14 (
 some (.t [(.s []), (.i .i64 (Int.ofNat 11))], h14)) (
 bnd (bM x0 h14) fun v15 h15 =>
 bnd (aB 1 v15 h15) fun v16 h16 =>
 bnd (aD v16 h16) fun v17 h17 =>
 bnd (aF .add v17 (.i .i64 (Int.ofNat 1)) h17) fun v18 h18 =>
 bnd (bM x0 h18) fun v19 h19 =>
 bnd (aB 1 v19 h19) fun v20 h20 =>
 bnd (aC 1 v20 v18 h20) fun _ h21 =>
 bnd (rec 106 [x0, (.i .i64 (Int.ofNat 0))] h21) fun v22 h22 =>
 bnd (aF .neq v22 (.i .u8 (Int.ofNat 39)) h22) fun v23 h23 =>
 aU v23 (
 some (.t [v6, (.i .i64 (Int.ofNat 0))], h23)) (
 bnd (bY .add v6 (.s [39]) h23) fun v24 h24 =>
 bnd (bM x0 h24) fun v25 h25 =>
 bnd (aB 1 v25 h25) fun v26 h26 =>
 bnd (aD v26 h26) fun v27 h27 =>
 bnd (aF .add v27 (.i .i64 (Int.ofNat 1)) h27) fun v28 h28 =>
 bnd (bM x0 h28) fun v29 h29 =>
 bnd (aB 1 v29 h29) fun v30 h30 =>
 bnd (aC 1 v30 v28 h30) fun _ h31 =>
  kk3 x0 v24 h31))
def mN (rec : RT) (n : Nat) (m : Nat) : dE :=
 Nat.rec (motive := fun _ => dE) (fun _ _ _ => none) (fun _ ih => vX rec n ih) m
def aRk (rec : RT) (n : Nat) : dE := mN rec n n
def aEl (rec : RT) (n : Nat) (x0 x4 : DV) (h0 : Hp) : aH :=
 aRk rec n x0 x4 h0
def aIp (rec : RT) (n : Nat) (x0 : DV) (h0 : Hp) : aH :=
 aEl rec n x0 (.s []) h0
def s112 (rec : RT) (n : Nat) (x0 : DV) (h0 : Hp) : aH :=
 aIp rec n x0 h0
abbrev c112 : Code := cf Tryz.f112
abbrev aJj := cR c112
abbrev aSn := cR aJj
abbrev aEh := cL aSn
abbrev rO := cL aEh
abbrev bXn := cL aJj
abbrev bXj := cL c112
abbrev r112 : K := bD CF Tryz.f112
def D112 (rec : RT) (n : Nat) (c : Code) (X : Nat → K) (k : K) : K := aR CF rec 44 n c X r112 k
theorem bKo (kk3 : dE) : D112 rec n rO (xs x0 0 r112) (K2 kk3 0 4) = (K2 (vX rec n kk3) 0 4) := by kernel_rfl
theorem bSc (m : Nat) : aG (fun kk => D112 rec n rO (xs x0 0 r112) kk) m = (K2 (mN rec n m) 0 4) := by
 induction m with
 | zero => exact (by kernel_rfl : aG (fun kk => D112 rec n rO (xs x0 0 r112) kk) 0 = (K2 (mN rec n 0) 0 4))
 | succ m ih =>
  refine (by kernel_rfl : aG (fun kk => D112 rec n rO (xs x0 0 r112) kk) (m + 1) = D112 rec n rO (xs x0 0 r112) (aG (fun kk => D112 rec n rO (xs x0 0 r112) kk) m)).trans ?_
  rw [ih]
  exact (bKo rec n (mN rec n m)).trans (by kernel_rfl)
theorem cHs : D112 rec n aEh (xs x0 0 r112) r112 = (K2 (aRk rec n) 0 4) :=
 (by kernel_rfl : D112 rec n aEh (xs x0 0 r112) r112 = aG (fun kk => D112 rec n rO (xs x0 0 r112) kk) n).trans ((bSc rec n n).trans (by kernel_rfl))
theorem cGm : D112 rec n aSn x0 r112 = (K2 (aEl rec n) 0 4) :=
 (by kernel_rfl : D112 rec n aSn x0 r112 = D112 rec n aEh (xs x0 0 r112) r112).trans
 ((cHs rec n).trans (by kernel_rfl))
theorem bSy : D112 rec n aJj x0 r112 = D112 rec n bXn x0 (K2 (aEl rec n) 0 4) :=
 congrArg (fun k => D112 rec n bXn x0 k) (cGm rec n)
theorem cNh : D112 rec n aJj x0 r112 = (K1 (aIp rec n) 0) :=
 (bSy rec n).trans
 ((by kernel_rfl))
theorem dAh : D112 rec n c112 x0 r112 = D112 rec n bXj x0 (K1 (aIp rec n) 0) :=
 congrArg (fun k => D112 rec n bXj x0 k) (cNh rec n)
theorem dEp : D112 rec n c112 x0 r112 = (K1 (s112 rec n) 0) :=
 (dAh rec n).trans
 ((by kernel_rfl))
theorem dDk (args : List DV) (h : Hp) : aL CF rec n 112 args h = s112 rec n (args.getD 0 aA) h :=
 cZ (dEp rec n) args h (by kernel_rfl) (by kernel_rfl)
def eS (rec : RT) (n : Nat) (x5 : DV) (h0 : Hp) : aH :=
 some (.t [x5, (.i .i64 (Int.ofNat 0))], h0)
def vP (rec : RT) (n : Nat) (kk8 : dE) (x0 x5 : DV) (h0 : Hp) : aH :=
 bnd (rec 106 [x0, (.i .i64 (Int.ofNat 0))] h0) fun v1 h1 =>
 bnd (rec 107 [v1] h1) fun v2 h2 =>
 aU v2 (
 bnd (bM x0 h2) fun v3 h3 =>
 bnd (aB 1 v3 h3) fun v4 h4 =>
 bnd (aD v4 h4) fun v5 h5 =>
 bnd (rec 108 [x0] h5) fun v6 h6 =>
 bnd (aK 0 v6 h6) fun v7 h7 =>
 bnd (aK 1 v6 h7) fun v8 h8 =>
 bnd (rec 109 [x0] h8) fun v9 h9 =>
 bnd (jZ .not v9 h9) fun v10 h10 =>
 aU v10 (
 bnd (bM x0 h10) fun v11 h11 =>
 bnd (aB 1 v11 h11) fun v12 h12 =>
 bnd (aC 1 v12 v5 h12) fun _ h13 =>
 some (.t [x5, (.i .i64 (Int.ofNat 0))], h13)) (
 bnd (aF .neq v8 (.i .i64 (Int.ofNat 0)) h10) fun v14 h14 =>
 aU v14 (
 some (.t [(.s []), v8], h14)) (
 bnd (bY .add v7 (.s [58]) h14) fun v15 h15 =>
 bnd (bY .add x5 v15 h15) fun v16 h16 =>
  kk8 x0 v16 h16))) (
      eS rec n x5 h2)
def mG (rec : RT) (n : Nat) (m : Nat) : dE :=
 Nat.rec (motive := fun _ => dE) (fun _ _ _ => none) (fun _ ih => vP rec n ih) m
def aPu (rec : RT) (n : Nat) : dE := mG rec n n
def aHw (rec : RT) (n : Nat) (x0 x5 : DV) (h0 : Hp) : aH :=
 aPu rec n x0 x5 h0
def aFf (rec : RT) (n : Nat) (x0 x5 : DV) (h0 : Hp) : aH :=
 bnd (bY .add x5 (.s [58]) h0) fun v1 h1 =>
  aHw rec n x0 v1 h1
def aEq (rec : RT) (n : Nat) (x0 x5 x6 : DV) (h0 : Hp) : aH :=
 bnd (aF .neq x6 (.i .i64 (Int.ofNat 0)) h0) fun v1 h1 =>
 bnd (gD v1 false (some (x0, h1)) h1) fun v2 h2 =>
 bnd (gD v1 false (rec 109 [v2] h2) h2) fun v3 h3 =>
 bnd (gD v1 false (jZ .not v3 h3) h3) fun v4 h4 =>
 bnd (aV v1 (.b true) v4 h4) fun v5 h5 =>
 aU v5 (
 some (.t [x5, x6], h5)) (
  aFf rec n x0 x5 h5)
def aHe (rec : RT) (n : Nat) (x0 : DV) (h0 : Hp) : aH :=
 bnd (rec 108 [x0] h0) fun v1 h1 =>
 bnd (aK 0 v1 h1) fun v2 h2 =>
 bnd (aK 1 v1 h2) fun v3 h3 =>
  aEq rec n x0 v2 v3 h3
def aJt (rec : RT) (n : Nat) (x0 : DV) (h0 : Hp) : aH :=
 bnd (rec 106 [x0, (.i .i64 (Int.ofNat 0))] h0) fun v1 h1 =>
 bnd (rec 107 [v1] h1) fun v2 h2 =>
 bnd (jZ .not v2 h2) fun v3 h3 =>
 aU v3 (
 some (.t [(.s []), (.i .i64 (Int.ofNat 10))], h3)) (
  aHe rec n x0 h3)
def aFt (rec : RT) (n : Nat) (x0 : DV) (h0 : Hp) : aH :=
 bnd (rec 75 [(.s [43, 45, 42, 47, 60, 62, 61, 126, 44, 64, 38, 37])] h0) fun v1 h1 =>
 bnd (rec 74 [x0, v1, (.i .i64 (Int.ofNat 2))] h1) fun v2 h2 =>
 bnd (bY .neq v2 (.s []) h2) fun v3 h3 =>
 aU v3 (
 some (.t [v2, (.i .i64 (Int.ofNat 0))], h3)) (
  aJt rec n x0 h3)
def s113 (rec : RT) (n : Nat) (x0 : DV) (h0 : Hp) : aH :=
 aFt rec n x0 h0
abbrev c113 : Code := cf Tryz.f113
abbrev aHr := cR c113
abbrev aDw := cR aHr
abbrev aKz := cR aDw
abbrev aIt := cR aKz
abbrev aJw := cR aIt
abbrev aKn := cR aJw
abbrev cYm := cR aKn
abbrev aKp := cL aKn
abbrev aGh := cL aKp
abbrev mJ := cL aGh
abbrev bDx := cL aJw
abbrev aVl := cL aIt
abbrev aXv := cL aKz
abbrev aWp := cL aDw
abbrev bCu := cL aHr
abbrev bDz := cL c113
abbrev r113 : K := bD CF Tryz.f113
def D113 (rec : RT) (n : Nat) (c : Code) (X : Nat → K) (k : K) : K := aR CF rec 64 n c X r113 k
theorem bZs : D113 rec n cYm x0 r113 = (K1 (eS rec n) 5) := by kernel_rfl
theorem bYg (kk8 : dE) : D113 rec n mJ (xs x0 0 (K1 (eS rec n) 5)) (K2 kk8 0 5) = (K2 (vP rec n kk8) 0 5) := by kernel_rfl
theorem bGv (m : Nat) : aG (fun kk => D113 rec n mJ (xs x0 0 (K1 (eS rec n) 5)) kk) m = (K2 (mG rec n m) 0 5) := by
 induction m with
 | zero => exact (by kernel_rfl : aG (fun kk => D113 rec n mJ (xs x0 0 (K1 (eS rec n) 5)) kk) 0 = (K2 (mG rec n 0) 0 5))
 | succ m ih =>
  refine (by kernel_rfl : aG (fun kk => D113 rec n mJ (xs x0 0 (K1 (eS rec n) 5)) kk) (m + 1) = D113 rec n mJ (xs x0 0 (K1 (eS rec n) 5)) (aG (fun kk => D113 rec n mJ (xs x0 0 (K1 (eS rec n) 5)) kk) m)).trans ?_
  rw [ih]
  exact (bYg rec n (mG rec n m)).trans (by kernel_rfl)
theorem cKj : D113 rec n aGh (xs x0 0 (K1 (eS rec n) 5)) (K1 (eS rec n) 5) = (K2 (aPu rec n) 0 5) :=
 (by kernel_rfl : D113 rec n aGh (xs x0 0 (K1 (eS rec n) 5)) (K1 (eS rec n) 5) = aG (fun kk => D113 rec n mJ (xs x0 0 (K1 (eS rec n) 5)) kk) n).trans ((bGv rec n n).trans (by kernel_rfl))
theorem bUp : D113 rec n aKn x0 r113 = D113 rec n aKp x0 (K1 (eS rec n) 5) :=
 congrArg (fun k => D113 rec n aKp x0 k) (bZs rec n)
theorem cLz : D113 rec n aKn x0 r113 = (K2 (aHw rec n) 0 5) :=
 (bUp rec n).trans
 ((by kernel_rfl : D113 rec n aKp x0 (K1 (eS rec n) 5) = D113 rec n aGh (xs x0 0 (K1 (eS rec n) 5)) (K1 (eS rec n) 5)).trans
 ((cKj rec n).trans (by kernel_rfl)))
theorem bTu : D113 rec n aJw x0 r113 = D113 rec n bDx x0 (K2 (aHw rec n) 0 5) :=
 congrArg (fun k => D113 rec n bDx x0 k) (cLz rec n)
theorem bZf : D113 rec n aJw x0 r113 = (K2 (aFf rec n) 0 5) :=
 (bTu rec n).trans
 ((by kernel_rfl))
theorem bPg : D113 rec n aIt x0 r113 = D113 rec n aVl x0 (K2 (aFf rec n) 0 5) :=
 congrArg (fun k => D113 rec n aVl x0 k) (bZf rec n)
theorem cAa : D113 rec n aIt x0 r113 = (K3 (aEq rec n) 0 5 6) :=
 (bPg rec n).trans
 ((by kernel_rfl))
theorem bSh : D113 rec n aKz x0 r113 = D113 rec n aXv x0 (K3 (aEq rec n) 0 5 6) :=
 congrArg (fun k => D113 rec n aXv x0 k) (cAa rec n)
theorem cFx : D113 rec n aKz x0 r113 = (K1 (aHe rec n) 0) :=
 (bSh rec n).trans
 ((by kernel_rfl))
theorem bKw : D113 rec n aDw x0 r113 = D113 rec n aWp x0 (K1 (aHe rec n) 0) :=
 congrArg (fun k => D113 rec n aWp x0 k) (cFx rec n)
theorem cEl : D113 rec n aDw x0 r113 = (K1 (aJt rec n) 0) :=
 (bKw rec n).trans
 ((by kernel_rfl))
theorem bSp : D113 rec n aHr x0 r113 = D113 rec n bCu x0 (K1 (aJt rec n) 0) :=
 congrArg (fun k => D113 rec n bCu x0 k) (cEl rec n)
theorem cNd : D113 rec n aHr x0 r113 = (K1 (aFt rec n) 0) :=
 (bSp rec n).trans
 ((by kernel_rfl))
theorem cTo : D113 rec n c113 x0 r113 = D113 rec n bDz x0 (K1 (aFt rec n) 0) :=
 congrArg (fun k => D113 rec n bDz x0 k) (cNd rec n)
theorem dEh : D113 rec n c113 x0 r113 = (K1 (s113 rec n) 0) :=
 (cTo rec n).trans
 ((by kernel_rfl))
theorem dCc (args : List DV) (h : Hp) : aL CF rec n 113 args h = s113 rec n (args.getD 0 aA) h :=
 cZ (dEh rec n) args h (by kernel_rfl) (by kernel_rfl)
def eO (rec : RT) (n : Nat) (x2 x4 : DV) (h0 : Hp) : aH :=
 bnd (aE 6 x4 h0) fun v1 h1 =>
 bnd (aC 6 x2 v1 h1) fun _ h2 =>
 bnd (aE 6 x2 h2) fun v3 _ =>
 some (v3, h2)
def wC (rec : RT) (n : Nat) (kk7 : cQ) (x0 x2 x4 : DV) (h0 : Hp) : aH :=
 bnd (rec 77 [x0, (.i .i64 (Int.ofNat 10)), (.s [59])] h0) fun v1 h1 =>
 aU v1 (
 bnd (rec 78 [x0] h1) fun v2 h2 =>
 bnd (aB 5 x4 (hC 1 h2)) fun v3 h3 =>
 bnd (aD v3 h3) fun v4 h4 =>
 bnd (rec 139 [x0] h4) fun v5 h5 =>
 cnd (bP (aD v3 h5) v4 && true) (
 bnd (rec 138 [v5] h5) fun v6 h6 =>
 cnd (bP (aD v3 h6) v4 && true) (
 bnd (aZ (cT 0 h2.next) [(.i .i64 (Int.ofNat 0)), (.s []), (.i .i64 (Int.ofNat 0)), .l0, .l0, .l0] 1 [(0, 6, v6)] h6) fun v7 h7 =>
 bnd (aX 6 104 v4 v7 h7) fun v8 h8 =>
 bnd (aB 5 x4 h8) fun v9 h9 =>
 bnd (aC 1 v9 v8 h9) fun v10 h10 =>
      kk7 x0 x2 x4 h10))) (
      eO rec n x2 x4 h1)
def mM (rec : RT) (n : Nat) (m : Nat) : cQ :=
 Nat.rec (motive := fun _ => cQ) (fun _ _ _ _ => none) (fun _ ih => wC rec n ih) m
def aRs (rec : RT) (n : Nat) : cQ := mM rec n n
def aGz (rec : RT) (n : Nat) (x0 x2 x4 : DV) (h0 : Hp) : aH :=
 aRs rec n x0 x2 x4 h0
def aKb (rec : RT) (n : Nat) (x0 x2 x3 : DV) (h0 : Hp) : aH :=
 bnd (aB 5 x3 (hC 2 h0)) fun v1 h1 =>
 bnd (aD v1 h1) fun v2 h2 =>
 bnd (aP 6 v2 (.i .i64 (Int.ofNat 0)) h2) fun v3 h3 =>
 bnd (aE 6 v3 h3) fun v4 h4 =>
 bnd (aE 6 x3 h4) fun v5 h5 =>
 bnd (rec 138 [v5] h5) fun v6 h6 =>
 cnd (bP (aE 6 v3 h6) v4 && (bP (aD v1 h6) v2 && true)) (
 bnd (aZ (cT 0 h0.next) [(.i .i64 (Int.ofNat 0)), (.s []), (.i .i64 (Int.ofNat 0)), .l0, .l0, .l0, (.i .i64 (Int.ofNat 0)), (.s []), (.i .i64 (Int.ofNat 0)), .l0, .l0, .l0] 2 [(0, 6, v4), (6, 6, v6)] h6) fun v7 h7 =>
 bnd (bB [(.i .i64 (Int.ofNat 0)), (.s []), (.i .i64 (Int.ofNat 0)), .l0, .l0, .l0] [(0, 1, (.i .i64 (Int.ofNat 8))), (5, 1, v7)] h7) fun v8 h8 =>
 bnd (tG (cT 1 h0.next) [(.i .i64 (Int.ofNat 0)), (.s []), (.i .i64 (Int.ofNat 0)), .l0, .l0, .l0] h8) fun v9 h9 =>
 bnd (aC 6 v9 v8 h9) fun v10 h10 =>
  aGz rec n x0 x2 v9 h10)
def aFn (rec : RT) (n : Nat) (x0 x2 x3 : DV) (h0 : Hp) : aH :=
 bnd (aB 0 x3 h0) fun v1 h1 =>
 bnd (aD v1 h1) fun v2 h2 =>
 bnd (aF .neq v2 (.i .i64 (Int.ofNat 7)) h2) fun v3 h3 =>
 aU v3 (
 bnd (rec 81 [x0, (.i .i64 (Int.ofNat 0))] h3) fun v4 h4 =>
 bnd (rec 80 [x0, v4, (.i .i64 (Int.ofNat 13))] h4) fun v5 h5 =>
 bnd (aE 6 x3 h5) fun v6 h6 =>
 bnd (aC 6 x2 v6 h6) fun _ h7 =>
 bnd (aE 6 x2 h7) fun v8 _ =>
 some (v8, h7)) (
  aKb rec n x0 x2 x3 h3)
def aEm (rec : RT) (n : Nat) (x0 x2 x3 : DV) (h0 : Hp) : aH :=
 bnd (rec 77 [x0, (.i .i64 (Int.ofNat 10)), (.s [59])] h0) fun v1 h1 =>
 bnd (jZ .not v1 h1) fun v2 h2 =>
 aU v2 (
 bnd (aE 6 x3 h2) fun v3 h3 =>
 bnd (aC 6 x2 v3 h3) fun _ h4 =>
 bnd (aE 6 x2 h4) fun v5 _ =>
 some (v5, h4)) (
  aFn rec n x0 x2 x3 h2)
def tP (rec : RT) (n : Nat) (x0 x2 : DV) (h0 : Hp) : aH :=
 bnd (rec 137 [x0] h0) fun v1 h1 =>
 bnd (rec 136 [x0, v1] h1) fun v2 h2 =>
 bnd (rec 135 [x0, v2] h2) fun v3 h3 =>
 bnd (rec 134 [x0, v3] h3) fun v4 h4 =>
 bnd (bG [(.i .i64 (Int.ofNat 0)), (.s []), (.i .i64 (Int.ofNat 0)), .l0, .l0, .l0] h4) fun v5 h5 =>
 bnd (aC 6 v5 v4 h5) fun _ h6 =>
  aEm rec n x0 x2 v5 h6
def s114 (rec : RT) (n : Nat) (x0 : DV) (h0 : Hp) : aH :=
 bnd (bG [(.i .i64 (Int.ofNat 0)), (.s []), (.i .i64 (Int.ofNat 0)), .l0, .l0, .l0] h0) fun v1 h1 =>
  tP rec n x0 v1 h1
abbrev c114 : Code := cf Tryz.f114
abbrev aKu := cR c114
abbrev aIm := cR aKu
abbrev aJn := cR aIm
abbrev aIu := cR aJn
abbrev aEy := cR aIu
abbrev dDn := cR aEy
abbrev aFc := cL aEy
abbrev aKm := cL aFc
abbrev rK := cL aKm
abbrev aWi := cL aIu
abbrev aSy := cL aJn
abbrev bDt := cL aIm
abbrev bEa := cL aKu
abbrev aGq := cL c114
abbrev r114 : K := bD CF Tryz.f114
def D114 (rec : RT) (n : Nat) (c : Code) (X : Nat → K) (k : K) : K := aR CF rec 46 n c X r114 k
theorem cGb : D114 rec n dDn x0 r114 = (K2 (eO rec n) 2 4) := by kernel_rfl
theorem bPt (kk7 : cQ) : D114 rec n rK (xs x0 0 (K2 (eO rec n) 2 4)) (K3 kk7 0 2 4) = (K3 (wC rec n kk7) 0 2 4) := by kernel_rfl
theorem bWy (m : Nat) : aG (fun kk => D114 rec n rK (xs x0 0 (K2 (eO rec n) 2 4)) kk) m = (K3 (mM rec n m) 0 2 4) := by
 induction m with
 | zero => exact (by kernel_rfl : aG (fun kk => D114 rec n rK (xs x0 0 (K2 (eO rec n) 2 4)) kk) 0 = (K3 (mM rec n 0) 0 2 4))
 | succ m ih =>
  refine (by kernel_rfl : aG (fun kk => D114 rec n rK (xs x0 0 (K2 (eO rec n) 2 4)) kk) (m + 1) = D114 rec n rK (xs x0 0 (K2 (eO rec n) 2 4)) (aG (fun kk => D114 rec n rK (xs x0 0 (K2 (eO rec n) 2 4)) kk) m)).trans ?_
  rw [ih]
  exact (bPt rec n (mM rec n m)).trans (by kernel_rfl)
theorem cJj : D114 rec n aKm (xs x0 0 (K2 (eO rec n) 2 4)) (K2 (eO rec n) 2 4) = (K3 (aRs rec n) 0 2 4) :=
 (by kernel_rfl : D114 rec n aKm (xs x0 0 (K2 (eO rec n) 2 4)) (K2 (eO rec n) 2 4) = aG (fun kk => D114 rec n rK (xs x0 0 (K2 (eO rec n) 2 4)) kk) n).trans ((bWy rec n n).trans (by kernel_rfl))
theorem bPs : D114 rec n aEy x0 r114 = D114 rec n aFc x0 (K2 (eO rec n) 2 4) :=
 congrArg (fun k => D114 rec n aFc x0 k) (cGb rec n)
theorem cLu : D114 rec n aEy x0 r114 = (K3 (aGz rec n) 0 2 4) :=
 (bPs rec n).trans
 ((by kernel_rfl : D114 rec n aFc x0 (K2 (eO rec n) 2 4) = D114 rec n aKm (xs x0 0 (K2 (eO rec n) 2 4)) (K2 (eO rec n) 2 4)).trans
 ((cJj rec n).trans (by kernel_rfl)))
theorem bMv : D114 rec n aIu x0 r114 = D114 rec n aWi x0 (K3 (aGz rec n) 0 2 4) :=
 congrArg (fun k => D114 rec n aWi x0 k) (cLu rec n)
theorem cKx : D114 rec n aIu x0 r114 = (K3 (aKb rec n) 0 2 3) :=
 (bMv rec n).trans
 ((by kernel_rfl))
theorem bJu : D114 rec n aJn x0 r114 = D114 rec n aSy x0 (K3 (aKb rec n) 0 2 3) :=
 congrArg (fun k => D114 rec n aSy x0 k) (cKx rec n)
theorem cNe : D114 rec n aJn x0 r114 = (K3 (aFn rec n) 0 2 3) :=
 (bJu rec n).trans
 ((by kernel_rfl))
theorem bOq : D114 rec n aIm x0 r114 = D114 rec n bDt x0 (K3 (aFn rec n) 0 2 3) :=
 congrArg (fun k => D114 rec n bDt x0 k) (cNe rec n)
theorem cJi : D114 rec n aIm x0 r114 = (K3 (aEm rec n) 0 2 3) :=
 (bOq rec n).trans
 ((by kernel_rfl))
theorem bIb : D114 rec n aKu x0 r114 = D114 rec n bEa x0 (K3 (aEm rec n) 0 2 3) :=
 congrArg (fun k => D114 rec n bEa x0 k) (cJi rec n)
theorem bYt : D114 rec n aKu x0 r114 = (K2 (tP rec n) 0 2) :=
 (bIb rec n).trans
 ((by kernel_rfl))
theorem cZc : D114 rec n c114 x0 r114 = D114 rec n aGq x0 (K2 (tP rec n) 0 2) :=
 congrArg (fun k => D114 rec n aGq x0 k) (bYt rec n)
theorem cKh (q0 : dE) : D114 rec n aGq x0 (K2 q0 0 2) = fun (env : eE) (h : Hp) =>
 bnd (bG [(.i .i64 (Int.ofNat 0)), (.s []), (.i .i64 (Int.ofNat 0)), .l0, .l0, .l0] h) fun v1 h1 =>
  q0 (env 0) v1 h1 := by kernel_rfl
theorem bLv : (fun (env : eE) (h : Hp) =>
 bnd (bG [(.i .i64 (Int.ofNat 0)), (.s []), (.i .i64 (Int.ofNat 0)), .l0, .l0, .l0] h) fun v1 h1 =>
  tP rec n (env 0) v1 h1) = (K1 (s114 rec n) 0) := by kernel_rfl
theorem dGr : D114 rec n c114 x0 r114 = (K1 (s114 rec n) 0) :=
 (cZc rec n).trans
 ((cKh rec n (tP rec n)).trans (bLv rec n))
theorem cWp (args : List DV) (h : Hp) : aL CF rec n 114 args h = s114 rec n (args.getD 0 aA) h :=
 cZ (dGr rec n) args h (by kernel_rfl) (by kernel_rfl)
def s126 (rec : RT) (n : Nat) (x0 : DV) (h0 : Hp) : aH :=
 bnd (dW x0 h0) fun v1 h1 =>
 bnd (aB 0 v1 h1) fun v2 h2 =>
 bnd (aD v2 h2) fun v3 h3 =>
 bnd (aF .eql v3 (.i .i64 (Int.ofNat 7)) h3) fun v4 h4 =>
 aU v4 (
 bnd (aB 1 v1 h4) fun v5 h5 =>
 bnd (aD v5 h5) fun v6 h6 =>
 bnd (rec 32 [v6] h6) fun v7 h7 =>
 some (v7, h7)) (
 bnd (aF .eql v3 (.i .i64 (Int.ofNat 8)) h4) fun v8 h8 =>
 aU v8 (
 some ((.i .i64 (Int.ofNat 4)), h8)) (
 bnd (aF .eql v3 (.i .i64 (Int.ofNat 6)) h8) fun v9 h9 =>
 aU v9 (
 some ((.i .i64 (Int.ofNat 5)), h9)) (
 some ((.i .i64 (Int.ofNat 0)), h9))))
abbrev c126 : Code := cf Tryz.f126
abbrev r126 : K := bD CF Tryz.f126
def D126 (rec : RT) (n : Nat) (c : Code) (X : Nat → K) (k : K) : K := aR CF rec 14 n c X r126 k
theorem dJw : D126 rec n c126 x0 r126 = (K1 (s126 rec n) 0) :=
 (by kernel_rfl)
theorem cUj (args : List DV) (h : Hp) : aL CF rec n 126 args h = s126 rec n (args.getD 0 aA) h :=
 cZ (dJw rec n) args h (by kernel_rfl) (by kernel_rfl)
def aEr (rec : RT) (n : Nat) (x2 x7 x8 : DV) (h0 : Hp) : aH :=
 bnd (aF .gtr x8 x2 h0) fun v1 h1 =>
 aU v1 (
 bnd (aE 6 x7 h1) fun v2 h2 =>
 bnd (rec 65 [v2] h2) fun v3 h3 =>
 bnd (bY .add (.s [40]) v3 h3) fun v4 h4 =>
 bnd (bY .add v4 (.s [41]) h4) fun v5 h5 =>
 some (v5, h5)) (
 bnd (aE 6 x7 h1) fun v6 h6 =>
 bnd (rec 65 [v6] h6) fun v7 h7 =>
 some (v7, h7))
def aBc (rec : RT) (n : Nat) (x2 x7 x8 : DV) (h0 : Hp) : aH :=
 bnd (aB 0 x7 h0) fun v1 h1 =>
 bnd (aD v1 h1) fun v2 h2 =>
 bnd (aF .eql v2 (.i .i64 (Int.ofNat 6)) h2) fun v3 h3 =>
 aU v3 (
  aEr rec n x2 x7 (.i .i64 (Int.ofNat 5)) h3) (
  aEr rec n x2 x7 x8 h3)
def aEb (rec : RT) (n : Nat) (x2 x7 x8 : DV) (h0 : Hp) : aH :=
 bnd (aB 0 x7 h0) fun v1 h1 =>
 bnd (aD v1 h1) fun v2 h2 =>
 bnd (aF .eql v2 (.i .i64 (Int.ofNat 8)) h2) fun v3 h3 =>
 aU v3 (
  aBc rec n x2 x7 (.i .i64 (Int.ofNat 4)) h3) (
  aBc rec n x2 x7 x8 h3)
def bHu (rec : RT) (n : Nat) (x2 x7 x8 : DV) (h0 : Hp) : aH :=
 bnd (aB 0 x7 h0) fun v1 h1 =>
 bnd (aD v1 h1) fun v2 h2 =>
 bnd (aF .eql v2 (.i .i64 (Int.ofNat 7)) h2) fun v3 h3 =>
 aU v3 (
 bnd (aB 1 x7 h3) fun v4 h4 =>
 bnd (aD v4 h4) fun v5 h5 =>
 bnd (rec 39 [v5] h5) fun v6 h6 =>
  aEb rec n x2 x7 v6 h6) (
  aEb rec n x2 x7 x8 h3)
def bPa (rec : RT) (n : Nat) (x2 x7 : DV) (h0 : Hp) : aH :=
 bHu rec n x2 x7 (.i .i64 (Int.ofNat 0)) h0
def bNf (rec : RT) (n : Nat) (x0 x1 x2 : DV) (h0 : Hp) : aH :=
 bnd (aP 6 x0 x1 h0) fun v1 h1 =>
 bnd (aE 6 v1 h1) fun v2 h2 =>
 bnd (bG [(.i .i64 (Int.ofNat 0)), (.s []), (.i .i64 (Int.ofNat 0)), .l0, .l0, .l0] h2) fun v3 h3 =>
 bnd (aC 6 v3 v2 h3) fun _ h4 =>
  bPa rec n x2 v3 h4
def bRw (rec : RT) (n : Nat) (x0 x1 x2 : DV) (h0 : Hp) : aH :=
 bnd (dB x0 h0) fun v1 h1 =>
 bnd (aF .geq x1 v1 h1) fun v2 h2 =>
 aU v2 (
 some ((.s []), h2)) (
  bNf rec n x0 x1 x2 h2)
def s127 (rec : RT) (n : Nat) (x0 x1 x2 : DV) (h0 : Hp) : aH :=
 bRw rec n x0 x1 x2 h0
abbrev c127 : Code := cf Tryz.f127
abbrev r127 : K := bD CF Tryz.f127
def D127 (rec : RT) (n : Nat) (c : Code) (X : Nat → K) (k : K) : K := aR CF rec 38 n c X r127 k
theorem dJz : D127 rec n c127 x0 r127 = (K3 (s127 rec n) 0 1 2) := by kernel_rfl
theorem cVh (args : List DV) (h : Hp) : aL CF rec n 127 args h = s127 rec n (args.getD 0 aA) (args.getD 1 aA) (args.getD 2 aA) h :=
 cZ (dJz rec n) args h (by kernel_rfl) (by kernel_rfl)
def s128 (rec : RT) (n : Nat) (x0 : DV) (h0 : Hp) : aH :=
 bnd (bG [(.i .i64 (Int.ofNat 0)), (.s []), (.i .i64 (Int.ofNat 0)), .l0, .l0, .l0] h0) fun v1 h1 =>
 bnd (rec 73 [x0, (.i .i64 (Int.ofNat 0))] h1) fun v2 h2 =>
 bnd (bG [(.i .i64 (Int.ofNat 0)), (.s []), (.i .i64 (Int.ofNat 0)), (.i .i64 (Int.ofNat 0))] h2) fun v3 h3 =>
 bnd (aC 4 v3 v2 h3) fun _ h4 =>
 bnd (rec 68 [x0, (.i .i64 (Int.ofNat 3)), (.s [45])] h4) fun v5 h5 =>
 bnd (gD v5 true (some (x0, h5)) h5) fun v6 h6 =>
 bnd (gD v5 true (rec 73 [v6, (.i .i64 (Int.ofNat 1))] h6) h6) fun v7 h7 =>
 bnd (gD v5 true (cB 0 v7 h7) h7) fun v8 h8 =>
 bnd (gD v5 true (aF .eql v8 (.i .i64 (Int.ofNat 4)) h8) h8) fun v9 h9 =>
 bnd (aV v5 v9 (.b false) h9) fun v10 h10 =>
 bnd (gD v10 true (some (x0, h10)) h10) fun v11 h11 =>
 bnd (gD v10 true (rec 73 [v11, (.i .i64 (Int.ofNat 1))] h11) h11) fun v12 h12 =>
 bnd (gD v10 true (cB 3 v12 h12) h12) fun v13 h13 =>
 bnd (gD v10 true (aB 3 v3 h13) h13) fun v14 h14 =>
 bnd (gD v10 true (aD v14 h14) h14) fun v15 h15 =>
 cnd (bP (gD v10 true (aD v14 h7) h7) v15 && true) (
 bnd (gD v10 true (aF .add v15 (.i .i64 (Int.ofNat 1)) h15) h15) fun v16 h16 =>
 bnd (gD v10 true (aF .eql v13 v16 h16) h16) fun v17 h17 =>
 bnd (aV v10 v17 (.b false) h17) fun v18 h18 =>
 aU v18 (
 bnd (rec 69 [x0] h18) fun v19 h19 =>
 bnd (rec 69 [x0] h19) fun v20 h20 =>
 bnd (cB 2 v20 h20) fun v21 h21 =>
 bnd (jZ .neg v21 h21) fun v22 h22 =>
 bnd (bB [(.i .i64 (Int.ofNat 0)), (.s []), (.i .i64 (Int.ofNat 0)), .l0, .l0, .l0] [(0, 1, (.i .i64 (Int.ofNat 1))), (2, 1, v22)] h22) fun v23 h23 =>
 bnd (aC 6 v1 v23 h23) fun _ h24 =>
 bnd (aE 6 v1 h24) fun v25 _ =>
 some (.t [v25, (.b true)], h24)) (
 bnd (rec 68 [x0, (.i .i64 (Int.ofNat 4)), (.s [])] h18) fun v26 h26 =>
 aU v26 (
 bnd (rec 69 [x0] h26) fun v27 h27 =>
 bnd (cB 2 v27 h27) fun v28 h28 =>
 bnd (bB [(.i .i64 (Int.ofNat 0)), (.s []), (.i .i64 (Int.ofNat 0)), .l0, .l0, .l0] [(0, 1, (.i .i64 (Int.ofNat 1))), (2, 1, v28)] h28) fun v29 h29 =>
 bnd (aC 6 v1 v29 h29) fun _ h30 =>
 bnd (aE 6 v1 h30) fun v31 _ =>
 some (.t [v31, (.b true)], h30)) (
 bnd (rec 68 [x0, (.i .i64 (Int.ofNat 5)), (.s [])] h26) fun v32 h32 =>
 aU v32 (
 bnd (rec 69 [x0] h32) fun v33 h33 =>
 bnd (cB 1 v33 h33) fun v34 h34 =>
 bnd (bB [(.i .i64 (Int.ofNat 0)), (.s []), (.i .i64 (Int.ofNat 0)), .l0, .l0, .l0] [(0, 1, (.i .i64 (Int.ofNat 2))), (1, 1, v34)] h34) fun v35 h35 =>
 bnd (aC 6 v1 v35 h35) fun _ h36 =>
 bnd (aE 6 v1 h36) fun v37 _ =>
 some (.t [v37, (.b true)], h36)) (
 bnd (rec 68 [x0, (.i .i64 (Int.ofNat 6)), (.s [])] h32) fun v38 h38 =>
 aU v38 (
 bnd (rec 69 [x0] h38) fun v39 h39 =>
 bnd (cB 1 v39 h39) fun v40 h40 =>
 bnd (bB [(.i .i64 (Int.ofNat 0)), (.s []), (.i .i64 (Int.ofNat 0)), .l0, .l0, .l0] [(0, 1, (.i .i64 (Int.ofNat 3))), (1, 1, v40)] h40) fun v41 h41 =>
 bnd (aC 6 v1 v41 h41) fun _ h42 =>
 bnd (aE 6 v1 h42) fun v43 _ =>
 some (.t [v43, (.b true)], h42)) (
 bnd (bB [(.i .i64 (Int.ofNat 0)), (.s []), (.i .i64 (Int.ofNat 0)), .l0, .l0, .l0] [] h38) fun v44 h44 =>
 bnd (aC 6 v1 v44 h44) fun _ h45 =>
 bnd (aE 6 v1 h45) fun v46 _ =>
 some (.t [v46, (.b false)], h45))))))
abbrev c128 : Code := cf Tryz.f128
abbrev r128 : K := bD CF Tryz.f128
def D128 (rec : RT) (n : Nat) (c : Code) (X : Nat → K) (k : K) : K := aR CF rec 50 n c X r128 k
theorem dIj : D128 rec n c128 x0 r128 = (K1 (s128 rec n) 0) :=
 (by kernel_rfl)
theorem cXd (args : List DV) (h : Hp) : aL CF rec n 128 args h = s128 rec n (args.getD 0 aA) h :=
 cZ (dIj rec n) args h (by kernel_rfl) (by kernel_rfl)
end
end Go.Dd

namespace Go.Dd
open Go.Proofs
noncomputable section
variable (rec : RT) (n : Nat)
def aGf (rec : RT) (n : Nat) (x2 x3 : DV) (h0 : Hp) : aH :=
 bnd (aE 6 x3 h0) fun v1 h1 =>
 bnd (aC 6 x2 v1 h1) fun _ h2 =>
 bnd (aE 6 x2 h2) fun v3 _ =>
 some (v3, h2)
def eF (rec : RT) (n : Nat) (x0 x2 x3 : DV) (h0 : Hp) : aH :=
 bnd (bM x0 h0) fun v1 h1 =>
 bnd (aB 3 v1 h1) fun v2 h2 =>
 bnd (aD v2 h2) fun v3 h3 =>
 bnd (aF .eql v3 (.i .i64 (Int.ofNat 0)) h3) fun v4 h4 =>
 aU v4 (
 bnd (rec 69 [x0] h4) fun v5 h5 =>
 bnd (bM x0 h5) fun v6 h6 =>
 bnd (aB 2 v6 h6) fun v7 h7 =>
 bnd (aD v7 h7) fun v8 h8 =>
 bnd (aF .sub v8 (.i .i64 (Int.ofNat 1)) h8) fun v9 h9 =>
 bnd (bM x0 h9) fun v10 h10 =>
 bnd (aB 2 v10 h10) fun v11 h11 =>
 bnd (aC 1 v11 v9 h11) fun _ h12 =>
  aGf rec n x2 x3 h12) (
  aGf rec n x2 x3 h4)
def pX (rec : RT) (n : Nat) (kk6 : iG) (x0 x2 x3 x4 x5 : DV) (h0 : Hp) : aH :=
 bnd (aB 5 x3 h0) fun v1 h1 =>
 bnd (aD v1 h1) fun v2 h2 =>
 bnd (aE 6 x5 h2) fun v3 h3 =>
 bnd (aO [(.i .i64 (Int.ofNat 0)), (.s []), (.i .i64 (Int.ofNat 0)), .l0, .l0, .l0] 1 [(0, 6, v3)] h3) fun v4 h4 =>
 bnd (aX 6 104 v2 v4 h4) fun v5 h5 =>
 bnd (aB 5 x3 h5) fun v6 h6 =>
 bnd (aC 1 v6 v5 h6) fun _ h7 =>
  kk6 x0 x2 x3 x4 h7
def bHq (rec : RT) (n : Nat) (kk6 : iG) (x0 x2 x3 x4 x5 x6 : DV) (h0 : Hp) : aH :=
 bnd (jZ .not x6 h0) fun v1 h1 =>
 aU v1 (
 bnd (rec 68 [x0, (.i .i64 (Int.ofNat 7)), (.s [])] h1) fun v2 h2 =>
 bnd (gD v2 false (some (x0, h2)) h2) fun v3 h3 =>
 bnd (gD v2 false (rec 68 [v3, (.i .i64 (Int.ofNat 10)), (.s [40])] h3) h3) fun v4 h4 =>
 bnd (aV v2 (.b true) v4 h4) fun v5 h5 =>
 aU v5 (
 bnd (rec 129 [x0] h5) fun v6 h6 =>
 bnd (aC 6 x5 v6 h6) fun _ h7 =>
      pX rec n kk6 x0 x2 x3 x4 x5 h7) (
 bnd (rec 73 [x0, (.i .i64 (Int.ofNat 0))] h5) fun v8 h8 =>
 bnd (rec 71 [x0, v8, (.i .i64 (Int.ofNat 13))] h8) fun v9 h9 =>
      pX rec n kk6 x0 x2 x3 x4 x5 h9)) (
  pX rec n kk6 x0 x2 x3 x4 x5 h1)
def bPr (rec : RT) (n : Nat) (kk6 : iG) (x0 x2 x3 x4 : DV) (h0 : Hp) : aH :=
 bnd (rec 128 [x0] h0) fun v1 h1 =>
 bnd (aK 0 v1 h1) fun v2 h2 =>
 bnd (aK 1 v1 h2) fun v3 h3 =>
 bnd (bG [(.i .i64 (Int.ofNat 0)), (.s []), (.i .i64 (Int.ofNat 0)), .l0, .l0, .l0] h3) fun v4 h4 =>
 bnd (aC 6 v4 v2 h4) fun _ h5 =>
  bHq rec n kk6 x0 x2 x3 x4 v4 v3 h5
def oN (rec : RT) (n : Nat) (kk6 : iG) (x0 x2 x3 x4 : DV) (h0 : Hp) : aH :=
 bnd (gD x4 true (some (x0, h0)) h0) fun v1 h1 =>
 bnd (gD x4 true (bM v1 h1) h1) fun v2 h2 =>
 bnd (gD x4 true (aB 3 v2 h2) h2) fun v3 h3 =>
 bnd (gD x4 true (aD v3 h3) h3) fun v4 h4 =>
 bnd (gD x4 true (aF .eql v4 (.i .i64 (Int.ofNat 0)) h4) h4) fun v5 h5 =>
 bnd (aV x4 v5 (.b false) h5) fun v6 h6 =>
 bnd (gD v6 true (some (x0, h6)) h6) fun v7 h7 =>
 bnd (gD v6 true (rec 68 [v7, (.i .i64 (Int.ofNat 10)), (.s [41])] h7) h7) fun v8 h8 =>
 bnd (gD v6 true (jZ .not v8 h8) h8) fun v9 h9 =>
 bnd (aV v6 v9 (.b false) h9) fun v10 h10 =>
 aU v10 (
  bPr rec n kk6 x0 x2 x3 x4 h10) (
  eF rec n x0 x2 x3 h10)
def gB (rec : RT) (n : Nat) (m : Nat) : iG :=
 Nat.rec (motive := fun _ => iG) (fun _ _ _ _ _ => none) (fun _ ih => oN rec n ih) m
def aQe (rec : RT) (n : Nat) : iG := gB rec n n
def aIc (rec : RT) (n : Nat) (x0 x2 x3 x4 : DV) (h0 : Hp) : aH :=
 aQe rec n x0 x2 x3 x4 h0
def aFo (rec : RT) (n : Nat) (x0 x2 x3 : DV) (h0 : Hp) : aH :=
 bnd (rec 130 [x0] h0) fun v1 h1 =>
  aIc rec n x0 x2 x3 v1 h1
def aJl (rec : RT) (n : Nat) (x0 x2 : DV) (h0 : Hp) : aH :=
 bnd (bB [(.i .i64 (Int.ofNat 0)), (.s []), (.i .i64 (Int.ofNat 0)), .l0, .l0, .l0] [(0, 1, (.i .i64 (Int.ofNat 4)))] h0) fun v1 h1 =>
 bnd (bG [(.i .i64 (Int.ofNat 0)), (.s []), (.i .i64 (Int.ofNat 0)), .l0, .l0, .l0] h1) fun v2 h2 =>
 bnd (aC 6 v2 v1 h2) fun _ h3 =>
  aFo rec n x0 x2 v2 h3
def s129 (rec : RT) (n : Nat) (x0 : DV) (h0 : Hp) : aH :=
 bnd (bG [(.i .i64 (Int.ofNat 0)), (.s []), (.i .i64 (Int.ofNat 0)), .l0, .l0, .l0] h0) fun v1 h1 =>
  aJl rec n x0 v1 h1
abbrev c129 : Code := cf Tryz.f129
abbrev aIi := cR c129
abbrev aJc := cR aIi
abbrev aFl := cR aJc
abbrev cTy := cR aFl
abbrev aJu := cL aFl
abbrev aIw := cL aJu
abbrev qY := cL aIw
abbrev bCh := cL aJc
abbrev aVn := cL aIi
abbrev aXb := cL c129
abbrev r129 : K := bD CF Tryz.f129
def D129 (rec : RT) (n : Nat) (c : Code) (X : Nat → K) (k : K) : K := aR CF rec 63 n c X r129 k
theorem cAv : D129 rec n cTy x0 r129 = (K3 (eF rec n) 0 2 3) := by kernel_rfl
theorem bWq (kk6 : iG) : D129 rec n qY (xs x0 0 (K3 (eF rec n) 0 2 3)) (K4 kk6 0 2 3 4) = (K4 (oN rec n kk6) 0 2 3 4) := by kernel_rfl
theorem bWn (m : Nat) : aG (fun kk => D129 rec n qY (xs x0 0 (K3 (eF rec n) 0 2 3)) kk) m = (K4 (gB rec n m) 0 2 3 4) := by
 induction m with
 | zero => exact (by kernel_rfl : aG (fun kk => D129 rec n qY (xs x0 0 (K3 (eF rec n) 0 2 3)) kk) 0 = (K4 (gB rec n 0) 0 2 3 4))
 | succ m ih =>
  refine (by kernel_rfl : aG (fun kk => D129 rec n qY (xs x0 0 (K3 (eF rec n) 0 2 3)) kk) (m + 1) = D129 rec n qY (xs x0 0 (K3 (eF rec n) 0 2 3)) (aG (fun kk => D129 rec n qY (xs x0 0 (K3 (eF rec n) 0 2 3)) kk) m)).trans ?_
  rw [ih]
  exact (bWq rec n (gB rec n m)).trans (by kernel_rfl)
theorem cKr : D129 rec n aIw (xs x0 0 (K3 (eF rec n) 0 2 3)) (K3 (eF rec n) 0 2 3) = (K4 (aQe rec n) 0 2 3 4) :=
 (by kernel_rfl : D129 rec n aIw (xs x0 0 (K3 (eF rec n) 0 2 3)) (K3 (eF rec n) 0 2 3) = aG (fun kk => D129 rec n qY (xs x0 0 (K3 (eF rec n) 0 2 3)) kk) n).trans ((bWn rec n n).trans (by kernel_rfl))
theorem bHt : D129 rec n aFl x0 r129 = D129 rec n aJu x0 (K3 (eF rec n) 0 2 3) :=
 congrArg (fun k => D129 rec n aJu x0 k) (cAv rec n)
theorem bZb : D129 rec n aFl x0 r129 = (K4 (aIc rec n) 0 2 3 4) :=
 (bHt rec n).trans
 ((by kernel_rfl : D129 rec n aJu x0 (K3 (eF rec n) 0 2 3) = D129 rec n aIw (xs x0 0 (K3 (eF rec n) 0 2 3)) (K3 (eF rec n) 0 2 3)).trans
 ((cKr rec n).trans (by kernel_rfl)))
theorem bVz : D129 rec n aJc x0 r129 = D129 rec n bCh x0 (K4 (aIc rec n) 0 2 3 4) :=
 congrArg (fun k => D129 rec n bCh x0 k) (bZb rec n)
theorem cJa : D129 rec n aJc x0 r129 = (K3 (aFo rec n) 0 2 3) :=
 (bVz rec n).trans
 ((by kernel_rfl))
theorem bNo : D129 rec n aIi x0 r129 = D129 rec n aVn x0 (K3 (aFo rec n) 0 2 3) :=
 congrArg (fun k => D129 rec n aVn x0 k) (cJa rec n)
theorem cEi : D129 rec n aIi x0 r129 = (K2 (aJl rec n) 0 2) :=
 (bNo rec n).trans
 ((by kernel_rfl))
theorem cCf : D129 rec n c129 x0 r129 = D129 rec n aXb x0 (K2 (aJl rec n) 0 2) :=
 congrArg (fun k => D129 rec n aXb x0 k) (cEi rec n)
theorem dEa : D129 rec n c129 x0 r129 = (K1 (s129 rec n) 0) :=
 (cCf rec n).trans
 ((by kernel_rfl))
theorem cUf (args : List DV) (h : Hp) : aL CF rec n 129 args h = s129 rec n (args.getD 0 aA) h :=
 cZ (dEa rec n) args h (by kernel_rfl) (by kernel_rfl)
def s130 (rec : RT) (n : Nat) (x0 : DV) (h0 : Hp) : aH :=
 bnd (rec 69 [x0] h0) fun v1 h1 =>
 bnd (bG [(.i .i64 (Int.ofNat 0)), (.s []), (.i .i64 (Int.ofNat 0)), (.i .i64 (Int.ofNat 0))] h1) fun v2 h2 =>
 bnd (aC 4 v2 v1 h2) fun _ h3 =>
 bnd (bM x0 h3) fun v4 h4 =>
 bnd (aB 2 v4 h4) fun v5 h5 =>
 bnd (aD v5 h5) fun v6 h6 =>
 bnd (aF .eql v6 (.i .i64 (Int.ofNat 20)) h6) fun v7 h7 =>
 aU v7 (
 bnd (aE 4 v2 h7) fun v8 h8 =>
 bnd (rec 71 [x0, v8, (.i .i64 (Int.ofNat 14))] h8) fun v9 h9 =>
 some ((.b false), h9)) (
 bnd (bM x0 h7) fun v10 h10 =>
 bnd (aB 2 v10 h10) fun v11 h11 =>
 bnd (aD v11 h11) fun v12 h12 =>
 bnd (aF .add v12 (.i .i64 (Int.ofNat 1)) h12) fun v13 h13 =>
 bnd (bM x0 h13) fun v14 h14 =>
 bnd (aB 2 v14 h14) fun v15 h15 =>
 bnd (aC 1 v15 v13 h15) fun _ h16 =>
 some ((.b true), h16))
abbrev c130 : Code := cf Tryz.f130
abbrev r130 : K := bD CF Tryz.f130
def D130 (rec : RT) (n : Nat) (c : Code) (X : Nat → K) (k : K) : K := aR CF rec 21 n c X r130 k
theorem dGy : D130 rec n c130 x0 r130 = (K1 (s130 rec n) 0) :=
 (by kernel_rfl)
theorem cXt (args : List DV) (h : Hp) : aL CF rec n 130 args h = s130 rec n (args.getD 0 aA) h :=
 cZ (dGy rec n) args h (by kernel_rfl) (by kernel_rfl)
def aIx (rec : RT) (n : Nat) (x0 x2 x3 : DV) (h0 : Hp) : aH :=
 bnd (rec 45 [x0] h0) fun v1 h1 =>
 bnd (aB 4 x3 h1) fun v2 h2 =>
 bnd (aC 1 v2 v1 h2) fun _ h3 =>
 bnd (rec 46 [x0] h3) fun v4 h4 =>
 bnd (aB 5 x3 h4) fun v5 h5 =>
 bnd (aC 1 v5 v4 h5) fun _ h6 =>
 bnd (rec 47 [x0, (.i .i64 (Int.ofNat 10)), (.s [93])] h6) fun v7 h7 =>
 bnd (bM x0 h7) fun v8 h8 =>
 bnd (aB 2 v8 h8) fun v9 h9 =>
 bnd (aD v9 h9) fun v10 h10 =>
 bnd (aF .sub v10 (.i .i64 (Int.ofNat 1)) h10) fun v11 h11 =>
 bnd (bM x0 h11) fun v12 h12 =>
 bnd (aB 2 v12 h12) fun v13 h13 =>
 bnd (aC 1 v13 v11 h13) fun _ h14 =>
 bnd (aE 6 x3 h14) fun v15 h15 =>
 bnd (aC 6 x2 v15 h15) fun _ h16 =>
 bnd (aE 6 x2 h16) fun v17 _ =>
 some (v17, h16)
def eH (rec : RT) (n : Nat) (x0 x2 x3 : DV) (h0 : Hp) : aH :=
 bnd (aB 3 x3 h0) fun v1 h1 =>
 bnd (aD v1 h1) fun v2 h2 =>
 bnd (dB v2 h2) fun v3 h3 =>
 bnd (aF .gtr v3 (.i .i64 (Int.ofNat 0)) h3) fun v4 h4 =>
 bnd (gD v4 true (some (x0, h4)) h4) fun v5 h5 =>
 bnd (gD v4 true (rec 68 [v5, (.i .i64 (Int.ofNat 10)), (.s [93])] h5) h5) fun v6 h6 =>
 bnd (gD v4 true (jZ .not v6 h6) h6) fun v7 h7 =>
 bnd (aV v4 v7 (.b false) h7) fun v8 h8 =>
 aU v8 (
 bnd (rec 47 [x0, (.i .i64 (Int.ofNat 10)), (.s [124])] h8) fun v9 h9 =>
  aIx rec n x0 x2 x3 h9) (
  aIx rec n x0 x2 x3 h8)
def wI (rec : RT) (n : Nat) (kk7 : cQ) (x0 x2 x3 : DV) (h0 : Hp) : aH :=
 bnd (rec 68 [x0, (.i .i64 (Int.ofNat 8)), (.s [])] h0) fun v1 h1 =>
 aU v1 (
 bnd (aB 3 x3 h1) fun v2 h2 =>
 bnd (aD v2 h2) fun v3 h3 =>
 bnd (rec 70 [x0, (.i .i64 (Int.ofNat 8)), v3] h3) fun v4 h4 =>
 bnd (aB 3 x3 h4) fun v5 h5 =>
 bnd (aC 1 v5 v4 h5) fun _ h6 =>
      kk7 x0 x2 x3 h6) (
      eH rec n x0 x2 x3 h1)
def nF (rec : RT) (n : Nat) (m : Nat) : cQ :=
 Nat.rec (motive := fun _ => cQ) (fun _ _ _ _ => none) (fun _ ih => wI rec n ih) m
def aPp (rec : RT) (n : Nat) : cQ := nF rec n n
def aGk (rec : RT) (n : Nat) (x0 x2 x3 : DV) (h0 : Hp) : aH :=
 aPp rec n x0 x2 x3 h0
def aEv (rec : RT) (n : Nat) (x0 x2 x3 x4 : DV) (h0 : Hp) : aH :=
 bnd (jZ .not x4 h0) fun v1 h1 =>
 aU v1 (
 bnd (aE 6 x3 h1) fun v2 h2 =>
 bnd (aC 6 x2 v2 h2) fun _ h3 =>
 bnd (aE 6 x2 h3) fun v4 _ =>
 some (v4, h3)) (
  aGk rec n x0 x2 x3 h1)
def aFy (rec : RT) (n : Nat) (x0 x2 x3 : DV) (h0 : Hp) : aH :=
 bnd (rec 130 [x0] h0) fun v1 h1 =>
  aEv rec n x0 x2 x3 v1 h1
def aDq (rec : RT) (n : Nat) (x0 x2 : DV) (h0 : Hp) : aH :=
 bnd (bB [(.i .i64 (Int.ofNat 0)), (.s []), (.i .i64 (Int.ofNat 0)), .l0, .l0, .l0] [(0, 1, (.i .i64 (Int.ofNat 9)))] h0) fun v1 h1 =>
 bnd (bG [(.i .i64 (Int.ofNat 0)), (.s []), (.i .i64 (Int.ofNat 0)), .l0, .l0, .l0] h1) fun v2 h2 =>
 bnd (aC 6 v2 v1 h2) fun _ h3 =>
  aFy rec n x0 x2 v2 h3
def s131 (rec : RT) (n : Nat) (x0 : DV) (h0 : Hp) : aH :=
 bnd (bG [(.i .i64 (Int.ofNat 0)), (.s []), (.i .i64 (Int.ofNat 0)), .l0, .l0, .l0] h0) fun v1 h1 =>
  aDq rec n x0 v1 h1
abbrev c131 : Code := cf Tryz.f131
abbrev aIs := cR c131
abbrev aGw := cR aIs
abbrev aHs := cR aGw
abbrev aDv := cR aHs
abbrev cTc := cR aDv
abbrev aEe := cL aDv
abbrev aFw := cL aEe
abbrev mV := cL aFw
abbrev bDo := cL aHs
abbrev bAe := cL aGw
abbrev bCa := cL aIs
abbrev aUj := cL c131
abbrev r131 : K := bD CF Tryz.f131
def D131 (rec : RT) (n : Nat) (c : Code) (X : Nat → K) (k : K) : K := aR CF rec 45 n c X r131 k
theorem cGr : D131 rec n cTc x0 r131 = (K3 (eH rec n) 0 2 3) := by kernel_rfl
theorem bVf (kk7 : cQ) : D131 rec n mV (xs x0 0 (K3 (eH rec n) 0 2 3)) (K3 kk7 0 2 3) = (K3 (wI rec n kk7) 0 2 3) := by kernel_rfl
theorem bWw (m : Nat) : aG (fun kk => D131 rec n mV (xs x0 0 (K3 (eH rec n) 0 2 3)) kk) m = (K3 (nF rec n m) 0 2 3) := by
 induction m with
 | zero => exact (by kernel_rfl : aG (fun kk => D131 rec n mV (xs x0 0 (K3 (eH rec n) 0 2 3)) kk) 0 = (K3 (nF rec n 0) 0 2 3))
 | succ m ih =>
  refine (by kernel_rfl : aG (fun kk => D131 rec n mV (xs x0 0 (K3 (eH rec n) 0 2 3)) kk) (m + 1) = D131 rec n mV (xs x0 0 (K3 (eH rec n) 0 2 3)) (aG (fun kk => D131 rec n mV (xs x0 0 (K3 (eH rec n) 0 2 3)) kk) m)).trans ?_
  rw [ih]
  exact (bVf rec n (nF rec n m)).trans (by kernel_rfl)
theorem bZh : D131 rec n aFw (xs x0 0 (K3 (eH rec n) 0 2 3)) (K3 (eH rec n) 0 2 3) = (K3 (aPp rec n) 0 2 3) :=
 (by kernel_rfl : D131 rec n aFw (xs x0 0 (K3 (eH rec n) 0 2 3)) (K3 (eH rec n) 0 2 3) = aG (fun kk => D131 rec n mV (xs x0 0 (K3 (eH rec n) 0 2 3)) kk) n).trans ((bWw rec n n).trans (by kernel_rfl))
theorem bQc : D131 rec n aDv x0 r131 = D131 rec n aEe x0 (K3 (eH rec n) 0 2 3) :=
 congrArg (fun k => D131 rec n aEe x0 k) (cGr rec n)
theorem cDn : D131 rec n aDv x0 r131 = (K3 (aGk rec n) 0 2 3) :=
 (bQc rec n).trans
 ((by kernel_rfl : D131 rec n aEe x0 (K3 (eH rec n) 0 2 3) = D131 rec n aFw (xs x0 0 (K3 (eH rec n) 0 2 3)) (K3 (eH rec n) 0 2 3)).trans
 ((bZh rec n).trans (by kernel_rfl)))
theorem bHz : D131 rec n aHs x0 r131 = D131 rec n bDo x0 (K3 (aGk rec n) 0 2 3) :=
 congrArg (fun k => D131 rec n bDo x0 k) (cDn rec n)
theorem cJp : D131 rec n aHs x0 r131 = (K4 (aEv rec n) 0 2 3 4) :=
 (bHz rec n).trans
 ((by kernel_rfl))
theorem bHr : D131 rec n aGw x0 r131 = D131 rec n bAe x0 (K4 (aEv rec n) 0 2 3 4) :=
 congrArg (fun k => D131 rec n bAe x0 k) (cJp rec n)
theorem bYo : D131 rec n aGw x0 r131 = (K3 (aFy rec n) 0 2 3) :=
 (bHr rec n).trans
 ((by kernel_rfl))
theorem bLm : D131 rec n aIs x0 r131 = D131 rec n bCa x0 (K3 (aFy rec n) 0 2 3) :=
 congrArg (fun k => D131 rec n bCa x0 k) (bYo rec n)
theorem cMi : D131 rec n aIs x0 r131 = (K2 (aDq rec n) 0 2) :=
 (bLm rec n).trans
 ((by kernel_rfl))
theorem dBl : D131 rec n c131 x0 r131 = D131 rec n aUj x0 (K2 (aDq rec n) 0 2) :=
 congrArg (fun k => D131 rec n aUj x0 k) (cMi rec n)
theorem dEd : D131 rec n c131 x0 r131 = (K1 (s131 rec n) 0) :=
 (dBl rec n).trans
 ((by kernel_rfl))
theorem cZd (args : List DV) (h : Hp) : aL CF rec n 131 args h = s131 rec n (args.getD 0 aA) h :=
 cZ (dEd rec n) args h (by kernel_rfl) (by kernel_rfl)
def s132 (rec : RT) (n : Nat) (x0 : DV) (h0 : Hp) : aH :=
 bnd (rec 107 [x0] h0) fun v1 h1 =>
 bnd (gD v1 false (some (x0, h1)) h1) fun v2 h2 =>
 bnd (gD v1 false (rec 110 [v2] h2) h2) fun v3 h3 =>
 bnd (aV v1 (.b true) v3 h3) fun v4 h4 =>
 some (v4, h4)
abbrev c132 : Code := cf Tryz.f132
abbrev r132 : K := bD CF Tryz.f132
def D132 (rec : RT) (n : Nat) (c : Code) (X : Nat → K) (k : K) : K := aR CF rec 9 n c X r132 k
theorem dEk : D132 rec n c132 x0 r132 = (K1 (s132 rec n) 0) :=
 (by kernel_rfl)
theorem dDe (args : List DV) (h : Hp) : aL CF rec n 132 args h = s132 rec n (args.getD 0 aA) h :=
 cZ (dEk rec n) args h (by kernel_rfl) (by kernel_rfl)
def s133 (rec : RT) (n : Nat) (x0 : DV) (h0 : Hp) : aH :=
 bnd (aF .neq x0 (.i .u8 (Int.ofNat 39)) h0) fun v1 h1 =>
 some (v1, h1)
abbrev c133 : Code := cf Tryz.f133
abbrev r133 : K := bD CF Tryz.f133
def D133 (rec : RT) (n : Nat) (c : Code) (X : Nat → K) (k : K) : K := aR CF rec 5 n c X r133 k
theorem dGn : D133 rec n c133 x0 r133 = (K1 (s133 rec n) 0) :=
 (by kernel_rfl)
theorem cYa (args : List DV) (h : Hp) : aL CF rec n 133 args h = s133 rec n (args.getD 0 aA) h :=
 cZ (dGn rec n) args h (by kernel_rfl) (by kernel_rfl)
def eQ (rec : RT) (n : Nat) (x4 x5 : DV) (h0 : Hp) : aH :=
 bnd (aE 6 x5 h0) fun v1 h1 =>
 bnd (aC 6 x4 v1 h1) fun _ h2 =>
 bnd (aE 6 x4 h2) fun v3 _ =>
 some (v3, h2)
def vQ (rec : RT) (n : Nat) (kk5 : cQ) (x0 x4 x5 : DV) (h0 : Hp) : aH :=
 bnd (rec 77 [x0, (.i .i64 (Int.ofNat 2)), (.s [])] h0) fun v1 h1 =>
 aU v1 (
 bnd (aB 1 x5 h1) fun v2 h2 =>
 bnd (aD v2 h2) fun v3 h3 =>
 bnd (rec 78 [x0] h3) fun v4 h4 =>
 cnd (bP (aD v2 h4) v3 && true) (
 bnd (cB 1 v4 h4) fun v5 h5 =>
 bnd (bY .add v3 v5 h5) fun v6 h6 =>
 bnd (aB 1 x5 h6) fun v7 h7 =>
 bnd (aC 1 v7 v6 h7) fun v8 h8 =>
 bnd (aB 5 x5 (hC 1 h8)) fun v9 h9 =>
 bnd (aD v9 h9) fun v10 h10 =>
 bnd (rec 137 [x0] h10) fun v11 h11 =>
 cnd (bP (aD v9 h11) v10 && true) (
 bnd (rec 136 [x0, v11] h11) fun v12 h12 =>
 cnd (bP (aD v9 h12) v10 && true) (
 bnd (rec 135 [x0, v12] h12) fun v13 h13 =>
 cnd (bP (aD v9 h13) v10 && true) (
 bnd (aZ (cT 0 h8.next) [(.i .i64 (Int.ofNat 0)), (.s []), (.i .i64 (Int.ofNat 0)), .l0, .l0, .l0] 1 [(0, 6, v13)] h13) fun v14 h14 =>
 bnd (aX 6 104 v10 v14 h14) fun v15 h15 =>
 bnd (aB 5 x5 h15) fun v16 h16 =>
 bnd (aC 1 v16 v15 h16) fun v17 h17 =>
      kk5 x0 x4 x5 h17))))) (
      eQ rec n x4 x5 h1)
def mP (rec : RT) (n : Nat) (m : Nat) : cQ :=
 Nat.rec (motive := fun _ => cQ) (fun _ _ _ _ => none) (fun _ ih => vQ rec n ih) m
def aRw (rec : RT) (n : Nat) : cQ := mP rec n n
def aHb (rec : RT) (n : Nat) (x0 x4 x5 : DV) (h0 : Hp) : aH :=
 aRw rec n x0 x4 x5 h0
def aKq (rec : RT) (n : Nat) (x0 x3 x4 : DV) (h0 : Hp) : aH :=
 bnd (aE 6 x3 h0) fun v1 h1 =>
 bnd (aO [(.i .i64 (Int.ofNat 0)), (.s []), (.i .i64 (Int.ofNat 0)), .l0, .l0, .l0] 1 [(0, 6, v1)] h1) fun v2 h2 =>
 bnd (rec 149 [(.s []), v2] h2) fun v3 h3 =>
 bnd (bG [(.i .i64 (Int.ofNat 0)), (.s []), (.i .i64 (Int.ofNat 0)), .l0, .l0, .l0] h3) fun v4 h4 =>
 bnd (aC 6 v4 v3 h4) fun _ h5 =>
  aHb rec n x0 x4 v4 h5
def aGx (rec : RT) (n : Nat) (x0 x3 x4 : DV) (h0 : Hp) : aH :=
 bnd (rec 77 [x0, (.i .i64 (Int.ofNat 2)), (.s [])] h0) fun v1 h1 =>
 bnd (jZ .not v1 h1) fun v2 h2 =>
 aU v2 (
 bnd (aE 6 x3 h2) fun v3 h3 =>
 bnd (aC 6 x4 v3 h3) fun _ h4 =>
 bnd (aE 6 x4 h4) fun v5 _ =>
 some (v5, h4)) (
  aKq rec n x0 x3 x4 h2)
def s134 (rec : RT) (n : Nat) (x0 x1 : DV) (h0 : Hp) : aH :=
 bnd (dW x1 h0) fun v1 h1 =>
 bnd (bG [(.i .i64 (Int.ofNat 0)), (.s []), (.i .i64 (Int.ofNat 0)), .l0, .l0, .l0] h1) fun v2 h2 =>
  aGx rec n x0 v1 v2 h2
abbrev c134 : Code := cf Tryz.f134
abbrev aKo := cR c134
abbrev aGo := cR aKo
abbrev aKv := cR aGo
abbrev dAq := cR aKv
abbrev aFu := cL aKv
abbrev aGv := cL aFu
abbrev qT := cL aGv
abbrev bUj := cL aGo
abbrev bSf := cL aKo
abbrev bBo := cL c134
abbrev r134 : K := bD CF Tryz.f134
def D134 (rec : RT) (n : Nat) (c : Code) (X : Nat → K) (k : K) : K := aR CF rec 34 n c X r134 k
theorem cEe : D134 rec n dAq x0 r134 = (K2 (eQ rec n) 4 5) := by kernel_rfl
theorem bXl (kk5 : cQ) : D134 rec n qT (xs x0 0 (K2 (eQ rec n) 4 5)) (K3 kk5 0 4 5) = (K3 (vQ rec n kk5) 0 4 5) := by kernel_rfl
theorem bKy (m : Nat) : aG (fun kk => D134 rec n qT (xs x0 0 (K2 (eQ rec n) 4 5)) kk) m = (K3 (mP rec n m) 0 4 5) := by
 induction m with
 | zero => exact (by kernel_rfl : aG (fun kk => D134 rec n qT (xs x0 0 (K2 (eQ rec n) 4 5)) kk) 0 = (K3 (mP rec n 0) 0 4 5))
 | succ m ih =>
  refine (by kernel_rfl : aG (fun kk => D134 rec n qT (xs x0 0 (K2 (eQ rec n) 4 5)) kk) (m + 1) = D134 rec n qT (xs x0 0 (K2 (eQ rec n) 4 5)) (aG (fun kk => D134 rec n qT (xs x0 0 (K2 (eQ rec n) 4 5)) kk) m)).trans ?_
  rw [ih]
  exact (bXl rec n (mP rec n m)).trans (by kernel_rfl)
theorem cDy : D134 rec n aGv (xs x0 0 (K2 (eQ rec n) 4 5)) (K2 (eQ rec n) 4 5) = (K3 (aRw rec n) 0 4 5) :=
 (by kernel_rfl : D134 rec n aGv (xs x0 0 (K2 (eQ rec n) 4 5)) (K2 (eQ rec n) 4 5) = aG (fun kk => D134 rec n qT (xs x0 0 (K2 (eQ rec n) 4 5)) kk) n).trans ((bKy rec n n).trans (by kernel_rfl))
theorem bYf : D134 rec n aKv x0 r134 = D134 rec n aFu x0 (K2 (eQ rec n) 4 5) :=
 congrArg (fun k => D134 rec n aFu x0 k) (cEe rec n)
theorem cGl : D134 rec n aKv x0 r134 = (K3 (aHb rec n) 0 4 5) :=
 (bYf rec n).trans
 ((by kernel_rfl : D134 rec n aFu x0 (K2 (eQ rec n) 4 5) = D134 rec n aGv (xs x0 0 (K2 (eQ rec n) 4 5)) (K2 (eQ rec n) 4 5)).trans
 ((cDy rec n).trans (by kernel_rfl)))
theorem bXa : D134 rec n aGo x0 r134 = D134 rec n bUj x0 (K3 (aHb rec n) 0 4 5) :=
 congrArg (fun k => D134 rec n bUj x0 k) (cGl rec n)
theorem cEo : D134 rec n aGo x0 r134 = (K3 (aKq rec n) 0 3 4) :=
 (bXa rec n).trans
 ((by kernel_rfl))
theorem bUg : D134 rec n aKo x0 r134 = D134 rec n bSf x0 (K3 (aKq rec n) 0 3 4) :=
 congrArg (fun k => D134 rec n bSf x0 k) (cEo rec n)
theorem bZn : D134 rec n aKo x0 r134 = (K3 (aGx rec n) 0 3 4) :=
 (bUg rec n).trans
 ((by kernel_rfl))
theorem cUa : D134 rec n c134 x0 r134 = D134 rec n bBo x0 (K3 (aGx rec n) 0 3 4) :=
 congrArg (fun k => D134 rec n bBo x0 k) (bZn rec n)
theorem dIr : D134 rec n c134 x0 r134 = (K2 (s134 rec n) 0 1) :=
 (cUa rec n).trans
 ((by kernel_rfl))
theorem cTn (args : List DV) (h : Hp) : aL CF rec n 134 args h = s134 rec n (args.getD 0 aA) (args.getD 1 aA) h :=
 cZ (dIr rec n) args h (by kernel_rfl) (by kernel_rfl)
def eP (rec : RT) (n : Nat) (x3 x4 : DV) (h0 : Hp) : aH :=
 bnd (aE 6 x3 h0) fun v1 h1 =>
 bnd (aC 6 x4 v1 h1) fun _ h2 =>
 bnd (aE 6 x4 h2) fun v3 _ =>
 some (v3, h2)
def vR (rec : RT) (n : Nat) (kk3 : cQ) (x0 x3 x4 : DV) (h0 : Hp) : aH :=
 bnd (rec 77 [x0, (.i .i64 (Int.ofNat 3)), (.s [])] h0) fun v1 h1 =>
 aU v1 (
 bnd (rec 78 [x0] h1) fun v2 h2 =>
 bnd (bG [(.i .i64 (Int.ofNat 0)), (.s []), (.i .i64 (Int.ofNat 0)), (.i .i64 (Int.ofNat 0))] h2) fun v3 h3 =>
 bnd (aC 4 v3 v2 h3) fun _ h4 =>
 bnd (aB 1 v3 (hC 1 h4)) fun v5 h5 =>
 bnd (aD v5 h5) fun v6 h6 =>
 bnd (aE 6 x3 h6) fun v7 h7 =>
 bnd (rec 137 [x0] h7) fun v8 h8 =>
 cnd (bP (aE 6 x3 h8) v7 && (bP (aD v5 h8) v6 && true)) (
 bnd (rec 136 [x0, v8] h8) fun v9 h9 =>
 cnd (bP (aE 6 x3 h9) v7 && (bP (aD v5 h9) v6 && true)) (
 bnd (aZ (cT 0 h4.next) [(.i .i64 (Int.ofNat 0)), (.s []), (.i .i64 (Int.ofNat 0)), .l0, .l0, .l0, (.i .i64 (Int.ofNat 0)), (.s []), (.i .i64 (Int.ofNat 0)), .l0, .l0, .l0] 2 [(0, 6, v7), (6, 6, v9)] h9) fun v10 h10 =>
 bnd (rec 149 [v6, v10] h10) fun v11 h11 =>
 bnd (aC 6 x3 v11 h11) fun v12 h12 =>
      kk3 x0 x3 x4 h12))) (
      eP rec n x3 x4 h1)
def mQ (rec : RT) (n : Nat) (m : Nat) : cQ :=
 Nat.rec (motive := fun _ => cQ) (fun _ _ _ _ => none) (fun _ ih => vR rec n ih) m
def aSl (rec : RT) (n : Nat) : cQ := mQ rec n n
def aHk (rec : RT) (n : Nat) (x0 x3 x4 : DV) (h0 : Hp) : aH :=
 aSl rec n x0 x3 x4 h0
def s135 (rec : RT) (n : Nat) (x0 x1 : DV) (h0 : Hp) : aH :=
 bnd (dW x1 h0) fun v1 h1 =>
 bnd (bG [(.i .i64 (Int.ofNat 0)), (.s []), (.i .i64 (Int.ofNat 0)), .l0, .l0, .l0] h1) fun v2 h2 =>
  aHk rec n x0 v1 v2 h2
abbrev c135 : Code := cf Tryz.f135
abbrev aKx := cR c135
abbrev cYi := cR aKx
abbrev aFd := cL aKx
abbrev aFx := cL aFd
abbrev qO := cL aFx
abbrev bOk := cL c135
abbrev r135 : K := bD CF Tryz.f135
def D135 (rec : RT) (n : Nat) (c : Code) (X : Nat → K) (k : K) : K := aR CF rec 20 n c X r135 k
theorem cJc : D135 rec n cYi x0 r135 = (K2 (eP rec n) 3 4) := by kernel_rfl
theorem bTh (kk3 : cQ) : D135 rec n qO (xs x0 0 (K2 (eP rec n) 3 4)) (K3 kk3 0 3 4) = (K3 (vR rec n kk3) 0 3 4) := by kernel_rfl
theorem bKj (m : Nat) : aG (fun kk => D135 rec n qO (xs x0 0 (K2 (eP rec n) 3 4)) kk) m = (K3 (mQ rec n m) 0 3 4) := by
 induction m with
 | zero => exact (by kernel_rfl : aG (fun kk => D135 rec n qO (xs x0 0 (K2 (eP rec n) 3 4)) kk) 0 = (K3 (mQ rec n 0) 0 3 4))
 | succ m ih =>
  refine (by kernel_rfl : aG (fun kk => D135 rec n qO (xs x0 0 (K2 (eP rec n) 3 4)) kk) (m + 1) = D135 rec n qO (xs x0 0 (K2 (eP rec n) 3 4)) (aG (fun kk => D135 rec n qO (xs x0 0 (K2 (eP rec n) 3 4)) kk) m)).trans ?_
  rw [ih]
  exact (bTh rec n (mQ rec n m)).trans (by kernel_rfl)
theorem cFc : D135 rec n aFx (xs x0 0 (K2 (eP rec n) 3 4)) (K2 (eP rec n) 3 4) = (K3 (aSl rec n) 0 3 4) :=
 (by kernel_rfl : D135 rec n aFx (xs x0 0 (K2 (eP rec n) 3 4)) (K2 (eP rec n) 3 4) = aG (fun kk => D135 rec n qO (xs x0 0 (K2 (eP rec n) 3 4)) kk) n).trans ((bKj rec n n).trans (by kernel_rfl))
theorem bXf : D135 rec n aKx x0 r135 = D135 rec n aFd x0 (K2 (eP rec n) 3 4) :=
 congrArg (fun k => D135 rec n aFd x0 k) (cJc rec n)
theorem cFg : D135 rec n aKx x0 r135 = (K3 (aHk rec n) 0 3 4) :=
 (bXf rec n).trans
 ((by kernel_rfl : D135 rec n aFd x0 (K2 (eP rec n) 3 4) = D135 rec n aFx (xs x0 0 (K2 (eP rec n) 3 4)) (K2 (eP rec n) 3 4)).trans
 ((cFc rec n).trans (by kernel_rfl)))
theorem cRk : D135 rec n c135 x0 r135 = D135 rec n bOk x0 (K3 (aHk rec n) 0 3 4) :=
 congrArg (fun k => D135 rec n bOk x0 k) (cFg rec n)
theorem dGq : D135 rec n c135 x0 r135 = (K2 (s135 rec n) 0 1) :=
 (cRk rec n).trans
 ((by kernel_rfl))
theorem cWk (args : List DV) (h : Hp) : aL CF rec n 135 args h = s135 rec n (args.getD 0 aA) (args.getD 1 aA) h :=
 cZ (dGq rec n) args h (by kernel_rfl) (by kernel_rfl)
def eT (rec : RT) (n : Nat) (x3 x4 : DV) (h0 : Hp) : aH :=
 bnd (aE 6 x3 h0) fun v1 h1 =>
 bnd (aC 6 x4 v1 h1) fun _ h2 =>
 bnd (aE 6 x4 h2) fun v3 _ =>
 some (v3, h2)
def vO (rec : RT) (n : Nat) (kk3 : cQ) (x0 x3 x4 : DV) (h0 : Hp) : aH :=
 bnd (rec 77 [x0, (.i .i64 (Int.ofNat 1)), (.s [])] h0) fun v1 h1 =>
 aU v1 (
 bnd (rec 78 [x0] (hC 1 h1)) fun v2 h2 =>
 bnd (cB 1 v2 h2) fun v3 h3 =>
 bnd (aE 6 x3 h3) fun v4 h4 =>
 cnd (bP (aE 6 x3 (hC 1 h1)) v4 && true) (
 bnd (aZ (cT 0 h1.next) [(.i .i64 (Int.ofNat 0)), (.s []), (.i .i64 (Int.ofNat 0)), .l0, .l0, .l0] 1 [(0, 6, v4)] h4) fun v5 h5 =>
 bnd (rec 149 [v3, v5] h5) fun v6 h6 =>
 bnd (aC 6 x3 v6 h6) fun v7 h7 =>
      kk3 x0 x3 x4 h7)) (
      eT rec n x3 x4 h1)
def mC (rec : RT) (n : Nat) (m : Nat) : cQ :=
 Nat.rec (motive := fun _ => cQ) (fun _ _ _ _ => none) (fun _ ih => vO rec n ih) m
def aRe (rec : RT) (n : Nat) : cQ := mC rec n n
def aGb (rec : RT) (n : Nat) (x0 x3 x4 : DV) (h0 : Hp) : aH :=
 aRe rec n x0 x3 x4 h0
def s136 (rec : RT) (n : Nat) (x0 x1 : DV) (h0 : Hp) : aH :=
 bnd (dW x1 h0) fun v1 h1 =>
 bnd (bG [(.i .i64 (Int.ofNat 0)), (.s []), (.i .i64 (Int.ofNat 0)), .l0, .l0, .l0] h1) fun v2 h2 =>
  aGb rec n x0 v1 v2 h2
abbrev c136 : Code := cf Tryz.f136
abbrev aGi := cR c136
abbrev cRa := cR aGi
abbrev aHy := cL aGi
abbrev aIa := cL aHy
abbrev rC := cL aIa
abbrev bXu := cL c136
abbrev r136 : K := bD CF Tryz.f136
def D136 (rec : RT) (n : Nat) (c : Code) (X : Nat → K) (k : K) : K := aR CF rec 14 n c X r136 k
theorem cHf : D136 rec n cRa x0 r136 = (K2 (eT rec n) 3 4) := by kernel_rfl
theorem bMk (kk3 : cQ) : D136 rec n rC (xs x0 0 (K2 (eT rec n) 3 4)) (K3 kk3 0 3 4) = (K3 (vO rec n kk3) 0 3 4) := by kernel_rfl
theorem bGw (m : Nat) : aG (fun kk => D136 rec n rC (xs x0 0 (K2 (eT rec n) 3 4)) kk) m = (K3 (mC rec n m) 0 3 4) := by
 induction m with
 | zero => exact (by kernel_rfl : aG (fun kk => D136 rec n rC (xs x0 0 (K2 (eT rec n) 3 4)) kk) 0 = (K3 (mC rec n 0) 0 3 4))
 | succ m ih =>
  refine (by kernel_rfl : aG (fun kk => D136 rec n rC (xs x0 0 (K2 (eT rec n) 3 4)) kk) (m + 1) = D136 rec n rC (xs x0 0 (K2 (eT rec n) 3 4)) (aG (fun kk => D136 rec n rC (xs x0 0 (K2 (eT rec n) 3 4)) kk) m)).trans ?_
  rw [ih]
  exact (bMk rec n (mC rec n m)).trans (by kernel_rfl)
theorem cKu : D136 rec n aIa (xs x0 0 (K2 (eT rec n) 3 4)) (K2 (eT rec n) 3 4) = (K3 (aRe rec n) 0 3 4) :=
 (by kernel_rfl : D136 rec n aIa (xs x0 0 (K2 (eT rec n) 3 4)) (K2 (eT rec n) 3 4) = aG (fun kk => D136 rec n rC (xs x0 0 (K2 (eT rec n) 3 4)) kk) n).trans ((bGw rec n n).trans (by kernel_rfl))
theorem bHa : D136 rec n aGi x0 r136 = D136 rec n aHy x0 (K2 (eT rec n) 3 4) :=
 congrArg (fun k => D136 rec n aHy x0 k) (cHf rec n)
theorem cCh : D136 rec n aGi x0 r136 = (K3 (aGb rec n) 0 3 4) :=
 (bHa rec n).trans
 ((by kernel_rfl : D136 rec n aHy x0 (K2 (eT rec n) 3 4) = D136 rec n aIa (xs x0 0 (K2 (eT rec n) 3 4)) (K2 (eT rec n) 3 4)).trans
 ((cKu rec n).trans (by kernel_rfl)))
theorem dBg : D136 rec n c136 x0 r136 = D136 rec n bXu x0 (K3 (aGb rec n) 0 3 4) :=
 congrArg (fun k => D136 rec n bXu x0 k) (cCh rec n)
theorem dFi : D136 rec n c136 x0 r136 = (K2 (s136 rec n) 0 1) :=
 (dBg rec n).trans
 ((by kernel_rfl))
theorem cSr (args : List DV) (h : Hp) : aL CF rec n 136 args h = s136 rec n (args.getD 0 aA) (args.getD 1 aA) h :=
 cZ (dFi rec n) args h (by kernel_rfl) (by kernel_rfl)
def aQr (rec : RT) (n : Nat) (x2 : DV) (h0 : Hp) : aH :=
 bnd (bB [(.i .i64 (Int.ofNat 0)), (.s []), (.i .i64 (Int.ofNat 0)), .l0, .l0, .l0] [] h0) fun v1 h1 =>
 bnd (aC 6 x2 v1 h1) fun _ h2 =>
 bnd (aE 6 x2 h2) fun v3 _ =>
 some (v3, h2)
def bIu (rec : RT) (n : Nat) (x0 x2 : DV) (h0 : Hp) : aH :=
 bnd (rec 81 [x0, (.i .i64 (Int.ofNat 0))] h0) fun v1 h1 =>
 bnd (bG [(.i .i64 (Int.ofNat 0)), (.s []), (.i .i64 (Int.ofNat 0)), (.i .i64 (Int.ofNat 0))] h1) fun v2 h2 =>
 bnd (aC 4 v2 v1 h2) fun _ h3 =>
 bnd (bM x0 h3) fun v4 h4 =>
 bnd (aB 3 v4 h4) fun v5 h5 =>
 bnd (aD v5 h5) fun v6 h6 =>
 bnd (aF .neq v6 (.i .i64 (Int.ofNat 0)) h6) fun v7 h7 =>
 aU v7 (
  aQr rec n x2 h7) (
 bnd (aB 0 v2 h7) fun v8 h8 =>
 bnd (aD v8 h8) fun v9 h9 =>
 bnd (aF .eql v9 (.i .i64 (Int.ofNat 1)) h9) fun v10 h10 =>
 aU v10 (
 bnd (rec 78 [x0] h10) fun v11 h11 =>
 bnd (cB 1 v11 h11) fun v12 h12 =>
 bnd (bB [(.i .i64 (Int.ofNat 0)), (.s []), (.i .i64 (Int.ofNat 0)), .l0, .l0, .l0] [(0, 1, (.i .i64 (Int.ofNat 5))), (1, 1, v12)] h12) fun v13 h13 =>
 bnd (aC 6 x2 v13 h13) fun _ h14 =>
 bnd (aE 6 x2 h14) fun v15 _ =>
 some (v15, h14)) (
 bnd (aB 0 v2 h10) fun v16 h16 =>
 bnd (aD v16 h16) fun v17 h17 =>
 bnd (aF .eql v17 (.i .i64 (Int.ofNat 7)) h17) fun v18 h18 =>
 aU v18 (
 bnd (rec 151 [x0, (.f 152 [x0] [])] h18) fun v19 h19 =>
 bnd (aC 6 x2 v19 h19) fun _ h20 =>
 bnd (aE 6 x2 h20) fun v21 _ =>
 some (v21, h20)) (
 bnd (rec 77 [x0, (.i .i64 (Int.ofNat 10)), (.s [40])] h18) fun v22 h22 =>
 aU v22 (
 bnd (rec 151 [x0, (.f 153 [x0] [])] h22) fun v23 h23 =>
 bnd (aC 6 x2 v23 h23) fun _ h24 =>
 bnd (aE 6 x2 h24) fun v25 _ =>
 some (v25, h24)) (
 bnd (rec 77 [x0, (.i .i64 (Int.ofNat 10)), (.s [91])] h22) fun v26 h26 =>
 aU v26 (
 bnd (rec 151 [x0, (.f 154 [x0] [])] h26) fun v27 h27 =>
 bnd (aC 6 x2 v27 h27) fun _ h28 =>
 bnd (aE 6 x2 h28) fun v29 _ =>
 some (v29, h28)) (
 bnd (aE 4 v2 h26) fun v30 h30 =>
 bnd (rec 80 [x0, v30, (.i .i64 (Int.ofNat 13))] h30) fun v31 h31 =>
  aQr rec n x2 h31)))))
def bXc (rec : RT) (n : Nat) (x0 x2 : DV) (h0 : Hp) : aH :=
 bnd (rec 150 [x0] h0) fun v1 h1 =>
 bnd (aK 0 v1 h1) fun v2 h2 =>
 bnd (aK 1 v1 h2) fun v3 h3 =>
 bnd (bG [(.i .i64 (Int.ofNat 0)), (.s []), (.i .i64 (Int.ofNat 0)), .l0, .l0, .l0] h3) fun v4 h4 =>
 bnd (aC 6 v4 v2 h4) fun _ h5 =>
 aU v3 (
 bnd (aE 6 v4 h5) fun v6 h6 =>
 bnd (aC 6 x2 v6 h6) fun _ h7 =>
 bnd (aE 6 x2 h7) fun v8 _ =>
 some (v8, h7)) (
  bIu rec n x0 x2 h5)
def s137 (rec : RT) (n : Nat) (x0 : DV) (h0 : Hp) : aH :=
 bnd (bG [(.i .i64 (Int.ofNat 0)), (.s []), (.i .i64 (Int.ofNat 0)), .l0, .l0, .l0] h0) fun v1 h1 =>
  bXc rec n x0 v1 h1
abbrev c137 : Code := cf Tryz.f137
abbrev r137 : K := bD CF Tryz.f137
def D137 (rec : RT) (n : Nat) (c : Code) (X : Nat → K) (k : K) : K := aR CF rec 55 n c X r137 k
theorem dJf : D137 rec n c137 x0 r137 = (K1 (s137 rec n) 0) := by kernel_rfl
theorem dCn (args : List DV) (h : Hp) : aL CF rec n 137 args h = s137 rec n (args.getD 0 aA) h :=
 cZ (dJf rec n) args h (by kernel_rfl) (by kernel_rfl)
def s138 (rec : RT) (n : Nat) (x0 : DV) (h0 : Hp) : aH :=
 bnd (dW x0 h0) fun v1 h1 =>
 bnd (bG [(.i .i64 (Int.ofNat 0)), (.s []), (.i .i64 (Int.ofNat 0)), .l0, .l0, .l0] h1) fun v2 h2 =>
 bnd (aB 5 v1 h2) fun v3 h3 =>
 bnd (aD v3 h3) fun v4 h4 =>
 bnd (dB v4 h4) fun v5 h5 =>
 bnd (aF .eql v5 (.i .i64 (Int.ofNat 0)) h5) fun v6 h6 =>
 aU v6 (
 bnd (aE 6 v1 h6) fun v7 h7 =>
 bnd (aC 6 v2 v7 h7) fun _ h8 =>
 bnd (aE 6 v2 h8) fun v9 _ =>
 some (v9, h8)) (
 bnd (aB 1 v1 h6) fun v10 h10 =>
 bnd (aD v10 h10) fun v11 h11 =>
 bnd (aB 5 v1 h11) fun v12 h12 =>
 bnd (aD v12 h12) fun v13 h13 =>
 bnd (cK 6 v13 (some (.i .i64 (Int.ofNat 1))) none h13) fun v14 h14 =>
 bnd (rec 155 [v14] h14) fun v15 h15 =>
 cnd (bP (aD v10 h15) v11 && true) (
 bnd (bB [(.i .i64 (Int.ofNat 0)), (.s []), (.i .i64 (Int.ofNat 0)), .l0, .l0, .l0] [(0, 1, (.i .i64 (Int.ofNat 7))), (1, 1, v11), (5, 1, v15)] h15) fun v16 h16 =>
 bnd (aC 6 v2 v16 h16) fun v17 h17 =>
 bnd (aE 6 v2 h17) fun v18 _ =>
 some (v18, h17)))
abbrev c138 : Code := cf Tryz.f138
abbrev r138 : K := bD CF Tryz.f138
def D138 (rec : RT) (n : Nat) (c : Code) (X : Nat → K) (k : K) : K := aR CF rec 15 n c X r138 k
theorem dEi : D138 rec n c138 x0 r138 = (K1 (s138 rec n) 0) :=
 (by kernel_rfl)
theorem dDr (args : List DV) (h : Hp) : aL CF rec n 138 args h = s138 rec n (args.getD 0 aA) h :=
 cZ (dEi rec n) args h (by kernel_rfl) (by kernel_rfl)
def s139 (rec : RT) (n : Nat) (x0 : DV) (h0 : Hp) : aH :=
 bnd (bG [(.i .i64 (Int.ofNat 0)), (.s []), (.i .i64 (Int.ofNat 0)), .l0, .l0, .l0] h0) fun v1 h1 =>
 bnd (bG [(.i .i64 (Int.ofNat 0)), (.s []), (.i .i64 (Int.ofNat 0)), .l0, .l0, .l0] h1) fun v2 h2 =>
 bnd (rec 81 [x0, (.i .i64 (Int.ofNat 0))] h2) fun v3 h3 =>
 bnd (bG [(.i .i64 (Int.ofNat 0)), (.s []), (.i .i64 (Int.ofNat 0)), (.i .i64 (Int.ofNat 0))] h3) fun v4 h4 =>
 bnd (aC 4 v4 v3 h4) fun _ h5 =>
 bnd (aB 0 v4 h5) fun v6 h6 =>
 bnd (aD v6 h6) fun v7 h7 =>
 bnd (aF .eql v7 (.i .i64 (Int.ofNat 1)) h7) fun v8 h8 =>
 aU v8 (
 bnd (rec 78 [x0] h8) fun v9 h9 =>
 bnd (aB 1 v4 h9) fun v10 h10 =>
 bnd (aD v10 h10) fun v11 h11 =>
 bnd (aE 6 v2 h11) fun v12 h12 =>
 bnd (aO [(.i .i64 (Int.ofNat 0)), (.s []), (.i .i64 (Int.ofNat 0)), .l0, .l0, .l0] 1 [(0, 6, v12)] h12) fun v13 h13 =>
 bnd (rec 149 [v11, v13] h13) fun v14 h14 =>
 bnd (aC 6 v1 v14 h14) fun _ h15 =>
 bnd (aE 6 v1 h15) fun v16 _ =>
 some (v16, h15)) (
 bnd (aF .eql v7 (.i .i64 (Int.ofNat 3)) h8) fun v17 h17 =>
 aU v17 (
 bnd (rec 78 [x0] h17) fun v18 h18 =>
 bnd (aB 1 v4 (hC 1 h18)) fun v19 h19 =>
 bnd (aD v19 h19) fun v20 h20 =>
 bnd (aE 6 v2 h20) fun v21 h21 =>
 bnd (rec 137 [x0] h21) fun v22 h22 =>
 cnd (bP (aE 6 v2 h22) v21 && (bP (aD v19 h22) v20 && true)) (
 bnd (rec 136 [x0, v22] h22) fun v23 h23 =>
 cnd (bP (aE 6 v2 h23) v21 && (bP (aD v19 h23) v20 && true)) (
 bnd (aZ (cT 0 h18.next) [(.i .i64 (Int.ofNat 0)), (.s []), (.i .i64 (Int.ofNat 0)), .l0, .l0, .l0, (.i .i64 (Int.ofNat 0)), (.s []), (.i .i64 (Int.ofNat 0)), .l0, .l0, .l0] 2 [(0, 6, v21), (6, 6, v23)] h23) fun v24 h24 =>
 bnd (rec 149 [v20, v24] h24) fun v25 h25 =>
 bnd (aC 6 v1 v25 h25) fun v26 h26 =>
 bnd (aE 6 v1 h26) fun v27 _ =>
 some (v27, h26)))) (
 bnd (aF .eql v7 (.i .i64 (Int.ofNat 2)) h17) fun v28 h28 =>
 aU v28 (
 bnd (aE 6 v2 h28) fun v29 h29 =>
 bnd (rec 134 [x0, v29] h29) fun v30 h30 =>
 bnd (aC 6 v1 v30 h30) fun _ h31 =>
 bnd (aE 6 v1 h31) fun v32 _ =>
 some (v32, h31)) (
 bnd (aE 4 v4 h28) fun v33 h33 =>
 bnd (rec 80 [x0, v33, (.i .i64 (Int.ofNat 13))] h33) fun v34 h34 =>
 bnd (aE 6 v2 h34) fun v35 h35 =>
 bnd (aC 6 v1 v35 h35) fun _ h36 =>
 bnd (aE 6 v1 h36) fun v37 _ =>
 some (v37, h36))))
abbrev c139 : Code := cf Tryz.f139
abbrev r139 : K := bD CF Tryz.f139
def D139 (rec : RT) (n : Nat) (c : Code) (X : Nat → K) (k : K) : K := aR CF rec 40 n c X r139 k
theorem dHy : D139 rec n c139 x0 r139 = (K1 (s139 rec n) 0) :=
 (by kernel_rfl)
theorem cYh (args : List DV) (h : Hp) : aL CF rec n 139 args h = s139 rec n (args.getD 0 aA) h :=
 cZ (dHy rec n) args h (by kernel_rfl) (by kernel_rfl)
def s149 (rec : RT) (n : Nat) (x0 x1 : DV) (h0 : Hp) : aH :=
 bnd (bG [(.i .i64 (Int.ofNat 0)), (.s []), (.i .i64 (Int.ofNat 0)), .l0, .l0, .l0] h0) fun v1 h1 =>
 bnd (bB [(.i .i64 (Int.ofNat 0)), (.s []), (.i .i64 (Int.ofNat 0)), .l0, .l0, .l0] [(0, 1, (.i .i64 (Int.ofNat 7))), (1, 1, x0), (5, 1, x1)] h1) fun v2 h2 =>
 bnd (aC 6 v1 v2 h2) fun _ h3 =>
 bnd (aE 6 v1 h3) fun v4 _ =>
 some (v4, h3)
abbrev c149 : Code := cf Tryz.f149
abbrev r149 : K := bD CF Tryz.f149
def D149 (rec : RT) (n : Nat) (c : Code) (X : Nat → K) (k : K) : K := aR CF rec 8 n c X r149 k
theorem dHa : D149 rec n c149 x0 r149 = (K2 (s149 rec n) 0 1) :=
 (by kernel_rfl)
theorem dBm (args : List DV) (h : Hp) : aL CF rec n 149 args h = s149 rec n (args.getD 0 aA) (args.getD 1 aA) h :=
 cZ (dHa rec n) args h (by kernel_rfl) (by kernel_rfl)
def aEp (rec : RT) (n : Nat) (x0 x2 x5 : DV) (h0 : Hp) : aH :=
 bnd (rec 78 [x0] h0) fun v1 h1 =>
 bnd (aE 6 x5 h1) fun v2 h2 =>
 bnd (aC 6 x2 v2 h2) fun _ h3 =>
 bnd (aE 6 x2 h3) fun v4 _ =>
 some (.t [v4, (.b true)], h3)
def bVu (rec : RT) (n : Nat) (x0 x2 x4 x5 : DV) (h0 : Hp) : aH :=
 bnd (bM x0 h0) fun v1 h1 =>
 bnd (aB 3 v1 h1) fun v2 h2 =>
 bnd (aD v2 h2) fun v3 h3 =>
 bnd (aF .neq v3 (.i .i64 (Int.ofNat 0)) h3) fun v4 h4 =>
 aU v4 (
 bnd (aE 6 x5 h4) fun v5 h5 =>
 bnd (aC 6 x2 v5 h5) fun _ h6 =>
 bnd (aE 6 x2 h6) fun v7 _ =>
 some (.t [v7, (.b false)], h6)) (
 bnd (rec 161 [x0] h4) fun v8 h8 =>
 aU v8 (
 bnd (rec 78 [x0] h8) fun v9 h9 =>
 bnd (rec 78 [x0] h9) fun v10 h10 =>
 bnd (cB 2 v10 h10) fun v11 h11 =>
 bnd (jZ .neg v11 h11) fun v12 h12 =>
 bnd (bB [(.i .i64 (Int.ofNat 0)), (.s []), (.i .i64 (Int.ofNat 0)), .l0, .l0, .l0] [(0, 1, (.i .i64 (Int.ofNat 1))), (2, 1, v12)] h12) fun v13 h13 =>
 bnd (aC 6 x2 v13 h13) fun _ h14 =>
 bnd (aE 6 x2 h14) fun v15 _ =>
 some (.t [v15, (.b true)], h14)) (
 bnd (aB 0 x4 h8) fun v16 h16 =>
 bnd (aD v16 h16) fun v17 h17 =>
 bnd (aF .eql v17 (.i .i64 (Int.ofNat 4)) h17) fun v18 h18 =>
 aU v18 (
 bnd (aB 0 x5 h18) fun v19 h19 =>
 bnd (aC 1 v19 (.i .i64 (Int.ofNat 1)) h19) fun _ h20 =>
  aEp rec n x0 x2 x5 h20) (
 bnd (aB 0 x4 h18) fun v21 h21 =>
 bnd (aD v21 h21) fun v22 h22 =>
 bnd (aF .eql v22 (.i .i64 (Int.ofNat 5)) h22) fun v23 h23 =>
 aU v23 (
 bnd (aB 0 x5 h23) fun v24 h24 =>
 bnd (aC 1 v24 (.i .i64 (Int.ofNat 2)) h24) fun _ h25 =>
  aEp rec n x0 x2 x5 h25) (
 bnd (aB 0 x4 h23) fun v26 h26 =>
 bnd (aD v26 h26) fun v27 h27 =>
 bnd (aF .eql v27 (.i .i64 (Int.ofNat 6)) h27) fun v28 h28 =>
 aU v28 (
 bnd (aB 0 x5 h28) fun v29 h29 =>
 bnd (aC 1 v29 (.i .i64 (Int.ofNat 3)) h29) fun _ h30 =>
  aEp rec n x0 x2 x5 h30) (
 bnd (aE 6 x5 h28) fun v31 h31 =>
 bnd (aC 6 x2 v31 h31) fun _ h32 =>
 bnd (aE 6 x2 h32) fun v33 _ =>
 some (.t [v33, (.b false)], h32))))))
def bNn (rec : RT) (n : Nat) (x0 x2 x4 : DV) (h0 : Hp) : aH :=
 bnd (aB 1 x4 h0) fun v1 h1 =>
 bnd (aD v1 h1) fun v2 h2 =>
 bnd (aB 2 x4 h2) fun v3 h3 =>
 bnd (aD v3 h3) fun v4 h4 =>
 bnd (bB [(.i .i64 (Int.ofNat 0)), (.s []), (.i .i64 (Int.ofNat 0)), .l0, .l0, .l0] [(1, 1, v2), (2, 1, v4)] h4) fun v5 h5 =>
 bnd (bG [(.i .i64 (Int.ofNat 0)), (.s []), (.i .i64 (Int.ofNat 0)), .l0, .l0, .l0] h5) fun v6 h6 =>
 bnd (aC 6 v6 v5 h6) fun _ h7 =>
  bVu rec n x0 x2 x4 v6 h7
def bTg (rec : RT) (n : Nat) (x0 x2 : DV) (h0 : Hp) : aH :=
 bnd (rec 81 [x0, (.i .i64 (Int.ofNat 0))] h0) fun v1 h1 =>
 bnd (bG [(.i .i64 (Int.ofNat 0)), (.s []), (.i .i64 (Int.ofNat 0)), (.i .i64 (Int.ofNat 0))] h1) fun v2 h2 =>
 bnd (aC 4 v2 v1 h2) fun _ h3 =>
  bNn rec n x0 x2 v2 h3
def s150 (rec : RT) (n : Nat) (x0 : DV) (h0 : Hp) : aH :=
 bnd (bG [(.i .i64 (Int.ofNat 0)), (.s []), (.i .i64 (Int.ofNat 0)), .l0, .l0, .l0] h0) fun v1 h1 =>
  bTg rec n x0 v1 h1
abbrev c150 : Code := cf Tryz.f150
abbrev r150 : K := bD CF Tryz.f150
def D150 (rec : RT) (n : Nat) (c : Code) (X : Nat → K) (k : K) : K := aR CF rec 49 n c X r150 k
theorem dIu : D150 rec n c150 x0 r150 = (K1 (s150 rec n) 0) := by kernel_rfl
theorem dCr (args : List DV) (h : Hp) : aL CF rec n 150 args h = s150 rec n (args.getD 0 aA) h :=
 cZ (dIu rec n) args h (by kernel_rfl) (by kernel_rfl)
def s151 (rec : RT) (n : Nat) (x0 x1 : DV) (h0 : Hp) : aH :=
 bnd (bG [(.i .i64 (Int.ofNat 0)), (.s []), (.i .i64 (Int.ofNat 0)), .l0, .l0, .l0] h0) fun v1 h1 =>
 bnd (rec 78 [x0] h1) fun v2 h2 =>
 bnd (bG [(.i .i64 (Int.ofNat 0)), (.s []), (.i .i64 (Int.ofNat 0)), (.i .i64 (Int.ofNat 0))] h2) fun v3 h3 =>
 bnd (aC 4 v3 v2 h3) fun _ h4 =>
 bnd (bM x0 h4) fun v5 h5 =>
 bnd (aB 1 v5 h5) fun v6 h6 =>
 bnd (aD v6 h6) fun v7 h7 =>
 bnd (aF .eql v7 (.i .i64 (Int.ofNat 20)) h7) fun v8 h8 =>
 aU v8 (
 bnd (aE 4 v3 h8) fun v9 h9 =>
 bnd (rec 80 [x0, v9, (.i .i64 (Int.ofNat 14))] h9) fun v10 h10 =>
 bnd (bB [(.i .i64 (Int.ofNat 0)), (.s []), (.i .i64 (Int.ofNat 0)), .l0, .l0, .l0] [] h10) fun v11 h11 =>
 bnd (aC 6 v1 v11 h11) fun _ h12 =>
 bnd (aE 6 v1 h12) fun v13 _ =>
 some (v13, h12)) (
 bnd (bM x0 h8) fun v14 h14 =>
 bnd (aB 1 v14 h14) fun v15 h15 =>
 bnd (aD v15 h15) fun v16 h16 =>
 bnd (aF .add v16 (.i .i64 (Int.ofNat 1)) h16) fun v17 h17 =>
 bnd (bM x0 h17) fun v18 h18 =>
 bnd (aB 1 v18 h18) fun v19 h19 =>
 bnd (aC 1 v19 v17 h19) fun _ h20 =>
 bnd (dS CF rec x1 [] h20) fun v21 h21 =>
 bnd (bG [(.i .i64 (Int.ofNat 0)), (.s []), (.i .i64 (Int.ofNat 0)), .l0, .l0, .l0] h21) fun v22 h22 =>
 bnd (aC 6 v22 v21 h22) fun _ h23 =>
 bnd (bM x0 h23) fun v24 h24 =>
 bnd (aB 1 v24 h24) fun v25 h25 =>
 bnd (aD v25 h25) fun v26 h26 =>
 bnd (aF .sub v26 (.i .i64 (Int.ofNat 1)) h26) fun v27 h27 =>
 bnd (bM x0 h27) fun v28 h28 =>
 bnd (aB 1 v28 h28) fun v29 h29 =>
 bnd (aC 1 v29 v27 h29) fun _ h30 =>
 bnd (aE 6 v22 h30) fun v31 h31 =>
 bnd (aC 6 v1 v31 h31) fun _ h32 =>
 bnd (aE 6 v1 h32) fun v33 _ =>
 some (v33, h32))
abbrev c151 : Code := cf Tryz.f151
abbrev r151 : K := bD CF Tryz.f151
def D151 (rec : RT) (n : Nat) (c : Code) (X : Nat → K) (k : K) : K := aR CF rec 35 n c X r151 k
theorem dHv : D151 rec n c151 x0 r151 = (K2 (s151 rec n) 0 1) :=
 (by kernel_rfl)
theorem cYg (args : List DV) (h : Hp) : aL CF rec n 151 args h = s151 rec n (args.getD 0 aA) (args.getD 1 aA) h :=
 cZ (dHv rec n) args h (by kernel_rfl) (by kernel_rfl)
def eL (rec : RT) (n : Nat) (x0 x2 x3 : DV) (h0 : Hp) : aH :=
 bnd (rec 78 [x0] h0) fun v1 h1 =>
 bnd (aE 6 x3 h1) fun v2 h2 =>
 bnd (aC 6 x2 v2 h2) fun _ h3 =>
 bnd (aE 6 x2 h3) fun v4 _ =>
 some (v4, h3)
def qX (rec : RT) (n : Nat) (kk4 : cQ) (x0 x2 x3 x4 : DV) (h0 : Hp) : aH :=
 bnd (aB 5 x3 h0) fun v1 h1 =>
 bnd (aD v1 h1) fun v2 h2 =>
 bnd (aE 6 x4 h2) fun v3 h3 =>
 bnd (aO [(.i .i64 (Int.ofNat 0)), (.s []), (.i .i64 (Int.ofNat 0)), .l0, .l0, .l0] 1 [(0, 6, v3)] h3) fun v4 h4 =>
 bnd (aX 6 104 v2 v4 h4) fun v5 h5 =>
 bnd (aB 5 x3 h5) fun v6 h6 =>
 bnd (aC 1 v6 v5 h6) fun _ h7 =>
  kk4 x0 x2 x3 h7
def bKk (rec : RT) (n : Nat) (kk4 : cQ) (x0 x2 x3 x4 x5 : DV) (h0 : Hp) : aH :=
 aU x5 (
  qX rec n kk4 x0 x2 x3 x4 h0) (
 bnd (rec 77 [x0, (.i .i64 (Int.ofNat 7)), (.s [])] h0) fun v1 h1 =>
 bnd (gD v1 false (some (x0, h1)) h1) fun v2 h2 =>
 bnd (gD v1 false (rec 77 [v2, (.i .i64 (Int.ofNat 10)), (.s [40])] h2) h2) fun v3 h3 =>
 bnd (aV v1 (.b true) v3 h3) fun v4 h4 =>
 aU v4 (
 bnd (rec 151 [x0, (.f 152 [x0] [])] h4) fun v5 h5 =>
 bnd (aC 6 x4 v5 h5) fun _ h6 =>
      qX rec n kk4 x0 x2 x3 x4 h6) (
 bnd (rec 81 [x0, (.i .i64 (Int.ofNat 0))] h4) fun v7 h7 =>
 bnd (rec 80 [x0, v7, (.i .i64 (Int.ofNat 13))] h7) fun v8 h8 =>
      qX rec n kk4 x0 x2 x3 x4 h8))
def bMu (rec : RT) (n : Nat) (kk4 : cQ) (x0 x2 x3 : DV) (h0 : Hp) : aH :=
 bnd (rec 150 [x0] h0) fun v1 h1 =>
 bnd (aK 0 v1 h1) fun v2 h2 =>
 bnd (aK 1 v1 h2) fun v3 h3 =>
 bnd (bG [(.i .i64 (Int.ofNat 0)), (.s []), (.i .i64 (Int.ofNat 0)), .l0, .l0, .l0] h3) fun v4 h4 =>
 bnd (aC 6 v4 v2 h4) fun _ h5 =>
  bKk rec n kk4 x0 x2 x3 v4 v3 h5
def wD (rec : RT) (n : Nat) (kk4 : cQ) (x0 x2 x3 : DV) (h0 : Hp) : aH :=
 bnd (bM x0 h0) fun v1 h1 =>
 bnd (aB 3 v1 h1) fun v2 h2 =>
 bnd (aD v2 h2) fun v3 h3 =>
 bnd (aF .eql v3 (.i .i64 (Int.ofNat 0)) h3) fun v4 h4 =>
 bnd (gD v4 true (some (x0, h4)) h4) fun v5 h5 =>
 bnd (gD v4 true (rec 77 [v5, (.i .i64 (Int.ofNat 10)), (.s [41])] h5) h5) fun v6 h6 =>
 bnd (gD v4 true (jZ .not v6 h6) h6) fun v7 h7 =>
 bnd (aV v4 v7 (.b false) h7) fun v8 h8 =>
 aU v8 (
  bMu rec n kk4 x0 x2 x3 h8) (
  eL rec n x0 x2 x3 h8)
def iT (rec : RT) (n : Nat) (m : Nat) : cQ :=
 Nat.rec (motive := fun _ => cQ) (fun _ _ _ _ => none) (fun _ ih => wD rec n ih) m
def aSo (rec : RT) (n : Nat) : cQ := iT rec n n
def aGa (rec : RT) (n : Nat) (x0 x2 x3 : DV) (h0 : Hp) : aH :=
 aSo rec n x0 x2 x3 h0
def aEo (rec : RT) (n : Nat) (x0 x2 : DV) (h0 : Hp) : aH :=
 bnd (bB [(.i .i64 (Int.ofNat 0)), (.s []), (.i .i64 (Int.ofNat 0)), .l0, .l0, .l0] [(0, 1, (.i .i64 (Int.ofNat 4)))] h0) fun v1 h1 =>
 bnd (bG [(.i .i64 (Int.ofNat 0)), (.s []), (.i .i64 (Int.ofNat 0)), .l0, .l0, .l0] h1) fun v2 h2 =>
 bnd (aC 6 v2 v1 h2) fun _ h3 =>
  aGa rec n x0 x2 v2 h3
def s152 (rec : RT) (n : Nat) (x0 : DV) (h0 : Hp) : aH :=
 bnd (bG [(.i .i64 (Int.ofNat 0)), (.s []), (.i .i64 (Int.ofNat 0)), .l0, .l0, .l0] h0) fun v1 h1 =>
  aEo rec n x0 v1 h1
abbrev c152 : Code := cf Tryz.f152
abbrev aGj := cR c152
abbrev aJg := cR aGj
abbrev cSa := cR aJg
abbrev aKi := cL aJg
abbrev aFm := cL aKi
abbrev qU := cL aFm
abbrev aYo := cL aGj
abbrev aVh := cL c152
abbrev r152 : K := bD CF Tryz.f152
def D152 (rec : RT) (n : Nat) (c : Code) (X : Nat → K) (k : K) : K := aR CF rec 48 n c X r152 k
theorem cLl : D152 rec n cSa x0 r152 = (K3 (eL rec n) 0 2 3) := by kernel_rfl
theorem bNy (kk4 : cQ) : D152 rec n qU (xs x0 0 (K3 (eL rec n) 0 2 3)) (K3 kk4 0 2 3) = (K3 (wD rec n kk4) 0 2 3) := by kernel_rfl
theorem bNl (m : Nat) : aG (fun kk => D152 rec n qU (xs x0 0 (K3 (eL rec n) 0 2 3)) kk) m = (K3 (iT rec n m) 0 2 3) := by
 induction m with
 | zero => exact (by kernel_rfl : aG (fun kk => D152 rec n qU (xs x0 0 (K3 (eL rec n) 0 2 3)) kk) 0 = (K3 (iT rec n 0) 0 2 3))
 | succ m ih =>
  refine (by kernel_rfl : aG (fun kk => D152 rec n qU (xs x0 0 (K3 (eL rec n) 0 2 3)) kk) (m + 1) = D152 rec n qU (xs x0 0 (K3 (eL rec n) 0 2 3)) (aG (fun kk => D152 rec n qU (xs x0 0 (K3 (eL rec n) 0 2 3)) kk) m)).trans ?_
  rw [ih]
  exact (bNy rec n (iT rec n m)).trans (by kernel_rfl)
theorem cJx : D152 rec n aFm (xs x0 0 (K3 (eL rec n) 0 2 3)) (K3 (eL rec n) 0 2 3) = (K3 (aSo rec n) 0 2 3) :=
 (by kernel_rfl : D152 rec n aFm (xs x0 0 (K3 (eL rec n) 0 2 3)) (K3 (eL rec n) 0 2 3) = aG (fun kk => D152 rec n qU (xs x0 0 (K3 (eL rec n) 0 2 3)) kk) n).trans ((bNl rec n n).trans (by kernel_rfl))
theorem bKl : D152 rec n aJg x0 r152 = D152 rec n aKi x0 (K3 (eL rec n) 0 2 3) :=
 congrArg (fun k => D152 rec n aKi x0 k) (cLl rec n)
theorem cMo : D152 rec n aJg x0 r152 = (K3 (aGa rec n) 0 2 3) :=
 (bKl rec n).trans
 ((by kernel_rfl : D152 rec n aKi x0 (K3 (eL rec n) 0 2 3) = D152 rec n aFm (xs x0 0 (K3 (eL rec n) 0 2 3)) (K3 (eL rec n) 0 2 3)).trans
 ((cJx rec n).trans (by kernel_rfl)))
theorem bSw : D152 rec n aGj x0 r152 = D152 rec n aYo x0 (K3 (aGa rec n) 0 2 3) :=
 congrArg (fun k => D152 rec n aYo x0 k) (cMo rec n)
theorem cIs : D152 rec n aGj x0 r152 = (K2 (aEo rec n) 0 2) :=
 (bSw rec n).trans
 ((by kernel_rfl))
theorem cSt : D152 rec n c152 x0 r152 = D152 rec n aVh x0 (K2 (aEo rec n) 0 2) :=
 congrArg (fun k => D152 rec n aVh x0 k) (cIs rec n)
theorem dIg : D152 rec n c152 x0 r152 = (K1 (s152 rec n) 0) :=
 (cSt rec n).trans
 ((by kernel_rfl))
theorem cXj (args : List DV) (h : Hp) : aL CF rec n 152 args h = s152 rec n (args.getD 0 aA) h :=
 cZ (dIg rec n) args h (by kernel_rfl) (by kernel_rfl)
def s153 (rec : RT) (n : Nat) (x0 : DV) (h0 : Hp) : aH :=
 bnd (bG [(.i .i64 (Int.ofNat 0)), (.s []), (.i .i64 (Int.ofNat 0)), .l0, .l0, .l0] h0) fun v1 h1 =>
 bnd (rec 79 [x0] h1) fun v2 h2 =>
 bnd (bG [(.i .i64 (Int.ofNat 0)), (.s []), (.i .i64 (Int.ofNat 0)), .l0, .l0, .l0] h2) fun v3 h3 =>
 bnd (aC 6 v3 v2 h3) fun _ h4 =>
 bnd (rec 51 [x0, (.i .i64 (Int.ofNat 10)), (.s [41])] h4) fun v5 h5 =>
 bnd (aE 6 v3 h5) fun v6 h6 =>
 bnd (aC 6 v1 v6 h6) fun _ h7 =>
 bnd (aE 6 v1 h7) fun v8 _ =>
 some (v8, h7)
abbrev c153 : Code := cf Tryz.f153
abbrev r153 : K := bD CF Tryz.f153
def D153 (rec : RT) (n : Nat) (c : Code) (X : Nat → K) (k : K) : K := aR CF rec 9 n c X r153 k
theorem dGg : D153 rec n c153 x0 r153 = (K1 (s153 rec n) 0) :=
 (by kernel_rfl)
theorem dAa (args : List DV) (h : Hp) : aL CF rec n 153 args h = s153 rec n (args.getD 0 aA) h :=
 cZ (dGg rec n) args h (by kernel_rfl) (by kernel_rfl)
def aGs (rec : RT) (n : Nat) (x0 x2 x3 : DV) (h0 : Hp) : aH :=
 bnd (rec 49 [x0] h0) fun v1 h1 =>
 bnd (aB 4 x3 h1) fun v2 h2 =>
 bnd (aC 1 v2 v1 h2) fun _ h3 =>
 bnd (rec 50 [x0] h3) fun v4 h4 =>
 bnd (aB 5 x3 h4) fun v5 h5 =>
 bnd (aC 1 v5 v4 h5) fun _ h6 =>
 bnd (rec 51 [x0, (.i .i64 (Int.ofNat 10)), (.s [93])] h6) fun v7 h7 =>
 bnd (aE 6 x3 h7) fun v8 h8 =>
 bnd (aC 6 x2 v8 h8) fun _ h9 =>
 bnd (aE 6 x2 h9) fun v10 _ =>
 some (v10, h9)
def eJ (rec : RT) (n : Nat) (x0 x2 x3 : DV) (h0 : Hp) : aH :=
 bnd (aB 3 x3 h0) fun v1 h1 =>
 bnd (aD v1 h1) fun v2 h2 =>
 bnd (dB v2 h2) fun v3 h3 =>
 bnd (aF .gtr v3 (.i .i64 (Int.ofNat 0)) h3) fun v4 h4 =>
 bnd (gD v4 true (some (x0, h4)) h4) fun v5 h5 =>
 bnd (gD v4 true (rec 77 [v5, (.i .i64 (Int.ofNat 10)), (.s [93])] h5) h5) fun v6 h6 =>
 bnd (gD v4 true (jZ .not v6 h6) h6) fun v7 h7 =>
 bnd (aV v4 v7 (.b false) h7) fun v8 h8 =>
 aU v8 (
 bnd (rec 51 [x0, (.i .i64 (Int.ofNat 10)), (.s [124])] h8) fun v9 h9 =>
  aGs rec n x0 x2 x3 h9) (
  aGs rec n x0 x2 x3 h8)
def vU (rec : RT) (n : Nat) (kk5 : cQ) (x0 x2 x3 : DV) (h0 : Hp) : aH :=
 bnd (rec 77 [x0, (.i .i64 (Int.ofNat 8)), (.s [])] h0) fun v1 h1 =>
 aU v1 (
 bnd (aB 3 x3 (hC 1 h1)) fun v2 h2 =>
 bnd (aD v2 h2) fun v3 h3 =>
 bnd (aB 3 x3 h3) fun v4 h4 =>
 bnd (aD v4 h4) fun v5 h5 =>
 bnd (rec 82 [x0, (.i .i64 (Int.ofNat 8)), v5] h5) fun v6 h6 =>
 cnd (bP (aD v2 h6) v3 && true) (
 bnd (aZ (cT 0 h1.next) [(.s [])] 1 [(0, 1, v6)] h6) fun v7 h7 =>
 bnd (aX 1 16 v3 v7 h7) fun v8 h8 =>
 bnd (aB 3 x3 h8) fun v9 h9 =>
 bnd (aC 1 v9 v8 h9) fun v10 h10 =>
      kk5 x0 x2 x3 h10)) (
      eJ rec n x0 x2 x3 h1)
def lX (rec : RT) (n : Nat) (m : Nat) : cQ :=
 Nat.rec (motive := fun _ => cQ) (fun _ _ _ _ => none) (fun _ ih => vU rec n ih) m
def aQx (rec : RT) (n : Nat) : cQ := lX rec n n
def aGp (rec : RT) (n : Nat) (x0 x2 x3 : DV) (h0 : Hp) : aH :=
 aQx rec n x0 x2 x3 h0
def aGu (rec : RT) (n : Nat) (x0 x2 : DV) (h0 : Hp) : aH :=
 bnd (bB [(.i .i64 (Int.ofNat 0)), (.s []), (.i .i64 (Int.ofNat 0)), .l0, .l0, .l0] [(0, 1, (.i .i64 (Int.ofNat 9)))] h0) fun v1 h1 =>
 bnd (bG [(.i .i64 (Int.ofNat 0)), (.s []), (.i .i64 (Int.ofNat 0)), .l0, .l0, .l0] h1) fun v2 h2 =>
 bnd (aC 6 v2 v1 h2) fun _ h3 =>
  aGp rec n x0 x2 v2 h3
def s154 (rec : RT) (n : Nat) (x0 : DV) (h0 : Hp) : aH :=
 bnd (bG [(.i .i64 (Int.ofNat 0)), (.s []), (.i .i64 (Int.ofNat 0)), .l0, .l0, .l0] h0) fun v1 h1 =>
  aGu rec n x0 v1 h1
abbrev c154 : Code := cf Tryz.f154
abbrev aJk := cR c154
abbrev aJz := cR aJk
abbrev dDa := cR aJz
abbrev aEg := cL aJz
abbrev aDs := cL aEg
abbrev rJ := cL aDs
abbrev bTc := cL aJk
abbrev aZb := cL c154
abbrev r154 : K := bD CF Tryz.f154
def D154 (rec : RT) (n : Nat) (c : Code) (X : Nat → K) (k : K) : K := aR CF rec 36 n c X r154 k
theorem cHo : D154 rec n dDa x0 r154 = (K3 (eJ rec n) 0 2 3) := by kernel_rfl
theorem bXx (kk5 : cQ) : D154 rec n rJ (xs x0 0 (K3 (eJ rec n) 0 2 3)) (K3 kk5 0 2 3) = (K3 (vU rec n kk5) 0 2 3) := by kernel_rfl
theorem bXr (m : Nat) : aG (fun kk => D154 rec n rJ (xs x0 0 (K3 (eJ rec n) 0 2 3)) kk) m = (K3 (lX rec n m) 0 2 3) := by
 induction m with
 | zero => exact (by kernel_rfl : aG (fun kk => D154 rec n rJ (xs x0 0 (K3 (eJ rec n) 0 2 3)) kk) 0 = (K3 (lX rec n 0) 0 2 3))
 | succ m ih =>
  refine (by kernel_rfl : aG (fun kk => D154 rec n rJ (xs x0 0 (K3 (eJ rec n) 0 2 3)) kk) (m + 1) = D154 rec n rJ (xs x0 0 (K3 (eJ rec n) 0 2 3)) (aG (fun kk => D154 rec n rJ (xs x0 0 (K3 (eJ rec n) 0 2 3)) kk) m)).trans ?_
  rw [ih]
  exact (bXx rec n (lX rec n m)).trans (by kernel_rfl)
theorem cCy : D154 rec n aDs (xs x0 0 (K3 (eJ rec n) 0 2 3)) (K3 (eJ rec n) 0 2 3) = (K3 (aQx rec n) 0 2 3) :=
 (by kernel_rfl : D154 rec n aDs (xs x0 0 (K3 (eJ rec n) 0 2 3)) (K3 (eJ rec n) 0 2 3) = aG (fun kk => D154 rec n rJ (xs x0 0 (K3 (eJ rec n) 0 2 3)) kk) n).trans ((bXr rec n n).trans (by kernel_rfl))
theorem bMl : D154 rec n aJz x0 r154 = D154 rec n aEg x0 (K3 (eJ rec n) 0 2 3) :=
 congrArg (fun k => D154 rec n aEg x0 k) (cHo rec n)
theorem bYl : D154 rec n aJz x0 r154 = (K3 (aGp rec n) 0 2 3) :=
 (bMl rec n).trans
 ((by kernel_rfl : D154 rec n aEg x0 (K3 (eJ rec n) 0 2 3) = D154 rec n aDs (xs x0 0 (K3 (eJ rec n) 0 2 3)) (K3 (eJ rec n) 0 2 3)).trans
 ((cCy rec n).trans (by kernel_rfl)))
theorem bVw : D154 rec n aJk x0 r154 = D154 rec n bTc x0 (K3 (aGp rec n) 0 2 3) :=
 congrArg (fun k => D154 rec n bTc x0 k) (bYl rec n)
theorem cLs : D154 rec n aJk x0 r154 = (K2 (aGu rec n) 0 2) :=
 (bVw rec n).trans
 ((by kernel_rfl))
theorem cQy : D154 rec n c154 x0 r154 = D154 rec n aZb x0 (K2 (aGu rec n) 0 2) :=
 congrArg (fun k => D154 rec n aZb x0 k) (cLs rec n)
theorem dLe : D154 rec n c154 x0 r154 = (K1 (s154 rec n) 0) :=
 (cQy rec n).trans
 ((by kernel_rfl))
theorem cUo (args : List DV) (h : Hp) : aL CF rec n 154 args h = s154 rec n (args.getD 0 aA) h :=
 cZ (dLe rec n) args h (by kernel_rfl) (by kernel_rfl)
def s155 (rec : RT) (n : Nat) (x0 : DV) (h0 : Hp) : aH :=
 bnd (pEq (.slice 25) true x0 .l0 h0) fun v1 h1 =>
 aU v1 (
 some (.l0, h1)) (
 bnd (aO [] 0 [] h1) fun v2 h2 =>
 bnd (aX 6 104 v2 x0 h2) fun v3 h3 =>
 some (v3, h3))
abbrev c155 : Code := cf Tryz.f155
abbrev r155 : K := bD CF Tryz.f155
def D155 (rec : RT) (n : Nat) (c : Code) (X : Nat → K) (k : K) : K := aR CF rec 8 n c X r155 k
theorem dKz : D155 rec n c155 x0 r155 = (K1 (s155 rec n) 0) :=
 (by kernel_rfl)
theorem cYj (args : List DV) (h : Hp) : aL CF rec n 155 args h = s155 rec n (args.getD 0 aA) h :=
 cZ (dKz rec n) args h (by kernel_rfl) (by kernel_rfl)
def s161 (rec : RT) (n : Nat) (x0 : DV) (h0 : Hp) : aH :=
 bnd (rec 81 [x0, (.i .i64 (Int.ofNat 1))] h0) fun v1 h1 =>
 bnd (bG [(.i .i64 (Int.ofNat 0)), (.s []), (.i .i64 (Int.ofNat 0)), (.i .i64 (Int.ofNat 0))] h1) fun v2 h2 =>
 bnd (aC 4 v2 v1 h2) fun _ h3 =>
 bnd (rec 77 [x0, (.i .i64 (Int.ofNat 3)), (.s [45])] h3) fun v4 h4 =>
 bnd (gD v4 true (aB 0 v2 h4) h4) fun v5 h5 =>
 bnd (gD v4 true (aD v5 h5) h5) fun v6 h6 =>
 bnd (gD v4 true (aF .eql v6 (.i .i64 (Int.ofNat 4)) h6) h6) fun v7 h7 =>
 bnd (aV v4 v7 (.b false) h7) fun v8 h8 =>
 bnd (gD v8 true (aB 3 v2 h8) h8) fun v9 h9 =>
 bnd (gD v8 true (aD v9 h9) h9) fun v10 h10 =>
 bnd (gD v8 true (some (x0, h10)) h10) fun v11 h11 =>
 bnd (gD v8 true (rec 81 [v11, (.i .i64 (Int.ofNat 0))] h11) h11) fun v12 h12 =>
 cnd (bP (gD v8 true (aD v9 h12) h12) v10 && true) (
 bnd (gD v8 true (cB 3 v12 h12) h12) fun v13 h13 =>
 bnd (gD v8 true (aF .add v13 (.i .i64 (Int.ofNat 1)) h13) h13) fun v14 h14 =>
 bnd (gD v8 true (aF .eql v10 v14 h14) h14) fun v15 h15 =>
 bnd (aV v8 v15 (.b false) h15) fun v16 h16 =>
 some (v16, h16))
abbrev c161 : Code := cf Tryz.f161
abbrev r161 : K := bD CF Tryz.f161
def D161 (rec : RT) (n : Nat) (c : Code) (X : Nat → K) (k : K) : K := aR CF rec 22 n c X r161 k
theorem dKn : D161 rec n c161 x0 r161 = (K1 (s161 rec n) 0) :=
 (by kernel_rfl)
theorem cSn (args : List DV) (h : Hp) : aL CF rec n 161 args h = s161 rec n (args.getD 0 aA) h :=
 cZ (dKn rec n) args h (by kernel_rfl) (by kernel_rfl)
end
end Go.Dd

namespace Go.Dd
open Go.Proofs
noncomputable section
section
variable (ih : RT) (m : Nat) (f : FuncId) (args : List DV) (h : Hp)
theorem dA {i : Nat} {s r : aH} (e1 : s = aL CF ih m i args h) (e2 : r = aL CF ih m f args h) : (bif Nat.beq f i then s else r) = aL CF ih m f args h := by
 cases e : Nat.beq f i with
 | false => exact e2
 | true => cases Nat.eq_of_beq_eq_true e; exact e1
theorem ndC {i : Nat} {a b : aH} (e1 : a = aL CF ih m f args h) (e2 : b = aL CF ih m f args h) : (bif Nat.blt f i then a else b) = aL CF ih m f args h := by
 cases Nat.blt f i with
 | false => exact e2
 | true => exact e1
def qg0 : aH := bif Nat.beq f 3 then s3 ih m (args.getD 0 aA) h else bif Nat.beq f 4 then s4 ih m (args.getD 0 aA) h else bif Nat.beq f 5 then s5 ih m (args.getD 0 aA) h else bif Nat.beq f 6 then s6 ih m (args.getD 0 aA) h else bif Nat.beq f 7 then s7 ih m (args.getD 0 aA) (args.getD 1 aA) h else bif Nat.beq f 9 then s9 ih m (args.getD 0 aA) h else bif Nat.beq f 12 then s12 ih m (args.getD 0 aA) (args.getD 1 aA) h else bif Nat.beq f 13 then s13 ih m (args.getD 0 aA) h else aL CF ih m f args h
theorem dLu : qg0 ih m f args h = aL CF ih m f args h := dA ih m f args h (dPb ih m args h).symm (dA ih m f args h (dKx ih m args h).symm (dA ih m f args h (dMh ih m args h).symm (dA ih m f args h (dOg ih m args h).symm (dA ih m f args h (dPg ih m args h).symm (dA ih m f args h (dNl ih m args h).symm (dA ih m f args h (dHe ih m args h).symm (dA ih m f args h (dHc ih m args h).symm rfl)))))))
def qg1 : aH := bif Nat.beq f 14 then s14 ih m (args.getD 0 aA) h else bif Nat.beq f 16 then s16 ih m (args.getD 0 aA) (args.getD 1 aA) h else bif Nat.beq f 18 then s18 ih m (args.getD 0 aA) (args.getD 1 aA) h else bif Nat.beq f 19 then s19 ih m (args.getD 0 aA) h else bif Nat.beq f 21 then s21 ih m (args.getD 0 aA) h else bif Nat.beq f 22 then s22 ih m (args.getD 0 aA) (args.getD 1 aA) (args.getD 2 aA) (args.getD 3 aA) h else bif Nat.beq f 23 then s23 ih m (args.getD 0 aA) h else bif Nat.beq f 25 then s25 ih m (args.getD 0 aA) (args.getD 1 aA) h else aL CF ih m f args h
theorem dPp : qg1 ih m f args h = aL CF ih m f args h := dA ih m f args h (dKp ih m args h).symm (dA ih m f args h (dFq ih m args h).symm (dA ih m f args h (dIm ih m args h).symm (dA ih m f args h (dIy ih m args h).symm (dA ih m f args h (dJn ih m args h).symm (dA ih m f args h (dJp ih m args h).symm (dA ih m f args h (dEg ih m args h).symm (dA ih m f args h (dGa ih m args h).symm rfl)))))))
def qg2 : aH := bif Nat.beq f 26 then s26 ih m (args.getD 0 aA) (args.getD 1 aA) h else bif Nat.beq f 27 then s27 ih m (args.getD 0 aA) h else bif Nat.beq f 28 then s28 ih m (args.getD 0 aA) (args.getD 1 aA) h else bif Nat.beq f 32 then s32 ih m (args.getD 0 aA) h else bif Nat.beq f 33 then s33 ih m (args.getD 0 aA) h else bif Nat.beq f 35 then s35 ih m (args.getD 0 aA) (args.getD 1 aA) (args.getD 2 aA) h else bif Nat.beq f 36 then s36 ih m (args.getD 0 aA) h else bif Nat.beq f 37 then s37 ih m (args.getD 0 aA) (args.getD 1 aA) h else aL CF ih m f args h
theorem dOb : qg2 ih m f args h = aL CF ih m f args h := dA ih m f args h (dKc ih m args h).symm (dA ih m f args h (dHq ih m args h).symm (dA ih m f args h (dJi ih m args h).symm (dA ih m f args h (dKl ih m args h).symm (dA ih m f args h (dGh ih m args h).symm (dA ih m f args h (dJk ih m args h).symm (dA ih m f args h (dLk ih m args h).symm (dA ih m f args h (dIh ih m args h).symm rfl)))))))
def qg3 : aH := bif Nat.beq f 38 then s38 ih m (args.getD 0 aA) (args.getD 1 aA) h else bif Nat.beq f 39 then s39 ih m (args.getD 0 aA) h else bif Nat.beq f 41 then s41 ih m (args.getD 0 aA) h else bif Nat.beq f 42 then s42 ih m (args.getD 0 aA) h else bif Nat.beq f 43 then s43 ih m (args.getD 0 aA) h else bif Nat.beq f 45 then s45 ih m (args.getD 0 aA) h else bif Nat.beq f 46 then s46 ih m (args.getD 0 aA) h else bif Nat.beq f 47 then s47 ih m (args.getD 0 aA) (args.getD 1 aA) (args.getD 2 aA) h else aL CF ih m f args h
theorem dNy : qg3 ih m f args h = aL CF ih m f args h := dA ih m f args h (dKd ih m args h).symm (dA ih m f args h (dHf ih m args h).symm (dA ih m f args h (dHx ih m args h).symm (dA ih m f args h (dFm ih m args h).symm (dA ih m f args h (dIa ih m args h).symm (dA ih m f args h (dKa ih m args h).symm (dA ih m f args h (dGt ih m args h).symm (dA ih m f args h (dFw ih m args h).symm rfl)))))))
def qg4 : aH := bif Nat.beq f 48 then s48 ih m (args.getD 0 aA) h else bif Nat.beq f 49 then s49 ih m (args.getD 0 aA) h else bif Nat.beq f 50 then s50 ih m (args.getD 0 aA) h else bif Nat.beq f 51 then s51 ih m (args.getD 0 aA) (args.getD 1 aA) (args.getD 2 aA) h else bif Nat.beq f 57 then s57 ih m (args.getD 0 aA) (args.getD 1 aA) h else bif Nat.beq f 58 then s58 ih m (args.getD 0 aA) (args.getD 1 aA) h else bif Nat.beq f 61 then s61 ih m (args.getD 0 aA) (args.getD 1 aA) h else bif Nat.beq f 62 then s62 ih m (args.getD 0 aA) h else aL CF ih m f args h
theorem dOi : qg4 ih m f args h = aL CF ih m f args h := dA ih m f args h (dEt ih m args h).symm (dA ih m f args h (dJv ih m args h).symm (dA ih m f args h (dHb ih m args h).symm (dA ih m f args h (dFz ih m args h).symm (dA ih m f args h (dLa ih m args h).symm (dA ih m f args h (dGe ih m args h).symm (dA ih m f args h (dKu ih m args h).symm (dA ih m f args h (dHn ih m args h).symm rfl)))))))
def qg5 : aH := bif Nat.beq f 63 then s63 ih m (args.getD 0 aA) (args.getD 1 aA) h else bif Nat.beq f 64 then s64 ih m (args.getD 0 aA) (args.getD 1 aA) (args.getD 2 aA) h else bif Nat.beq f 65 then s65 ih m (args.getD 0 aA) h else bif Nat.beq f 66 then s66 ih m (args.getD 0 aA) (args.getD 1 aA) h else bif Nat.beq f 67 then s67 ih m (args.getD 0 aA) (args.getD 1 aA) h else bif Nat.beq f 68 then s68 ih m (args.getD 0 aA) (args.getD 1 aA) (args.getD 2 aA) h else bif Nat.beq f 69 then s69 ih m (args.getD 0 aA) h else bif Nat.beq f 70 then s70 ih m (args.getD 0 aA) (args.getD 1 aA) (args.getD 2 aA) h else aL CF ih m f args h
theorem dPm : qg5 ih m f args h = aL CF ih m f args h := dA ih m f args h (dKr ih m args h).symm (dA ih m f args h (dEj ih m args h).symm (dA ih m f args h (dHi ih m args h).symm (dA ih m f args h (dKw ih m args h).symm (dA ih m f args h (dIt ih m args h).symm (dA ih m f args h (dLb ih m args h).symm (dA ih m f args h (dGz ih m args h).symm (dA ih m f args h (dHr ih m args h).symm rfl)))))))
def qg6 : aH := bif Nat.beq f 71 then s71 ih m (args.getD 0 aA) (args.getD 1 aA) (args.getD 2 aA) h else bif Nat.beq f 72 then s72 ih m (args.getD 0 aA) h else bif Nat.beq f 73 then s73 ih m (args.getD 0 aA) (args.getD 1 aA) h else bif Nat.beq f 74 then s74 ih m (args.getD 0 aA) (args.getD 1 aA) (args.getD 2 aA) h else bif Nat.beq f 75 then s75 ih m (args.getD 0 aA) h else bif Nat.beq f 76 then s76 ih m (args.getD 0 aA) h else bif Nat.beq f 77 then s77 ih m (args.getD 0 aA) (args.getD 1 aA) (args.getD 2 aA) h else bif Nat.beq f 78 then s78 ih m (args.getD 0 aA) h else aL CF ih m f args h
theorem dLr : qg6 ih m f args h = aL CF ih m f args h := dA ih m f args h (dDz ih m args h).symm (dA ih m f args h (dIi ih m args h).symm (dA ih m f args h (dFp ih m args h).symm (dA ih m f args h (dKt ih m args h).symm (dA ih m f args h (dJy ih m args h).symm (dA ih m f args h (dFa ih m args h).symm (dA ih m f args h (dGd ih m args h).symm (dA ih m f args h (dHh ih m args h).symm rfl)))))))
def qg7 : aH := bif Nat.beq f 79 then s79 ih m (args.getD 0 aA) h else bif Nat.beq f 80 then s80 ih m (args.getD 0 aA) (args.getD 1 aA) (args.getD 2 aA) h else bif Nat.beq f 81 then s81 ih m (args.getD 0 aA) (args.getD 1 aA) h else bif Nat.beq f 82 then s82 ih m (args.getD 0 aA) (args.getD 1 aA) (args.getD 2 aA) h else bif Nat.beq f 85 then s85 ih m (args.getD 0 aA) (args.getD 1 aA) h else bif Nat.beq f 89 then s89 ih m (args.getD 0 aA) (args.getD 1 aA) (args.getD 2 aA) h else bif Nat.beq f 90 then s90 ih m (args.getD 0 aA) (args.getD 1 aA) h else bif Nat.beq f 91 then s91 ih m (args.getD 0 aA) h else aL CF ih m f args h
theorem dOe : qg7 ih m f args h = aL CF ih m f args h := dA ih m f args h (dEc ih m args h).symm (dA ih m f args h (dHw ih m args h).symm (dA ih m f args h (dFt ih m args h).symm (dA ih m f args h (dFh ih m args h).symm (dA ih m f args h (dJq ih m args h).symm (dA ih m f args h (dLj ih m args h).symm (dA ih m f args h (dFd ih m args h).symm (dA ih m f args h (dEl ih m args h).symm rfl)))))))
def qg8 : aH := bif Nat.beq f 92 then s92 ih m (args.getD 0 aA) (args.getD 1 aA) h else bif Nat.beq f 93 then s93 ih m (args.getD 0 aA) (args.getD 1 aA) h else bif Nat.beq f 94 then s94 ih m (args.getD 0 aA) h else bif Nat.beq f 95 then s95 ih m (args.getD 0 aA) (args.getD 1 aA) h else bif Nat.beq f 96 then s96 ih m (args.getD 0 aA) (args.getD 1 aA) h else bif Nat.beq f 97 then s97 ih m (args.getD 0 aA) (args.getD 1 aA) h else bif Nat.beq f 98 then s98 ih m (args.getD 0 aA) (args.getD 1 aA) h else bif Nat.beq f 99 then s99 ih m (args.getD 0 aA) (args.getD 1 aA) h else aL CF ih m f args h
theorem dPq : qg8 ih m f args h = aL CF ih m f args h := dA ih m f args h (dIk ih m args h).symm (dA ih m f args h (dKj ih m args h).symm (dA ih m f args h (dEz ih m args h).symm (dA ih m f args h (dKf ih m args h).symm (dA ih m f args h (dIz ih m args h).symm (dA ih m f args h (dKq ih m args h).symm (dA ih m f args h (dEb ih m args h).symm (dA ih m f args h (dJs ih m args h).symm rfl)))))))
def qg9 : aH := bif Nat.beq f 100 then s100 ih m (args.getD 0 aA) h else bif Nat.beq f 101 then s101 ih m (args.getD 0 aA) (args.getD 1 aA) h else bif Nat.beq f 102 then s102 ih m (args.getD 0 aA) (args.getD 1 aA) h else bif Nat.beq f 103 then s103 ih m (args.getD 0 aA) (args.getD 1 aA) h else bif Nat.beq f 104 then s104 ih m (args.getD 0 aA) h else bif Nat.beq f 105 then s105 ih m (args.getD 0 aA) (args.getD 1 aA) h else bif Nat.beq f 106 then s106 ih m (args.getD 0 aA) (args.getD 1 aA) h else bif Nat.beq f 107 then s107 ih m (args.getD 0 aA) h else aL CF ih m f args h
theorem dPd : qg9 ih m f args h = aL CF ih m f args h := dA ih m f args h (cUs ih m args h).symm (dA ih m f args h (cVz ih m args h).symm (dA ih m f args h (cZi ih m args h).symm (dA ih m f args h (cZw ih m args h).symm (dA ih m f args h (cRc ih m args h).symm (dA ih m f args h (cVt ih m args h).symm (dA ih m f args h (dAu ih m args h).symm (dA ih m f args h (cTk ih m args h).symm rfl)))))))
def dJe : aH := bif Nat.beq f 108 then s108 ih m (args.getD 0 aA) h else bif Nat.beq f 109 then s109 ih m (args.getD 0 aA) h else bif Nat.beq f 110 then s110 ih m (args.getD 0 aA) h else bif Nat.beq f 111 then s111 ih m (args.getD 0 aA) h else bif Nat.beq f 112 then s112 ih m (args.getD 0 aA) h else bif Nat.beq f 113 then s113 ih m (args.getD 0 aA) h else bif Nat.beq f 114 then s114 ih m (args.getD 0 aA) h else bif Nat.beq f 126 then s126 ih m (args.getD 0 aA) h else aL CF ih m f args h
theorem dDx : dJe ih m f args h = aL CF ih m f args h := dA ih m f args h (cRy ih m args h).symm (dA ih m f args h (cWy ih m args h).symm (dA ih m f args h (cTu ih m args h).symm (dA ih m f args h (cWm ih m args h).symm (dA ih m f args h (dDk ih m args h).symm (dA ih m f args h (dCc ih m args h).symm (dA ih m f args h (cWp ih m args h).symm (dA ih m f args h (cUj ih m args h).symm rfl)))))))
def dEo : aH := bif Nat.beq f 127 then s127 ih m (args.getD 0 aA) (args.getD 1 aA) (args.getD 2 aA) h else bif Nat.beq f 128 then s128 ih m (args.getD 0 aA) h else bif Nat.beq f 129 then s129 ih m (args.getD 0 aA) h else bif Nat.beq f 130 then s130 ih m (args.getD 0 aA) h else bif Nat.beq f 131 then s131 ih m (args.getD 0 aA) h else bif Nat.beq f 132 then s132 ih m (args.getD 0 aA) h else bif Nat.beq f 133 then s133 ih m (args.getD 0 aA) h else bif Nat.beq f 134 then s134 ih m (args.getD 0 aA) (args.getD 1 aA) h else aL CF ih m f args h
theorem dFb : dEo ih m f args h = aL CF ih m f args h := dA ih m f args h (cVh ih m args h).symm (dA ih m f args h (cXd ih m args h).symm (dA ih m f args h (cUf ih m args h).symm (dA ih m f args h (cXt ih m args h).symm (dA ih m f args h (cZd ih m args h).symm (dA ih m f args h (dDe ih m args h).symm (dA ih m f args h (cYa ih m args h).symm (dA ih m f args h (cTn ih m args h).symm rfl)))))))
def dHz : aH := bif Nat.beq f 135 then s135 ih m (args.getD 0 aA) (args.getD 1 aA) h else bif Nat.beq f 136 then s136 ih m (args.getD 0 aA) (args.getD 1 aA) h else bif Nat.beq f 137 then s137 ih m (args.getD 0 aA) h else bif Nat.beq f 138 then s138 ih m (args.getD 0 aA) h else bif Nat.beq f 139 then s139 ih m (args.getD 0 aA) h else bif Nat.beq f 149 then s149 ih m (args.getD 0 aA) (args.getD 1 aA) h else bif Nat.beq f 150 then s150 ih m (args.getD 0 aA) h else bif Nat.beq f 151 then s151 ih m (args.getD 0 aA) (args.getD 1 aA) h else aL CF ih m f args h
theorem dGk : dHz ih m f args h = aL CF ih m f args h := dA ih m f args h (cWk ih m args h).symm (dA ih m f args h (cSr ih m args h).symm (dA ih m f args h (dCn ih m args h).symm (dA ih m f args h (dDr ih m args h).symm (dA ih m f args h (cYh ih m args h).symm (dA ih m f args h (dBm ih m args h).symm (dA ih m f args h (dCr ih m args h).symm (dA ih m f args h (cYg ih m args h).symm rfl)))))))
def dFg : aH := bif Nat.beq f 152 then s152 ih m (args.getD 0 aA) h else bif Nat.beq f 153 then s153 ih m (args.getD 0 aA) h else bif Nat.beq f 154 then s154 ih m (args.getD 0 aA) h else bif Nat.beq f 155 then s155 ih m (args.getD 0 aA) h else bif Nat.beq f 161 then s161 ih m (args.getD 0 aA) h else aL CF ih m f args h
theorem dEy : dFg ih m f args h = aL CF ih m f args h := dA ih m f args h (cXj ih m args h).symm (dA ih m f args h (dAa ih m args h).symm (dA ih m f args h (cUo ih m args h).symm (dA ih m f args h (cYj ih m args h).symm (dA ih m f args h (cSn ih m args h).symm rfl))))
def qd0 : aH := bif Nat.blt f 26 then qg1 ih m f args h else qg2 ih m f args h
theorem dMo : qd0 ih m f args h = aL CF ih m f args h := ndC ih m f args h (dPp ih m f args h) (dOb ih m f args h)
def qd1 : aH := bif Nat.blt f 14 then qg0 ih m f args h else qd0 ih m f args h
theorem dMu : qd1 ih m f args h = aL CF ih m f args h := ndC ih m f args h (dLu ih m f args h) (dMo ih m f args h)
def qd2 : aH := bif Nat.blt f 48 then qg3 ih m f args h else qg4 ih m f args h
theorem dNq : qd2 ih m f args h = aL CF ih m f args h := ndC ih m f args h (dNy ih m f args h) (dOi ih m f args h)
def qd3 : aH := bif Nat.blt f 71 then qg5 ih m f args h else qg6 ih m f args h
theorem dPs : qd3 ih m f args h = aL CF ih m f args h := ndC ih m f args h (dPm ih m f args h) (dLr ih m f args h)
def qd4 : aH := bif Nat.blt f 63 then qd2 ih m f args h else qd3 ih m f args h
theorem dNe : qd4 ih m f args h = aL CF ih m f args h := ndC ih m f args h (dNq ih m f args h) (dPs ih m f args h)
def qd5 : aH := bif Nat.blt f 38 then qd1 ih m f args h else qd4 ih m f args h
theorem dMj : qd5 ih m f args h = aL CF ih m f args h := ndC ih m f args h (dMu ih m f args h) (dNe ih m f args h)
def qd6 : aH := bif Nat.blt f 100 then qg8 ih m f args h else qg9 ih m f args h
theorem dMg : qd6 ih m f args h = aL CF ih m f args h := ndC ih m f args h (dPq ih m f args h) (dPd ih m f args h)
def qd7 : aH := bif Nat.blt f 92 then qg7 ih m f args h else qd6 ih m f args h
theorem dNo : qd7 ih m f args h = aL CF ih m f args h := ndC ih m f args h (dOe ih m f args h) (dMg ih m f args h)
def qd8 : aH := bif Nat.blt f 127 then dJe ih m f args h else dEo ih m f args h
theorem dNz : qd8 ih m f args h = aL CF ih m f args h := ndC ih m f args h (dDx ih m f args h) (dFb ih m f args h)
def qd9 : aH := bif Nat.blt f 152 then dHz ih m f args h else dFg ih m f args h
theorem dPu : qd9 ih m f args h = aL CF ih m f args h := ndC ih m f args h (dGk ih m f args h) (dEy ih m f args h)
def dJo : aH := bif Nat.blt f 135 then qd8 ih m f args h else qd9 ih m f args h
theorem dFc : dJo ih m f args h = aL CF ih m f args h := ndC ih m f args h (dNz ih m f args h) (dPu ih m f args h)
def dKy : aH := bif Nat.blt f 108 then qd7 ih m f args h else dJo ih m f args h
theorem dKm : dKy ih m f args h = aL CF ih m f args h := ndC ih m f args h (dNo ih m f args h) (dFc ih m f args h)
def dHg : aH := bif Nat.blt f 79 then qd5 ih m f args h else dKy ih m f args h
theorem dKs : dHg ih m f args h = aL CF ih m f args h := ndC ih m f args h (dMj ih m f args h) (dKm ih m f args h)
end
def shB (ih : RT) (m : Nat) (f : FuncId) (args : List DV) (h : Hp) : aH := dHg ih m f args h
theorem cYf (ih : RT) (m : Nat) (f : FuncId) (args : List DV) (h : Hp) : shB ih m f args h = aL CF ih m f args h := dKs ih m f args h
def aJ (n : Nat) : FuncId → List DV → Hp → aH :=
 Nat.rec (motive := fun _ => FuncId → List DV → Hp → aH) (fun _ _ _ => none) (fun m ih => shB ih m) n
theorem aPl : ∀ n, aJ n = fnD CF n
 | 0 => rfl
 | n + 1 => by
  have e : aJ (n + 1) = shB (aJ n) n := rfl
  have e' : fnD CF (n + 1) = aL CF (fnD CF n) n := rfl
  rw [e, e', ← aPl n]
  funext f args h
  exact cYf _ _ _ _ _
end
end Go.Dd

namespace Go.Proofs
open Go.Shelf
def Tryz.lays156_ren : Go.Shelf.Ren := ⟨fun | 156 => 30 | 165 => 54 | 166 => 55 | 169 => 56 | 240 => 83 | 241 => 84 | 276 => 115 | 277 => 116 | n => n, fun | 31 => 22 | 9 => 9 | 3 => 3 | 4 => 4 | 0 => 0 | 20 => 20 | 72 => 73 | 76 => 77 | 70 => 70 | 37 => 71 | 75 => 76 | 127 => 104 | 164 => 118 | 5 => 5 | 80 => 79 | n => n, fun | n => n⟩
theorem Tryz.lays156 : Go.Proofs.Lays.n156 Tryz.prog Tryz.lays156_ren := {
 mixed := by kernel_rfl
 f156 := Tryz.func30.trans (congrArg some (by kernel_rfl))
 f165 := Tryz.func54.trans (congrArg some (by kernel_rfl))
 f166 := Tryz.func55.trans (congrArg some (by kernel_rfl))
 f169 := Tryz.func56.trans (congrArg some (by kernel_rfl))
 f240 := Tryz.func83.trans (congrArg some (by kernel_rfl))
 f241 := Tryz.func84.trans (congrArg some (by kernel_rfl))
 f276 := Tryz.func115.trans (congrArg some (by kernel_rfl))
 f277 := Tryz.func116.trans (congrArg some (by kernel_rfl))
 t0 := Tryz.underlying0
 a0 := Tryz.isAgg0
 z0 := Tryz.sizeOf0
 v0 := Tryz.zeroValue0
 t3 := Tryz.underlying3
 a3 := Tryz.isAgg3
 z3 := Tryz.sizeOf3
 v3 := Tryz.zeroValue3
 t4 := Tryz.underlying4
 a4 := Tryz.isAgg4
 z4 := Tryz.sizeOf4
 v4 := Tryz.zeroValue4
 t9 := Tryz.underlying9
 a9 := Tryz.isAgg9
 z9 := Tryz.sizeOf9
 v9 := Tryz.zeroValue9
 t20 := Tryz.underlying20
 a20 := Tryz.isAgg20
 z20 := Tryz.sizeOf20
 v20 := Tryz.zeroValue20
 t31 := Tryz.underlying22
 a31 := Tryz.isAgg22
 z31 := Tryz.sizeOf22
 v31 := Tryz.zeroValue22
 t37 := Tryz.underlying71
 a37 := Tryz.isAgg71
 z37 := Tryz.sizeOf71
 v37 := Tryz.zeroValue71
 t70 := Tryz.underlying70
 a70 := Tryz.isAgg70
 z70 := Tryz.sizeOf70
 v70 := Tryz.zeroValue70
 t72 := Tryz.underlying73
 a72 := Tryz.isAgg73
 z72 := Tryz.sizeOf73
 v72 := Tryz.zeroValue73
 t75 := Tryz.underlying76
 a75 := Tryz.isAgg76
 z75 := Tryz.sizeOf76
 v75 := Tryz.zeroValue76
 t76 := Tryz.underlying77
 a76 := Tryz.isAgg77
 z76 := Tryz.sizeOf77
 v76 := Tryz.zeroValue77
 t127 := Tryz.underlying104
 a127 := Tryz.isAgg104
 z127 := Tryz.sizeOf104
 v127 := Tryz.zeroValue104
 t164 := Tryz.underlying118
 a164 := Tryz.isAgg118
 z164 := Tryz.sizeOf118
 v164 := Tryz.zeroValue118 }
theorem Tryz.Builder_Extra_156 : Builder.Extra Tryz.prog Tryz.lays156_ren := {
 sizeBuilder := by kernel_rfl
 liesBuilder := by kernel_rfl
 t5 := Tryz.underlying5
 a5 := Tryz.isAgg5
 z5 := Tryz.sizeOf5
 v5 := Tryz.zeroValue5
 infoByte := by kernel_rfl
 cellsByte := by kernel_rfl
 sizeByte := by kernel_rfl
 neB5 := by decide }
open Go.RowKit in
theorem Tryz.strings_Join_none (a : Option Addr) (c : Nat) (sep : ByteArray) (w : World) :
 Calls Tryz.prog 30 #[.slice a 0 c, .string sep] w fun e w' => e = .returned (.string ⟨#[]⟩) ∧ w' = w := Any.strings_Join_none Tryz.lays156 Tryz.Builder_Extra_156 a c sep w
open Go.RowKit in
theorem Tryz.strings_Join (bk o c : Nat) (xs : List ByteArray) (sep : ByteArray) (w : World) (hcells : ∀ (j : Nat) x, xs[j]? = some x → w.cell? ⟨bk, o + j, none⟩ = some (.string x)) (hbk : bk < w.heap.size) (hN : xs.length ≤ 140737488355328) (hcap : xs.length ≤ c) (hlen : (Lib.join (xs.map (·.data.toList)) sep.data.toList).length ≤ 140737488355328) :
 Calls Tryz.prog 30 #[.slice (some ⟨bk, o, none⟩) xs.length c, .string sep] w fun e w' => e = .returned (.string ⟨(Lib.join (xs.map (·.data.toList)) sep.data.toList).toArray⟩) ∧ Below w.heap.size w w' := Any.strings_Join Tryz.lays156 Tryz.Builder_Extra_156 bk o c xs sep w hcells hbk hN hcap hlen
def Tryz.laysM246_ren : Go.Shelf.Ren := ⟨fun | 246 => 87 | 283 => 121 | 284 => 122 | 285 => 123 | 286 => 124 | 129 => 144 | 317 => 143 | 318 => 145 | 319 => 146 | 320 => 147 | 337 => 159 | 338 => 160 | n => n, fun | 2 => 2 | 3 => 3 | 9 => 9 | 4 => 4 | 171 => 123 | 0 => 0 | 53 => 124 | 37 => 71 | 5 => 5 | 173 => 127 | 212 => 136 | 51 => 137 | 20 => 20 | 213 => 138 | 46 => 140 | 232 => 152 | 233 => 153 | n => n, fun | 17 => 1 | 18 => 4 | 19 => 5 | n => n⟩
def Tryz.laysM243_ren : Go.Shelf.Ren := ⟨fun | 243 => 59 | 246 => 87 | 283 => 121 | 284 => 122 | 285 => 123 | 286 => 124 | 129 => 144 | 317 => 143 | 318 => 145 | 319 => 146 | 320 => 147 | 337 => 159 | 338 => 160 | n => n, fun | 3 => 3 | 9 => 9 | 2 => 2 | 4 => 4 | 171 => 123 | 0 => 0 | 53 => 124 | 37 => 71 | 5 => 5 | 173 => 127 | 212 => 136 | 51 => 137 | 20 => 20 | 213 => 138 | 46 => 140 | 232 => 152 | 233 => 153 | n => n, fun | 17 => 1 | 18 => 4 | 19 => 5 | n => n⟩
def Tryz.laysM171_ren : Go.Shelf.Ren := ⟨fun | 171 => 34 | 243 => 59 | 246 => 87 | 283 => 121 | 284 => 122 | 285 => 123 | 286 => 124 | 129 => 144 | 317 => 143 | 318 => 145 | 319 => 146 | 320 => 147 | 337 => 159 | 338 => 160 | n => n, fun | 3 => 3 | 9 => 9 | 2 => 2 | 4 => 4 | 171 => 123 | 0 => 0 | 53 => 124 | 37 => 71 | 5 => 5 | 173 => 127 | 212 => 136 | 51 => 137 | 20 => 20 | 213 => 138 | 46 => 140 | 232 => 152 | 233 => 153 | n => n, fun | 17 => 1 | 18 => 4 | 19 => 5 | n => n⟩
theorem Tryz.laysM171 : Go.Proofs.LaysM.n171 Tryz.prog Tryz.laysM171_ren := {
 mixed := by kernel_rfl
 f129 := Tryz.func144.trans (congrArg some (by kernel_rfl))
 f171 := Tryz.func34.trans (congrArg some (by kernel_rfl))
 f243 := Tryz.func59.trans (congrArg some (by kernel_rfl))
 f246 := Tryz.func87.trans (congrArg some (by kernel_rfl))
 f283 := Tryz.func121.trans (congrArg some (by kernel_rfl))
 f284 := Tryz.func122.trans (congrArg some (by kernel_rfl))
 f285 := Tryz.func123.trans (congrArg some (by kernel_rfl))
 f286 := Tryz.func124.trans (congrArg some (by kernel_rfl))
 f317 := Tryz.func143.trans (congrArg some (by kernel_rfl))
 f318 := Tryz.func145.trans (congrArg some (by kernel_rfl))
 f319 := Tryz.func146.trans (congrArg some (by kernel_rfl))
 f320 := Tryz.func147.trans (congrArg some (by kernel_rfl))
 f337 := Tryz.func159.trans (congrArg some (by kernel_rfl))
 f338 := Tryz.func160.trans (congrArg some (by kernel_rfl))
 t0 := Tryz.underlying0
 a0 := Tryz.isAgg0
 z0 := Tryz.sizeOf0
 v0 := Tryz.zeroValue0
 t2 := Tryz.underlying2
 a2 := Tryz.isAgg2
 z2 := Tryz.sizeOf2
 v2 := Tryz.zeroValue2
 t3 := Tryz.underlying3
 a3 := Tryz.isAgg3
 z3 := Tryz.sizeOf3
 v3 := Tryz.zeroValue3
 t4 := Tryz.underlying4
 a4 := Tryz.isAgg4
 z4 := Tryz.sizeOf4
 v4 := Tryz.zeroValue4
 t5 := Tryz.underlying5
 a5 := Tryz.isAgg5
 z5 := Tryz.sizeOf5
 v5 := Tryz.zeroValue5
 t9 := Tryz.underlying9
 a9 := Tryz.isAgg9
 z9 := Tryz.sizeOf9
 v9 := Tryz.zeroValue9
 t20 := Tryz.underlying20
 a20 := Tryz.isAgg20
 z20 := Tryz.sizeOf20
 v20 := Tryz.zeroValue20
 t37 := Tryz.underlying71
 a37 := Tryz.isAgg71
 z37 := Tryz.sizeOf71
 v37 := Tryz.zeroValue71
 t46 := Tryz.underlying140
 a46 := Tryz.isAgg140
 z46 := Tryz.sizeOf140
 v46 := Tryz.zeroValue140
 t51 := Tryz.underlying137
 a51 := Tryz.isAgg137
 z51 := Tryz.sizeOf137
 v51 := Tryz.zeroValue137
 t53 := Tryz.underlying124
 a53 := Tryz.isAgg124
 z53 := Tryz.sizeOf124
 v53 := Tryz.zeroValue124
 t171 := Tryz.underlying123
 a171 := Tryz.isAgg123
 z171 := Tryz.sizeOf123
 v171 := Tryz.zeroValue123
 t173 := Tryz.underlying127
 a173 := Tryz.isAgg127
 z173 := Tryz.sizeOf127
 v173 := Tryz.zeroValue127
 t212 := Tryz.underlying136
 a212 := Tryz.isAgg136
 z212 := Tryz.sizeOf136
 v212 := Tryz.zeroValue136
 t213 := Tryz.underlying138
 a213 := Tryz.isAgg138
 z213 := Tryz.sizeOf138
 t232 := Tryz.underlying152
 a232 := Tryz.isAgg152
 z232 := Tryz.sizeOf152
 v232 := Tryz.zeroValue152
 t233 := Tryz.underlying153
 a233 := Tryz.isAgg153
 z233 := Tryz.sizeOf153
 v233 := Tryz.zeroValue153
 g17 := by kernel_rfl
 g18 := by kernel_rfl
 g19 := by kernel_rfl
 i0 := by kernel_rfl
 i2 := by kernel_rfl
 i3 := by kernel_rfl
 i4 := by kernel_rfl
 i5 := by kernel_rfl
 i9 := by kernel_rfl
 i20 := by kernel_rfl
 i37 := by kernel_rfl
 i46 := by kernel_rfl
 i51 := by kernel_rfl
 i53 := by kernel_rfl
 i171 := by kernel_rfl
 i173 := by kernel_rfl
 i212 := by kernel_rfl
 i232 := by kernel_rfl
 i233 := by kernel_rfl
 m17 := by kernel_rfl
 m18 := by kernel_rfl
 m19 := by kernel_rfl }
open Go.RowKit Go.Sort Go.Lib in
theorem Tryz.strconv_Itoa (n : Int) (h0 : -9223372036854775808 ≤ n) (h1 : n ≤ 9223372036854775807) (w : World) (htab : Lib.TabIs Tryz.prog w "internal/strconv.uint64pow10" .u64 Lib.pow10Tab) :
 Calls Tryz.prog 34 #[.int .i64 n] w fun e w' => e = .returned (.string ⟨(Lib.itoa n).toArray⟩) ∧ ∃ k os, w' = grow (w.drewN k) os := Any.strconv_Itoa Tryz.laysM171 n h0 h1 w htab
def Tryz.lays219_ren : Go.Shelf.Ren := ⟨fun | 219 => 142 | 217 => 85 | 225 => 156 | 224 => 157 | 267 => 158 | 266 => 117 | 314 => 162 | n => n, fun | 9 => 9 | 3 => 3 | 4 => 4 | 5 => 5 | 46 => 140 | 146 => 150 | 51 => 137 | n => n, fun | 1 => 0 | n => n⟩
def Tryz.lays143_ren : Go.Shelf.Ren := ⟨fun | 143 => 120 | 219 => 142 | 217 => 85 | 225 => 156 | 224 => 157 | 267 => 158 | 266 => 117 | 314 => 162 | n => n, fun | 9 => 9 | 3 => 3 | 4 => 4 | 5 => 5 | 46 => 140 | 146 => 150 | 51 => 137 | n => n, fun | 1 => 0 | n => n⟩
def Tryz.laysM143_ren : Go.Shelf.Ren := ⟨fun | 143 => 120 | 219 => 142 | 217 => 85 | 225 => 156 | 224 => 157 | 267 => 158 | 266 => 117 | 314 => 162 | n => n, fun | 9 => 9 | 3 => 3 | 4 => 4 | 5 => 5 | 46 => 140 | 146 => 150 | 51 => 137 | n => n, fun | 1 => 0 | n => n⟩
theorem Tryz.laysM143 : Go.Proofs.LaysM.n143 Tryz.prog Tryz.laysM143_ren := {
 mixed := by kernel_rfl
 f143 := Tryz.func120.trans (congrArg some (by kernel_rfl))
 f217 := Tryz.func85.trans (congrArg some (by kernel_rfl))
 f219 := Tryz.func142.trans (congrArg some (by kernel_rfl))
 f224 := Tryz.func157.trans (congrArg some (by kernel_rfl))
 f225 := Tryz.func156.trans (congrArg some (by kernel_rfl))
 f266 := Tryz.func117.trans (congrArg some (by kernel_rfl))
 f267 := Tryz.func158.trans (congrArg some (by kernel_rfl))
 f314 := Tryz.func162.trans (congrArg some (by kernel_rfl))
 t3 := Tryz.underlying3
 a3 := Tryz.isAgg3
 z3 := Tryz.sizeOf3
 v3 := Tryz.zeroValue3
 t4 := Tryz.underlying4
 a4 := Tryz.isAgg4
 z4 := Tryz.sizeOf4
 v4 := Tryz.zeroValue4
 t5 := Tryz.underlying5
 a5 := Tryz.isAgg5
 z5 := Tryz.sizeOf5
 v5 := Tryz.zeroValue5
 t9 := Tryz.underlying9
 a9 := Tryz.isAgg9
 z9 := Tryz.sizeOf9
 v9 := Tryz.zeroValue9
 t46 := Tryz.underlying140
 a46 := Tryz.isAgg140
 z46 := Tryz.sizeOf140
 v46 := Tryz.zeroValue140
 t51 := Tryz.underlying137
 a51 := Tryz.isAgg137
 z51 := Tryz.sizeOf137
 v51 := Tryz.zeroValue137
 t146 := Tryz.underlying150
 a146 := Tryz.isAgg150
 z146 := Tryz.sizeOf150
 v146 := Tryz.zeroValue150
 g1 := by kernel_rfl
 i3 := by kernel_rfl
 i4 := by kernel_rfl
 i5 := by kernel_rfl
 i9 := by kernel_rfl
 i46 := by kernel_rfl
 i51 := by kernel_rfl
 i146 := by kernel_rfl
 m1 := by kernel_rfl
 s1_3 := fun w h => Go.Proofs.cell_of_shapedOpen_int (zero := #[.int .i64 0]) (t := 3) h (of_decide_eq_true (by kernel_rfl)) (by kernel_rfl) rfl (by kernel_rfl) (by kernel_rfl) Tryz.underlying3 }
def Tryz.lays221_ren : Go.Shelf.Ren := ⟨fun | 221 => 86 | 268 => 118 | 138 => 119 | 143 => 120 | 195 => 140 | 197 => 125 | 218 => 141 | 219 => 142 | 260 => 148 | 217 => 85 | 225 => 156 | 224 => 157 | 267 => 158 | 266 => 117 | 314 => 162 | n => n, fun | 9 => 9 | 3 => 3 | 31 => 22 | 4 => 4 | 0 => 0 | 105 => 129 | 21 => 21 | 5 => 5 | 46 => 140 | 119 => 146 | 139 => 149 | 138 => 148 | 146 => 150 | 51 => 137 | n => n, fun | 1 => 0 | 3 => 2 | 4 => 3 | n => n⟩
theorem Tryz.lays221 : Go.Proofs.Lays.n221 Tryz.prog Tryz.lays221_ren := {
 mixed := by kernel_rfl
 f138 := Tryz.func119.trans (congrArg some (by kernel_rfl))
 f143 := Tryz.func120.trans (congrArg some (by kernel_rfl))
 f195 := Tryz.func140.trans (congrArg some (by kernel_rfl))
 f197 := Tryz.func125.trans (congrArg some (by kernel_rfl))
 f217 := Tryz.func85.trans (congrArg some (by kernel_rfl))
 f218 := Tryz.func141.trans (congrArg some (by kernel_rfl))
 f219 := Tryz.func142.trans (congrArg some (by kernel_rfl))
 f221 := Tryz.func86.trans (congrArg some (by kernel_rfl))
 f224 := Tryz.func157.trans (congrArg some (by kernel_rfl))
 f225 := Tryz.func156.trans (congrArg some (by kernel_rfl))
 f260 := Tryz.func148.trans (congrArg some (by kernel_rfl))
 f266 := Tryz.func117.trans (congrArg some (by kernel_rfl))
 f267 := Tryz.func158.trans (congrArg some (by kernel_rfl))
 f268 := Tryz.func118.trans (congrArg some (by kernel_rfl))
 f314 := Tryz.func162.trans (congrArg some (by kernel_rfl))
 t0 := Tryz.underlying0
 a0 := Tryz.isAgg0
 z0 := Tryz.sizeOf0
 v0 := Tryz.zeroValue0
 t3 := Tryz.underlying3
 a3 := Tryz.isAgg3
 z3 := Tryz.sizeOf3
 v3 := Tryz.zeroValue3
 t4 := Tryz.underlying4
 a4 := Tryz.isAgg4
 z4 := Tryz.sizeOf4
 v4 := Tryz.zeroValue4
 t5 := Tryz.underlying5
 a5 := Tryz.isAgg5
 z5 := Tryz.sizeOf5
 v5 := Tryz.zeroValue5
 t9 := Tryz.underlying9
 a9 := Tryz.isAgg9
 z9 := Tryz.sizeOf9
 v9 := Tryz.zeroValue9
 t21 := Tryz.underlying21
 a21 := Tryz.isAgg21
 z21 := Tryz.sizeOf21
 v21 := Tryz.zeroValue21
 t31 := Tryz.underlying22
 a31 := Tryz.isAgg22
 z31 := Tryz.sizeOf22
 v31 := Tryz.zeroValue22
 t46 := Tryz.underlying140
 a46 := Tryz.isAgg140
 z46 := Tryz.sizeOf140
 v46 := Tryz.zeroValue140
 t51 := Tryz.underlying137
 a51 := Tryz.isAgg137
 z51 := Tryz.sizeOf137
 v51 := Tryz.zeroValue137
 t105 := Tryz.underlying129
 a105 := Tryz.isAgg129
 z105 := Tryz.sizeOf129
 v105 := Tryz.zeroValue129
 t119 := Tryz.underlying146
 a119 := Tryz.isAgg146
 z119 := Tryz.sizeOf146
 t138 := Tryz.underlying148
 a138 := Tryz.isAgg148
 z138 := Tryz.sizeOf148
 v138 := Tryz.zeroValue148
 t139 := Tryz.underlying149
 a139 := Tryz.isAgg149
 z139 := Tryz.sizeOf149
 v139 := Tryz.zeroValue149
 t146 := Tryz.underlying150
 a146 := Tryz.isAgg150
 z146 := Tryz.sizeOf150
 v146 := Tryz.zeroValue150
 g1 := by kernel_rfl
 g3 := by kernel_rfl
 g4 := by kernel_rfl }
open Go.RowKit Go.Lib in
theorem Tryz.strings_genSplit (s sep : ByteArray) (sv : Nat) (n : Int) (N : Nat) (m : Int) (w : World) (hs : s.size < 4294967281) (hm : w.cell? ⟨0, 0, none⟩ = some (.int .i64 m)) (h1 : 1 ≤ sep.size) (hsv : sv ≤ sep.size) (hn0 : n ≠ 0) (hn63 : n ≤ 9223372036854775807) (hN : (N : Int) = min (if n < 0 then (Lib.countB s sep : Int) + 1 else n) ((s.size : Int) + 1)) :
 Calls Tryz.prog 86 #[.string s, .string sep, .int .i64 sv, .int .i64 n] w fun e w' =>
  e = .returned (.slice (some ⟨w.heap.size, 0, none⟩) (Lib.splitB sep sv (N - 1) s).length N) ∧ w' = w.alloc (.cells (Lib.cellsOf (Lib.splitB sep sv (N - 1) s) N) 9) := Any.strings_genSplit Tryz.lays221 (by kernel_rfl) s sep sv n N m w hs hm h1 hsv hn0 hn63 hN
def Tryz.lays154_ren : Go.Shelf.Ren := ⟨fun | 154 => 88 | 138 => 119 | 165 => 54 | 143 => 120 | 166 => 55 | 197 => 125 | 169 => 56 | 195 => 140 | 218 => 141 | 240 => 83 | 241 => 84 | 219 => 142 | 260 => 148 | 276 => 115 | 277 => 116 | 217 => 85 | 225 => 156 | 224 => 157 | 267 => 158 | 266 => 117 | 314 => 162 | n => n, fun | 9 => 9 | 3 => 3 | 4 => 4 | 72 => 73 | 0 => 0 | 76 => 77 | 105 => 129 | 21 => 21 | 5 => 5 | 70 => 70 | 20 => 20 | 37 => 71 | 75 => 76 | 127 => 104 | 164 => 118 | 46 => 140 | 119 => 146 | 139 => 149 | 138 => 148 | 146 => 150 | 51 => 137 | 80 => 79 | n => n, fun | 1 => 0 | 3 => 2 | 4 => 3 | n => n⟩
def Tryz.lays155_ren : Go.Shelf.Ren := ⟨fun | 155 => 60 | 154 => 88 | 138 => 119 | 165 => 54 | 143 => 120 | 166 => 55 | 197 => 125 | 169 => 56 | 195 => 140 | 218 => 141 | 240 => 83 | 241 => 84 | 219 => 142 | 260 => 148 | 276 => 115 | 277 => 116 | 217 => 85 | 225 => 156 | 224 => 157 | 267 => 158 | 266 => 117 | 314 => 162 | n => n, fun | 9 => 9 | 3 => 3 | 4 => 4 | 72 => 73 | 0 => 0 | 76 => 77 | 105 => 129 | 21 => 21 | 5 => 5 | 70 => 70 | 20 => 20 | 37 => 71 | 75 => 76 | 127 => 104 | 164 => 118 | 46 => 140 | 119 => 146 | 139 => 149 | 138 => 148 | 146 => 150 | 51 => 137 | 80 => 79 | n => n, fun | 1 => 0 | 3 => 2 | 4 => 3 | n => n⟩
theorem Tryz.lays155 : Go.Proofs.Lays.n155 Tryz.prog Tryz.lays155_ren := {
 mixed := by kernel_rfl
 f138 := Tryz.func119.trans (congrArg some (by kernel_rfl))
 f143 := Tryz.func120.trans (congrArg some (by kernel_rfl))
 f154 := Tryz.func88.trans (congrArg some (by kernel_rfl))
 f155 := Tryz.func60.trans (congrArg some (by kernel_rfl))
 f165 := Tryz.func54.trans (congrArg some (by kernel_rfl))
 f166 := Tryz.func55.trans (congrArg some (by kernel_rfl))
 f169 := Tryz.func56.trans (congrArg some (by kernel_rfl))
 f195 := Tryz.func140.trans (congrArg some (by kernel_rfl))
 f197 := Tryz.func125.trans (congrArg some (by kernel_rfl))
 f217 := Tryz.func85.trans (congrArg some (by kernel_rfl))
 f218 := Tryz.func141.trans (congrArg some (by kernel_rfl))
 f219 := Tryz.func142.trans (congrArg some (by kernel_rfl))
 f224 := Tryz.func157.trans (congrArg some (by kernel_rfl))
 f225 := Tryz.func156.trans (congrArg some (by kernel_rfl))
 f240 := Tryz.func83.trans (congrArg some (by kernel_rfl))
 f241 := Tryz.func84.trans (congrArg some (by kernel_rfl))
 f260 := Tryz.func148.trans (congrArg some (by kernel_rfl))
 f266 := Tryz.func117.trans (congrArg some (by kernel_rfl))
 f267 := Tryz.func158.trans (congrArg some (by kernel_rfl))
 f276 := Tryz.func115.trans (congrArg some (by kernel_rfl))
 f277 := Tryz.func116.trans (congrArg some (by kernel_rfl))
 f314 := Tryz.func162.trans (congrArg some (by kernel_rfl))
 t0 := Tryz.underlying0
 a0 := Tryz.isAgg0
 z0 := Tryz.sizeOf0
 v0 := Tryz.zeroValue0
 t3 := Tryz.underlying3
 a3 := Tryz.isAgg3
 z3 := Tryz.sizeOf3
 v3 := Tryz.zeroValue3
 t4 := Tryz.underlying4
 a4 := Tryz.isAgg4
 z4 := Tryz.sizeOf4
 v4 := Tryz.zeroValue4
 t5 := Tryz.underlying5
 a5 := Tryz.isAgg5
 z5 := Tryz.sizeOf5
 v5 := Tryz.zeroValue5
 t9 := Tryz.underlying9
 a9 := Tryz.isAgg9
 z9 := Tryz.sizeOf9
 v9 := Tryz.zeroValue9
 t20 := Tryz.underlying20
 a20 := Tryz.isAgg20
 z20 := Tryz.sizeOf20
 v20 := Tryz.zeroValue20
 t21 := Tryz.underlying21
 a21 := Tryz.isAgg21
 z21 := Tryz.sizeOf21
 v21 := Tryz.zeroValue21
 t37 := Tryz.underlying71
 a37 := Tryz.isAgg71
 z37 := Tryz.sizeOf71
 v37 := Tryz.zeroValue71
 t46 := Tryz.underlying140
 a46 := Tryz.isAgg140
 z46 := Tryz.sizeOf140
 v46 := Tryz.zeroValue140
 t51 := Tryz.underlying137
 a51 := Tryz.isAgg137
 z51 := Tryz.sizeOf137
 v51 := Tryz.zeroValue137
 t70 := Tryz.underlying70
 a70 := Tryz.isAgg70
 z70 := Tryz.sizeOf70
 v70 := Tryz.zeroValue70
 t72 := Tryz.underlying73
 a72 := Tryz.isAgg73
 z72 := Tryz.sizeOf73
 v72 := Tryz.zeroValue73
 t75 := Tryz.underlying76
 a75 := Tryz.isAgg76
 z75 := Tryz.sizeOf76
 v75 := Tryz.zeroValue76
 t76 := Tryz.underlying77
 a76 := Tryz.isAgg77
 z76 := Tryz.sizeOf77
 v76 := Tryz.zeroValue77
 t105 := Tryz.underlying129
 a105 := Tryz.isAgg129
 z105 := Tryz.sizeOf129
 v105 := Tryz.zeroValue129
 t119 := Tryz.underlying146
 a119 := Tryz.isAgg146
 z119 := Tryz.sizeOf146
 t127 := Tryz.underlying104
 a127 := Tryz.isAgg104
 z127 := Tryz.sizeOf104
 v127 := Tryz.zeroValue104
 t138 := Tryz.underlying148
 a138 := Tryz.isAgg148
 z138 := Tryz.sizeOf148
 v138 := Tryz.zeroValue148
 t139 := Tryz.underlying149
 a139 := Tryz.isAgg149
 z139 := Tryz.sizeOf149
 v139 := Tryz.zeroValue149
 t146 := Tryz.underlying150
 a146 := Tryz.isAgg150
 z146 := Tryz.sizeOf150
 v146 := Tryz.zeroValue150
 t164 := Tryz.underlying118
 a164 := Tryz.isAgg118
 z164 := Tryz.sizeOf118
 v164 := Tryz.zeroValue118
 g1 := by kernel_rfl
 g3 := by kernel_rfl
 g4 := by kernel_rfl }
theorem Tryz.Builder_Extra_155 : Builder.Extra Tryz.prog Tryz.lays155_ren := {
 sizeBuilder := by kernel_rfl
 liesBuilder := by kernel_rfl
 t5 := Tryz.underlying5
 a5 := Tryz.isAgg5
 z5 := Tryz.sizeOf5
 v5 := Tryz.zeroValue5
 infoByte := by kernel_rfl
 cellsByte := by kernel_rfl
 sizeByte := by kernel_rfl
 neB5 := by decide }
open Go.RowKit Go.Lib in
theorem Tryz.strings_ReplaceAll (s old new : ByteArray) (m : Int) (w : World) (hs : s.size < 4294967281) (hm : w.cell? ⟨0, 0, none⟩ = some (.int .i64 m)) (h1 : 1 ≤ old.size) (hlen : s.size + Lib.countB s old * new.size ≤ 140737488355328) :
 Calls Tryz.prog 60 #[.string s, .string old, .string new] w fun e w' =>
  e = .returned (.string ⟨(Lib.replaceAll s.data.toList old.data.toList new.data.toList).toArray⟩) ∧ Below w.heap.size w w' := Any.strings_ReplaceAll Tryz.lays155 Tryz.Builder_Extra_155 s old new m w hs hm h1 hlen
end Go.Proofs

namespace Go.Dd
open Go.Proofs Go.RowKit
theorem bFb : (Tryz.prog.funcs.toList.all fun fn => !(fn.name == "runtime.NumGoroutine")) = true := by kernel_rfl
theorem Try_ok : POk CF.P where
 mixed := by kernel_rfl
 names := by
  intro f fn hf
  have h := List.all_eq_true.1 bFb fn (by
   have : Tryz.prog.funcs[f]? = some fn := hf
   obtain ⟨hlt, rfl⟩ := Array.getElem?_eq_some_iff.1 this
   simp)
  simpa using h
theorem HR.later {G : Gd} {ρ : Ren} {h : Hp} {w w' : World} (H : HR G ρ h w) (e : Below w.heap.size w w') : HR G ρ h w' where
 gl := fun k hk => (e.block k (Nat.lt_of_lt_of_le hk H.sz.1)).trans (H.gl k hk)
 sz := ⟨Nat.le_trans H.sz.1 e.size, fun k hk => Nat.lt_of_lt_of_le (H.sz.2 k hk) e.size⟩
 nx := H.nx
 ro := H.ro
 dom := H.dom
 lt := H.lt
 cell := fun b k l L i v h1 h2 h3 h4 => by
  obtain ⟨v', h5, h6⟩ := H.cell b k l L i v h1 h2 h3 h4
  exact ⟨v', by rw [e.cell (fB h5)]; exact h5, h6⟩
 spare := fun b l L es j h1 h2 h3 => by
  obtain ⟨v', h5⟩ := H.spare b l L es j h1 h2 h3
  exact ⟨v', by rw [e.cell (fB h5)]; exact h5⟩
 free := fun b a h1 h2 => by
  obtain ⟨v, hv⟩ := H.lt_cell h1
  rw [e.frozen (fB hv)]
  exact H.free b a h1 h2
 inj := H.inj
 ex := H.ex
 grone := H.grone
 itr := fun b s pos L h1 h2 => by
  obtain ⟨a, b, bs, c, d⟩ := H.itr b s pos L h1 h2
  refine ⟨a, b, bs, ?_, d⟩
  rw [e.block _ (Array.getElem?_eq_some_iff.1 c).1]
  exact c
 itj := H.itj
theorem Kp.later {G : Gd} {ρ : Ren} {h : Hp} {w w' : World} (H : HR G ρ h w) (e : Below w.heap.size w w') : Kp G w w' :=
 ⟨e.mono H.sz.1, fun k hk => e.block k (H.sz.2 k hk)⟩
theorem CallFn.of {G : Gd} {ρ : Ren} {w : World} {v : DV} {h1 : Hp} {g : FuncId} {args' : Array Value} (fn : Func) (hf : Tryz.prog.funcs[g]? = some fn) (hb : fn.body.isSome = true)
 (hc : Calls Tryz.prog g args' w (bKq G ρ w v h1)) : CallFn CF.P G ρ w v h1 g args' := by
 refine .inl ⟨?_, hc⟩
 have hf' : CF.P.funcs[g]? = some fn := hf
 have hn : ¬ fn.name = "runtime.NumGoroutine" := by simpa using Try_ok.names g fn hf'
 have hbn : fn.body ≠ none := by intro e; rw [e] at hb; cases hb
 unfold callFunc
 simp [hf', hn, hbn]
theorem yZ (sep : List UInt8) : ∀ xs : List (List UInt8), aN (sep.map (·.toNat)) (xs.map (·.map (·.toNat))) = (Lib.join xs sep).map (·.toNat)
 | [] => rfl
 | [x] => by simp [aN, Lib.join, List.intercalate]
 | x :: y :: l => by
  have ih := yZ sep (y :: l)
  simp only [List.map_cons] at ih ⊢
  rw [aN, ih]
  simp [Lib.join, List.intercalate, List.map_append]
theorem aNc {ρ : Ren} : ∀ {cells : List DV} {vs : List Value} {l : List (List Nat)}, VRs ρ cells vs → oF cells = some l → ∃ xs : List ByteArray, vs = xs.map Value.string ∧ l = xs.map fun x => x.data.toList.map (·.toNat)
 | [], _, _, .nil, e => by
  simp only [oF, Option.some.injEq] at e
  exact ⟨[], rfl, e.symm⟩
 | x :: c, _, _, .cons _ x' _ vs hx hs, e => by
  cases hx <;> try (simp [oF] at e; done)
  rename_i t bs hb
  simp only [oF, Option.map_eq_some_iff] at e
  obtain ⟨l0, e0, rfl⟩ := e
  obtain ⟨xs, rfl, rfl⟩ := aNc hs e0
  exact ⟨bs :: xs, rfl, by simp [hb]⟩
theorem bOs {w : World} {L : Loc} {i : Nat} {v : Value} (h : w.cell? (eK L i) = some v) : eK L i = ⟨L.bl, L.of + i, none⟩ := by
 unfold eK at *
 by_cases e : i = 0
 ·subst e
  simp only [if_true] at h ⊢
  cases hs : L.spot with
  | none => rfl
  | some s =>
   rw [hs] at h
   unfold World.cell? at h
   split at h <;> simp at h
 ·simp [e]
theorem yK (xs : List ByteArray) : (xs.map fun x => x.data.toList.map (·.toNat)) = (xs.map (·.data.toList)).map (·.map (·.toNat)) := by simp
theorem bYp (G : Gd) : tH CF.P G 30 nJ := by
 intro args h v h1 hr ρ w args' H hargs
 unfold nJ at hr
 split at hr <;> (try (cases hr; done))
 rename_i x sep hno
 split at hr <;> (try (cases hr; done))
 rename_i n cells hsrc
 split at hr <;> (try (cases hr; done))
 rename_i l hl
 cases hc : Nat.ble (aN sep l).length 100000000000 with
 | false => rw [hc] at hr; cases hr
 | true =>
 rw [hc] at hr
 cases hc2 : (Nat.ble n 100000000000 && bHb x) with
 | false => rw [hc2] at hr; cases hr
 | true =>
 rw [hc2] at hr
 have hc' := Nat.le_of_ble_eq_true hc
 rw [Bool.and_eq_true] at hc2
 obtain ⟨hc2, hcap⟩ := hc2
 have hn' := Nat.le_of_ble_eq_true hc2
 simp only [cond_true, Option.some.injEq, Prod.mk.injEq] at hr
 obtain ⟨rfl, rfl⟩ := hr
 obtain ⟨a⟩ := args'
 cases hargs with
 | cons _ x' l1 l1' hx hxs =>
 cases hxs with
 | cons y y' l2 l2' hy hys =>
 cases hys
 cases hy with
 | s _ bs hbs =>
 refine CallFn.of Tryz.f30 (by kernel_rfl) (by kernel_rfl) ?_
 have hnone : ∀ (a : Option Addr) (c : Nat), l = [] → Calls Tryz.prog 30 #[.slice a 0 c, .string bs] w (bKq G ρ w (.s (aN sep l)) h) := by
  intro a c e
  subst e
  refine (Tryz.strings_Join_none a c bs w).mono ?_
  rintro e w' ⟨rfl, rfl⟩
  exact ⟨ρ, _, rfl, Ex.refl _ _, .s _ _ rfl, H, Kp.refl _ _⟩
 unfold nY at hsrc
 cases hx with
 | l0 =>
  simp only [Option.some.injEq, Prod.mk.injEq] at hsrc
  obtain ⟨rfl, rfl⟩ := hsrc
  simp only [oF, Option.some.injEq] at hl
  exact hnone _ _ hl.symm
 | le a c =>
  simp only [Option.some.injEq, Prod.mk.injEq] at hsrc
  obtain ⟨rfl, rfl⟩ := hsrc
  simp only [oF, Option.some.injEq] at hl
  exact hnone _ _ hl.symm
 | l b o m cap L hL =>
  simp only at hsrc
  split at hsrc <;> (try (cases hsrc; done))
  rename_i cs hcs
  simp only [Option.some.injEq, Prod.mk.injEq] at hsrc
  obtain ⟨rfl, rfl⟩ := hsrc
  obtain ⟨e1, e2, e3, vs, e4, e5, e6⟩ := fK H hcs hL
  obtain ⟨xs, rfl, rfl⟩ := aNc e4 hl
  simp only [List.length_map, Nat.mul_one] at e5
  subst e5
  cases xs with
  | nil => exact hnone _ _ rfl
  | cons x0 xs0 =>
   have h0 := e6 0 (.string x0) rfl
   have ha : eK L o = ⟨L.bl, L.of + o, none⟩ := bOs h0
   rw [ha]
   have hsep := hbs
   refine (Tryz.strings_Join L.bl (L.of + o) (cap + L.sp) (x0 :: xs0) bs w ?_ (fB h0) (by omega) ?_ ?_).mono ?_
   ·intro j y hj
    have h5 := e6 j (.string y) (by rw [List.getElem?_map, hj]; rfl)
    rw [bOs h5] at h5
    rw [show L.of + o + j = L.of + (o + j) by omega]
    exact h5
   ·exact Nat.le_trans (Nat.le_of_ble_eq_true hcap) (Nat.le_add_right _ _)
   ·have := hc'
    rw [← hbs, yK, yZ, List.length_map] at this
    omega
   ·rintro e w' ⟨rfl, hbel⟩
    refine ⟨ρ, _, rfl, Ex.refl _ _, .s _ _ ?_, H.later hbel, Kp.later H hbel⟩
    rw [← hbs, yK, yZ]
 | u => simp at hsrc
 | s => exact (hno _ rfl).elim
 | _ => simp at hsrc
theorem wR : ∀ (f n : Nat) (acc : List Nat), n < 10 ^ f → 0 < f → eD f n acc = (Lib.decDigits n).map (·.toNat) ++ acc
 | 0, n, acc, h, h0 => by omega
 | f + 1, n, acc, h, _ => by
  have hd : ∀ d, d < 10 → (UInt8.ofNat (48 + d)).toNat = 48 + d := fun d hd => by simp; omega
  unfold eD
  rw [Lib.decDigits]
  cases e : Nat.ble 10 n with
  | false =>
   have hn : n < 10 := by
    rcases Nat.lt_or_ge n 10 with h | h
    ·exact h
    ·rw [Nat.ble_eq_true_of_le h] at e; cases e
   simp only [cond_false]
   rw [dif_pos hn]
   show (48 + n) :: acc = _
   simp [hd n hn]
   omega
  | true =>
   have hn := Nat.le_of_ble_eq_true e
   simp only [cond_true]
   rw [dif_neg (by omega)]
   have hf : 0 < f := by
    rcases Nat.eq_zero_or_pos f with h1 | h1
    ·subst h1; simp at h; omega
    ·exact h1
   show eD f (n / 10) ((48 + n % 10) :: acc) = _
   rw [wR f (n / 10) _ (by rw [Nat.pow_succ] at h; omega) hf]
   simp [hd (n % 10) (by omega)]
   omega
theorem bHe (n : Int) (h0 : -9223372036854775808 ≤ n) (h1 : n ≤ 9223372036854775807) : sB n = (Lib.itoa n).map (·.toNat) := by
 unfold Lib.itoa sB
 cases n with
 | ofNat n =>
  rw [if_neg (by simp)]
  simp only
  rw [wR 20 n [] (by simp at h1; omega) (by omega)]
  simp
 | negSucc n =>
  rw [if_pos (by omega)]
  simp only
  rw [wR 20 _ [] (by show n + 1 < _; omega) (by omega)]
  simp
theorem cHx (G : Gd) : tH CF.P G 34 aCv := by
 intro args h v h1 hr ρ w args' H hargs
 unfold aCv at hr
 split at hr <;> (try (cases hr; done))
 rename_i n
 cases hc : (decide (-9223372036854775808 ≤ n) && decide (n ≤ 9223372036854775807)) with
 | false => rw [hc] at hr; cases hr
 | true =>
 rw [hc] at hr
 simp only [Bool.and_eq_true, decide_eq_true_eq] at hc
 simp only [cond_true, Option.some.injEq, Prod.mk.injEq] at hr
 obtain ⟨rfl, rfl⟩ := hr
 obtain ⟨a⟩ := args'
 cases hargs with
 | cons _ x' l1 l1' hx hxs =>
 cases hxs
 cases hx
 refine CallFn.of Tryz.f34 (by kernel_rfl) (by kernel_rfl) ?_
 have F := G.ok w H.gl
 have htab : Lib.TabIs Tryz.prog w "internal/strconv.uint64pow10" .u64 Lib.pow10Tab := by
  obtain ⟨_, t, z, ht⟩ := F
  have hg : Tryz.prog.globalNamed "internal/strconv.uint64pow10" = some 1 := by kernel_rfl
  unfold Lib.TabIs World.var?
  rw [hg]
  simp only [Option.bind_some, ht]
 refine (Tryz.strconv_Itoa n hc.1 hc.2 w htab).mono ?_
 rintro e w' ⟨rfl, k, os, rfl⟩
 have hbel : Below w.heap.size w (Sort.grow (w.drewN k) os) := ⟨rfl, rfl, rfl, by simp [Sort.grow, World.drewN], fun i hi => by
  show (w.heap ++ os)[i]? = _
  rw [Array.getElem?_append_left hi]⟩
 exact ⟨ρ, _, rfl, Ex.refl _ _, .s _ _ (bHe n hc.1 hc.2).symm, H.later hbel, Kp.later H hbel⟩
end Go.Dd

namespace Go.Dd
open Go.Proofs Go.Lib Go.RowKit
theorem bQr (b c : UInt8) : Nat.beq b.toNat c.toNat = (b == c) := by
 rw [Bool.eq_iff_iff]
 constructor
 ·intro h
  have := Nat.eq_of_beq_eq_true h
  simpa using UInt8.toNat_inj.1 this
 ·intro h
  have h2 : b = c := by simpa using h
  rw [h2]; simp
theorem bNq {bs : ByteArray} {c : Nat} (h : bs.data.toList.map (·.toNat) = [c]) : ∃ u : UInt8, bs = ⟨#[u]⟩ ∧ u.toNat = c := by
 obtain ⟨⟨l⟩⟩ := bs
 match l, h with
 | [u], h => exact ⟨u, rfl, by simpa using h⟩
def pI (c : UInt8) (new : List UInt8) : List UInt8 → List UInt8
 | [] => []
 | x :: l => if x = c then new ++ pI c new l else x :: pI c new l
theorem aMi {b c : UInt8} {l : List UInt8} (h : b ≠ c) {i : Nat} (hi : index l [c] = i) : index (b :: l) [c] = ((i + 1 : Nat) : Int) := by
 have hp : ([c] : List UInt8).isPrefixOf (b :: l) = false := by simp [List.isPrefixOf, Ne.symm h]
 rw [index, hp, hi]
 simp
theorem aMt {c : UInt8} {l : List UInt8} : index (c :: l) [c] = ((0 : Nat) : Int) := by
 rw [index]; simp [List.isPrefixOf]
theorem aOx (c : UInt8) (new : List UInt8) : ∀ s : List UInt8, replaceK [c] new (count s [c]) s = pI c new s
 | [] => by rw [count_one]; rfl
 | b :: l => by
  have ih := aOx c new l
  by_cases h : b = c
  ·subst h
   rw [count_cons_eq, Nat.add_comm, replaceK_hit _ _ _ _ 0 aMt]
   simp [pI, ih]
  ·rw [count_cons_ne _ _ _ h]
   simp only [pI, if_neg h]
   cases hk : count l [c] with
   | zero =>
    rw [hk] at ih
    simp only [replaceK] at ih ⊢
    rw [← ih]
   | succ k =>
    rw [hk] at ih
    obtain ⟨i, hi⟩ := index_of_count (s := l) (old := [c]) (by omega)
    rw [replaceK_hit _ _ _ _ i hi] at ih
    rw [replaceK_hit _ _ _ _ (i + 1) (aMi h hi), ← ih]
    simp [Nat.add_right_comm]
theorem yA (c : UInt8) : ∀ s : List UInt8, pI c [c] s = s
 | [] => rfl
 | x :: l => by
  simp only [pI, yA c l]
  split
  ·rename_i h; subst h; rfl
  ·rfl
theorem bJo (s : List UInt8) (c : UInt8) (new : List UInt8) : replaceAll s [c] new = pI c new s := by
 unfold replaceAll replace
 split
 ·rename_i h
  have : [c] = new := by simpa using h
  subst this
  rw [yA]
 ·unfold replaceNum
  rw [if_pos (.inl (by decide))]
  exact aOx c new s
theorem aNd (c : UInt8) (new : List UInt8) : ∀ s : List UInt8, eC c.toNat (new.map (·.toNat)) (s.map (·.toNat)) = (pI c new s).map (·.toNat)
 | [] => rfl
 | x :: l => by
  simp only [List.map_cons, eC, pI, aNd c new l, bQr]
  by_cases h : x = c
  ·subst h; simp
  ·rw [if_neg h, show (x == c) = false by simpa using h]; simp
theorem cBa (G : Gd) : tH CF.P G 60 aCn := by
 intro args h v h1 hr ρ w args' H hargs
 unfold aCn at hr
 split at hr <;> (try (cases hr; done))
 rename_i s c new
 cases hc : Nat.blt c 256 with
 | false => rw [hc] at hr; cases hr
 | true =>
 rw [hc] at hr
 cases hc2 : Nat.ble s.length 4000000000 with
 | false => rw [hc2] at hr; cases hr
 | true =>
 rw [hc2] at hr
 cases hc3 : Nat.ble new.length 1000 with
 | false => rw [hc3] at hr; cases hr
 | true =>
 rw [hc3] at hr
 have hs' := Nat.le_of_ble_eq_true hc2
 have hn' := Nat.le_of_ble_eq_true hc3
 simp only [cond_true, Option.some.injEq, Prod.mk.injEq] at hr
 obtain ⟨rfl, rfl⟩ := hr
 obtain ⟨a⟩ := args'
 cases hargs with
 | cons _ x' l1 l1' hx hxs =>
 cases hxs with
 | cons _ y' l2 l2' hy hys =>
 cases hys with
 | cons _ z' l3 l3' hz hzs =>
 cases hzs
 cases hx with
 | s _ bs hbs =>
 cases hy with
 | s _ bc hbc =>
 cases hz with
 | s _ bn hbn =>
 obtain ⟨u, rfl, rfl⟩ := bNq hbc
 subst hbs hbn
 have e1 : bs.size ≤ 4000000000 := by rw [List.length_map, Array.length_toList] at hs'; exact hs'
 have e2 : bn.size ≤ 1000 := by rw [List.length_map, Array.length_toList] at hn'; exact hn'
 refine CallFn.of Tryz.f60 (by kernel_rfl) (by kernel_rfl) ?_
 obtain ⟨⟨m, hm⟩, _⟩ := G.ok w H.gl
 have hcnt : countB bs ⟨#[u]⟩ ≤ bs.size := countB_le _ (by simp [ByteArray.size]) _ _ (Nat.le_refl _)
 have hmul : countB bs ⟨#[u]⟩ * bn.size ≤ 4000000000 * 1000 := Nat.mul_le_mul (by omega) e2
 refine (Tryz.strings_ReplaceAll bs ⟨#[u]⟩ bn m w (by omega) hm (by simp [ByteArray.size]) (by omega)).mono ?_
 rintro e w' ⟨rfl, hbel⟩
 refine ⟨ρ, _, rfl, Ex.refl _ _, .s _ _ ?_, H.later hbel, Kp.later H hbel⟩
 rw [aNd, ← bJo]
def hZ (acc : List UInt8) : List (List UInt8) → List (List UInt8)
 | [] => []
 | p :: ps => (acc ++ p) :: ps
theorem uA (c : UInt8) : ∀ (s acc : List UInt8), bQ c.toNat (acc.map (·.toNat)) (s.map (·.toNat)) = (hZ acc (splitK [c] 1 (count s [c]) s)).map (·.map (·.toNat))
 | [], acc => by rw [count_one]; simp [bQ, splitK, hZ]
 | b :: l, acc => by
  simp only [List.map_cons, bQ, bQr]
  by_cases h : b = c
  ·subst h
   have ih := uA b l []
   rw [count_cons_eq, Nat.add_comm]
   simp only [splitK, aMt]
   simp only [List.map_nil] at ih
   rw [show (b == b) = true by simp, cond_true, ih]
   have hd : hZ [] (splitK [b] 1 (count l [b]) l) = splitK [b] 1 (count l [b]) l := by cases splitK [b] 1 (count l [b]) l <;> simp [hZ]
   rw [hd]
   simp [hZ]
  ·have ih := uA c l (acc ++ [b])
   rw [show (b == c) = false by simpa using h, cond_false, count_cons_ne _ _ _ h]
   simp only [List.map_append, List.map_cons, List.map_nil] at ih
   rw [ih]
   cases hk : count l [c] with
   | zero => simp [splitK, hZ]
   | succ k =>
    obtain ⟨i, hi⟩ := index_of_count (s := l) (old := [c]) (by omega)
    have hi2 := aMi h hi
    simp only [splitK, hi, hi2]
    rw [if_neg (by first | (simp; done) | (simp; omega)), if_neg (by first | (simp; done) | (simp; omega))]
    simp [hZ]
theorem bJk (G : Gd) : tH CF.P G 86 uJ := by
 intro args h v h1 hr ρ w args' H hargs
 unfold uJ at hr
 split at hr <;> (try (cases hr; done))
 rename_i s c
 cases hc : Nat.blt c 256 with
 | false => rw [hc] at hr; cases hr
 | true =>
 rw [hc] at hr
 cases hc2 : Nat.ble s.length 4000000000 with
 | false => rw [hc2] at hr; cases hr
 | true =>
 rw [hc2] at hr
 have hs' := Nat.le_of_ble_eq_true hc2
 simp only [cond_true, Option.some.injEq, Prod.mk.injEq] at hr
 obtain ⟨rfl, rfl⟩ := hr
 obtain ⟨a⟩ := args'
 cases hargs with
 | cons _ x' l1 l1' hx hxs =>
 cases hxs with
 | cons _ y' l2 l2' hy hys =>
 cases hys with
 | cons _ z' l3 l3' hz hzs =>
 cases hzs with
 | cons _ z4 l4 l4' hz4 hzs4 =>
 cases hzs4
 cases hz
 cases hz4
 cases hx with
 | s _ bs hbs =>
 cases hy with
 | s _ bc hbc =>
 obtain ⟨u, rfl, rfl⟩ := bNq hbc
 subst hbs
 have e1 : bs.size ≤ 4000000000 := by rw [List.length_map, Array.length_toList] at hs'; exact hs'
 have hsz : (⟨#[u]⟩ : ByteArray).size = 1 := rfl
 have hcnt : countB bs ⟨#[u]⟩ ≤ bs.size := countB_le _ (by omega) _ _ (Nat.le_refl _)
 have hp : bQ u.toNat [] (bs.data.toList.map (·.toNat)) = ((splitB ⟨#[u]⟩ 1 (countB bs ⟨#[u]⟩) bs).map (·.data.toList)).map (·.map (·.toNat)) := by
  have := uA u bs.data.toList []
  simp only [List.map_nil] at this
  rw [this, splitB_data]
  show (hZ [] (splitK [u] 1 (count bs.data.toList [u]) bs.data.toList)).map _ = (splitK [u] 1 (count bs.data.toList [u]) bs.data.toList).map _
  cases splitK [u] 1 (count bs.data.toList [u]) bs.data.toList <;> simp [hZ]
 have hlen := splitB_all ⟨#[u]⟩ (by omega) 1 _ bs rfl
 refine CallFn.of Tryz.f86 (by kernel_rfl) (by kernel_rfl) ?_
 obtain ⟨⟨m, hm⟩, _⟩ := G.ok w H.gl
 have hN : ((countB bs ⟨#[u]⟩ + 1 : Nat) : Int) = min (if (Int.negSucc 0) < 0 then (countB bs ⟨#[u]⟩ : Int) + 1 else Int.negSucc 0) ((bs.size : Int) + 1) := by
  rw [if_pos (by decide)]
  omega
 refine (Tryz.strings_genSplit bs ⟨#[u]⟩ 1 (Int.negSucc 0) (countB bs ⟨#[u]⟩ + 1) m w (by omega) hm (by omega) (by omega) (by decide) (by decide) hN).mono ?_
 rintro e w' ⟨rfl, rfl⟩
 simp only [Nat.add_sub_cancel] at *
 generalize hps : splitB ⟨#[u]⟩ 1 (countB bs ⟨#[u]⟩) bs = ps at *
 rw [hp]
 have hcell : cellsOf ps (countB bs ⟨#[u]⟩ + 1) = (ps.map Value.string).toArray := by rw [← hlen]; exact cellsOf_full ps
 rw [hcell]
 have hvs : ∀ qs : List ByteArray, VRs ρ (((qs.map (·.data.toList)).map (·.map (·.toNat))).map DV.s) (qs.map Value.string) := by
  intro qs
  induction qs with
  | nil => exact .nil
  | cons q qs ih => exact .cons _ _ _ _ (.s _ _ rfl) ih
 have H2 := H.newRow .ex _ (ps.map Value.string) (ps.map Value.string).toArray 9 0 (hvs ps) (fun i v hv => by simpa using hv) (.inl ⟨rfl, rfl⟩)
 refine ⟨_, _, rfl, H.exx ⟨w.heap.size, 0, 0, none⟩, ?_, H2, gW H.sz _⟩
 have := VR.l (ρ := oA ρ h.next ⟨w.heap.size, 0, 0, none⟩) h.next 0 ps.length ps.length ⟨w.heap.size, 0, 0, none⟩ (bN _ _ _)
 simpa [eK, hlen] using this
end Go.Dd

namespace Go.Dd
open Go.Proofs Go.Lib Go.RowKit
theorem aOz (c : Nat) (hc : c < 256) : ∀ (l : List UInt8) (i : Nat), dI c (l.map (·.toNat)) i = if indexByte l c.toUInt8 = -1 then -1 else indexByte l c.toUInt8 + i
 | [], i => rfl
 | b :: l, i => by
  have hb : Nat.beq b.toNat c = (b == c.toUInt8) := by
   rw [Bool.eq_iff_iff]
   constructor
   ·intro h
    have := Nat.eq_of_beq_eq_true h
    simp [← this]
   ·intro h
    have h2 : b = c.toUInt8 := by simpa using h
    rw [h2]
    have : (c.toUInt8).toNat = c := by simp [Nat.toUInt8]; omega
    rw [this]; simp
  show (bif Nat.beq b.toNat c then Int.ofNat i else dI c (l.map (·.toNat)) (i + 1)) = _
  rw [hb]
  unfold indexByte
  cases h : (b == c.toUInt8) with
  | true => simp
  | false =>
   have ih := aOz c hc l (i + 1)
   have hge := indexByte_ge l c.toUInt8
   simp only [cond_false, Bool.false_eq_true, if_false]
   rw [ih]
   by_cases h1 : indexByte l c.toUInt8 = -1
   ·simp [h1]
   ·simp only [h1, if_false, beq_iff_eq]
    rw [if_neg (by omega)]
    omega
theorem cYu (G : Gd) : tH CF.P G 117 bFf := by
 intro args h v h1 hr ρ w args' H hargs
 unfold bFf at hr
 split at hr <;> (try (cases hr; done))
 rename_i l c
 cases hc : Nat.blt c 256 with
 | false => rw [hc] at hr; cases hr
 | true =>
  rw [hc] at hr
  have hc' : c < 256 := by simpa using hc
  simp only [cond_true, Option.some.injEq, Prod.mk.injEq] at hr
  obtain ⟨rfl, rfl⟩ := hr
  obtain ⟨a⟩ := args'
  cases hargs with
  | cons x x' l1 l1' hx hxs =>
  cases hxs with
  | cons y y' l2 l2' hy hys =>
  cases hys
  cases hx with
  | s l bs hbs =>
  cases hy with
  | i k n =>
  refine .inr ⟨ρ, w, .int .i64 (indexByte bs.data.toList c.toUInt8), ?_, Ex.refl _ _, ?_, H, Kp.refl _ _⟩
  ·rw [run_callFunc_extern (fn := Tryz.f117) (e := Extern.BytealgIndexByte.indexByte) (by kernel_rfl) (by kernel_rfl) (by kernel_rfl) (by kernel_rfl) (by kernel_rfl)]
   rw [run_indexByteString bs (Int.ofNat c) w]
   rfl
  ·have e := aOz c hc' bs.data.toList 0
   rw [hbs] at e
   have e2 : dI c l 0 = indexByte bs.data.toList c.toUInt8 := by
    rw [e]
    split
    ·rename_i h; exact h.symm
    ·simp
   rw [e2]
   exact .i _ _
theorem aRv (G : Gd) (g : FuncId) (F : List DV → Hp → aH) (h : CF.I g = some F) : tH CF.P G g F := by
 have e : CF.I g = bif Nat.beq g 117 then some bFf else bif Nat.beq g 30 then some nJ else bif Nat.beq g 86 then some uJ else bif Nat.beq g 60 then some aCn else bif Nat.beq g 34 then some aCv else none := rfl
 rw [e] at h
 cases hg : Nat.beq g 117 with
 | true => rw [hg] at h; cases h; cases Nat.eq_of_beq_eq_true hg; exact cYu G
 | false =>
 rw [hg, cond_false] at h
 cases hg : Nat.beq g 30 with
 | true => rw [hg] at h; cases h; cases Nat.eq_of_beq_eq_true hg; exact bYp G
 | false =>
 rw [hg, cond_false] at h
 cases hg : Nat.beq g 86 with
 | true => rw [hg] at h; cases h; cases Nat.eq_of_beq_eq_true hg; exact bJk G
 | false =>
 rw [hg, cond_false] at h
 cases hg : Nat.beq g 60 with
 | true => rw [hg] at h; cases h; cases Nat.eq_of_beq_eq_true hg; exact cBa G
 | false =>
 rw [hg, cond_false] at h
 cases hg : Nat.beq g 34 with
 | true => rw [hg] at h; cases h; cases Nat.eq_of_beq_eq_true hg; exact cHx G
 | false => rw [hg] at h; cases h
def cUd (w : World) (F : Facts w) : Gd := ⟨w.heap.size, fun _ => False, 0, w.heap, fun w' h => F.keep fun k hk => h k (Nat.lt_of_lt_of_le hk F.two)⟩
def h00 : Hp := ⟨.h, .e⟩
theorem top {n : Nat} {f : FuncId} {args : List DV} {v : DV} {h1 : Hp} (hr : aJ n f args h00 = some (v, h1)) (fn : Func) (hf : Tryz.prog.funcs[f]? = some fn) (hb : fn.body.isSome = true)
 (w : World) (F : Facts w) (args' : Array Value) (hargs : VRs (fun _ => none) args args'.toList) :
 Calls Tryz.prog f args' w fun e w' => ∃ ρ' v', e = .returned v' ∧ VR ρ' v v' ∧ HR (cUd w F) ρ' h1 w' ∧ Below w.heap.size w w' := by
 rw [aPl] at hr
 have H : HR (cUd w F) (fun _ => none) h00 w := by
  constructor
  ·exact fun _ _ => rfl
  ·exact ⟨Nat.le_refl _, fun _ h => h.elim⟩
  ·exact Nat.zero_le _
  ·rintro b a ⟨k, l, L, _, h2, _⟩; cases h2
  ·intro b o h; cases b <;> cases h
  ·intro b L h; cases h
  ·intro b k l L i v h h2; cases h2
  ·intro b l L es j h h2; cases h2
  ·rintro b a ⟨k, l, L, _, h2, _⟩; cases h2
  ·rintro b b' a ⟨k, l, L, _, h2, _⟩; cases h2
  ·intro b l L h h2; cases h2
  ·intro b es l i v h; cases b <;> cases h
  ·intro b s pos L h h2; cases h2
  ·intro b s pos b' s' pos' L L' h h' h2; cases h2
 rcases aQn (C := CF) Try_ok aRv n _ f args h00 v h1 hr _ w args' H hargs with ⟨_, h⟩ | ⟨ρ', w', v', h, _⟩
 ·refine h.mono ?_
  rintro e w' ⟨ρ', v', h1, h2, h3, h4, h5⟩
  exact ⟨ρ', v', h1, h3, h4, h5.low⟩
 ·exfalso
  have hf' : CF.P.funcs[f]? = some fn := hf
  have hn : ¬ fn.name = "runtime.NumGoroutine" := by simpa using Try_ok.names f fn hf'
  have hbn : fn.body ≠ none := by intro e; rw [e] at hb; cases hb
  unfold callFunc at h
  simp [hf', hn, hbn] at h
end Go.Dd

namespace Go.Dd
noncomputable def val (r : aH) : DV := Option.rec (motive := fun _ => DV) .u (fun p => p.1) r
theorem dGm {r : aH} {b : Bool} (h : val r = .b b) : ∃ h1, r = some (.b b, h1) := by
 cases r with
 | none => cases h
 | some p =>
  obtain ⟨v, h1⟩ := p
  have : v = .b b := h
  exact ⟨h1, by rw [this]⟩
end Go.Dd

namespace Go.Dd
open Go.Proofs
def Wf (h : Hp) : Prop := ∀ b o, h.bl.get b = some o → b.toNat < h.next.toNat
def Ge (h h' : Hp) : Prop := ∀ b o, h.bl.get b = some o → h'.bl.get b = some o
theorem Ge.refl (h : Hp) : Ge h h := fun _ _ e => e
theorem Ge.trans {a b c : Hp} (h : Ge a b) (k : Ge b c) : Ge a c := fun x o e => k x o (h x o e)
noncomputable def nw (o : Ob) (h : Hp) : Hp := ⟨h.next.succ, Tr.set o h.next h.bl⟩
theorem dIv {h : Hp} (W : Wf h) {b : Pos} {o : Ob} (e : h.bl.get b = some o) : b ≠ h.next := by
 intro e2
 have := W b o e
 rw [e2] at this
 omega
theorem cOy {h : Hp} (W : Wf h) (o : Ob) : Ge h (nw o h) := by
 intro b o' e
 show (Tr.set o h.next h.bl).get b = some o'
 rw [Tr.get_set_other _ _ _ _ (dIv W e)]
 exact e
theorem aHt (h : Hp) (o : Ob) : (nw o h).bl.get h.next = some o := Tr.get_set_same o _ _
theorem dJg (cs : List DV) (h : Hp) : bG cs h = some (.p h.next 0, nw (.row .ex cs) h) := rfl
theorem cYq (x y : List Nat) (h : Hp) : bY .eql (.s x) (.s y) h = some (.b (vZ x y), h) := rfl
theorem cVo (x y : List Nat) (h : Hp) : bY .neq (.s x) (.s y) h = some (.b (!vZ x y), h) := rfl
theorem dG (n : Int) (h1 : -9223372036854775808 ≤ n) (h2 : n ≤ 9223372036854775807) : IntKind.i64.wrap n = n := by
 unfold IntKind.wrap
 simp [IntKind.bits, IntKind.signed, IntKind.min, IntKind.max]
 omega
theorem ld1 {h : Hp} {b : Pos} {k : Kind} {l : List DV} {o : Nat} {v : DV} (e : h.bl.get b = some (.row k l)) (ho : l[o]? = some v) (hv : v.one = true) : aD (.p b o) h = some (v, h) := by
 simp [aD, aMs, lT, e, ho, hv]
theorem ldA {h : Hp} {b : Pos} {k : Kind} {l : List DV} {o n : Nat} {cs : List DV} (e : h.bl.get b = some (.row k l)) (ho : iW n (l.drop o) = some cs) : aE n (.p b o) h = some (.a cs, h) := by
 simp [aE, dL, lT, e, ho]
theorem jY {α : Type} {l : List α} {i : Nat} {x : α} (hi : l[i]? = some x) : l.drop i = x :: l.drop (i + 1) := by
 obtain ⟨h1, h2⟩ := List.getElem?_eq_some_iff.1 hi
 rw [← h2]
 exact List.drop_eq_getElem_cons h1
theorem aTg (x y : List Nat) : vZ x y = decide (x = y) := by
 rw [Bool.eq_iff_iff, jX]; simp
theorem cLn (n : Nat) (x y : DV) (h : Hp) : aJ (n + 1) 16 [x, y] h = s16 (aJ n) n x y h := by kernel_rfl
end Go.Dd

namespace Go.Dd
open Go.Proofs
theorem aLx : ∀ (l vs : List DV), l.length = vs.length → (∀ v ∈ l, v.one = true) → (∀ v ∈ vs, v.one = true) → sW l vs = some vs
 | [], [], _, _, _ => rfl
 | x :: l, v :: vs, h, h1, h2 => by
  have := aLx l vs (by simpa using h) (fun y hy => h1 y (by simp [hy])) (fun y hy => h2 y (by simp [hy]))
  simp [sW, this, h1 x (by simp), h2 v (by simp)]
 | [], _ :: _, h, _, _ => by simp at h
 | _ :: _, [], h, _, _ => by simp at h
theorem aDa : ∀ (x : List DV), (∀ v ∈ x, v.one = true) → iW x.length x = some x
 | [], _ => rfl
 | v :: x, h => by simp [iW, h v (by simp), aDa x (fun y hy => h y (by simp [hy]))]
end Go.Dd

namespace Go.Dd
open Go.Proofs
end Go.Dd

namespace Go.Dd
open Go.Proofs
end Go.Dd

namespace Go.Dd
open Go.Proofs
end Go.Dd

namespace Go.Dd
open Go.Proofs
end Go.Dd

namespace Go.Dd
open Go.Proofs
end Go.Dd

namespace Go.Dd
open Go.Proofs Go.RowKit
theorem bEt {n : Nat} {f : FuncId} {r : Bool} {h1 : Hp} (hr : aJ n f [] h00 = some (.b r, h1)) (fn : Func) (hf : Tryz.prog.funcs[f]? = some fn) (hb : fn.body.isSome = true) (G : Gd) :
 tH CF.P G f (fun args h => match args with
  | [] => some (.b r, h)
  | _ => none) := by
 intro args h v h2 he ρ w args' H hargs
 cases args with
 | cons _ _ => cases he
 | nil =>
  simp only [Option.some.injEq, Prod.mk.injEq] at he
  obtain ⟨rfl, rfl⟩ := he
  have e0 : args' = #[] := by
   obtain ⟨a⟩ := args'
   cases hargs
   rfl
  subst e0
  refine .inl ⟨?_, ?_⟩
  ·have hf' : CF.P.funcs[f]? = some fn := hf
   have hn : ¬ fn.name = "runtime.NumGoroutine" := by simpa using Try_ok.names f fn hf'
   have hbn : fn.body ≠ none := by intro e; rw [e] at hb; cases hb
   unfold callFunc
   simp [hf', hn, hbn]
  ·refine (top hr fn hf hb w (G.ok w H.gl) #[] .nil).mono ?_
   rintro e w' ⟨ρ', v', rfl, hv, _, hbel⟩
   cases hv
   exact ⟨ρ, _, rfl, Ex.refl _ _, .b _, H.later hbel, Kp.later H hbel⟩
noncomputable def zU (l : FuncId) (r : Bool) (n : Nat) : FuncId → List DV → Hp → aH := fun g =>
 bif Nat.beq g l then (fun args h => match args with
  | [] => some (.b r, h)
  | _ => none) else aJ n g
theorem cEs {n m : Nat} {f : FuncId} {r : Bool} {h1 : Hp} (hr : aJ m f [] h00 = some (.b r, h1)) (fn : Func) (hf : Tryz.prog.funcs[f]? = some fn) (hb : fn.body.isSome = true) : OkC CF (zU f r n) := by
 refine ⟨aRv, fun G g => ?_⟩
 unfold zU
 cases hg : Nat.beq g f with
 | true =>
  cases Nat.eq_of_beq_eq_true hg
  exact bEt hr fn hf hb G
 | false =>
  show tH CF.P G g (aJ n g)
  rw [aPl]
  exact aQn Try_ok aRv n G g
theorem bFi (l : FuncId) (r : Bool) (n : Nat) (h : Hp) : zU l r n l [] h = some (.b r, h) := by
 unfold zU
 rw [show Nat.beq l l = true from by simp]
 rfl
theorem qQ {l g : FuncId} (r : Bool) (n : Nat) (e : Nat.beq g l = false) : zU l r n g = aJ n g := by
 unfold zU
 rw [e]
 rfl
end Go.Dd

namespace Go.Dd
open Go.Proofs Go.RowKit
structure Ro (w : World) (ρ : Ren) (h : Hp) : Prop where
 dom : ∀ b o, h.bl.get b = some o → ∃ L, ρ b = some L
 lt : ∀ b L, ρ b = some L → b.toNat < h.next.toNat
 row : ∀ b o, h.bl.get b = some o → ∃ l, o = .row .ro l
 cell : ∀ b l L i v, h.bl.get b = some (.row .ro l) → ρ b = some L → l[i]? = some v → ∃ v', w.cell? (eK L i) = some v' ∧ VR ρ v v'
 sp : ∀ b o L, h.bl.get b = some o → ρ b = some L → L.sp = 0
theorem Ro.wf {w : World} {ρ : Ren} {h : Hp} (R : Ro w ρ h) : Wf h := fun b o e => by
 obtain ⟨L, hL⟩ := R.dom b o e
 exact R.lt b L hL
theorem Ro.isRo {w : World} {ρ : Ren} {h : Hp} (R : Ro w ρ h) {b : Pos} {a : Addr} (c : Claims ρ h b a) : isRo h b := by
 obtain ⟨k, l, L, h1, h2, _⟩ := c
 obtain ⟨l', e⟩ := R.row b _ h1
 exact ⟨l', by rw [h1, e]⟩
theorem Ro.hr {w : World} {ρ : Ren} {h : Hp} (R : Ro w ρ h) (F : Facts w) : HR (cUd w F) ρ h w where
 gl := fun _ _ => rfl
 sz := ⟨Nat.le_refl _, fun _ hh => hh.elim⟩
 nx := Nat.zero_le _
 ro := fun b a c _ => by
  obtain ⟨k, l, L, h1, h2, h3⟩ := c
  obtain ⟨l', e⟩ := R.row b _ h1
  cases e
  rcases h3 with ⟨i, v, h4, h5, rfl⟩ | ⟨es, j, h4, _⟩
  ·obtain ⟨v', h6, _⟩ := R.cell b _ L i v h1 h2 h4
   exact fB h6
  ·cases h4
 dom := R.dom
 lt := R.lt
 cell := fun b k l L i v h1 h2 h3 h4 => by
  obtain ⟨l', e⟩ := R.row b _ h1
  cases e
  exact R.cell b _ L i v h1 h2 h3
 spare := fun b l L es j h1 => by
  obtain ⟨l', e⟩ := R.row b _ h1
  cases e
 free := fun b a c hn => absurd (R.isRo c) hn
 inj := fun b b' a c c' hn => absurd (R.isRo c) hn
 ex := fun b l L h1 h2 => by
  rcases h1 with h1 | h1
  ·exact R.sp b _ L h1 h2
  ·exact R.sp b _ L h1 h2
 grone := fun b es l i v h1 => by
  obtain ⟨l', e⟩ := R.row b _ h1
  cases e
 itr := fun b s pos L h1 => by
  obtain ⟨l', e⟩ := R.row b _ h1
  cases e
 itj := fun b s pos b' s' pos' L L' h1 => by
  obtain ⟨l', e⟩ := R.row b _ h1
  cases e
theorem Ro.none (w : World) : Ro w (fun _ => none) h00 where
 dom := fun b o h => by cases b <;> cases h
 lt := fun b L h => by cases h
 row := fun b o h => by cases b <;> cases h
 cell := fun b l L i v h => by cases b <;> cases h
 sp := fun b o L h => by cases b <;> cases h
theorem Ro.add {w : World} {ρ : Ren} {h : Hp} (R : Ro w ρ h) (L : Loc) (l : List DV) (hsp : L.sp = 0)
 (hc : ∀ (i : Nat) v, l[i]? = some v → ∃ v', w.cell? (eK L i) = some v' ∧ VR ρ v v') :
 Ro w (oA ρ h.next L) (nw (.row .ro l) h) ∧ Ext ρ (oA ρ h.next L) := by
 have fresh : ρ h.next = Option.none := by
  cases e : ρ h.next with
  | none => rfl
  | some L' => exact absurd (R.lt _ _ e) (Nat.lt_irrefl _)
 have ext : Ext ρ (oA ρ h.next L) := fun b L' e => by
  have hb : b ≠ h.next := fun e2 => by rw [e2, fresh] at e; cases e
  rw [aQ _ _ hb]; exact e
 refine ⟨?_, ext⟩
 have get : ∀ b o, (nw (.row .ro l) h).bl.get b = some o → (b = h.next ∧ o = .row .ro l) ∨ (b ≠ h.next ∧ h.bl.get b = some o) := fun b o e => by
  by_cases hb : b = h.next
  ·subst hb
   rw [aHt] at e
   cases e
   exact .inl ⟨rfl, rfl⟩
  ·refine .inr ⟨hb, ?_⟩
   rw [← Tr.get_set_other (.row .ro l) h.next b h.bl hb]
   exact e
 constructor
 ·intro b o e
  rcases get b o e with ⟨rfl, _⟩ | ⟨hb, e2⟩
  ·exact ⟨L, bN _ _ _⟩
  ·rw [aQ _ _ hb]; exact R.dom b o e2
 ·intro b L' e
  show b.toNat < h.next.succ.toNat
  rw [Pos.toNat_succ]
  by_cases hb : b = h.next
  ·rw [hb]; omega
  ·rw [aQ _ _ hb] at e
   have := R.lt b L' e
   omega
 ·intro b o e
  rcases get b o e with ⟨rfl, rfl⟩ | ⟨hb, e2⟩
  ·exact ⟨l, rfl⟩
  ·exact R.row b o e2
 ·intro b l' L' i v e e2 e3
  rcases get b _ e with ⟨rfl, e4⟩ | ⟨hb, e4⟩
  ·cases e4
   rw [bN] at e2
   cases e2
   obtain ⟨v', h1, h2⟩ := hc i v e3
   exact ⟨v', h1, h2.mono ext⟩
  ·rw [aQ _ _ hb] at e2
   obtain ⟨v', h1, h2⟩ := R.cell b l' L' i v e4 e2 e3
   exact ⟨v', h1, h2.mono ext⟩
 ·intro b o L' e e2
  rcases get b _ e with ⟨rfl, e4⟩ | ⟨hb, e4⟩
  ·rw [bN] at e2
   cases e2
   exact hsp
  ·rw [aQ _ _ hb] at e2
   exact R.sp b o L' e4 e2
theorem aCh {w : World} {base n : Nat} {a : Addr} {cs : List Value} (h : w.cells? base a n = some cs) : cs.length = n ∧ ∀ j, j < n → w.cell? (a.add j) = cs[j]? := by
 unfold World.cells? at h
 split at h
 ·exact ⟨by simpa using mapM_some_length h, fun j hj => mapM_some_get h j j (by simp [hj])⟩
 ·cases h
section
variable {H : Type} {enc : TypeId × Value → H} {w : World}
theorem aNq : ∀ (rows : List (List DV)) (q : Nat) (v : DV), (∀ r ∈ rows, r.length = 6) → rows.flatten[q]? = some v → ∃ i j x, rows[i]? = some x ∧ x[j]? = some v ∧ q = i * 6 + j
 | [], q, v, _, h => by simp at h
 | r :: rows, q, v, hl, h => by
  have h6 := hl r (by simp)
  by_cases hq : q < 6
  ·rw [List.flatten_cons, List.getElem?_append_left (by omega)] at h
   exact ⟨0, q, r, rfl, h, by omega⟩
  ·rw [List.flatten_cons, List.getElem?_append_right (by omega)] at h
   obtain ⟨i, j, x, h1, h2, h3⟩ := aNq rows (q - r.length) v (fun r hr => hl r (by simp [hr])) h
   exact ⟨i + 1, j, x, by simpa using h1, h2, by omega⟩
end
end Go.Dd

namespace Go.Dd
theorem bZg : ∃ h1, aJ 900 10 [] h00 = some (.b true, h1) := dGm (by kernel_rfl)
end Go.Dd

namespace Go.Dd
open Go.Proofs
def Ev (F : Nat → aH) (P : DV → Hp → Prop) : Prop := ∃ v h N, P v h ∧ ∀ n, N ≤ n → F n = some (v, h)
theorem Ev.ret {v : DV} {h : Hp} {P : DV → Hp → Prop} (H : P v h) : Ev (fun _ => some (v, h)) P := ⟨v, h, 0, H, fun _ _ => rfl⟩
theorem Ev.mono {F : Nat → aH} {P Q : DV → Hp → Prop} (H : Ev F P) (k : ∀ v h, P v h → Q v h) : Ev F Q := by
 obtain ⟨v, h, N, a, b⟩ := H
 exact ⟨v, h, N, k v h a, b⟩
theorem Ev.op {r : aH} {v : DV} {h : Hp} {k : Nat → DV → Hp → aH} {P : DV → Hp → Prop} (e : r = some (v, h)) (H : Ev (fun n => k n v h) P) : Ev (fun n => bnd r (k n)) P := by
 rw [e]; exact H
theorem Ev.call {F : Nat → aH} {Q P : DV → Hp → Prop} {k : Nat → DV → Hp → aH} (H : Ev F Q) (K : ∀ v h, Q v h → Ev (fun n => k n v h) P) : Ev (fun n => bnd (F n) (k n)) P := by
 obtain ⟨v, h, N, a, b⟩ := H
 obtain ⟨v', h', N', a', b'⟩ := K v h a
 refine ⟨v', h', max N N', a', fun n hn => ?_⟩
 show Dd.bnd (F n) (k n) = _
 rw [b n (by omega)]
 exact b' n (by omega)
theorem Ev.enter {G : Nat → aH} {F : Nat → aH} {P : DV → Hp → Prop} (e : ∀ n, F (n + 1) = G n) (H : Ev G P) : Ev F P := by
 obtain ⟨v, h, N, a, b⟩ := H
 refine ⟨v, h, N + 1, a, fun n hn => ?_⟩
 obtain ⟨n, rfl⟩ : ∃ m, n = m + 1 := ⟨n - 1, by omega⟩
 rw [e]
 exact b n (by omega)
theorem Ev.loop (j : Nat) {ll bb : Nat → Nat → aH} {P : DV → Hp → Prop} (e : ∀ n m, ll n (m + 1) = bb n m) (H : Ev (fun n => bb n (n - (j + 1))) P) : Ev (fun n => ll n (n - j)) P := by
 obtain ⟨v, h, N, a, b⟩ := H
 refine ⟨v, h, N + j + 1, a, fun n hn => ?_⟩
 have : n - j = (n - (j + 1)) + 1 := by omega
 show ll n (n - j) = _
 rw [this, e]
 exact b n (by omega)
theorem Ev.ift {F G : Nat → aH} {P : DV → Hp → Prop} (H : Ev F P) : Ev (fun n => aU (.b true) (F n) (G n)) P := H
theorem Ev.iff {F G : Nat → aH} {P : DV → Hp → Prop} (H : Ev G P) : Ev (fun n => aU (.b false) (F n) (G n)) P := H
theorem Ev.cnd {b : Bool} {F : Nat → aH} {P : DV → Hp → Prop} (e : b = true) (H : Ev F P) : Ev (fun n => cnd b (F n)) P := by
 subst e; exact H
section
variable {k : Nat → DV → Hp → aH} {P : DV → Hp → Prop} {h : Hp} {q : IntKind} {x y : Int} {s t : List Nat}
theorem fI (o : BinOp) (z : DV) (e : aSa o q x y = some z) : aF o (.i q x) (.i q y) h = some (z, h) := by simp [aF, e]
theorem Ev.ieq (H : x = y → Ev (fun n => k n (.b true) h) P) (H' : x ≠ y → Ev (fun n => k n (.b false) h) P) : Ev (fun n => bnd (aF .eql (.i q x) (.i q y) h) (k n)) P := by
 refine Ev.op (fI .eql (.b (x == y)) rfl) ?_
 by_cases e : x = y
 ·rw [show (x == y) = true by simpa using e]; exact H e
 ·rw [show (x == y) = false by simpa using e]; exact H' e
theorem Ev.ine (H : x ≠ y → Ev (fun n => k n (.b true) h) P) (H' : x = y → Ev (fun n => k n (.b false) h) P) : Ev (fun n => bnd (aF .neq (.i q x) (.i q y) h) (k n)) P := by
 refine Ev.op (fI .neq (.b (x != y)) rfl) ?_
 by_cases e : x = y
 ·rw [show (x != y) = false by simpa using e]; exact H' e
 ·rw [show (x != y) = true by simpa using e]; exact H e
theorem Ev.ilt (H : x < y → Ev (fun n => k n (.b true) h) P) (H' : ¬ x < y → Ev (fun n => k n (.b false) h) P) : Ev (fun n => bnd (aF .lss (.i q x) (.i q y) h) (k n)) P := by
 refine Ev.op (fI .lss (.b (decide (x < y))) rfl) ?_
 by_cases e : x < y
 ·rw [decide_eq_true e]; exact H e
 ·rw [decide_eq_false e]; exact H' e
theorem Ev.ile (H : x ≤ y → Ev (fun n => k n (.b true) h) P) (H' : ¬ x ≤ y → Ev (fun n => k n (.b false) h) P) : Ev (fun n => bnd (aF .leq (.i q x) (.i q y) h) (k n)) P := by
 refine Ev.op (fI .leq (.b (decide (x ≤ y))) rfl) ?_
 by_cases e : x ≤ y
 ·rw [decide_eq_true e]; exact H e
 ·rw [decide_eq_false e]; exact H' e
theorem Ev.igt (H : y < x → Ev (fun n => k n (.b true) h) P) (H' : ¬ y < x → Ev (fun n => k n (.b false) h) P) : Ev (fun n => bnd (aF .gtr (.i q x) (.i q y) h) (k n)) P := by
 refine Ev.op (fI .gtr (.b (decide (x > y))) rfl) ?_
 by_cases e : y < x
 ·rw [decide_eq_true e]; exact H e
 ·rw [decide_eq_false e]; exact H' e
theorem Ev.ige (H : y ≤ x → Ev (fun n => k n (.b true) h) P) (H' : ¬ y ≤ x → Ev (fun n => k n (.b false) h) P) : Ev (fun n => bnd (aF .geq (.i q x) (.i q y) h) (k n)) P := by
 refine Ev.op (fI .geq (.b (decide (x ≥ y))) rfl) ?_
 by_cases e : y ≤ x
 ·rw [decide_eq_true e]; exact H e
 ·rw [decide_eq_false e]; exact H' e
theorem Ev.seq (H : s = t → Ev (fun n => k n (.b true) h) P) (H' : s ≠ t → Ev (fun n => k n (.b false) h) P) : Ev (fun n => bnd (bY .eql (.s s) (.s t) h) (k n)) P := by
 refine Ev.op (cYq s t h) ?_
 by_cases e : s = t
 ·rw [show vZ s t = true by rw [jX]; exact e]; exact H e
 ·rw [show vZ s t = false by rw [aTg]; simp [e]]; exact H' e
theorem Ev.sne (H : s ≠ t → Ev (fun n => k n (.b true) h) P) (H' : s = t → Ev (fun n => k n (.b false) h) P) : Ev (fun n => bnd (bY .neq (.s s) (.s t) h) (k n)) P := by
 refine Ev.op (cVo s t h) ?_
 by_cases e : s = t
 ·rw [show vZ s t = true by rw [jX]; exact e]; exact H' e
 ·rw [show vZ s t = false by rw [aTg]; simp [e]]; exact H e
theorem Ev.iadd (H : Ev (fun n => k n (.i q (q.wrap (x + y))) h) P) : Ev (fun n => bnd (aF .add (.i q x) (.i q y) h) (k n)) P := Ev.op (fI .add _ rfl) H
theorem Ev.isub (H : Ev (fun n => k n (.i q (q.wrap (x - y))) h) P) : Ev (fun n => bnd (aF .sub (.i q x) (.i q y) h) (k n)) P := Ev.op (fI .sub _ rfl) H
theorem Ev.imul (H : Ev (fun n => k n (.i q (q.wrap (x * y))) h) P) : Ev (fun n => bnd (aF .mul (.i q x) (.i q y) h) (k n)) P := Ev.op (fI .mul _ rfl) H
theorem Ev.sadd (hl : s.length + t.length ≤ 9223372036854775807) (H : Ev (fun n => k n (.s (s ++ t)) h) P) : Ev (fun n => bnd (bY .add (.s s) (.s t) h) (k n)) P := by
 refine Ev.op (v := .s (s ++ t)) (h := h) ?_ H
 have e : ¬ (((s.length + t.length : Nat) : Int) > IntKind.i64.max) := by
  have : IntKind.i64.max = 9223372036854775807 := by rfl
  omega
 show (match aHl .add s t with
  | some v => some (v, h)
  | none => none) = _
 unfold aHl
 simp only [if_neg e]
end
abbrev Im := Pos → Option Ob
def ILe (I J : Im) : Prop := ∀ b o, I b = some o → J b = some o
theorem ILe.refl (I : Im) : ILe I I := fun _ _ h => h
theorem ILe.trans {I J K : Im} (a : ILe I J) (b : ILe J K) : ILe I K := fun x o h => b x o (a x o h)
abbrev Ls := List (Pos × Option Ob)
structure Sy (I : Im) (A Q L : Ls) (h : Hp) : Prop where
 wf : Wf h
 im : ∀ b o, I b = some o → h.bl.get b = some o
 loc : ∀ b o, (b, o) ∈ A ++ Q ++ L → h.bl.get b = o
 lt : ∀ b o, (b, o) ∈ A ++ Q ++ L → b.toNat < h.next.toNat
 nd : ((A ++ Q ++ L).map (·.1)).Nodup
 dj : ∀ b o, (b, o) ∈ A ++ Q ++ L → I b = none
theorem aLm {I : Im} {A Q L A' Q' L' : Ls} {h : Hp} (p : List.Perm (A ++ Q ++ L) (A' ++ Q' ++ L')) (S : Sy I A Q L h) : Sy I A' Q' L' h where
 wf := S.wf
 im := S.im
 loc := fun b o m => S.loc b o (p.mem_iff.2 m)
 lt := fun b o m => S.lt b o (p.mem_iff.2 m)
 nd := (p.map _).nodup_iff.1 S.nd
 dj := fun b o m => S.dj b o (p.mem_iff.2 m)
theorem cUg {I : Im} {A Q L A' Q' L' : Ls} {h : Hp} (p : List.Sublist (A' ++ Q' ++ L') (A ++ Q ++ L)) (S : Sy I A Q L h) : Sy I A' Q' L' h where
 wf := S.wf
 im := S.im
 loc := fun b o m => S.loc b o (p.subset m)
 lt := fun b o m => S.lt b o (p.subset m)
 nd := (p.map _).nodup S.nd
 dj := fun b o m => S.dj b o (p.subset m)
theorem Sy.dropL {I : Im} {A Q L : Ls} {e : Pos × Option Ob} {h : Hp} (S : Sy I A Q (e :: L) h) : Sy I A Q L h :=
 cUg (by rw [List.append_assoc, List.append_assoc]; exact (List.Sublist.refl _).append ((List.Sublist.refl _).append (List.sublist_cons_self _ _))) S
theorem Sy.qL {I : Im} {A Q L : Ls} {e : Pos × Option Ob} {h : Hp} (S : Sy I A Q (e :: L) h) : Sy I A (Q ++ [e]) L h :=
 aLm (by simp) S
theorem Sy.lQ {I : Im} {A Q L : Ls} {e : Pos × Option Ob} {h : Hp} (S : Sy I A (Q ++ [e]) L h) : Sy I A Q (e :: L) h :=
 aLm (by simp) S
theorem Sy.add {I : Im} {A Q L : Ls} {h : Hp} (S : Sy I A Q L h) {h' : Hp} (o : Option Ob) (e1 : h'.next = h.next.succ) (e2 : ∀ b, h'.bl.get b = if b = h.next then o else h.bl.get b) : Sy I A Q ((h.next, o) :: L) h' := by
 have ne : ∀ b x, (b, x) ∈ A ++ Q ++ L → b ≠ h.next := fun b x m e => by
  have := S.lt b x m
  rw [e] at this
  omega
 have fresh : h.bl.get h.next = none := by
  cases e : h.bl.get h.next with
  | none => rfl
  | some o => exact absurd (S.wf _ _ e) (Nat.lt_irrefl _)
 have mem : ∀ b x, (b, x) ∈ A ++ Q ++ (h.next, o) :: L → (b = h.next ∧ x = o) ∨ (b, x) ∈ A ++ Q ++ L := fun b x m => by
  simp only [List.mem_append, List.mem_cons, Prod.mk.injEq] at m ⊢
  rcases m with (m | m) | (m | m)
  ·exact .inr (.inl (.inl m))
  ·exact .inr (.inl (.inr m))
  ·exact .inl m
  ·exact .inr (.inr m)
 have inone : I h.next = none := by
  cases e : I h.next with
  | none => rfl
  | some o => rw [S.im _ _ e] at fresh; cases fresh
 refine ⟨?_, ?_, ?_, ?_, ?_, ?_⟩
 ·intro b x e
  rw [e1, Pos.toNat_succ]
  rw [e2] at e
  split at e
  ·rename_i hb; rw [hb]; omega
  ·have := S.wf b x e; omega
 ·intro b x e
  have hb : b ≠ h.next := fun e3 => by rw [e3, inone] at e; cases e
  rw [e2, if_neg hb]
  exact S.im b x e
 ·intro b x m
  rw [e2]
  rcases mem b x m with ⟨rfl, rfl⟩ | m
  ·rw [if_pos rfl]
  ·rw [if_neg (ne b x m)]; exact S.loc b x m
 ·intro b x m
  rw [e1, Pos.toNat_succ]
  rcases mem b x m with ⟨rfl, rfl⟩ | m
  ·omega
  ·have := S.lt b x m; omega
 ·have p : List.Perm ((A ++ Q ++ (h.next, o) :: L).map (·.1)) (h.next :: (A ++ Q ++ L).map (·.1)) := by
   have : List.Perm (A ++ Q ++ (h.next, o) :: L) ((h.next, o) :: (A ++ Q ++ L)) := List.perm_middle
   exact this.map _
  rw [p.nodup_iff, List.nodup_cons]
  refine ⟨fun m => ?_, S.nd⟩
  obtain ⟨⟨b, x⟩, m, e⟩ := List.mem_map.1 m
  exact ne b x m e
 ·intro b x m
  rcases mem b x m with ⟨rfl, rfl⟩ | m
  ·exact inone
  ·exact S.dj b x m
theorem Sy.new {I : Im} {A Q L : Ls} {h : Hp} (S : Sy I A Q L h) (o : Ob) : Sy I A Q ((h.next, some o) :: L) (nw o h) :=
 S.add (some o) rfl (fun b => Tr.get_set o h.next b h.bl)
theorem Sy.res {I : Im} {A Q L : Ls} {h : Hp} (S : Sy I A Q L h) : Sy I A Q ((h.next, none) :: L) (hC 1 h) := by
 refine S.add none rfl (fun b => ?_)
 show h.bl.get b = _
 split
 ·rename_i hb
  rw [hb]
  cases e : h.bl.get h.next with
  | none => rfl
  | some o => exact absurd (S.wf _ _ e) (Nat.lt_irrefl _)
 ·rfl
inductive Rpl (b : Pos) (o o' : Option Ob) : Ls → Ls → Prop
 | head (L : Ls) : Rpl b o o' ((b, o) :: L) ((b, o') :: L)
 | tail (e : Pos × Option Ob) {L L' : Ls} : Rpl b o o' L L' → Rpl b o o' (e :: L) (e :: L')
theorem Rpl.keys {b : Pos} {o o' : Option Ob} {L L' : Ls} (r : Rpl b o o' L L') : L'.map (·.1) = L.map (·.1) := by
 induction r with
 | head L => rfl
 | tail e _ ih => simp [ih]
theorem Rpl.at {b : Pos} {o o' : Option Ob} {L L' : Ls} (r : Rpl b o o' L L') : (b, o) ∈ L ∧ (b, o') ∈ L' := by
 induction r with
 | head L => simp
 | tail e _ ih => simp [ih]
theorem Rpl.mem {b : Pos} {o o' : Option Ob} {L L' : Ls} (r : Rpl b o o' L L') (nd : (L.map (·.1)).Nodup) : ∀ c x, (c, x) ∈ L' → (c = b ∧ x = o') ∨ (c ≠ b ∧ (c, x) ∈ L) := by
 induction r with
 | head L =>
  intro c x m
  rcases List.mem_cons.1 m with m2 | m2
  ·cases m2; exact .inl ⟨rfl, rfl⟩
  ·refine .inr ⟨fun e => ?_, List.mem_cons_of_mem _ m2⟩
   subst e
   rw [List.map_cons, List.nodup_cons] at nd
   exact nd.1 (List.mem_map.2 ⟨_, m2, rfl⟩)
 | tail e r ih =>
  intro c x m
  rw [List.map_cons, List.nodup_cons] at nd
  rcases List.mem_cons.1 m with m | m
  ·subst m
   refine .inr ⟨fun e => ?_, by simp⟩
   subst e
   exact nd.1 (List.mem_map.2 ⟨_, r.at.1, rfl⟩)
  ·rcases ih nd.2 c x m with h | ⟨h1, h2⟩
   ·exact .inl h
   ·exact .inr ⟨h1, by simp [h2]⟩
theorem Sy.setAll {I : Im} {A Q L A' Q' L' : Ls} {h h' : Hp} {b : Pos} {o : Option Ob} {o' : Ob} (S : Sy I A Q L h) (r : Rpl b o (some o') (A ++ Q ++ L) (A' ++ Q' ++ L'))
 (e1 : h'.next = h.next) (e2 : ∀ c, h'.bl.get c = if c = b then some o' else h.bl.get c) : Sy I A' Q' L' h' := by
 have mem := r.mem S.nd
 have hb := S.lt b o r.at.1
 refine ⟨?_, ?_, ?_, ?_, ?_, ?_⟩
 ·intro c x e
  rw [e1]
  rw [e2] at e
  split at e
  ·rename_i hc; rw [hc]; exact hb
  ·exact S.wf c x e
 ·intro c x e
  have hc : c ≠ b := fun e3 => by rw [e3, S.dj b o r.at.1] at e; cases e
  rw [e2, if_neg hc]
  exact S.im c x e
 ·intro c x m
  rw [e2]
  rcases mem c x m with ⟨rfl, rfl⟩ | ⟨hc, m⟩
  ·rw [if_pos rfl]
  ·rw [if_neg hc]; exact S.loc c x m
 ·intro c x m
  rw [e1]
  rcases mem c x m with ⟨rfl, rfl⟩ | ⟨hc, m⟩
  ·exact hb
  ·exact S.lt c x m
 ·rw [r.keys]; exact S.nd
 ·intro c x m
  rcases mem c x m with ⟨rfl, rfl⟩ | ⟨hc, m⟩
  ·exact S.dj c o r.at.1
  ·exact S.dj c x m
theorem Rpl.left (A : Ls) {b : Pos} {o o' : Option Ob} {L L' : Ls} (r : Rpl b o o' L L') : Rpl b o o' (A ++ L) (A ++ L') := by
 induction A with
 | nil => exact r
 | cons e A ih => exact .tail e ih
theorem Rpl.right (A : Ls) {b : Pos} {o o' : Option Ob} {L L' : Ls} (r : Rpl b o o' L L') : Rpl b o o' (L ++ A) (L' ++ A) := by
 induction r with
 | head L => exact .head _
 | tail e _ ih => exact .tail e ih
theorem Sy.setL {I : Im} {A Q L L' : Ls} {h h' : Hp} {b : Pos} {o : Option Ob} {o' : Ob} (S : Sy I A Q L h) (r : Rpl b o (some o') L L')
 (e1 : h'.next = h.next) (e2 : ∀ c, h'.bl.get c = if c = b then some o' else h.bl.get c) : Sy I A Q L' h' := S.setAll (r.left _) e1 e2
theorem Sy.setQ {I : Im} {A Q Q' L : Ls} {h h' : Hp} {b : Pos} {o : Option Ob} {o' : Ob} (S : Sy I A Q L h) (r : Rpl b o (some o') Q Q')
 (e1 : h'.next = h.next) (e2 : ∀ c, h'.bl.get c = if c = b then some o' else h.bl.get c) : Sy I A Q' L h' := S.setAll ((r.left A).right L) e1 e2
theorem Sy.setA {I : Im} {A A' Q L : Ls} {h h' : Hp} {b : Pos} {o : Option Ob} {o' : Ob} (S : Sy I A Q L h) (r : Rpl b o (some o') A A')
 (e1 : h'.next = h.next) (e2 : ∀ c, h'.bl.get c = if c = b then some o' else h.bl.get c) : Sy I A' Q L h' := S.setAll ((r.right Q).right L) e1 e2
noncomputable def Im.put (I : Im) (b : Pos) (o : Ob) : Im := fun c => if c = b then some o else I c
theorem Sy.freeze {I : Im} {A Q L : Ls} {h : Hp} {b : Pos} {o : Ob} (S : Sy I A Q ((b, some o) :: L) h) : Sy (I.put b o) A Q L h ∧ ILe I (I.put b o) := by
 have hb : (b, some o) ∈ A ++ Q ++ (b, some o) :: L := by simp
 have S' := S.dropL
 have nb : ∀ c x, (c, x) ∈ A ++ Q ++ L → c ≠ b := by
  intro c x m e
  subst e
  have p : List.Perm ((A ++ Q ++ (c, some o) :: L).map (·.1)) (c :: (A ++ Q ++ L).map (·.1)) := (List.perm_middle (a := (c, some o)) (l₁ := A ++ Q) (l₂ := L)).map _
  have := p.nodup_iff.1 S.nd
  rw [List.nodup_cons] at this
  exact this.1 (List.mem_map.2 ⟨_, m, rfl⟩)
 refine ⟨⟨S.wf, ?_, S'.loc, S'.lt, S'.nd, ?_⟩, ?_⟩
 ·intro c x e
  unfold Im.put at e
  split at e
  ·rename_i hc; subst hc; cases e; exact S.loc _ _ hb
  ·exact S.im c x e
 ·intro c x m
  unfold Im.put
  rw [if_neg (nb c x m)]
  exact S'.dj c x m
 ·intro c x e
  have : c ≠ b := fun e2 => by rw [e2, S.dj b _ hb] at e; cases e
  unfold Im.put
  rw [if_neg this]
  exact e
theorem Im.put_same (I : Im) (b : Pos) (o : Ob) : I.put b o b = some o := by simp [Im.put]
theorem Sy.memL {I : Im} {A Q L : Ls} {h : Hp} {b : Pos} {o : Ob} (S : Sy I A Q L h) (m : (b, some o) ∈ L) : h.bl.get b = some o := S.loc b _ (by simp [m])
theorem Sy.memQ {I : Im} {A Q L : Ls} {h : Hp} {b : Pos} {o : Ob} (S : Sy I A Q L h) (m : (b, some o) ∈ Q) : h.bl.get b = some o := S.loc b _ (by simp [m])
theorem Sy.memA {I : Im} {A Q L : Ls} {h : Hp} {b : Pos} {o : Ob} (S : Sy I A Q L h) (m : (b, some o) ∈ A) : h.bl.get b = some o := S.loc b _ (by simp [m])
section
variable {I : Im} {A Q L L' Q' : Ls} {h : Hp} {k : Nat → DV → Hp → aH} {P : DV → Hp → Prop} {b : Pos} {kd : Kind} {l l' cs : List DV} {o n : Nat} {v : DV}
theorem Ev.new (S : Sy I A Q L h) (H : ∀ b h', Sy I A Q ((b, some (.row .ex cs)) :: L) h' → Ev (fun n => k n (.p b 0) h') P) : Ev (fun n => bnd (bG cs h) (k n)) P :=
 Ev.op (dJg cs h) (H _ _ (S.new _))
theorem Ev.box (S : Sy I A Q L h) (e : cJ v = some cs) (H : ∀ b h', Sy I A Q ((b, some (.row .ex cs)) :: L) h' → Ev (fun n => k n (.p b 0) h') P) : Ev (fun n => bnd (dW v h) (k n)) P := by
 have e2 : dW v h = bG cs h := by unfold dW; rw [e]
 rw [e2]
 exact Ev.new S H
theorem Ev.ld (hg : h.bl.get b = some (.row kd l)) (e : l[o]? = some v) (hv : v.one = true) (H : Ev (fun n => k n v h) P) : Ev (fun n => bnd (aD (.p b o) h) (k n)) P := Ev.op (ld1 hg e hv) H
theorem Ev.ldL (S : Sy I A Q L h) (m : (b, some (.row kd l)) ∈ L) (e : l[o]? = some v) (hv : v.one = true) (H : Ev (fun n => k n v h) P) : Ev (fun n => bnd (aD (.p b o) h) (k n)) P := Ev.ld (S.memL m) e hv H
theorem Ev.ldQ (S : Sy I A Q L h) (m : (b, some (.row kd l)) ∈ Q) (e : l[o]? = some v) (hv : v.one = true) (H : Ev (fun n => k n v h) P) : Ev (fun n => bnd (aD (.p b o) h) (k n)) P := Ev.ld (S.memQ m) e hv H
theorem Ev.lds (hg : h.bl.get b = some (.row kd l)) (e : iW n (l.drop o) = some cs) (H : Ev (fun n => k n (.a cs) h) P) : Ev (fun m => bnd (aE n (.p b o) h) (k m)) P := Ev.op (ldA hg e) H
theorem aNx (h1 : l.length = n) (h2 : ∀ v ∈ l, v.one = true) : iW n (l.drop 0) = some l := by
 subst h1; simpa using aDa l h2
theorem Ev.ldsL (S : Sy I A Q L h) (m : (b, some (.row kd l)) ∈ L) (h1 : l.length = n) (h2 : ∀ v ∈ l, v.one = true) (H : Ev (fun n => k n (.a l) h) P) : Ev (fun m => bnd (aE n (.p b 0) h) (k m)) P := Ev.lds (S.memL m) (aNx h1 h2) H
theorem bEy {kw : Kind} (hk : kw.writable = true) (hg : h.bl.get b = some (.row kw l)) (h1 : l.length = n) (h2 : ∀ v ∈ l, v.one = true) (h3 : l'.length = n) (h4 : ∀ v ∈ l', v.one = true) :
 aC n (.p b 0) (.a l') h = some (aA, ⟨h.next, Tr.set (.row kw l') b h.bl⟩) := by
 have hp : kB 0 l l' = some l' := aLx l l' (by omega) h2 h4
 simp [aC, cJ, h3, hU, hg, hk, hp]
theorem Ev.stsL (S : Sy I A Q L h) (r : Rpl b (some (.row .ex l)) (some (.row .ex l')) L L') (h1 : l.length = n) (h2 : ∀ v ∈ l, v.one = true) (h3 : l'.length = n) (h4 : ∀ v ∈ l', v.one = true)
 (H : ∀ h', Sy I A Q L' h' → Ev (fun n => k n aA h') P) : Ev (fun m => bnd (aC n (.p b 0) (.a l') h) (k m)) P :=
 Ev.op (bEy rfl (S.memL r.at.1) h1 h2 h3 h4) (H _ (S.setL r rfl (fun c => Tr.get_set _ _ _ _)))
theorem aBu (hv : v.one = true) : cJ v = some [v] := by
 cases v <;> first | rfl | cases hv
theorem aMw : ∀ (o : Nat) (l : List DV), (∃ x, l[o]? = some x ∧ x.one = true) → v.one = true → kB o l [v] = some (l.set o v)
 | 0, [], h, _ => by obtain ⟨x, h, _⟩ := h; simp at h
 | 0, x :: l, h, hv => by
  obtain ⟨y, h1, h2⟩ := h
  simp at h1
  subst h1
  simp [kB, sW, hv, h2]
 | o + 1, [], h, _ => by obtain ⟨x, h, _⟩ := h; simp at h
 | o + 1, x :: l, h, hv => by
  have := aMw o l (by simpa using h) hv
  simp [kB, this]
theorem aCq {kw : Kind} (hk : kw.writable = true) (hg : h.bl.get b = some (.row kw l)) (h1 : ∃ x, l[o]? = some x ∧ x.one = true) (hv : v.one = true) :
 aC 1 (.p b o) v h = some (aA, ⟨h.next, Tr.set (.row kw (l.set o v)) b h.bl⟩) := by
 simp [aC, aBu hv, hU, hg, hk, aMw o l h1 hv]
theorem Ev.stL (S : Sy I A Q L h) (r : Rpl b (some (.row .ex l)) (some (.row .ex l')) L L') (e : l.set o v = l') (h1 : ∃ x, l[o]? = some x ∧ x.one = true) (hv : v.one = true)
 (H : ∀ h', Sy I A Q L' h' → Ev (fun n => k n aA h') P) : Ev (fun m => bnd (aC 1 (.p b o) v h) (k m)) P := by
 subst e
 exact Ev.op (aCq rfl (S.memL r.at.1) h1 hv) (H _ (S.setL r rfl (fun c => Tr.get_set _ _ _ _)))
theorem Ev.stQ (S : Sy I A Q L h) (r : Rpl b (some (.row .ex l)) (some (.row .ex l')) Q Q') (e : l.set o v = l') (h1 : ∃ x, l[o]? = some x ∧ x.one = true) (hv : v.one = true)
 (H : ∀ h', Sy I A Q' L h' → Ev (fun n => k n aA h') P) : Ev (fun m => bnd (aC 1 (.p b o) v h) (k m)) P := by
 subst e
 exact Ev.op (aCq rfl (S.memQ r.at.1) h1 hv) (H _ (S.setQ r rfl (fun c => Tr.get_set _ _ _ _)))
theorem Ev.bs (S : Sy I A Q L h) {z : List DV} {ps : List (Nat × Nat × DV)} (e : cO z ps = some cs) (H : ∀ b h', Sy I A Q ((b, some (.row .ex cs)) :: L) h' → Ev (fun m => k m (.l b 0 n n) h') P) : Ev (fun m => bnd (aO z n ps h) (k m)) P := by
 refine Ev.op (v := .l h.next 0 n n) (h := nw (.row .ex cs) h) ?_ (H _ _ (S.new _))
 unfold aO
 rw [e]
 rfl
theorem Ev.bsAt (S : Sy I A Q L h) {z : List DV} {ps : List (Nat × Nat × DV)} (r : Rpl b none (some (.row .ex cs)) L L') (e : cO z ps = some cs)
 (H : ∀ h', Sy I A Q L' h' → Ev (fun m => k m (.l b 0 n n) h') P) : Ev (fun m => bnd (aZ b z n ps h) (k m)) P := by
 refine Ev.op (v := .l b 0 n n) (h := ⟨h.next, Tr.set (.row .ex cs) b h.bl⟩) ?_ (H _ (S.setL r rfl (fun c => Tr.get_set _ _ _ _)))
 unfold aZ
 rw [e]
theorem Ev.bld {z : List DV} {ps : List (Nat × Nat × DV)} (e : cO z ps = some cs) (H : Ev (fun n => k n (.a cs) h) P) : Ev (fun n => bnd (bB z ps h) (k n)) P := by
 refine Ev.op (v := .a cs) (h := h) ?_ H
 unfold bB
 rw [e]
theorem bVd {S : Sy I A Q L h} (m : (b, some (.row kd l)) ∈ L) (e : l[o]? = some v) (hv : v.one = true) (hb : DV.beq v v = true) : bP (aD (.p b o) h) v = true := by
 rw [ld1 (S.memL m) e hv]; exact hb
end
end Go.Dd

namespace Go.Dd
open Go.Proofs Go.RowKit
end Go.Dd

namespace Go.Dd
open Go.Proofs
def bL : Nat := 100000000000
structure Tok where
 kind : Int
 text : List Nat
 num : Int
 pos : Int
def tc (t : Tok) : List DV := [.i .i64 t.kind, .s t.text, .i .i64 t.num, .i .i64 t.pos]
inductive Node where
 | mk (kind : Int) (text : List Nat) (num : Int) (names temps : List (List Nat)) (kids : List Node)
def Fz (I : Im) (sz : Nat) (s : DV) (len : Nat) (cells : List DV) : Prop :=
 ((s = .l0 ∨ s = .le) ∧ len = 0 ∧ cells = []) ∨
   ∃ (b : Pos) (o cap : Nat) (k : Kind) (row rest : List DV), s = .l b o len cap ∧ len ≤ cap ∧ I b = some (.row k row) ∧ row.drop o = cells ++ rest ∧ cells.length = len * sz ∧ ∀ v ∈ cells, v.one = true
theorem Fz.mono {I J : Im} (g : ILe I J) {sz : Nat} {s : DV} {len : Nat} {cells : List DV} (H : Fz I sz s len cells) : Fz J sz s len cells := by
 rcases H with H | ⟨b, o, cap, k, row, rest, h1, h2, h3, h4⟩
 ·exact .inl H
 ·exact .inr ⟨b, o, cap, k, row, rest, h1, h2, g _ _ h3, h4⟩
theorem Fz.one {I : Im} {sz : Nat} {s : DV} {len : Nat} {cells : List DV} (H : Fz I sz s len cells) : s.one = true := by
 rcases H with ⟨rfl | rfl, _⟩ | ⟨b, o, cap, k, row, rest, rfl, _⟩ <;> rfl
theorem Fz.beq {I : Im} {sz : Nat} {s : DV} {len : Nat} {cells : List DV} (H : Fz I sz s len cells) : DV.beq s s = true := by
 rcases H with ⟨rfl | rfl, _⟩ | ⟨b, o, cap, k, row, rest, rfl, _⟩
 ·rfl
 ·rfl
 ·simp [DV.beq]
theorem Fz.len {I : Im} {sz : Nat} {s : DV} {len : Nat} {cells : List DV} (H : Fz I sz s len cells) (h : Hp) : dB s h = some (.i .i64 (len : Int), h) := by
 rcases H with ⟨rfl | rfl, rfl, _⟩ | ⟨b, o, cap, k, row, rest, rfl, _⟩ <;> rfl
theorem Fz.at {I : Im} {sz : Nat} {s : DV} {len : Nat} {cells : List DV} (H : Fz I sz s len cells) {A Q L : Ls} {h : Hp} (S : Sy I A Q L h) {i : Nat} (hi : i < len) :
 ∃ b o, (∀ h', aP sz s (.i .i64 (i : Int)) h' = some (.p b o, h')) ∧ ∃ k row, h.bl.get b = some (.row k row) ∧ ∃ rest, row.drop o = cells.drop (i * sz) ++ rest := by
 rcases H with ⟨_, rfl, _⟩ | ⟨b, o, cap, k, row, rest, rfl, h2, h3, h4, h5, h6⟩
 ·omega
 ·refine ⟨b, o + i * sz, fun h' => ?_, k, row, S.im _ _ h3, rest, ?_⟩
  ·show (if 0 ≤ (i : Int) ∧ (i : Int) < (len : Int) then some (DV.p b (o + (i : Int).toNat * sz), h') else none) = _
   rw [if_pos ⟨by omega, by omega⟩]
   rfl
  ·have : i * sz ≤ cells.length := by rw [h5]; exact Nat.mul_le_mul_right _ (by omega)
   rw [← List.drop_drop, h4, List.drop_append_of_le_length this]
theorem Fz.tail {I : Im} {sz : Nat} {s : DV} {len : Nat} {cells : List DV} (H : Fz I sz s len cells) {A Q L : Ls} {h : Hp} (S : Sy I A Q L h) {i : Nat} (hi : i < len) :
 ∃ s', cK sz s (some (.i .i64 (Int.ofNat i))) none h = some (s', h) ∧ Fz I sz s' (len - i) (cells.drop (i * sz)) := by
 rcases H with ⟨_, rfl, _⟩ | ⟨b, o, cap, k, row, rest, rfl, h2, h3, h4, h5, h6⟩
 ·omega
 ·have hle : i * sz ≤ cells.length := by rw [h5]; exact Nat.mul_le_mul_right _ (by omega)
  have hd : row.drop (o + i * sz) = cells.drop (i * sz) ++ rest := by
   rw [← List.drop_drop, h4, List.drop_append_of_le_length hle]
  refine ⟨.l b (o + i * sz) (len - i) (cap - i), ?_, .inr ⟨b, o + i * sz, cap - i, k, row, rest, rfl, by omega, h3, hd, ?_, fun v hv => h6 v (List.mem_of_mem_drop hv)⟩⟩
  ·have e1 : hiD none len cap = some len := by simp [hiD, h2]
   have e2 : loD (some (.i .i64 (Int.ofNat i))) len = some i := by
    show (if 0 ≤ (Int.ofNat i) ∧ (Int.ofNat i) ≤ (len : Int) then some (Int.ofNat i).toNat else none) = _
    have hi' : (Int.ofNat i) = (i : Int) := rfl
    rw [if_pos ⟨by omega, by omega⟩]
    rfl
   have hne : ¬ cap = i := by omega
   unfold cK
   simp only [e1, e2, S.im _ _ h3]
   cases k <;> simp [hne]
  ·rw [List.length_drop, h5, Nat.sub_mul]
def Gr (I : Im) (sz : Nat) (A : Ls) (s : DV) (len : Nat) (cells : List DV) : Prop :=
 cells.length = len * sz ∧ (∀ v ∈ cells, v.one = true) ∧
  ((A = [] ∧ s = .l0 ∧ len = 0) ∨ (A = [] ∧ ∃ b, s = .l b 0 len len ∧ I b = some (.row .ex cells)) ∨ ∃ b, A = [(b, some (.row (.gr sz) cells))] ∧ s = .l b 0 len len)
theorem Gr.nil (I : Im) (sz : Nat) : Gr I sz [] .l0 0 [] := ⟨by simp, by simp, .inl ⟨rfl, rfl, rfl⟩⟩
theorem Gr.one {I : Im} {sz : Nat} {A : Ls} {s : DV} {len : Nat} {cells : List DV} (H : Gr I sz A s len cells) : s.one = true := by
 obtain ⟨_, _, ⟨_, rfl, _⟩ | ⟨_, b, rfl, _⟩ | ⟨b, _, rfl⟩⟩ := H <;> rfl
theorem Gr.beq {I : Im} {sz : Nat} {A : Ls} {s : DV} {len : Nat} {cells : List DV} (H : Gr I sz A s len cells) : DV.beq s s = true := by
 obtain ⟨_, _, ⟨_, rfl, _⟩ | ⟨_, b, rfl, _⟩ | ⟨b, _, rfl⟩⟩ := H
 ·rfl
 ·simp [DV.beq]
 ·simp [DV.beq]
theorem Gr.len {I : Im} {sz : Nat} {A : Ls} {s : DV} {len : Nat} {cells : List DV} (H : Gr I sz A s len cells) (h : Hp) : dB s h = some (.i .i64 (len : Int), h) := by
 obtain ⟨_, _, ⟨_, rfl, rfl⟩ | ⟨_, b, rfl, _⟩ | ⟨b, _, rfl⟩⟩ := H <;> rfl
theorem Gr.mono {I J : Im} (g : ILe I J) {sz : Nat} {A : Ls} {s : DV} {len : Nat} {cells : List DV} (H : Gr I sz A s len cells) : Gr J sz A s len cells := by
 obtain ⟨h1, h2, h3 | ⟨h3, b, h4, h5⟩ | h3⟩ := H
 ·exact ⟨h1, h2, .inl h3⟩
 ·exact ⟨h1, h2, .inr (.inl ⟨h3, b, h4, g _ _ h5⟩)⟩
 ·exact ⟨h1, h2, .inr (.inr h3)⟩
theorem gC (x rest : List DV) (n : Nat) (hn : x.length = n) (ho : ∀ v ∈ x, v.one = true) : iW n (x ++ rest) = some x := by
 subst hn
 induction x with
 | nil => simp [iW]
 | cons y x ih => simp [iW, ho y (by simp), ih (fun v hv => ho v (by simp [hv]))]
theorem Gr.app {I : Im} {sz bytes : Nat} {A A0 Q L : Ls} {s : DV} {len : Nat} {cells : List DV} (H : Gr I sz A s len cells) {h : Hp} (S : Sy I (A ++ A0) Q L h) {x : DV} {n : Nat} {new : List DV} (hs : nY sz x h = some (n, new))
 (h1 : new.length = n * sz) (h2 : ∀ v ∈ new, v.one = true) (hn : n ≠ 0) (hb : (len + n) * bytes ≤ eM) :
 ∃ s' h' A', aX sz bytes s x h = some (s', h') ∧ Sy I (A' ++ A0) Q L h' ∧ Gr I sz A' s' (len + n) (cells ++ new) := by
 obtain ⟨g1, g2, g3⟩ := H
 have l' : (cells ++ new).length = (len + n) * sz := by rw [List.length_append, g1, h1, Nat.add_mul]
 have o' : ∀ v ∈ cells ++ new, v.one = true := fun v hv => by
  rcases List.mem_append.1 hv with hv | hv
  ·exact g2 v hv
  ·exact h2 v hv
 have mv : ∀ {e : Pos × Option Ob} {h' : Hp}, Sy I A0 Q (e :: L) h' → Sy I ([e] ++ A0) Q L h' := @fun e h' S => aLm (by
  have : List.Perm (A0 ++ Q ++ e :: L) (e :: (A0 ++ Q ++ L)) := List.perm_middle
  simpa using this) S
 rcases g3 with ⟨rfl, rfl, rfl⟩ | ⟨rfl, b, rfl, hI⟩ | ⟨b, rfl, rfl⟩
 ·have hc : cells = [] := by simpa using g1
  subst hc
  refine ⟨.l h.next 0 n n, nw (.row (.gr sz) new) h, [(h.next, some (.row (.gr sz) new))], ?_, mv (Sy.new (by simpa using S) _), ?_⟩
  ·unfold aX
   simp only [hs, if_neg hn]
   rw [Nat.zero_add] at hb
   rw [if_pos hb]
   rfl
  ·simp only [Nat.zero_add, List.nil_append]
   exact ⟨by simpa using l', by simpa using o', .inr (.inr ⟨_, rfl, rfl⟩)⟩
 ·have hg := S.im _ _ hI
  have hc : dL b 0 (len * sz) h = some cells := by
   simp only [dL, lT, hg, List.drop_zero]
   have := gC cells [] (len * sz) g1 g2
   simpa using this
  refine ⟨.l h.next 0 (len + n) (len + n), nw (.row (.gr sz) (cells ++ new)) h, [(h.next, some (.row (.gr sz) (cells ++ new)))], ?_, mv (Sy.new (by simpa using S) _), l', o', .inr (.inr ⟨_, rfl, rfl⟩)⟩
  unfold aX
  simp only [hs]
  rw [if_neg (by omega)]
  simp only [hg, hc]
  rw [if_pos hb]
  rfl
 ·have hg := S.memA (b := b) (o := .row (.gr sz) cells) (by simp)
  have hc : dL b 0 (len * sz) h = some cells := by
   simp only [dL, lT, hg, List.drop_zero]
   have := gC cells [] (len * sz) g1 g2
   simpa using this
  let h1 : Hp := ⟨h.next, Tr.set (.row .sp (bX 0 cells)) b h.bl⟩
  have S1 : Sy I ((b, some (.row .sp (bX 0 cells))) :: A0) Q L h1 := S.setA (Rpl.head A0) rfl (fun c => Tr.get_set _ _ _ _)
  have S2 := S1.new (.row (.gr sz) (cells ++ new))
  have S3 : Sy I ([(h.next, some (.row (.gr sz) (cells ++ new)))] ++ A0) Q L (nw (.row (.gr sz) (cells ++ new)) h1) := by
   have S4 : Sy I A0 Q ((h1.next, some (.row (.gr sz) (cells ++ new))) :: L) (nw (.row (.gr sz) (cells ++ new)) h1) :=
    cUg (by simp) S2
   exact mv S4
  refine ⟨.l h.next 0 (len + n) (len + n), _, _, ?_, S3, l', o', .inr (.inr ⟨_, rfl, rfl⟩)⟩
  unfold aX
  simp only [hs]
  rw [if_neg (by omega)]
  simp only [hg, hc]
  rw [if_pos hb]
  have e3 : 0 + len * sz = cells.length := by rw [g1]; omega
  simp only [e3, and_self, if_true]
  rfl
theorem Gr.freeze {I : Im} {sz : Nat} {A A0 Q L : Ls} {s : DV} {len : Nat} {cells : List DV} (H : Gr I sz A s len cells) {h : Hp} (S : Sy I (A ++ A0) Q L h) : ∃ J, ILe I J ∧ Sy J A0 Q L h ∧ Fz J sz s len cells := by
 obtain ⟨g1, g2, g3⟩ := H
 rcases g3 with ⟨rfl, rfl, rfl⟩ | ⟨rfl, b, rfl, hI⟩ | ⟨b, rfl, rfl⟩
 ·have hc : cells = [] := by simpa using g1
  exact ⟨I, ILe.refl _, by simpa using S, .inl ⟨.inl rfl, rfl, hc⟩⟩
 ·exact ⟨I, ILe.refl _, by simpa using S, .inr ⟨b, 0, len, .ex, cells, [], rfl, Nat.le_refl _, hI, by simp, g1, g2⟩⟩
 ·have S1 : Sy I A0 Q ((b, some (.row (.gr sz) cells)) :: L) h := aLm (by
   have : List.Perm (A0 ++ Q ++ (b, some (Ob.row (.gr sz) cells)) :: L) ((b, some (Ob.row (.gr sz) cells)) :: (A0 ++ Q ++ L)) := List.perm_middle
   simpa using this.symm) S
  obtain ⟨S2, g⟩ := S1.freeze
  exact ⟨_, g, S2, .inr ⟨b, 0, len, .gr sz, cells, [], rfl, Nat.le_refl _, Im.put_same _ _ _, by simp, g1, g2⟩⟩
theorem Fz.built {I : Im} {sz : Nat} {A Q L : Ls} {b : Pos} {n : Nat} {cells : List DV} {h : Hp} (S : Sy I A Q ((b, some (.row .ex cells)) :: L) h) (h1 : cells.length = n * sz) (h2 : ∀ v ∈ cells, v.one = true) :
 ∃ J, ILe I J ∧ Sy J A Q L h ∧ Fz J sz (.l b 0 n n) n cells ∧ Gr J sz [] (.l b 0 n n) n cells := by
 obtain ⟨S2, g⟩ := S.freeze
 exact ⟨_, g, S2, .inr ⟨b, 0, n, .ex, cells, [], rfl, Nat.le_refl _, Im.put_same _ _ _, by simp, h1, h2⟩, h1, h2, .inr (.inl ⟨rfl, b, rfl, Im.put_same _ _ _⟩)⟩
theorem Fz.src {I : Im} {sz : Nat} {s : DV} {len : Nat} {cells : List DV} (H : Fz I sz s len cells) {A Q L : Ls} {h : Hp} (S : Sy I A Q L h) : nY sz s h = some (len, cells) := by
 rcases H with ⟨rfl | rfl, rfl, rfl⟩ | ⟨b, o, cap, k, row, rest, rfl, h2, h3, h4, h5, h6⟩
 ·rfl
 ·rfl
 ·have : dL b o (len * sz) h = some cells := by
   simp only [dL, lT, S.im _ _ h3, h4]
   exact gC cells rest (len * sz) h5 h6
  simp [nY, this]
theorem nB {I : Im} {sz : Nat} {A Q L : Ls} {h : Hp} (S : Sy I A Q L h) {b : Pos} {n : Nat} {cells : List DV} (m : (b, some (.row .ex cells)) ∈ L) (h1 : cells.length = n * sz) (h2 : ∀ v ∈ cells, v.one = true) : nY sz (.l b 0 n n) h = some (n, cells) := by
 have : dL b 0 (n * sz) h = some cells := by
  simp only [dL, lT, S.memL m, List.drop_zero]
  have := gC cells [] (n * sz) h1 h2
  simpa using this
 simp [nY, this]
def SS (I : Im) (s : DV) (l : List (List Nat)) : Prop := l.length ≤ bL ∧ Fz I 1 s l.length (l.map .s)
def TS' (I : Im) (s : DV) (l : List Tok) : Prop := l.length ≤ bL ∧ Fz I 4 s l.length (l.map tc).flatten
mutual
def NV (I : Im) : Node → List DV → Prop
 | .mk k t m ns ts ks, cs => ∃ s1 s2 s3, cs = [.i .i64 k, .s t, .i .i64 m, s1, s2, s3] ∧ SS I s1 ns ∧ SS I s2 ts ∧ ks.length ≤ bL ∧ ∃ cells, Fz I 6 s3 ks.length cells ∧ NVL I ks cells
def NVL (I : Im) : List Node → List DV → Prop
 | [], cells => cells = []
 | x :: l, cells => ∃ c rest, cells = c ++ rest ∧ NV I x c ∧ NVL I l rest
end
def NS (I : Im) (s : DV) (ks : List Node) : Prop := ks.length ≤ bL ∧ ∃ cells, Fz I 6 s ks.length cells ∧ NVL I ks cells
theorem SS.mono {I J : Im} (g : ILe I J) {s : DV} {l : List (List Nat)} (H : SS I s l) : SS J s l := ⟨H.1, H.2.mono g⟩
theorem TS'.mono {I J : Im} (g : ILe I J) {s : DV} {l : List Tok} (H : TS' I s l) : TS' J s l := ⟨H.1, H.2.mono g⟩
mutual
theorem NV.mono {I J : Im} (g : ILe I J) : ∀ {x : Node} {cs : List DV}, NV I x cs → NV J x cs
 | .mk k t m ns ts ks, cs, ⟨s1, s2, s3, e, a, b, c, cells, f, n⟩ => ⟨s1, s2, s3, e, a.mono g, b.mono g, c, cells, f.mono g, NVL.mono g n⟩
theorem NVL.mono {I J : Im} (g : ILe I J) : ∀ {l : List Node} {cells : List DV}, NVL I l cells → NVL J l cells
 | [], _, e => e
 | x :: l, _, ⟨c, rest, e, a, b⟩ => ⟨c, rest, e, NV.mono g a, NVL.mono g b⟩
end
theorem NS.mono {I J : Im} (g : ILe I J) {s : DV} {l : List Node} (H : NS I s l) : NS J s l := by
 obtain ⟨a, cells, b, c⟩ := H
 exact ⟨a, cells, b.mono g, c.mono g⟩
theorem NV.shape {I : Im} {x : Node} {cs : List DV} (H : NV I x cs) : cs.length = 6 ∧ (∀ v ∈ cs, v.one = true) ∧ DV.beq (.a cs) (.a cs) = true := by
 cases x with
 | mk k t m ns ts ks =>
  obtain ⟨s1, s2, s3, rfl, a, b, c, cells, f, n⟩ := H
  have o1 := a.2.one
  have o2 := b.2.one
  have o3 := f.one
  refine ⟨rfl, ?_, ?_⟩
  ·intro v hv
   simp only [List.mem_cons, List.not_mem_nil, or_false] at hv
   rcases hv with rfl | rfl | rfl | rfl | rfl | rfl
   ·rfl
   ·rfl
   ·rfl
   ·exact o1
   ·exact o2
   ·exact o3
  ·have e : vZ t t = true := by rw [jX]
   simp [DV.beq, DV.beqs, e, a.2.beq, b.2.beq, f.beq]
theorem NVL.shape {I : Im} : ∀ {l : List Node} {cells : List DV}, NVL I l cells → cells.length = l.length * 6 ∧ ∀ v ∈ cells, v.one = true
 | [], _, e => by
  have e : _ = [] := e
  subst e; simp
 | x :: l, _, ⟨c, rest, e, a, b⟩ => by
  obtain ⟨h1, h2⟩ := NVL.shape b
  obtain ⟨h3, h4, _⟩ := a.shape
  subst e
  refine ⟨by rw [List.length_append, h1, h3, List.length_cons]; omega, fun v hv => ?_⟩
  rcases List.mem_append.1 hv with hv | hv
  ·exact h4 v hv
  ·exact h2 v hv
theorem NVL.app {I : Im} : ∀ {l l' : List Node} {c c' : List DV}, NVL I l c → NVL I l' c' → NVL I (l ++ l') (c ++ c')
 | [], l', c, c', e, H => by
  have e : c = [] := e
  subst e; simpa using H
 | x :: l, l', _, c', ⟨c, rest, e, a, b⟩, H => by
  subst e
  exact ⟨c, rest ++ c', by simp, a, NVL.app b H⟩
theorem NVL.single {I : Im} {x : Node} {c : List DV} (H : NV I x c) : NVL I [x] c := ⟨c, [], by simp, H, rfl⟩
theorem NVL.drop {I : Im} : ∀ {l : List Node} {c : List DV} (i : Nat), NVL I l c → NVL I (l.drop i) (c.drop (i * 6))
 | l, c, 0, H => by simpa using H
 | [], c, i + 1, e => by
  have e : c = [] := e
  subst e; simp; rfl
 | x :: l, _, i + 1, ⟨c, rest, e, a, b⟩ => by
  subst e
  have := NVL.drop i b
  rw [List.drop_succ_cons, show (i + 1) * 6 = c.length + i * 6 by rw [a.shape.1]; omega, ← List.drop_drop, List.drop_left]
  exact this
theorem aEs : ∀ (l : List Tok) (i : Nat), (l.map tc).flatten.drop (i * 4) = ((l.drop i).map tc).flatten
 | l, 0 => by simp
 | [], i + 1 => by simp
 | t :: l, i + 1 => by
  have := aEs l i
  rw [List.map_cons, List.flatten_cons, List.drop_succ_cons, show (i + 1) * 4 = (tc t).length + i * 4 by simp [tc]; omega, ← List.drop_drop, List.drop_left]
  exact this
theorem TS'.tail {I : Im} {s : DV} {l : List Tok} (H : TS' I s l) {A Q L : Ls} {h : Hp} (S : Sy I A Q L h) {i : Nat} (hi : i < l.length) :
 ∃ s', cK 4 s (some (.i .i64 (Int.ofNat i))) none h = some (s', h) ∧ TS' I s' (l.drop i) := by
 obtain ⟨s', e, f⟩ := H.2.tail S hi
 refine ⟨s', e, ?_, ?_⟩
 ·have := H.1
  simp; omega
 ·rw [aEs] at f
  simpa using f
theorem TS'.at {I : Im} {s : DV} {l : List Tok} (H : TS' I s l) {A Q L : Ls} {h : Hp} (S : Sy I A Q L h) {i : Nat} {t : Tok} (hi : l[i]? = some t) :
 ∃ b o, (∀ h', aP 4 s (.i .i64 (i : Int)) h' = some (.p b o, h')) ∧ aE 4 (.p b o) h = some (.a (tc t), h) := by
 obtain ⟨hlt, hg⟩ := List.getElem?_eq_some_iff.1 hi
 obtain ⟨b, o, e, k, row, g, rest, d⟩ := H.2.at S hlt
 refine ⟨b, o, e, ldA g ?_⟩
 rw [d, aEs, jY hi, List.map_cons, List.flatten_cons, List.append_assoc]
 refine gC (tc t) _ 4 rfl ?_
 intro v hv
 simp only [tc, List.mem_cons, List.not_mem_nil, or_false] at hv
 rcases hv with rfl | rfl | rfl | rfl <;> rfl
end Go.Dd

namespace Go.Dd
open Go.Proofs
section
variable {I : Im} {A Q L : Ls} {h : Hp} {k : Nat → DV → Hp → aH} {P : DV → Hp → Prop} {b : Pos} {o i : Nat} {v : DV}
theorem Ev.fld (H : Ev (fun n => k n (.p b (o + i)) h) P) : Ev (fun n => bnd (aB i (.p b o) h) (k n)) P := H
theorem Ev.neg {q : IntKind} {x : Int} (H : Ev (fun n => k n (.i q (q.wrap (0 - x))) h) P) : Ev (fun n => bnd (jZ .neg (.i q x) h) (k n)) P := H
theorem Ev.part {cs : List DV} (e : cs[i]? = some v) (H : Ev (fun n => k n v h) P) : Ev (fun n => bnd (cB i (.a cs) h) (k n)) P := by
 refine Ev.op (v := v) (h := h) ?_ H
 simp [cB, e]
theorem Ev.extr {cs : List DV} (e : cs[i]? = some v) (H : Ev (fun n => k n v h) P) : Ev (fun n => bnd (aK i (.t cs) h) (k n)) P := by
 refine Ev.op (v := v) (h := h) ?_ H
 simp [aK, e]
end
theorem aW : ∀ v ∈ ([] : List DV), v.one = true := fun v hv => by simp at hv
theorem aS {v : DV} {l : List DV} (h : v.one = true) (t : ∀ w ∈ l, w.one = true) : ∀ w ∈ v :: l, w.one = true := fun w hw => by
 rcases List.mem_cons.1 hw with rfl | hw
 ·exact h
 ·exact t w hw
theorem bS (t : Tok) : ∀ v ∈ tc t, v.one = true := aS rfl (aS rfl (aS rfl (aS rfl aW)))
theorem bGa {cells : List DV} {off : Nat} {v : DV} {rest : List (Nat × Nat × DV)} (hv : v.one = true) (ho : off + 1 ≤ cells.length) : cO cells ((off, 1, v) :: rest) = cO (cells.set off v) rest := by
 have e : cells.take off ++ [v] ++ cells.drop (off + 1) = cells.set off v := by
  rw [List.set_eq_take_append_cons_drop, if_pos (by omega)]
  simp
 show (match cJ v with
  | some cs => if cs.length = 1 ∧ off + 1 ≤ cells.length then cO (cells.take off ++ cs ++ cells.drop (off + 1)) rest else none
  | none => none) = _
 rw [aBu hv]
 show (if [v].length = 1 ∧ off + 1 ≤ cells.length then cO (cells.take off ++ [v] ++ cells.drop (off + 1)) rest else none) = _
 rw [if_pos ⟨rfl, ho⟩, e]
section
variable {I : Im} {A Q L L' Q' : Ls} {h : Hp} {k : Nat → DV → Hp → aH} {F G : Nat → aH} {P : DV → Hp → Prop} {b : Pos} {kd : Kind} {l l' cs : List DV} {o n i : Nat} {v x y : DV}
theorem dp (S : Sy I A Q L h := by first | assumption | exact Sy.dropL (by assumption) | exact Sy.dropL (Sy.dropL (by assumption)) | exact Sy.dropL (Sy.dropL (Sy.dropL (by assumption))) | exact Sy.dropL (Sy.dropL (Sy.dropL (Sy.dropL (by assumption)))) | exact Sy.dropL (Sy.dropL (Sy.dropL (Sy.dropL (Sy.dropL (by assumption))))) | exact Sy.dropL (Sy.dropL (Sy.dropL (Sy.dropL (Sy.dropL (Sy.dropL (by assumption)))))) | exact Sy.dropL (Sy.dropL (Sy.dropL (Sy.dropL (Sy.dropL (Sy.dropL (Sy.dropL (by assumption)))))))) : Sy I A Q L h := S
theorem wf (H : Ev (fun n => k n (.p b (o + i)) h) P) : Ev (fun n => bnd (aB i (.p b o) h) (k n)) P := H
theorem wn (H : Ev (fun n => k n (.p b o) h) P) : Ev (fun n => bnd (bM (.p b o) h) (k n)) P := H
theorem wm (H : Ev (fun n => k n v h) P) : Ev (fun n => bnd (some (v, h)) (k n)) P := H
theorem wl (H : Ev (fun n => k n v h) P) (S : Sy I A Q L h := by assumption) (m : (b, some (.row kd l)) ∈ L := by repeat (first | exact List.Mem.head _ | apply List.Mem.tail)) (e : l[o]? = some v := by rfl) (hv : v.one = true := by first | rfl | assumption | exact Fz.one (by assumption)) : Ev (fun n => bnd (aD (.p b o) h) (k n)) P := Ev.ldL S m e hv H
theorem wq (H : Ev (fun n => k n v h) P) (S : Sy I A Q L h := by assumption) (m : (b, some (.row kd l)) ∈ Q := by repeat (first | exact List.Mem.head _ | apply List.Mem.tail)) (e : l[o]? = some v := by rfl) (hv : v.one = true := by first | rfl | assumption | exact Fz.one (by assumption)) : Ev (fun n => bnd (aD (.p b o) h) (k n)) P := Ev.ldQ S m e hv H
theorem ws (H : Ev (fun n => k n (.a l) h) P) (S : Sy I A Q L h := by assumption) (m : (b, some (.row kd l)) ∈ L := by repeat (first | exact List.Mem.head _ | apply List.Mem.tail)) (h1 : l.length = n := by first | rfl | assumption) (h2 : ∀ v ∈ l, v.one = true := by first | assumption | exact bS _ | (repeat (first | exact aW | refine aS (by first | rfl | assumption | exact Fz.one (by assumption)) ?_))) : Ev (fun m => bnd (aE n (.p b 0) h) (k m)) P := Ev.ldsL S m h1 h2 H
theorem wa (H : ∀ b h', Sy I A Q ((b, some (.row .ex cs)) :: L) h' → Ev (fun n => k n (.p b 0) h') P) (S : Sy I A Q L h := by assumption) : Ev (fun n => bnd (bG cs h) (k n)) P := Ev.new S H
theorem wt (H : ∀ h', Sy I A Q L' h' → Ev (fun n => k n aA h') P) (S : Sy I A Q L h := by assumption) (r : Rpl b (some (.row .ex l)) (some (.row .ex l')) L L' := by repeat (first | exact Rpl.head _ | apply Rpl.tail)) (h1 : l.length = n := by first | rfl | assumption) (h2 : ∀ v ∈ l, v.one = true := by first | assumption | exact bS _ | (repeat (first | exact aW | refine aS (by first | rfl | assumption | exact Fz.one (by assumption)) ?_))) (h3 : l'.length = n := by first | rfl | assumption) (h4 : ∀ v ∈ l', v.one = true := by first | assumption | exact bS _ | (repeat (first | exact aW | refine aS (by first | rfl | assumption | exact Fz.one (by assumption)) ?_))) : Ev (fun m => bnd (aC n (.p b 0) (.a l') h) (k m)) P := Ev.stsL S r h1 h2 h3 h4 H
theorem wu (H : ∀ h', Sy I A Q L' h' → Ev (fun n => k n aA h') P) (S : Sy I A Q L h := by assumption) (r : Rpl b (some (.row .ex l)) (some (.row .ex l')) L L' := by repeat (first | exact Rpl.head _ | apply Rpl.tail)) (e : l.set o v = l' := by rfl) (h1 : ∃ x, l[o]? = some x ∧ x.one = true := by exact ⟨_, rfl, by first | rfl | assumption | exact Fz.one (by assumption)⟩) (hv : v.one = true := by first | rfl | assumption | exact Fz.one (by assumption)) : Ev (fun m => bnd (aC 1 (.p b o) v h) (k m)) P := Ev.stL S r e h1 hv H
theorem wv (H : ∀ h', Sy I A Q' L h' → Ev (fun n => k n aA h') P) (S : Sy I A Q L h := by assumption) (r : Rpl b (some (.row .ex l)) (some (.row .ex l')) Q Q' := by repeat (first | exact Rpl.head _ | apply Rpl.tail)) (e : l.set o v = l' := by rfl) (h1 : ∃ x, l[o]? = some x ∧ x.one = true := by exact ⟨_, rfl, by first | rfl | assumption | exact Fz.one (by assumption)⟩) (hv : v.one = true := by first | rfl | assumption | exact Fz.one (by assumption)) : Ev (fun m => bnd (aC 1 (.p b o) v h) (k m)) P := Ev.stQ S r e h1 hv H
theorem wb (H : ∀ b h', Sy I A Q ((b, some (.row .ex cs)) :: L) h' → Ev (fun n => k n (.p b 0) h') P) (S : Sy I A Q L h := by assumption) (e : cJ v = some cs := by rfl) : Ev (fun n => bnd (dW v h) (k n)) P := Ev.box S e H
theorem zt (H : Ev (fun n => bnd (F n) (k n)) P) : Ev (fun n => bnd (gD (.b true) true (F n) h) (k n)) P := H
theorem zf (H : Ev (fun n => bnd (F n) (k n)) P) : Ev (fun n => bnd (gD (.b false) false (F n) h) (k n)) P := H
theorem yf (H : Ev (fun n => k n aA h) P) : Ev (fun n => bnd (gD (.b false) true (F n) h) (k n)) P := H
theorem yg (H : Ev (fun n => k n aA h) P) : Ev (fun n => bnd (gD (.b true) false (F n) h) (k n)) P := H
theorem yu {c : Bool} (H : Ev (fun n => k n aA h) P) : Ev (fun n => bnd (gD aA c (F n) h) (k n)) P := H
theorem yt (H : Ev F P) : Ev (fun n => aU (.b true) (F n) (G n)) P := H
theorem yj (H : Ev G P) : Ev (fun n => aU (.b false) (F n) (G n)) P := H
theorem ap (H : Ev (fun n => k n x h) P) : Ev (fun n => bnd (aV (.b true) x y h) (k n)) P := H
theorem aq (H : Ev (fun n => k n y h) P) : Ev (fun n => bnd (aV (.b false) x y h) (k n)) P := H
theorem an (H : Ev (fun n => k n (.b false) h) P) : Ev (fun n => bnd (jZ .not (.b true) h) (k n)) P := H
theorem ao (H : Ev (fun n => k n (.b true) h) P) : Ev (fun n => bnd (jZ .not (.b false) h) (k n)) P := H
theorem wp (H : Ev (fun n => k n v h) P) (e : cs[i]? = some v := by rfl) : Ev (fun n => bnd (cB i (.a cs) h) (k n)) P := Ev.part e H
theorem wx (H : Ev (fun n => k n v h) P) (e : cs[i]? = some v := by rfl) : Ev (fun n => bnd (aK i (.t cs) h) (k n)) P := Ev.extr e H
end
theorem wd {k : Nat → DV → Hp → aH} {P : DV → Hp → Prop} {h : Hp} {cs : List DV} {z : List DV} {ps : List (Nat × Nat × DV)} (H : Ev (fun n => k n (.a cs) h) P) (e : cO z ps = some cs := by first | rfl | ((repeat (rw [bGa (by first | rfl | assumption | exact Fz.one (by assumption)) (by simp)])); rfl)) : Ev (fun n => bnd (bB z ps h) (k n)) P := Ev.bld e H
structure PSt where
 toks : List Tok
 deep : Int
 pos : Int
 err : Int
def uR (x : Int) : Int := IntKind.i64.wrap x
def bH (st : PSt) (k : Nat) : Option Tok := st.toks[min k (st.toks.length - 1)]?
def bW (st : PSt) (t : Tok) (e : Int) : PSt := if st.err = 0 then { st with pos := t.pos, err := e } else st
def cI (st : PSt) : Option (Tok × PSt) :=
 (bH st 0).bind fun t => if t.kind = 0 then some (t, st) else if 2 ≤ st.toks.length then some (t, { st with toks := st.toks.drop 1 }) else none
def dT (st : PSt) (kind : Int) (text : List Nat) : Option Bool :=
 (bH st 0).bind fun t => some (decide (st.err = 0) && decide (t.kind = kind) && (decide (text = []) || decide (t.text = text)))
def z4 : Tok := ⟨0, [], 0, 0⟩
def gF (st : PSt) (kind : Int) (text : List Nat) : Option (Tok × PSt) :=
 (dT st kind text).bind fun c => if c then cI st else (bH st 0).bind fun t => some (z4, bW st t 13)
def vC (st : PSt) (kind : Int) (len : Nat) : Option (List Nat × PSt) :=
 (gF st kind []).bind fun r => some (r.1.text, if len = 4 then bW r.2 r.1 18 else r.2)
def bFg (st : PSt) : Option Bool :=
 (bH st 1).bind fun t => (dT st 3 [45]).bind fun c => (bH st 0).bind fun u => some (c && decide (t.kind = 4) && decide (t.pos = uR (u.pos + 1)))
def PS (p : Pos) (s : DV) (st : PSt) : Pos × Option Ob := (p, some (.row .ex [s, .i .i64 st.deep, .i .i64 st.pos, .i .i64 st.err]))
theorem bLz {st : PSt} {k : Nat} {t : Tok} (h : bH st k = some t) : 1 ≤ st.toks.length := by
 unfold bH at h
 have := (List.getElem?_eq_some_iff.1 h).1
 omega
theorem cEf (n : Nat) (x y : DV) (h : Hp) : aJ (n + 1) 81 [x, y] h = s81 (aJ n) n x y h := by kernel_rfl
theorem cMf (n : Nat) (x y z : DV) (h : Hp) : aJ (n + 1) 77 [x, y, z] h = s77 (aJ n) n x y z h := by kernel_rfl
theorem cKb (n : Nat) (x : DV) (h : Hp) : aJ (n + 1) 78 [x] h = s78 (aJ n) n x h := by kernel_rfl
theorem cFw (n : Nat) (x y z : DV) (h : Hp) : aJ (n + 1) 80 [x, y, z] h = s80 (aJ n) n x y z h := by kernel_rfl
theorem cBc (n : Nat) (x y z : DV) (h : Hp) : aJ (n + 1) 51 [x, y, z] h = s51 (aJ n) n x y z h := by kernel_rfl
theorem bYw (n : Nat) (x y z : DV) (h : Hp) : aJ (n + 1) 82 [x, y, z] h = s82 (aJ n) n x y z h := by kernel_rfl
theorem bIo (n : Nat) (x : DV) (h : Hp) : aJ (n + 1) 161 [x] h = s161 (aJ n) n x h := by kernel_rfl
section
variable {I : Im} {A L : Ls} {h : Hp} {p : Pos} {s : DV} {st : PSt}
theorem hJ (S : Sy I A [PS p s st] L h) (T : TS' I s st.toks) {k : Nat} {t : Tok} (hk : bH st k = some t) :
 Ev (fun n => aJ n 81 [.p p 0, .i .i64 (Int.ofNat k)] h) (fun v h' => v = .a (tc t) ∧ Sy I A [PS p s st] L h') := by
 refine Ev.enter (fun n => cEf n _ _ h) ?_
 unfold s81
 have hs := T.2.one
 refine wa fun _ _ _ => ?_; refine wn ?_; refine wf ?_; refine wq ?_; refine wn ?_; refine wf ?_; refine wq ?_
 refine Ev.op (T.2.len _) (Ev.isub ?_)
 have hlen := bLz hk
 have hl := T.1
 have e1 : IntKind.i64.wrap ((st.toks.length : Int) - Int.ofNat 1) = ((st.toks.length - 1 : Nat) : Int) := by
  rw [dG _ (by simp; omega) (by simp [bL] at hl ⊢; omega)]
  simp; omega
 rw [e1]
 have e2 : ∀ h, bFc (.i .i64 (Int.ofNat k)) (.i .i64 ((st.toks.length - 1 : Nat) : Int)) h = some (.i .i64 ((min k (st.toks.length - 1) : Nat) : Int), h) := fun h => by
  unfold bFc
  have : (if ((st.toks.length - 1 : Nat) : Int) < Int.ofNat k then ((st.toks.length - 1 : Nat) : Int) else Int.ofNat k) = ((min k (st.toks.length - 1) : Nat) : Int) := by
   show (if ((st.toks.length - 1 : Nat) : Int) < (k : Int) then ((st.toks.length - 1 : Nat) : Int) else (k : Int)) = _
   split <;> omega
  show some (DV.i .i64 (if ((st.toks.length - 1 : Nat) : Int) < Int.ofNat k then ((st.toks.length - 1 : Nat) : Int) else Int.ofNat k), h) = _
  rw [this]
 refine Ev.op (e2 _) ?_
 obtain ⟨b, o, a1, a2⟩ := T.at (by assumption) hk
 refine Ev.op (a1 _) (Ev.op a2 ?_)
 refine wt fun _ _ => ?_; refine ws ?_
 exact Ev.ret ⟨rfl, Sy.dropL (by assumption)⟩
theorem fD (S : Sy I A [PS p s st] L h) (T : TS' I s st.toks) {kind : Int} {text : List Nat} {c : Bool} (hc : dT st kind text = some c) :
 Ev (fun n => aJ n 77 [.p p 0, .i .i64 kind, .s text] h) (fun v h' => v = .b c ∧ Sy I A [PS p s st] L h') := by
 unfold dT at hc
 obtain ⟨t, ht, hc⟩ := aT hc
 simp only [Option.some.injEq] at hc
 refine Ev.enter (fun n => cMf n _ _ _ h) ?_
 unfold s77
 refine Ev.call (hJ S T ht) ?_
 rintro _ _ ⟨rfl, S1⟩
 refine wa fun _ _ _ => ?_; refine wt fun _ _ => ?_; refine wn ?_; refine wf ?_; refine wq ?_
 refine Ev.ieq (fun e1 => ?_) (fun e1 => ?_)
 ·refine zt ?_; refine wf ?_; refine zt ?_; refine wl ?_; refine zt ?_; refine wm ?_; refine zt ?_
  refine Ev.ieq (fun e2 => ?_) (fun e2 => ?_)
  ·refine ap ?_; refine zt ?_; refine wm ?_; refine zt ?_
   refine Ev.seq (fun e3 => ?_) (fun e3 => ?_)
   ·refine zt ?_; refine wm ?_; refine yg ?_; refine yg ?_; refine yg ?_; refine yg ?_; refine zt ?_; refine ap ?_; refine ap ?_
    exact Ev.ret ⟨by rw [← hc]; simp at e1; simp [e1, e2, e3], dp⟩
   ·refine zt ?_; refine wm ?_; refine zf ?_; refine wf ?_; refine zf ?_; refine wl ?_; refine zf ?_; refine wm ?_; refine zf ?_
    refine Ev.seq (fun e4 => ?_) (fun e4 => ?_)
    ·refine zt ?_; refine aq ?_; refine ap ?_
     exact Ev.ret ⟨by rw [← hc]; simp at e1; simp [e1, e2, e3, e4], dp⟩
    ·refine zt ?_; refine aq ?_; refine ap ?_
     exact Ev.ret ⟨by rw [← hc]; simp at e1; simp [e1, e2, e3, e4], dp⟩
  ·refine ap ?_; refine yf ?_; refine yf ?_; refine yf ?_; refine yu ?_; refine yu ?_; refine yu ?_; refine yu ?_; refine yf ?_; refine aq ?_
   exact Ev.ret ⟨by rw [← hc]; simp at e1; simp [e1, e2], dp⟩
 ·refine yf ?_; refine yf ?_; refine yf ?_; refine yf ?_; refine aq ?_; refine yf ?_; refine yf ?_; refine yf ?_; refine yu ?_; refine yu ?_; refine yu ?_; refine yu ?_; refine yf ?_; refine aq ?_
  exact Ev.ret ⟨by rw [← hc]; simp at e1; simp [e1], dp⟩
theorem mE (S : Sy I A [PS p s st] L h) (hs : s.one = true) (t : Tok) (e : Int) :
 Ev (fun n => aJ n 80 [.p p 0, .a (tc t), .i .i64 e] h) (fun v h' => v = .t [] ∧ Sy I A [PS p s (bW st t e)] L h') := by
 refine Ev.enter (fun n => cFw n _ _ _ h) ?_
 unfold s80
 refine wb fun _ _ _ => ?_; refine wn ?_; refine wf ?_; refine wq ?_
 refine Ev.ieq (fun e1 => ?_) (fun e1 => ?_)
 ·refine yt ?_; refine wf ?_; refine wl ?_; refine wn ?_; refine wf ?_; refine wv fun _ _ => ?_; refine wn ?_; refine wf ?_; refine wv fun _ _ => ?_
  have : bW st t e = { st with pos := t.pos, err := e } := by simp at e1; simp [bW, e1]
  rw [this]
  exact Ev.ret ⟨rfl, dp⟩
 ·refine yj ?_
  have : bW st t e = st := by simp at e1; simp [bW, e1]
  rw [this]
  exact Ev.ret ⟨rfl, dp⟩
theorem cV (S : Sy I A [PS p s st] L h) (T : TS' I s st.toks) {t : Tok} {st' : PSt} (ht : cI st = some (t, st')) :
 Ev (fun n => aJ n 78 [.p p 0] h) (fun v h' => v = .a (tc t) ∧ ∃ s', Sy I A [PS p s' st'] L h' ∧ TS' I s' st'.toks) := by
 unfold cI at ht
 obtain ⟨u, hu, ht⟩ := aT ht
 have hs := T.2.one
 refine Ev.enter (fun n => cKb n _ h) ?_
 unfold s78 cOo
 refine wa fun _ _ _ => ?_
 refine Ev.call (hJ (by assumption) T hu) ?_
 rintro _ _ ⟨rfl, S1⟩
 unfold cQh
 refine wa fun _ _ _ => ?_; refine wt fun _ _ => ?_; refine wf ?_; refine wl ?_
 unfold bXd
 refine Ev.ine (fun e1 => ?_) (fun e1 => ?_)
 ·refine yt ?_; refine wn ?_; refine wf ?_; refine wq ?_
  simp only [show ¬ u.kind = 0 from e1, if_false] at ht
  split at ht
  ·rename_i h2
   simp only [Option.some.injEq, Prod.mk.injEq] at ht
   obtain ⟨rfl, rfl⟩ := ht
   obtain ⟨s', e, T'⟩ := T.tail (i := 1) (by assumption) (by omega)
   have hs' := T'.2.one
   refine Ev.op e ?_
   refine wn ?_; refine wf ?_; refine wv fun _ _ => ?_; refine ws ?_; refine wt fun _ _ => ?_; refine ws ?_
   exact Ev.ret ⟨rfl, s', dp, T'⟩
  ·cases ht
 ·refine yj ?_; refine ws ?_; refine wt fun _ _ => ?_; refine ws ?_
  simp only [show u.kind = 0 from e1, if_true, Option.some.injEq, Prod.mk.injEq] at ht
  obtain ⟨rfl, rfl⟩ := ht
  exact Ev.ret ⟨rfl, s, dp, T⟩
theorem bV (st : PSt) (t : Tok) (e : Int) : (bW st t e).toks = st.toks := by
 unfold bW; split <;> rfl
theorem oY (S : Sy I A [PS p s st] L h) (T : TS' I s st.toks) {kind : Int} {text : List Nat} {t : Tok} {st' : PSt} (ht : gF st kind text = some (t, st')) :
 Ev (fun n => aJ n 51 [.p p 0, .i .i64 kind, .s text] h) (fun v h' => v = .a (tc t) ∧ ∃ s', Sy I A [PS p s' st'] L h' ∧ TS' I s' st'.toks) := by
 unfold gF at ht
 obtain ⟨c, hc, ht⟩ := aT ht
 refine Ev.enter (fun n => cBc n _ _ _ h) ?_
 unfold s51
 refine wa fun _ _ _ => ?_
 refine Ev.call (fD (by assumption) T hc) ?_
 rintro _ _ ⟨rfl, S1⟩
 cases c with
 | true =>
  refine an ?_; refine yj ?_
  refine Ev.call (cV (by assumption) T ht) ?_
  rintro _ _ ⟨rfl, s', S2, T2⟩
  refine wt fun _ _ => ?_; refine ws ?_
  exact Ev.ret ⟨rfl, s', dp, T2⟩
 | false =>
  refine ao ?_; refine yt ?_
  obtain ⟨u, hu, ht⟩ := aT (by simpa using ht)
  simp only [Option.some.injEq, Prod.mk.injEq] at ht
  obtain ⟨rfl, rfl⟩ := ht
  refine Ev.call (hJ (k := 0) (by assumption) T hu) ?_
  rintro _ _ ⟨rfl, S2⟩
  refine Ev.call (mE (by assumption) T.2.one u _) ?_
  rintro _ _ ⟨rfl, S3⟩
  refine wd ?_; refine wt fun _ _ => ?_; refine ws ?_
  exact Ev.ret ⟨rfl, s, dp, by rw [bV]; exact T⟩
theorem cJz (S : Sy I A [PS p s st] L h) (T : TS' I s st.toks) {kind : Int} {x : DV} {len : Nat} (hl : ∀ h, dB x h = some (.i .i64 (len : Int), h)) {t : List Nat} {st' : PSt} (ht : vC st kind len = some (t, st')) :
 Ev (fun n => aJ n 82 [.p p 0, .i .i64 kind, x] h) (fun v h' => v = .s t ∧ ∃ s', Sy I A [PS p s' st'] L h' ∧ TS' I s' st'.toks) := by
 unfold vC at ht
 obtain ⟨⟨u, st1⟩, hu, ht⟩ := aT ht
 simp only [Option.some.injEq, Prod.mk.injEq] at ht
 obtain ⟨rfl, rfl⟩ := ht
 refine Ev.enter (fun n => bYw n _ _ _ h) ?_
 unfold s82 cPa
 refine Ev.call (oY S T hu) ?_
 rintro _ _ ⟨rfl, s', S1, T1⟩
 unfold cNt
 refine wa fun _ _ _ => ?_; refine wt fun _ _ => ?_
 refine Ev.op (hl _) ?_
 unfold bKs
 refine Ev.ieq (fun e1 => ?_) (fun e1 => ?_)
 ·refine yt ?_; refine ws ?_
  have e2 : len = 4 := by simp at e1; omega
  rw [if_pos e2]
  refine Ev.call (mE (by assumption) T1.2.one u _) ?_
  rintro _ _ ⟨rfl, S3⟩
  refine wf ?_; refine wl ?_
  exact Ev.ret ⟨rfl, s', dp, by rw [bV]; exact T1⟩
 ·refine yj ?_; refine wf ?_; refine wl ?_
  have e2 : ¬ len = 4 := by simp at e1; omega
  rw [if_neg e2]
  exact Ev.ret ⟨rfl, s', dp, T1⟩
theorem cXr (S : Sy I A [PS p s st] L h) (T : TS' I s st.toks) {c : Bool} (hc : bFg st = some c) :
 Ev (fun n => aJ n 161 [.p p 0] h) (fun v h' => v = .b c ∧ Sy I A [PS p s st] L h') := by
 unfold bFg at hc
 obtain ⟨t, ht, hc⟩ := aT hc
 obtain ⟨d, hd, hc⟩ := aT hc
 obtain ⟨u, hu, hc⟩ := aT hc
 simp only [Option.some.injEq] at hc
 refine Ev.enter (fun n => bIo n _ h) ?_
 unfold s161
 refine Ev.call (hJ (k := 1) S T ht) ?_
 rintro _ _ ⟨rfl, S1⟩
 refine wa fun _ _ _ => ?_; refine wt fun _ _ => ?_
 refine Ev.call (fD (by assumption) T hd) ?_
 rintro _ _ ⟨rfl, S2⟩
 cases d with
 | false =>
  refine yf ?_; refine yf ?_; refine yf ?_; refine aq ?_; refine yf ?_; refine yf ?_; refine yf ?_; refine yf ?_
  refine Ev.cnd rfl ?_
  refine yf ?_; refine yf ?_; refine yf ?_; refine aq ?_
  exact Ev.ret ⟨by rw [← hc]; rfl, dp⟩
 | true =>
  refine zt ?_; refine wf ?_; refine zt ?_; refine wl ?_; refine zt ?_
  refine Ev.ieq (fun e1 => ?_) (fun e1 => ?_)
  ·refine ap ?_; refine zt ?_; refine wf ?_; refine zt ?_; refine wl ?_; refine zt ?_; refine wm ?_; refine zt ?_
   refine Ev.call (hJ (k := 0) (by assumption) T hu) ?_
   rintro _ _ ⟨rfl, S3⟩
   refine Ev.cnd ?_ ?_
   ·rw [Bool.and_true]
    exact bVd (S := S3) (List.Mem.head _) rfl rfl (by simp [DV.beq])
   refine zt ?_; refine wp ?_; refine zt ?_
   refine Ev.iadd ?_
   refine zt ?_
   refine Ev.ieq (fun e2 => ?_) (fun e2 => ?_)
   ·refine ap ?_
    exact Ev.ret ⟨by rw [← hc, decide_eq_true (show t.kind = 4 from e1), decide_eq_true (show t.pos = uR (u.pos + 1) from e2)]; rfl, dp⟩
   ·refine ap ?_
    exact Ev.ret ⟨by rw [← hc, decide_eq_true (show t.kind = 4 from e1), decide_eq_false (show ¬ t.pos = uR (u.pos + 1) from e2)]; rfl, dp⟩
  ·refine ap ?_; refine yf ?_; refine yf ?_; refine yf ?_; refine yf ?_
   refine Ev.cnd rfl ?_
   refine yf ?_; refine yf ?_; refine yf ?_; refine aq ?_
   exact Ev.ret ⟨by rw [← hc, decide_eq_false (show ¬ t.kind = 4 from e1)]; rfl, dp⟩
end
end Go.Dd

namespace Go.Dd
open Go.Proofs
theorem eX {c : List DV} (h : c.length = 6) : cO [(.i .i64 (Int.ofNat 0)), (.s []), (.i .i64 (Int.ofNat 0)), .l0, .l0, .l0] [(0, 6, .a c)] = some c := by
 simp [cO, cJ, h]
theorem aFb {c d : List DV} (h : c.length = 6) (h' : d.length = 6) : cO [(.i .i64 (Int.ofNat 0)), (.s []), (.i .i64 (Int.ofNat 0)), .l0, .l0, .l0, (.i .i64 (Int.ofNat 0)), (.s []), (.i .i64 (Int.ofNat 0)), .l0, .l0, .l0] [(0, 6, .a c), (6, 6, .a d)] = some (c ++ d) := by
 have e : List.take 6 (c ++ [(.i .i64 (Int.ofNat 0)), (.s []), (.i .i64 (Int.ofNat 0)), .l0, .l0, .l0]) = c := by rw [← h, List.take_left]
 have e2 : List.drop 12 (c ++ [(DV.i .i64 (Int.ofNat 0)), (.s []), (.i .i64 (Int.ofNat 0)), .l0, .l0, .l0]) = [] := by simp [h]
 simp [cO, cJ, h, h']
section
variable {I : Im} {A Q L L' : Ls} {h : Hp} {k : Nat → DV → Hp → aH} {P : DV → Hp → Prop} {b : Pos} {cs : List DV} {n : Nat} {kd : Kind} {l : List DV}
theorem Ev.bsAt0 (S : Sy I A Q L h) {z : List DV} {ps : List (Nat × Nat × DV)} (r : Rpl b none (some (.row .ex cs)) L L') (e : cO z ps = some cs)
 (H : ∀ h', Sy I A Q L' h' → Ev (fun m => k m (.l b 0 n n) h') P) : Ev (fun m => bnd (aZ (cT 0 b) z n ps h) (k m)) P := Ev.bsAt S r e H
theorem aCd (S : Sy I A Q L h) (m : (b, some (.row kd l)) ∈ L) (h1 : l.length = n) (h2 : ∀ v ∈ l, v.one = true) (hb : DV.beq (.a l) (.a l) = true) : bP (aE n (.p b 0) h) (.a l) = true := by
 rw [ldA (S.memL m) (aNx h1 h2)]; exact hb
end
def zN : Node := .mk 0 [] 0 [] [] []
def cE (t : List Nat) (ks : List Node) : Node := .mk 7 t 0 [] [] ks
def Node.kids : Node → List Node | .mk _ _ _ _ _ ks => ks
def Node.text : Node → List Nat | .mk _ t _ _ _ _ => t
def Node.kind : Node → Int | .mk k _ _ _ _ _ => k
def lD (st : PSt) : Option ((Node × Bool) × PSt) :=
 (bH st 0).bind fun t =>
  if st.err = 0 then (bFg st).bind fun c =>
   if c then (cI st).bind fun r => (cI r.2).bind fun q => some ((.mk 1 [] (uR (0 - q.1.num)) [] [] [], true), q.2)
   else if t.kind = 4 then (cI st).bind fun r => some ((.mk 1 t.text t.num [] [] [], true), r.2)
   else if t.kind = 5 then (cI st).bind fun r => some ((.mk 2 t.text t.num [] [] [], true), r.2)
   else if t.kind = 6 then (cI st).bind fun r => some ((.mk 3 t.text t.num [] [] [], true), r.2)
   else some ((.mk 0 t.text t.num [] [] [], false), st)
  else some ((.mk 0 t.text t.num [] [] [], false), st)
def fH (f : PSt → Option (Node × PSt)) (st : PSt) : Option (Node × PSt) :=
 (cI st).bind fun r => if r.2.deep = 20 then some (zN, bW r.2 r.1 14)
  else (f { r.2 with deep := uR (r.2.deep + 1) }).bind fun q => some (q.1, { q.2 with deep := uR (q.2.deep - 1) })
def iA : Nat → Node → PSt → Option (Node × PSt)
 | 0, _, _ => none
 | f + 1, x, st => (dT st 1 []).bind fun c => if c then (cI st).bind fun r => iA f (cE r.1.text [x]) r.2 else some (x, st)
def nT : Nat → List (List Nat) → PSt → Option (List (List Nat) × PSt)
 | 0, _, _ => none
 | f + 1, l, st => (dT st 1 []).bind fun c => if c then (cI st).bind fun r => nT f (l ++ [r.1.text]) r.2 else (gF st 10 [124]).bind fun r => some (l, r.2)
def kI (f : Nat) (st : PSt) : Option (List (List Nat) × PSt) :=
 (dT st 10 [124]).bind fun c => if c then (cI st).bind fun r => nT f [] r.2 else some ([], st)
def NPost (I : Im) (A L : Ls) (p : Pos) (x : Node) (st : PSt) (v : DV) (h : Hp) : Prop := ∃ J s cs, v = .a cs ∧ ILe I J ∧ Sy J A [PS p s st] L h ∧ TS' J s st.toks ∧ NV J x cs
theorem NPost.le {I J : Im} {A L : Ls} {p : Pos} {x : Node} {st : PSt} (g : ILe I J) : ∀ v h, NPost J A L p x st v h → NPost I A L p x st v h := by
 rintro v h ⟨K, s, cs, e, g', r⟩
 exact ⟨K, s, cs, e, g.trans g', r⟩
def sA (g : FuncId) (f : PSt → Option (Node × PSt)) : Prop := ∀ (I : Im) (A L : Ls) (h : Hp) (p : Pos) (s : DV) (st : PSt) (x : Node) (st' : PSt), Sy I A [PS p s st] L h → TS' I s st.toks → f st = some (x, st') →
 Ev (fun n => aJ n g [.p p 0] h) (NPost I A L p x st')
def cSk (g : FuncId) (f : Node → PSt → Option (Node × PSt)) : Prop := ∀ (I : Im) (A L : Ls) (h : Hp) (p : Pos) (s : DV) (st : PSt) (x y : Node) (cs : List DV) (st' : PSt), Sy I A [PS p s st] L h → TS' I s st.toks → NV I x cs → f x st = some (y, st') →
 Ev (fun n => aJ n g [.p p 0, .a cs] h) (NPost I A L p y st')
theorem NS.nil (I : Im) : NS I .l0 [] := ⟨by simp, [], .inl ⟨.inl rfl, rfl, rfl⟩, rfl⟩
theorem SS.nil (I : Im) : SS I .l0 [] := ⟨by simp, .inl ⟨.inl rfl, rfl, rfl⟩⟩
theorem NV.of {I : Im} {k : Int} {t : List Nat} {m : Int} {s1 s2 s3 : DV} {ns ts : List (List Nat)} {ks : List Node} (h1 : SS I s1 ns) (h2 : SS I s2 ts) (h3 : NS I s3 ks) : NV I (.mk k t m ns ts ks) [.i .i64 k, .s t, .i .i64 m, s1, s2, s3] :=
 ⟨s1, s2, s3, rfl, h1, h2, h3.1, h3.2⟩
theorem NV.flat {I : Im} (k : Int) (t : List Nat) (m : Int) : NV I (.mk k t m [] [] []) [.i .i64 k, .s t, .i .i64 m, .l0, .l0, .l0] := NV.of (SS.nil I) (SS.nil I) (NS.nil I)
theorem NS.one {I : Im} {s : DV} {ks : List Node} (H : NS I s ks) : s.one = true := by
 obtain ⟨_, c, f, _⟩ := H; exact f.one
theorem NS.len {I : Im} {s : DV} {ks : List Node} (H : NS I s ks) (h : Hp) : dB s h = some (.i .i64 (ks.length : Int), h) := by
 obtain ⟨_, c, f, _⟩ := H; exact f.len h
theorem aMf (n : Nat) (x y : DV) (h : Hp) : aJ (n + 1) 149 [x, y] h = s149 (aJ n) n x y h := by kernel_rfl
theorem bLr (n : Nat) (x : DV) (h : Hp) : aJ (n + 1) 138 [x] h = s138 (aJ n) n x h := by kernel_rfl
theorem bJi (n : Nat) (x : DV) (h : Hp) : aJ (n + 1) 155 [x] h = s155 (aJ n) n x h := by kernel_rfl
theorem bOn (n : Nat) (x : DV) (h : Hp) : aJ (n + 1) 150 [x] h = s150 (aJ n) n x h := by kernel_rfl
theorem bIe (n : Nat) (x y : DV) (h : Hp) : aJ (n + 1) 151 [x, y] h = s151 (aJ n) n x y h := by kernel_rfl
theorem bOm (n : Nat) (x y : DV) (h : Hp) : aJ (n + 1) 136 [x, y] h = s136 (aJ n) n x y h := by kernel_rfl
theorem cEr (n : Nat) (x : DV) (h : Hp) : aJ (n + 1) 49 [x] h = s49 (aJ n) n x h := by kernel_rfl
theorem vW {I : Im} {A Q L : Ls} {h : Hp} (S : Sy I A Q L h) {t : List Nat} {x : DV} {ks : List Node} (N : NS I x ks) :
 Ev (fun n => aJ n 149 [.s t, x] h) (fun v h' => ∃ cs, v = .a cs ∧ NV I (cE t ks) cs ∧ Sy I A Q L h') := by
 have hx := N.one
 refine Ev.enter (fun n => aMf n _ _ h) ?_
 unfold s149
 refine wa fun _ _ _ => ?_; refine wd ?_; refine wt fun _ _ => ?_; refine ws ?_
 exact Ev.ret ⟨_, rfl, NV.of (SS.nil I) (SS.nil I) N, dp⟩
section
variable {I : Im} {A L : Ls} {h : Hp} {p : Pos} {s : DV} {st : PSt}
theorem aNr (S : Sy I A [PS p s st] L h) (T : TS' I s st.toks) {x : Node} {c : Bool} {st' : PSt} (hm : lD st = some ((x, c), st')) :
 Ev (fun n => aJ n 150 [.p p 0] h) (fun v h' => ∃ s' cs, v = .t [.a cs, .b c] ∧ Sy I A [PS p s' st'] L h' ∧ TS' I s' st'.toks ∧ NV I x cs) := by
 unfold lD at hm
 obtain ⟨t, ht, hm⟩ := aT hm
 refine Ev.enter (fun n => bOn n _ h) ?_
 unfold s150 bTg
 refine wa fun _ _ _ => ?_
 refine Ev.call (hJ (k := 0) (by assumption) T ht) ?_
 rintro _ _ ⟨rfl, S1⟩
 unfold bNn bVu aEp
 refine wa fun _ _ _ => ?_; refine wt fun _ _ => ?_; refine wf ?_; refine wl ?_; refine wf ?_; refine wl ?_; refine wd ?_; refine wa fun _ _ _ => ?_; refine wt fun _ _ => ?_; refine wn ?_; refine wf ?_; refine wq ?_
 refine Ev.ine (fun e1 => ?_) (fun e1 => ?_)
 ·refine yt ?_; refine ws ?_; refine wt fun _ _ => ?_; refine ws ?_
  rw [if_neg (show ¬ st.err = 0 from e1)] at hm
  simp only [Option.some.injEq, Prod.mk.injEq] at hm
  obtain ⟨⟨rfl, rfl⟩, rfl⟩ := hm
  exact Ev.ret ⟨s, _, rfl, dp, T, NV.flat _ _ _⟩
 ·refine yj ?_
  rw [if_pos (show st.err = 0 from e1)] at hm
  obtain ⟨d, hd, hm⟩ := aT hm
  refine Ev.call (cXr (by assumption) T hd) ?_
  rintro _ _ ⟨rfl, S2⟩
  cases d with
  | true =>
   refine yt ?_
   rw [if_pos rfl] at hm
   obtain ⟨⟨t1, st1⟩, ht1, hm⟩ := aT hm
   obtain ⟨⟨t2, st2⟩, ht2, hm⟩ := aT hm
   simp only [Option.some.injEq, Prod.mk.injEq] at hm
   obtain ⟨⟨rfl, rfl⟩, rfl⟩ := hm
   refine Ev.call (cV (by assumption) T ht1) ?_
   rintro _ _ ⟨rfl, s3, S3, T3⟩
   refine Ev.call (cV (by assumption) T3 ht2) ?_
   rintro _ _ ⟨rfl, s4, S4, T4⟩
   refine wp ?_
   refine Ev.neg ?_
   refine wd ?_; refine wt fun _ _ => ?_; refine ws ?_
   exact Ev.ret ⟨s4, _, rfl, dp, T4, NV.flat _ _ _⟩
  | false =>
   refine yj ?_; refine wf ?_; refine wl ?_
   rw [if_neg (by simp)] at hm
   refine Ev.ieq (fun e2 => ?_) (fun e2 => ?_)
   ·refine yt ?_; refine wf ?_; refine wu fun _ _ => ?_
    rw [if_pos (show t.kind = 4 from e2)] at hm
    obtain ⟨⟨t1, st1⟩, ht1, hm⟩ := aT hm
    simp only [Option.some.injEq, Prod.mk.injEq] at hm
    obtain ⟨⟨rfl, rfl⟩, rfl⟩ := hm
    refine Ev.call (cV (by assumption) T ht1) ?_
    rintro _ _ ⟨rfl, s3, S3, T3⟩
    refine ws ?_; refine wt fun _ _ => ?_; refine ws ?_
    exact Ev.ret ⟨s3, _, rfl, dp, T3, NV.flat _ _ _⟩
   ·refine yj ?_; refine wf ?_; refine wl ?_
    rw [if_neg (show ¬ t.kind = 4 from e2)] at hm
    refine Ev.ieq (fun e3 => ?_) (fun e3 => ?_)
    ·refine yt ?_; refine wf ?_; refine wu fun _ _ => ?_
     rw [if_pos (show t.kind = 5 from e3)] at hm
     obtain ⟨⟨t1, st1⟩, ht1, hm⟩ := aT hm
     simp only [Option.some.injEq, Prod.mk.injEq] at hm
     obtain ⟨⟨rfl, rfl⟩, rfl⟩ := hm
     refine Ev.call (cV (by assumption) T ht1) ?_
     rintro _ _ ⟨rfl, s3, S3, T3⟩
     refine ws ?_; refine wt fun _ _ => ?_; refine ws ?_
     exact Ev.ret ⟨s3, _, rfl, dp, T3, NV.flat _ _ _⟩
    ·refine yj ?_; refine wf ?_; refine wl ?_
     rw [if_neg (show ¬ t.kind = 5 from e3)] at hm
     refine Ev.ieq (fun e4 => ?_) (fun e4 => ?_)
     ·refine yt ?_; refine wf ?_; refine wu fun _ _ => ?_
      rw [if_pos (show t.kind = 6 from e4)] at hm
      obtain ⟨⟨t1, st1⟩, ht1, hm⟩ := aT hm
      simp only [Option.some.injEq, Prod.mk.injEq] at hm
      obtain ⟨⟨rfl, rfl⟩, rfl⟩ := hm
      refine Ev.call (cV (by assumption) T ht1) ?_
      rintro _ _ ⟨rfl, s3, S3, T3⟩
      refine ws ?_; refine wt fun _ _ => ?_; refine ws ?_
      exact Ev.ret ⟨s3, _, rfl, dp, T3, NV.flat _ _ _⟩
     ·refine yj ?_; refine ws ?_; refine wt fun _ _ => ?_; refine ws ?_
      rw [if_neg (show ¬ t.kind = 6 from e4)] at hm
      simp only [Option.some.injEq, Prod.mk.injEq] at hm
      obtain ⟨⟨rfl, rfl⟩, rfl⟩ := hm
      exact Ev.ret ⟨s, _, rfl, dp, T, NV.flat _ _ _⟩
theorem oL {g : FuncId} {f : PSt → Option (Node × PSt)} (hg : ∀ (rec : FuncId → List DV → Hp → aH) (x : DV) (h : Hp), dS CF rec (.f g [x] []) [] h = rec g [x] h) (F : sA g f) (S : Sy I A [PS p s st] L h) (T : TS' I s st.toks) {x : Node} {st' : PSt} (hm : fH f st = some (x, st')) :
 Ev (fun n => aJ n 151 [.p p 0, .f g [.p p 0] []] h) (NPost I A L p x st') := by
 unfold fH at hm
 obtain ⟨⟨t, st1⟩, ht, hm⟩ := aT hm
 refine Ev.enter (fun n => bIe n _ _ h) ?_
 unfold s151
 simp only [hg]
 refine wa fun _ _ _ => ?_
 refine Ev.call (cV (by assumption) T ht) ?_
 rintro _ _ ⟨rfl, s1, S1, T1⟩
 have hs1 := T1.2.one
 refine wa fun _ _ _ => ?_; refine wt fun _ _ => ?_; refine wn ?_; refine wf ?_; refine wq ?_
 refine Ev.ieq (fun e1 => ?_) (fun e1 => ?_)
 ·refine yt ?_; refine ws ?_
  rw [if_pos (show st1.deep = 20 from e1)] at hm
  simp only [Option.some.injEq, Prod.mk.injEq] at hm
  obtain ⟨rfl, rfl⟩ := hm
  refine Ev.call (mE (by assumption) T1.2.one t _) ?_
  rintro _ _ ⟨rfl, S3⟩
  refine wd ?_; refine wt fun _ _ => ?_; refine ws ?_
  exact Ev.ret ⟨I, s1, _, rfl, ILe.refl _, dp, by rw [bV]; exact T1, NV.flat _ _ _⟩
 ·refine yj ?_; refine wn ?_; refine wf ?_; refine wq ?_
  rw [if_neg (show ¬ st1.deep = 20 from e1)] at hm
  obtain ⟨⟨y, st2⟩, hy, hm⟩ := aT hm
  simp only [Option.some.injEq, Prod.mk.injEq] at hm
  obtain ⟨rfl, rfl⟩ := hm
  refine Ev.iadd ?_
  refine wn ?_; refine wf ?_; refine wv fun _ _ => ?_
  refine Ev.call (F I A _ _ p s1 { st1 with deep := uR (st1.deep + 1) } _ _ (by assumption) T1 hy) ?_
  rintro _ _ ⟨J, s2, cs, rfl, g2, S2, T2, N2⟩
  obtain ⟨l2, o2, b2⟩ := N2.shape
  have hs2 := T2.2.one
  refine wa fun _ _ _ => ?_; refine wt fun _ _ => ?_; refine wn ?_; refine wf ?_; refine wq ?_
  refine Ev.isub ?_
  refine wn ?_; refine wf ?_; refine wv fun _ _ => ?_; refine ws ?_; refine wt fun _ _ => ?_; refine ws ?_
  exact Ev.ret ⟨J, s2, cs, rfl, g2, dp, T2, N2⟩
theorem zV : ∀ (f j : Nat) (I : Im) (A L : Ls) (h : Hp) (p : Pos) (s : DV) (st : PSt) (x y : Node) (cs z : List DV) (st' : PSt) (b3 b4 : Pos), Sy I A [PS p s st] ((b4, some (.row .ex z)) :: (b3, some (.row .ex cs)) :: L) h →
 z.length = 6 → (∀ v ∈ z, v.one = true) → TS' I s st.toks → NV I x cs → iA f x st = some (y, st') → Ev (fun n => mC (aJ n) n (n - j) (.p p 0) (.p b3 0) (.p b4 0) h) (NPost I A L p y st')
 | 0, j, I, A, L, h, p, s, st, x, y, cs, z, st', b3, b4, S, z1, z2, T, N, hm => by cases hm
 | f + 1, j, I, A, L, h, p, s, st, x, y, cs, z, st', b3, b4, S, z1, z2, T, N, hm => by
  unfold iA at hm
  obtain ⟨c, hc, hm⟩ := aT hm
  refine Ev.loop j (ll := fun n m => mC (aJ n) n m (.p p 0) (.p b3 0) (.p b4 0) h) (bb := fun n m => vO (aJ n) n (mC (aJ n) n m) (.p p 0) (.p b3 0) (.p b4 0) h) (fun _ _ => rfl) ?_
  unfold vO eT
  obtain ⟨l1, o1, b1⟩ := N.shape
  refine Ev.call (fD S T hc) ?_
  rintro _ _ ⟨rfl, S1⟩
  cases c with
  | false =>
   refine yj ?_; refine ws ?_; refine wt fun _ _ => ?_; refine ws ?_
   rw [if_neg (by simp)] at hm
   simp only [Option.some.injEq, Prod.mk.injEq] at hm
   obtain ⟨rfl, rfl⟩ := hm
   exact Ev.ret ⟨I, s, cs, rfl, ILe.refl _, dp, T, N⟩
  | true =>
   refine yt ?_
   rw [if_pos rfl] at hm
   obtain ⟨⟨t, st1⟩, ht, hm⟩ := aT hm
   have Sr := S1.res
   refine Ev.call (cV Sr T ht) ?_
   rintro _ _ ⟨rfl, s2, S2, T2⟩
   refine wp ?_; refine ws ?_
   refine Ev.cnd ?_ ?_
   ·rw [Bool.and_true]; exact aCd Sr (by repeat (first | exact List.Mem.head _ | apply List.Mem.tail)) l1 o1 b1
   refine Ev.bsAt0 S2 (by repeat (first | exact Rpl.head _ | apply Rpl.tail)) (eX l1) ?_
   intro h3 S3
   obtain ⟨J, gJ, S4, F4, _⟩ := Fz.built (sz := 6) (n := 1) S3 (by omega) o1
   have N4 : NS J _ [x] := ⟨by simp [bL], cs, F4, NVL.single (N.mono gJ)⟩
   refine Ev.call (vW S4 N4) ?_
   rintro _ _ ⟨cs5, rfl, N5, S5⟩
   obtain ⟨l5, o5, b5⟩ := N5.shape
   refine wt fun _ _ => ?_
   exact (zV f (j + 1) J A L _ p s2 st1 _ y cs5 z st' b3 b4 (by assumption) z1 z2 (T2.mono gJ) N5 hm).mono (NPost.le gJ)
theorem rX (f : Nat) : cSk 136 (iA f) := by
 intro I A L h p s st x y cs st' S T N hm
 refine Ev.enter (fun n => bOm n _ _ h) ?_
 unfold s136 aGb aRe
 refine wb fun _ _ _ => ?_; refine wa fun _ _ _ => ?_
 exact zV f 0 _ _ _ _ _ _ _ _ _ _ _ _ _ _ (by assumption) rfl (by first | assumption | exact bS _ | (repeat (first | exact aW | refine aS (by first | rfl | assumption | exact Fz.one (by assumption)) ?_))) T N hm
theorem yV : ∀ (f j : Nat) (I : Im) (B A L : Ls) (h : Hp) (p : Pos) (s x : DV) (st : PSt) (l l' : List (List Nat)) (st' : PSt), Sy I (B ++ A) [PS p s st] L h → Gr I 1 B x l.length (l.map .s) → l.length + f ≤ bL →
 TS' I s st.toks → nT f l st = some (l', st') →
 Ev (fun n => pR (aJ n) n (n - j) (.p p 0) x h) (fun v h' => ∃ J s', ILe I J ∧ Sy J A [PS p s' st'] L h' ∧ TS' J s' st'.toks ∧ SS J v l')
 | 0, j, I, B, A, L, h, p, s, x, st, l, l', st', S, G, hl, T, hm => by cases hm
 | f + 1, j, I, B, A, L, h, p, s, x, st, l, l', st', S, G, hl, T, hm => by
  unfold nT at hm
  obtain ⟨c, hc, hm⟩ := aT hm
  refine Ev.loop j (ll := fun n m => pR (aJ n) n m (.p p 0) x h) (bb := fun n m => aIe (aJ n) n (pR (aJ n) n m) (.p p 0) x h) (fun _ _ => rfl) ?_
  unfold aIe iH
  refine Ev.call (fD S T hc) ?_
  rintro _ _ ⟨rfl, S1⟩
  cases c with
  | false =>
   refine yj ?_
   rw [if_neg (by simp)] at hm
   obtain ⟨⟨t, st1⟩, ht, hm⟩ := aT hm
   simp only [Option.some.injEq, Prod.mk.injEq] at hm
   obtain ⟨rfl, rfl⟩ := hm
   refine Ev.call (oY S1 T ht) ?_
   rintro _ _ ⟨rfl, s2, S2, T2⟩
   obtain ⟨J, gJ, S3, F3⟩ := G.freeze S2
   exact Ev.ret ⟨J, s2, gJ, S3, T2.mono gJ, by omega, F3⟩
  | true =>
   refine yt ?_
   rw [if_pos rfl] at hm
   obtain ⟨⟨t, st1⟩, ht, hm⟩ := aT hm
   refine Ev.call (cV S1 T ht) ?_
   rintro _ _ ⟨rfl, s2, S2, T2⟩
   refine wp ?_
   refine Ev.bs S2 (cs := [.s t.text]) rfl ?_
   intro b3 h3 S3
   have hr : (l.length + 1) * 16 ≤ eM := by simp [eM, bL] at hl ⊢; omega
   obtain ⟨x4, h4, B4, e4, S4, G4⟩ := G.app S3 (nB S3 (n := 1) (List.Mem.head _) rfl (aS rfl aW)) rfl (aS rfl aW) (by omega) hr
   refine Ev.op e4 ?_
   refine yV f (j + 1) I B4 A L h4 p s2 x4 st1 (l ++ [t.text]) l' st' (dp) ?_ (by simp; omega) T2 hm
   simpa using G4
theorem aLq (f : Nat) (hf : f ≤ bL) (S : Sy I A [PS p s st] L h) (T : TS' I s st.toks) {l' : List (List Nat)} {st' : PSt} (hm : kI f st = some (l', st')) :
 Ev (fun n => aJ n 49 [.p p 0] h) (fun v h' => ∃ J s', ILe I J ∧ Sy J A [PS p s' st'] L h' ∧ TS' J s' st'.toks ∧ SS J v l') := by
 unfold kI at hm
 obtain ⟨c, hc, hm⟩ := aT hm
 refine Ev.enter (fun n => cEr n _ h) ?_
 unfold s49 bCd bCl
 refine Ev.call (fD S T hc) ?_
 rintro _ _ ⟨rfl, S1⟩
 cases c with
 | false =>
  refine ao ?_; refine yt ?_
  rw [if_neg (by simp)] at hm
  simp only [Option.some.injEq, Prod.mk.injEq] at hm
  obtain ⟨rfl, rfl⟩ := hm
  exact Ev.ret ⟨I, s, ILe.refl _, S1, T, SS.nil I⟩
 | true =>
  refine an ?_; refine yj ?_
  rw [if_pos rfl] at hm
  obtain ⟨⟨t, st1⟩, ht, hm⟩ := aT hm
  unfold bDj aTx bId
  refine Ev.call (cV S1 T ht) ?_
  rintro _ _ ⟨rfl, s2, S2, T2⟩
  exact yV f 0 I [] A L _ p s2 .l0 st1 [] l' st' S2 (Gr.nil I 1) (by simpa using hf) T2 hm
end
end Go.Dd

namespace Go.Dd
open Go.Proofs
abbrev PF := PSt → Option (Node × PSt)
def tB (E : PF) : PF := fun st => (E st).bind fun r => (gF r.2 10 [41]).bind fun q => some (r.1, q.2)
def iX (LI : PF) : Nat → List Node → PSt → Option (List Node × PSt)
 | 0, _, _ => none
 | f + 1, xs, st => if st.err = 0 then (dT st 10 [41]).bind fun c => if c then some (xs, st) else
  (lD st).bind fun r => if r.1.2 then iX LI f (xs ++ [r.1.1]) r.2 else
   (dT r.2 7 []).bind fun c1 => (if c1 then some true else dT r.2 10 [40]).bind fun c2 =>
    if c2 then (fH LI r.2).bind fun q => iX LI f (xs ++ [q.1]) q.2 else (bH r.2 0).bind fun t => iX LI f (xs ++ [r.1.1]) (bW r.2 t 13)
  else some (xs, st)
def fL (LI : PF) (f : Nat) : PF := fun st => (iX LI f [] st).bind fun r => (cI r.2).bind fun q => some (.mk 4 [] 0 [] [] r.1, q.2)
def kR : Nat → List (List Nat) → PSt → Option (List (List Nat) × PSt)
 | 0, _, _ => none
 | f + 1, l, st => (dT st 8 []).bind fun c => if c then (vC st 8 l.length).bind fun r => kR f (l ++ [r.1]) r.2 else some (l, st)
def iO (E : PF) : Nat → List Node → PSt → Option (List Node × PSt)
 | 0, _, _ => none
 | f + 1, xs, st => if st.err = 0 then (dT st 0 []).bind fun c => if c then some (xs, st) else (dT st 10 [93]).bind fun c => if c then some (xs, st) else
  (dT st 10 [94]).bind fun c =>
   if c then (cI st).bind fun r => (E r.2).bind fun q => (dT q.2 10 [46]).bind fun d => if d then (cI q.2).bind fun u => some (xs ++ [.mk 10 [] 0 [] [] [q.1]], u.2) else some (xs ++ [.mk 10 [] 0 [] [] [q.1]], q.2)
   else (E st).bind fun q => (dT q.2 10 [46]).bind fun d => if d then (cI q.2).bind fun u => iO E f (xs ++ [q.1]) u.2 else some (xs ++ [q.1], q.2)
  else some (xs, st)
def bar (l : List (List Nat)) (st : PSt) : Option PSt :=
 if 0 < l.length then (dT st 10 [93]).bind fun c => if c then some st else (gF st 10 [124]).bind fun r => some r.2 else some st
def qW (E : PF) (f : Nat) : PF := fun st => (kR f [] st).bind fun r => (bar r.1 r.2).bind fun st2 => (kI f st2).bind fun q => (iO E f [] q.2).bind fun u => (gF u.2 10 [93]).bind fun w => some (.mk 9 [] 0 r.1 q.1 u.1, w.2)
def fE (LI E : PF) (f : Nat) : PF := fun st => (lD st).bind fun r => if r.1.2 then some (r.1.1, r.2) else (bH r.2 0).bind fun t =>
 if r.2.err = 0 then
  if t.kind = 1 then (cI r.2).bind fun q => some (.mk 5 q.1.text 0 [] [] [], q.2)
  else if t.kind = 7 then fH LI r.2
  else (dT r.2 10 [40]).bind fun c => if c then fH (tB E) r.2 else (dT r.2 10 [91]).bind fun c => if c then fH (qW E f) r.2 else some (zN, bW r.2 t 13)
 else some (zN, r.2)
def hK (P : PF) (g : Nat) : Nat → Node → PSt → Option (Node × PSt)
 | 0, _, _ => none
 | f + 1, x, st => (dT st 3 []).bind fun c => if c then (cI st).bind fun r => (P r.2).bind fun q => (iA g q.1 q.2).bind fun u => hK P g f (cE r.1.text [x, u.1]) u.2 else some (x, st)
def nM (P : PF) (g : Nat) : Nat → List Nat → List Node → PSt → Option (Node × PSt)
 | 0, _, _, _ => none
 | f + 1, t, ks, st => (dT st 2 []).bind fun c => if c then (cI st).bind fun r => if t.length + r.1.text.length ≤ bL then
  (P r.2).bind fun q => (iA g q.1 q.2).bind fun u => (hK P g g u.1 u.2).bind fun w => nM P g f (t ++ r.1.text) (ks ++ [w.1]) w.2 else none
  else some (cE t ks, st)
def sD (P : PF) (g : Nat) : Node → PF := fun x st => (dT st 2 []).bind fun c => if c then nM P g g [] [x] st else some (x, st)
def jC (x : Node) : Node := if x.kids.length = 0 then x else cE x.text (x.kids.drop 1)
def aRn (P : PF) (g : Nat) : PF := fun st => (bH st 0).bind fun t =>
 if t.kind = 1 then (cI st).bind fun r => some (cE t.text [zN], r.2)
 else if t.kind = 3 then (cI st).bind fun r => (P r.2).bind fun q => (iA g q.1 q.2).bind fun u => some (cE t.text [zN, u.1], u.2)
 else if t.kind = 2 then sD P g zN st
 else some (zN, bW st t 13)
def aMb (P : PF) (g : Nat) : Nat → List Node → PSt → Option (Node × PSt)
 | 0, _, _ => none
 | f + 1, ks, st => (dT st 10 [59]).bind fun c => if c then (cI st).bind fun r => (aRn P g r.2).bind fun q => aMb P g f (ks ++ [jC q.1]) q.2 else some (.mk 8 [] 0 [] [] ks, st)
def kG (P : PF) (g : Nat) : PF := fun st => (P st).bind fun q => (iA g q.1 q.2).bind fun u => (hK P g g u.1 u.2).bind fun w => (sD P g w.1 w.2).bind fun n =>
 (dT n.2 10 [59]).bind fun c => if c then
  if n.1.kind = 7 then (n.1.kids[0]?).bind fun k0 => aMb P g g [k0, jC n.1] n.2
  else (bH n.2 0).bind fun t => some (n.1, bW n.2 t 13)
  else some n
def sI (P E : PF) (g : Nat) : PF := fun st => (dT st 1 []).bind fun c => (if c then (bH st 1).bind fun t => some (decide (t.kind = 9)) else some false).bind fun d =>
 if d then (cI st).bind fun r => (cI r.2).bind fun q => (E q.2).bind fun u => some (.mk 6 r.1.text 0 [] [] [u.1], u.2) else kG P g st
def vN : Nat → PF
 | 0 => fun _ => none
 | f + 1 => fL (vN f) f
def lR : Nat → PF
 | 0 => fun _ => none
 | f + 1 => sI (fE (vN f) (lR f) f) (lR f) f
theorem NVL.at {I : Im} : ∀ {l : List Node} {c : List DV} {i : Nat} {x : Node}, NVL I l c → l[i]? = some x → ∃ d rest, c.drop (i * 6) = d ++ rest ∧ NV I x d := by
 intro l c i x H hi
 have := H.drop i
 rw [jY hi] at this
 obtain ⟨d, rest, e, N, _⟩ := this
 exact ⟨d, rest, e, N⟩
theorem NS.at {I : Im} {s : DV} {ks : List Node} (H : NS I s ks) {i : Nat} {x : Node} (hi : ks[i]? = some x) :
 ∃ b o c, (∀ h', aP 6 s (.i .i64 (i : Int)) h' = some (.p b o, h')) ∧ NV I x c ∧ ∀ (J : Im) (A Q L : Ls) (h : Hp), ILe I J → Sy J A Q L h → aE 6 (.p b o) h = some (.a c, h) := by
 obtain ⟨_, cells, F, N⟩ := H
 obtain ⟨hlt, _⟩ := List.getElem?_eq_some_iff.1 hi
 obtain ⟨d, rest, e, Nd⟩ := N.at hi
 rcases F with ⟨_, h2, _⟩ | ⟨b, o, cap, k, row, rest2, rfl, h2, h3, h4, h5, h6⟩
 ·omega
 ·refine ⟨b, o + i * 6, d, fun h' => ?_, Nd, fun J A Q L h g S => ldA (S.im _ _ (g _ _ h3)) ?_⟩
  ·show (if 0 ≤ (i : Int) ∧ (i : Int) < (ks.length : Int) then some (DV.p b (o + (i : Int).toNat * 6), h') else none) = _
   rw [if_pos ⟨by omega, by omega⟩]
   rfl
  ·have hle : i * 6 ≤ cells.length := by rw [h5]; exact Nat.mul_le_mul_right _ (by omega)
   rw [← List.drop_drop, h4, List.drop_append_of_le_length hle, e, List.append_assoc]
   obtain ⟨s1, s2, _⟩ := Nd.shape
   exact gC d _ 6 s1 s2
theorem Fz.rest {I : Im} {sz : Nat} {s : DV} {len : Nat} {cells : List DV} (H : Fz I sz s len cells) {A Q L : Ls} {h : Hp} (S : Sy I A Q L h) {i : Nat} (hi : i ≤ len) (h0 : 0 < len) :
 ∃ s' h' J, cK sz s (some (.i .i64 (Int.ofNat i))) none h = some (s', h') ∧ ILe I J ∧ Sy J A Q L h' ∧ Fz J sz s' (len - i) (cells.drop (i * sz)) ∧ s' ≠ .l0 := by
 rcases H with ⟨_, rfl, _⟩ | ⟨b, o, cap, k, row, rest, rfl, h2, h3, h4, h5, h6⟩
 ·omega
 ·have hle : i * sz ≤ cells.length := by rw [h5]; exact Nat.mul_le_mul_right _ (by omega)
  have hd : row.drop (o + i * sz) = cells.drop (i * sz) ++ rest := by
   rw [← List.drop_drop, h4, List.drop_append_of_le_length hle]
  have e1 : hiD none len cap = some len := by simp [hiD, h2]
  have e2 : loD (some (.i .i64 (Int.ofNat i))) len = some i := by
   show (if 0 ≤ (Int.ofNat i) ∧ (Int.ofNat i) ≤ (len : Int) then some (Int.ofNat i).toNat else none) = _
   have hi' : (Int.ofNat i) = (i : Int) := rfl
   rw [if_pos ⟨by omega, by omega⟩]
   rfl
  have hlen : (cells.drop (i * sz)).length = (len - i) * sz := by rw [List.length_drop, h5, Nat.sub_mul]
  by_cases hc : cap = i
  ·have hz : len - i = 0 := by omega
   have hnil : cells.drop (i * sz) = [] := List.eq_nil_of_length_eq_zero (by rw [hlen, hz]; simp)
   have hg := S.im _ _ h3
   have other : (k = .ro ∨ k = .ex) → cK sz (.l b o len cap) (some (.i .i64 (Int.ofNat i))) none h = some (.l b o (len - i) (cap - i), h) := fun hk => by
    unfold cK
    simp only [e1, e2, hg]
    rcases hk with rfl | rfl <;> simp [hc]
   have grow : (k ≠ .ro ∧ k ≠ .ex) → cK sz (.l b o len cap) (some (.i .i64 (Int.ofNat i))) none h = some (.le, h) := fun hk => by
    unfold cK
    simp only [e1, e2, hg]
    cases k with
    | ro => exact absurd rfl hk.1
    | ex => exact absurd rfl hk.2
    | gr es => simp [hc]
    | sp => simp [hc]
   by_cases hk : k = .ro ∨ k = .ex
   ·refine ⟨_, _, I, other hk, ILe.refl _, S, .inr ⟨b, o, cap - i, k, row, row.drop o, rfl, by omega, h3, ?_, hlen, fun v hv => h6 v (List.mem_of_mem_drop hv)⟩, by simp⟩
    rw [hnil]; rfl
   ·refine ⟨_, _, I, grow ⟨fun e => hk (.inl e), fun e => hk (.inr e)⟩, ILe.refl _, S, ?_, by simp⟩
    rw [hz, hnil]
    exact .inl ⟨.inr rfl, rfl, rfl⟩
  ·refine ⟨.l b (o + i * sz) (len - i) (cap - i), h, I, ?_, ILe.refl _, S, .inr ⟨b, o + i * sz, cap - i, k, row, rest, rfl, by omega, h3, hd, hlen, fun v hv => h6 v (List.mem_of_mem_drop hv)⟩, by simp⟩
   unfold cK
   simp only [e1, e2, S.im _ _ h3]
   cases k <;> simp [hc]
theorem bQk {I : Im} {A Q L : Ls} {h : Hp} (S : Sy I A Q L h) {x : DV} {ks : List Node} (N : NS I x ks) :
 Ev (fun n => aJ n 155 [x] h) (fun v h' => ∃ J, ILe I J ∧ Sy J A Q L h' ∧ NS J v ks) := by
 refine Ev.enter (fun n => bJi n _ h) ?_
 unfold s155
 have N0 := N
 obtain ⟨hl, cells, F, NL⟩ := N
 have F0 := F
 rcases F with ⟨rfl | rfl, h2, hc⟩ | ⟨b, o, cap, k, row, rest, rfl, _⟩
 ·refine Ev.op (show pEq (.slice 25) true .l0 .l0 h = some (.b true, h) from rfl) ?_
  refine yt ?_
  exact Ev.ret ⟨I, ILe.refl _, S, N0⟩
 ·refine Ev.op (show pEq (.slice 25) true .le .l0 h = some (.b false, h) from rfl) ?_
  refine yj ?_
  refine Ev.bs S (cs := []) rfl ?_
  intro b1 h1 S1
  have hks : ks = [] := List.eq_nil_of_length_eq_zero h2
  subst hks
  have hg := S1.memL (List.Mem.head _)
  have e : aX 6 104 (.l b1 0 0 0) .le h1 = some (.l b1 0 0 0, ⟨h1.next, Tr.set (.row .ex []) b1 h1.bl⟩) := by
   unfold aX
   simp only [nY]
   simp [hU, hg, Kind.writable, kB, sW]
  refine Ev.op e ?_
  have S2 : Sy I A Q ((b1, some (.row .ex [])) :: L) ⟨h1.next, Tr.set (.row .ex []) b1 h1.bl⟩ := S1.setL (Rpl.head _) rfl (fun c => Tr.get_set _ _ _ _)
  obtain ⟨J, gJ, S4, F4, _⟩ := Fz.built (sz := 6) (n := 0) S2 (by simp) aW
  exact Ev.ret ⟨J, gJ, S4, by simp, [], F4, rfl⟩
 ·refine Ev.op (show pEq (.slice 25) true (.l b o ks.length cap) .l0 h = some (.b false, h) from rfl) ?_
  refine yj ?_
  refine Ev.bs S (cs := []) rfl ?_
  intro b1 h1 S1
  by_cases hk : ks.length = 0
  ·have hks : ks = [] := List.eq_nil_of_length_eq_zero hk
   subst hks
   have hs : nY 6 (.l b o ([] : List Node).length cap) h1 = some (0, []) := by
    have hc : cells = [] := NL
    rw [F0.src S1.dropL, hc]
    rfl
   have hg := S1.memL (List.Mem.head _)
   have e : aX 6 104 (.l b1 0 0 0) (.l b o ([] : List Node).length cap) h1 = some (.l b1 0 0 0, ⟨h1.next, Tr.set (.row .ex []) b1 h1.bl⟩) := by
    unfold aX
    simp only [hs]
    simp [hU, hg, Kind.writable, kB, sW]
   refine Ev.op e ?_
   have S2 : Sy I A Q ((b1, some (.row .ex [])) :: L) ⟨h1.next, Tr.set (.row .ex []) b1 h1.bl⟩ := S1.setL (Rpl.head _) rfl (fun c => Tr.get_set _ _ _ _)
   obtain ⟨J, gJ, S4, F4, _⟩ := Fz.built (sz := 6) (n := 0) S2 (by simp) aW
   exact Ev.ret ⟨J, gJ, S4, by simp, [], F4, rfl⟩
  ·obtain ⟨J, gJ, S4, F4, G4⟩ := Fz.built (sz := 6) (n := 0) S1 (by simp) aW
   obtain ⟨c1, c2⟩ := NL.shape
   have hr : (0 + ks.length) * 104 ≤ eM := by simp [eM, bL] at hl ⊢; omega
   obtain ⟨x5, h5, B5, e5, S5, G5⟩ := G4.app (A0 := A) S4 ((F0.mono gJ).src S4) c1 c2 hk hr
   refine Ev.op e5 ?_
   obtain ⟨K, gK, S6, F6⟩ := G5.freeze S5
   refine Ev.ret ⟨K, gJ.trans gK, S6, hl, cells, by simpa using F6, (NL.mono gJ).mono gK⟩
theorem eG {I : Im} {A Q L : Ls} {h : Hp} {b : Pos} {kd : Kind} {l : List DV} {o : Nat} {v : DV} (S : Sy I A Q L h) (m : (b, some (.row kd l)) ∈ L) (e : l[o]? = some v) (hv : v.one = true) (hb : DV.beq v v = true) : bP (aD (.p b o) h) v = true := bVd (S := S) m e hv hb
theorem sR (t : List Nat) : DV.beq (.s t) (.s t) = true := by
 have e : vZ t t = true := by rw [jX]
 simp [DV.beq, e]
theorem zO {I : Im} {A Q L : Ls} {h : Hp} (S : Sy I A Q L h) {x : Node} {cs : List DV} (N : NV I x cs) :
 Ev (fun n => aJ n 138 [.a cs] h) (fun v h' => ∃ J ds, v = .a ds ∧ ILe I J ∧ Sy J A Q L h' ∧ NV J (jC x) ds) := by
 refine Ev.enter (fun n => bLr n _ h) ?_
 unfold s138
 have N0 := N
 obtain ⟨k, t, m, ns, ts, ks⟩ := x
 obtain ⟨s1, s2, s3, rfl, a, b, c, cells, F, NL⟩ := N
 have o1 := a.2.one
 have o2 := b.2.one
 have o3 := F.one
 refine wb fun _ _ _ => ?_; refine wa fun _ _ _ => ?_; refine wf ?_; refine wl ?_
 refine Ev.op (F.len _) ?_
 refine Ev.ieq (fun e1 => ?_) (fun e1 => ?_)
 ·refine yt ?_; refine ws ?_; refine wt fun _ _ => ?_; refine ws ?_
  refine Ev.ret ⟨I, _, rfl, ILe.refl _, dp, ?_⟩
  have e2 : ks.length = 0 := by simp at e1; simp [e1]
  rw [show jC (.mk k t m ns ts ks) = .mk k t m ns ts ks by simp [jC, Node.kids, e2]]
  exact N0
 ·refine yj ?_; refine wf ?_; refine wl ?_; refine wf ?_; refine wl ?_
  have e2 : ks.length ≠ 0 := fun e => e1 (by rw [e]; rfl)
  rename_i bb hh SX
  obtain ⟨s4, h4, J, e4, g4, S4, F4, n4⟩ := F.rest SX (i := 1) (by omega) (by omega)
  refine Ev.op e4 ?_
  have N4 : NS J s4 (ks.drop 1) := ⟨by simp; omega, cells.drop (1 * 6), by simpa using F4, (NL.mono g4).drop 1⟩
  refine Ev.call (bQk S4 N4) ?_
  rintro v5 h5 ⟨K, g5, S5, N5⟩
  have o5 := N5.one
  refine Ev.cnd ?_ ?_
  ·rw [Bool.and_true]; exact eG S5 (by repeat (first | exact List.Mem.head _ | apply List.Mem.tail)) rfl rfl (sR _)
  refine wd ?_; refine wt fun _ _ => ?_; refine ws ?_
  refine Ev.ret ⟨K, _, rfl, g4.trans g5, dp, ?_⟩
  rw [show jC (.mk k t m ns ts ks) = cE t (ks.drop 1) by simp [jC, Node.kids, Node.text, e2]]
  exact NV.of (SS.nil K) (SS.nil K) N5
end Go.Dd

