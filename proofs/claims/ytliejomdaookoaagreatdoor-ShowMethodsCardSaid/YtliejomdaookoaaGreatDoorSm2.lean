/- A part of the proof: Q5 Q6 Qt SH R R1 R2 U S1 S2 S3 S4 S5 S6 S7 S8 S10 LV T1 ZR T2 T3 T4 T5 T6 T7: each text has a comment of its own. -/
import Derived.Test.YtliejomdaookoaaGreatDoorSm1
import Derived.Shelf.Strings.Builder1
import Derived.Shelf.Strings.Builder2
import Derived.Shelf.Strings.OnBuilder
import Derived.Shelf.Small.Strs
import Derived.Shelf.Strconv.Itoa0
import Derived.Shelf.Strconv.Itoa1
import Derived.Shelf.LaysM
import Derived.Shelf.Strconv.Itoa2
import Derived.Shelf.Strconv.Itoa3
import Derived.Shelf.Strings.Search1
import Derived.Shelf.Strings.Search2
import Derived.Shelf.Strings.Search3
import Derived.Shelf.Strings.Count
import Derived.Shelf.Strings.Shaped
import Derived.Shelf.Strings.Split
import Derived.Shelf.Strings.Replace
import Derived.Shelf.Unicode.DecodeSlow
import Derived.Test.YtliejomdaookoaaGreatDoorProg
import Derived.Lib.SplitLaws
import Derived.Lib.IndexBytes
import Derived.Lib.Bytealg
import Derived.KernelRfl
import Derived.ChangeArms
import Derived.WalkKit
import Derived.ProofKit
set_option linter.unusedVariables false
set_option linter.unusedSimpArgs false
set_option linter.constructorNameAsVariable false
set_option maxRecDepth 100000
namespace Go.Dd
open Go.Proofs
noncomputable section
variable (r : RT) (n : Nat) (args : List DV) (h : Hp)
def gL (r : RT) (n : Nat) (x0 x3 x4 x7 x9 : DV) (h0 : Hp) : aF :=
 bnd (dC x0 (some x7) (some x9) h0) fun v1 h1 =>
 bnd (aA 1 x3 h1) fun v2 h2 =>
 bnd (aC 1 v2 v1 h2) fun _ h3 =>
 bnd (aD 4 x3 h3) fun v4 h4 =>
 bnd (aC 4 x4 v4 h4) fun _ h5 =>
 bnd (aD 4 x4 h5) fun v6 _ =>
 some (.t [v6, x9, (aG 0)], h5)
def pV (r : RT) (n : Nat) (kk10 : TT5) (x0 x3 x4 x7 x9 : DV) (h0 : Hp) : aF :=
 bnd (r 97 [x0, x9] h0) fun v1 h1 =>
 aV v1 (
 bnd (aH .add x9 (aG 1) h1) fun v2 h2 =>
 bnd (r 95 [x0, v2] h2) fun v3 h3 =>
 bnd (aH .neq v3 (aG 1) h3) fun v4 h4 =>
 aV v4 (
  gL r n x0 x3 x4 x7 v2 h4) (
 bnd (r 96 [x0, v2] h4) fun v5 h5 =>
 bnd (r 97 [x0, v5] h5) fun v6 h6 =>
 bnd (lS .not v6 h6) fun v7 h7 =>
 aV v7 (
  gL r n x0 x3 x4 x7 v2 h7) (
 bnd (aH .sub v5 v2 h7) fun v8 h8 =>
 bnd (aH .gtr v8 (aG 24) h8) fun v9 h9 =>
 aV v9 (
 bnd (aD 4 x3 h9) fun v10 h10 =>
 bnd (aC 4 x4 v10 h10) fun _ h11 =>
 bnd (aD 4 x4 h11) fun v12 _ =>
 some (.t [v12, (aG 0), (aG 12)], h11)) (
  kk10 x0 x3 x4 x7 v5 h9)))) (
  gL r n x0 x3 x4 x7 x9 h1)
def kI (r : RT) (n : Nat) (m : Nat) : TT5 :=
 Nat.rec (motive := fun _ => TT5) (fun _ _ _ _ _ _ => none) (fun _ ih => pV r n ih) m
def aWu (r : RT) (n : Nat) : TT5 := kI r n n
def bFy (r : RT) (n : Nat) (x0 x3 x4 x7 x9 : DV) (h0 : Hp) : aF :=
 aWu r n x0 x3 x4 x7 x9 h0
def bCo (r : RT) (n : Nat) (x0 x3 x4 x7 x9 : DV) (h0 : Hp) : aF :=
 bnd (aH .sub x9 x7 h0) fun v1 h1 =>
 bnd (aH .gtr v1 (aG 24) h1) fun v2 h2 =>
 aV v2 (
 bnd (aD 4 x3 h2) fun v3 h3 =>
 bnd (aC 4 x4 v3 h3) fun _ h4 =>
 bnd (aD 4 x4 h4) fun v5 _ =>
 some (.t [v5, (aG 0), (aG 12)], h4)) (
  bFy r n x0 x3 x4 x7 x9 h2)
def bGi (r : RT) (n : Nat) (x0 x3 x4 x7 : DV) (h0 : Hp) : aF :=
 bnd (r 96 [x0, x7] h0) fun v1 h1 =>
  bCo r n x0 x3 x4 x7 v1 h1
def aDv (r : RT) (n : Nat) (x0 x3 x4 x7 : DV) (h0 : Hp) : aF :=
 bnd (r 95 [x0, x7] h0) fun v1 h1 =>
 bnd (aH .neq v1 (aG 1) h1) fun v2 h2 =>
 aV v2 (
 bnd (aD 4 x3 h2) fun v3 h3 =>
 bnd (aC 4 x4 v3 h3) fun _ h4 =>
 bnd (aD 4 x4 h4) fun v5 _ =>
 some (.t [v5, (aG 0), (aG 10)], h4)) (
  bGi r n x0 x3 x4 x7 h2)
def aHw (r : RT) (n : Nat) (x0 x3 x4 x7 x8 : DV) (h0 : Hp) : aF :=
 bnd (dC x0 (some x7) (some x8) h0) fun v1 h1 =>
 bnd (aA 1 x3 h1) fun v2 h2 =>
 bnd (aC 1 v2 v1 h2) fun _ h3 =>
 bnd (aD 4 x3 h3) fun v4 h4 =>
 bnd (aC 4 x4 v4 h4) fun _ h5 =>
 bnd (aD 4 x4 h5) fun v6 _ =>
 some (.t [v6, x8, (aG 0)], h5)
def bVs (r : RT) (n : Nat) (x0 x3 x4 x7 x8 : DV) (h0 : Hp) : aF :=
 bnd (r 95 [x0, x8] h0) fun v1 h1 =>
 bnd (aH .eql v1 (aG 3) h1) fun v2 h2 =>
 aV v2 (
 bnd (aH .add x8 (aG 1) h2) fun v3 h3 =>
  aHw r n x0 x3 x4 x7 v3 h3) (
  aHw r n x0 x3 x4 x7 x8 h2)
def bWv (r : RT) (n : Nat) (x0 x3 x4 x7 : DV) (h0 : Hp) : aF :=
 bnd (aH .add x7 (aG 1) h0) fun v1 h1 =>
  bVs r n x0 x3 x4 x7 v1 h1
def aIx (r : RT) (n : Nat) (x0 x3 x4 x7 x32 : DV) (h0 : Hp) : aF :=
 aV x32 (
  bWv r n x0 x3 x4 x7 h0) (
  aDv r n x0 x3 x4 x7 h0)
def aYk (r : RT) (n : Nat) (x0 x3 x4 x7 : DV) (h0 : Hp) : aF :=
 bnd (r 95 [x0, x7] h0) fun v1 h1 =>
 bnd (aH .eql v1 (aG 3) h1) fun v2 h2 =>
  aIx r n x0 x3 x4 x7 v2 h2
def aOm (r : RT) (n : Nat) (x0 x3 x4 x7 : DV) (h0 : Hp) : aF :=
 bnd (aA 0 x3 h0) fun v1 h1 =>
 bnd (aC 1 v1 (aG 6) h1) fun _ h2 =>
  aYk r n x0 x3 x4 x7 h2
def bFj (r : RT) (n : Nat) (x0 x3 x4 x7 : DV) (h0 : Hp) : aF :=
 bnd (dE x0 h0) fun v1 h1 =>
 bnd (aH .lss x7 v1 h1) fun v2 h2 =>
 bnd (gD v2 true (some (x0, h2)) h2) fun v3 h3 =>
 bnd (gD v2 true (some (x7, h3)) h3) fun v4 h4 =>
 bnd (gD v2 true (bK v3 v4 h4) h4) fun v5 h5 =>
 bnd (gD v2 true (aH .eql v5 (.i .u8 (Int.ofNat 40)) h5) h5) fun v6 h6 =>
 bnd (bA v2 v6 (.b false) h6) fun v7 h7 =>
 aV v7 (
 bnd (aA 0 x3 h7) fun v8 h8 =>
 bnd (aC 1 v8 (aG 7) h8) fun _ h9 =>
 bnd (aD 4 x3 h9) fun v10 h10 =>
 bnd (aH .add x7 (aG 1) h10) fun v11 h11 =>
 bnd (aC 4 x4 v10 h11) fun _ h12 =>
 bnd (aD 4 x4 h12) fun v13 _ =>
 some (.t [v13, v11, (aG 0)], h12)) (
  aOm r n x0 x3 x4 x7 h7)
def bCy (r : RT) (n : Nat) (x0 x3 x4 : DV) (h0 : Hp) : aF :=
 bnd (aA 3 x3 h0) fun v1 h1 =>
 bnd (aB v1 h1) fun v2 h2 =>
 bnd (aH .add v2 (aG 1) h2) fun v3 h3 =>
  bFj r n x0 x3 x4 v3 h3
def s99 (r : RT) (n : Nat) (x0 x1 : DV) (h0 : Hp) : aF :=
 bnd (eR x1 h0) fun v1 h1 =>
 bnd (bL [(aG 0), (.s []), (aG 0), (aG 0)] h1) fun v2 h2 =>
  bCy r n x0 v1 v2 h2
abbrev c99 : Code := cf Tryz.f99
abbrev bFx := cR c99
abbrev aYv := cR bFx
abbrev bCa := cR aYv
abbrev aXe := cR bCa
abbrev bGl := cR aXe
abbrev bFh := cR bGl
abbrev aZq := cR bFh
abbrev bAs := cR aZq
abbrev dQd := cR bAs
abbrev aHq := cL bAs
abbrev aNl := cL aHq
abbrev sQ := cL aNl
abbrev bUa := cL aZq
abbrev cBb := cL bFh
abbrev cDv := cL bGl
abbrev aCz := cL aXe
abbrev dJd := cR aCz
abbrev cCq := cL aCz
abbrev bQr := cL bCa
abbrev bYh := cL aYv
abbrev bNu := cL bFx
abbrev bMo := cL c99
abbrev r99 : K := bF CF Tryz.f99
def D99 (r : RT) (n : Nat) (c : Code) (X : Nat → K) (k : K) : K := aR CF r 90 n c X r99 k
theorem dJa : D99 r n dQd x0 r99 = (K5 (gL r n) 0 3 4 7 9) := by kernel_rfl
theorem bYf (kk10 : TT5) : D99 r n sQ (xs x0 0 (K5 (gL r n) 0 3 4 7 9)) (K5 kk10 0 3 4 7 9) = (K5 (pV r n kk10) 0 3 4 7 9) := by kernel_rfl
theorem cFp (m : Nat) : aE (fun kk => D99 r n sQ (xs x0 0 (K5 (gL r n) 0 3 4 7 9)) kk) m = (K5 (kI r n m) 0 3 4 7 9) := by
 induction m with
 | zero => exact (by kernel_rfl : aE (fun kk => D99 r n sQ (xs x0 0 (K5 (gL r n) 0 3 4 7 9)) kk) 0 = (K5 (kI r n 0) 0 3 4 7 9))
 | succ m ih =>
  refine (by kernel_rfl : aE (fun kk => D99 r n sQ (xs x0 0 (K5 (gL r n) 0 3 4 7 9)) kk) (m + 1) = D99 r n sQ (xs x0 0 (K5 (gL r n) 0 3 4 7 9)) (aE (fun kk => D99 r n sQ (xs x0 0 (K5 (gL r n) 0 3 4 7 9)) kk) m)).trans ?_
  rw [ih]
  exact (bYf r n (kI r n m)).trans (by kernel_rfl)
theorem cPk : D99 r n aNl (xs x0 0 (K5 (gL r n) 0 3 4 7 9)) (K5 (gL r n) 0 3 4 7 9) = (K5 (aWu r n) 0 3 4 7 9) :=
 (by kernel_rfl : D99 r n aNl (xs x0 0 (K5 (gL r n) 0 3 4 7 9)) (K5 (gL r n) 0 3 4 7 9) = aE (fun kk => D99 r n sQ (xs x0 0 (K5 (gL r n) 0 3 4 7 9)) kk) n).trans ((cFp r n n).trans (by kernel_rfl))
theorem cVh : D99 r n bAs x0 r99 = D99 r n aHq x0 (K5 (gL r n) 0 3 4 7 9) :=
 congrArg (fun k => D99 r n aHq x0 k) (dJa r n)
theorem dMc : D99 r n bAs x0 r99 = (K5 (bFy r n) 0 3 4 7 9) :=
 (cVh r n).trans
 ((by kernel_rfl : D99 r n aHq x0 (K5 (gL r n) 0 3 4 7 9) = D99 r n aNl (xs x0 0 (K5 (gL r n) 0 3 4 7 9)) (K5 (gL r n) 0 3 4 7 9)).trans
 ((cPk r n).trans (by kernel_rfl)))
theorem cKk : D99 r n aZq x0 r99 = D99 r n bUa x0 (K5 (bFy r n) 0 3 4 7 9) :=
 congrArg (fun k => D99 r n bUa x0 k) (dMc r n)
theorem dEe : D99 r n aZq x0 r99 = (K5 (bCo r n) 0 3 4 7 9) :=
 (cKk r n).trans
 ((by kernel_rfl))
theorem cMr : D99 r n bFh x0 r99 = D99 r n cBb x0 (K5 (bCo r n) 0 3 4 7 9) :=
 congrArg (fun k => D99 r n cBb x0 k) (dEe r n)
theorem dLq : D99 r n bFh x0 r99 = (K4 (bGi r n) 0 3 4 7) :=
 (cMr r n).trans
 ((by kernel_rfl))
theorem cPt : D99 r n bGl x0 r99 = D99 r n cDv x0 (K4 (bGi r n) 0 3 4 7) :=
 congrArg (fun k => D99 r n cDv x0 k) (dLq r n)
theorem dIs : D99 r n bGl x0 r99 = (K4 (aDv r n) 0 3 4 7) :=
 (cPt r n).trans
 ((by kernel_rfl))
theorem cNp : D99 r n dJd x0 (K4 (aDv r n) 0 3 4 7) = (K5 (aIx r n) 0 3 4 7 32) := by kernel_rfl
theorem cPc : D99 r n aXe x0 r99 = D99 r n aCz x0 (K4 (aDv r n) 0 3 4 7) :=
 congrArg (fun k => D99 r n aCz x0 k) (dIs r n)
theorem cOi : D99 r n aCz x0 (K4 (aDv r n) 0 3 4 7) = D99 r n cCq x0 (K5 (aIx r n) 0 3 4 7 32) :=
 congrArg (fun k => D99 r n cCq x0 k) (cNp r n)
theorem dCz : D99 r n aXe x0 r99 = (K4 (aYk r n) 0 3 4 7) :=
 (cPc r n).trans
 ((cOi r n).trans
 ((by kernel_rfl)))
theorem cIb : D99 r n bCa x0 r99 = D99 r n bQr x0 (K4 (aYk r n) 0 3 4 7) :=
 congrArg (fun k => D99 r n bQr x0 k) (dCz r n)
theorem dJr : D99 r n bCa x0 r99 = (K4 (aOm r n) 0 3 4 7) :=
 (cIb r n).trans
 ((by kernel_rfl))
theorem bOx : D99 r n aYv x0 r99 = D99 r n bYh x0 (K4 (aOm r n) 0 3 4 7) :=
 congrArg (fun k => D99 r n bYh x0 k) (dJr r n)
theorem dIi : D99 r n aYv x0 r99 = (K4 (bFj r n) 0 3 4 7) :=
 (bOx r n).trans
 ((by kernel_rfl))
theorem bYb : D99 r n bFx x0 r99 = D99 r n bNu x0 (K4 (bFj r n) 0 3 4 7) :=
 congrArg (fun k => D99 r n bNu x0 k) (dIi r n)
theorem dBh : D99 r n bFx x0 r99 = (K3 (bCy r n) 0 3 4) :=
 (bYb r n).trans
 ((by kernel_rfl))
theorem dEr : D99 r n c99 x0 r99 = D99 r n bMo x0 (K3 (bCy r n) 0 3 4) :=
 congrArg (fun k => D99 r n bMo x0 k) (dBh r n)
theorem dYt : D99 r n c99 x0 r99 = (K2 (s99 r n) 0 1) :=
 (dEr r n).trans
 ((by kernel_rfl))
theorem dTp : aL CF r n 99 args h = s99 r n (aS args 0) (aS args 1) h :=
 dI (dYt r n) args h (by kernel_rfl) (by kernel_rfl)
def cBw (r : RT) (n : Nat) (x0 x2 x3 : DV) (h0 : Hp) : aF :=
 bnd (r 68 [x0, (aG 10), (.s [91])] h0) fun v1 h1 =>
 aV v1 (
 bnd (r 131 [x0] h1) fun v2 h2 =>
 bnd (aC 6 x2 v2 h2) fun _ h3 =>
 bnd (aD 6 x2 h3) fun v4 _ =>
 some (v4, h3)) (
 bnd (r 73 [x0, (aG 0)] h1) fun v5 h5 =>
 bnd (r 71 [x0, v5, (aG 13)] h5) fun v6 h6 =>
 bnd (aD 6 x3 h6) fun v7 h7 =>
 bnd (aC 6 x2 v7 h7) fun _ h8 =>
 bnd (aD 6 x2 h8) fun v9 _ =>
 some (v9, h8))
def xJ (r : RT) (n : Nat) (x2 x3 : DV) (h0 : Hp) : aF :=
 bnd (aD 6 x3 h0) fun v1 h1 =>
 bnd (aC 6 x2 v1 h1) fun _ h2 =>
 bnd (aD 6 x2 h2) fun v3 _ =>
 some (v3, h2)
def bDl (r : RT) (n : Nat) (x0 x2 x3 x4 : DV) (h0 : Hp) : aF :=
 aV x4 (
 bnd (r 72 [x0] h0) fun v1 h1 =>
 bnd (aC 6 x3 v1 h1) fun _ h2 =>
 bnd (r 47 [x0, (aG 10), (.s [41])] h2) fun v3 h3 =>
 bnd (bI x0 h3) fun v4 h4 =>
 bnd (aA 2 v4 h4) fun v5 h5 =>
 bnd (aB v5 h5) fun v6 h6 =>
 bnd (aH .sub v6 (aG 1) h6) fun v7 h7 =>
 bnd (bI x0 h7) fun v8 h8 =>
 bnd (aA 2 v8 h8) fun v9 h9 =>
 bnd (aC 1 v9 v7 h9) fun _ h10 =>
  xJ r n x2 x3 h10) (
  xJ r n x2 x3 h0)
def cBf (r : RT) (n : Nat) (x0 x2 x3 : DV) (h0 : Hp) : aF :=
 bnd (r 130 [x0] h0) fun v1 h1 =>
  bDl r n x0 x2 x3 v1 h1
def bWj (r : RT) (n : Nat) (x0 x2 x3 x29 : DV) (h0 : Hp) : aF :=
 aV x29 (
  cBf r n x0 x2 x3 h0) (
  cBw r n x0 x2 x3 h0)
def bOq (r : RT) (n : Nat) (x0 x2 x3 : DV) (h0 : Hp) : aF :=
 bnd (r 68 [x0, (aG 10), (.s [40])] h0) fun v1 h1 =>
  bWj r n x0 x2 x3 v1 h1
def bRs (r : RT) (n : Nat) (x0 x2 x3 : DV) (h0 : Hp) : aF :=
 bnd (r 68 [x0, (aG 7), (.s [])] h0) fun v1 h1 =>
 aV v1 (
 bnd (r 129 [x0] h1) fun v2 h2 =>
 bnd (aC 6 x2 v2 h2) fun _ h3 =>
 bnd (aD 6 x2 h3) fun v4 _ =>
 some (v4, h3)) (
  bOq r n x0 x2 x3 h1)
def bTu (r : RT) (n : Nat) (x0 x2 x3 : DV) (h0 : Hp) : aF :=
 bnd (r 68 [x0, (aG 1), (.s [])] h0) fun v1 h1 =>
 aV v1 (
 bnd (r 69 [x0] h1) fun v2 h2 =>
 bnd (bY 1 v2 h2) fun v3 h3 =>
 bnd (bC cY [(0, 1, (aG 5)), (1, 1, v3)] h3) fun v4 h4 =>
 bnd (aC 6 x2 v4 h4) fun _ h5 =>
 bnd (aD 6 x2 h5) fun v6 _ =>
 some (v6, h5)) (
  bRs r n x0 x2 x3 h1)
def bVi (r : RT) (n : Nat) (x0 x2 x3 x4 : DV) (h0 : Hp) : aF :=
 aV x4 (
 bnd (aD 6 x3 h0) fun v1 h1 =>
 bnd (aC 6 x2 v1 h1) fun _ h2 =>
 bnd (aD 6 x2 h2) fun v3 _ =>
 some (v3, h2)) (
  bTu r n x0 x2 x3 h0)
def bWk (r : RT) (n : Nat) (x0 x2 : DV) (h0 : Hp) : aF :=
 bnd (r 128 [x0] h0) fun v1 h1 =>
 bnd (aP 0 v1 h1) fun v2 h2 =>
 bnd (aP 1 v1 h2) fun v3 h3 =>
 bnd (bL cY h3) fun v4 h4 =>
 bnd (aC 6 v4 v2 h4) fun _ h5 =>
  bVi r n x0 x2 v4 v3 h5
def bZd (r : RT) (n : Nat) (x0 x2 : DV) (h0 : Hp) : aF :=
 bnd (bI x0 h0) fun v1 h1 =>
 bnd (aA 3 v1 h1) fun v2 h2 =>
 bnd (aB v2 h2) fun v3 h3 =>
 bnd (aH .neq v3 (aG 0) h3) fun v4 h4 =>
 aV v4 (
 bnd (bC cY [] h4) fun v5 h5 =>
 bnd (aC 6 x2 v5 h5) fun _ h6 =>
 bnd (aD 6 x2 h6) fun v7 _ =>
 some (v7, h6)) (
  bWk r n x0 x2 h4)
def s100 (r : RT) (n : Nat) (x0 : DV) (h0 : Hp) : aF :=
 bnd (bL cY h0) fun v1 h1 =>
  bZd r n x0 v1 h1
abbrev c100 : Code := cf Tryz.f100
abbrev r100 : K := bF CF Tryz.f100
def D100 (r : RT) (n : Nat) (c : Code) (X : Nat → K) (k : K) : K := aR CF r 54 n c X r100 k
theorem dRp : D100 r n c100 x0 r100 = (K1 (s100 r n) 0) := by kernel_rfl
theorem dGo : aL CF r n 100 args h = s100 r n (aS args 0) h :=
 dI (dRp r n) args h (by kernel_rfl) (by kernel_rfl)
def fJ (r : RT) (n : Nat) (x3 x4 : DV) (h0 : Hp) : aF :=
 bnd (aD 6 x3 h0) fun v1 h1 =>
 bnd (aC 6 x4 v1 h1) fun _ h2 =>
 bnd (aD 6 x4 h2) fun v3 _ =>
 some (v3, h2)
def xL (r : RT) (n : Nat) (kk3 : cZ) (x0 x3 x4 : DV) (h0 : Hp) : aF :=
 bnd (r 68 [x0, (aG 1), (.s [])] h0) fun v1 h1 =>
 aV v1 (
 bnd (r 69 [x0] (fP 1 h1)) fun v2 h2 =>
 bnd (bY 1 v2 h2) fun v3 h3 =>
 bnd (aD 6 x3 h3) fun v4 h4 =>
 cnd (bM (aD 6 x3 (fP 1 h1)) v4 && true) (
 bnd (aW (cS 0 h1.next) cY 1 [(0, 6, v4)] h4) fun v5 h5 =>
 bnd (bC cY [(0, 1, (aG 7)), (1, 1, v3), (5, 1, v5)] h5) fun v6 h6 =>
 bnd (aC 6 x3 v6 h6) fun v7 h7 =>
      kk3 x0 x3 x4 h7)) (
      fJ r n x3 x4 h1)
def nV (r : RT) (n : Nat) (m : Nat) : cZ :=
 Nat.rec (motive := fun _ => cZ) (fun _ _ _ _ => none) (fun _ ih => xL r n ih) m
def aUn (r : RT) (n : Nat) : cZ := nV r n n
def aHu (r : RT) (n : Nat) (x0 x3 x4 : DV) (h0 : Hp) : aF :=
 aUn r n x0 x3 x4 h0
def s101 (r : RT) (n : Nat) (x0 x1 : DV) (h0 : Hp) : aF :=
 bnd (eR x1 h0) fun v1 h1 =>
 bnd (bL cY h1) fun v2 h2 =>
  aHu r n x0 v1 v2 h2
abbrev c101 : Code := cf Tryz.f101
abbrev aJr := cR c101
abbrev dEi := cR aJr
abbrev aLq := cL aJr
abbrev aJw := cL aLq
abbrev sT := cL aJw
abbrev cCn := cL c101
abbrev r101 : K := bF CF Tryz.f101
def D101 (r : RT) (n : Nat) (c : Code) (X : Nat → K) (k : K) : K := aR CF r 14 n c X r101 k
theorem cJp : D101 r n dEi x0 r101 = (K2 (fJ r n) 3 4) := by kernel_rfl
theorem bVd (kk3 : cZ) : D101 r n sT (xs x0 0 (K2 (fJ r n) 3 4)) (K3 kk3 0 3 4) = (K3 (xL r n kk3) 0 3 4) := by kernel_rfl
theorem bUp (m : Nat) : aE (fun kk => D101 r n sT (xs x0 0 (K2 (fJ r n) 3 4)) kk) m = (K3 (nV r n m) 0 3 4) := by
 induction m with
 | zero => exact (by kernel_rfl : aE (fun kk => D101 r n sT (xs x0 0 (K2 (fJ r n) 3 4)) kk) 0 = (K3 (nV r n 0) 0 3 4))
 | succ m ih =>
  refine (by kernel_rfl : aE (fun kk => D101 r n sT (xs x0 0 (K2 (fJ r n) 3 4)) kk) (m + 1) = D101 r n sT (xs x0 0 (K2 (fJ r n) 3 4)) (aE (fun kk => D101 r n sT (xs x0 0 (K2 (fJ r n) 3 4)) kk) m)).trans ?_
  rw [ih]
  exact (bVd r n (nV r n m)).trans (by kernel_rfl)
theorem cHs : D101 r n aJw (xs x0 0 (K2 (fJ r n) 3 4)) (K2 (fJ r n) 3 4) = (K3 (aUn r n) 0 3 4) :=
 (by kernel_rfl : D101 r n aJw (xs x0 0 (K2 (fJ r n) 3 4)) (K2 (fJ r n) 3 4) = aE (fun kk => D101 r n sT (xs x0 0 (K2 (fJ r n) 3 4)) kk) n).trans ((bUp r n n).trans (by kernel_rfl))
theorem bPh : D101 r n aJr x0 r101 = D101 r n aLq x0 (K2 (fJ r n) 3 4) :=
 congrArg (fun k => D101 r n aLq x0 k) (cJp r n)
theorem cJg : D101 r n aJr x0 r101 = (K3 (aHu r n) 0 3 4) :=
 (bPh r n).trans
 ((by kernel_rfl : D101 r n aLq x0 (K2 (fJ r n) 3 4) = D101 r n aJw (xs x0 0 (K2 (fJ r n) 3 4)) (K2 (fJ r n) 3 4)).trans
 ((cHs r n).trans (by kernel_rfl)))
theorem dIu : D101 r n c101 x0 r101 = D101 r n cCn x0 (K3 (aHu r n) 0 3 4) :=
 congrArg (fun k => D101 r n cCn x0 k) (cJg r n)
theorem dVh : D101 r n c101 x0 r101 = (K2 (s101 r n) 0 1) :=
 (dIu r n).trans
 ((by kernel_rfl))
theorem dMs : aL CF r n 101 args h = s101 r n (aS args 0) (aS args 1) h :=
 dI (dVh r n) args h (by kernel_rfl) (by kernel_rfl)
def fR (r : RT) (n : Nat) (x3 x4 : DV) (h0 : Hp) : aF :=
 bnd (aD 6 x3 h0) fun v1 h1 =>
 bnd (aC 6 x4 v1 h1) fun _ h2 =>
 bnd (aD 6 x4 h2) fun v3 _ =>
 some (v3, h2)
def xM (r : RT) (n : Nat) (kk3 : cZ) (x0 x3 x4 : DV) (h0 : Hp) : aF :=
 bnd (r 68 [x0, (aG 3), (.s [])] h0) fun v1 h1 =>
 aV v1 (
 bnd (r 69 [x0] h1) fun v2 h2 =>
 bnd (bY 1 v2 h2) fun v3 h3 =>
 bnd (r 100 [x0] h3) fun v4 h4 =>
 bnd (bL cY h4) fun v5 h5 =>
 bnd (aC 6 v5 v4 h5) fun _ h6 =>
 bnd (aD 6 v5 h6) fun v7 h7 =>
 bnd (r 101 [x0, v7] h7) fun v8 h8 =>
 bnd (aC 6 v5 v8 h8) fun _ h9 =>
 bnd (aD 6 x3 h9) fun v10 h10 =>
 bnd (aD 6 v5 h10) fun v11 h11 =>
 bnd (aN [(aG 0), (.s []), (aG 0), .l0, .l0, .l0, (aG 0), (.s []), (aG 0), .l0, .l0, .l0] 2 [(0, 6, v10), (6, 6, v11)] h11) fun v12 h12 =>
 bnd (bC cY [(0, 1, (aG 7)), (1, 1, v3), (5, 1, v12)] h12) fun v13 h13 =>
 bnd (aC 6 x3 v13 h13) fun _ h14 =>
      kk3 x0 x3 x4 h14) (
      fR r n x3 x4 h1)
def oK (r : RT) (n : Nat) (m : Nat) : cZ :=
 Nat.rec (motive := fun _ => cZ) (fun _ _ _ _ => none) (fun _ ih => xM r n ih) m
def aTz (r : RT) (n : Nat) : cZ := oK r n n
def aLf (r : RT) (n : Nat) (x0 x3 x4 : DV) (h0 : Hp) : aF :=
 aTz r n x0 x3 x4 h0
def s102 (r : RT) (n : Nat) (x0 x1 : DV) (h0 : Hp) : aF :=
 bnd (eR x1 h0) fun v1 h1 =>
 bnd (bL cY h1) fun v2 h2 =>
  aLf r n x0 v1 v2 h2
abbrev c102 : Code := cf Tryz.f102
abbrev aGn := cR c102
abbrev dNp := cR aGn
abbrev aJu := cL aGn
abbrev aKg := cL aJu
abbrev sD := cL aKg
abbrev cCr := cL c102
abbrev r102 : K := bF CF Tryz.f102
def D102 (r : RT) (n : Nat) (c : Code) (X : Nat → K) (k : K) : K := aR CF r 23 n c X r102 k
theorem cPv : D102 r n dNp x0 r102 = (K2 (fR r n) 3 4) := by kernel_rfl
theorem cDx (kk3 : cZ) : D102 r n sD (xs x0 0 (K2 (fR r n) 3 4)) (K3 kk3 0 3 4) = (K3 (xM r n kk3) 0 3 4) := by kernel_rfl
theorem bQf (m : Nat) : aE (fun kk => D102 r n sD (xs x0 0 (K2 (fR r n) 3 4)) kk) m = (K3 (oK r n m) 0 3 4) := by
 induction m with
 | zero => exact (by kernel_rfl : aE (fun kk => D102 r n sD (xs x0 0 (K2 (fR r n) 3 4)) kk) 0 = (K3 (oK r n 0) 0 3 4))
 | succ m ih =>
  refine (by kernel_rfl : aE (fun kk => D102 r n sD (xs x0 0 (K2 (fR r n) 3 4)) kk) (m + 1) = D102 r n sD (xs x0 0 (K2 (fR r n) 3 4)) (aE (fun kk => D102 r n sD (xs x0 0 (K2 (fR r n) 3 4)) kk) m)).trans ?_
  rw [ih]
  exact (cDx r n (oK r n m)).trans (by kernel_rfl)
theorem cTm : D102 r n aKg (xs x0 0 (K2 (fR r n) 3 4)) (K2 (fR r n) 3 4) = (K3 (aTz r n) 0 3 4) :=
 (by kernel_rfl : D102 r n aKg (xs x0 0 (K2 (fR r n) 3 4)) (K2 (fR r n) 3 4) = aE (fun kk => D102 r n sD (xs x0 0 (K2 (fR r n) 3 4)) kk) n).trans ((bQf r n n).trans (by kernel_rfl))
theorem cCc : D102 r n aGn x0 r102 = D102 r n aJu x0 (K2 (fR r n) 3 4) :=
 congrArg (fun k => D102 r n aJu x0 k) (cPv r n)
theorem cIj : D102 r n aGn x0 r102 = (K3 (aLf r n) 0 3 4) :=
 (cCc r n).trans
 ((by kernel_rfl : D102 r n aJu x0 (K2 (fR r n) 3 4) = D102 r n aKg (xs x0 0 (K2 (fR r n) 3 4)) (K2 (fR r n) 3 4)).trans
 ((cTm r n).trans (by kernel_rfl)))
theorem dAn : D102 r n c102 x0 r102 = D102 r n cCr x0 (K3 (aLf r n) 0 3 4) :=
 congrArg (fun k => D102 r n cCr x0 k) (cIj r n)
theorem dQx : D102 r n c102 x0 r102 = (K2 (s102 r n) 0 1) :=
 (dAn r n).trans
 ((by kernel_rfl))
theorem dCq : aL CF r n 102 args h = s102 r n (aS args 0) (aS args 1) h :=
 dI (dQx r n) args h (by kernel_rfl) (by kernel_rfl)
def s103 (r : RT) (n : Nat) (x0 x1 : DV) (h0 : Hp) : aF :=
 bnd (eR x1 h0) fun v1 h1 =>
 bnd (bL cY h1) fun v2 h2 =>
 bnd (r 68 [x0, (aG 2), (.s [])] h2) fun v3 h3 =>
 bnd (lS .not v3 h3) fun v4 h4 =>
 aV v4 (
 bnd (aD 6 v1 h4) fun v5 h5 =>
 bnd (aC 6 v2 v5 h5) fun _ h6 =>
 bnd (aD 6 v2 h6) fun v7 _ =>
 some (v7, h6)) (
 bnd (r 104 [x0] h4) fun v8 h8 =>
 bnd (bL cY h8) fun v9 h9 =>
 bnd (aC 6 v9 v8 h9) fun _ h10 =>
 bnd (aD 6 v1 h10) fun v11 h11 =>
 bnd (aN cY 1 [(0, 6, v11)] h11) fun v12 h12 =>
 bnd (aA 5 v9 h12) fun v13 h13 =>
 bnd (aB v13 h13) fun v14 h14 =>
 bnd (aY 6 104 v12 v14 h14) fun v15 h15 =>
 bnd (aA 1 v9 h15) fun v16 h16 =>
 bnd (aB v16 h16) fun v17 h17 =>
 bnd (bC cY [(0, 1, (aG 7)), (1, 1, v17), (5, 1, v15)] h17) fun v18 h18 =>
 bnd (aC 6 v2 v18 h18) fun _ h19 =>
 bnd (aD 6 v2 h19) fun v20 _ =>
 some (v20, h19))
abbrev c103 : Code := cf Tryz.f103
abbrev r103 : K := bF CF Tryz.f103
def D103 (r : RT) (n : Nat) (c : Code) (X : Nat → K) (k : K) : K := aR CF r 23 n c X r103 k
theorem dTy : D103 r n c103 x0 r103 = (K2 (s103 r n) 0 1) :=
 (by kernel_rfl)
theorem dCr : aL CF r n 103 args h = s103 r n (aS args 0) (aS args 1) h :=
 dI (dTy r n) args h (by kernel_rfl) (by kernel_rfl)
def fK (r : RT) (n : Nat) (x2 x3 : DV) (h0 : Hp) : aF :=
 bnd (aD 6 x3 h0) fun v1 h1 =>
 bnd (aC 6 x2 v1 h1) fun _ h2 =>
 bnd (aD 6 x2 h2) fun v3 _ =>
 some (v3, h2)
def xE (r : RT) (n : Nat) (kk7 : cZ) (x0 x2 x3 : DV) (h0 : Hp) : aF :=
 bnd (r 68 [x0, (aG 2), (.s [])] h0) fun v1 h1 =>
 aV v1 (
 bnd (aA 1 x3 h1) fun v2 h2 =>
 bnd (aB v2 h2) fun v3 h3 =>
 bnd (r 69 [x0] h3) fun v4 h4 =>
 cnd (bM (aB v2 h4) v3 && true) (
 bnd (bY 1 v4 h4) fun v5 h5 =>
 bnd (cB .add v3 v5 h5) fun v6 h6 =>
 bnd (aA 1 x3 h6) fun v7 h7 =>
 bnd (aC 1 v7 v6 h7) fun v8 h8 =>
 bnd (r 100 [x0] h8) fun v9 h9 =>
 bnd (bL cY h9) fun v10 h10 =>
 bnd (aC 6 v10 v9 h10) fun _ h11 =>
 bnd (aD 6 v10 h11) fun v12 h12 =>
 bnd (r 101 [x0, v12] h12) fun v13 h13 =>
 bnd (aC 6 v10 v13 h13) fun _ h14 =>
 bnd (aA 5 x3 (fP 1 h14)) fun v15 h15 =>
 bnd (aB v15 h15) fun v16 h16 =>
 bnd (aD 6 v10 h16) fun v17 h17 =>
 bnd (r 102 [x0, v17] h17) fun v18 h18 =>
 cnd (bM (aB v15 h18) v16 && true) (
 bnd (aW (cS 0 h14.next) cY 1 [(0, 6, v18)] h18) fun v19 h19 =>
 bnd (aY 6 104 v16 v19 h19) fun v20 h20 =>
 bnd (aA 5 x3 h20) fun v21 h21 =>
 bnd (aC 1 v21 v20 h21) fun v22 h22 =>
      kk7 x0 x2 x3 h22))) (
      fK r n x2 x3 h1)
def nI (r : RT) (n : Nat) (m : Nat) : cZ :=
 Nat.rec (motive := fun _ => cZ) (fun _ _ _ _ => none) (fun _ ih => xE r n ih) m
def aIf (r : RT) (n : Nat) : cZ := nI r n n
def vQ (r : RT) (n : Nat) (x0 x2 x3 : DV) (h0 : Hp) : aF :=
 aIf r n x0 x2 x3 h0
def aMq (r : RT) (n : Nat) (x0 x2 x3 : DV) (h0 : Hp) : aF :=
 bnd (r 68 [x0, (aG 2), (.s [])] h0) fun v1 h1 =>
 bnd (lS .not v1 h1) fun v2 h2 =>
 aV v2 (
 bnd (r 73 [x0, (aG 0)] h2) fun v3 h3 =>
 bnd (r 71 [x0, v3, (aG 13)] h3) fun v4 h4 =>
  vQ r n x0 x2 x3 h4) (
  vQ r n x0 x2 x3 h2)
def aHe (r : RT) (n : Nat) (x0 x2 x3 : DV) (h0 : Hp) : aF :=
 bnd (r 68 [x0, (aG 3), (.s [])] h0) fun v1 h1 =>
 aV v1 (
 bnd (r 69 [x0] h1) fun v2 h2 =>
 bnd (bY 1 v2 h2) fun v3 h3 =>
 bnd (aA 1 x3 h3) fun v4 h4 =>
 bnd (aC 1 v4 v3 h4) fun _ h5 =>
 bnd (r 100 [x0] h5) fun v6 h6 =>
 bnd (bL cY h6) fun v7 h7 =>
 bnd (aC 6 v7 v6 h7) fun _ h8 =>
 bnd (aA 5 x3 (fP 1 h8)) fun v9 h9 =>
 bnd (aB v9 h9) fun v10 h10 =>
 bnd (aD 6 v7 h10) fun v11 h11 =>
 bnd (r 101 [x0, v11] h11) fun v12 h12 =>
 cnd (bM (aB v9 h12) v10 && true) (
 bnd (aW (cS 0 h8.next) cY 1 [(0, 6, v12)] h12) fun v13 h13 =>
 bnd (aY 6 104 v10 v13 h13) fun v14 h14 =>
 bnd (aA 5 x3 h14) fun v15 h15 =>
 bnd (aC 1 v15 v14 h15) fun v16 h16 =>
 bnd (aD 6 x3 h16) fun v17 h17 =>
 bnd (aC 6 x2 v17 h17) fun _ h18 =>
 bnd (aD 6 x2 h18) fun v19 _ =>
 some (v19, h18))) (
  aMq r n x0 x2 x3 h1)
def aIc (r : RT) (n : Nat) (x0 x2 x3 : DV) (h0 : Hp) : aF :=
 bnd (r 68 [x0, (aG 1), (.s [])] h0) fun v1 h1 =>
 aV v1 (
 bnd (r 69 [x0] h1) fun v2 h2 =>
 bnd (bY 1 v2 h2) fun v3 h3 =>
 bnd (aA 1 x3 h3) fun v4 h4 =>
 bnd (aC 1 v4 v3 h4) fun _ h5 =>
 bnd (aD 6 x3 h5) fun v6 h6 =>
 bnd (aC 6 x2 v6 h6) fun _ h7 =>
 bnd (aD 6 x2 h7) fun v8 _ =>
 some (v8, h7)) (
  aHe r n x0 x2 x3 h1)
def aIn (r : RT) (n : Nat) (x0 x2 : DV) (h0 : Hp) : aF :=
 bnd (bC cY [(0, 1, (aG 7))] h0) fun v1 h1 =>
 bnd (bL cY h1) fun v2 h2 =>
 bnd (aC 6 v2 v1 h2) fun _ h3 =>
  aIc r n x0 x2 v2 h3
def s104 (r : RT) (n : Nat) (x0 : DV) (h0 : Hp) : aF :=
 bnd (bL cY h0) fun v1 h1 =>
  aIn r n x0 v1 h1
abbrev c104 : Code := cf Tryz.f104
abbrev aJa := cR c104
abbrev aLd := cR aJa
abbrev aJd := cR aLd
abbrev aJq := cR aJd
abbrev aKq := cR aJq
abbrev dBj := cR aKq
abbrev aMf := cL aKq
abbrev aNr := cL aMf
abbrev rJ := cL aNr
abbrev bDm := cL aJq
abbrev aXl := cL aJd
abbrev bHk := cL aLd
abbrev bHa := cL aJa
abbrev bBv := cL c104
abbrev r104 : K := bF CF Tryz.f104
def D104 (r : RT) (n : Nat) (c : Code) (X : Nat → K) (k : K) : K := aR CF r 61 n c X r104 k
theorem cKo : D104 r n dBj x0 r104 = (K2 (fK r n) 2 3) := by kernel_rfl
theorem cDy (kk7 : cZ) : D104 r n rJ (xs x0 0 (K2 (fK r n) 2 3)) (K3 kk7 0 2 3) = (K3 (xE r n kk7) 0 2 3) := by kernel_rfl
theorem bSb (m : Nat) : aE (fun kk => D104 r n rJ (xs x0 0 (K2 (fK r n) 2 3)) kk) m = (K3 (nI r n m) 0 2 3) := by
 induction m with
 | zero => exact (by kernel_rfl : aE (fun kk => D104 r n rJ (xs x0 0 (K2 (fK r n) 2 3)) kk) 0 = (K3 (nI r n 0) 0 2 3))
 | succ m ih =>
  refine (by kernel_rfl : aE (fun kk => D104 r n rJ (xs x0 0 (K2 (fK r n) 2 3)) kk) (m + 1) = D104 r n rJ (xs x0 0 (K2 (fK r n) 2 3)) (aE (fun kk => D104 r n rJ (xs x0 0 (K2 (fK r n) 2 3)) kk) m)).trans ?_
  rw [ih]
  exact (cDy r n (nI r n m)).trans (by kernel_rfl)
theorem cUh : D104 r n aNr (xs x0 0 (K2 (fK r n) 2 3)) (K2 (fK r n) 2 3) = (K3 (aIf r n) 0 2 3) :=
 (by kernel_rfl : D104 r n aNr (xs x0 0 (K2 (fK r n) 2 3)) (K2 (fK r n) 2 3) = aE (fun kk => D104 r n rJ (xs x0 0 (K2 (fK r n) 2 3)) kk) n).trans ((bSb r n n).trans (by kernel_rfl))
theorem bOo : D104 r n aKq x0 r104 = D104 r n aMf x0 (K2 (fK r n) 2 3) :=
 congrArg (fun k => D104 r n aMf x0 k) (cKo r n)
theorem cPq : D104 r n aKq x0 r104 = (K3 (vQ r n) 0 2 3) :=
 (bOo r n).trans
 ((by kernel_rfl : D104 r n aMf x0 (K2 (fK r n) 2 3) = D104 r n aNr (xs x0 0 (K2 (fK r n) 2 3)) (K2 (fK r n) 2 3)).trans
 ((cUh r n).trans (by kernel_rfl)))
theorem bXb : D104 r n aJq x0 r104 = D104 r n bDm x0 (K3 (vQ r n) 0 2 3) :=
 congrArg (fun k => D104 r n bDm x0 k) (cPq r n)
theorem cVf : D104 r n aJq x0 r104 = (K3 (aMq r n) 0 2 3) :=
 (bXb r n).trans
 ((by kernel_rfl))
theorem bPt : D104 r n aJd x0 r104 = D104 r n aXl x0 (K3 (aMq r n) 0 2 3) :=
 congrArg (fun k => D104 r n aXl x0 k) (cVf r n)
theorem cQo : D104 r n aJd x0 r104 = (K3 (aHe r n) 0 2 3) :=
 (bPt r n).trans
 ((by kernel_rfl))
theorem cDi : D104 r n aLd x0 r104 = D104 r n bHk x0 (K3 (aHe r n) 0 2 3) :=
 congrArg (fun k => D104 r n bHk x0 k) (cQo r n)
theorem cMq : D104 r n aLd x0 r104 = (K3 (aIc r n) 0 2 3) :=
 (cDi r n).trans
 ((by kernel_rfl))
theorem bYt : D104 r n aJa x0 r104 = D104 r n bHa x0 (K3 (aIc r n) 0 2 3) :=
 congrArg (fun k => D104 r n bHa x0 k) (cMq r n)
theorem cSb : D104 r n aJa x0 r104 = (K2 (aIn r n) 0 2) :=
 (bYt r n).trans
 ((by kernel_rfl))
theorem dKo : D104 r n c104 x0 r104 = D104 r n bBv x0 (K2 (aIn r n) 0 2) :=
 congrArg (fun k => D104 r n bBv x0 k) (cSb r n)
theorem dOy : D104 r n c104 x0 r104 = (K1 (s104 r n) 0) :=
 (dKo r n).trans
 ((by kernel_rfl))
theorem dCx : aL CF r n 104 args h = s104 r n (aS args 0) h :=
 dI (dOy r n) args h (by kernel_rfl) (by kernel_rfl)
def s105 (r : RT) (n : Nat) (x0 x1 : DV) (h0 : Hp) : aF :=
 bnd (aB x1 h0) fun v1 h1 =>
 bnd (r 57 [v1, x0] h1) fun v2 h2 =>
 bnd (aH .geq v2 (aG 0) h2) fun v3 h3 =>
 some (v3, h3)
abbrev c105 : Code := cf Tryz.f105
abbrev r105 : K := bF CF Tryz.f105
def D105 (r : RT) (n : Nat) (c : Code) (X : Nat → K) (k : K) : K := aR CF r 8 n c X r105 k
theorem dWc : D105 r n c105 x0 r105 = (K2 (s105 r n) 0 1) :=
 (by kernel_rfl)
theorem dEu : aL CF r n 105 args h = s105 r n (aS args 0) (aS args 1) h :=
 dI (dWc r n) args h (by kernel_rfl) (by kernel_rfl)
def s106 (r : RT) (n : Nat) (x0 x1 : DV) (h0 : Hp) : aF :=
 bnd (bI x0 h0) fun v1 h1 =>
 bnd (aA 1 v1 h1) fun v2 h2 =>
 bnd (aB v2 h2) fun v3 h3 =>
 bnd (aH .add v3 x1 h3) fun v4 h4 =>
 bnd (bI x0 h4) fun v5 h5 =>
 bnd (aA 0 v5 h5) fun v6 h6 =>
 bnd (aB v6 h6) fun v7 h7 =>
 bnd (dE v7 h7) fun v8 h8 =>
 bnd (aH .geq v4 v8 h8) fun v9 h9 =>
 aV v9 (
 some ((.i .u8 (Int.ofNat 0)), h9)) (
 bnd (bI x0 h9) fun v10 h10 =>
 bnd (aA 0 v10 h10) fun v11 h11 =>
 bnd (aB v11 h11) fun v12 h12 =>
 bnd (bI x0 h12) fun v13 h13 =>
 bnd (aA 1 v13 h13) fun v14 h14 =>
 bnd (aB v14 h14) fun v15 h15 =>
 bnd (aH .add v15 x1 h15) fun v16 h16 =>
 bnd (bK v12 v16 h16) fun v17 h17 =>
 some (v17, h17))
abbrev c106 : Code := cf Tryz.f106
abbrev r106 : K := bF CF Tryz.f106
def D106 (r : RT) (n : Nat) (c : Code) (X : Nat → K) (k : K) : K := aR CF r 28 n c X r106 k
theorem dPk : D106 r n c106 x0 r106 = (K2 (s106 r n) 0 1) :=
 (by kernel_rfl)
theorem dNu : aL CF r n 106 args h = s106 r n (aS args 0) (aS args 1) h :=
 dI (dPk r n) args h (by kernel_rfl) (by kernel_rfl)
def s107 (r : RT) (n : Nat) (x0 : DV) (h0 : Hp) : aF :=
 bnd (aH .geq x0 (.i .u8 (Int.ofNat 97)) h0) fun v1 h1 =>
 bnd (gD v1 true (some (x0, h1)) h1) fun v2 h2 =>
 bnd (gD v1 true (aH .leq v2 (.i .u8 (Int.ofNat 122)) h2) h2) fun v3 h3 =>
 bnd (bA v1 v3 (.b false) h3) fun v4 h4 =>
 bnd (gD v4 false (some (x0, h4)) h4) fun v5 h5 =>
 bnd (gD v4 false (aH .geq v5 (.i .u8 (Int.ofNat 65)) h5) h5) fun v6 h6 =>
 bnd (gD v4 false (some (v6, h6)) h6) fun v7 h7 =>
 bnd (gD v7 true (some (x0, h7)) h7) fun v8 h8 =>
 bnd (gD v7 true (aH .leq v8 (.i .u8 (Int.ofNat 90)) h8) h8) fun v9 h9 =>
 bnd (gD v4 false (bA v7 v9 (.b false) h9) h9) fun v10 h10 =>
 bnd (bA v4 (.b true) v10 h10) fun v11 h11 =>
 some (v11, h11)
abbrev c107 : Code := cf Tryz.f107
abbrev r107 : K := bF CF Tryz.f107
def D107 (r : RT) (n : Nat) (c : Code) (X : Nat → K) (k : K) : K := aR CF r 17 n c X r107 k
theorem dVl : D107 r n c107 x0 r107 = (K1 (s107 r n) 0) :=
 (by kernel_rfl)
theorem dDu : aL CF r n 107 args h = s107 r n (aS args 0) h :=
 dI (dVl r n) args h (by kernel_rfl) (by kernel_rfl)
def s108 (r : RT) (n : Nat) (x0 : DV) (h0 : Hp) : aF :=
 bnd (bI x0 h0) fun v1 h1 =>
 bnd (aA 0 v1 h1) fun v2 h2 =>
 bnd (aB v2 h2) fun v3 h3 =>
 bnd (dE v3 h3) fun v4 h4 =>
 bnd (r 74 [x0, (.f 132 [] []), v4] h4) fun v5 h5 =>
 bnd (dE v5 h5) fun v6 h6 =>
 bnd (aH .gtr v6 (aG 24) h6) fun v7 h7 =>
 aV v7 (
 some (.t [(.s []), (aG 12)], h7)) (
 some (.t [v5, (aG 0)], h7))
abbrev c108 : Code := cf Tryz.f108
abbrev r108 : K := bF CF Tryz.f108
def D108 (r : RT) (n : Nat) (c : Code) (X : Nat → K) (k : K) : K := aR CF r 16 n c X r108 k
theorem dVb : D108 r n c108 x0 r108 = (K1 (s108 r n) 0) :=
 (by kernel_rfl)
theorem dGh : aL CF r n 108 args h = s108 r n (aS args 0) h :=
 dI (dVb r n) args h (by kernel_rfl) (by kernel_rfl)
def s109 (r : RT) (n : Nat) (x0 : DV) (h0 : Hp) : aF :=
 bnd (r 106 [x0, (aG 0)] h0) fun v1 h1 =>
 bnd (aH .neq v1 (.i .u8 (Int.ofNat 58)) h1) fun v2 h2 =>
 bnd (gD v2 false (some (x0, h2)) h2) fun v3 h3 =>
 bnd (gD v2 false (r 106 [v3, (aG 1)] h3) h3) fun v4 h4 =>
 bnd (gD v2 false (aH .eql v4 (.i .u8 (Int.ofNat 61)) h4) h4) fun v5 h5 =>
 bnd (bA v2 (.b true) v5 h5) fun v6 h6 =>
 aV v6 (
 some ((.b false), h6)) (
 bnd (bI x0 h6) fun v7 h7 =>
 bnd (aA 1 v7 h7) fun v8 h8 =>
 bnd (aB v8 h8) fun v9 h9 =>
 bnd (aH .add v9 (aG 1) h9) fun v10 h10 =>
 bnd (bI x0 h10) fun v11 h11 =>
 bnd (aA 1 v11 h11) fun v12 h12 =>
 bnd (aC 1 v12 v10 h12) fun _ h13 =>
 some ((.b true), h13))
abbrev c109 : Code := cf Tryz.f109
abbrev r109 : K := bF CF Tryz.f109
def D109 (r : RT) (n : Nat) (c : Code) (X : Nat → K) (k : K) : K := aR CF r 18 n c X r109 k
theorem dVi : D109 r n c109 x0 r109 = (K1 (s109 r n) 0) :=
 (by kernel_rfl)
theorem dHf : aL CF r n 109 args h = s109 r n (aS args 0) h :=
 dI (dVi r n) args h (by kernel_rfl) (by kernel_rfl)
def s110 (r : RT) (n : Nat) (x0 : DV) (h0 : Hp) : aF :=
 bnd (aH .geq x0 (.i .u8 (Int.ofNat 48)) h0) fun v1 h1 =>
 bnd (gD v1 true (some (x0, h1)) h1) fun v2 h2 =>
 bnd (gD v1 true (aH .leq v2 (.i .u8 (Int.ofNat 57)) h2) h2) fun v3 h3 =>
 bnd (bA v1 v3 (.b false) h3) fun v4 h4 =>
 some (v4, h4)
abbrev c110 : Code := cf Tryz.f110
abbrev r110 : K := bF CF Tryz.f110
def D110 (r : RT) (n : Nat) (c : Code) (X : Nat → K) (k : K) : K := aR CF r 9 n c X r110 k
theorem dOx : D110 r n c110 x0 r110 = (K1 (s110 r n) 0) :=
 (by kernel_rfl)
theorem dFk : aL CF r n 110 args h = s110 r n (aS args 0) h :=
 dI (dOx r n) args h (by kernel_rfl) (by kernel_rfl)
def eX (r : RT) (n : Nat) (x4 : DV) (h0 : Hp) : aF :=
 some (.t [x4, (aG 0)], h0)
def qF (r : RT) (n : Nat) (kk5 : dS) (x4 x14 : DV) (h0 : Hp) : aF :=
 bnd (vZ x14 h0) fun v1 h1 =>
 bnd (aP 0 v1 h1) fun v2 h2 =>
 aV v2 (
 bnd (aP 2 v1 h2) fun v3 h3 =>
 bnd (aH .gtr x4 (aG 115292150460684697) h3) fun v4 h4 =>
 aV v4 (
 some (.t [(aG 0), (aG 2)], h4)) (
 bnd (aH .mul x4 (aG 10) h4) fun v5 h5 =>
 bnd (aH .sub v3 (.i .i32 (Int.ofNat 48)) h5) fun v6 h6 =>
 bnd (lB .i64 v6 h6) fun v7 h7 =>
 bnd (aH .add v5 v7 h7) fun v8 h8 =>
 bnd (aH .gtr v8 (aG 1152921504606846976) h8) fun v9 h9 =>
 aV v9 (
 some (.t [(aG 0), (aG 2)], h9)) (
  kk5 v8 x14 h9))) (
  eX r n x4 h2)
def kN (r : RT) (n : Nat) (m : Nat) : dS :=
 Nat.rec (motive := fun _ => dS) (fun _ _ _ => none) (fun _ ih => qF r n ih) m
def aUl (r : RT) (n : Nat) : dS := kN r n n
def aHk (r : RT) (n : Nat) (x4 x14 : DV) (h0 : Hp) : aF :=
 aUl r n x4 x14 h0
def aIu (r : RT) (n : Nat) (x0 x4 : DV) (h0 : Hp) : aF :=
 bnd (bI x0 h0) fun v1 h1 =>
 bnd (aA 0 v1 h1) fun v2 h2 =>
 bnd (aB v2 h2) fun v3 h3 =>
 bnd (dE v3 h3) fun v4 h4 =>
 bnd (r 74 [x0, (.f 110 [] []), v4] h4) fun v5 h5 =>
 bnd (aKs v5 h5) fun v6 h6 =>
  aHk r n x4 v6 h6
def aKk (r : RT) (n : Nat) (x0 : DV) (h0 : Hp) : aF :=
 aIu r n x0 (aG 0) h0
def s111 (r : RT) (n : Nat) (x0 : DV) (h0 : Hp) : aF :=
 aKk r n x0 h0
abbrev c111 : Code := cf Tryz.f111
abbrev aLm := cR c111
abbrev aKl := cR aLm
abbrev dHz := cR aKl
abbrev aDc := cL aKl
abbrev aTd := cR aDc
abbrev aGz := cL aTd
abbrev sR := cL aGz
abbrev bQo := cL aDc
abbrev bYi := cL aLm
abbrev bHy := cL c111
abbrev r111 : K := bF CF Tryz.f111
def D111 (r : RT) (n : Nat) (c : Code) (X : Nat → K) (k : K) : K := aR CF r 29 n c X r111 k
theorem cMo : D111 r n dHz x0 r111 = (K1 (eX r n) 4) := by kernel_rfl
theorem bXt (kk5 : dS) : D111 r n sR (xs x0 0 (K1 (eX r n) 4)) (K2 kk5 4 14) = (K2 (qF r n kk5) 4 14) := by kernel_rfl
theorem cAp (m : Nat) : aE (fun kk => D111 r n sR (xs x0 0 (K1 (eX r n) 4)) kk) m = (K2 (kN r n m) 4 14) := by
 induction m with
 | zero => exact (by kernel_rfl : aE (fun kk => D111 r n sR (xs x0 0 (K1 (eX r n) 4)) kk) 0 = (K2 (kN r n 0) 4 14))
 | succ m ih =>
  refine (by kernel_rfl : aE (fun kk => D111 r n sR (xs x0 0 (K1 (eX r n) 4)) kk) (m + 1) = D111 r n sR (xs x0 0 (K1 (eX r n) 4)) (aE (fun kk => D111 r n sR (xs x0 0 (K1 (eX r n) 4)) kk) m)).trans ?_
  rw [ih]
  exact (bXt r n (kN r n m)).trans (by kernel_rfl)
theorem cHa : D111 r n aGz (xs x0 0 (K1 (eX r n) 4)) (K1 (eX r n) 4) = (K2 (aUl r n) 4 14) :=
 (by kernel_rfl : D111 r n aGz (xs x0 0 (K1 (eX r n) 4)) (K1 (eX r n) 4) = aE (fun kk => D111 r n sR (xs x0 0 (K1 (eX r n) 4)) kk) n).trans ((cAp r n n).trans (by kernel_rfl))
theorem cUw : D111 r n aTd x0 (K1 (eX r n) 4) = (K2 (aHk r n) 4 14) :=
 (by kernel_rfl : D111 r n aTd x0 (K1 (eX r n) 4) = D111 r n aGz (xs x0 0 (K1 (eX r n) 4)) (K1 (eX r n) 4)).trans
 ((cHa r n).trans (by kernel_rfl))
theorem cCx : D111 r n aKl x0 r111 = D111 r n aDc x0 (K1 (eX r n) 4) :=
 congrArg (fun k => D111 r n aDc x0 k) (cMo r n)
theorem cAg : D111 r n aDc x0 (K1 (eX r n) 4) = D111 r n bQo x0 (K2 (aHk r n) 4 14) :=
 congrArg (fun k => D111 r n bQo x0 k) (cUw r n)
theorem cMl : D111 r n aKl x0 r111 = (K2 (aIu r n) 0 4) :=
 (cCx r n).trans
 ((cAg r n).trans
 ((by kernel_rfl)))
theorem bMa : D111 r n aLm x0 r111 = D111 r n bYi x0 (K2 (aIu r n) 0 4) :=
 congrArg (fun k => D111 r n bYi x0 k) (cMl r n)
theorem cKf : D111 r n aLm x0 r111 = (K1 (aKk r n) 0) :=
 (bMa r n).trans
 ((by kernel_rfl))
theorem dBy : D111 r n c111 x0 r111 = D111 r n bHy x0 (K1 (aKk r n) 0) :=
 congrArg (fun k => D111 r n bHy x0 k) (cKf r n)
theorem dPy : D111 r n c111 x0 r111 = (K1 (s111 r n) 0) :=
 (dBy r n).trans
 ((by kernel_rfl))
theorem dIm : aL CF r n 111 args h = s111 r n (aS args 0) h :=
 dI (dPy r n) args h (by kernel_rfl) (by kernel_rfl)
def wX (r : RT) (n : Nat) (kk3 : dS) (x0 x4 : DV) (h0 : Hp) : aF :=
 bnd (bI x0 h0) fun v1 h1 =>
 bnd (aA 0 v1 h1) fun v2 h2 =>
 bnd (aB v2 h2) fun v3 h3 =>
 bnd (dE v3 h3) fun v4 h4 =>
 bnd (r 74 [x0, (.f 133 [] []), v4] h4) fun v5 h5 =>
 bnd (cB .add x4 v5 h5) fun v6 h6 =>
 bnd (bI x0 h6) fun v7 h7 =>
 bnd (aA 1 v7 h7) fun v8 h8 =>
 bnd (aB v8 h8) fun v9 h9 =>
 bnd (bI x0 h9) fun v10 h10 =>
 bnd (aA 0 v10 h10) fun v11 h11 =>
 bnd (aB v11 h11) fun v12 h12 =>
 bnd (dE v12 h12) fun v13 h13 =>
 bnd (aH .geq v9 v13 h13) fun v14 h14 =>
 aV v14 (
 some (.t [(.s []), (aG 11)], h14)) (
 bnd (bI x0 h14) fun v15 h15 =>
 bnd (aA 1 v15 h15) fun v16 h16 =>
 bnd (aB v16 h16) fun v17 h17 =>
 bnd (aH .add v17 (aG 1) h17) fun v18 h18 =>
 bnd (bI x0 h18) fun v19 h19 =>
 bnd (aA 1 v19 h19) fun v20 h20 =>
 bnd (aC 1 v20 v18 h20) fun _ h21 =>
 bnd (r 106 [x0, (aG 0)] h21) fun v22 h22 =>
 bnd (aH .neq v22 (.i .u8 (Int.ofNat 39)) h22) fun v23 h23 =>
 aV v23 (
 some (.t [v6, (aG 0)], h23)) (
 bnd (cB .add v6 (.s [39]) h23) fun v24 h24 =>
 bnd (bI x0 h24) fun v25 h25 =>
 bnd (aA 1 v25 h25) fun v26 h26 =>
 bnd (aB v26 h26) fun v27 h27 =>
 bnd (aH .add v27 (aG 1) h27) fun v28 h28 =>
 bnd (bI x0 h28) fun v29 h29 =>
 bnd (aA 1 v29 h29) fun v30 h30 =>
 bnd (aC 1 v30 v28 h30) fun _ h31 =>
  kk3 x0 v24 h31))
def nX (r : RT) (n : Nat) (m : Nat) : dS :=
 Nat.rec (motive := fun _ => dS) (fun _ _ _ => none) (fun _ ih => wX r n ih) m
def aTc (r : RT) (n : Nat) : dS := nX r n n
def aIq (r : RT) (n : Nat) (x0 x4 : DV) (h0 : Hp) : aF :=
 aTc r n x0 x4 h0
def aIi (r : RT) (n : Nat) (x0 : DV) (h0 : Hp) : aF :=
 aIq r n x0 (.s []) h0
def s112 (r : RT) (n : Nat) (x0 : DV) (h0 : Hp) : aF :=
 aIi r n x0 h0
abbrev c112 : Code := cf Tryz.f112
abbrev aJo := cR c112
abbrev aWb := cR aJo
abbrev aIe := cL aWb
abbrev tH := cL aIe
abbrev bPq := cL aJo
abbrev bQc := cL c112
abbrev r112 : K := bF CF Tryz.f112
def D112 (r : RT) (n : Nat) (c : Code) (X : Nat → K) (k : K) : K := aR CF r 44 n c X r112 k
theorem bPj (kk3 : dS) : D112 r n tH (xs x0 0 r112) (K2 kk3 0 4) = (K2 (wX r n kk3) 0 4) := by kernel_rfl
theorem bUq (m : Nat) : aE (fun kk => D112 r n tH (xs x0 0 r112) kk) m = (K2 (nX r n m) 0 4) := by
 induction m with
 | zero => exact (by kernel_rfl : aE (fun kk => D112 r n tH (xs x0 0 r112) kk) 0 = (K2 (nX r n 0) 0 4))
 | succ m ih =>
  refine (by kernel_rfl : aE (fun kk => D112 r n tH (xs x0 0 r112) kk) (m + 1) = D112 r n tH (xs x0 0 r112) (aE (fun kk => D112 r n tH (xs x0 0 r112) kk) m)).trans ?_
  rw [ih]
  exact (bPj r n (nX r n m)).trans (by kernel_rfl)
theorem cNg : D112 r n aIe (xs x0 0 r112) r112 = (K2 (aTc r n) 0 4) :=
 (by kernel_rfl : D112 r n aIe (xs x0 0 r112) r112 = aE (fun kk => D112 r n tH (xs x0 0 r112) kk) n).trans ((bUq r n n).trans (by kernel_rfl))
theorem cRf : D112 r n aWb x0 r112 = (K2 (aIq r n) 0 4) :=
 (by kernel_rfl : D112 r n aWb x0 r112 = D112 r n aIe (xs x0 0 r112) r112).trans
 ((cNg r n).trans (by kernel_rfl))
theorem bSh : D112 r n aJo x0 r112 = D112 r n bPq x0 (K2 (aIq r n) 0 4) :=
 congrArg (fun k => D112 r n bPq x0 k) (cRf r n)
theorem cPd : D112 r n aJo x0 r112 = (K1 (aIi r n) 0) :=
 (bSh r n).trans
 ((by kernel_rfl))
theorem dDz : D112 r n c112 x0 r112 = D112 r n bQc x0 (K1 (aIi r n) 0) :=
 congrArg (fun k => D112 r n bQc x0 k) (cPd r n)
theorem dUr : D112 r n c112 x0 r112 = (K1 (s112 r n) 0) :=
 (dDz r n).trans
 ((by kernel_rfl))
theorem dLi : aL CF r n 112 args h = s112 r n (aS args 0) h :=
 dI (dUr r n) args h (by kernel_rfl) (by kernel_rfl)
def fO (r : RT) (n : Nat) (x5 : DV) (h0 : Hp) : aF :=
 some (.t [x5, (aG 0)], h0)
def xR (r : RT) (n : Nat) (kk8 : dS) (x0 x5 : DV) (h0 : Hp) : aF :=
 bnd (r 106 [x0, (aG 0)] h0) fun v1 h1 =>
 bnd (r 107 [v1] h1) fun v2 h2 =>
 aV v2 (
 bnd (bI x0 h2) fun v3 h3 =>
 bnd (aA 1 v3 h3) fun v4 h4 =>
 bnd (aB v4 h4) fun v5 h5 =>
 bnd (r 108 [x0] h5) fun v6 h6 =>
 bnd (aP 0 v6 h6) fun v7 h7 =>
 bnd (aP 1 v6 h7) fun v8 h8 =>
 bnd (r 109 [x0] h8) fun v9 h9 =>
 bnd (lS .not v9 h9) fun v10 h10 =>
 aV v10 (
 bnd (bI x0 h10) fun v11 h11 =>
 bnd (aA 1 v11 h11) fun v12 h12 =>
 bnd (aC 1 v12 v5 h12) fun _ h13 =>
 some (.t [x5, (aG 0)], h13)) (
 bnd (aH .neq v8 (aG 0) h10) fun v14 h14 =>
 aV v14 (
 some (.t [(.s []), v8], h14)) (
 bnd (cB .add v7 (.s [58]) h14) fun v15 h15 =>
 bnd (cB .add x5 v15 h15) fun v16 h16 =>
  kk8 x0 v16 h16))) (
      fO r n x5 h2)
def oA (r : RT) (n : Nat) (m : Nat) : dS :=
 Nat.rec (motive := fun _ => dS) (fun _ _ _ => none) (fun _ ih => xR r n ih) m
def aVq (r : RT) (n : Nat) : dS := oA r n n
def aMm (r : RT) (n : Nat) (x0 x5 : DV) (h0 : Hp) : aF :=
 aVq r n x0 x5 h0
def aHb (r : RT) (n : Nat) (x0 x5 : DV) (h0 : Hp) : aF :=
 bnd (cB .add x5 (.s [58]) h0) fun v1 h1 =>
  aMm r n x0 v1 h1
def aIm (r : RT) (n : Nat) (x0 x5 x6 : DV) (h0 : Hp) : aF :=
 bnd (aH .neq x6 (aG 0) h0) fun v1 h1 =>
 bnd (gD v1 false (some (x0, h1)) h1) fun v2 h2 =>
 bnd (gD v1 false (r 109 [v2] h2) h2) fun v3 h3 =>
 bnd (gD v1 false (lS .not v3 h3) h3) fun v4 h4 =>
 bnd (bA v1 (.b true) v4 h4) fun v5 h5 =>
 aV v5 (
 some (.t [x5, x6], h5)) (
  aHb r n x0 x5 h5)
def aLp (r : RT) (n : Nat) (x0 : DV) (h0 : Hp) : aF :=
 bnd (r 108 [x0] h0) fun v1 h1 =>
 bnd (aP 0 v1 h1) fun v2 h2 =>
 bnd (aP 1 v1 h2) fun v3 h3 =>
  aIm r n x0 v2 v3 h3
def aJg (r : RT) (n : Nat) (x0 : DV) (h0 : Hp) : aF :=
 bnd (r 106 [x0, (aG 0)] h0) fun v1 h1 =>
 bnd (r 107 [v1] h1) fun v2 h2 =>
 bnd (lS .not v2 h2) fun v3 h3 =>
 aV v3 (
 some (.t [(.s []), (aG 10)], h3)) (
  aLp r n x0 h3)
def aMr (r : RT) (n : Nat) (x0 : DV) (h0 : Hp) : aF :=
 bnd (r 75 [(.s [43, 45, 42, 47, 60, 62, 61, 126, 44, 64, 38, 37])] h0) fun v1 h1 =>
 bnd (r 74 [x0, v1, (aG 2)] h1) fun v2 h2 =>
 bnd (cB .neq v2 (.s []) h2) fun v3 h3 =>
 aV v3 (
 some (.t [v2, (aG 0)], h3)) (
  aJg r n x0 h3)
def s113 (r : RT) (n : Nat) (x0 : DV) (h0 : Hp) : aF :=
 aMr r n x0 h0
abbrev c113 : Code := cf Tryz.f113
abbrev aJx := cR c113
abbrev aIb := cR aJx
abbrev aGw := cR aIb
abbrev aHt := cR aGw
abbrev aOb := cR aHt
abbrev aGh := cR aOb
abbrev dNw := cR aGh
abbrev aKp := cL aGh
abbrev aMw := cL aKp
abbrev nS := cL aMw
abbrev bEu := cL aOb
abbrev aYc := cL aHt
abbrev bAk := cL aGw
abbrev aXh := cL aIb
abbrev bBc := cL aJx
abbrev bGx := cL c113
abbrev r113 : K := bF CF Tryz.f113
def D113 (r : RT) (n : Nat) (c : Code) (X : Nat → K) (k : K) : K := aR CF r 64 n c X r113 k
theorem cSz : D113 r n dNw x0 r113 = (K1 (fO r n) 5) := by kernel_rfl
theorem bSc (kk8 : dS) : D113 r n nS (xs x0 0 (K1 (fO r n) 5)) (K2 kk8 0 5) = (K2 (xR r n kk8) 0 5) := by kernel_rfl
theorem bRx (m : Nat) : aE (fun kk => D113 r n nS (xs x0 0 (K1 (fO r n) 5)) kk) m = (K2 (oA r n m) 0 5) := by
 induction m with
 | zero => exact (by kernel_rfl : aE (fun kk => D113 r n nS (xs x0 0 (K1 (fO r n) 5)) kk) 0 = (K2 (oA r n 0) 0 5))
 | succ m ih =>
  refine (by kernel_rfl : aE (fun kk => D113 r n nS (xs x0 0 (K1 (fO r n) 5)) kk) (m + 1) = D113 r n nS (xs x0 0 (K1 (fO r n) 5)) (aE (fun kk => D113 r n nS (xs x0 0 (K1 (fO r n) 5)) kk) m)).trans ?_
  rw [ih]
  exact (bSc r n (oA r n m)).trans (by kernel_rfl)
theorem cPo : D113 r n aMw (xs x0 0 (K1 (fO r n) 5)) (K1 (fO r n) 5) = (K2 (aVq r n) 0 5) :=
 (by kernel_rfl : D113 r n aMw (xs x0 0 (K1 (fO r n) 5)) (K1 (fO r n) 5) = aE (fun kk => D113 r n nS (xs x0 0 (K1 (fO r n) 5)) kk) n).trans ((bRx r n n).trans (by kernel_rfl))
theorem bVr : D113 r n aGh x0 r113 = D113 r n aKp x0 (K1 (fO r n) 5) :=
 congrArg (fun k => D113 r n aKp x0 k) (cSz r n)
theorem cIw : D113 r n aGh x0 r113 = (K2 (aMm r n) 0 5) :=
 (bVr r n).trans
 ((by kernel_rfl : D113 r n aKp x0 (K1 (fO r n) 5) = D113 r n aMw (xs x0 0 (K1 (fO r n) 5)) (K1 (fO r n) 5)).trans
 ((cPo r n).trans (by kernel_rfl)))
theorem bXd : D113 r n aOb x0 r113 = D113 r n bEu x0 (K2 (aMm r n) 0 5) :=
 congrArg (fun k => D113 r n bEu x0 k) (cIw r n)
theorem cHg : D113 r n aOb x0 r113 = (K2 (aHb r n) 0 5) :=
 (bXd r n).trans
 ((by kernel_rfl))
theorem bYn : D113 r n aHt x0 r113 = D113 r n aYc x0 (K2 (aHb r n) 0 5) :=
 congrArg (fun k => D113 r n aYc x0 k) (cHg r n)
theorem cJs : D113 r n aHt x0 r113 = (K3 (aIm r n) 0 5 6) :=
 (bYn r n).trans
 ((by kernel_rfl))
theorem bUz : D113 r n aGw x0 r113 = D113 r n bAk x0 (K3 (aIm r n) 0 5 6) :=
 congrArg (fun k => D113 r n bAk x0 k) (cJs r n)
theorem cJi : D113 r n aGw x0 r113 = (K1 (aLp r n) 0) :=
 (bUz r n).trans
 ((by kernel_rfl))
theorem bVg : D113 r n aIb x0 r113 = D113 r n aXh x0 (K1 (aLp r n) 0) :=
 congrArg (fun k => D113 r n aXh x0 k) (cJi r n)
theorem cSo : D113 r n aIb x0 r113 = (K1 (aJg r n) 0) :=
 (bVg r n).trans
 ((by kernel_rfl))
theorem bPi : D113 r n aJx x0 r113 = D113 r n bBc x0 (K1 (aJg r n) 0) :=
 congrArg (fun k => D113 r n bBc x0 k) (cSo r n)
theorem cVi : D113 r n aJx x0 r113 = (K1 (aMr r n) 0) :=
 (bPi r n).trans
 ((by kernel_rfl))
theorem dCo : D113 r n c113 x0 r113 = D113 r n bGx x0 (K1 (aMr r n) 0) :=
 congrArg (fun k => D113 r n bGx x0 k) (cVi r n)
theorem dTb : D113 r n c113 x0 r113 = (K1 (s113 r n) 0) :=
 (dCo r n).trans
 ((by kernel_rfl))
theorem dAy : aL CF r n 113 args h = s113 r n (aS args 0) h :=
 dI (dTb r n) args h (by kernel_rfl) (by kernel_rfl)
def fN (r : RT) (n : Nat) (x2 x4 : DV) (h0 : Hp) : aF :=
 bnd (aD 6 x4 h0) fun v1 h1 =>
 bnd (aC 6 x2 v1 h1) fun _ h2 =>
 bnd (aD 6 x2 h2) fun v3 _ =>
 some (v3, h2)
def xO (r : RT) (n : Nat) (kk7 : cZ) (x0 x2 x4 : DV) (h0 : Hp) : aF :=
 bnd (r 77 [x0, (aG 10), (.s [59])] h0) fun v1 h1 =>
 aV v1 (
 bnd (r 78 [x0] h1) fun v2 h2 =>
 bnd (aA 5 x4 (fP 1 h2)) fun v3 h3 =>
 bnd (aB v3 h3) fun v4 h4 =>
 bnd (r 139 [x0] h4) fun v5 h5 =>
 cnd (bM (aB v3 h5) v4 && true) (
 bnd (r 138 [v5] h5) fun v6 h6 =>
 cnd (bM (aB v3 h6) v4 && true) (
 bnd (aW (cS 0 h2.next) cY 1 [(0, 6, v6)] h6) fun v7 h7 =>
 bnd (aY 6 104 v4 v7 h7) fun v8 h8 =>
 bnd (aA 5 x4 h8) fun v9 h9 =>
 bnd (aC 1 v9 v8 h9) fun v10 h10 =>
      kk7 x0 x2 x4 h10))) (
      fN r n x2 x4 h1)
def nL (r : RT) (n : Nat) (m : Nat) : cZ :=
 Nat.rec (motive := fun _ => cZ) (fun _ _ _ _ => none) (fun _ ih => xO r n ih) m
def aUb (r : RT) (n : Nat) : cZ := nL r n n
def aHl (r : RT) (n : Nat) (x0 x2 x4 : DV) (h0 : Hp) : aF :=
 aUb r n x0 x2 x4 h0
def aJf (r : RT) (n : Nat) (x0 x2 x3 : DV) (h0 : Hp) : aF :=
 bnd (aA 5 x3 (fP 2 h0)) fun v1 h1 =>
 bnd (aB v1 h1) fun v2 h2 =>
 bnd (aO 6 v2 (aG 0) h2) fun v3 h3 =>
 bnd (aD 6 v3 h3) fun v4 h4 =>
 bnd (aD 6 x3 h4) fun v5 h5 =>
 bnd (r 138 [v5] h5) fun v6 h6 =>
 cnd (bM (aD 6 v3 h6) v4 && (bM (aB v1 h6) v2 && true)) (
 bnd (aW (cS 0 h0.next) [(aG 0), (.s []), (aG 0), .l0, .l0, .l0, (aG 0), (.s []), (aG 0), .l0, .l0, .l0] 2 [(0, 6, v4), (6, 6, v6)] h6) fun v7 h7 =>
 bnd (bC cY [(0, 1, (aG 8)), (5, 1, v7)] h7) fun v8 h8 =>
 bnd (uT (cS 1 h0.next) cY h8) fun v9 h9 =>
 bnd (aC 6 v9 v8 h9) fun v10 h10 =>
  aHl r n x0 x2 v9 h10)
def aGd (r : RT) (n : Nat) (x0 x2 x3 : DV) (h0 : Hp) : aF :=
 bnd (aA 0 x3 h0) fun v1 h1 =>
 bnd (aB v1 h1) fun v2 h2 =>
 bnd (aH .neq v2 (aG 7) h2) fun v3 h3 =>
 aV v3 (
 bnd (r 81 [x0, (aG 0)] h3) fun v4 h4 =>
 bnd (r 80 [x0, v4, (aG 13)] h4) fun v5 h5 =>
 bnd (aD 6 x3 h5) fun v6 h6 =>
 bnd (aC 6 x2 v6 h6) fun _ h7 =>
 bnd (aD 6 x2 h7) fun v8 _ =>
 some (v8, h7)) (
  aJf r n x0 x2 x3 h3)
def aGc (r : RT) (n : Nat) (x0 x2 x3 : DV) (h0 : Hp) : aF :=
 bnd (r 77 [x0, (aG 10), (.s [59])] h0) fun v1 h1 =>
 bnd (lS .not v1 h1) fun v2 h2 =>
 aV v2 (
 bnd (aD 6 x3 h2) fun v3 h3 =>
 bnd (aC 6 x2 v3 h3) fun _ h4 =>
 bnd (aD 6 x2 h4) fun v5 _ =>
 some (v5, h4)) (
  aGd r n x0 x2 x3 h2)
def vN (r : RT) (n : Nat) (x0 x2 : DV) (h0 : Hp) : aF :=
 bnd (r 137 [x0] h0) fun v1 h1 =>
 bnd (r 136 [x0, v1] h1) fun v2 h2 =>
 bnd (r 135 [x0, v2] h2) fun v3 h3 =>
 bnd (r 134 [x0, v3] h3) fun v4 h4 =>
 bnd (bL cY h4) fun v5 h5 =>
 bnd (aC 6 v5 v4 h5) fun _ h6 =>
  aGc r n x0 x2 v5 h6
def s114 (r : RT) (n : Nat) (x0 : DV) (h0 : Hp) : aF :=
 bnd (bL cY h0) fun v1 h1 =>
  vN r n x0 v1 h1
abbrev c114 : Code := cf Tryz.f114
abbrev aNf := cR c114
abbrev aHs := cR aNf
abbrev aMb := cR aHs
abbrev aMx := cR aMb
abbrev aIy := cR aMx
abbrev dAw := cR aIy
abbrev aLe := cL aIy
abbrev aKw := cL aLe
abbrev sZ := cL aKw
abbrev bIt := cL aMx
abbrev bGc := cL aMb
abbrev bHd := cL aHs
abbrev bJh := cL aNf
abbrev aLg := cL c114
abbrev r114 : K := bF CF Tryz.f114
def D114 (r : RT) (n : Nat) (c : Code) (X : Nat → K) (k : K) : K := aR CF r 46 n c X r114 k
theorem cQr : D114 r n dAw x0 r114 = (K2 (fN r n) 2 4) := by kernel_rfl
theorem bPw (kk7 : cZ) : D114 r n sZ (xs x0 0 (K2 (fN r n) 2 4)) (K3 kk7 0 2 4) = (K3 (xO r n kk7) 0 2 4) := by kernel_rfl
theorem bQt (m : Nat) : aE (fun kk => D114 r n sZ (xs x0 0 (K2 (fN r n) 2 4)) kk) m = (K3 (nL r n m) 0 2 4) := by
 induction m with
 | zero => exact (by kernel_rfl : aE (fun kk => D114 r n sZ (xs x0 0 (K2 (fN r n) 2 4)) kk) 0 = (K3 (nL r n 0) 0 2 4))
 | succ m ih =>
  refine (by kernel_rfl : aE (fun kk => D114 r n sZ (xs x0 0 (K2 (fN r n) 2 4)) kk) (m + 1) = D114 r n sZ (xs x0 0 (K2 (fN r n) 2 4)) (aE (fun kk => D114 r n sZ (xs x0 0 (K2 (fN r n) 2 4)) kk) m)).trans ?_
  rw [ih]
  exact (bPw r n (nL r n m)).trans (by kernel_rfl)
theorem cRl : D114 r n aKw (xs x0 0 (K2 (fN r n) 2 4)) (K2 (fN r n) 2 4) = (K3 (aUb r n) 0 2 4) :=
 (by kernel_rfl : D114 r n aKw (xs x0 0 (K2 (fN r n) 2 4)) (K2 (fN r n) 2 4) = aE (fun kk => D114 r n sZ (xs x0 0 (K2 (fN r n) 2 4)) kk) n).trans ((bQt r n n).trans (by kernel_rfl))
theorem bMp : D114 r n aIy x0 r114 = D114 r n aLe x0 (K2 (fN r n) 2 4) :=
 congrArg (fun k => D114 r n aLe x0 k) (cQr r n)
theorem cSt : D114 r n aIy x0 r114 = (K3 (aHl r n) 0 2 4) :=
 (bMp r n).trans
 ((by kernel_rfl : D114 r n aLe x0 (K2 (fN r n) 2 4) = D114 r n aKw (xs x0 0 (K2 (fN r n) 2 4)) (K2 (fN r n) 2 4)).trans
 ((cRl r n).trans (by kernel_rfl)))
theorem bTx : D114 r n aMx x0 r114 = D114 r n bIt x0 (K3 (aHl r n) 0 2 4) :=
 congrArg (fun k => D114 r n bIt x0 k) (cSt r n)
theorem cGp : D114 r n aMx x0 r114 = (K3 (aJf r n) 0 2 3) :=
 (bTx r n).trans
 ((by kernel_rfl))
theorem bQl : D114 r n aMb x0 r114 = D114 r n bGc x0 (K3 (aJf r n) 0 2 3) :=
 congrArg (fun k => D114 r n bGc x0 k) (cGp r n)
theorem cNz : D114 r n aMb x0 r114 = (K3 (aGd r n) 0 2 3) :=
 (bQl r n).trans
 ((by kernel_rfl))
theorem bSo : D114 r n aHs x0 r114 = D114 r n bHd x0 (K3 (aGd r n) 0 2 3) :=
 congrArg (fun k => D114 r n bHd x0 k) (cNz r n)
theorem cGl : D114 r n aHs x0 r114 = (K3 (aGc r n) 0 2 3) :=
 (bSo r n).trans
 ((by kernel_rfl))
theorem cFh : D114 r n aNf x0 r114 = D114 r n bJh x0 (K3 (aGc r n) 0 2 3) :=
 congrArg (fun k => D114 r n bJh x0 k) (cGl r n)
theorem cRe : D114 r n aNf x0 r114 = (K2 (vN r n) 0 2) :=
 (cFh r n).trans
 ((by kernel_rfl))
theorem dIa : D114 r n c114 x0 r114 = D114 r n aLg x0 (K2 (vN r n) 0 2) :=
 congrArg (fun k => D114 r n aLg x0 k) (cRe r n)
theorem cMk (q0 : dS) : D114 r n aLg x0 (K2 q0 0 2) = fun (env : eJ) (h : Hp) =>
 bnd (bL cY h) fun v1 h1 =>
  q0 (env 0) v1 h1 := by kernel_rfl
theorem bYa : (fun (env : eJ) (h : Hp) =>
 bnd (bL cY h) fun v1 h1 =>
  vN r n (env 0) v1 h1) = (K1 (s114 r n) 0) := by kernel_rfl
theorem dUu : D114 r n c114 x0 r114 = (K1 (s114 r n) 0) :=
 (dIa r n).trans
 ((cMk r n (vN r n)).trans (bYa r n))
theorem dOc : aL CF r n 114 args h = s114 r n (aS args 0) h :=
 dI (dUu r n) args h (by kernel_rfl) (by kernel_rfl)
def s126 (r : RT) (n : Nat) (x0 : DV) (h0 : Hp) : aF :=
 bnd (eR x0 h0) fun v1 h1 =>
 bnd (aA 0 v1 h1) fun v2 h2 =>
 bnd (aB v2 h2) fun v3 h3 =>
 bnd (aH .eql v3 (aG 7) h3) fun v4 h4 =>
 aV v4 (
 bnd (aA 1 v1 h4) fun v5 h5 =>
 bnd (aB v5 h5) fun v6 h6 =>
 bnd (r 32 [v6] h6) fun v7 h7 =>
 some (v7, h7)) (
 bnd (aH .eql v3 (aG 8) h4) fun v8 h8 =>
 aV v8 (
 some ((aG 4), h8)) (
 bnd (aH .eql v3 (aG 6) h8) fun v9 h9 =>
 aV v9 (
 some ((aG 5), h9)) (
 some ((aG 0), h9))))
abbrev c126 : Code := cf Tryz.f126
abbrev r126 : K := bF CF Tryz.f126
def D126 (r : RT) (n : Nat) (c : Code) (X : Nat → K) (k : K) : K := aR CF r 14 n c X r126 k
theorem dUd : D126 r n c126 x0 r126 = (K1 (s126 r n) 0) :=
 (by kernel_rfl)
theorem dFu : aL CF r n 126 args h = s126 r n (aS args 0) h :=
 dI (dUd r n) args h (by kernel_rfl) (by kernel_rfl)
def aJl (r : RT) (n : Nat) (x2 x7 x8 : DV) (h0 : Hp) : aF :=
 bnd (aH .gtr x8 x2 h0) fun v1 h1 =>
 aV v1 (
 bnd (aD 6 x7 h1) fun v2 h2 =>
 bnd (r 65 [v2] h2) fun v3 h3 =>
 bnd (cB .add (.s [40]) v3 h3) fun v4 h4 =>
 bnd (cB .add v4 (.s [41]) h4) fun v5 h5 =>
 some (v5, h5)) (
 bnd (aD 6 x7 h1) fun v6 h6 =>
 bnd (r 65 [v6] h6) fun v7 h7 =>
 some (v7, h7))
def zC (r : RT) (n : Nat) (x2 x7 x8 : DV) (h0 : Hp) : aF :=
 bnd (aA 0 x7 h0) fun v1 h1 =>
 bnd (aB v1 h1) fun v2 h2 =>
 bnd (aH .eql v2 (aG 6) h2) fun v3 h3 =>
 aV v3 (
  aJl r n x2 x7 (aG 5) h3) (
  aJl r n x2 x7 x8 h3)
def aGq (r : RT) (n : Nat) (x2 x7 x8 : DV) (h0 : Hp) : aF :=
 bnd (aA 0 x7 h0) fun v1 h1 =>
 bnd (aB v1 h1) fun v2 h2 =>
 bnd (aH .eql v2 (aG 8) h2) fun v3 h3 =>
 aV v3 (
  zC r n x2 x7 (aG 4) h3) (
  zC r n x2 x7 x8 h3)
def cFd (r : RT) (n : Nat) (x2 x7 x8 : DV) (h0 : Hp) : aF :=
 bnd (aA 0 x7 h0) fun v1 h1 =>
 bnd (aB v1 h1) fun v2 h2 =>
 bnd (aH .eql v2 (aG 7) h2) fun v3 h3 =>
 aV v3 (
 bnd (aA 1 x7 h3) fun v4 h4 =>
 bnd (aB v4 h4) fun v5 h5 =>
 bnd (r 39 [v5] h5) fun v6 h6 =>
  aGq r n x2 x7 v6 h6) (
  aGq r n x2 x7 x8 h3)
def bRc (r : RT) (n : Nat) (x2 x7 : DV) (h0 : Hp) : aF :=
 cFd r n x2 x7 (aG 0) h0
def bTg (r : RT) (n : Nat) (x0 x1 x2 : DV) (h0 : Hp) : aF :=
 bnd (aO 6 x0 x1 h0) fun v1 h1 =>
 bnd (aD 6 v1 h1) fun v2 h2 =>
 bnd (bL cY h2) fun v3 h3 =>
 bnd (aC 6 v3 v2 h3) fun _ h4 =>
  bRc r n x2 v3 h4
def bVx (r : RT) (n : Nat) (x0 x1 x2 : DV) (h0 : Hp) : aF :=
 bnd (dG x0 h0) fun v1 h1 =>
 bnd (aH .geq x1 v1 h1) fun v2 h2 =>
 aV v2 (
 some ((.s []), h2)) (
  bTg r n x0 x1 x2 h2)
def s127 (r : RT) (n : Nat) (x0 x1 x2 : DV) (h0 : Hp) : aF :=
 bVx r n x0 x1 x2 h0
abbrev c127 : Code := cf Tryz.f127
abbrev r127 : K := bF CF Tryz.f127
def D127 (r : RT) (n : Nat) (c : Code) (X : Nat → K) (k : K) : K := aR CF r 38 n c X r127 k
theorem dRq : D127 r n c127 x0 r127 = (K3 (s127 r n) 0 1 2) := by kernel_rfl
theorem dBv : aL CF r n 127 args h = s127 r n (aS args 0) (aS args 1) (aS args 2) h :=
 dI (dRq r n) args h (by kernel_rfl) (by kernel_rfl)
def s128 (r : RT) (n : Nat) (x0 : DV) (h0 : Hp) : aF :=
 bnd (bL cY h0) fun v1 h1 =>
 bnd (r 73 [x0, (aG 0)] h1) fun v2 h2 =>
 bnd (bL [(aG 0), (.s []), (aG 0), (aG 0)] h2) fun v3 h3 =>
 bnd (aC 4 v3 v2 h3) fun _ h4 =>
 bnd (r 68 [x0, (aG 3), (.s [45])] h4) fun v5 h5 =>
 bnd (gD v5 true (some (x0, h5)) h5) fun v6 h6 =>
 bnd (gD v5 true (r 73 [v6, (aG 1)] h6) h6) fun v7 h7 =>
 bnd (gD v5 true (bY 0 v7 h7) h7) fun v8 h8 =>
 bnd (gD v5 true (aH .eql v8 (aG 4) h8) h8) fun v9 h9 =>
 bnd (bA v5 v9 (.b false) h9) fun v10 h10 =>
 bnd (gD v10 true (some (x0, h10)) h10) fun v11 h11 =>
 bnd (gD v10 true (r 73 [v11, (aG 1)] h11) h11) fun v12 h12 =>
 bnd (gD v10 true (bY 3 v12 h12) h12) fun v13 h13 =>
 bnd (gD v10 true (aA 3 v3 h13) h13) fun v14 h14 =>
 bnd (gD v10 true (aB v14 h14) h14) fun v15 h15 =>
 cnd (bM (gD v10 true (aB v14 h7) h7) v15 && true) (
 bnd (gD v10 true (aH .add v15 (aG 1) h15) h15) fun v16 h16 =>
 bnd (gD v10 true (aH .eql v13 v16 h16) h16) fun v17 h17 =>
 bnd (bA v10 v17 (.b false) h17) fun v18 h18 =>
 aV v18 (
 bnd (r 69 [x0] h18) fun v19 h19 =>
 bnd (r 69 [x0] h19) fun v20 h20 =>
 bnd (bY 2 v20 h20) fun v21 h21 =>
 bnd (lS .neg v21 h21) fun v22 h22 =>
 bnd (bC cY [(0, 1, (aG 1)), (2, 1, v22)] h22) fun v23 h23 =>
 bnd (aC 6 v1 v23 h23) fun _ h24 =>
 bnd (aD 6 v1 h24) fun v25 _ =>
 some (.t [v25, (.b true)], h24)) (
 bnd (r 68 [x0, (aG 4), (.s [])] h18) fun v26 h26 =>
 aV v26 (
 bnd (r 69 [x0] h26) fun v27 h27 =>
 bnd (bY 2 v27 h27) fun v28 h28 =>
 bnd (bC cY [(0, 1, (aG 1)), (2, 1, v28)] h28) fun v29 h29 =>
 bnd (aC 6 v1 v29 h29) fun _ h30 =>
 bnd (aD 6 v1 h30) fun v31 _ =>
 some (.t [v31, (.b true)], h30)) (
 bnd (r 68 [x0, (aG 5), (.s [])] h26) fun v32 h32 =>
 aV v32 (
 bnd (r 69 [x0] h32) fun v33 h33 =>
 bnd (bY 1 v33 h33) fun v34 h34 =>
 bnd (bC cY [(0, 1, (aG 2)), (1, 1, v34)] h34) fun v35 h35 =>
 bnd (aC 6 v1 v35 h35) fun _ h36 =>
 bnd (aD 6 v1 h36) fun v37 _ =>
 some (.t [v37, (.b true)], h36)) (
 bnd (r 68 [x0, (aG 6), (.s [])] h32) fun v38 h38 =>
 aV v38 (
 bnd (r 69 [x0] h38) fun v39 h39 =>
 bnd (bY 1 v39 h39) fun v40 h40 =>
 bnd (bC cY [(0, 1, (aG 3)), (1, 1, v40)] h40) fun v41 h41 =>
 bnd (aC 6 v1 v41 h41) fun _ h42 =>
 bnd (aD 6 v1 h42) fun v43 _ =>
 some (.t [v43, (.b true)], h42)) (
 bnd (bC cY [] h38) fun v44 h44 =>
 bnd (aC 6 v1 v44 h44) fun _ h45 =>
 bnd (aD 6 v1 h45) fun v46 _ =>
 some (.t [v46, (.b false)], h45))))))
abbrev c128 : Code := cf Tryz.f128
abbrev r128 : K := bF CF Tryz.f128
def D128 (r : RT) (n : Nat) (c : Code) (X : Nat → K) (k : K) : K := aR CF r 50 n c X r128 k
theorem dVu : D128 r n c128 x0 r128 = (K1 (s128 r n) 0) :=
 (by kernel_rfl)
theorem dBi : aL CF r n 128 args h = s128 r n (aS args 0) h :=
 dI (dVu r n) args h (by kernel_rfl) (by kernel_rfl)
end
end Go.Dd

namespace Go.Dd
open Go.Proofs
noncomputable section
variable (r : RT) (n : Nat) (args : List DV) (h : Hp)
def aFy (r : RT) (n : Nat) (x2 x3 : DV) (h0 : Hp) : aF :=
 bnd (aD 6 x3 h0) fun v1 h1 =>
 bnd (aC 6 x2 v1 h1) fun _ h2 =>
 bnd (aD 6 x2 h2) fun v3 _ =>
 some (v3, h2)
def fC (r : RT) (n : Nat) (x0 x2 x3 : DV) (h0 : Hp) : aF :=
 bnd (bI x0 h0) fun v1 h1 =>
 bnd (aA 3 v1 h1) fun v2 h2 =>
 bnd (aB v2 h2) fun v3 h3 =>
 bnd (aH .eql v3 (aG 0) h3) fun v4 h4 =>
 aV v4 (
 bnd (r 69 [x0] h4) fun v5 h5 =>
 bnd (bI x0 h5) fun v6 h6 =>
 bnd (aA 2 v6 h6) fun v7 h7 =>
 bnd (aB v7 h7) fun v8 h8 =>
 bnd (aH .sub v8 (aG 1) h8) fun v9 h9 =>
 bnd (bI x0 h9) fun v10 h10 =>
 bnd (aA 2 v10 h10) fun v11 h11 =>
 bnd (aC 1 v11 v9 h11) fun _ h12 =>
  aFy r n x2 x3 h12) (
  aFy r n x2 x3 h4)
def rQ (r : RT) (n : Nat) (kk6 : gO) (x0 x2 x3 x4 x5 : DV) (h0 : Hp) : aF :=
 bnd (aA 5 x3 h0) fun v1 h1 =>
 bnd (aB v1 h1) fun v2 h2 =>
 bnd (aD 6 x5 h2) fun v3 h3 =>
 bnd (aN cY 1 [(0, 6, v3)] h3) fun v4 h4 =>
 bnd (aY 6 104 v2 v4 h4) fun v5 h5 =>
 bnd (aA 5 x3 h5) fun v6 h6 =>
 bnd (aC 1 v6 v5 h6) fun _ h7 =>
  kk6 x0 x2 x3 x4 h7
def cDl (r : RT) (n : Nat) (kk6 : gO) (x0 x2 x3 x4 x5 x6 : DV) (h0 : Hp) : aF :=
 bnd (lS .not x6 h0) fun v1 h1 =>
 aV v1 (
 bnd (r 68 [x0, (aG 7), (.s [])] h1) fun v2 h2 =>
 bnd (gD v2 false (some (x0, h2)) h2) fun v3 h3 =>
 bnd (gD v2 false (r 68 [v3, (aG 10), (.s [40])] h3) h3) fun v4 h4 =>
 bnd (bA v2 (.b true) v4 h4) fun v5 h5 =>
 aV v5 (
 bnd (r 129 [x0] h5) fun v6 h6 =>
 bnd (aC 6 x5 v6 h6) fun _ h7 =>
      rQ r n kk6 x0 x2 x3 x4 x5 h7) (
 bnd (r 73 [x0, (aG 0)] h5) fun v8 h8 =>
 bnd (r 71 [x0, v8, (aG 13)] h8) fun v9 h9 =>
      rQ r n kk6 x0 x2 x3 x4 x5 h9)) (
  rQ r n kk6 x0 x2 x3 x4 x5 h1)
def bZa (r : RT) (n : Nat) (kk6 : gO) (x0 x2 x3 x4 : DV) (h0 : Hp) : aF :=
 bnd (r 128 [x0] h0) fun v1 h1 =>
 bnd (aP 0 v1 h1) fun v2 h2 =>
 bnd (aP 1 v1 h2) fun v3 h3 =>
 bnd (bL cY h3) fun v4 h4 =>
 bnd (aC 6 v4 v2 h4) fun _ h5 =>
  cDl r n kk6 x0 x2 x3 x4 v4 v3 h5
def qE (r : RT) (n : Nat) (kk6 : gO) (x0 x2 x3 x4 : DV) (h0 : Hp) : aF :=
 bnd (gD x4 true (some (x0, h0)) h0) fun v1 h1 =>
 bnd (gD x4 true (bI v1 h1) h1) fun v2 h2 =>
 bnd (gD x4 true (aA 3 v2 h2) h2) fun v3 h3 =>
 bnd (gD x4 true (aB v3 h3) h3) fun v4 h4 =>
 bnd (gD x4 true (aH .eql v4 (aG 0) h4) h4) fun v5 h5 =>
 bnd (bA x4 v5 (.b false) h5) fun v6 h6 =>
 bnd (gD v6 true (some (x0, h6)) h6) fun v7 h7 =>
 bnd (gD v6 true (r 68 [v7, (aG 10), (.s [41])] h7) h7) fun v8 h8 =>
 bnd (gD v6 true (lS .not v8 h8) h8) fun v9 h9 =>
 bnd (bA v6 v9 (.b false) h9) fun v10 h10 =>
 aV v10 (
  bZa r n kk6 x0 x2 x3 x4 h10) (
  fC r n x0 x2 x3 h10)
def gV (r : RT) (n : Nat) (m : Nat) : gO :=
 Nat.rec (motive := fun _ => gO) (fun _ _ _ _ _ => none) (fun _ ih => qE r n ih) m
def aUq (r : RT) (n : Nat) : gO := gV r n n
def aNy (r : RT) (n : Nat) (x0 x2 x3 x4 : DV) (h0 : Hp) : aF :=
 aUq r n x0 x2 x3 x4 h0
def aHz (r : RT) (n : Nat) (x0 x2 x3 : DV) (h0 : Hp) : aF :=
 bnd (r 130 [x0] h0) fun v1 h1 =>
  aNy r n x0 x2 x3 v1 h1
def aNd (r : RT) (n : Nat) (x0 x2 : DV) (h0 : Hp) : aF :=
 bnd (bC cY [(0, 1, (aG 4))] h0) fun v1 h1 =>
 bnd (bL cY h1) fun v2 h2 =>
 bnd (aC 6 v2 v1 h2) fun _ h3 =>
  aHz r n x0 x2 v2 h3
def s129 (r : RT) (n : Nat) (x0 : DV) (h0 : Hp) : aF :=
 bnd (bL cY h0) fun v1 h1 =>
  aNd r n x0 v1 h1
abbrev c129 : Code := cf Tryz.f129
abbrev aNb := cR c129
abbrev aKh := cR aNb
abbrev aHv := cR aKh
abbrev dHq := cR aHv
abbrev aNg := cL aHv
abbrev aHr := cL aNg
abbrev sG := cL aHr
abbrev aZu := cL aKh
abbrev bGp := cL aNb
abbrev aXt := cL c129
abbrev r129 : K := bF CF Tryz.f129
def D129 (r : RT) (n : Nat) (c : Code) (X : Nat → K) (k : K) : K := aR CF r 63 n c X r129 k
theorem cWc : D129 r n dHq x0 r129 = (K3 (fC r n) 0 2 3) := by kernel_rfl
theorem bTr (kk6 : gO) : D129 r n sG (xs x0 0 (K3 (fC r n) 0 2 3)) (K4 kk6 0 2 3 4) = (K4 (qE r n kk6) 0 2 3 4) := by kernel_rfl
theorem cAv (m : Nat) : aE (fun kk => D129 r n sG (xs x0 0 (K3 (fC r n) 0 2 3)) kk) m = (K4 (gV r n m) 0 2 3 4) := by
 induction m with
 | zero => exact (by kernel_rfl : aE (fun kk => D129 r n sG (xs x0 0 (K3 (fC r n) 0 2 3)) kk) 0 = (K4 (gV r n 0) 0 2 3 4))
 | succ m ih =>
  refine (by kernel_rfl : aE (fun kk => D129 r n sG (xs x0 0 (K3 (fC r n) 0 2 3)) kk) (m + 1) = D129 r n sG (xs x0 0 (K3 (fC r n) 0 2 3)) (aE (fun kk => D129 r n sG (xs x0 0 (K3 (fC r n) 0 2 3)) kk) m)).trans ?_
  rw [ih]
  exact (bTr r n (gV r n m)).trans (by kernel_rfl)
theorem cQx : D129 r n aHr (xs x0 0 (K3 (fC r n) 0 2 3)) (K3 (fC r n) 0 2 3) = (K4 (aUq r n) 0 2 3 4) :=
 (by kernel_rfl : D129 r n aHr (xs x0 0 (K3 (fC r n) 0 2 3)) (K3 (fC r n) 0 2 3) = aE (fun kk => D129 r n sG (xs x0 0 (K3 (fC r n) 0 2 3)) kk) n).trans ((cAv r n n).trans (by kernel_rfl))
theorem bLr : D129 r n aHv x0 r129 = D129 r n aNg x0 (K3 (fC r n) 0 2 3) :=
 congrArg (fun k => D129 r n aNg x0 k) (cWc r n)
theorem cOa : D129 r n aHv x0 r129 = (K4 (aNy r n) 0 2 3 4) :=
 (bLr r n).trans
 ((by kernel_rfl : D129 r n aNg x0 (K3 (fC r n) 0 2 3) = D129 r n aHr (xs x0 0 (K3 (fC r n) 0 2 3)) (K3 (fC r n) 0 2 3)).trans
 ((cQx r n).trans (by kernel_rfl)))
theorem cCy : D129 r n aKh x0 r129 = D129 r n aZu x0 (K4 (aNy r n) 0 2 3 4) :=
 congrArg (fun k => D129 r n aZu x0 k) (cOa r n)
theorem cLi : D129 r n aKh x0 r129 = (K3 (aHz r n) 0 2 3) :=
 (cCy r n).trans
 ((by kernel_rfl))
theorem cCs : D129 r n aNb x0 r129 = D129 r n bGp x0 (K3 (aHz r n) 0 2 3) :=
 congrArg (fun k => D129 r n bGp x0 k) (cLi r n)
theorem cHv : D129 r n aNb x0 r129 = (K2 (aNd r n) 0 2) :=
 (cCs r n).trans
 ((by kernel_rfl))
theorem cKi : D129 r n c129 x0 r129 = D129 r n aXt x0 (K2 (aNd r n) 0 2) :=
 congrArg (fun k => D129 r n aXt x0 k) (cHv r n)
theorem dRu : D129 r n c129 x0 r129 = (K1 (s129 r n) 0) :=
 (cKi r n).trans
 ((by kernel_rfl))
theorem dBf : aL CF r n 129 args h = s129 r n (aS args 0) h :=
 dI (dRu r n) args h (by kernel_rfl) (by kernel_rfl)
def s130 (r : RT) (n : Nat) (x0 : DV) (h0 : Hp) : aF :=
 bnd (r 69 [x0] h0) fun v1 h1 =>
 bnd (bL [(aG 0), (.s []), (aG 0), (aG 0)] h1) fun v2 h2 =>
 bnd (aC 4 v2 v1 h2) fun _ h3 =>
 bnd (bI x0 h3) fun v4 h4 =>
 bnd (aA 2 v4 h4) fun v5 h5 =>
 bnd (aB v5 h5) fun v6 h6 =>
 bnd (aH .eql v6 (aG 20) h6) fun v7 h7 =>
 aV v7 (
 bnd (aD 4 v2 h7) fun v8 h8 =>
 bnd (r 71 [x0, v8, (aG 14)] h8) fun v9 h9 =>
 some ((.b false), h9)) (
 bnd (bI x0 h7) fun v10 h10 =>
 bnd (aA 2 v10 h10) fun v11 h11 =>
 bnd (aB v11 h11) fun v12 h12 =>
 bnd (aH .add v12 (aG 1) h12) fun v13 h13 =>
 bnd (bI x0 h13) fun v14 h14 =>
 bnd (aA 2 v14 h14) fun v15 h15 =>
 bnd (aC 1 v15 v13 h15) fun _ h16 =>
 some ((.b true), h16))
abbrev c130 : Code := cf Tryz.f130
abbrev r130 : K := bF CF Tryz.f130
def D130 (r : RT) (n : Nat) (c : Code) (X : Nat → K) (k : K) : K := aR CF r 21 n c X r130 k
theorem dVd : D130 r n c130 x0 r130 = (K1 (s130 r n) 0) :=
 (by kernel_rfl)
theorem dNk : aL CF r n 130 args h = s130 r n (aS args 0) h :=
 dI (dVd r n) args h (by kernel_rfl) (by kernel_rfl)
def aMl (r : RT) (n : Nat) (x0 x2 x3 : DV) (h0 : Hp) : aF :=
 bnd (r 45 [x0] h0) fun v1 h1 =>
 bnd (aA 4 x3 h1) fun v2 h2 =>
 bnd (aC 1 v2 v1 h2) fun _ h3 =>
 bnd (r 46 [x0] h3) fun v4 h4 =>
 bnd (aA 5 x3 h4) fun v5 h5 =>
 bnd (aC 1 v5 v4 h5) fun _ h6 =>
 bnd (r 47 [x0, (aG 10), (.s [93])] h6) fun v7 h7 =>
 bnd (bI x0 h7) fun v8 h8 =>
 bnd (aA 2 v8 h8) fun v9 h9 =>
 bnd (aB v9 h9) fun v10 h10 =>
 bnd (aH .sub v10 (aG 1) h10) fun v11 h11 =>
 bnd (bI x0 h11) fun v12 h12 =>
 bnd (aA 2 v12 h12) fun v13 h13 =>
 bnd (aC 1 v13 v11 h13) fun _ h14 =>
 bnd (aD 6 x3 h14) fun v15 h15 =>
 bnd (aC 6 x2 v15 h15) fun _ h16 =>
 bnd (aD 6 x2 h16) fun v17 _ =>
 some (v17, h16)
def fB (r : RT) (n : Nat) (x0 x2 x3 : DV) (h0 : Hp) : aF :=
 bnd (aA 3 x3 h0) fun v1 h1 =>
 bnd (aB v1 h1) fun v2 h2 =>
 bnd (dG v2 h2) fun v3 h3 =>
 bnd (aH .gtr v3 (aG 0) h3) fun v4 h4 =>
 bnd (gD v4 true (some (x0, h4)) h4) fun v5 h5 =>
 bnd (gD v4 true (r 68 [v5, (aG 10), (.s [93])] h5) h5) fun v6 h6 =>
 bnd (gD v4 true (lS .not v6 h6) h6) fun v7 h7 =>
 bnd (bA v4 v7 (.b false) h7) fun v8 h8 =>
 aV v8 (
 bnd (r 47 [x0, (aG 10), (.s [124])] h8) fun v9 h9 =>
  aMl r n x0 x2 x3 h9) (
  aMl r n x0 x2 x3 h8)
def xG (r : RT) (n : Nat) (kk7 : cZ) (x0 x2 x3 : DV) (h0 : Hp) : aF :=
 bnd (r 68 [x0, (aG 8), (.s [])] h0) fun v1 h1 =>
 aV v1 (
 bnd (aA 3 x3 h1) fun v2 h2 =>
 bnd (aB v2 h2) fun v3 h3 =>
 bnd (r 70 [x0, (aG 8), v3] h3) fun v4 h4 =>
 bnd (aA 3 x3 h4) fun v5 h5 =>
 bnd (aC 1 v5 v4 h5) fun _ h6 =>
      kk7 x0 x2 x3 h6) (
      fB r n x0 x2 x3 h1)
def oJ (r : RT) (n : Nat) (m : Nat) : cZ :=
 Nat.rec (motive := fun _ => cZ) (fun _ _ _ _ => none) (fun _ ih => xG r n ih) m
def aWa (r : RT) (n : Nat) : cZ := oJ r n n
def aGg (r : RT) (n : Nat) (x0 x2 x3 : DV) (h0 : Hp) : aF :=
 aWa r n x0 x2 x3 h0
def aLl (r : RT) (n : Nat) (x0 x2 x3 x4 : DV) (h0 : Hp) : aF :=
 bnd (lS .not x4 h0) fun v1 h1 =>
 aV v1 (
 bnd (aD 6 x3 h1) fun v2 h2 =>
 bnd (aC 6 x2 v2 h2) fun _ h3 =>
 bnd (aD 6 x2 h3) fun v4 _ =>
 some (v4, h3)) (
  aGg r n x0 x2 x3 h1)
def aLi (r : RT) (n : Nat) (x0 x2 x3 : DV) (h0 : Hp) : aF :=
 bnd (r 130 [x0] h0) fun v1 h1 =>
  aLl r n x0 x2 x3 v1 h1
def aNo (r : RT) (n : Nat) (x0 x2 : DV) (h0 : Hp) : aF :=
 bnd (bC cY [(0, 1, (aG 9))] h0) fun v1 h1 =>
 bnd (bL cY h1) fun v2 h2 =>
 bnd (aC 6 v2 v1 h2) fun _ h3 =>
  aLi r n x0 x2 v2 h3
def s131 (r : RT) (n : Nat) (x0 : DV) (h0 : Hp) : aF :=
 bnd (bL cY h0) fun v1 h1 =>
  aNo r n x0 v1 h1
abbrev c131 : Code := cf Tryz.f131
abbrev aFx := cR c131
abbrev aLs := cR aFx
abbrev aNq := cR aLs
abbrev aHy := cR aNq
abbrev dFd := cR aHy
abbrev aLa := cL aHy
abbrev aJj := cL aLa
abbrev nU := cL aJj
abbrev bAb := cL aNq
abbrev bCd := cL aLs
abbrev aYe := cL aFx
abbrev bEm := cL c131
abbrev r131 : K := bF CF Tryz.f131
def D131 (r : RT) (n : Nat) (c : Code) (X : Nat → K) (k : K) : K := aR CF r 45 n c X r131 k
theorem cKs : D131 r n dFd x0 r131 = (K3 (fB r n) 0 2 3) := by kernel_rfl
theorem bNa (kk7 : cZ) : D131 r n nU (xs x0 0 (K3 (fB r n) 0 2 3)) (K3 kk7 0 2 3) = (K3 (xG r n kk7) 0 2 3) := by kernel_rfl
theorem cEj (m : Nat) : aE (fun kk => D131 r n nU (xs x0 0 (K3 (fB r n) 0 2 3)) kk) m = (K3 (oJ r n m) 0 2 3) := by
 induction m with
 | zero => exact (by kernel_rfl : aE (fun kk => D131 r n nU (xs x0 0 (K3 (fB r n) 0 2 3)) kk) 0 = (K3 (oJ r n 0) 0 2 3))
 | succ m ih =>
  refine (by kernel_rfl : aE (fun kk => D131 r n nU (xs x0 0 (K3 (fB r n) 0 2 3)) kk) (m + 1) = D131 r n nU (xs x0 0 (K3 (fB r n) 0 2 3)) (aE (fun kk => D131 r n nU (xs x0 0 (K3 (fB r n) 0 2 3)) kk) m)).trans ?_
  rw [ih]
  exact (bNa r n (oJ r n m)).trans (by kernel_rfl)
theorem cPj : D131 r n aJj (xs x0 0 (K3 (fB r n) 0 2 3)) (K3 (fB r n) 0 2 3) = (K3 (aWa r n) 0 2 3) :=
 (by kernel_rfl : D131 r n aJj (xs x0 0 (K3 (fB r n) 0 2 3)) (K3 (fB r n) 0 2 3) = aE (fun kk => D131 r n nU (xs x0 0 (K3 (fB r n) 0 2 3)) kk) n).trans ((cEj r n n).trans (by kernel_rfl))
theorem bMc : D131 r n aHy x0 r131 = D131 r n aLa x0 (K3 (fB r n) 0 2 3) :=
 congrArg (fun k => D131 r n aLa x0 k) (cKs r n)
theorem cIz : D131 r n aHy x0 r131 = (K3 (aGg r n) 0 2 3) :=
 (bMc r n).trans
 ((by kernel_rfl : D131 r n aLa x0 (K3 (fB r n) 0 2 3) = D131 r n aJj (xs x0 0 (K3 (fB r n) 0 2 3)) (K3 (fB r n) 0 2 3)).trans
 ((cPj r n).trans (by kernel_rfl)))
theorem cEs : D131 r n aNq x0 r131 = D131 r n bAb x0 (K3 (aGg r n) 0 2 3) :=
 congrArg (fun k => D131 r n bAb x0 k) (cIz r n)
theorem cGn : D131 r n aNq x0 r131 = (K4 (aLl r n) 0 2 3 4) :=
 (cEs r n).trans
 ((by kernel_rfl))
theorem bOz : D131 r n aLs x0 r131 = D131 r n bCd x0 (K4 (aLl r n) 0 2 3 4) :=
 congrArg (fun k => D131 r n bCd x0 k) (cGn r n)
theorem cSa : D131 r n aLs x0 r131 = (K3 (aLi r n) 0 2 3) :=
 (bOz r n).trans
 ((by kernel_rfl))
theorem bYm : D131 r n aFx x0 r131 = D131 r n aYe x0 (K3 (aLi r n) 0 2 3) :=
 congrArg (fun k => D131 r n aYe x0 k) (cSa r n)
theorem cTp : D131 r n aFx x0 r131 = (K2 (aNo r n) 0 2) :=
 (bYm r n).trans
 ((by kernel_rfl))
theorem dFa : D131 r n c131 x0 r131 = D131 r n bEm x0 (K2 (aNo r n) 0 2) :=
 congrArg (fun k => D131 r n bEm x0 k) (cTp r n)
theorem dVe : D131 r n c131 x0 r131 = (K1 (s131 r n) 0) :=
 (dFa r n).trans
 ((by kernel_rfl))
theorem dAx : aL CF r n 131 args h = s131 r n (aS args 0) h :=
 dI (dVe r n) args h (by kernel_rfl) (by kernel_rfl)
def s132 (r : RT) (n : Nat) (x0 : DV) (h0 : Hp) : aF :=
 bnd (r 107 [x0] h0) fun v1 h1 =>
 bnd (gD v1 false (some (x0, h1)) h1) fun v2 h2 =>
 bnd (gD v1 false (r 110 [v2] h2) h2) fun v3 h3 =>
 bnd (bA v1 (.b true) v3 h3) fun v4 h4 =>
 some (v4, h4)
abbrev c132 : Code := cf Tryz.f132
abbrev r132 : K := bF CF Tryz.f132
def D132 (r : RT) (n : Nat) (c : Code) (X : Nat → K) (k : K) : K := aR CF r 9 n c X r132 k
theorem dOu : D132 r n c132 x0 r132 = (K1 (s132 r n) 0) :=
 (by kernel_rfl)
theorem dAv : aL CF r n 132 args h = s132 r n (aS args 0) h :=
 dI (dOu r n) args h (by kernel_rfl) (by kernel_rfl)
def s133 (r : RT) (n : Nat) (x0 : DV) (h0 : Hp) : aF :=
 bnd (aH .neq x0 (.i .u8 (Int.ofNat 39)) h0) fun v1 h1 =>
 some (v1, h1)
abbrev c133 : Code := cf Tryz.f133
abbrev r133 : K := bF CF Tryz.f133
def D133 (r : RT) (n : Nat) (c : Code) (X : Nat → K) (k : K) : K := aR CF r 5 n c X r133 k
theorem dUw : D133 r n c133 x0 r133 = (K1 (s133 r n) 0) :=
 (by kernel_rfl)
theorem dCd : aL CF r n 133 args h = s133 r n (aS args 0) h :=
 dI (dUw r n) args h (by kernel_rfl) (by kernel_rfl)
def fS (r : RT) (n : Nat) (x4 x5 : DV) (h0 : Hp) : aF :=
 bnd (aD 6 x5 h0) fun v1 h1 =>
 bnd (aC 6 x4 v1 h1) fun _ h2 =>
 bnd (aD 6 x4 h2) fun v3 _ =>
 some (v3, h2)
def wY (r : RT) (n : Nat) (kk5 : cZ) (x0 x4 x5 : DV) (h0 : Hp) : aF :=
 bnd (r 77 [x0, (aG 2), (.s [])] h0) fun v1 h1 =>
 aV v1 (
 bnd (aA 1 x5 h1) fun v2 h2 =>
 bnd (aB v2 h2) fun v3 h3 =>
 bnd (r 78 [x0] h3) fun v4 h4 =>
 cnd (bM (aB v2 h4) v3 && true) (
 bnd (bY 1 v4 h4) fun v5 h5 =>
 bnd (cB .add v3 v5 h5) fun v6 h6 =>
 bnd (aA 1 x5 h6) fun v7 h7 =>
 bnd (aC 1 v7 v6 h7) fun v8 h8 =>
 bnd (aA 5 x5 (fP 1 h8)) fun v9 h9 =>
 bnd (aB v9 h9) fun v10 h10 =>
 bnd (r 137 [x0] h10) fun v11 h11 =>
 cnd (bM (aB v9 h11) v10 && true) (
 bnd (r 136 [x0, v11] h11) fun v12 h12 =>
 cnd (bM (aB v9 h12) v10 && true) (
 bnd (r 135 [x0, v12] h12) fun v13 h13 =>
 cnd (bM (aB v9 h13) v10 && true) (
 bnd (aW (cS 0 h8.next) cY 1 [(0, 6, v13)] h13) fun v14 h14 =>
 bnd (aY 6 104 v10 v14 h14) fun v15 h15 =>
 bnd (aA 5 x5 h15) fun v16 h16 =>
 bnd (aC 1 v16 v15 h16) fun v17 h17 =>
      kk5 x0 x4 x5 h17))))) (
      fS r n x4 x5 h1)
def oB (r : RT) (n : Nat) (m : Nat) : cZ :=
 Nat.rec (motive := fun _ => cZ) (fun _ _ _ _ => none) (fun _ ih => wY r n ih) m
def aVo (r : RT) (n : Nat) : cZ := oB r n n
def aGk (r : RT) (n : Nat) (x0 x4 x5 : DV) (h0 : Hp) : aF :=
 aVo r n x0 x4 x5 h0
def aIo (r : RT) (n : Nat) (x0 x3 x4 : DV) (h0 : Hp) : aF :=
 bnd (aD 6 x3 h0) fun v1 h1 =>
 bnd (aN cY 1 [(0, 6, v1)] h1) fun v2 h2 =>
 bnd (r 149 [(.s []), v2] h2) fun v3 h3 =>
 bnd (bL cY h3) fun v4 h4 =>
 bnd (aC 6 v4 v3 h4) fun _ h5 =>
  aGk r n x0 x4 v4 h5
def aGu (r : RT) (n : Nat) (x0 x3 x4 : DV) (h0 : Hp) : aF :=
 bnd (r 77 [x0, (aG 2), (.s [])] h0) fun v1 h1 =>
 bnd (lS .not v1 h1) fun v2 h2 =>
 aV v2 (
 bnd (aD 6 x3 h2) fun v3 h3 =>
 bnd (aC 6 x4 v3 h3) fun _ h4 =>
 bnd (aD 6 x4 h4) fun v5 _ =>
 some (v5, h4)) (
  aIo r n x0 x3 x4 h2)
def s134 (r : RT) (n : Nat) (x0 x1 : DV) (h0 : Hp) : aF :=
 bnd (eR x1 h0) fun v1 h1 =>
 bnd (bL cY h1) fun v2 h2 =>
  aGu r n x0 v1 v2 h2
abbrev c134 : Code := cf Tryz.f134
abbrev aIg := cR c134
abbrev aKc := cR aIg
abbrev aLn := cR aKc
abbrev dNn := cR aLn
abbrev aNs := cL aLn
abbrev aNt := cL aNs
abbrev rF := cL aNt
abbrev bPs := cL aKc
abbrev cAx := cL aIg
abbrev bFn := cL c134
abbrev r134 : K := bF CF Tryz.f134
def D134 (r : RT) (n : Nat) (c : Code) (X : Nat → K) (k : K) : K := aR CF r 34 n c X r134 k
theorem cKp : D134 r n dNn x0 r134 = (K2 (fS r n) 4 5) := by kernel_rfl
theorem cDb (kk5 : cZ) : D134 r n rF (xs x0 0 (K2 (fS r n) 4 5)) (K3 kk5 0 4 5) = (K3 (wY r n kk5) 0 4 5) := by kernel_rfl
theorem bOk (m : Nat) : aE (fun kk => D134 r n rF (xs x0 0 (K2 (fS r n) 4 5)) kk) m = (K3 (oB r n m) 0 4 5) := by
 induction m with
 | zero => exact (by kernel_rfl : aE (fun kk => D134 r n rF (xs x0 0 (K2 (fS r n) 4 5)) kk) 0 = (K3 (oB r n 0) 0 4 5))
 | succ m ih =>
  refine (by kernel_rfl : aE (fun kk => D134 r n rF (xs x0 0 (K2 (fS r n) 4 5)) kk) (m + 1) = D134 r n rF (xs x0 0 (K2 (fS r n) 4 5)) (aE (fun kk => D134 r n rF (xs x0 0 (K2 (fS r n) 4 5)) kk) m)).trans ?_
  rw [ih]
  exact (cDb r n (oB r n m)).trans (by kernel_rfl)
theorem cOu : D134 r n aNt (xs x0 0 (K2 (fS r n) 4 5)) (K2 (fS r n) 4 5) = (K3 (aVo r n) 0 4 5) :=
 (by kernel_rfl : D134 r n aNt (xs x0 0 (K2 (fS r n) 4 5)) (K2 (fS r n) 4 5) = aE (fun kk => D134 r n rF (xs x0 0 (K2 (fS r n) 4 5)) kk) n).trans ((bOk r n n).trans (by kernel_rfl))
theorem bUc : D134 r n aLn x0 r134 = D134 r n aNs x0 (K2 (fS r n) 4 5) :=
 congrArg (fun k => D134 r n aNs x0 k) (cKp r n)
theorem cHc : D134 r n aLn x0 r134 = (K3 (aGk r n) 0 4 5) :=
 (bUc r n).trans
 ((by kernel_rfl : D134 r n aNs x0 (K2 (fS r n) 4 5) = D134 r n aNt (xs x0 0 (K2 (fS r n) 4 5)) (K2 (fS r n) 4 5)).trans
 ((cOu r n).trans (by kernel_rfl)))
theorem bWa : D134 r n aKc x0 r134 = D134 r n bPs x0 (K3 (aGk r n) 0 4 5) :=
 congrArg (fun k => D134 r n bPs x0 k) (cHc r n)
theorem cWa : D134 r n aKc x0 r134 = (K3 (aIo r n) 0 3 4) :=
 (bWa r n).trans
 ((by kernel_rfl))
theorem bNd : D134 r n aIg x0 r134 = D134 r n cAx x0 (K3 (aIo r n) 0 3 4) :=
 congrArg (fun k => D134 r n cAx x0 k) (cWa r n)
theorem cNw : D134 r n aIg x0 r134 = (K3 (aGu r n) 0 3 4) :=
 (bNd r n).trans
 ((by kernel_rfl))
theorem dEm : D134 r n c134 x0 r134 = D134 r n bFn x0 (K3 (aGu r n) 0 3 4) :=
 congrArg (fun k => D134 r n bFn x0 k) (cNw r n)
theorem dWg : D134 r n c134 x0 r134 = (K2 (s134 r n) 0 1) :=
 (dEm r n).trans
 ((by kernel_rfl))
theorem dIk : aL CF r n 134 args h = s134 r n (aS args 0) (aS args 1) h :=
 dI (dWg r n) args h (by kernel_rfl) (by kernel_rfl)
def fL (r : RT) (n : Nat) (x3 x4 : DV) (h0 : Hp) : aF :=
 bnd (aD 6 x3 h0) fun v1 h1 =>
 bnd (aC 6 x4 v1 h1) fun _ h2 =>
 bnd (aD 6 x4 h2) fun v3 _ =>
 some (v3, h2)
def xN (r : RT) (n : Nat) (kk3 : cZ) (x0 x3 x4 : DV) (h0 : Hp) : aF :=
 bnd (r 77 [x0, (aG 3), (.s [])] h0) fun v1 h1 =>
 aV v1 (
 bnd (r 78 [x0] h1) fun v2 h2 =>
 bnd (bL [(aG 0), (.s []), (aG 0), (aG 0)] h2) fun v3 h3 =>
 bnd (aC 4 v3 v2 h3) fun _ h4 =>
 bnd (aA 1 v3 (fP 1 h4)) fun v5 h5 =>
 bnd (aB v5 h5) fun v6 h6 =>
 bnd (aD 6 x3 h6) fun v7 h7 =>
 bnd (r 137 [x0] h7) fun v8 h8 =>
 cnd (bM (aD 6 x3 h8) v7 && (bM (aB v5 h8) v6 && true)) (
 bnd (r 136 [x0, v8] h8) fun v9 h9 =>
 cnd (bM (aD 6 x3 h9) v7 && (bM (aB v5 h9) v6 && true)) (
 bnd (aW (cS 0 h4.next) [(aG 0), (.s []), (aG 0), .l0, .l0, .l0, (aG 0), (.s []), (aG 0), .l0, .l0, .l0] 2 [(0, 6, v7), (6, 6, v9)] h9) fun v10 h10 =>
 bnd (r 149 [v6, v10] h10) fun v11 h11 =>
 bnd (aC 6 x3 v11 h11) fun v12 h12 =>
      kk3 x0 x3 x4 h12))) (
      fL r n x3 x4 h1)
def nD (r : RT) (n : Nat) (m : Nat) : cZ :=
 Nat.rec (motive := fun _ => cZ) (fun _ _ _ _ => none) (fun _ ih => xN r n ih) m
def aWr (r : RT) (n : Nat) : cZ := nD r n n
def aNp (r : RT) (n : Nat) (x0 x3 x4 : DV) (h0 : Hp) : aF :=
 aWr r n x0 x3 x4 h0
def s135 (r : RT) (n : Nat) (x0 x1 : DV) (h0 : Hp) : aF :=
 bnd (eR x1 h0) fun v1 h1 =>
 bnd (bL cY h1) fun v2 h2 =>
  aNp r n x0 v1 v2 h2
abbrev c135 : Code := cf Tryz.f135
abbrev aKi := cR c135
abbrev dOg := cR aKi
abbrev aIp := cL aKi
abbrev aIv := cL aIp
abbrev sH := cL aIv
abbrev bRb := cL c135
abbrev r135 : K := bF CF Tryz.f135
def D135 (r : RT) (n : Nat) (c : Code) (X : Nat → K) (k : K) : K := aR CF r 20 n c X r135 k
theorem cMw : D135 r n dOg x0 r135 = (K2 (fL r n) 3 4) := by kernel_rfl
theorem cCk (kk3 : cZ) : D135 r n sH (xs x0 0 (K2 (fL r n) 3 4)) (K3 kk3 0 3 4) = (K3 (xN r n kk3) 0 3 4) := by kernel_rfl
theorem cCo (m : Nat) : aE (fun kk => D135 r n sH (xs x0 0 (K2 (fL r n) 3 4)) kk) m = (K3 (nD r n m) 0 3 4) := by
 induction m with
 | zero => exact (by kernel_rfl : aE (fun kk => D135 r n sH (xs x0 0 (K2 (fL r n) 3 4)) kk) 0 = (K3 (nD r n 0) 0 3 4))
 | succ m ih =>
  refine (by kernel_rfl : aE (fun kk => D135 r n sH (xs x0 0 (K2 (fL r n) 3 4)) kk) (m + 1) = D135 r n sH (xs x0 0 (K2 (fL r n) 3 4)) (aE (fun kk => D135 r n sH (xs x0 0 (K2 (fL r n) 3 4)) kk) m)).trans ?_
  rw [ih]
  exact (cCk r n (nD r n m)).trans (by kernel_rfl)
theorem cPx : D135 r n aIv (xs x0 0 (K2 (fL r n) 3 4)) (K2 (fL r n) 3 4) = (K3 (aWr r n) 0 3 4) :=
 (by kernel_rfl : D135 r n aIv (xs x0 0 (K2 (fL r n) 3 4)) (K2 (fL r n) 3 4) = aE (fun kk => D135 r n sH (xs x0 0 (K2 (fL r n) 3 4)) kk) n).trans ((cCo r n n).trans (by kernel_rfl))
theorem bWc : D135 r n aKi x0 r135 = D135 r n aIp x0 (K2 (fL r n) 3 4) :=
 congrArg (fun k => D135 r n aIp x0 k) (cMw r n)
theorem cLh : D135 r n aKi x0 r135 = (K3 (aNp r n) 0 3 4) :=
 (bWc r n).trans
 ((by kernel_rfl : D135 r n aIp x0 (K2 (fL r n) 3 4) = D135 r n aIv (xs x0 0 (K2 (fL r n) 3 4)) (K2 (fL r n) 3 4)).trans
 ((cPx r n).trans (by kernel_rfl)))
theorem dDn : D135 r n c135 x0 r135 = D135 r n bRb x0 (K3 (aNp r n) 0 3 4) :=
 congrArg (fun k => D135 r n bRb x0 k) (cLh r n)
theorem dUq : D135 r n c135 x0 r135 = (K2 (s135 r n) 0 1) :=
 (dDn r n).trans
 ((by kernel_rfl))
theorem dEx : aL CF r n 135 args h = s135 r n (aS args 0) (aS args 1) h :=
 dI (dUq r n) args h (by kernel_rfl) (by kernel_rfl)
def fM (r : RT) (n : Nat) (x3 x4 : DV) (h0 : Hp) : aF :=
 bnd (aD 6 x3 h0) fun v1 h1 =>
 bnd (aC 6 x4 v1 h1) fun _ h2 =>
 bnd (aD 6 x4 h2) fun v3 _ =>
 some (v3, h2)
def xA (r : RT) (n : Nat) (kk3 : cZ) (x0 x3 x4 : DV) (h0 : Hp) : aF :=
 bnd (r 77 [x0, (aG 1), (.s [])] h0) fun v1 h1 =>
 aV v1 (
 bnd (r 78 [x0] (fP 1 h1)) fun v2 h2 =>
 bnd (bY 1 v2 h2) fun v3 h3 =>
 bnd (aD 6 x3 h3) fun v4 h4 =>
 cnd (bM (aD 6 x3 (fP 1 h1)) v4 && true) (
 bnd (aW (cS 0 h1.next) cY 1 [(0, 6, v4)] h4) fun v5 h5 =>
 bnd (r 149 [v3, v5] h5) fun v6 h6 =>
 bnd (aC 6 x3 v6 h6) fun v7 h7 =>
      kk3 x0 x3 x4 h7)) (
      fM r n x3 x4 h1)
def nN (r : RT) (n : Nat) (m : Nat) : cZ :=
 Nat.rec (motive := fun _ => cZ) (fun _ _ _ _ => none) (fun _ ih => xA r n ih) m
def aUk (r : RT) (n : Nat) : cZ := nN r n n
def aJk (r : RT) (n : Nat) (x0 x3 x4 : DV) (h0 : Hp) : aF :=
 aUk r n x0 x3 x4 h0
def s136 (r : RT) (n : Nat) (x0 x1 : DV) (h0 : Hp) : aF :=
 bnd (eR x1 h0) fun v1 h1 =>
 bnd (bL cY h1) fun v2 h2 =>
  aJk r n x0 v1 v2 h2
abbrev c136 : Code := cf Tryz.f136
abbrev aKf := cR c136
abbrev dIn := cR aKf
abbrev aKj := cL aKf
abbrev aMn := cL aKj
abbrev rX := cL aMn
abbrev bNy := cL c136
abbrev r136 : K := bF CF Tryz.f136
def D136 (r : RT) (n : Nat) (c : Code) (X : Nat → K) (k : K) : K := aR CF r 14 n c X r136 k
theorem cUk : D136 r n dIn x0 r136 = (K2 (fM r n) 3 4) := by kernel_rfl
theorem bUe (kk3 : cZ) : D136 r n rX (xs x0 0 (K2 (fM r n) 3 4)) (K3 kk3 0 3 4) = (K3 (xA r n kk3) 0 3 4) := by kernel_rfl
theorem bVc (m : Nat) : aE (fun kk => D136 r n rX (xs x0 0 (K2 (fM r n) 3 4)) kk) m = (K3 (nN r n m) 0 3 4) := by
 induction m with
 | zero => exact (by kernel_rfl : aE (fun kk => D136 r n rX (xs x0 0 (K2 (fM r n) 3 4)) kk) 0 = (K3 (nN r n 0) 0 3 4))
 | succ m ih =>
  refine (by kernel_rfl : aE (fun kk => D136 r n rX (xs x0 0 (K2 (fM r n) 3 4)) kk) (m + 1) = D136 r n rX (xs x0 0 (K2 (fM r n) 3 4)) (aE (fun kk => D136 r n rX (xs x0 0 (K2 (fM r n) 3 4)) kk) m)).trans ?_
  rw [ih]
  exact (bUe r n (nN r n m)).trans (by kernel_rfl)
theorem cOf : D136 r n aMn (xs x0 0 (K2 (fM r n) 3 4)) (K2 (fM r n) 3 4) = (K3 (aUk r n) 0 3 4) :=
 (by kernel_rfl : D136 r n aMn (xs x0 0 (K2 (fM r n) 3 4)) (K2 (fM r n) 3 4) = aE (fun kk => D136 r n rX (xs x0 0 (K2 (fM r n) 3 4)) kk) n).trans ((bVc r n n).trans (by kernel_rfl))
theorem cEp : D136 r n aKf x0 r136 = D136 r n aKj x0 (K2 (fM r n) 3 4) :=
 congrArg (fun k => D136 r n aKj x0 k) (cUk r n)
theorem cJo : D136 r n aKf x0 r136 = (K3 (aJk r n) 0 3 4) :=
 (cEp r n).trans
 ((by kernel_rfl : D136 r n aKj x0 (K2 (fM r n) 3 4) = D136 r n aMn (xs x0 0 (K2 (fM r n) 3 4)) (K2 (fM r n) 3 4)).trans
 ((cOf r n).trans (by kernel_rfl)))
theorem dAk : D136 r n c136 x0 r136 = D136 r n bNy x0 (K3 (aJk r n) 0 3 4) :=
 congrArg (fun k => D136 r n bNy x0 k) (cJo r n)
theorem dTg : D136 r n c136 x0 r136 = (K2 (s136 r n) 0 1) :=
 (dAk r n).trans
 ((by kernel_rfl))
theorem dBn : aL CF r n 136 args h = s136 r n (aS args 0) (aS args 1) h :=
 dI (dTg r n) args h (by kernel_rfl) (by kernel_rfl)
def aVp (r : RT) (n : Nat) (x2 : DV) (h0 : Hp) : aF :=
 bnd (bC cY [] h0) fun v1 h1 =>
 bnd (aC 6 x2 v1 h1) fun _ h2 =>
 bnd (aD 6 x2 h2) fun v3 _ =>
 some (v3, h2)
def bNt (r : RT) (n : Nat) (x0 x2 : DV) (h0 : Hp) : aF :=
 bnd (r 81 [x0, (aG 0)] h0) fun v1 h1 =>
 bnd (bL [(aG 0), (.s []), (aG 0), (aG 0)] h1) fun v2 h2 =>
 bnd (aC 4 v2 v1 h2) fun _ h3 =>
 bnd (bI x0 h3) fun v4 h4 =>
 bnd (aA 3 v4 h4) fun v5 h5 =>
 bnd (aB v5 h5) fun v6 h6 =>
 bnd (aH .neq v6 (aG 0) h6) fun v7 h7 =>
 aV v7 (
  aVp r n x2 h7) (
 bnd (aA 0 v2 h7) fun v8 h8 =>
 bnd (aB v8 h8) fun v9 h9 =>
 bnd (aH .eql v9 (aG 1) h9) fun v10 h10 =>
 aV v10 (
 bnd (r 78 [x0] h10) fun v11 h11 =>
 bnd (bY 1 v11 h11) fun v12 h12 =>
 bnd (bC cY [(0, 1, (aG 5)), (1, 1, v12)] h12) fun v13 h13 =>
 bnd (aC 6 x2 v13 h13) fun _ h14 =>
 bnd (aD 6 x2 h14) fun v15 _ =>
 some (v15, h14)) (
 bnd (aA 0 v2 h10) fun v16 h16 =>
 bnd (aB v16 h16) fun v17 h17 =>
 bnd (aH .eql v17 (aG 7) h17) fun v18 h18 =>
 aV v18 (
 bnd (r 151 [x0, (.f 152 [x0] [])] h18) fun v19 h19 =>
 bnd (aC 6 x2 v19 h19) fun _ h20 =>
 bnd (aD 6 x2 h20) fun v21 _ =>
 some (v21, h20)) (
 bnd (r 77 [x0, (aG 10), (.s [40])] h18) fun v22 h22 =>
 aV v22 (
 bnd (r 151 [x0, (.f 153 [x0] [])] h22) fun v23 h23 =>
 bnd (aC 6 x2 v23 h23) fun _ h24 =>
 bnd (aD 6 x2 h24) fun v25 _ =>
 some (v25, h24)) (
 bnd (r 77 [x0, (aG 10), (.s [91])] h22) fun v26 h26 =>
 aV v26 (
 bnd (r 151 [x0, (.f 154 [x0] [])] h26) fun v27 h27 =>
 bnd (aC 6 x2 v27 h27) fun _ h28 =>
 bnd (aD 6 x2 h28) fun v29 _ =>
 some (v29, h28)) (
 bnd (aD 4 v2 h26) fun v30 h30 =>
 bnd (r 80 [x0, v30, (aG 13)] h30) fun v31 h31 =>
  aVp r n x2 h31)))))
def bXg (r : RT) (n : Nat) (x0 x2 : DV) (h0 : Hp) : aF :=
 bnd (r 150 [x0] h0) fun v1 h1 =>
 bnd (aP 0 v1 h1) fun v2 h2 =>
 bnd (aP 1 v1 h2) fun v3 h3 =>
 bnd (bL cY h3) fun v4 h4 =>
 bnd (aC 6 v4 v2 h4) fun _ h5 =>
 aV v3 (
 bnd (aD 6 v4 h5) fun v6 h6 =>
 bnd (aC 6 x2 v6 h6) fun _ h7 =>
 bnd (aD 6 x2 h7) fun v8 _ =>
 some (v8, h7)) (
  bNt r n x0 x2 h5)
def s137 (r : RT) (n : Nat) (x0 : DV) (h0 : Hp) : aF :=
 bnd (bL cY h0) fun v1 h1 =>
  bXg r n x0 v1 h1
abbrev c137 : Code := cf Tryz.f137
abbrev r137 : K := bF CF Tryz.f137
def D137 (r : RT) (n : Nat) (c : Code) (X : Nat → K) (k : K) : K := aR CF r 55 n c X r137 k
theorem dTv : D137 r n c137 x0 r137 = (K1 (s137 r n) 0) := by kernel_rfl
theorem dDr : aL CF r n 137 args h = s137 r n (aS args 0) h :=
 dI (dTv r n) args h (by kernel_rfl) (by kernel_rfl)
def s138 (r : RT) (n : Nat) (x0 : DV) (h0 : Hp) : aF :=
 bnd (eR x0 h0) fun v1 h1 =>
 bnd (bL cY h1) fun v2 h2 =>
 bnd (aA 5 v1 h2) fun v3 h3 =>
 bnd (aB v3 h3) fun v4 h4 =>
 bnd (dG v4 h4) fun v5 h5 =>
 bnd (aH .eql v5 (aG 0) h5) fun v6 h6 =>
 aV v6 (
 bnd (aD 6 v1 h6) fun v7 h7 =>
 bnd (aC 6 v2 v7 h7) fun _ h8 =>
 bnd (aD 6 v2 h8) fun v9 _ =>
 some (v9, h8)) (
 bnd (aA 1 v1 h6) fun v10 h10 =>
 bnd (aB v10 h10) fun v11 h11 =>
 bnd (aA 5 v1 h11) fun v12 h12 =>
 bnd (aB v12 h12) fun v13 h13 =>
 bnd (dB 6 v13 (some (aG 1)) none h13) fun v14 h14 =>
 bnd (r 155 [v14] h14) fun v15 h15 =>
 cnd (bM (aB v10 h15) v11 && true) (
 bnd (bC cY [(0, 1, (aG 7)), (1, 1, v11), (5, 1, v15)] h15) fun v16 h16 =>
 bnd (aC 6 v2 v16 h16) fun v17 h17 =>
 bnd (aD 6 v2 h17) fun v18 _ =>
 some (v18, h17)))
abbrev c138 : Code := cf Tryz.f138
abbrev r138 : K := bF CF Tryz.f138
def D138 (r : RT) (n : Nat) (c : Code) (X : Nat → K) (k : K) : K := aR CF r 15 n c X r138 k
theorem dTl : D138 r n c138 x0 r138 = (K1 (s138 r n) 0) :=
 (by kernel_rfl)
theorem dLp : aL CF r n 138 args h = s138 r n (aS args 0) h :=
 dI (dTl r n) args h (by kernel_rfl) (by kernel_rfl)
def s139 (r : RT) (n : Nat) (x0 : DV) (h0 : Hp) : aF :=
 bnd (bL cY h0) fun v1 h1 =>
 bnd (bL cY h1) fun v2 h2 =>
 bnd (r 81 [x0, (aG 0)] h2) fun v3 h3 =>
 bnd (bL [(aG 0), (.s []), (aG 0), (aG 0)] h3) fun v4 h4 =>
 bnd (aC 4 v4 v3 h4) fun _ h5 =>
 bnd (aA 0 v4 h5) fun v6 h6 =>
 bnd (aB v6 h6) fun v7 h7 =>
 bnd (aH .eql v7 (aG 1) h7) fun v8 h8 =>
 aV v8 (
 bnd (r 78 [x0] h8) fun v9 h9 =>
 bnd (aA 1 v4 h9) fun v10 h10 =>
 bnd (aB v10 h10) fun v11 h11 =>
 bnd (aD 6 v2 h11) fun v12 h12 =>
 bnd (aN cY 1 [(0, 6, v12)] h12) fun v13 h13 =>
 bnd (r 149 [v11, v13] h13) fun v14 h14 =>
 bnd (aC 6 v1 v14 h14) fun _ h15 =>
 bnd (aD 6 v1 h15) fun v16 _ =>
 some (v16, h15)) (
 bnd (aH .eql v7 (aG 3) h8) fun v17 h17 =>
 aV v17 (
 bnd (r 78 [x0] h17) fun v18 h18 =>
 bnd (aA 1 v4 (fP 1 h18)) fun v19 h19 =>
 bnd (aB v19 h19) fun v20 h20 =>
 bnd (aD 6 v2 h20) fun v21 h21 =>
 bnd (r 137 [x0] h21) fun v22 h22 =>
 cnd (bM (aD 6 v2 h22) v21 && (bM (aB v19 h22) v20 && true)) (
 bnd (r 136 [x0, v22] h22) fun v23 h23 =>
 cnd (bM (aD 6 v2 h23) v21 && (bM (aB v19 h23) v20 && true)) (
 bnd (aW (cS 0 h18.next) [(aG 0), (.s []), (aG 0), .l0, .l0, .l0, (aG 0), (.s []), (aG 0), .l0, .l0, .l0] 2 [(0, 6, v21), (6, 6, v23)] h23) fun v24 h24 =>
 bnd (r 149 [v20, v24] h24) fun v25 h25 =>
 bnd (aC 6 v1 v25 h25) fun v26 h26 =>
 bnd (aD 6 v1 h26) fun v27 _ =>
 some (v27, h26)))) (
 bnd (aH .eql v7 (aG 2) h17) fun v28 h28 =>
 aV v28 (
 bnd (aD 6 v2 h28) fun v29 h29 =>
 bnd (r 134 [x0, v29] h29) fun v30 h30 =>
 bnd (aC 6 v1 v30 h30) fun _ h31 =>
 bnd (aD 6 v1 h31) fun v32 _ =>
 some (v32, h31)) (
 bnd (aD 4 v4 h28) fun v33 h33 =>
 bnd (r 80 [x0, v33, (aG 13)] h33) fun v34 h34 =>
 bnd (aD 6 v2 h34) fun v35 h35 =>
 bnd (aC 6 v1 v35 h35) fun _ h36 =>
 bnd (aD 6 v1 h36) fun v37 _ =>
 some (v37, h36))))
abbrev c139 : Code := cf Tryz.f139
abbrev r139 : K := bF CF Tryz.f139
def D139 (r : RT) (n : Nat) (c : Code) (X : Nat → K) (k : K) : K := aR CF r 40 n c X r139 k
theorem dOp : D139 r n c139 x0 r139 = (K1 (s139 r n) 0) :=
 (by kernel_rfl)
theorem dJi : aL CF r n 139 args h = s139 r n (aS args 0) h :=
 dI (dOp r n) args h (by kernel_rfl) (by kernel_rfl)
def s149 (r : RT) (n : Nat) (x0 x1 : DV) (h0 : Hp) : aF :=
 bnd (bL cY h0) fun v1 h1 =>
 bnd (bC cY [(0, 1, (aG 7)), (1, 1, x0), (5, 1, x1)] h1) fun v2 h2 =>
 bnd (aC 6 v1 v2 h2) fun _ h3 =>
 bnd (aD 6 v1 h3) fun v4 _ =>
 some (v4, h3)
abbrev c149 : Code := cf Tryz.f149
abbrev r149 : K := bF CF Tryz.f149
def D149 (r : RT) (n : Nat) (c : Code) (X : Nat → K) (k : K) : K := aR CF r 8 n c X r149 k
theorem dPq : D149 r n c149 x0 r149 = (K2 (s149 r n) 0 1) :=
 (by kernel_rfl)
theorem dEv : aL CF r n 149 args h = s149 r n (aS args 0) (aS args 1) h :=
 dI (dPq r n) args h (by kernel_rfl) (by kernel_rfl)
def aGo (r : RT) (n : Nat) (x0 x2 x5 : DV) (h0 : Hp) : aF :=
 bnd (r 78 [x0] h0) fun v1 h1 =>
 bnd (aD 6 x5 h1) fun v2 h2 =>
 bnd (aC 6 x2 v2 h2) fun _ h3 =>
 bnd (aD 6 x2 h3) fun v4 _ =>
 some (.t [v4, (.b true)], h3)
def bMs (r : RT) (n : Nat) (x0 x2 x4 x5 : DV) (h0 : Hp) : aF :=
 bnd (bI x0 h0) fun v1 h1 =>
 bnd (aA 3 v1 h1) fun v2 h2 =>
 bnd (aB v2 h2) fun v3 h3 =>
 bnd (aH .neq v3 (aG 0) h3) fun v4 h4 =>
 aV v4 (
 bnd (aD 6 x5 h4) fun v5 h5 =>
 bnd (aC 6 x2 v5 h5) fun _ h6 =>
 bnd (aD 6 x2 h6) fun v7 _ =>
 some (.t [v7, (.b false)], h6)) (
 bnd (r 161 [x0] h4) fun v8 h8 =>
 aV v8 (
 bnd (r 78 [x0] h8) fun v9 h9 =>
 bnd (r 78 [x0] h9) fun v10 h10 =>
 bnd (bY 2 v10 h10) fun v11 h11 =>
 bnd (lS .neg v11 h11) fun v12 h12 =>
 bnd (bC cY [(0, 1, (aG 1)), (2, 1, v12)] h12) fun v13 h13 =>
 bnd (aC 6 x2 v13 h13) fun _ h14 =>
 bnd (aD 6 x2 h14) fun v15 _ =>
 some (.t [v15, (.b true)], h14)) (
 bnd (aA 0 x4 h8) fun v16 h16 =>
 bnd (aB v16 h16) fun v17 h17 =>
 bnd (aH .eql v17 (aG 4) h17) fun v18 h18 =>
 aV v18 (
 bnd (aA 0 x5 h18) fun v19 h19 =>
 bnd (aC 1 v19 (aG 1) h19) fun _ h20 =>
  aGo r n x0 x2 x5 h20) (
 bnd (aA 0 x4 h18) fun v21 h21 =>
 bnd (aB v21 h21) fun v22 h22 =>
 bnd (aH .eql v22 (aG 5) h22) fun v23 h23 =>
 aV v23 (
 bnd (aA 0 x5 h23) fun v24 h24 =>
 bnd (aC 1 v24 (aG 2) h24) fun _ h25 =>
  aGo r n x0 x2 x5 h25) (
 bnd (aA 0 x4 h23) fun v26 h26 =>
 bnd (aB v26 h26) fun v27 h27 =>
 bnd (aH .eql v27 (aG 6) h27) fun v28 h28 =>
 aV v28 (
 bnd (aA 0 x5 h28) fun v29 h29 =>
 bnd (aC 1 v29 (aG 3) h29) fun _ h30 =>
  aGo r n x0 x2 x5 h30) (
 bnd (aD 6 x5 h28) fun v31 h31 =>
 bnd (aC 6 x2 v31 h31) fun _ h32 =>
 bnd (aD 6 x2 h32) fun v33 _ =>
 some (.t [v33, (.b false)], h32))))))
def bMz (r : RT) (n : Nat) (x0 x2 x4 : DV) (h0 : Hp) : aF :=
 bnd (aA 1 x4 h0) fun v1 h1 =>
 bnd (aB v1 h1) fun v2 h2 =>
 bnd (aA 2 x4 h2) fun v3 h3 =>
 bnd (aB v3 h3) fun v4 h4 =>
 bnd (bC cY [(1, 1, v2), (2, 1, v4)] h4) fun v5 h5 =>
 bnd (bL cY h5) fun v6 h6 =>
 bnd (aC 6 v6 v5 h6) fun _ h7 =>
  bMs r n x0 x2 x4 v6 h7
def bZn (r : RT) (n : Nat) (x0 x2 : DV) (h0 : Hp) : aF :=
 bnd (r 81 [x0, (aG 0)] h0) fun v1 h1 =>
 bnd (bL [(aG 0), (.s []), (aG 0), (aG 0)] h1) fun v2 h2 =>
 bnd (aC 4 v2 v1 h2) fun _ h3 =>
  bMz r n x0 x2 v2 h3
def s150 (r : RT) (n : Nat) (x0 : DV) (h0 : Hp) : aF :=
 bnd (bL cY h0) fun v1 h1 =>
  bZn r n x0 v1 h1
abbrev c150 : Code := cf Tryz.f150
abbrev r150 : K := bF CF Tryz.f150
def D150 (r : RT) (n : Nat) (c : Code) (X : Nat → K) (k : K) : K := aR CF r 49 n c X r150 k
theorem dQl : D150 r n c150 x0 r150 = (K1 (s150 r n) 0) := by kernel_rfl
theorem dMm : aL CF r n 150 args h = s150 r n (aS args 0) h :=
 dI (dQl r n) args h (by kernel_rfl) (by kernel_rfl)
def s151 (r : RT) (n : Nat) (x0 x1 : DV) (h0 : Hp) : aF :=
 bnd (bL cY h0) fun v1 h1 =>
 bnd (r 78 [x0] h1) fun v2 h2 =>
 bnd (bL [(aG 0), (.s []), (aG 0), (aG 0)] h2) fun v3 h3 =>
 bnd (aC 4 v3 v2 h3) fun _ h4 =>
 bnd (bI x0 h4) fun v5 h5 =>
 bnd (aA 1 v5 h5) fun v6 h6 =>
 bnd (aB v6 h6) fun v7 h7 =>
 bnd (aH .eql v7 (aG 20) h7) fun v8 h8 =>
 aV v8 (
 bnd (aD 4 v3 h8) fun v9 h9 =>
 bnd (r 80 [x0, v9, (aG 14)] h9) fun v10 h10 =>
 bnd (bC cY [] h10) fun v11 h11 =>
 bnd (aC 6 v1 v11 h11) fun _ h12 =>
 bnd (aD 6 v1 h12) fun v13 _ =>
 some (v13, h12)) (
 bnd (bI x0 h8) fun v14 h14 =>
 bnd (aA 1 v14 h14) fun v15 h15 =>
 bnd (aB v15 h15) fun v16 h16 =>
 bnd (aH .add v16 (aG 1) h16) fun v17 h17 =>
 bnd (bI x0 h17) fun v18 h18 =>
 bnd (aA 1 v18 h18) fun v19 h19 =>
 bnd (aC 1 v19 v17 h19) fun _ h20 =>
 bnd (eA CF r x1 [] h20) fun v21 h21 =>
 bnd (bL cY h21) fun v22 h22 =>
 bnd (aC 6 v22 v21 h22) fun _ h23 =>
 bnd (bI x0 h23) fun v24 h24 =>
 bnd (aA 1 v24 h24) fun v25 h25 =>
 bnd (aB v25 h25) fun v26 h26 =>
 bnd (aH .sub v26 (aG 1) h26) fun v27 h27 =>
 bnd (bI x0 h27) fun v28 h28 =>
 bnd (aA 1 v28 h28) fun v29 h29 =>
 bnd (aC 1 v29 v27 h29) fun _ h30 =>
 bnd (aD 6 v22 h30) fun v31 h31 =>
 bnd (aC 6 v1 v31 h31) fun _ h32 =>
 bnd (aD 6 v1 h32) fun v33 _ =>
 some (v33, h32))
abbrev c151 : Code := cf Tryz.f151
abbrev r151 : K := bF CF Tryz.f151
def D151 (r : RT) (n : Nat) (c : Code) (X : Nat → K) (k : K) : K := aR CF r 35 n c X r151 k
theorem dUz : D151 r n c151 x0 r151 = (K2 (s151 r n) 0 1) :=
 (by kernel_rfl)
theorem dMa : aL CF r n 151 args h = s151 r n (aS args 0) (aS args 1) h :=
 dI (dUz r n) args h (by kernel_rfl) (by kernel_rfl)
def fD (r : RT) (n : Nat) (x0 x2 x3 : DV) (h0 : Hp) : aF :=
 bnd (r 78 [x0] h0) fun v1 h1 =>
 bnd (aD 6 x3 h1) fun v2 h2 =>
 bnd (aC 6 x2 v2 h2) fun _ h3 =>
 bnd (aD 6 x2 h3) fun v4 _ =>
 some (v4, h3)
def rK (r : RT) (n : Nat) (kk4 : cZ) (x0 x2 x3 x4 : DV) (h0 : Hp) : aF :=
 bnd (aA 5 x3 h0) fun v1 h1 =>
 bnd (aB v1 h1) fun v2 h2 =>
 bnd (aD 6 x4 h2) fun v3 h3 =>
 bnd (aN cY 1 [(0, 6, v3)] h3) fun v4 h4 =>
 bnd (aY 6 104 v2 v4 h4) fun v5 h5 =>
 bnd (aA 5 x3 h5) fun v6 h6 =>
 bnd (aC 1 v6 v5 h6) fun _ h7 =>
  kk4 x0 x2 x3 h7
def bOi (r : RT) (n : Nat) (kk4 : cZ) (x0 x2 x3 x4 x5 : DV) (h0 : Hp) : aF :=
 aV x5 (
  rK r n kk4 x0 x2 x3 x4 h0) (
 bnd (r 77 [x0, (aG 7), (.s [])] h0) fun v1 h1 =>
 bnd (gD v1 false (some (x0, h1)) h1) fun v2 h2 =>
 bnd (gD v1 false (r 77 [v2, (aG 10), (.s [40])] h2) h2) fun v3 h3 =>
 bnd (bA v1 (.b true) v3 h3) fun v4 h4 =>
 aV v4 (
 bnd (r 151 [x0, (.f 152 [x0] [])] h4) fun v5 h5 =>
 bnd (aC 6 x4 v5 h5) fun _ h6 =>
      rK r n kk4 x0 x2 x3 x4 h6) (
 bnd (r 81 [x0, (aG 0)] h4) fun v7 h7 =>
 bnd (r 80 [x0, v7, (aG 13)] h7) fun v8 h8 =>
      rK r n kk4 x0 x2 x3 x4 h8))
def cCu (r : RT) (n : Nat) (kk4 : cZ) (x0 x2 x3 : DV) (h0 : Hp) : aF :=
 bnd (r 150 [x0] h0) fun v1 h1 =>
 bnd (aP 0 v1 h1) fun v2 h2 =>
 bnd (aP 1 v1 h2) fun v3 h3 =>
 bnd (bL cY h3) fun v4 h4 =>
 bnd (aC 6 v4 v2 h4) fun _ h5 =>
  bOi r n kk4 x0 x2 x3 v4 v3 h5
def xD (r : RT) (n : Nat) (kk4 : cZ) (x0 x2 x3 : DV) (h0 : Hp) : aF :=
 bnd (bI x0 h0) fun v1 h1 =>
 bnd (aA 3 v1 h1) fun v2 h2 =>
 bnd (aB v2 h2) fun v3 h3 =>
 bnd (aH .eql v3 (aG 0) h3) fun v4 h4 =>
 bnd (gD v4 true (some (x0, h4)) h4) fun v5 h5 =>
 bnd (gD v4 true (r 77 [v5, (aG 10), (.s [41])] h5) h5) fun v6 h6 =>
 bnd (gD v4 true (lS .not v6 h6) h6) fun v7 h7 =>
 bnd (bA v4 v7 (.b false) h7) fun v8 h8 =>
 aV v8 (
  cCu r n kk4 x0 x2 x3 h8) (
  fD r n x0 x2 x3 h8)
def jQ (r : RT) (n : Nat) (m : Nat) : cZ :=
 Nat.rec (motive := fun _ => cZ) (fun _ _ _ _ => none) (fun _ ih => xD r n ih) m
def aWt (r : RT) (n : Nat) : cZ := jQ r n n
def aNh (r : RT) (n : Nat) (x0 x2 x3 : DV) (h0 : Hp) : aF :=
 aWt r n x0 x2 x3 h0
def aJm (r : RT) (n : Nat) (x0 x2 : DV) (h0 : Hp) : aF :=
 bnd (bC cY [(0, 1, (aG 4))] h0) fun v1 h1 =>
 bnd (bL cY h1) fun v2 h2 =>
 bnd (aC 6 v2 v1 h2) fun _ h3 =>
  aNh r n x0 x2 v2 h3
def s152 (r : RT) (n : Nat) (x0 : DV) (h0 : Hp) : aF :=
 bnd (bL cY h0) fun v1 h1 =>
  aJm r n x0 v1 h1
abbrev c152 : Code := cf Tryz.f152
abbrev aLj := cR c152
abbrev aLy := cR aLj
abbrev dNd := cR aLy
abbrev aMa := cL aLy
abbrev aIl := cL aMa
abbrev tI := cL aIl
abbrev bAh := cL aLj
abbrev bAc := cL c152
abbrev r152 : K := bF CF Tryz.f152
def D152 (r : RT) (n : Nat) (c : Code) (X : Nat → K) (k : K) : K := aR CF r 48 n c X r152 k
theorem cJm : D152 r n dNd x0 r152 = (K3 (fD r n) 0 2 3) := by kernel_rfl
theorem bOp (kk4 : cZ) : D152 r n tI (xs x0 0 (K3 (fD r n) 0 2 3)) (K3 kk4 0 2 3) = (K3 (xD r n kk4) 0 2 3) := by kernel_rfl
theorem bVj (m : Nat) : aE (fun kk => D152 r n tI (xs x0 0 (K3 (fD r n) 0 2 3)) kk) m = (K3 (jQ r n m) 0 2 3) := by
 induction m with
 | zero => exact (by kernel_rfl : aE (fun kk => D152 r n tI (xs x0 0 (K3 (fD r n) 0 2 3)) kk) 0 = (K3 (jQ r n 0) 0 2 3))
 | succ m ih =>
  refine (by kernel_rfl : aE (fun kk => D152 r n tI (xs x0 0 (K3 (fD r n) 0 2 3)) kk) (m + 1) = D152 r n tI (xs x0 0 (K3 (fD r n) 0 2 3)) (aE (fun kk => D152 r n tI (xs x0 0 (K3 (fD r n) 0 2 3)) kk) m)).trans ?_
  rw [ih]
  exact (bOp r n (jQ r n m)).trans (by kernel_rfl)
theorem cKv : D152 r n aIl (xs x0 0 (K3 (fD r n) 0 2 3)) (K3 (fD r n) 0 2 3) = (K3 (aWt r n) 0 2 3) :=
 (by kernel_rfl : D152 r n aIl (xs x0 0 (K3 (fD r n) 0 2 3)) (K3 (fD r n) 0 2 3) = aE (fun kk => D152 r n tI (xs x0 0 (K3 (fD r n) 0 2 3)) kk) n).trans ((bVj r n n).trans (by kernel_rfl))
theorem bNj : D152 r n aLy x0 r152 = D152 r n aMa x0 (K3 (fD r n) 0 2 3) :=
 congrArg (fun k => D152 r n aMa x0 k) (cJm r n)
theorem cQc : D152 r n aLy x0 r152 = (K3 (aNh r n) 0 2 3) :=
 (bNj r n).trans
 ((by kernel_rfl : D152 r n aMa x0 (K3 (fD r n) 0 2 3) = D152 r n aIl (xs x0 0 (K3 (fD r n) 0 2 3)) (K3 (fD r n) 0 2 3)).trans
 ((cKv r n).trans (by kernel_rfl)))
theorem bWq : D152 r n aLj x0 r152 = D152 r n bAh x0 (K3 (aNh r n) 0 2 3) :=
 congrArg (fun k => D152 r n bAh x0 k) (cQc r n)
theorem cVo : D152 r n aLj x0 r152 = (K2 (aJm r n) 0 2) :=
 (bWq r n).trans
 ((by kernel_rfl))
theorem dOa : D152 r n c152 x0 r152 = D152 r n bAc x0 (K2 (aJm r n) 0 2) :=
 congrArg (fun k => D152 r n bAc x0 k) (cVo r n)
theorem dUv : D152 r n c152 x0 r152 = (K1 (s152 r n) 0) :=
 (dOa r n).trans
 ((by kernel_rfl))
theorem dIj : aL CF r n 152 args h = s152 r n (aS args 0) h :=
 dI (dUv r n) args h (by kernel_rfl) (by kernel_rfl)
def s153 (r : RT) (n : Nat) (x0 : DV) (h0 : Hp) : aF :=
 bnd (bL cY h0) fun v1 h1 =>
 bnd (r 79 [x0] h1) fun v2 h2 =>
 bnd (bL cY h2) fun v3 h3 =>
 bnd (aC 6 v3 v2 h3) fun _ h4 =>
 bnd (r 51 [x0, (aG 10), (.s [41])] h4) fun v5 h5 =>
 bnd (aD 6 v3 h5) fun v6 h6 =>
 bnd (aC 6 v1 v6 h6) fun _ h7 =>
 bnd (aD 6 v1 h7) fun v8 _ =>
 some (v8, h7)
abbrev c153 : Code := cf Tryz.f153
abbrev r153 : K := bF CF Tryz.f153
def D153 (r : RT) (n : Nat) (c : Code) (X : Nat → K) (k : K) : K := aR CF r 9 n c X r153 k
theorem dPx : D153 r n c153 x0 r153 = (K1 (s153 r n) 0) :=
 (by kernel_rfl)
theorem dCp : aL CF r n 153 args h = s153 r n (aS args 0) h :=
 dI (dPx r n) args h (by kernel_rfl) (by kernel_rfl)
def aIa (r : RT) (n : Nat) (x0 x2 x3 : DV) (h0 : Hp) : aF :=
 bnd (r 49 [x0] h0) fun v1 h1 =>
 bnd (aA 4 x3 h1) fun v2 h2 =>
 bnd (aC 1 v2 v1 h2) fun _ h3 =>
 bnd (r 50 [x0] h3) fun v4 h4 =>
 bnd (aA 5 x3 h4) fun v5 h5 =>
 bnd (aC 1 v5 v4 h5) fun _ h6 =>
 bnd (r 51 [x0, (aG 10), (.s [93])] h6) fun v7 h7 =>
 bnd (aD 6 x3 h7) fun v8 h8 =>
 bnd (aC 6 x2 v8 h8) fun _ h9 =>
 bnd (aD 6 x2 h9) fun v10 _ =>
 some (v10, h9)
def fE (r : RT) (n : Nat) (x0 x2 x3 : DV) (h0 : Hp) : aF :=
 bnd (aA 3 x3 h0) fun v1 h1 =>
 bnd (aB v1 h1) fun v2 h2 =>
 bnd (dG v2 h2) fun v3 h3 =>
 bnd (aH .gtr v3 (aG 0) h3) fun v4 h4 =>
 bnd (gD v4 true (some (x0, h4)) h4) fun v5 h5 =>
 bnd (gD v4 true (r 77 [v5, (aG 10), (.s [93])] h5) h5) fun v6 h6 =>
 bnd (gD v4 true (lS .not v6 h6) h6) fun v7 h7 =>
 bnd (bA v4 v7 (.b false) h7) fun v8 h8 =>
 aV v8 (
 bnd (r 51 [x0, (aG 10), (.s [124])] h8) fun v9 h9 =>
  aIa r n x0 x2 x3 h9) (
  aIa r n x0 x2 x3 h8)
def xI (r : RT) (n : Nat) (kk5 : cZ) (x0 x2 x3 : DV) (h0 : Hp) : aF :=
 bnd (r 77 [x0, (aG 8), (.s [])] h0) fun v1 h1 =>
 aV v1 (
 bnd (aA 3 x3 (fP 1 h1)) fun v2 h2 =>
 bnd (aB v2 h2) fun v3 h3 =>
 bnd (aA 3 x3 h3) fun v4 h4 =>
 bnd (aB v4 h4) fun v5 h5 =>
 bnd (r 82 [x0, (aG 8), v5] h5) fun v6 h6 =>
 cnd (bM (aB v2 h6) v3 && true) (
 bnd (aW (cS 0 h1.next) [(.s [])] 1 [(0, 1, v6)] h6) fun v7 h7 =>
 bnd (aY 1 16 v3 v7 h7) fun v8 h8 =>
 bnd (aA 3 x3 h8) fun v9 h9 =>
 bnd (aC 1 v9 v8 h9) fun v10 h10 =>
      kk5 x0 x2 x3 h10)) (
      fE r n x0 x2 x3 h1)
def oL (r : RT) (n : Nat) (m : Nat) : cZ :=
 Nat.rec (motive := fun _ => cZ) (fun _ _ _ _ => none) (fun _ ih => xI r n ih) m
def aVh (r : RT) (n : Nat) : cZ := oL r n n
def aMh (r : RT) (n : Nat) (x0 x2 x3 : DV) (h0 : Hp) : aF :=
 aVh r n x0 x2 x3 h0
def aNa (r : RT) (n : Nat) (x0 x2 : DV) (h0 : Hp) : aF :=
 bnd (bC cY [(0, 1, (aG 9))] h0) fun v1 h1 =>
 bnd (bL cY h1) fun v2 h2 =>
 bnd (aC 6 v2 v1 h2) fun _ h3 =>
  aMh r n x0 x2 v2 h3
def s154 (r : RT) (n : Nat) (x0 : DV) (h0 : Hp) : aF :=
 bnd (bL cY h0) fun v1 h1 =>
  aNa r n x0 v1 h1
abbrev c154 : Code := cf Tryz.f154
abbrev aKz := cR c154
abbrev aJy := cR aKz
abbrev dCc := cR aJy
abbrev aFz := cL aJy
abbrev aNk := cL aFz
abbrev sV := cL aNk
abbrev bVe := cL aKz
abbrev bDk := cL c154
abbrev r154 : K := bF CF Tryz.f154
def D154 (r : RT) (n : Nat) (c : Code) (X : Nat → K) (k : K) : K := aR CF r 36 n c X r154 k
theorem cJy : D154 r n dCc x0 r154 = (K3 (fE r n) 0 2 3) := by kernel_rfl
theorem bOj (kk5 : cZ) : D154 r n sV (xs x0 0 (K3 (fE r n) 0 2 3)) (K3 kk5 0 2 3) = (K3 (xI r n kk5) 0 2 3) := by kernel_rfl
theorem bMj (m : Nat) : aE (fun kk => D154 r n sV (xs x0 0 (K3 (fE r n) 0 2 3)) kk) m = (K3 (oL r n m) 0 2 3) := by
 induction m with
 | zero => exact (by kernel_rfl : aE (fun kk => D154 r n sV (xs x0 0 (K3 (fE r n) 0 2 3)) kk) 0 = (K3 (oL r n 0) 0 2 3))
 | succ m ih =>
  refine (by kernel_rfl : aE (fun kk => D154 r n sV (xs x0 0 (K3 (fE r n) 0 2 3)) kk) (m + 1) = D154 r n sV (xs x0 0 (K3 (fE r n) 0 2 3)) (aE (fun kk => D154 r n sV (xs x0 0 (K3 (fE r n) 0 2 3)) kk) m)).trans ?_
  rw [ih]
  exact (bOj r n (oL r n m)).trans (by kernel_rfl)
theorem cIe : D154 r n aNk (xs x0 0 (K3 (fE r n) 0 2 3)) (K3 (fE r n) 0 2 3) = (K3 (aVh r n) 0 2 3) :=
 (by kernel_rfl : D154 r n aNk (xs x0 0 (K3 (fE r n) 0 2 3)) (K3 (fE r n) 0 2 3) = aE (fun kk => D154 r n sV (xs x0 0 (K3 (fE r n) 0 2 3)) kk) n).trans ((bMj r n n).trans (by kernel_rfl))
theorem bWw : D154 r n aJy x0 r154 = D154 r n aFz x0 (K3 (fE r n) 0 2 3) :=
 congrArg (fun k => D154 r n aFz x0 k) (cJy r n)
theorem cTy : D154 r n aJy x0 r154 = (K3 (aMh r n) 0 2 3) :=
 (bWw r n).trans
 ((by kernel_rfl : D154 r n aFz x0 (K3 (fE r n) 0 2 3) = D154 r n aNk (xs x0 0 (K3 (fE r n) 0 2 3)) (K3 (fE r n) 0 2 3)).trans
 ((cIe r n).trans (by kernel_rfl)))
theorem bTd : D154 r n aKz x0 r154 = D154 r n bVe x0 (K3 (aMh r n) 0 2 3) :=
 congrArg (fun k => D154 r n bVe x0 k) (cTy r n)
theorem cQg : D154 r n aKz x0 r154 = (K2 (aNa r n) 0 2) :=
 (bTd r n).trans
 ((by kernel_rfl))
theorem dIh : D154 r n c154 x0 r154 = D154 r n bDk x0 (K2 (aNa r n) 0 2) :=
 congrArg (fun k => D154 r n bDk x0 k) (cQg r n)
theorem dWb : D154 r n c154 x0 r154 = (K1 (s154 r n) 0) :=
 (dIh r n).trans
 ((by kernel_rfl))
theorem dDx : aL CF r n 154 args h = s154 r n (aS args 0) h :=
 dI (dWb r n) args h (by kernel_rfl) (by kernel_rfl)
def s155 (r : RT) (n : Nat) (x0 : DV) (h0 : Hp) : aF :=
 bnd (pEq (.slice 25) true x0 .l0 h0) fun v1 h1 =>
 aV v1 (
 some (.l0, h1)) (
 bnd (aN [] 0 [] h1) fun v2 h2 =>
 bnd (aY 6 104 v2 x0 h2) fun v3 h3 =>
 some (v3, h3))
abbrev c155 : Code := cf Tryz.f155
abbrev r155 : K := bF CF Tryz.f155
def D155 (r : RT) (n : Nat) (c : Code) (X : Nat → K) (k : K) : K := aR CF r 8 n c X r155 k
theorem dOm : D155 r n c155 x0 r155 = (K1 (s155 r n) 0) :=
 (by kernel_rfl)
theorem dAz : aL CF r n 155 args h = s155 r n (aS args 0) h :=
 dI (dOm r n) args h (by kernel_rfl) (by kernel_rfl)
def s161 (r : RT) (n : Nat) (x0 : DV) (h0 : Hp) : aF :=
 bnd (r 81 [x0, (aG 1)] h0) fun v1 h1 =>
 bnd (bL [(aG 0), (.s []), (aG 0), (aG 0)] h1) fun v2 h2 =>
 bnd (aC 4 v2 v1 h2) fun _ h3 =>
 bnd (r 77 [x0, (aG 3), (.s [45])] h3) fun v4 h4 =>
 bnd (gD v4 true (aA 0 v2 h4) h4) fun v5 h5 =>
 bnd (gD v4 true (aB v5 h5) h5) fun v6 h6 =>
 bnd (gD v4 true (aH .eql v6 (aG 4) h6) h6) fun v7 h7 =>
 bnd (bA v4 v7 (.b false) h7) fun v8 h8 =>
 bnd (gD v8 true (aA 3 v2 h8) h8) fun v9 h9 =>
 bnd (gD v8 true (aB v9 h9) h9) fun v10 h10 =>
 bnd (gD v8 true (some (x0, h10)) h10) fun v11 h11 =>
 bnd (gD v8 true (r 81 [v11, (aG 0)] h11) h11) fun v12 h12 =>
 cnd (bM (gD v8 true (aB v9 h12) h12) v10 && true) (
 bnd (gD v8 true (bY 3 v12 h12) h12) fun v13 h13 =>
 bnd (gD v8 true (aH .add v13 (aG 1) h13) h13) fun v14 h14 =>
 bnd (gD v8 true (aH .eql v10 v14 h14) h14) fun v15 h15 =>
 bnd (bA v8 v15 (.b false) h15) fun v16 h16 =>
 some (v16, h16))
abbrev c161 : Code := cf Tryz.f161
abbrev r161 : K := bF CF Tryz.f161
def D161 (r : RT) (n : Nat) (c : Code) (X : Nat → K) (k : K) : K := aR CF r 22 n c X r161 k
theorem dSm : D161 r n c161 x0 r161 = (K1 (s161 r n) 0) :=
 (by kernel_rfl)
theorem dEw : aL CF r n 161 args h = s161 r n (aS args 0) h :=
 dI (dSm r n) args h (by kernel_rfl) (by kernel_rfl)
end
end Go.Dd

namespace Go.Dd
open Go.Proofs
noncomputable section
section
variable (ih : RT) (m : Nat) (f : FuncId) (args : List DV) (h : Hp)
theorem dJ {i : Nat} {s r : aF} (e1 : s = aL CF ih m i args h) (e2 : r = aL CF ih m f args h) : (bif Nat.beq f i then s else r) = aL CF ih m f args h := by
 cases e : Nat.beq f i with
 | false => exact e2
 | true => cases Nat.eq_of_beq_eq_true e; exact e1
theorem ndC {i : Nat} {a b : aF} (e1 : a = aL CF ih m f args h) (e2 : b = aL CF ih m f args h) : (bif Nat.blt f i then a else b) = aL CF ih m f args h := by
 cases Nat.blt f i with
 | false => exact e2
 | true => exact e1
def qg0 : aF := bif Nat.beq f 3 then s3 ih m (aS args 0) h else bif Nat.beq f 9 then s9 ih m (aS args 0) h else bif Nat.beq f 11 then s11 ih m (aS args 0) h else bif Nat.beq f 12 then s12 ih m (aS args 0) (aS args 1) h else bif Nat.beq f 16 then s16 ih m (aS args 0) (aS args 1) h else bif Nat.beq f 17 then s17 ih m (aS args 0) h else bif Nat.beq f 18 then s18 ih m (aS args 0) (aS args 1) h else bif Nat.beq f 19 then s19 ih m (aS args 0) h else aL CF ih m f args h
theorem dZw : qg0 ih m f args h = aL CF ih m f args h := dJ ih m f args h (dPb ih m args h).symm (dJ ih m f args h (dZt ih m args h).symm (dJ ih m f args h (dRl ih m args h).symm (dJ ih m f args h (dUc ih m args h).symm (dJ ih m f args h (dVs ih m args h).symm (dJ ih m f args h (dQg ih m args h).symm (dJ ih m f args h (dPw ih m args h).symm (dJ ih m f args h (dUl ih m args h).symm rfl)))))))
def qg1 : aF := bif Nat.beq f 20 then s20 ih m (aS args 0) h else bif Nat.beq f 21 then s21 ih m (aS args 0) h else bif Nat.beq f 22 then s22 ih m (aS args 0) (aS args 1) (aS args 2) (aS args 3) h else bif Nat.beq f 23 then s23 ih m (aS args 0) h else bif Nat.beq f 24 then s24 ih m (aS args 0) h else bif Nat.beq f 25 then s25 ih m (aS args 0) (aS args 1) h else bif Nat.beq f 26 then s26 ih m (aS args 0) (aS args 1) h else bif Nat.beq f 28 then s28 ih m (aS args 0) (aS args 1) h else aL CF ih m f args h
theorem dYn : qg1 ih m f args h = aL CF ih m f args h := dJ ih m f args h (dRc ih m args h).symm (dJ ih m f args h (dTh ih m args h).symm (dJ ih m f args h (dSr ih m args h).symm (dJ ih m f args h (dVm ih m args h).symm (dJ ih m f args h (dUs ih m args h).symm (dJ ih m f args h (dQw ih m args h).symm (dJ ih m f args h (dRr ih m args h).symm (dJ ih m f args h (dQp ih m args h).symm rfl)))))))
def qg2 : aF := bif Nat.beq f 29 then s29 ih m (aS args 0) h else bif Nat.beq f 31 then s31 ih m (aS args 0) (aS args 1) h else bif Nat.beq f 32 then s32 ih m (aS args 0) h else bif Nat.beq f 33 then s33 ih m (aS args 0) h else bif Nat.beq f 35 then s35 ih m (aS args 0) (aS args 1) (aS args 2) h else bif Nat.beq f 36 then s36 ih m (aS args 0) h else bif Nat.beq f 37 then s37 ih m (aS args 0) (aS args 1) h else bif Nat.beq f 38 then s38 ih m (aS args 0) (aS args 1) h else aL CF ih m f args h
theorem dZq : qg2 ih m f args h = aL CF ih m f args h := dJ ih m f args h (dTu ih m args h).symm (dJ ih m f args h (dTc ih m args h).symm (dJ ih m f args h (dTi ih m args h).symm (dJ ih m f args h (dPo ih m args h).symm (dJ ih m f args h (dQy ih m args h).symm (dJ ih m f args h (dTd ih m args h).symm (dJ ih m f args h (dUf ih m args h).symm (dJ ih m f args h (dQb ih m args h).symm rfl)))))))
def qg3 : aF := bif Nat.beq f 39 then s39 ih m (aS args 0) h else bif Nat.beq f 40 then s40 ih m (aS args 0) (aS args 1) h else bif Nat.beq f 41 then s41 ih m (aS args 0) h else bif Nat.beq f 42 then s42 ih m (aS args 0) h else bif Nat.beq f 43 then s43 ih m (aS args 0) h else bif Nat.beq f 44 then s44 ih m (aS args 0) h else bif Nat.beq f 45 then s45 ih m (aS args 0) h else bif Nat.beq f 46 then s46 ih m (aS args 0) h else aL CF ih m f args h
theorem dYp : qg3 ih m f args h = aL CF ih m f args h := dJ ih m f args h (dSb ih m args h).symm (dJ ih m f args h (dSe ih m args h).symm (dJ ih m f args h (dRi ih m args h).symm (dJ ih m f args h (dSp ih m args h).symm (dJ ih m f args h (dQs ih m args h).symm (dJ ih m f args h (dWa ih m args h).symm (dJ ih m f args h (dPs ih m args h).symm (dJ ih m f args h (dSs ih m args h).symm rfl)))))))
def qg4 : aF := bif Nat.beq f 47 then s47 ih m (aS args 0) (aS args 1) (aS args 2) h else bif Nat.beq f 48 then s48 ih m (aS args 0) h else bif Nat.beq f 49 then s49 ih m (aS args 0) h else bif Nat.beq f 50 then s50 ih m (aS args 0) h else bif Nat.beq f 51 then s51 ih m (aS args 0) (aS args 1) (aS args 2) h else bif Nat.beq f 52 then s52 ih m (aS args 0) (aS args 1) h else bif Nat.beq f 53 then s53 ih m (aS args 0) h else bif Nat.beq f 57 then s57 ih m (aS args 0) (aS args 1) h else aL CF ih m f args h
theorem dZb : qg4 ih m f args h = aL CF ih m f args h := dJ ih m f args h (dRf ih m args h).symm (dJ ih m f args h (dTq ih m args h).symm (dJ ih m f args h (dTs ih m args h).symm (dJ ih m f args h (dRb ih m args h).symm (dJ ih m f args h (dUh ih m args h).symm (dJ ih m f args h (dRe ih m args h).symm (dJ ih m f args h (dRn ih m args h).symm (dJ ih m f args h (dPa ih m args h).symm rfl)))))))
def qg5 : aF := bif Nat.beq f 58 then s58 ih m (aS args 0) (aS args 1) h else bif Nat.beq f 61 then s61 ih m (aS args 0) (aS args 1) h else bif Nat.beq f 62 then s62 ih m (aS args 0) h else bif Nat.beq f 63 then s63 ih m (aS args 0) (aS args 1) h else bif Nat.beq f 64 then s64 ih m (aS args 0) (aS args 1) (aS args 2) h else bif Nat.beq f 65 then s65 ih m (aS args 0) h else bif Nat.beq f 66 then s66 ih m (aS args 0) (aS args 1) h else bif Nat.beq f 67 then s67 ih m (aS args 0) (aS args 1) h else aL CF ih m f args h
theorem eAa : qg5 ih m f args h = aL CF ih m f args h := dJ ih m f args h (dPe ih m args h).symm (dJ ih m f args h (dWf ih m args h).symm (dJ ih m f args h (dSd ih m args h).symm (dJ ih m f args h (dUp ih m args h).symm (dJ ih m f args h (dVp ih m args h).symm (dJ ih m f args h (dVf ih m args h).symm (dJ ih m f args h (dPp ih m args h).symm (dJ ih m f args h (dPl ih m args h).symm rfl)))))))
def qg6 : aF := bif Nat.beq f 68 then s68 ih m (aS args 0) (aS args 1) (aS args 2) h else bif Nat.beq f 69 then s69 ih m (aS args 0) h else bif Nat.beq f 70 then s70 ih m (aS args 0) (aS args 1) (aS args 2) h else bif Nat.beq f 71 then s71 ih m (aS args 0) (aS args 1) (aS args 2) h else bif Nat.beq f 72 then s72 ih m (aS args 0) h else bif Nat.beq f 73 then s73 ih m (aS args 0) (aS args 1) h else bif Nat.beq f 74 then s74 ih m (aS args 0) (aS args 1) (aS args 2) h else bif Nat.beq f 75 then s75 ih m (aS args 0) h else aL CF ih m f args h
theorem dYy : qg6 ih m f args h = aL CF ih m f args h := dJ ih m f args h (dRk ih m args h).symm (dJ ih m f args h (dUi ih m args h).symm (dJ ih m f args h (dTr ih m args h).symm (dJ ih m f args h (dOo ih m args h).symm (dJ ih m f args h (dOv ih m args h).symm (dJ ih m f args h (dVz ih m args h).symm (dJ ih m f args h (dVa ih m args h).symm (dJ ih m f args h (dOr ih m args h).symm rfl)))))))
def qg7 : aF := bif Nat.beq f 76 then s76 ih m (aS args 0) h else bif Nat.beq f 77 then s77 ih m (aS args 0) (aS args 1) (aS args 2) h else bif Nat.beq f 78 then s78 ih m (aS args 0) h else bif Nat.beq f 79 then s79 ih m (aS args 0) h else bif Nat.beq f 80 then s80 ih m (aS args 0) (aS args 1) (aS args 2) h else bif Nat.beq f 81 then s81 ih m (aS args 0) (aS args 1) h else bif Nat.beq f 82 then s82 ih m (aS args 0) (aS args 1) (aS args 2) h else bif Nat.beq f 85 then s85 ih m (aS args 0) (aS args 1) h else aL CF ih m f args h
theorem dYh : qg7 ih m f args h = aL CF ih m f args h := dJ ih m f args h (dSx ih m args h).symm (dJ ih m f args h (dRj ih m args h).symm (dJ ih m f args h (dOw ih m args h).symm (dJ ih m f args h (dQv ih m args h).symm (dJ ih m f args h (dVn ih m args h).symm (dJ ih m f args h (dUa ih m args h).symm (dJ ih m f args h (dOn ih m args h).symm (dJ ih m f args h (dPt ih m args h).symm rfl)))))))
def qg8 : aF := bif Nat.beq f 89 then s89 ih m (aS args 0) (aS args 1) (aS args 2) h else bif Nat.beq f 90 then s90 ih m (aS args 0) (aS args 1) h else bif Nat.beq f 91 then s91 ih m (aS args 0) h else bif Nat.beq f 92 then s92 ih m (aS args 0) (aS args 1) h else bif Nat.beq f 93 then s93 ih m (aS args 0) (aS args 1) h else bif Nat.beq f 94 then s94 ih m (aS args 0) h else bif Nat.beq f 95 then s95 ih m (aS args 0) (aS args 1) h else bif Nat.beq f 96 then s96 ih m (aS args 0) (aS args 1) h else aL CF ih m f args h
theorem dXs : qg8 ih m f args h = aL CF ih m f args h := dJ ih m f args h (dUt ih m args h).symm (dJ ih m f args h (dVg ih m args h).symm (dJ ih m f args h (dSc ih m args h).symm (dJ ih m f args h (dUo ih m args h).symm (dJ ih m f args h (dTm ih m args h).symm (dJ ih m f args h (dQu ih m args h).symm (dJ ih m f args h (dRw ih m args h).symm (dJ ih m f args h (dTo ih m args h).symm rfl)))))))
def qg9 : aF := bif Nat.beq f 97 then s97 ih m (aS args 0) (aS args 1) h else bif Nat.beq f 98 then s98 ih m (aS args 0) (aS args 1) h else bif Nat.beq f 99 then s99 ih m (aS args 0) (aS args 1) h else bif Nat.beq f 100 then s100 ih m (aS args 0) h else bif Nat.beq f 101 then s101 ih m (aS args 0) (aS args 1) h else bif Nat.beq f 102 then s102 ih m (aS args 0) (aS args 1) h else bif Nat.beq f 103 then s103 ih m (aS args 0) (aS args 1) h else bif Nat.beq f 104 then s104 ih m (aS args 0) h else aL CF ih m f args h
theorem dYe : qg9 ih m f args h = aL CF ih m f args h := dJ ih m f args h (dSw ih m args h).symm (dJ ih m f args h (dPv ih m args h).symm (dJ ih m f args h (dTp ih m args h).symm (dJ ih m f args h (dGo ih m args h).symm (dJ ih m f args h (dMs ih m args h).symm (dJ ih m f args h (dCq ih m args h).symm (dJ ih m f args h (dCr ih m args h).symm (dJ ih m f args h (dCx ih m args h).symm rfl)))))))
def dVo : aF := bif Nat.beq f 105 then s105 ih m (aS args 0) (aS args 1) h else bif Nat.beq f 106 then s106 ih m (aS args 0) (aS args 1) h else bif Nat.beq f 107 then s107 ih m (aS args 0) h else bif Nat.beq f 108 then s108 ih m (aS args 0) h else bif Nat.beq f 109 then s109 ih m (aS args 0) h else bif Nat.beq f 110 then s110 ih m (aS args 0) h else bif Nat.beq f 111 then s111 ih m (aS args 0) h else bif Nat.beq f 112 then s112 ih m (aS args 0) h else aL CF ih m f args h
theorem dVt : dVo ih m f args h = aL CF ih m f args h := dJ ih m f args h (dEu ih m args h).symm (dJ ih m f args h (dNu ih m args h).symm (dJ ih m f args h (dDu ih m args h).symm (dJ ih m f args h (dGh ih m args h).symm (dJ ih m f args h (dHf ih m args h).symm (dJ ih m f args h (dFk ih m args h).symm (dJ ih m f args h (dIm ih m args h).symm (dJ ih m f args h (dLi ih m args h).symm rfl)))))))
def dPi : aF := bif Nat.beq f 113 then s113 ih m (aS args 0) h else bif Nat.beq f 114 then s114 ih m (aS args 0) h else bif Nat.beq f 126 then s126 ih m (aS args 0) h else bif Nat.beq f 127 then s127 ih m (aS args 0) (aS args 1) (aS args 2) h else bif Nat.beq f 128 then s128 ih m (aS args 0) h else bif Nat.beq f 129 then s129 ih m (aS args 0) h else bif Nat.beq f 130 then s130 ih m (aS args 0) h else bif Nat.beq f 131 then s131 ih m (aS args 0) h else aL CF ih m f args h
theorem dSi : dPi ih m f args h = aL CF ih m f args h := dJ ih m f args h (dAy ih m args h).symm (dJ ih m f args h (dOc ih m args h).symm (dJ ih m f args h (dFu ih m args h).symm (dJ ih m f args h (dBv ih m args h).symm (dJ ih m f args h (dBi ih m args h).symm (dJ ih m f args h (dBf ih m args h).symm (dJ ih m f args h (dNk ih m args h).symm (dJ ih m f args h (dAx ih m args h).symm rfl)))))))
def dRz : aF := bif Nat.beq f 132 then s132 ih m (aS args 0) h else bif Nat.beq f 133 then s133 ih m (aS args 0) h else bif Nat.beq f 134 then s134 ih m (aS args 0) (aS args 1) h else bif Nat.beq f 135 then s135 ih m (aS args 0) (aS args 1) h else bif Nat.beq f 136 then s136 ih m (aS args 0) (aS args 1) h else bif Nat.beq f 137 then s137 ih m (aS args 0) h else bif Nat.beq f 138 then s138 ih m (aS args 0) h else bif Nat.beq f 139 then s139 ih m (aS args 0) h else aL CF ih m f args h
theorem dPn : dRz ih m f args h = aL CF ih m f args h := dJ ih m f args h (dAv ih m args h).symm (dJ ih m f args h (dCd ih m args h).symm (dJ ih m f args h (dIk ih m args h).symm (dJ ih m f args h (dEx ih m args h).symm (dJ ih m f args h (dBn ih m args h).symm (dJ ih m f args h (dDr ih m args h).symm (dJ ih m f args h (dLp ih m args h).symm (dJ ih m f args h (dJi ih m args h).symm rfl)))))))
def dQa : aF := bif Nat.beq f 149 then s149 ih m (aS args 0) (aS args 1) h else bif Nat.beq f 150 then s150 ih m (aS args 0) h else bif Nat.beq f 151 then s151 ih m (aS args 0) (aS args 1) h else bif Nat.beq f 152 then s152 ih m (aS args 0) h else bif Nat.beq f 153 then s153 ih m (aS args 0) h else bif Nat.beq f 154 then s154 ih m (aS args 0) h else bif Nat.beq f 155 then s155 ih m (aS args 0) h else bif Nat.beq f 161 then s161 ih m (aS args 0) h else aL CF ih m f args h
theorem dTa : dQa ih m f args h = aL CF ih m f args h := dJ ih m f args h (dEv ih m args h).symm (dJ ih m f args h (dMm ih m args h).symm (dJ ih m f args h (dMa ih m args h).symm (dJ ih m f args h (dIj ih m args h).symm (dJ ih m f args h (dCp ih m args h).symm (dJ ih m f args h (dDx ih m args h).symm (dJ ih m f args h (dAz ih m args h).symm (dJ ih m f args h (dEw ih m args h).symm rfl)))))))
def qd0 : aF := bif Nat.blt f 29 then qg1 ih m f args h else qg2 ih m f args h
theorem dYb : qd0 ih m f args h = aL CF ih m f args h := ndC ih m f args h (dYn ih m f args h) (dZq ih m f args h)
def qd1 : aF := bif Nat.blt f 20 then qg0 ih m f args h else qd0 ih m f args h
theorem dWt : qd1 ih m f args h = aL CF ih m f args h := ndC ih m f args h (dZw ih m f args h) (dYb ih m f args h)
def qd2 : aF := bif Nat.blt f 47 then qg3 ih m f args h else qg4 ih m f args h
theorem dXz : qd2 ih m f args h = aL CF ih m f args h := ndC ih m f args h (dYp ih m f args h) (dZb ih m f args h)
def qd3 : aF := bif Nat.blt f 68 then qg5 ih m f args h else qg6 ih m f args h
theorem dYm : qd3 ih m f args h = aL CF ih m f args h := ndC ih m f args h (eAa ih m f args h) (dYy ih m f args h)
def qd4 : aF := bif Nat.blt f 58 then qd2 ih m f args h else qd3 ih m f args h
theorem dZm : qd4 ih m f args h = aL CF ih m f args h := ndC ih m f args h (dXz ih m f args h) (dYm ih m f args h)
def qd5 : aF := bif Nat.blt f 39 then qd1 ih m f args h else qd4 ih m f args h
theorem dZv : qd5 ih m f args h = aL CF ih m f args h := ndC ih m f args h (dWt ih m f args h) (dZm ih m f args h)
def qd6 : aF := bif Nat.blt f 97 then qg8 ih m f args h else qg9 ih m f args h
theorem dZe : qd6 ih m f args h = aL CF ih m f args h := ndC ih m f args h (dXs ih m f args h) (dYe ih m f args h)
def qd7 : aF := bif Nat.blt f 89 then qg7 ih m f args h else qd6 ih m f args h
theorem eAd : qd7 ih m f args h = aL CF ih m f args h := ndC ih m f args h (dYh ih m f args h) (dZe ih m f args h)
def qd8 : aF := bif Nat.blt f 113 then dVo ih m f args h else dPi ih m f args h
theorem dWr : qd8 ih m f args h = aL CF ih m f args h := ndC ih m f args h (dVt ih m f args h) (dSi ih m f args h)
def qd9 : aF := bif Nat.blt f 149 then dRz ih m f args h else dQa ih m f args h
theorem dYl : qd9 ih m f args h = aL CF ih m f args h := ndC ih m f args h (dPn ih m f args h) (dTa ih m f args h)
def dQk : aF := bif Nat.blt f 132 then qd8 ih m f args h else qd9 ih m f args h
theorem dUe : dQk ih m f args h = aL CF ih m f args h := ndC ih m f args h (dWr ih m f args h) (dYl ih m f args h)
def dUn : aF := bif Nat.blt f 105 then qd7 ih m f args h else dQk ih m f args h
theorem dSg : dUn ih m f args h = aL CF ih m f args h := ndC ih m f args h (eAd ih m f args h) (dUe ih m f args h)
def dRt : aF := bif Nat.blt f 76 then qd5 ih m f args h else dUn ih m f args h
theorem dSu : dRt ih m f args h = aL CF ih m f args h := ndC ih m f args h (dZv ih m f args h) (dSg ih m f args h)
end
def shB (ih : RT) (m : Nat) (f : FuncId) (args : List DV) (h : Hp) : aF := dRt ih m f args h
theorem dMe (ih : RT) (m : Nat) (f : FuncId) (args : List DV) (h : Hp) : shB ih m f args h = aL CF ih m f args h := dSu ih m f args h
def aI (n : Nat) : FuncId → List DV → Hp → aF :=
 Nat.rec (motive := fun _ => FuncId → List DV → Hp → aF) (fun _ _ _ => none) (fun m ih => shB ih m) n
theorem aUc : ∀ n, aI n = fnD CF n
 | 0 => rfl
 | n + 1 => by
  have e : aI (n + 1) = shB (aI n) n := rfl
  have e' : fnD CF (n + 1) = aL CF (fnD CF n) n := rfl
  rw [e, e', ← aUc n]
  funext f args h
  exact dMe _ _ _ _ _
end
end Go.Dd

namespace Go.Proofs
open Go.Shelf
def Tryz.lays156_ren : Go.Shelf.Ren := ⟨fun | 156 => 30 | 165 => 54 | 166 => 55 | 169 => 56 | 240 => 83 | 241 => 84 | 276 => 115 | 277 => 116 | n => n, fun | 31 => 22 | 9 => 9 | 3 => 3 | 4 => 4 | 0 => 0 | 20 => 20 | 72 => 73 | 76 => 77 | 70 => 70 | 37 => 71 | 75 => 76 | 127 => 104 | 164 => 118 | 5 => 5 | 80 => 79 | n => n, fun | n => n⟩
theorem Tryz.lays156 : Go.Proofs.Lays.n156 Tryz.prog Tryz.lays156_ren := {
 mixed := by kernel_rfl
 f156 := Tryz.func30.trans (congrArg some (by kernel_rfl))
 f165 := Tryz.func54.trans (congrArg some (by kernel_rfl))
 f166 := Tryz.func55.trans (congrArg some (by kernel_rfl))
 f169 := Tryz.func56.trans (congrArg some (by kernel_rfl))
 f240 := Tryz.func83.trans (congrArg some (by kernel_rfl))
 f241 := Tryz.func84.trans (congrArg some (by kernel_rfl))
 f276 := Tryz.func115.trans (congrArg some (by kernel_rfl))
 f277 := Tryz.func116.trans (congrArg some (by kernel_rfl))
 t0 := Tryz.underlying0
 a0 := Tryz.isAgg0
 z0 := Tryz.sizeOf0
 v0 := Tryz.zeroValue0
 t3 := Tryz.underlying3
 a3 := Tryz.isAgg3
 z3 := Tryz.sizeOf3
 v3 := Tryz.zeroValue3
 t4 := Tryz.underlying4
 a4 := Tryz.isAgg4
 z4 := Tryz.sizeOf4
 v4 := Tryz.zeroValue4
 t9 := Tryz.underlying9
 a9 := Tryz.isAgg9
 z9 := Tryz.sizeOf9
 v9 := Tryz.zeroValue9
 t20 := Tryz.underlying20
 a20 := Tryz.isAgg20
 z20 := Tryz.sizeOf20
 v20 := Tryz.zeroValue20
 t31 := Tryz.underlying22
 a31 := Tryz.isAgg22
 z31 := Tryz.sizeOf22
 v31 := Tryz.zeroValue22
 t37 := Tryz.underlying71
 a37 := Tryz.isAgg71
 z37 := Tryz.sizeOf71
 v37 := Tryz.zeroValue71
 t70 := Tryz.underlying70
 a70 := Tryz.isAgg70
 z70 := Tryz.sizeOf70
 v70 := Tryz.zeroValue70
 t72 := Tryz.underlying73
 a72 := Tryz.isAgg73
 z72 := Tryz.sizeOf73
 v72 := Tryz.zeroValue73
 t75 := Tryz.underlying76
 a75 := Tryz.isAgg76
 z75 := Tryz.sizeOf76
 v75 := Tryz.zeroValue76
 t76 := Tryz.underlying77
 a76 := Tryz.isAgg77
 z76 := Tryz.sizeOf77
 v76 := Tryz.zeroValue77
 t127 := Tryz.underlying104
 a127 := Tryz.isAgg104
 z127 := Tryz.sizeOf104
 v127 := Tryz.zeroValue104
 t164 := Tryz.underlying118
 a164 := Tryz.isAgg118
 z164 := Tryz.sizeOf118
 v164 := Tryz.zeroValue118 }
theorem Tryz.Builder_Extra_156 : Builder.Extra Tryz.prog Tryz.lays156_ren := {
 sizeBuilder := by kernel_rfl
 liesBuilder := by kernel_rfl
 t5 := Tryz.underlying5
 a5 := Tryz.isAgg5
 z5 := Tryz.sizeOf5
 v5 := Tryz.zeroValue5
 infoByte := by kernel_rfl
 cellsByte := by kernel_rfl
 sizeByte := by kernel_rfl
 neB5 := by decide }
open Go.RowKit in
theorem Tryz.strings_Join_none (a : Option Addr) (c : Nat) (sep : ByteArray) (w : World) :
 Calls Tryz.prog 30 #[.slice a 0 c, .string sep] w fun e w' => e = .returned (.string ⟨#[]⟩) ∧ w' = w := Any.strings_Join_none Tryz.lays156 Tryz.Builder_Extra_156 a c sep w
open Go.RowKit in
theorem Tryz.strings_Join (bk o c : Nat) (xs : List ByteArray) (sep : ByteArray) (w : World) (hcells : ∀ (j : Nat) x, xs[j]? = some x → w.cell? ⟨bk, o + j, none⟩ = some (.string x)) (hbk : bk < w.heap.size) (hN : xs.length ≤ 140737488355328) (hcap : xs.length ≤ c) (hlen : (Lib.join (xs.map (·.data.toList)) sep.data.toList).length ≤ 140737488355328) :
 Calls Tryz.prog 30 #[.slice (some ⟨bk, o, none⟩) xs.length c, .string sep] w fun e w' => e = .returned (.string ⟨(Lib.join (xs.map (·.data.toList)) sep.data.toList).toArray⟩) ∧ Below w.heap.size w w' := Any.strings_Join Tryz.lays156 Tryz.Builder_Extra_156 bk o c xs sep w hcells hbk hN hcap hlen
def Tryz.laysM246_ren : Go.Shelf.Ren := ⟨fun | 246 => 87 | 283 => 121 | 284 => 122 | 285 => 123 | 286 => 124 | 129 => 144 | 317 => 143 | 318 => 145 | 319 => 146 | 320 => 147 | 337 => 159 | 338 => 160 | n => n, fun | 2 => 2 | 3 => 3 | 9 => 9 | 4 => 4 | 171 => 123 | 0 => 0 | 53 => 124 | 37 => 71 | 5 => 5 | 173 => 127 | 212 => 136 | 51 => 137 | 20 => 20 | 213 => 138 | 46 => 140 | 232 => 152 | 233 => 153 | n => n, fun | 17 => 1 | 18 => 4 | 19 => 5 | n => n⟩
def Tryz.laysM243_ren : Go.Shelf.Ren := ⟨fun | 243 => 59 | 246 => 87 | 283 => 121 | 284 => 122 | 285 => 123 | 286 => 124 | 129 => 144 | 317 => 143 | 318 => 145 | 319 => 146 | 320 => 147 | 337 => 159 | 338 => 160 | n => n, fun | 3 => 3 | 9 => 9 | 2 => 2 | 4 => 4 | 171 => 123 | 0 => 0 | 53 => 124 | 37 => 71 | 5 => 5 | 173 => 127 | 212 => 136 | 51 => 137 | 20 => 20 | 213 => 138 | 46 => 140 | 232 => 152 | 233 => 153 | n => n, fun | 17 => 1 | 18 => 4 | 19 => 5 | n => n⟩
def Tryz.laysM171_ren : Go.Shelf.Ren := ⟨fun | 171 => 34 | 243 => 59 | 246 => 87 | 283 => 121 | 284 => 122 | 285 => 123 | 286 => 124 | 129 => 144 | 317 => 143 | 318 => 145 | 319 => 146 | 320 => 147 | 337 => 159 | 338 => 160 | n => n, fun | 3 => 3 | 9 => 9 | 2 => 2 | 4 => 4 | 171 => 123 | 0 => 0 | 53 => 124 | 37 => 71 | 5 => 5 | 173 => 127 | 212 => 136 | 51 => 137 | 20 => 20 | 213 => 138 | 46 => 140 | 232 => 152 | 233 => 153 | n => n, fun | 17 => 1 | 18 => 4 | 19 => 5 | n => n⟩
theorem Tryz.laysM171 : Go.Proofs.LaysM.n171 Tryz.prog Tryz.laysM171_ren := {
 mixed := by kernel_rfl
 f129 := Tryz.func144.trans (congrArg some (by kernel_rfl))
 f171 := Tryz.func34.trans (congrArg some (by kernel_rfl))
 f243 := Tryz.func59.trans (congrArg some (by kernel_rfl))
 f246 := Tryz.func87.trans (congrArg some (by kernel_rfl))
 f283 := Tryz.func121.trans (congrArg some (by kernel_rfl))
 f284 := Tryz.func122.trans (congrArg some (by kernel_rfl))
 f285 := Tryz.func123.trans (congrArg some (by kernel_rfl))
 f286 := Tryz.func124.trans (congrArg some (by kernel_rfl))
 f317 := Tryz.func143.trans (congrArg some (by kernel_rfl))
 f318 := Tryz.func145.trans (congrArg some (by kernel_rfl))
 f319 := Tryz.func146.trans (congrArg some (by kernel_rfl))
 f320 := Tryz.func147.trans (congrArg some (by kernel_rfl))
 f337 := Tryz.func159.trans (congrArg some (by kernel_rfl))
 f338 := Tryz.func160.trans (congrArg some (by kernel_rfl))
 t0 := Tryz.underlying0
 a0 := Tryz.isAgg0
 z0 := Tryz.sizeOf0
 v0 := Tryz.zeroValue0
 t2 := Tryz.underlying2
 a2 := Tryz.isAgg2
 z2 := Tryz.sizeOf2
 v2 := Tryz.zeroValue2
 t3 := Tryz.underlying3
 a3 := Tryz.isAgg3
 z3 := Tryz.sizeOf3
 v3 := Tryz.zeroValue3
 t4 := Tryz.underlying4
 a4 := Tryz.isAgg4
 z4 := Tryz.sizeOf4
 v4 := Tryz.zeroValue4
 t5 := Tryz.underlying5
 a5 := Tryz.isAgg5
 z5 := Tryz.sizeOf5
 v5 := Tryz.zeroValue5
 t9 := Tryz.underlying9
 a9 := Tryz.isAgg9
 z9 := Tryz.sizeOf9
 v9 := Tryz.zeroValue9
 t20 := Tryz.underlying20
 a20 := Tryz.isAgg20
 z20 := Tryz.sizeOf20
 v20 := Tryz.zeroValue20
 t37 := Tryz.underlying71
 a37 := Tryz.isAgg71
 z37 := Tryz.sizeOf71
 v37 := Tryz.zeroValue71
 t46 := Tryz.underlying140
 a46 := Tryz.isAgg140
 z46 := Tryz.sizeOf140
 v46 := Tryz.zeroValue140
 t51 := Tryz.underlying137
 a51 := Tryz.isAgg137
 z51 := Tryz.sizeOf137
 v51 := Tryz.zeroValue137
 t53 := Tryz.underlying124
 a53 := Tryz.isAgg124
 z53 := Tryz.sizeOf124
 v53 := Tryz.zeroValue124
 t171 := Tryz.underlying123
 a171 := Tryz.isAgg123
 z171 := Tryz.sizeOf123
 v171 := Tryz.zeroValue123
 t173 := Tryz.underlying127
 a173 := Tryz.isAgg127
 z173 := Tryz.sizeOf127
 v173 := Tryz.zeroValue127
 t212 := Tryz.underlying136
 a212 := Tryz.isAgg136
 z212 := Tryz.sizeOf136
 v212 := Tryz.zeroValue136
 t213 := Tryz.underlying138
 a213 := Tryz.isAgg138
 z213 := Tryz.sizeOf138
 t232 := Tryz.underlying152
 a232 := Tryz.isAgg152
 z232 := Tryz.sizeOf152
 v232 := Tryz.zeroValue152
 t233 := Tryz.underlying153
 a233 := Tryz.isAgg153
 z233 := Tryz.sizeOf153
 v233 := Tryz.zeroValue153
 g17 := by kernel_rfl
 g18 := by kernel_rfl
 g19 := by kernel_rfl
 i0 := by kernel_rfl
 i2 := by kernel_rfl
 i3 := by kernel_rfl
 i4 := by kernel_rfl
 i5 := by kernel_rfl
 i9 := by kernel_rfl
 i20 := by kernel_rfl
 i37 := by kernel_rfl
 i46 := by kernel_rfl
 i51 := by kernel_rfl
 i53 := by kernel_rfl
 i171 := by kernel_rfl
 i173 := by kernel_rfl
 i212 := by kernel_rfl
 i232 := by kernel_rfl
 i233 := by kernel_rfl
 m17 := by kernel_rfl
 m18 := by kernel_rfl
 m19 := by kernel_rfl }
open Go.RowKit Go.Sort Go.Lib in
theorem Tryz.strconv_Itoa (n : Int) (h0 : -9223372036854775808 ≤ n) (h1 : n ≤ 9223372036854775807) (w : World) (htab : Lib.TabIs Tryz.prog w "internal/strconv.uint64pow10" .u64 Lib.pow10Tab) :
 Calls Tryz.prog 34 #[.int .i64 n] w fun e w' => e = .returned (.string ⟨(Lib.itoa n).toArray⟩) ∧ ∃ k os, w' = grow (w.drewN k) os := Any.strconv_Itoa Tryz.laysM171 n h0 h1 w htab
def Tryz.lays219_ren : Go.Shelf.Ren := ⟨fun | 219 => 142 | 217 => 85 | 225 => 156 | 224 => 157 | 267 => 158 | 266 => 117 | 314 => 162 | n => n, fun | 9 => 9 | 3 => 3 | 4 => 4 | 5 => 5 | 46 => 140 | 146 => 150 | 51 => 137 | n => n, fun | 1 => 0 | n => n⟩
def Tryz.lays143_ren : Go.Shelf.Ren := ⟨fun | 143 => 120 | 219 => 142 | 217 => 85 | 225 => 156 | 224 => 157 | 267 => 158 | 266 => 117 | 314 => 162 | n => n, fun | 9 => 9 | 3 => 3 | 4 => 4 | 5 => 5 | 46 => 140 | 146 => 150 | 51 => 137 | n => n, fun | 1 => 0 | n => n⟩
def Tryz.laysM143_ren : Go.Shelf.Ren := ⟨fun | 143 => 120 | 219 => 142 | 217 => 85 | 225 => 156 | 224 => 157 | 267 => 158 | 266 => 117 | 314 => 162 | n => n, fun | 9 => 9 | 3 => 3 | 4 => 4 | 5 => 5 | 46 => 140 | 146 => 150 | 51 => 137 | n => n, fun | 1 => 0 | n => n⟩
theorem Tryz.laysM143 : Go.Proofs.LaysM.n143 Tryz.prog Tryz.laysM143_ren := {
 mixed := by kernel_rfl
 f143 := Tryz.func120.trans (congrArg some (by kernel_rfl))
 f217 := Tryz.func85.trans (congrArg some (by kernel_rfl))
 f219 := Tryz.func142.trans (congrArg some (by kernel_rfl))
 f224 := Tryz.func157.trans (congrArg some (by kernel_rfl))
 f225 := Tryz.func156.trans (congrArg some (by kernel_rfl))
 f266 := Tryz.func117.trans (congrArg some (by kernel_rfl))
 f267 := Tryz.func158.trans (congrArg some (by kernel_rfl))
 f314 := Tryz.func162.trans (congrArg some (by kernel_rfl))
 t3 := Tryz.underlying3
 a3 := Tryz.isAgg3
 z3 := Tryz.sizeOf3
 v3 := Tryz.zeroValue3
 t4 := Tryz.underlying4
 a4 := Tryz.isAgg4
 z4 := Tryz.sizeOf4
 v4 := Tryz.zeroValue4
 t5 := Tryz.underlying5
 a5 := Tryz.isAgg5
 z5 := Tryz.sizeOf5
 v5 := Tryz.zeroValue5
 t9 := Tryz.underlying9
 a9 := Tryz.isAgg9
 z9 := Tryz.sizeOf9
 v9 := Tryz.zeroValue9
 t46 := Tryz.underlying140
 a46 := Tryz.isAgg140
 z46 := Tryz.sizeOf140
 v46 := Tryz.zeroValue140
 t51 := Tryz.underlying137
 a51 := Tryz.isAgg137
 z51 := Tryz.sizeOf137
 v51 := Tryz.zeroValue137
 t146 := Tryz.underlying150
 a146 := Tryz.isAgg150
 z146 := Tryz.sizeOf150
 v146 := Tryz.zeroValue150
 g1 := by kernel_rfl
 i3 := by kernel_rfl
 i4 := by kernel_rfl
 i5 := by kernel_rfl
 i9 := by kernel_rfl
 i46 := by kernel_rfl
 i51 := by kernel_rfl
 i146 := by kernel_rfl
 m1 := by kernel_rfl
 s1_3 := fun w h => Go.Proofs.cell_of_shapedOpen_int (zero := #[.int .i64 0]) (t := 3) h (of_decide_eq_true (by kernel_rfl)) (by kernel_rfl) rfl (by kernel_rfl) (by kernel_rfl) Tryz.underlying3 }
def Tryz.lays221_ren : Go.Shelf.Ren := ⟨fun | 221 => 86 | 268 => 118 | 138 => 119 | 143 => 120 | 195 => 140 | 197 => 125 | 218 => 141 | 219 => 142 | 260 => 148 | 217 => 85 | 225 => 156 | 224 => 157 | 267 => 158 | 266 => 117 | 314 => 162 | n => n, fun | 9 => 9 | 3 => 3 | 31 => 22 | 4 => 4 | 0 => 0 | 105 => 129 | 21 => 21 | 5 => 5 | 46 => 140 | 119 => 146 | 139 => 149 | 138 => 148 | 146 => 150 | 51 => 137 | n => n, fun | 1 => 0 | 3 => 2 | 4 => 3 | n => n⟩
theorem Tryz.lays221 : Go.Proofs.Lays.n221 Tryz.prog Tryz.lays221_ren := {
 mixed := by kernel_rfl
 f138 := Tryz.func119.trans (congrArg some (by kernel_rfl))
 f143 := Tryz.func120.trans (congrArg some (by kernel_rfl))
 f195 := Tryz.func140.trans (congrArg some (by kernel_rfl))
 f197 := Tryz.func125.trans (congrArg some (by kernel_rfl))
 f217 := Tryz.func85.trans (congrArg some (by kernel_rfl))
 f218 := Tryz.func141.trans (congrArg some (by kernel_rfl))
 f219 := Tryz.func142.trans (congrArg some (by kernel_rfl))
 f221 := Tryz.func86.trans (congrArg some (by kernel_rfl))
 f224 := Tryz.func157.trans (congrArg some (by kernel_rfl))
 f225 := Tryz.func156.trans (congrArg some (by kernel_rfl))
 f260 := Tryz.func148.trans (congrArg some (by kernel_rfl))
 f266 := Tryz.func117.trans (congrArg some (by kernel_rfl))
 f267 := Tryz.func158.trans (congrArg some (by kernel_rfl))
 f268 := Tryz.func118.trans (congrArg some (by kernel_rfl))
 f314 := Tryz.func162.trans (congrArg some (by kernel_rfl))
 t0 := Tryz.underlying0
 a0 := Tryz.isAgg0
 z0 := Tryz.sizeOf0
 v0 := Tryz.zeroValue0
 t3 := Tryz.underlying3
 a3 := Tryz.isAgg3
 z3 := Tryz.sizeOf3
 v3 := Tryz.zeroValue3
 t4 := Tryz.underlying4
 a4 := Tryz.isAgg4
 z4 := Tryz.sizeOf4
 v4 := Tryz.zeroValue4
 t5 := Tryz.underlying5
 a5 := Tryz.isAgg5
 z5 := Tryz.sizeOf5
 v5 := Tryz.zeroValue5
 t9 := Tryz.underlying9
 a9 := Tryz.isAgg9
 z9 := Tryz.sizeOf9
 v9 := Tryz.zeroValue9
 t21 := Tryz.underlying21
 a21 := Tryz.isAgg21
 z21 := Tryz.sizeOf21
 v21 := Tryz.zeroValue21
 t31 := Tryz.underlying22
 a31 := Tryz.isAgg22
 z31 := Tryz.sizeOf22
 v31 := Tryz.zeroValue22
 t46 := Tryz.underlying140
 a46 := Tryz.isAgg140
 z46 := Tryz.sizeOf140
 v46 := Tryz.zeroValue140
 t51 := Tryz.underlying137
 a51 := Tryz.isAgg137
 z51 := Tryz.sizeOf137
 v51 := Tryz.zeroValue137
 t105 := Tryz.underlying129
 a105 := Tryz.isAgg129
 z105 := Tryz.sizeOf129
 v105 := Tryz.zeroValue129
 t119 := Tryz.underlying146
 a119 := Tryz.isAgg146
 z119 := Tryz.sizeOf146
 t138 := Tryz.underlying148
 a138 := Tryz.isAgg148
 z138 := Tryz.sizeOf148
 v138 := Tryz.zeroValue148
 t139 := Tryz.underlying149
 a139 := Tryz.isAgg149
 z139 := Tryz.sizeOf149
 v139 := Tryz.zeroValue149
 t146 := Tryz.underlying150
 a146 := Tryz.isAgg150
 z146 := Tryz.sizeOf150
 v146 := Tryz.zeroValue150
 g1 := by kernel_rfl
 g3 := by kernel_rfl
 g4 := by kernel_rfl }
open Go.RowKit Go.Lib in
theorem Tryz.strings_genSplit (s sep : ByteArray) (sv : Nat) (n : Int) (N : Nat) (m : Int) (w : World) (hs : s.size < 4294967281) (hm : w.cell? ⟨0, 0, none⟩ = some (.int .i64 m)) (h1 : 1 ≤ sep.size) (hsv : sv ≤ sep.size) (hn0 : n ≠ 0) (hn63 : n ≤ 9223372036854775807) (hN : (N : Int) = min (if n < 0 then (Lib.countB s sep : Int) + 1 else n) ((s.size : Int) + 1)) :
 Calls Tryz.prog 86 #[.string s, .string sep, .int .i64 sv, .int .i64 n] w fun e w' =>
  e = .returned (.slice (some ⟨w.heap.size, 0, none⟩) (Lib.splitB sep sv (N - 1) s).length N) ∧ w' = w.alloc (.cells (Lib.cellsOf (Lib.splitB sep sv (N - 1) s) N) 9) := Any.strings_genSplit Tryz.lays221 (by kernel_rfl) s sep sv n N m w hs hm h1 hsv hn0 hn63 hN
def Tryz.lays154_ren : Go.Shelf.Ren := ⟨fun | 154 => 88 | 138 => 119 | 165 => 54 | 143 => 120 | 166 => 55 | 197 => 125 | 169 => 56 | 195 => 140 | 218 => 141 | 240 => 83 | 241 => 84 | 219 => 142 | 260 => 148 | 276 => 115 | 277 => 116 | 217 => 85 | 225 => 156 | 224 => 157 | 267 => 158 | 266 => 117 | 314 => 162 | n => n, fun | 9 => 9 | 3 => 3 | 4 => 4 | 72 => 73 | 0 => 0 | 76 => 77 | 105 => 129 | 21 => 21 | 5 => 5 | 70 => 70 | 20 => 20 | 37 => 71 | 75 => 76 | 127 => 104 | 164 => 118 | 46 => 140 | 119 => 146 | 139 => 149 | 138 => 148 | 146 => 150 | 51 => 137 | 80 => 79 | n => n, fun | 1 => 0 | 3 => 2 | 4 => 3 | n => n⟩
def Tryz.lays155_ren : Go.Shelf.Ren := ⟨fun | 155 => 60 | 154 => 88 | 138 => 119 | 165 => 54 | 143 => 120 | 166 => 55 | 197 => 125 | 169 => 56 | 195 => 140 | 218 => 141 | 240 => 83 | 241 => 84 | 219 => 142 | 260 => 148 | 276 => 115 | 277 => 116 | 217 => 85 | 225 => 156 | 224 => 157 | 267 => 158 | 266 => 117 | 314 => 162 | n => n, fun | 9 => 9 | 3 => 3 | 4 => 4 | 72 => 73 | 0 => 0 | 76 => 77 | 105 => 129 | 21 => 21 | 5 => 5 | 70 => 70 | 20 => 20 | 37 => 71 | 75 => 76 | 127 => 104 | 164 => 118 | 46 => 140 | 119 => 146 | 139 => 149 | 138 => 148 | 146 => 150 | 51 => 137 | 80 => 79 | n => n, fun | 1 => 0 | 3 => 2 | 4 => 3 | n => n⟩
theorem Tryz.lays155 : Go.Proofs.Lays.n155 Tryz.prog Tryz.lays155_ren := {
 mixed := by kernel_rfl
 f138 := Tryz.func119.trans (congrArg some (by kernel_rfl))
 f143 := Tryz.func120.trans (congrArg some (by kernel_rfl))
 f154 := Tryz.func88.trans (congrArg some (by kernel_rfl))
 f155 := Tryz.func60.trans (congrArg some (by kernel_rfl))
 f165 := Tryz.func54.trans (congrArg some (by kernel_rfl))
 f166 := Tryz.func55.trans (congrArg some (by kernel_rfl))
 f169 := Tryz.func56.trans (congrArg some (by kernel_rfl))
 f195 := Tryz.func140.trans (congrArg some (by kernel_rfl))
 f197 := Tryz.func125.trans (congrArg some (by kernel_rfl))
 f217 := Tryz.func85.trans (congrArg some (by kernel_rfl))
 f218 := Tryz.func141.trans (congrArg some (by kernel_rfl))
 f219 := Tryz.func142.trans (congrArg some (by kernel_rfl))
 f224 := Tryz.func157.trans (congrArg some (by kernel_rfl))
 f225 := Tryz.func156.trans (congrArg some (by kernel_rfl))
 f240 := Tryz.func83.trans (congrArg some (by kernel_rfl))
 f241 := Tryz.func84.trans (congrArg some (by kernel_rfl))
 f260 := Tryz.func148.trans (congrArg some (by kernel_rfl))
 f266 := Tryz.func117.trans (congrArg some (by kernel_rfl))
 f267 := Tryz.func158.trans (congrArg some (by kernel_rfl))
 f276 := Tryz.func115.trans (congrArg some (by kernel_rfl))
 f277 := Tryz.func116.trans (congrArg some (by kernel_rfl))
 f314 := Tryz.func162.trans (congrArg some (by kernel_rfl))
 t0 := Tryz.underlying0
 a0 := Tryz.isAgg0
 z0 := Tryz.sizeOf0
 v0 := Tryz.zeroValue0
 t3 := Tryz.underlying3
 a3 := Tryz.isAgg3
 z3 := Tryz.sizeOf3
 v3 := Tryz.zeroValue3
 t4 := Tryz.underlying4
 a4 := Tryz.isAgg4
 z4 := Tryz.sizeOf4
 v4 := Tryz.zeroValue4
 t5 := Tryz.underlying5
 a5 := Tryz.isAgg5
 z5 := Tryz.sizeOf5
 v5 := Tryz.zeroValue5
 t9 := Tryz.underlying9
 a9 := Tryz.isAgg9
 z9 := Tryz.sizeOf9
 v9 := Tryz.zeroValue9
 t20 := Tryz.underlying20
 a20 := Tryz.isAgg20
 z20 := Tryz.sizeOf20
 v20 := Tryz.zeroValue20
 t21 := Tryz.underlying21
 a21 := Tryz.isAgg21
 z21 := Tryz.sizeOf21
 v21 := Tryz.zeroValue21
 t37 := Tryz.underlying71
 a37 := Tryz.isAgg71
 z37 := Tryz.sizeOf71
 v37 := Tryz.zeroValue71
 t46 := Tryz.underlying140
 a46 := Tryz.isAgg140
 z46 := Tryz.sizeOf140
 v46 := Tryz.zeroValue140
 t51 := Tryz.underlying137
 a51 := Tryz.isAgg137
 z51 := Tryz.sizeOf137
 v51 := Tryz.zeroValue137
 t70 := Tryz.underlying70
 a70 := Tryz.isAgg70
 z70 := Tryz.sizeOf70
 v70 := Tryz.zeroValue70
 t72 := Tryz.underlying73
 a72 := Tryz.isAgg73
 z72 := Tryz.sizeOf73
 v72 := Tryz.zeroValue73
 t75 := Tryz.underlying76
 a75 := Tryz.isAgg76
 z75 := Tryz.sizeOf76
 v75 := Tryz.zeroValue76
 t76 := Tryz.underlying77
 a76 := Tryz.isAgg77
 z76 := Tryz.sizeOf77
 v76 := Tryz.zeroValue77
 t105 := Tryz.underlying129
 a105 := Tryz.isAgg129
 z105 := Tryz.sizeOf129
 v105 := Tryz.zeroValue129
 t119 := Tryz.underlying146
 a119 := Tryz.isAgg146
 z119 := Tryz.sizeOf146
 t127 := Tryz.underlying104
 a127 := Tryz.isAgg104
 z127 := Tryz.sizeOf104
 v127 := Tryz.zeroValue104
 t138 := Tryz.underlying148
 a138 := Tryz.isAgg148
 z138 := Tryz.sizeOf148
 v138 := Tryz.zeroValue148
 t139 := Tryz.underlying149
 a139 := Tryz.isAgg149
 z139 := Tryz.sizeOf149
 v139 := Tryz.zeroValue149
 t146 := Tryz.underlying150
 a146 := Tryz.isAgg150
 z146 := Tryz.sizeOf150
 v146 := Tryz.zeroValue150
 t164 := Tryz.underlying118
 a164 := Tryz.isAgg118
 z164 := Tryz.sizeOf118
 v164 := Tryz.zeroValue118
 g1 := by kernel_rfl
 g3 := by kernel_rfl
 g4 := by kernel_rfl }
theorem Tryz.Builder_Extra_155 : Builder.Extra Tryz.prog Tryz.lays155_ren := {
 sizeBuilder := by kernel_rfl
 liesBuilder := by kernel_rfl
 t5 := Tryz.underlying5
 a5 := Tryz.isAgg5
 z5 := Tryz.sizeOf5
 v5 := Tryz.zeroValue5
 infoByte := by kernel_rfl
 cellsByte := by kernel_rfl
 sizeByte := by kernel_rfl
 neB5 := by decide }
open Go.RowKit Go.Lib in
theorem Tryz.strings_ReplaceAll (s old new : ByteArray) (m : Int) (w : World) (hs : s.size < 4294967281) (hm : w.cell? ⟨0, 0, none⟩ = some (.int .i64 m)) (h1 : 1 ≤ old.size) (hlen : s.size + Lib.countB s old * new.size ≤ 140737488355328) :
 Calls Tryz.prog 60 #[.string s, .string old, .string new] w fun e w' =>
  e = .returned (.string ⟨(Lib.replaceAll s.data.toList old.data.toList new.data.toList).toArray⟩) ∧ Below w.heap.size w w' := Any.strings_ReplaceAll Tryz.lays155 Tryz.Builder_Extra_155 s old new m w hs hm h1 hlen
end Go.Proofs

namespace Go.Dd
open Go.Proofs Go.RowKit
theorem bJw : (Tryz.prog.funcs.toList.all fun fn => !(fn.name == "runtime.NumGoroutine")) = true := by kernel_rfl
theorem Try_ok : POk CF.P where
 mixed := by kernel_rfl
 names := by
  intro f fn hf
  have h := List.all_eq_true.1 bJw fn (by
   have : Tryz.prog.funcs[f]? = some fn := hf
   obtain ⟨hlt, rfl⟩ := Array.getElem?_eq_some_iff.1 this
   simp)
  simpa using h
theorem HR.later {G : Gd} {ρ : Ren} {h : Hp} {w w' : World} (H : HR G ρ h w) (e : Below w.heap.size w w') : HR G ρ h w' where
 gl := fun k hk => (e.block k (Nat.lt_of_lt_of_le hk H.sz.1)).trans (H.gl k hk)
 sz := ⟨Nat.le_trans H.sz.1 e.size, fun k hk => Nat.lt_of_lt_of_le (H.sz.2 k hk) e.size⟩
 nx := H.nx
 ro := H.ro
 dom := H.dom
 lt := H.lt
 cell := fun b k l L i v h1 h2 h3 h4 => by
  obtain ⟨v', h5, h6⟩ := H.cell b k l L i v h1 h2 h3 h4
  exact ⟨v', by rw [e.cell (fU h5)]; exact h5, h6⟩
 spare := fun b l L es j h1 h2 h3 => by
  obtain ⟨v', h5⟩ := H.spare b l L es j h1 h2 h3
  exact ⟨v', by rw [e.cell (fU h5)]; exact h5⟩
 free := fun b a h1 h2 => by
  obtain ⟨v, hv⟩ := H.lt_cell h1
  rw [e.frozen (fU hv)]
  exact H.free b a h1 h2
 inj := H.inj
 ex := H.ex
 grone := H.grone
 itr := fun b s pos L h1 h2 => by
  obtain ⟨a, b, bs, c, d⟩ := H.itr b s pos L h1 h2
  refine ⟨a, b, bs, ?_, d⟩
  rw [e.block _ (Array.getElem?_eq_some_iff.1 c).1]
  exact c
 itj := H.itj
theorem Kp.later {G : Gd} {ρ : Ren} {h : Hp} {w w' : World} (H : HR G ρ h w) (e : Below w.heap.size w w') : Kp G w w' :=
 ⟨e.mono H.sz.1, fun k hk => e.block k (H.sz.2 k hk)⟩
theorem CallFn.of {G : Gd} {ρ : Ren} {w : World} {v : DV} {h1 : Hp} {g : FuncId} {args' : Array Value} (fn : Func) (hf : Tryz.prog.funcs[g]? = some fn) (hb : fn.body.isSome = true)
 (hc : Calls Tryz.prog g args' w (bSx G ρ w v h1)) : CallFn CF.P G ρ w v h1 g args' := by
 refine .inl ⟨?_, hc⟩
 have hf' : CF.P.funcs[g]? = some fn := hf
 have hn : ¬ fn.name = "runtime.NumGoroutine" := by simpa using Try_ok.names g fn hf'
 have hbn : fn.body ≠ none := by intro e; rw [e] at hb; cases hb
 unfold callFunc
 simp [hf', hn, hbn]
theorem zM (sep : List UInt8) : ∀ xs : List (List UInt8), aK (sep.map (·.toNat)) (xs.map (·.map (·.toNat))) = (Lib.join xs sep).map (·.toNat)
 | [] => rfl
 | [x] => by simp [aK, Lib.join, List.intercalate]
 | x :: y :: l => by
  have ih := zM sep (y :: l)
  simp only [List.map_cons] at ih ⊢
  rw [aK, ih]
  simp [Lib.join, List.intercalate, List.map_append]
theorem aOw {ρ : Ren} : ∀ {cells : List DV} {vs : List Value} {l : List (List Nat)}, VRs ρ cells vs → oW cells = some l → ∃ xs : List ByteArray, vs = xs.map Value.string ∧ l = xs.map fun x => x.data.toList.map (·.toNat)
 | [], _, _, .nil, e => by
  simp only [oW, aZ] at e
  exact ⟨[], rfl, e.symm⟩
 | x :: c, _, _, .cons _ x' _ vs hx hs, e => by
  cases hx <;> try (simp [oW] at e; done)
  rename_i t bs hb
  simp only [oW, Option.map_eq_some_iff] at e
  obtain ⟨l0, e0, rfl⟩ := e
  obtain ⟨xs, rfl, rfl⟩ := aOw hs e0
  exact ⟨bs :: xs, rfl, by simp [hb]⟩
theorem cDf {w : World} {L : Loc} {i : Nat} {v : Value} (h : w.cell? (fF L i) = some v) : fF L i = ⟨L.bl, L.of + i, none⟩ := by
 unfold fF at *
 by_cases e : i = 0
 ·subst e
  simp only [if_true] at h ⊢
  cases hs : L.spot with
  | none => rfl
  | some s =>
   rw [hs] at h
   unfold World.cell? at h
   split at h <;> simp at h
 ·simp [e]
theorem aAg (xs : List ByteArray) : (xs.map fun x => x.data.toList.map (·.toNat)) = (xs.map (·.data.toList)).map (·.map (·.toNat)) := by simp
theorem cRs (G : Gd) : vP CF.P G 30 mQ := by
 intro args h v h1 hr ρ w args' H hargs
 unfold mQ at hr
 split at hr <;> (try (cases hr; done))
 rename_i x sep hno
 split at hr <;> (try (cases hr; done))
 rename_i n cells hsrc
 split at hr <;> (try (cases hr; done))
 rename_i l hl
 cases hc : Nat.ble (aK sep l).length 100000000000 with
 | false => rw [hc] at hr; cases hr
 | true =>
 rw [hc] at hr
 cases hc2 : (Nat.ble n 100000000000 && bMw x) with
 | false => rw [hc2] at hr; cases hr
 | true =>
 rw [hc2] at hr
 have hc' := Nat.le_of_ble_eq_true hc
 rw [Bool.and_eq_true] at hc2
 obtain ⟨hc2, hcap⟩ := hc2
 have hn' := Nat.le_of_ble_eq_true hc2
 simp only [cond_true, aZ, bT] at hr
 obtain ⟨rfl, rfl⟩ := hr
 obtain ⟨a⟩ := args'
 cases hargs with
 | cons _ x' l1 l1' hx hxs =>
 cases hxs with
 | cons y y' l2 l2' hy hys =>
 cases hys
 cases hy with
 | s _ bs hbs =>
 refine CallFn.of Tryz.f30 (by kernel_rfl) (by kernel_rfl) ?_
 have hnone : ∀ (a : Option Addr) (c : Nat), l = [] → Calls Tryz.prog 30 #[.slice a 0 c, .string bs] w (bSx G ρ w (.s (aK sep l)) h) := by
  intro a c e
  subst e
  refine (Tryz.strings_Join_none a c bs w).mono ?_
  rintro e w' ⟨rfl, rfl⟩
  exact ⟨ρ, _, rfl, Ex.refl _ _, .s _ _ rfl, H, Kp.refl _ _⟩
 unfold pA at hsrc
 cases hx with
 | l0 =>
  simp only [aZ, bT] at hsrc
  obtain ⟨rfl, rfl⟩ := hsrc
  simp only [oW, aZ] at hl
  exact hnone _ _ hl.symm
 | le a c =>
  simp only [aZ, bT] at hsrc
  obtain ⟨rfl, rfl⟩ := hsrc
  simp only [oW, aZ] at hl
  exact hnone _ _ hl.symm
 | l b o m cap L hL =>
  simp only at hsrc
  split at hsrc <;> (try (cases hsrc; done))
  rename_i cs hcs
  simp only [aZ, bT] at hsrc
  obtain ⟨rfl, rfl⟩ := hsrc
  obtain ⟨e1, e2, e3, vs, e4, e5, e6⟩ := gG H hcs hL
  obtain ⟨xs, rfl, rfl⟩ := aOw e4 hl
  simp only [List.length_map, Nat.mul_one] at e5
  subst e5
  cases xs with
  | nil => exact hnone _ _ rfl
  | cons x0 xs0 =>
   have h0 := e6 0 (.string x0) rfl
   have ha : fF L o = ⟨L.bl, L.of + o, none⟩ := cDf h0
   rw [ha]
   have hsep := hbs
   refine (Tryz.strings_Join L.bl (L.of + o) (cap + L.sp) (x0 :: xs0) bs w ?_ (fU h0) (by omega) ?_ ?_).mono ?_
   ·intro j y hj
    have h5 := e6 j (.string y) (by rw [List.getElem?_map, hj]; rfl)
    rw [cDf h5] at h5
    rw [show L.of + o + j = L.of + (o + j) by omega]
    exact h5
   ·exact Nat.le_trans (Nat.le_of_ble_eq_true hcap) (Nat.le_add_right _ _)
   ·have := hc'
    rw [← hbs, aAg, zM, List.length_map] at this
    omega
   ·rintro e w' ⟨rfl, hbel⟩
    refine ⟨ρ, _, rfl, Ex.refl _ _, .s _ _ ?_, H.later hbel, Kp.later H hbel⟩
    rw [← hbs, aAg, zM]
 | u => simp at hsrc
 | s => exact (hno _ rfl).elim
 | _ => simp at hsrc
theorem aCi : ∀ (f n : Nat) (acc : List Nat), n < 10 ^ f → 0 < f → fA f n acc = (Lib.decDigits n).map (·.toNat) ++ acc
 | 0, n, acc, h, h0 => by omega
 | f + 1, n, acc, h, _ => by
  have hd : ∀ d, d < 10 → (UInt8.ofNat (48 + d)).toNat = 48 + d := fun d hd => by simp; omega
  unfold fA
  rw [Lib.decDigits]
  cases e : Nat.ble 10 n with
  | false =>
   have hn : n < 10 := by
    rcases Nat.lt_or_ge n 10 with h | h
    ·exact h
    ·rw [Nat.ble_eq_true_of_le h] at e; cases e
   simp only [cond_false]
   rw [dif_pos hn]
   show (48 + n) :: acc = _
   simp [hd n hn]
   omega
  | true =>
   have hn := Nat.le_of_ble_eq_true e
   simp only [cond_true]
   rw [dif_neg (by omega)]
   have hf : 0 < f := by
    rcases Nat.eq_zero_or_pos f with h1 | h1
    ·subst h1; simp at h; omega
    ·exact h1
   show fA f (n / 10) ((48 + n % 10) :: acc) = _
   rw [aCi f (n / 10) _ (by rw [Nat.pow_succ] at h; omega) hf]
   simp [hd (n % 10) (by omega)]
   omega
theorem cEm (n : Int) (h0 : -9223372036854775808 ≤ n) (h1 : n ≤ 9223372036854775807) : jT n = (Lib.itoa n).map (·.toNat) := by
 unfold Lib.itoa jT
 cases n with
 | ofNat n =>
  rw [if_neg (by simp)]
  simp only
  rw [aCi 20 n [] (by simp at h1; omega) (by omega)]
  simp
 | negSucc n =>
  rw [if_pos (by omega)]
  simp only
  rw [aCi 20 _ [] (by show n + 1 < _; omega) (by omega)]
  simp
theorem cLr (G : Gd) : vP CF.P G 34 aAk := by
 intro args h v h1 hr ρ w args' H hargs
 unfold aAk at hr
 split at hr <;> (try (cases hr; done))
 rename_i n
 cases hc : (decide (-9223372036854775808 ≤ n) && decide (n ≤ 9223372036854775807)) with
 | false => rw [hc] at hr; cases hr
 | true =>
 rw [hc] at hr
 simp only [Bool.and_eq_true, decide_eq_true_eq] at hc
 simp only [cond_true, aZ, bT] at hr
 obtain ⟨rfl, rfl⟩ := hr
 obtain ⟨a⟩ := args'
 cases hargs with
 | cons _ x' l1 l1' hx hxs =>
 cases hxs
 cases hx
 refine CallFn.of Tryz.f34 (by kernel_rfl) (by kernel_rfl) ?_
 have F := G.ok w H.gl
 have htab : Lib.TabIs Tryz.prog w "internal/strconv.uint64pow10" .u64 Lib.pow10Tab := by
  obtain ⟨_, t, z, ht⟩ := F
  have hg : Tryz.prog.globalNamed "internal/strconv.uint64pow10" = some 1 := by kernel_rfl
  unfold Lib.TabIs World.var?
  rw [hg]
  simp only [Option.bind_some, ht]
 refine (Tryz.strconv_Itoa n hc.1 hc.2 w htab).mono ?_
 rintro e w' ⟨rfl, k, os, rfl⟩
 have hbel : Below w.heap.size w (Sort.grow (w.drewN k) os) := ⟨rfl, rfl, rfl, by simp [Sort.grow, World.drewN], fun i hi => by
  show (w.heap ++ os)[i]? = _
  rw [Array.getElem?_append_left hi]⟩
 exact ⟨ρ, _, rfl, Ex.refl _ _, .s _ _ (cEm n hc.1 hc.2).symm, H.later hbel, Kp.later H hbel⟩
end Go.Dd

namespace Go.Dd
open Go.Proofs Go.Lib Go.RowKit
theorem bQa (b c : UInt8) : Nat.beq b.toNat c.toNat = (b == c) := by
 rw [Bool.eq_iff_iff]
 constructor
 ·intro h
  have := Nat.eq_of_beq_eq_true h
  simpa using UInt8.toNat_inj.1 this
 ·intro h
  have h2 : b = c := by simpa using h
  rw [h2]; simp
theorem cDp {bs : ByteArray} {c : Nat} (h : bs.data.toList.map (·.toNat) = [c]) : ∃ u : UInt8, bs = ⟨#[u]⟩ ∧ u.toNat = c := by
 obtain ⟨⟨l⟩⟩ := bs
 match l, h with
 | [u], h => exact ⟨u, rfl, by simpa using h⟩
def qQ (c : UInt8) (new : List UInt8) : List UInt8 → List UInt8
 | [] => []
 | x :: l => if x = c then new ++ qQ c new l else x :: qQ c new l
theorem aPq {b c : UInt8} {l : List UInt8} (h : b ≠ c) {i : Nat} (hi : index l [c] = i) : index (b :: l) [c] = ((i + 1 : Nat) : Int) := by
 have hp : ([c] : List UInt8).isPrefixOf (b :: l) = false := by simp [List.isPrefixOf, Ne.symm h]
 rw [index, hp, hi]
 simp
theorem aRk {c : UInt8} {l : List UInt8} : index (c :: l) [c] = ((0 : Nat) : Int) := by
 rw [index]; simp [List.isPrefixOf]
theorem aRy (c : UInt8) (new : List UInt8) : ∀ s : List UInt8, replaceK [c] new (count s [c]) s = qQ c new s
 | [] => by rw [count_one]; rfl
 | b :: l => by
  have ih := aRy c new l
  by_cases h : b = c
  ·subst h
   rw [count_cons_eq, Nat.add_comm, replaceK_hit _ _ _ _ 0 aRk]
   simp [qQ, ih]
  ·rw [count_cons_ne _ _ _ h]
   simp only [qQ, if_neg h]
   cases hk : count l [c] with
   | zero =>
    rw [hk] at ih
    simp only [replaceK] at ih ⊢
    rw [← ih]
   | succ k =>
    rw [hk] at ih
    obtain ⟨i, hi⟩ := index_of_count (s := l) (old := [c]) (by omega)
    rw [replaceK_hit _ _ _ _ i hi] at ih
    rw [replaceK_hit _ _ _ _ (i + 1) (aPq h hi), ← ih]
    simp [Nat.add_right_comm]
theorem yJ (c : UInt8) : ∀ s : List UInt8, qQ c [c] s = s
 | [] => rfl
 | x :: l => by
  simp only [qQ, yJ c l]
  split
  ·rename_i h; subst h; rfl
  ·rfl
theorem bQq (s : List UInt8) (c : UInt8) (new : List UInt8) : replaceAll s [c] new = qQ c new s := by
 unfold replaceAll replace
 split
 ·rename_i h
  have : [c] = new := by simpa using h
  subst this
  rw [yJ]
 ·unfold replaceNum
  rw [if_pos (.inl (by decide))]
  exact aRy c new s
theorem aQw (c : UInt8) (new : List UInt8) : ∀ s : List UInt8, eZ c.toNat (new.map (·.toNat)) (s.map (·.toNat)) = (qQ c new s).map (·.toNat)
 | [] => rfl
 | x :: l => by
  simp only [List.map_cons, eZ, qQ, aQw c new l, bQa]
  by_cases h : x = c
  ·subst h; simp
  ·rw [if_neg h, show (x == c) = false by simpa using h]; simp
theorem cUl (G : Gd) : vP CF.P G 60 aEa := by
 intro args h v h1 hr ρ w args' H hargs
 unfold aEa at hr
 split at hr <;> (try (cases hr; done))
 rename_i s c new
 cases hc : Nat.blt c 256 with
 | false => rw [hc] at hr; cases hr
 | true =>
 rw [hc] at hr
 cases hc2 : Nat.ble s.length 4000000000 with
 | false => rw [hc2] at hr; cases hr
 | true =>
 rw [hc2] at hr
 cases hc3 : Nat.ble new.length 1000 with
 | false => rw [hc3] at hr; cases hr
 | true =>
 rw [hc3] at hr
 have hs' := Nat.le_of_ble_eq_true hc2
 have hn' := Nat.le_of_ble_eq_true hc3
 simp only [cond_true, aZ, bT] at hr
 obtain ⟨rfl, rfl⟩ := hr
 obtain ⟨a⟩ := args'
 cases hargs with
 | cons _ x' l1 l1' hx hxs =>
 cases hxs with
 | cons _ y' l2 l2' hy hys =>
 cases hys with
 | cons _ z' l3 l3' hz hzs =>
 cases hzs
 cases hx with
 | s _ bs hbs =>
 cases hy with
 | s _ bc hbc =>
 cases hz with
 | s _ bn hbn =>
 obtain ⟨u, rfl, rfl⟩ := cDp hbc
 subst hbs hbn
 have e1 : bs.size ≤ 4000000000 := by rw [List.length_map, Array.length_toList] at hs'; exact hs'
 have e2 : bn.size ≤ 1000 := by rw [List.length_map, Array.length_toList] at hn'; exact hn'
 refine CallFn.of Tryz.f60 (by kernel_rfl) (by kernel_rfl) ?_
 obtain ⟨⟨m, hm⟩, _⟩ := G.ok w H.gl
 have hcnt : countB bs ⟨#[u]⟩ ≤ bs.size := countB_le _ (by simp [ByteArray.size]) _ _ (Nat.le_refl _)
 have hmul : countB bs ⟨#[u]⟩ * bn.size ≤ 4000000000 * 1000 := Nat.mul_le_mul (by omega) e2
 refine (Tryz.strings_ReplaceAll bs ⟨#[u]⟩ bn m w (by omega) hm (by simp [ByteArray.size]) (by omega)).mono ?_
 rintro e w' ⟨rfl, hbel⟩
 refine ⟨ρ, _, rfl, Ex.refl _ _, .s _ _ ?_, H.later hbel, Kp.later H hbel⟩
 rw [aQw, ← bQq]
def jC (acc : List UInt8) : List (List UInt8) → List (List UInt8)
 | [] => []
 | p :: ps => (acc ++ p) :: ps
theorem vH (c : UInt8) : ∀ (s acc : List UInt8), cA c.toNat (acc.map (·.toNat)) (s.map (·.toNat)) = (jC acc (splitK [c] 1 (count s [c]) s)).map (·.map (·.toNat))
 | [], acc => by rw [count_one]; simp [cA, splitK, jC]
 | b :: l, acc => by
  simp only [List.map_cons, cA, bQa]
  by_cases h : b = c
  ·subst h
   have ih := vH b l []
   rw [count_cons_eq, Nat.add_comm]
   simp only [splitK, aRk]
   simp only [List.map_nil] at ih
   rw [show (b == b) = true by simp, cond_true, ih]
   have hd : jC [] (splitK [b] 1 (count l [b]) l) = splitK [b] 1 (count l [b]) l := by cases splitK [b] 1 (count l [b]) l <;> simp [jC]
   rw [hd]
   simp [jC]
  ·have ih := vH c l (acc ++ [b])
   rw [show (b == c) = false by simpa using h, cond_false, count_cons_ne _ _ _ h]
   simp only [List.map_append, List.map_cons, List.map_nil] at ih
   rw [ih]
   cases hk : count l [c] with
   | zero => simp [splitK, jC]
   | succ k =>
    obtain ⟨i, hi⟩ := index_of_count (s := l) (old := [c]) (by omega)
    have hi2 := aPq h hi
    simp only [splitK, hi, hi2]
    rw [if_neg (by first | (simp; done) | (simp; omega)), if_neg (by first | (simp; done) | (simp; omega))]
    simp [jC]
theorem bVq (G : Gd) : vP CF.P G 86 uM := by
 intro args h v h1 hr ρ w args' H hargs
 unfold uM at hr
 split at hr <;> (try (cases hr; done))
 rename_i s c
 cases hc : Nat.blt c 256 with
 | false => rw [hc] at hr; cases hr
 | true =>
 rw [hc] at hr
 cases hc2 : Nat.ble s.length 4000000000 with
 | false => rw [hc2] at hr; cases hr
 | true =>
 rw [hc2] at hr
 have hs' := Nat.le_of_ble_eq_true hc2
 simp only [cond_true, aZ, bT] at hr
 obtain ⟨rfl, rfl⟩ := hr
 obtain ⟨a⟩ := args'
 cases hargs with
 | cons _ x' l1 l1' hx hxs =>
 cases hxs with
 | cons _ y' l2 l2' hy hys =>
 cases hys with
 | cons _ z' l3 l3' hz hzs =>
 cases hzs with
 | cons _ z4 l4 l4' hz4 hzs4 =>
 cases hzs4
 cases hz
 cases hz4
 cases hx with
 | s _ bs hbs =>
 cases hy with
 | s _ bc hbc =>
 obtain ⟨u, rfl, rfl⟩ := cDp hbc
 subst hbs
 have e1 : bs.size ≤ 4000000000 := by rw [List.length_map, Array.length_toList] at hs'; exact hs'
 have hsz : (⟨#[u]⟩ : ByteArray).size = 1 := rfl
 have hcnt : countB bs ⟨#[u]⟩ ≤ bs.size := countB_le _ (by omega) _ _ (Nat.le_refl _)
 have hp : cA u.toNat [] (bs.data.toList.map (·.toNat)) = ((splitB ⟨#[u]⟩ 1 (countB bs ⟨#[u]⟩) bs).map (·.data.toList)).map (·.map (·.toNat)) := by
  have := vH u bs.data.toList []
  simp only [List.map_nil] at this
  rw [this, splitB_data]
  show (jC [] (splitK [u] 1 (count bs.data.toList [u]) bs.data.toList)).map _ = (splitK [u] 1 (count bs.data.toList [u]) bs.data.toList).map _
  cases splitK [u] 1 (count bs.data.toList [u]) bs.data.toList <;> simp [jC]
 have hlen := splitB_all ⟨#[u]⟩ (by omega) 1 _ bs rfl
 refine CallFn.of Tryz.f86 (by kernel_rfl) (by kernel_rfl) ?_
 obtain ⟨⟨m, hm⟩, _⟩ := G.ok w H.gl
 have hN : ((countB bs ⟨#[u]⟩ + 1 : Nat) : Int) = min (if (Int.negSucc 0) < 0 then (countB bs ⟨#[u]⟩ : Int) + 1 else Int.negSucc 0) ((bs.size : Int) + 1) := by
  rw [if_pos (by decide)]
  omega
 refine (Tryz.strings_genSplit bs ⟨#[u]⟩ 1 (Int.negSucc 0) (countB bs ⟨#[u]⟩ + 1) m w (by omega) hm (by omega) (by omega) (by decide) (by decide) hN).mono ?_
 rintro e w' ⟨rfl, rfl⟩
 simp only [Nat.add_sub_cancel] at *
 generalize hps : splitB ⟨#[u]⟩ 1 (countB bs ⟨#[u]⟩) bs = ps at *
 rw [hp]
 have hcell : cellsOf ps (countB bs ⟨#[u]⟩ + 1) = (ps.map Value.string).toArray := by rw [← hlen]; exact cellsOf_full ps
 rw [hcell]
 have hvs : ∀ qs : List ByteArray, VRs ρ (((qs.map (·.data.toList)).map (·.map (·.toNat))).map DV.s) (qs.map Value.string) := by
  intro qs
  induction qs with
  | nil => exact .nil
  | cons q qs ih => exact .cons _ _ _ _ (.s _ _ rfl) ih
 have H2 := H.newRow .ex _ (ps.map Value.string) (ps.map Value.string).toArray 9 0 (hvs ps) (fun i v hv => by simpa using hv) (.inl ⟨rfl, rfl⟩)
 refine ⟨_, _, rfl, H.exx ⟨w.heap.size, 0, 0, none⟩, ?_, H2, hU H.sz _⟩
 have := VR.l (ρ := pC ρ h.next ⟨w.heap.size, 0, 0, none⟩) h.next 0 ps.length ps.length ⟨w.heap.size, 0, 0, none⟩ (bU _ _ _)
 simpa [fF, hlen] using this
end Go.Dd

namespace Go.Dd
open Go.Proofs Go.Lib Go.RowKit
theorem aPg (c : Nat) (hc : c < 256) : ∀ (l : List UInt8) (i : Nat), dZ c (l.map (·.toNat)) i = if indexByte l c.toUInt8 = -1 then -1 else indexByte l c.toUInt8 + i
 | [], i => rfl
 | b :: l, i => by
  have hb : Nat.beq b.toNat c = (b == c.toUInt8) := by
   rw [Bool.eq_iff_iff]
   constructor
   ·intro h
    have := Nat.eq_of_beq_eq_true h
    simp [← this]
   ·intro h
    have h2 : b = c.toUInt8 := by simpa using h
    rw [h2]
    have : (c.toUInt8).toNat = c := by simp [Nat.toUInt8]; omega
    rw [this]; simp
  show (bif Nat.beq b.toNat c then Int.ofNat i else dZ c (l.map (·.toNat)) (i + 1)) = _
  rw [hb]
  unfold indexByte
  cases h : (b == c.toUInt8) with
  | true => simp
  | false =>
   have ih := aPg c hc l (i + 1)
   have hge := indexByte_ge l c.toUInt8
   simp only [cond_false, Bool.false_eq_true, if_false]
   rw [ih]
   by_cases h1 : indexByte l c.toUInt8 = -1
   ·simp [h1]
   ·simp only [h1, if_false, beq_iff_eq]
    rw [if_neg (by omega)]
    omega
theorem dGj (G : Gd) : vP CF.P G 117 bJy := by
 intro args h v h1 hr ρ w args' H hargs
 unfold bJy at hr
 split at hr <;> (try (cases hr; done))
 rename_i l c
 cases hc : Nat.blt c 256 with
 | false => rw [hc] at hr; cases hr
 | true =>
  rw [hc] at hr
  have hc' : c < 256 := by simpa using hc
  simp only [cond_true, aZ, bT] at hr
  obtain ⟨rfl, rfl⟩ := hr
  obtain ⟨a⟩ := args'
  cases hargs with
  | cons x x' l1 l1' hx hxs =>
  cases hxs with
  | cons y y' l2 l2' hy hys =>
  cases hys
  cases hx with
  | s l bs hbs =>
  cases hy with
  | i k n =>
  refine .inr ⟨ρ, w, .int .i64 (indexByte bs.data.toList c.toUInt8), ?_, Ex.refl _ _, ?_, H, Kp.refl _ _⟩
  ·rw [run_callFunc_extern (fn := Tryz.f117) (e := Extern.BytealgIndexByte.indexByte) (by kernel_rfl) (by kernel_rfl) (by kernel_rfl) (by kernel_rfl) (by kernel_rfl)]
   rw [run_indexByteString bs (Int.ofNat c) w]
   rfl
  ·have e := aPg c hc' bs.data.toList 0
   rw [hbs] at e
   have e2 : dZ c l 0 = indexByte bs.data.toList c.toUInt8 := by
    rw [e]
    split
    ·rename_i h; exact h.symm
    ·simp
   rw [e2]
   exact .i _ _
theorem aUu (G : Gd) (g : FuncId) (F : List DV → Hp → aF) (h : CF.I g = some F) : vP CF.P G g F := by
 have e : CF.I g = bif Nat.beq g 117 then some bJy else bif Nat.beq g 30 then some mQ else bif Nat.beq g 86 then some uM else bif Nat.beq g 60 then some aEa else bif Nat.beq g 34 then some aAk else none := rfl
 rw [e] at h
 cases hg : Nat.beq g 117 with
 | true => rw [hg] at h; cases h; cases Nat.eq_of_beq_eq_true hg; exact dGj G
 | false =>
 rw [hg, cond_false] at h
 cases hg : Nat.beq g 30 with
 | true => rw [hg] at h; cases h; cases Nat.eq_of_beq_eq_true hg; exact cRs G
 | false =>
 rw [hg, cond_false] at h
 cases hg : Nat.beq g 86 with
 | true => rw [hg] at h; cases h; cases Nat.eq_of_beq_eq_true hg; exact bVq G
 | false =>
 rw [hg, cond_false] at h
 cases hg : Nat.beq g 60 with
 | true => rw [hg] at h; cases h; cases Nat.eq_of_beq_eq_true hg; exact cUl G
 | false =>
 rw [hg, cond_false] at h
 cases hg : Nat.beq g 34 with
 | true => rw [hg] at h; cases h; cases Nat.eq_of_beq_eq_true hg; exact cLr G
 | false => rw [hg] at h; cases h
def dGs (w : World) (F : Facts w) : Gd := ⟨w.heap.size, fun _ => False, 0, w.heap, fun w' h => F.keep fun k hk => h k (Nat.lt_of_lt_of_le hk F.two)⟩
def h00 : Hp := ⟨.h, .e⟩
theorem top {n : Nat} {f : FuncId} {args : List DV} {v : DV} {h1 : Hp} (hr : aI n f args h00 = some (v, h1)) (fn : Func) (hf : Tryz.prog.funcs[f]? = some fn) (hb : fn.body.isSome = true)
 (w : World) (F : Facts w) (args' : Array Value) (hargs : VRs (fun _ => none) args args'.toList) :
 Calls Tryz.prog f args' w fun e w' => ∃ ρ' v', e = .returned v' ∧ VR ρ' v v' ∧ HR (dGs w F) ρ' h1 w' ∧ Below w.heap.size w w' := by
 rw [aUc] at hr
 have H : HR (dGs w F) (fun _ => none) h00 w := by
  constructor
  ·exact fun _ _ => rfl
  ·exact ⟨Nat.le_refl _, fun _ h => h.elim⟩
  ·exact Nat.zero_le _
  ·rintro b a ⟨k, l, L, _, h2, _⟩; cases h2
  ·intro b o h; cases b <;> cases h
  ·intro b L h; cases h
  ·intro b k l L i v h h2; cases h2
  ·intro b l L es j h h2; cases h2
  ·rintro b a ⟨k, l, L, _, h2, _⟩; cases h2
  ·rintro b b' a ⟨k, l, L, _, h2, _⟩; cases h2
  ·intro b l L h h2; cases h2
  ·intro b es l i v h; cases b <;> cases h
  ·intro b s pos L h h2; cases h2
  ·intro b s pos b' s' pos' L L' h h' h2; cases h2
 rcases aVn (C := CF) Try_ok aUu n _ f args h00 v h1 hr _ w args' H hargs with ⟨_, h⟩ | ⟨ρ', w', v', h, _⟩
 ·refine h.mono ?_
  rintro e w' ⟨ρ', v', h1, h2, h3, h4, h5⟩
  exact ⟨ρ', v', h1, h3, h4, h5.low⟩
 ·exfalso
  have hf' : CF.P.funcs[f]? = some fn := hf
  have hn : ¬ fn.name = "runtime.NumGoroutine" := by simpa using Try_ok.names f fn hf'
  have hbn : fn.body ≠ none := by intro e; rw [e] at hb; cases hb
  unfold callFunc at h
  simp [hf', hn, hbn] at h
end Go.Dd

namespace Go.Dd
noncomputable def val (r : aF) : DV := Option.rec (motive := fun _ => DV) .u (fun p => p.1) r
theorem dUb {r : aF} {b : Bool} (h : val r = .b b) : ∃ h1, r = some (.b b, h1) := by
 cases r with
 | none => cases h
 | some p =>
  obtain ⟨v, h1⟩ := p
  have : v = .b b := h
  exact ⟨h1, by rw [this]⟩
end Go.Dd

namespace Go.Dd
open Go.Proofs
def Wf (h : Hp) : Prop := ∀ b o, h.bl.get b = some o → b.toNat < h.next.toNat
def Ge (h h' : Hp) : Prop := ∀ b o, h.bl.get b = some o → h'.bl.get b = some o
theorem Ge.refl (h : Hp) : Ge h h := fun _ _ e => e
theorem Ge.trans {a b c : Hp} (h : Ge a b) (k : Ge b c) : Ge a c := fun x o e => k x o (h x o e)
noncomputable def nw (o : Ob) (h : Hp) : Hp := ⟨h.next.succ, Tr.set o h.next h.bl⟩
theorem dUj {h : Hp} (W : Wf h) {b : Pos} {o : Ob} (e : h.bl.get b = some o) : b ≠ h.next := by
 intro e2
 have := W b o e
 rw [e2] at this
 omega
theorem cZo {h : Hp} (W : Wf h) (o : Ob) : Ge h (nw o h) := by
 intro b o' e
 show (Tr.set o h.next h.bl).get b = some o'
 rw [eAt _ _ _ _ (dUj W e)]
 exact e
theorem aGv (h : Hp) (o : Ob) : (nw o h).bl.get h.next = some o := eAu o _ _
theorem dTj (cs : List DV) (h : Hp) : bL cs h = some (.p h.next 0, nw (.row .ex cs) h) := rfl
theorem dHt (x y : List Nat) (h : Hp) : cB .eql (.s x) (.s y) h = some (.b (xK x y), h) := rfl
theorem dAl (x y : List Nat) (h : Hp) : cB .neq (.s x) (.s y) h = some (.b (!xK x y), h) := rfl
theorem dW (n : Int) (h1 : -9223372036854775808 ≤ n) (h2 : n ≤ 9223372036854775807) : IntKind.i64.wrap n = n := by
 unfold IntKind.wrap
 simp [IntKind.bits, IntKind.signed, IntKind.min, IntKind.max]
 omega
theorem ld1 {h : Hp} {b : Pos} {k : Kind} {l : List DV} {o : Nat} {v : DV} (e : h.bl.get b = some (.row k l)) (ho : l[o]? = some v) (hv : v.one = true) : aB (.p b o) h = some (v, h) := by
 simp [aB, aOr, mR, e, ho, hv]
theorem ldA {h : Hp} {b : Pos} {k : Kind} {l : List DV} {o n : Nat} {cs : List DV} (e : h.bl.get b = some (.row k l)) (ho : jY n (l.drop o) = some cs) : aD n (.p b o) h = some (.a cs, h) := by
 simp [aD, eE, mR, e, ho]
theorem jL {α : Type} {l : List α} {i : Nat} {x : α} (hi : l[i]? = some x) : l.drop i = x :: l.drop (i + 1) := by
 obtain ⟨h1, h2⟩ := List.getElem?_eq_some_iff.1 hi
 rw [← h2]
 exact List.drop_eq_getElem_cons h1
theorem bDd (x y : List Nat) : xK x y = decide (x = y) := by
 rw [Bool.eq_iff_iff, jP]; simp
theorem cKj (n : Nat) (x y : DV) (h : Hp) : aI (n + 1) 16 [x, y] h = s16 (aI n) n x y h := by kernel_rfl
end Go.Dd

namespace Go.Dd
open Go.Proofs
theorem aQz : ∀ (l vs : List DV), l.length = vs.length → (∀ v ∈ l, v.one = true) → (∀ v ∈ vs, v.one = true) → uN l vs = some vs
 | [], [], _, _, _ => rfl
 | x :: l, v :: vs, h, h1, h2 => by
  have := aQz l vs (by simpa using h) (fun y hy => h1 y (by simp [hy])) (fun y hy => h2 y (by simp [hy]))
  simp [uN, this, h1 x (by simp), h2 v (by simp)]
 | [], _ :: _, h, _, _ => by simp at h
 | _ :: _, [], h, _, _ => by simp at h
theorem aFc : ∀ (x : List DV), (∀ v ∈ x, v.one = true) → jY x.length x = some x
 | [], _ => rfl
 | v :: x, h => by simp [jY, h v (by simp), aFc x (fun y hy => h y (by simp [hy]))]
end Go.Dd

namespace Go.Dd
open Go.Proofs
end Go.Dd

namespace Go.Dd
open Go.Proofs
end Go.Dd

namespace Go.Dd
open Go.Proofs
end Go.Dd

namespace Go.Dd
open Go.Proofs
end Go.Dd

namespace Go.Dd
open Go.Proofs
end Go.Dd

namespace Go.Dd
open Go.Proofs Go.RowKit
theorem bKp {n : Nat} {f : FuncId} {r : Bool} {h1 : Hp} (hr : aI n f [] h00 = some (.b r, h1)) (fn : Func) (hf : Tryz.prog.funcs[f]? = some fn) (hb : fn.body.isSome = true) (G : Gd) :
 vP CF.P G f (fun args h => match args with
  | [] => some (.b r, h)
  | _ => none) := by
 intro args h v h2 he ρ w args' H hargs
 cases args with
 | cons _ _ => cases he
 | nil =>
  simp only [aZ, bT] at he
  obtain ⟨rfl, rfl⟩ := he
  have e0 : args' = #[] := by
   obtain ⟨a⟩ := args'
   cases hargs
   rfl
  subst e0
  refine .inl ⟨?_, ?_⟩
  ·have hf' : CF.P.funcs[f]? = some fn := hf
   have hn : ¬ fn.name = "runtime.NumGoroutine" := by simpa using Try_ok.names f fn hf'
   have hbn : fn.body ≠ none := by intro e; rw [e] at hb; cases hb
   unfold callFunc
   simp [hf', hn, hbn]
  ·refine (top hr fn hf hb w (G.ok w H.gl) #[] .nil).mono ?_
   rintro e w' ⟨ρ', v', rfl, hv, _, hbel⟩
   cases hv
   exact ⟨ρ, _, rfl, Ex.refl _ _, .b _, H.later hbel, Kp.later H hbel⟩
noncomputable def yK (l : FuncId) (r : Bool) (n : Nat) : FuncId → List DV → Hp → aF := fun g =>
 bif Nat.beq g l then (fun args h => match args with
  | [] => some (.b r, h)
  | _ => none) else aI n g
theorem cMf {n m : Nat} {f : FuncId} {r : Bool} {h1 : Hp} (hr : aI m f [] h00 = some (.b r, h1)) (fn : Func) (hf : Tryz.prog.funcs[f]? = some fn) (hb : fn.body.isSome = true) : OkC CF (yK f r n) := by
 refine ⟨aUu, fun G g => ?_⟩
 unfold yK
 cases hg : Nat.beq g f with
 | true =>
  cases Nat.eq_of_beq_eq_true hg
  exact bKp hr fn hf hb G
 | false =>
  show vP CF.P G g (aI n g)
  rw [aUc]
  exact aVn Try_ok aUu n G g
theorem bKg (l : FuncId) (r : Bool) (n : Nat) (h : Hp) : yK l r n l [] h = some (.b r, h) := by
 unfold yK
 rw [show Nat.beq l l = true from by simp]
 rfl
theorem rE {l g : FuncId} (r : Bool) (n : Nat) (e : Nat.beq g l = false) : yK l r n g = aI n g := by
 unfold yK
 rw [e]
 rfl
end Go.Dd

namespace Go.Dd
open Go.Proofs Go.RowKit
structure Ro (w : World) (ρ : Ren) (h : Hp) : Prop where
 dom : ∀ b o, h.bl.get b = some o → ∃ L, ρ b = some L
 lt : ∀ b L, ρ b = some L → b.toNat < h.next.toNat
 row : ∀ b o, h.bl.get b = some o → ∃ l, o = .row .ro l
 cell : ∀ b l L i v, h.bl.get b = some (.row .ro l) → ρ b = some L → l[i]? = some v → ∃ v', w.cell? (fF L i) = some v' ∧ VR ρ v v'
 sp : ∀ b o L, h.bl.get b = some o → ρ b = some L → L.sp = 0
theorem Ro.wf {w : World} {ρ : Ren} {h : Hp} (R : Ro w ρ h) : Wf h := fun b o e => by
 obtain ⟨L, hL⟩ := R.dom b o e
 exact R.lt b L hL
theorem Ro.isRo {w : World} {ρ : Ren} {h : Hp} (R : Ro w ρ h) {b : Pos} {a : Addr} (c : Claims ρ h b a) : isRo h b := by
 obtain ⟨k, l, L, h1, h2, _⟩ := c
 obtain ⟨l', e⟩ := R.row b _ h1
 exact ⟨l', by rw [h1, e]⟩
theorem Ro.hr {w : World} {ρ : Ren} {h : Hp} (R : Ro w ρ h) (F : Facts w) : HR (dGs w F) ρ h w where
 gl := fun _ _ => rfl
 sz := ⟨Nat.le_refl _, fun _ hh => hh.elim⟩
 nx := Nat.zero_le _
 ro := fun b a c _ => by
  obtain ⟨k, l, L, h1, h2, h3⟩ := c
  obtain ⟨l', e⟩ := R.row b _ h1
  cases e
  rcases h3 with ⟨i, v, h4, h5, rfl⟩ | ⟨es, j, h4, _⟩
  ·obtain ⟨v', h6, _⟩ := R.cell b _ L i v h1 h2 h4
   exact fU h6
  ·cases h4
 dom := R.dom
 lt := R.lt
 cell := fun b k l L i v h1 h2 h3 h4 => by
  obtain ⟨l', e⟩ := R.row b _ h1
  cases e
  exact R.cell b _ L i v h1 h2 h3
 spare := fun b l L es j h1 => by
  obtain ⟨l', e⟩ := R.row b _ h1
  cases e
 free := fun b a c hn => absurd (R.isRo c) hn
 inj := fun b b' a c c' hn => absurd (R.isRo c) hn
 ex := fun b l L h1 h2 => by
  rcases h1 with h1 | h1
  ·exact R.sp b _ L h1 h2
  ·exact R.sp b _ L h1 h2
 grone := fun b es l i v h1 => by
  obtain ⟨l', e⟩ := R.row b _ h1
  cases e
 itr := fun b s pos L h1 => by
  obtain ⟨l', e⟩ := R.row b _ h1
  cases e
 itj := fun b s pos b' s' pos' L L' h1 => by
  obtain ⟨l', e⟩ := R.row b _ h1
  cases e
theorem Ro.none (w : World) : Ro w (fun _ => none) h00 where
 dom := fun b o h => by cases b <;> cases h
 lt := fun b L h => by cases h
 row := fun b o h => by cases b <;> cases h
 cell := fun b l L i v h => by cases b <;> cases h
 sp := fun b o L h => by cases b <;> cases h
theorem Ro.add {w : World} {ρ : Ren} {h : Hp} (R : Ro w ρ h) (L : Loc) (l : List DV) (hsp : L.sp = 0)
 (hc : ∀ (i : Nat) v, l[i]? = some v → ∃ v', w.cell? (fF L i) = some v' ∧ VR ρ v v') :
 Ro w (pC ρ h.next L) (nw (.row .ro l) h) ∧ Ext ρ (pC ρ h.next L) := by
 have fresh : ρ h.next = Option.none := by
  cases e : ρ h.next with
  | none => rfl
  | some L' => exact absurd (R.lt _ _ e) (Nat.lt_irrefl _)
 have ext : Ext ρ (pC ρ h.next L) := fun b L' e => by
  have hb : b ≠ h.next := fun e2 => by rw [e2, fresh] at e; cases e
  rw [aQ _ _ hb]; exact e
 refine ⟨?_, ext⟩
 have get : ∀ b o, (nw (.row .ro l) h).bl.get b = some o → (b = h.next ∧ o = .row .ro l) ∨ (b ≠ h.next ∧ h.bl.get b = some o) := fun b o e => by
  by_cases hb : b = h.next
  ·subst hb
   rw [aGv] at e
   cases e
   exact .inl ⟨rfl, rfl⟩
  ·refine .inr ⟨hb, ?_⟩
   rw [← eAt (.row .ro l) h.next b h.bl hb]
   exact e
 constructor
 ·intro b o e
  rcases get b o e with ⟨rfl, _⟩ | ⟨hb, e2⟩
  ·exact ⟨L, bU _ _ _⟩
  ·rw [aQ _ _ hb]; exact R.dom b o e2
 ·intro b L' e
  show b.toNat < h.next.succ.toNat
  rw [eBg]
  by_cases hb : b = h.next
  ·rw [hb]; omega
  ·rw [aQ _ _ hb] at e
   have := R.lt b L' e
   omega
 ·intro b o e
  rcases get b o e with ⟨rfl, rfl⟩ | ⟨hb, e2⟩
  ·exact ⟨l, rfl⟩
  ·exact R.row b o e2
 ·intro b l' L' i v e e2 e3
  rcases get b _ e with ⟨rfl, e4⟩ | ⟨hb, e4⟩
  ·cases e4
   rw [bU] at e2
   cases e2
   obtain ⟨v', h1, h2⟩ := hc i v e3
   exact ⟨v', h1, h2.mono ext⟩
  ·rw [aQ _ _ hb] at e2
   obtain ⟨v', h1, h2⟩ := R.cell b l' L' i v e4 e2 e3
   exact ⟨v', h1, h2.mono ext⟩
 ·intro b o L' e e2
  rcases get b _ e with ⟨rfl, e4⟩ | ⟨hb, e4⟩
  ·rw [bU] at e2
   cases e2
   exact hsp
  ·rw [aQ _ _ hb] at e2
   exact R.sp b o L' e4 e2
theorem aEd {w : World} {base n : Nat} {a : Addr} {cs : List Value} (h : w.cells? base a n = some cs) : cs.length = n ∧ ∀ j, j < n → w.cell? (a.add j) = cs[j]? := by
 unfold World.cells? at h
 split at h
 ·exact ⟨by simpa using mapM_some_length h, fun j hj => mapM_some_get h j j (by simp [hj])⟩
 ·cases h
section
variable {H : Type} {enc : TypeId × Value → H} {w : World}
theorem aPv : ∀ (rows : List (List DV)) (q : Nat) (v : DV), (∀ r ∈ rows, r.length = 6) → rows.flatten[q]? = some v → ∃ i j x, rows[i]? = some x ∧ x[j]? = some v ∧ q = i * 6 + j
 | [], q, v, _, h => by simp at h
 | r :: rows, q, v, hl, h => by
  have h6 := hl r (by simp)
  by_cases hq : q < 6
  ·rw [List.flatten_cons, List.getElem?_append_left (by omega)] at h
   exact ⟨0, q, r, rfl, h, by omega⟩
  ·rw [List.flatten_cons, List.getElem?_append_right (by omega)] at h
   obtain ⟨i, j, x, h1, h2, h3⟩ := aPv rows (q - r.length) v (fun r hr => hl r (by simp [hr])) h
   exact ⟨i + 1, j, x, by simpa using h1, h2, by omega⟩
end
end Go.Dd

namespace Go.Dd
theorem cRu : ∃ h1, aI 900 10 [] h00 = some (.b true, h1) := dUb (by kernel_rfl)
end Go.Dd

namespace Go.Dd
open Go.Proofs
def Ev (F : Nat → aF) (P : DV → Hp → Prop) : Prop := ∃ v h N, P v h ∧ ∀ n, N ≤ n → F n = some (v, h)
theorem eAs {v : DV} {h : Hp} {P : DV → Hp → Prop} (H : P v h) : Ev (fun _ => some (v, h)) P := ⟨v, h, 0, H, fun _ _ => rfl⟩
theorem Ev.mono {F : Nat → aF} {P Q : DV → Hp → Prop} (H : Ev F P) (k : ∀ v h, P v h → Q v h) : Ev F Q := by
 obtain ⟨v, h, N, a, b⟩ := H
 exact ⟨v, h, N, k v h a, b⟩
theorem Ev.op {r : aF} {v : DV} {h : Hp} {k : Nat → DV → Hp → aF} {P : DV → Hp → Prop} (e : r = some (v, h)) (H : Ev (fun n => k n v h) P) : Ev (fun n => bnd r (k n)) P := by
 rw [e]; exact H
theorem eAr {F : Nat → aF} {Q P : DV → Hp → Prop} {k : Nat → DV → Hp → aF} (H : Ev F Q) (K : ∀ v h, Q v h → Ev (fun n => k n v h) P) : Ev (fun n => bnd (F n) (k n)) P := by
 obtain ⟨v, h, N, a, b⟩ := H
 obtain ⟨v', h', N', a', b'⟩ := K v h a
 refine ⟨v', h', max N N', a', fun n hn => ?_⟩
 show Dd.bnd (F n) (k n) = _
 rw [b n (by omega)]
 exact b' n (by omega)
theorem Ev.enter {G : Nat → aF} {F : Nat → aF} {P : DV → Hp → Prop} (e : ∀ n, F (n + 1) = G n) (H : Ev G P) : Ev F P := by
 obtain ⟨v, h, N, a, b⟩ := H
 refine ⟨v, h, N + 1, a, fun n hn => ?_⟩
 obtain ⟨n, rfl⟩ : ∃ m, n = m + 1 := ⟨n - 1, by omega⟩
 rw [e]
 exact b n (by omega)
theorem eAw (j : Nat) {ll bb : Nat → Nat → aF} {P : DV → Hp → Prop} (e : ∀ n m, ll n (m + 1) = bb n m) (H : Ev (fun n => bb n (n - (j + 1))) P) : Ev (fun n => ll n (n - j)) P := by
 obtain ⟨v, h, N, a, b⟩ := H
 refine ⟨v, h, N + j + 1, a, fun n hn => ?_⟩
 have : n - j = (n - (j + 1)) + 1 := by omega
 show ll n (n - j) = _
 rw [this, e]
 exact b n (by omega)
theorem eCb {F G : Nat → aF} {P : DV → Hp → Prop} (H : Ev F P) : Ev (fun n => aV (.b true) (F n) (G n)) P := H
theorem eBk {F G : Nat → aF} {P : DV → Hp → Prop} (H : Ev G P) : Ev (fun n => aV (.b false) (F n) (G n)) P := H
theorem Ev.cnd {b : Bool} {F : Nat → aF} {P : DV → Hp → Prop} (e : b = true) (H : Ev F P) : Ev (fun n => cnd b (F n)) P := by
 subst e; exact H
section
variable {k : Nat → DV → Hp → aF} {P : DV → Hp → Prop} {h : Hp} {q : IntKind} {x y : Int} {s t : List Nat}
theorem gF (o : BinOp) (z : DV) (e : aTs o q x y = some z) : aH o (.i q x) (.i q y) h = some (z, h) := by simp [aH, e]
theorem eAv (H : x = y → Ev (fun n => k n (.b true) h) P) (H' : x ≠ y → Ev (fun n => k n (.b false) h) P) : Ev (fun n => bnd (aH .eql (.i q x) (.i q y) h) (k n)) P := by
 refine Ev.op (gF .eql (.b (x == y)) rfl) ?_
 by_cases e : x = y
 ·rw [show (x == y) = true by simpa using e]; exact H e
 ·rw [show (x == y) = false by simpa using e]; exact H' e
theorem eBi (H : x ≠ y → Ev (fun n => k n (.b true) h) P) (H' : x = y → Ev (fun n => k n (.b false) h) P) : Ev (fun n => bnd (aH .neq (.i q x) (.i q y) h) (k n)) P := by
 refine Ev.op (gF .neq (.b (x != y)) rfl) ?_
 by_cases e : x = y
 ·rw [show (x != y) = false by simpa using e]; exact H' e
 ·rw [show (x != y) = true by simpa using e]; exact H e
theorem eBa (H : x < y → Ev (fun n => k n (.b true) h) P) (H' : ¬ x < y → Ev (fun n => k n (.b false) h) P) : Ev (fun n => bnd (aH .lss (.i q x) (.i q y) h) (k n)) P := by
 refine Ev.op (gF .lss (.b (decide (x < y))) rfl) ?_
 by_cases e : x < y
 ·rw [decide_eq_true e]; exact H e
 ·rw [decide_eq_false e]; exact H' e
theorem eCh (H : x ≤ y → Ev (fun n => k n (.b true) h) P) (H' : ¬ x ≤ y → Ev (fun n => k n (.b false) h) P) : Ev (fun n => bnd (aH .leq (.i q x) (.i q y) h) (k n)) P := by
 refine Ev.op (gF .leq (.b (decide (x ≤ y))) rfl) ?_
 by_cases e : x ≤ y
 ·rw [decide_eq_true e]; exact H e
 ·rw [decide_eq_false e]; exact H' e
theorem eBj (H : y < x → Ev (fun n => k n (.b true) h) P) (H' : ¬ y < x → Ev (fun n => k n (.b false) h) P) : Ev (fun n => bnd (aH .gtr (.i q x) (.i q y) h) (k n)) P := by
 refine Ev.op (gF .gtr (.b (decide (x > y))) rfl) ?_
 by_cases e : y < x
 ·rw [decide_eq_true e]; exact H e
 ·rw [decide_eq_false e]; exact H' e
theorem eBo (H : y ≤ x → Ev (fun n => k n (.b true) h) P) (H' : ¬ y ≤ x → Ev (fun n => k n (.b false) h) P) : Ev (fun n => bnd (aH .geq (.i q x) (.i q y) h) (k n)) P := by
 refine Ev.op (gF .geq (.b (decide (x ≥ y))) rfl) ?_
 by_cases e : y ≤ x
 ·rw [decide_eq_true e]; exact H e
 ·rw [decide_eq_false e]; exact H' e
theorem eCu (H : s = t → Ev (fun n => k n (.b true) h) P) (H' : s ≠ t → Ev (fun n => k n (.b false) h) P) : Ev (fun n => bnd (cB .eql (.s s) (.s t) h) (k n)) P := by
 refine Ev.op (dHt s t h) ?_
 by_cases e : s = t
 ·rw [show xK s t = true by rw [jP]; exact e]; exact H e
 ·rw [show xK s t = false by rw [bDd]; simp [e]]; exact H' e
theorem eDd (H : s ≠ t → Ev (fun n => k n (.b true) h) P) (H' : s = t → Ev (fun n => k n (.b false) h) P) : Ev (fun n => bnd (cB .neq (.s s) (.s t) h) (k n)) P := by
 refine Ev.op (dAl s t h) ?_
 by_cases e : s = t
 ·rw [show xK s t = true by rw [jP]; exact e]; exact H' e
 ·rw [show xK s t = false by rw [bDd]; simp [e]]; exact H e
theorem eAx (H : Ev (fun n => k n (.i q (q.wrap (x + y))) h) P) : Ev (fun n => bnd (aH .add (.i q x) (.i q y) h) (k n)) P := Ev.op (gF .add _ rfl) H
theorem eBq (H : Ev (fun n => k n (.i q (q.wrap (x - y))) h) P) : Ev (fun n => bnd (aH .sub (.i q x) (.i q y) h) (k n)) P := Ev.op (gF .sub _ rfl) H
theorem eDr (H : Ev (fun n => k n (.i q (q.wrap (x * y))) h) P) : Ev (fun n => bnd (aH .mul (.i q x) (.i q y) h) (k n)) P := Ev.op (gF .mul _ rfl) H
theorem eAz (hl : s.length + t.length ≤ 9223372036854775807) (H : Ev (fun n => k n (.s (s ++ t)) h) P) : Ev (fun n => bnd (cB .add (.s s) (.s t) h) (k n)) P := by
 refine Ev.op (v := .s (s ++ t)) (h := h) ?_ H
 have e : ¬ (((s.length + t.length : Nat) : Int) > IntKind.i64.max) := by
  have : IntKind.i64.max = 9223372036854775807 := by rfl
  omega
 show (match aMi .add s t with
  | some v => some (v, h)
  | none => none) = _
 unfold aMi
 simp only [if_neg e]
end
abbrev Im := Pos → Option Ob
def ILe (I J : Im) : Prop := ∀ b o, I b = some o → J b = some o
theorem ILe.refl (I : Im) : ILe I I := fun _ _ h => h
theorem ILe.trans {I J K : Im} (a : ILe I J) (b : ILe J K) : ILe I K := fun x o h => b x o (a x o h)
abbrev Ls := List (Pos × Option Ob)
structure Sy (I : Im) (A Q L : Ls) (h : Hp) : Prop where
 wf : Wf h
 im : ∀ b o, I b = some o → h.bl.get b = some o
 loc : ∀ b o, (b, o) ∈ A ++ Q ++ L → h.bl.get b = o
 lt : ∀ b o, (b, o) ∈ A ++ Q ++ L → b.toNat < h.next.toNat
 nd : ((A ++ Q ++ L).map (·.1)).Nodup
 dj : ∀ b o, (b, o) ∈ A ++ Q ++ L → I b = none
theorem aSz {I : Im} {A Q L A' Q' L' : Ls} {h : Hp} (p : List.Perm (A ++ Q ++ L) (A' ++ Q' ++ L')) (S : Sy I A Q L h) : Sy I A' Q' L' h where
 wf := S.wf
 im := S.im
 loc := fun b o m => S.loc b o (p.mem_iff.2 m)
 lt := fun b o m => S.lt b o (p.mem_iff.2 m)
 nd := (p.map _).nodup_iff.1 S.nd
 dj := fun b o m => S.dj b o (p.mem_iff.2 m)
theorem dBm {I : Im} {A Q L A' Q' L' : Ls} {h : Hp} (p : List.Sublist (A' ++ Q' ++ L') (A ++ Q ++ L)) (S : Sy I A Q L h) : Sy I A' Q' L' h where
 wf := S.wf
 im := S.im
 loc := fun b o m => S.loc b o (p.subset m)
 lt := fun b o m => S.lt b o (p.subset m)
 nd := (p.map _).nodup S.nd
 dj := fun b o m => S.dj b o (p.subset m)
theorem Sy.dropL {I : Im} {A Q L : Ls} {e : Pos × Option Ob} {h : Hp} (S : Sy I A Q (e :: L) h) : Sy I A Q L h :=
 dBm (by rw [List.append_assoc, List.append_assoc]; exact (List.Sublist.refl _).append ((List.Sublist.refl _).append (List.sublist_cons_self _ _))) S
theorem eEe {I : Im} {A Q L : Ls} {e : Pos × Option Ob} {h : Hp} (S : Sy I A Q (e :: L) h) : Sy I A (Q ++ [e]) L h :=
 aSz (by simp) S
theorem eEf {I : Im} {A Q L : Ls} {e : Pos × Option Ob} {h : Hp} (S : Sy I A (Q ++ [e]) L h) : Sy I A Q (e :: L) h :=
 aSz (by simp) S
theorem Sy.add {I : Im} {A Q L : Ls} {h : Hp} (S : Sy I A Q L h) {h' : Hp} (o : Option Ob) (e1 : h'.next = h.next.succ) (e2 : ∀ b, h'.bl.get b = if b = h.next then o else h.bl.get b) : Sy I A Q ((h.next, o) :: L) h' := by
 have ne : ∀ b x, (b, x) ∈ A ++ Q ++ L → b ≠ h.next := fun b x m e => by
  have := S.lt b x m
  rw [e] at this
  omega
 have fresh : h.bl.get h.next = none := by
  cases e : h.bl.get h.next with
  | none => rfl
  | some o => exact absurd (S.wf _ _ e) (Nat.lt_irrefl _)
 have mem : ∀ b x, (b, x) ∈ A ++ Q ++ (h.next, o) :: L → (b = h.next ∧ x = o) ∨ (b, x) ∈ A ++ Q ++ L := fun b x m => by
  simp only [List.mem_append, List.mem_cons, bT] at m ⊢
  rcases m with (m | m) | (m | m)
  ·exact .inr (.inl (.inl m))
  ·exact .inr (.inl (.inr m))
  ·exact .inl m
  ·exact .inr (.inr m)
 have inone : I h.next = none := by
  cases e : I h.next with
  | none => rfl
  | some o => rw [S.im _ _ e] at fresh; cases fresh
 refine ⟨?_, ?_, ?_, ?_, ?_, ?_⟩
 ·intro b x e
  rw [e1, eBg]
  rw [e2] at e
  split at e
  ·rename_i hb; rw [hb]; omega
  ·have := S.wf b x e; omega
 ·intro b x e
  have hb : b ≠ h.next := fun e3 => by rw [e3, inone] at e; cases e
  rw [e2, if_neg hb]
  exact S.im b x e
 ·intro b x m
  rw [e2]
  rcases mem b x m with ⟨rfl, rfl⟩ | m
  ·rw [if_pos rfl]
  ·rw [if_neg (ne b x m)]; exact S.loc b x m
 ·intro b x m
  rw [e1, eBg]
  rcases mem b x m with ⟨rfl, rfl⟩ | m
  ·omega
  ·have := S.lt b x m; omega
 ·have p : List.Perm ((A ++ Q ++ (h.next, o) :: L).map (·.1)) (h.next :: (A ++ Q ++ L).map (·.1)) := by
   have : List.Perm (A ++ Q ++ (h.next, o) :: L) ((h.next, o) :: (A ++ Q ++ L)) := List.perm_middle
   exact this.map _
  rw [p.nodup_iff, List.nodup_cons]
  refine ⟨fun m => ?_, S.nd⟩
  obtain ⟨⟨b, x⟩, m, e⟩ := List.mem_map.1 m
  exact ne b x m e
 ·intro b x m
  rcases mem b x m with ⟨rfl, rfl⟩ | m
  ·exact inone
  ·exact S.dj b x m
theorem Sy.new {I : Im} {A Q L : Ls} {h : Hp} (S : Sy I A Q L h) (o : Ob) : Sy I A Q ((h.next, some o) :: L) (nw o h) :=
 S.add (some o) rfl (fun b => eBp o h.next b h.bl)
theorem Sy.res {I : Im} {A Q L : Ls} {h : Hp} (S : Sy I A Q L h) : Sy I A Q ((h.next, none) :: L) (fP 1 h) := by
 refine S.add none rfl (fun b => ?_)
 show h.bl.get b = _
 split
 ·rename_i hb
  rw [hb]
  cases e : h.bl.get h.next with
  | none => rfl
  | some o => exact absurd (S.wf _ _ e) (Nat.lt_irrefl _)
 ·rfl
inductive Rpl (b : Pos) (o o' : Option Ob) : Ls → Ls → Prop
 | head (L : Ls) : Rpl b o o' ((b, o) :: L) ((b, o') :: L)
 | tail (e : Pos × Option Ob) {L L' : Ls} : Rpl b o o' L L' → Rpl b o o' (e :: L) (e :: L')
theorem Rpl.keys {b : Pos} {o o' : Option Ob} {L L' : Ls} (r : Rpl b o o' L L') : L'.map (·.1) = L.map (·.1) := by
 induction r with
 | head L => rfl
 | tail e _ ih => simp [ih]
theorem Rpl.at {b : Pos} {o o' : Option Ob} {L L' : Ls} (r : Rpl b o o' L L') : (b, o) ∈ L ∧ (b, o') ∈ L' := by
 induction r with
 | head L => simp
 | tail e _ ih => simp [ih]
theorem Rpl.mem {b : Pos} {o o' : Option Ob} {L L' : Ls} (r : Rpl b o o' L L') (nd : (L.map (·.1)).Nodup) : ∀ c x, (c, x) ∈ L' → (c = b ∧ x = o') ∨ (c ≠ b ∧ (c, x) ∈ L) := by
 induction r with
 | head L =>
  intro c x m
  rcases List.mem_cons.1 m with m2 | m2
  ·cases m2; exact .inl ⟨rfl, rfl⟩
  ·refine .inr ⟨fun e => ?_, List.mem_cons_of_mem _ m2⟩
   subst e
   rw [List.map_cons, List.nodup_cons] at nd
   exact nd.1 (List.mem_map.2 ⟨_, m2, rfl⟩)
 | tail e r ih =>
  intro c x m
  rw [List.map_cons, List.nodup_cons] at nd
  rcases List.mem_cons.1 m with m | m
  ·subst m
   refine .inr ⟨fun e => ?_, by simp⟩
   subst e
   exact nd.1 (List.mem_map.2 ⟨_, r.at.1, rfl⟩)
  ·rcases ih nd.2 c x m with h | ⟨h1, h2⟩
   ·exact .inl h
   ·exact .inr ⟨h1, by simp [h2]⟩
theorem Sy.setAll {I : Im} {A Q L A' Q' L' : Ls} {h h' : Hp} {b : Pos} {o : Option Ob} {o' : Ob} (S : Sy I A Q L h) (r : Rpl b o (some o') (A ++ Q ++ L) (A' ++ Q' ++ L'))
 (e1 : h'.next = h.next) (e2 : ∀ c, h'.bl.get c = if c = b then some o' else h.bl.get c) : Sy I A' Q' L' h' := by
 have mem := r.mem S.nd
 have hb := S.lt b o r.at.1
 refine ⟨?_, ?_, ?_, ?_, ?_, ?_⟩
 ·intro c x e
  rw [e1]
  rw [e2] at e
  split at e
  ·rename_i hc; rw [hc]; exact hb
  ·exact S.wf c x e
 ·intro c x e
  have hc : c ≠ b := fun e3 => by rw [e3, S.dj b o r.at.1] at e; cases e
  rw [e2, if_neg hc]
  exact S.im c x e
 ·intro c x m
  rw [e2]
  rcases mem c x m with ⟨rfl, rfl⟩ | ⟨hc, m⟩
  ·rw [if_pos rfl]
  ·rw [if_neg hc]; exact S.loc c x m
 ·intro c x m
  rw [e1]
  rcases mem c x m with ⟨rfl, rfl⟩ | ⟨hc, m⟩
  ·exact hb
  ·exact S.lt c x m
 ·rw [r.keys]; exact S.nd
 ·intro c x m
  rcases mem c x m with ⟨rfl, rfl⟩ | ⟨hc, m⟩
  ·exact S.dj c o r.at.1
  ·exact S.dj c x m
theorem Rpl.left (A : Ls) {b : Pos} {o o' : Option Ob} {L L' : Ls} (r : Rpl b o o' L L') : Rpl b o o' (A ++ L) (A ++ L') := by
 induction A with
 | nil => exact r
 | cons e A ih => exact .tail e ih
theorem Rpl.right (A : Ls) {b : Pos} {o o' : Option Ob} {L L' : Ls} (r : Rpl b o o' L L') : Rpl b o o' (L ++ A) (L' ++ A) := by
 induction r with
 | head L => exact .head _
 | tail e _ ih => exact .tail e ih
theorem Sy.setL {I : Im} {A Q L L' : Ls} {h h' : Hp} {b : Pos} {o : Option Ob} {o' : Ob} (S : Sy I A Q L h) (r : Rpl b o (some o') L L')
 (e1 : h'.next = h.next) (e2 : ∀ c, h'.bl.get c = if c = b then some o' else h.bl.get c) : Sy I A Q L' h' := S.setAll (r.left _) e1 e2
theorem Sy.setQ {I : Im} {A Q Q' L : Ls} {h h' : Hp} {b : Pos} {o : Option Ob} {o' : Ob} (S : Sy I A Q L h) (r : Rpl b o (some o') Q Q')
 (e1 : h'.next = h.next) (e2 : ∀ c, h'.bl.get c = if c = b then some o' else h.bl.get c) : Sy I A Q' L h' := S.setAll ((r.left A).right L) e1 e2
theorem Sy.setA {I : Im} {A A' Q L : Ls} {h h' : Hp} {b : Pos} {o : Option Ob} {o' : Ob} (S : Sy I A Q L h) (r : Rpl b o (some o') A A')
 (e1 : h'.next = h.next) (e2 : ∀ c, h'.bl.get c = if c = b then some o' else h.bl.get c) : Sy I A' Q L h' := S.setAll ((r.right Q).right L) e1 e2
noncomputable def Im.put (I : Im) (b : Pos) (o : Ob) : Im := fun c => if c = b then some o else I c
theorem Sy.freeze {I : Im} {A Q L : Ls} {h : Hp} {b : Pos} {o : Ob} (S : Sy I A Q ((b, some o) :: L) h) : Sy (I.put b o) A Q L h ∧ ILe I (I.put b o) := by
 have hb : (b, some o) ∈ A ++ Q ++ (b, some o) :: L := by simp
 have S' := S.dropL
 have nb : ∀ c x, (c, x) ∈ A ++ Q ++ L → c ≠ b := by
  intro c x m e
  subst e
  have p : List.Perm ((A ++ Q ++ (c, some o) :: L).map (·.1)) (c :: (A ++ Q ++ L).map (·.1)) := (List.perm_middle (a := (c, some o)) (l₁ := A ++ Q) (l₂ := L)).map _
  have := p.nodup_iff.1 S.nd
  rw [List.nodup_cons] at this
  exact this.1 (List.mem_map.2 ⟨_, m, rfl⟩)
 refine ⟨⟨S.wf, ?_, S'.loc, S'.lt, S'.nd, ?_⟩, ?_⟩
 ·intro c x e
  unfold Im.put at e
  split at e
  ·rename_i hc; subst hc; cases e; exact S.loc _ _ hb
  ·exact S.im c x e
 ·intro c x m
  unfold Im.put
  rw [if_neg (nb c x m)]
  exact S'.dj c x m
 ·intro c x e
  have : c ≠ b := fun e2 => by rw [e2, S.dj b _ hb] at e; cases e
  unfold Im.put
  rw [if_neg this]
  exact e
theorem eCg (I : Im) (b : Pos) (o : Ob) : I.put b o b = some o := by simp [Im.put]
theorem Sy.memL {I : Im} {A Q L : Ls} {h : Hp} {b : Pos} {o : Ob} (S : Sy I A Q L h) (m : (b, some o) ∈ L) : h.bl.get b = some o := S.loc b _ (by simp [m])
theorem Sy.memQ {I : Im} {A Q L : Ls} {h : Hp} {b : Pos} {o : Ob} (S : Sy I A Q L h) (m : (b, some o) ∈ Q) : h.bl.get b = some o := S.loc b _ (by simp [m])
theorem Sy.memA {I : Im} {A Q L : Ls} {h : Hp} {b : Pos} {o : Ob} (S : Sy I A Q L h) (m : (b, some o) ∈ A) : h.bl.get b = some o := S.loc b _ (by simp [m])
section
variable {I : Im} {A Q L L' Q' : Ls} {h : Hp} {k : Nat → DV → Hp → aF} {P : DV → Hp → Prop} {b : Pos} {kd : Kind} {l l' cs : List DV} {o n : Nat} {v : DV}
theorem Ev.new (S : Sy I A Q L h) (H : ∀ b h', Sy I A Q ((b, some (.row .ex cs)) :: L) h' → Ev (fun n => k n (.p b 0) h') P) : Ev (fun n => bnd (bL cs h) (k n)) P :=
 Ev.op (dTj cs h) (H _ _ (S.new _))
theorem Ev.box (S : Sy I A Q L h) (e : cN v = some cs) (H : ∀ b h', Sy I A Q ((b, some (.row .ex cs)) :: L) h' → Ev (fun n => k n (.p b 0) h') P) : Ev (fun n => bnd (eR v h) (k n)) P := by
 have e2 : eR v h = bL cs h := by unfold eR; rw [e]
 rw [e2]
 exact Ev.new S H
theorem eDs (hg : h.bl.get b = some (.row kd l)) (e : l[o]? = some v) (hv : v.one = true) (H : Ev (fun n => k n v h) P) : Ev (fun n => bnd (aB (.p b o) h) (k n)) P := Ev.op (ld1 hg e hv) H
theorem eBc (S : Sy I A Q L h) (m : (b, some (.row kd l)) ∈ L) (e : l[o]? = some v) (hv : v.one = true) (H : Ev (fun n => k n v h) P) : Ev (fun n => bnd (aB (.p b o) h) (k n)) P := eDs (S.memL m) e hv H
theorem eEk (S : Sy I A Q L h) (m : (b, some (.row kd l)) ∈ Q) (e : l[o]? = some v) (hv : v.one = true) (H : Ev (fun n => k n v h) P) : Ev (fun n => bnd (aB (.p b o) h) (k n)) P := eDs (S.memQ m) e hv H
theorem eEl (hg : h.bl.get b = some (.row kd l)) (e : jY n (l.drop o) = some cs) (H : Ev (fun n => k n (.a cs) h) P) : Ev (fun m => bnd (aD n (.p b o) h) (k m)) P := Ev.op (ldA hg e) H
theorem aCc (h1 : l.length = n) (h2 : ∀ v ∈ l, v.one = true) : jY n (l.drop 0) = some l := by
 subst h1; simpa using aFc l h2
theorem eCd (S : Sy I A Q L h) (m : (b, some (.row kd l)) ∈ L) (h1 : l.length = n) (h2 : ∀ v ∈ l, v.one = true) (H : Ev (fun n => k n (.a l) h) P) : Ev (fun m => bnd (aD n (.p b 0) h) (k m)) P := eEl (S.memL m) (aCc h1 h2) H
theorem bJs {kw : Kind} (hk : kw.writable = true) (hg : h.bl.get b = some (.row kw l)) (h1 : l.length = n) (h2 : ∀ v ∈ l, v.one = true) (h3 : l'.length = n) (h4 : ∀ v ∈ l', v.one = true) :
 aC n (.p b 0) (.a l') h = some (dU, ⟨h.next, Tr.set (.row kw l') b h.bl⟩) := by
 have hp : lG 0 l l' = some l' := aQz l l' (by omega) h2 h4
 simp [aC, cN, h3, iP, hg, hk, hp]
theorem eEg (S : Sy I A Q L h) (r : Rpl b (some (.row .ex l)) (some (.row .ex l')) L L') (h1 : l.length = n) (h2 : ∀ v ∈ l, v.one = true) (h3 : l'.length = n) (h4 : ∀ v ∈ l', v.one = true)
 (H : ∀ h', Sy I A Q L' h' → Ev (fun n => k n dU h') P) : Ev (fun m => bnd (aC n (.p b 0) (.a l') h) (k m)) P :=
 Ev.op (bJs rfl (S.memL r.at.1) h1 h2 h3 h4) (H _ (S.setL r rfl (fun c => eBp _ _ _ _)))
theorem aEu (hv : v.one = true) : cN v = some [v] := by
 cases v <;> first | rfl | cases hv
theorem aQi : ∀ (o : Nat) (l : List DV), (∃ x, l[o]? = some x ∧ x.one = true) → v.one = true → lG o l [v] = some (l.set o v)
 | 0, [], h, _ => by obtain ⟨x, h, _⟩ := h; simp at h
 | 0, x :: l, h, hv => by
  obtain ⟨y, h1, h2⟩ := h
  simp at h1
  subst h1
  simp [lG, uN, hv, h2]
 | o + 1, [], h, _ => by obtain ⟨x, h, _⟩ := h; simp at h
 | o + 1, x :: l, h, hv => by
  have := aQi o l (by simpa using h) hv
  simp [lG, this]
theorem aEz {kw : Kind} (hk : kw.writable = true) (hg : h.bl.get b = some (.row kw l)) (h1 : ∃ x, l[o]? = some x ∧ x.one = true) (hv : v.one = true) :
 aC 1 (.p b o) v h = some (dU, ⟨h.next, Tr.set (.row kw (l.set o v)) b h.bl⟩) := by
 simp [aC, aEu hv, iP, hg, hk, aQi o l h1 hv]
theorem eEm (S : Sy I A Q L h) (r : Rpl b (some (.row .ex l)) (some (.row .ex l')) L L') (e : l.set o v = l') (h1 : ∃ x, l[o]? = some x ∧ x.one = true) (hv : v.one = true)
 (H : ∀ h', Sy I A Q L' h' → Ev (fun n => k n dU h') P) : Ev (fun m => bnd (aC 1 (.p b o) v h) (k m)) P := by
 subst e
 exact Ev.op (aEz rfl (S.memL r.at.1) h1 hv) (H _ (S.setL r rfl (fun c => eBp _ _ _ _)))
theorem eEn (S : Sy I A Q L h) (r : Rpl b (some (.row .ex l)) (some (.row .ex l')) Q Q') (e : l.set o v = l') (h1 : ∃ x, l[o]? = some x ∧ x.one = true) (hv : v.one = true)
 (H : ∀ h', Sy I A Q' L h' → Ev (fun n => k n dU h') P) : Ev (fun m => bnd (aC 1 (.p b o) v h) (k m)) P := by
 subst e
 exact Ev.op (aEz rfl (S.memQ r.at.1) h1 hv) (H _ (S.setQ r rfl (fun c => eBp _ _ _ _)))
theorem eBm (S : Sy I A Q L h) {z : List DV} {ps : List (Nat × Nat × DV)} (e : cU z ps = some cs) (H : ∀ b h', Sy I A Q ((b, some (.row .ex cs)) :: L) h' → Ev (fun m => k m (.l b 0 n n) h') P) : Ev (fun m => bnd (aN z n ps h) (k m)) P := by
 refine Ev.op (v := .l h.next 0 n n) (h := nw (.row .ex cs) h) ?_ (H _ _ (S.new _))
 unfold aN
 rw [e]
 rfl
theorem eEh (S : Sy I A Q L h) {z : List DV} {ps : List (Nat × Nat × DV)} (r : Rpl b none (some (.row .ex cs)) L L') (e : cU z ps = some cs)
 (H : ∀ h', Sy I A Q L' h' → Ev (fun m => k m (.l b 0 n n) h') P) : Ev (fun m => bnd (aW b z n ps h) (k m)) P := by
 refine Ev.op (v := .l b 0 n n) (h := ⟨h.next, Tr.set (.row .ex cs) b h.bl⟩) ?_ (H _ (S.setL r rfl (fun c => eBp _ _ _ _)))
 unfold aW
 rw [e]
theorem eEo {z : List DV} {ps : List (Nat × Nat × DV)} (e : cU z ps = some cs) (H : Ev (fun n => k n (.a cs) h) P) : Ev (fun n => bnd (bC z ps h) (k n)) P := by
 refine Ev.op (v := .a cs) (h := h) ?_ H
 unfold bC
 rw [e]
theorem bZz {S : Sy I A Q L h} (m : (b, some (.row kd l)) ∈ L) (e : l[o]? = some v) (hv : v.one = true) (hb : DV.beq v v = true) : bM (aB (.p b o) h) v = true := by
 rw [ld1 (S.memL m) e hv]; exact hb
end
end Go.Dd

namespace Go.Dd
open Go.Proofs Go.RowKit
end Go.Dd

namespace Go.Dd
open Go.Proofs
def bG : Nat := 100000000000
structure Tok where
 kind : Int
 text : List Nat
 num : Int
 pos : Int
def tc (t : Tok) : List DV := [.i .i64 t.kind, .s t.text, .i .i64 t.num, .i .i64 t.pos]
inductive Node where
 | mk (kind : Int) (text : List Nat) (num : Int) (names temps : List (List Nat)) (kids : List Node)
def Fz (I : Im) (sz : Nat) (s : DV) (len : Nat) (cells : List DV) : Prop :=
 ((s = .l0 ∨ s = .le) ∧ len = 0 ∧ cells = []) ∨
   ∃ (b : Pos) (o cap : Nat) (k : Kind) (row rest : List DV), s = .l b o len cap ∧ len ≤ cap ∧ I b = some (.row k row) ∧ row.drop o = cells ++ rest ∧ cells.length = len * sz ∧ ∀ v ∈ cells, v.one = true
theorem Fz.mono {I J : Im} (g : ILe I J) {sz : Nat} {s : DV} {len : Nat} {cells : List DV} (H : Fz I sz s len cells) : Fz J sz s len cells := by
 rcases H with H | ⟨b, o, cap, k, row, rest, h1, h2, h3, h4⟩
 ·exact .inl H
 ·exact .inr ⟨b, o, cap, k, row, rest, h1, h2, g _ _ h3, h4⟩
theorem Fz.one {I : Im} {sz : Nat} {s : DV} {len : Nat} {cells : List DV} (H : Fz I sz s len cells) : s.one = true := by
 rcases H with ⟨rfl | rfl, _⟩ | ⟨b, o, cap, k, row, rest, rfl, _⟩ <;> rfl
theorem Fz.beq {I : Im} {sz : Nat} {s : DV} {len : Nat} {cells : List DV} (H : Fz I sz s len cells) : DV.beq s s = true := by
 rcases H with ⟨rfl | rfl, _⟩ | ⟨b, o, cap, k, row, rest, rfl, _⟩
 ·rfl
 ·rfl
 ·simp [DV.beq]
theorem Fz.len {I : Im} {sz : Nat} {s : DV} {len : Nat} {cells : List DV} (H : Fz I sz s len cells) (h : Hp) : dG s h = some (.i .i64 (len : Int), h) := by
 rcases H with ⟨rfl | rfl, rfl, _⟩ | ⟨b, o, cap, k, row, rest, rfl, _⟩ <;> rfl
theorem Fz.at {I : Im} {sz : Nat} {s : DV} {len : Nat} {cells : List DV} (H : Fz I sz s len cells) {A Q L : Ls} {h : Hp} (S : Sy I A Q L h) {i : Nat} (hi : i < len) :
 ∃ b o, (∀ h', aO sz s (.i .i64 (i : Int)) h' = some (.p b o, h')) ∧ ∃ k row, h.bl.get b = some (.row k row) ∧ ∃ rest, row.drop o = cells.drop (i * sz) ++ rest := by
 rcases H with ⟨_, rfl, _⟩ | ⟨b, o, cap, k, row, rest, rfl, h2, h3, h4, h5, h6⟩
 ·omega
 ·refine ⟨b, o + i * sz, fun h' => ?_, k, row, S.im _ _ h3, rest, ?_⟩
  ·show (if 0 ≤ (i : Int) ∧ (i : Int) < (len : Int) then some (DV.p b (o + (i : Int).toNat * sz), h') else none) = _
   rw [if_pos ⟨by omega, by omega⟩]
   rfl
  ·have : i * sz ≤ cells.length := by rw [h5]; exact Nat.mul_le_mul_right _ (by omega)
   rw [← List.drop_drop, h4, List.drop_append_of_le_length this]
theorem Fz.tail {I : Im} {sz : Nat} {s : DV} {len : Nat} {cells : List DV} (H : Fz I sz s len cells) {A Q L : Ls} {h : Hp} (S : Sy I A Q L h) {i : Nat} (hi : i < len) :
 ∃ s', dB sz s (some (.i .i64 (Int.ofNat i))) none h = some (s', h) ∧ Fz I sz s' (len - i) (cells.drop (i * sz)) := by
 rcases H with ⟨_, rfl, _⟩ | ⟨b, o, cap, k, row, rest, rfl, h2, h3, h4, h5, h6⟩
 ·omega
 ·have hle : i * sz ≤ cells.length := by rw [h5]; exact Nat.mul_le_mul_right _ (by omega)
  have hd : row.drop (o + i * sz) = cells.drop (i * sz) ++ rest := by
   rw [← List.drop_drop, h4, List.drop_append_of_le_length hle]
  refine ⟨.l b (o + i * sz) (len - i) (cap - i), ?_, .inr ⟨b, o + i * sz, cap - i, k, row, rest, rfl, by omega, h3, hd, ?_, fun v hv => h6 v (List.mem_of_mem_drop hv)⟩⟩
  ·have e1 : hiD none len cap = some len := by simp [hiD, h2]
   have e2 : loD (some (.i .i64 (Int.ofNat i))) len = some i := by
    show (if 0 ≤ (Int.ofNat i) ∧ (Int.ofNat i) ≤ (len : Int) then some (Int.ofNat i).toNat else none) = _
    have hi' : (Int.ofNat i) = (i : Int) := rfl
    rw [if_pos ⟨by omega, by omega⟩]
    rfl
   have hne : ¬ cap = i := by omega
   unfold dB
   simp only [e1, e2, S.im _ _ h3]
   cases k <;> simp [hne]
  ·rw [List.length_drop, h5, Nat.sub_mul]
def Gr (I : Im) (sz : Nat) (A : Ls) (s : DV) (len : Nat) (cells : List DV) : Prop :=
 cells.length = len * sz ∧ (∀ v ∈ cells, v.one = true) ∧
  ((A = [] ∧ s = .l0 ∧ len = 0) ∨ (A = [] ∧ ∃ b, s = .l b 0 len len ∧ I b = some (.row .ex cells)) ∨ ∃ b, A = [(b, some (.row (.gr sz) cells))] ∧ s = .l b 0 len len)
theorem Gr.nil (I : Im) (sz : Nat) : Gr I sz [] .l0 0 [] := ⟨by simp, by simp, .inl ⟨rfl, rfl, rfl⟩⟩
theorem Gr.one {I : Im} {sz : Nat} {A : Ls} {s : DV} {len : Nat} {cells : List DV} (H : Gr I sz A s len cells) : s.one = true := by
 obtain ⟨_, _, ⟨_, rfl, _⟩ | ⟨_, b, rfl, _⟩ | ⟨b, _, rfl⟩⟩ := H <;> rfl
theorem Gr.beq {I : Im} {sz : Nat} {A : Ls} {s : DV} {len : Nat} {cells : List DV} (H : Gr I sz A s len cells) : DV.beq s s = true := by
 obtain ⟨_, _, ⟨_, rfl, _⟩ | ⟨_, b, rfl, _⟩ | ⟨b, _, rfl⟩⟩ := H
 ·rfl
 ·simp [DV.beq]
 ·simp [DV.beq]
theorem Gr.len {I : Im} {sz : Nat} {A : Ls} {s : DV} {len : Nat} {cells : List DV} (H : Gr I sz A s len cells) (h : Hp) : dG s h = some (.i .i64 (len : Int), h) := by
 obtain ⟨_, _, ⟨_, rfl, rfl⟩ | ⟨_, b, rfl, _⟩ | ⟨b, _, rfl⟩⟩ := H <;> rfl
theorem Gr.mono {I J : Im} (g : ILe I J) {sz : Nat} {A : Ls} {s : DV} {len : Nat} {cells : List DV} (H : Gr I sz A s len cells) : Gr J sz A s len cells := by
 obtain ⟨h1, h2, h3 | ⟨h3, b, h4, h5⟩ | h3⟩ := H
 ·exact ⟨h1, h2, .inl h3⟩
 ·exact ⟨h1, h2, .inr (.inl ⟨h3, b, h4, g _ _ h5⟩)⟩
 ·exact ⟨h1, h2, .inr (.inr h3)⟩
theorem gX (x rest : List DV) (n : Nat) (hn : x.length = n) (ho : ∀ v ∈ x, v.one = true) : jY n (x ++ rest) = some x := by
 subst hn
 induction x with
 | nil => simp [jY]
 | cons y x ih => simp [jY, ho y (by simp), ih (fun v hv => ho v (by simp [hv]))]
theorem Gr.app {I : Im} {sz bytes : Nat} {A A0 Q L : Ls} {s : DV} {len : Nat} {cells : List DV} (H : Gr I sz A s len cells) {h : Hp} (S : Sy I (A ++ A0) Q L h) {x : DV} {n : Nat} {new : List DV} (hs : pA sz x h = some (n, new))
 (h1 : new.length = n * sz) (h2 : ∀ v ∈ new, v.one = true) (hn : n ≠ 0) (hb : (len + n) * bytes ≤ fH) :
 ∃ s' h' A', aY sz bytes s x h = some (s', h') ∧ Sy I (A' ++ A0) Q L h' ∧ Gr I sz A' s' (len + n) (cells ++ new) := by
 obtain ⟨g1, g2, g3⟩ := H
 have l' : (cells ++ new).length = (len + n) * sz := by rw [List.length_append, g1, h1, Nat.add_mul]
 have o' : ∀ v ∈ cells ++ new, v.one = true := fun v hv => by
  rcases List.mem_append.1 hv with hv | hv
  ·exact g2 v hv
  ·exact h2 v hv
 have mv : ∀ {e : Pos × Option Ob} {h' : Hp}, Sy I A0 Q (e :: L) h' → Sy I ([e] ++ A0) Q L h' := @fun e h' S => aSz (by
  have : List.Perm (A0 ++ Q ++ e :: L) (e :: (A0 ++ Q ++ L)) := List.perm_middle
  simpa [aG] using this) S
 rcases g3 with ⟨rfl, rfl, rfl⟩ | ⟨rfl, b, rfl, hI⟩ | ⟨b, rfl, rfl⟩
 ·have hc : cells = [] := by simpa using g1
  subst hc
  refine ⟨.l h.next 0 n n, nw (.row (.gr sz) new) h, [(h.next, some (.row (.gr sz) new))], ?_, mv (Sy.new (by simpa using S) _), ?_⟩
  ·unfold aY
   simp only [hs, if_neg hn]
   rw [Nat.zero_add] at hb
   rw [if_pos hb]
   rfl
  ·simp only [Nat.zero_add, List.nil_append]
   exact ⟨by simpa using l', by simpa using o', .inr (.inr ⟨_, rfl, rfl⟩)⟩
 ·have hg := S.im _ _ hI
  have hc : eE b 0 (len * sz) h = some cells := by
   simp only [eE, mR, hg, List.drop_zero]
   have := gX cells [] (len * sz) g1 g2
   simpa [aG] using this
  refine ⟨.l h.next 0 (len + n) (len + n), nw (.row (.gr sz) (cells ++ new)) h, [(h.next, some (.row (.gr sz) (cells ++ new)))], ?_, mv (Sy.new (by simpa using S) _), l', o', .inr (.inr ⟨_, rfl, rfl⟩)⟩
  unfold aY
  simp only [hs]
  rw [if_neg (by omega)]
  simp only [hg, hc]
  rw [if_pos hb]
  rfl
 ·have hg := S.memA (b := b) (o := .row (.gr sz) cells) (by simp)
  have hc : eE b 0 (len * sz) h = some cells := by
   simp only [eE, mR, hg, List.drop_zero]
   have := gX cells [] (len * sz) g1 g2
   simpa [aG] using this
  let h1 : Hp := ⟨h.next, Tr.set (.row .sp (cJ 0 cells)) b h.bl⟩
  have S1 : Sy I ((b, some (.row .sp (cJ 0 cells))) :: A0) Q L h1 := S.setA (Rpl.head A0) rfl (fun c => eBp _ _ _ _)
  have S2 := S1.new (.row (.gr sz) (cells ++ new))
  have S3 : Sy I ([(h.next, some (.row (.gr sz) (cells ++ new)))] ++ A0) Q L (nw (.row (.gr sz) (cells ++ new)) h1) := by
   have S4 : Sy I A0 Q ((h1.next, some (.row (.gr sz) (cells ++ new))) :: L) (nw (.row (.gr sz) (cells ++ new)) h1) :=
    dBm (by simp) S2
   exact mv S4
  refine ⟨.l h.next 0 (len + n) (len + n), _, _, ?_, S3, l', o', .inr (.inr ⟨_, rfl, rfl⟩)⟩
  unfold aY
  simp only [hs]
  rw [if_neg (by omega)]
  simp only [hg, hc]
  rw [if_pos hb]
  have e3 : 0 + len * sz = cells.length := by rw [g1]; omega
  simp only [e3, and_self, if_true]
  rfl
theorem Gr.freeze {I : Im} {sz : Nat} {A A0 Q L : Ls} {s : DV} {len : Nat} {cells : List DV} (H : Gr I sz A s len cells) {h : Hp} (S : Sy I (A ++ A0) Q L h) : ∃ J, ILe I J ∧ Sy J A0 Q L h ∧ Fz J sz s len cells := by
 obtain ⟨g1, g2, g3⟩ := H
 rcases g3 with ⟨rfl, rfl, rfl⟩ | ⟨rfl, b, rfl, hI⟩ | ⟨b, rfl, rfl⟩
 ·have hc : cells = [] := by simpa using g1
  exact ⟨I, ILe.refl _, by simpa using S, .inl ⟨.inl rfl, rfl, hc⟩⟩
 ·exact ⟨I, ILe.refl _, by simpa using S, .inr ⟨b, 0, len, .ex, cells, [], rfl, Nat.le_refl _, hI, by simp, g1, g2⟩⟩
 ·have S1 : Sy I A0 Q ((b, some (.row (.gr sz) cells)) :: L) h := aSz (by
   have : List.Perm (A0 ++ Q ++ (b, some (Ob.row (.gr sz) cells)) :: L) ((b, some (Ob.row (.gr sz) cells)) :: (A0 ++ Q ++ L)) := List.perm_middle
   simpa [aG] using this.symm) S
  obtain ⟨S2, g⟩ := S1.freeze
  exact ⟨_, g, S2, .inr ⟨b, 0, len, .gr sz, cells, [], rfl, Nat.le_refl _, eCg _ _ _, by simp, g1, g2⟩⟩
theorem Fz.built {I : Im} {sz : Nat} {A Q L : Ls} {b : Pos} {n : Nat} {cells : List DV} {h : Hp} (S : Sy I A Q ((b, some (.row .ex cells)) :: L) h) (h1 : cells.length = n * sz) (h2 : ∀ v ∈ cells, v.one = true) :
 ∃ J, ILe I J ∧ Sy J A Q L h ∧ Fz J sz (.l b 0 n n) n cells ∧ Gr J sz [] (.l b 0 n n) n cells := by
 obtain ⟨S2, g⟩ := S.freeze
 exact ⟨_, g, S2, .inr ⟨b, 0, n, .ex, cells, [], rfl, Nat.le_refl _, eCg _ _ _, by simp, h1, h2⟩, h1, h2, .inr (.inl ⟨rfl, b, rfl, eCg _ _ _⟩)⟩
theorem Fz.src {I : Im} {sz : Nat} {s : DV} {len : Nat} {cells : List DV} (H : Fz I sz s len cells) {A Q L : Ls} {h : Hp} (S : Sy I A Q L h) : pA sz s h = some (len, cells) := by
 rcases H with ⟨rfl | rfl, rfl, rfl⟩ | ⟨b, o, cap, k, row, rest, rfl, h2, h3, h4, h5, h6⟩
 ·rfl
 ·rfl
 ·have : eE b o (len * sz) h = some cells := by
   simp only [eE, mR, S.im _ _ h3, h4]
   exact gX cells rest (len * sz) h5 h6
  simp [pA, this]
theorem nG {I : Im} {sz : Nat} {A Q L : Ls} {h : Hp} (S : Sy I A Q L h) {b : Pos} {n : Nat} {cells : List DV} (m : (b, some (.row .ex cells)) ∈ L) (h1 : cells.length = n * sz) (h2 : ∀ v ∈ cells, v.one = true) : pA sz (.l b 0 n n) h = some (n, cells) := by
 have : eE b 0 (n * sz) h = some cells := by
  simp only [eE, mR, S.memL m, List.drop_zero]
  have := gX cells [] (n * sz) h1 h2
  simpa [aG] using this
 simp [pA, this]
def SS (I : Im) (s : DV) (l : List (List Nat)) : Prop := l.length ≤ bG ∧ Fz I 1 s l.length (l.map .s)
def TS' (I : Im) (s : DV) (l : List Tok) : Prop := l.length ≤ bG ∧ Fz I 4 s l.length (l.map tc).flatten
mutual
def NV (I : Im) : Node → List DV → Prop
 | .mk k t m ns ts ks, cs => ∃ s1 s2 s3, cs = [.i .i64 k, .s t, .i .i64 m, s1, s2, s3] ∧ SS I s1 ns ∧ SS I s2 ts ∧ ks.length ≤ bG ∧ ∃ cells, Fz I 6 s3 ks.length cells ∧ NVL I ks cells
def NVL (I : Im) : List Node → List DV → Prop
 | [], cells => cells = []
 | x :: l, cells => ∃ c rest, cells = c ++ rest ∧ NV I x c ∧ NVL I l rest
end
def NS (I : Im) (s : DV) (ks : List Node) : Prop := ks.length ≤ bG ∧ ∃ cells, Fz I 6 s ks.length cells ∧ NVL I ks cells
theorem SS.mono {I J : Im} (g : ILe I J) {s : DV} {l : List (List Nat)} (H : SS I s l) : SS J s l := ⟨H.1, H.2.mono g⟩
theorem TS'.mono {I J : Im} (g : ILe I J) {s : DV} {l : List Tok} (H : TS' I s l) : TS' J s l := ⟨H.1, H.2.mono g⟩
mutual
theorem NV.mono {I J : Im} (g : ILe I J) : ∀ {x : Node} {cs : List DV}, NV I x cs → NV J x cs
 | .mk k t m ns ts ks, cs, ⟨s1, s2, s3, e, a, b, c, cells, f, n⟩ => ⟨s1, s2, s3, e, a.mono g, b.mono g, c, cells, f.mono g, NVL.mono g n⟩
theorem NVL.mono {I J : Im} (g : ILe I J) : ∀ {l : List Node} {cells : List DV}, NVL I l cells → NVL J l cells
 | [], _, e => e
 | x :: l, _, ⟨c, rest, e, a, b⟩ => ⟨c, rest, e, NV.mono g a, NVL.mono g b⟩
end
theorem NS.mono {I J : Im} (g : ILe I J) {s : DV} {l : List Node} (H : NS I s l) : NS J s l := by
 obtain ⟨a, cells, b, c⟩ := H
 exact ⟨a, cells, b.mono g, c.mono g⟩
theorem NV.shape {I : Im} {x : Node} {cs : List DV} (H : NV I x cs) : cs.length = 6 ∧ (∀ v ∈ cs, v.one = true) ∧ DV.beq (.a cs) (.a cs) = true := by
 cases x with
 | mk k t m ns ts ks =>
  obtain ⟨s1, s2, s3, rfl, a, b, c, cells, f, n⟩ := H
  have o1 := a.2.one
  have o2 := b.2.one
  have o3 := f.one
  refine ⟨rfl, ?_, ?_⟩
  ·intro v hv
   simp only [List.mem_cons, List.not_mem_nil, or_false] at hv
   rcases hv with rfl | rfl | rfl | rfl | rfl | rfl
   ·rfl
   ·rfl
   ·rfl
   ·exact o1
   ·exact o2
   ·exact o3
  ·have e : xK t t = true := by rw [jP]
   simp [DV.beq, eCf, e, a.2.beq, b.2.beq, f.beq]
theorem NVL.shape {I : Im} : ∀ {l : List Node} {cells : List DV}, NVL I l cells → cells.length = l.length * 6 ∧ ∀ v ∈ cells, v.one = true
 | [], _, e => by
  have e : _ = [] := e
  subst e; simp
 | x :: l, _, ⟨c, rest, e, a, b⟩ => by
  obtain ⟨h1, h2⟩ := NVL.shape b
  obtain ⟨h3, h4, _⟩ := a.shape
  subst e
  refine ⟨by rw [List.length_append, h1, h3, List.length_cons]; omega, fun v hv => ?_⟩
  rcases List.mem_append.1 hv with hv | hv
  ·exact h4 v hv
  ·exact h2 v hv
theorem NVL.app {I : Im} : ∀ {l l' : List Node} {c c' : List DV}, NVL I l c → NVL I l' c' → NVL I (l ++ l') (c ++ c')
 | [], l', c, c', e, H => by
  have e : c = [] := e
  subst e; simpa using H
 | x :: l, l', _, c', ⟨c, rest, e, a, b⟩, H => by
  subst e
  exact ⟨c, rest ++ c', by simp, a, NVL.app b H⟩
theorem eBf {I : Im} {x : Node} {c : List DV} (H : NV I x c) : NVL I [x] c := ⟨c, [], by simp, H, rfl⟩
theorem NVL.drop {I : Im} : ∀ {l : List Node} {c : List DV} (i : Nat), NVL I l c → NVL I (l.drop i) (c.drop (i * 6))
 | l, c, 0, H => by simpa using H
 | [], c, i + 1, e => by
  have e : c = [] := e
  subst e; simp; rfl
 | x :: l, _, i + 1, ⟨c, rest, e, a, b⟩ => by
  subst e
  have := NVL.drop i b
  rw [List.drop_succ_cons, show (i + 1) * 6 = c.length + i * 6 by rw [a.shape.1]; omega, ← List.drop_drop, List.drop_left]
  exact this
theorem aNe : ∀ (l : List Tok) (i : Nat), (l.map tc).flatten.drop (i * 4) = ((l.drop i).map tc).flatten
 | l, 0 => by simp
 | [], i + 1 => by simp
 | t :: l, i + 1 => by
  have := aNe l i
  rw [List.map_cons, List.flatten_cons, List.drop_succ_cons, show (i + 1) * 4 = (tc t).length + i * 4 by simp [tc]; omega, ← List.drop_drop, List.drop_left]
  exact this
theorem TS'.tail {I : Im} {s : DV} {l : List Tok} (H : TS' I s l) {A Q L : Ls} {h : Hp} (S : Sy I A Q L h) {i : Nat} (hi : i < l.length) :
 ∃ s', dB 4 s (some (.i .i64 (Int.ofNat i))) none h = some (s', h) ∧ TS' I s' (l.drop i) := by
 obtain ⟨s', e, f⟩ := H.2.tail S hi
 refine ⟨s', e, ?_, ?_⟩
 ·have := H.1
  simp; omega
 ·rw [aNe] at f
  simpa using f
theorem TS'.at {I : Im} {s : DV} {l : List Tok} (H : TS' I s l) {A Q L : Ls} {h : Hp} (S : Sy I A Q L h) {i : Nat} {t : Tok} (hi : l[i]? = some t) :
 ∃ b o, (∀ h', aO 4 s (.i .i64 (i : Int)) h' = some (.p b o, h')) ∧ aD 4 (.p b o) h = some (.a (tc t), h) := by
 obtain ⟨hlt, hg⟩ := List.getElem?_eq_some_iff.1 hi
 obtain ⟨b, o, e, k, row, g, rest, d⟩ := H.2.at S hlt
 refine ⟨b, o, e, ldA g ?_⟩
 rw [d, aNe, jL hi, List.map_cons, List.flatten_cons, List.append_assoc]
 refine gX (tc t) _ 4 rfl ?_
 intro v hv
 simp only [tc, List.mem_cons, List.not_mem_nil, or_false] at hv
 rcases hv with rfl | rfl | rfl | rfl <;> rfl
end Go.Dd

namespace Go.Dd
open Go.Proofs
section
variable {I : Im} {A Q L : Ls} {h : Hp} {k : Nat → DV → Hp → aF} {P : DV → Hp → Prop} {b : Pos} {o i : Nat} {v : DV}
theorem eAy (H : Ev (fun n => k n (.p b (o + i)) h) P) : Ev (fun n => bnd (aA i (.p b o) h) (k n)) P := H
theorem eEc {q : IntKind} {x : Int} (H : Ev (fun n => k n (.i q (q.wrap (0 - x))) h) P) : Ev (fun n => bnd (lS .neg (.i q x) h) (k n)) P := H
theorem eEi {cs : List DV} (e : cs[i]? = some v) (H : Ev (fun n => k n v h) P) : Ev (fun n => bnd (bY i (.a cs) h) (k n)) P := by
 refine Ev.op (v := v) (h := h) ?_ H
 simp [bY, e]
theorem eEj {cs : List DV} (e : cs[i]? = some v) (H : Ev (fun n => k n v h) P) : Ev (fun n => bnd (aP i (.t cs) h) (k n)) P := by
 refine Ev.op (v := v) (h := h) ?_ H
 simp [aP, e]
end
theorem aX : ∀ v ∈ ([] : List DV), v.one = true := fun v hv => by simp at hv
theorem aU {v : DV} {l : List DV} (h : v.one = true) (t : ∀ w ∈ l, w.one = true) : ∀ w ∈ v :: l, w.one = true := fun w hw => by
 rcases List.mem_cons.1 hw with rfl | hw
 ·exact h
 ·exact t w hw
theorem bV (t : Tok) : ∀ v ∈ tc t, v.one = true := aU rfl (aU rfl (aU rfl (aU rfl aX)))
theorem bJv {cells : List DV} {off : Nat} {v : DV} {rest : List (Nat × Nat × DV)} (hv : v.one = true) (ho : off + 1 ≤ cells.length) : cU cells ((off, 1, v) :: rest) = cU (cells.set off v) rest := by
 have e : cells.take off ++ [v] ++ cells.drop (off + 1) = cells.set off v := by
  rw [List.set_eq_take_append_cons_drop, if_pos (by omega)]
  simp
 show (match cN v with
  | some cs => if cs.length = 1 ∧ off + 1 ≤ cells.length then cU (cells.take off ++ cs ++ cells.drop (off + 1)) rest else none
  | none => none) = _
 rw [aEu hv]
 show (if [v].length = 1 ∧ off + 1 ≤ cells.length then cU (cells.take off ++ [v] ++ cells.drop (off + 1)) rest else none) = _
 rw [if_pos ⟨rfl, ho⟩, e]
section
variable {I : Im} {A Q L L' Q' : Ls} {h : Hp} {k : Nat → DV → Hp → aF} {F G : Nat → aF} {P : DV → Hp → Prop} {b : Pos} {kd : Kind} {l l' cs : List DV} {o n i : Nat} {v x y : DV}
theorem dp (S : Sy I A Q L h := by first | assumption | exact Sy.dropL (by assumption) | exact Sy.dropL (Sy.dropL (by assumption)) | exact Sy.dropL (Sy.dropL (Sy.dropL (by assumption))) | exact Sy.dropL (Sy.dropL (Sy.dropL (Sy.dropL (by assumption)))) | exact Sy.dropL (Sy.dropL (Sy.dropL (Sy.dropL (Sy.dropL (by assumption))))) | exact Sy.dropL (Sy.dropL (Sy.dropL (Sy.dropL (Sy.dropL (Sy.dropL (by assumption)))))) | exact Sy.dropL (Sy.dropL (Sy.dropL (Sy.dropL (Sy.dropL (Sy.dropL (Sy.dropL (by assumption)))))))) : Sy I A Q L h := S
theorem wf (H : Ev (fun n => k n (.p b (o + i)) h) P) : Ev (fun n => bnd (aA i (.p b o) h) (k n)) P := H
theorem wn (H : Ev (fun n => k n (.p b o) h) P) : Ev (fun n => bnd (bI (.p b o) h) (k n)) P := H
theorem wm (H : Ev (fun n => k n v h) P) : Ev (fun n => bnd (some (v, h)) (k n)) P := H
theorem wl (H : Ev (fun n => k n v h) P) (S : Sy I A Q L h := by assumption) (m : (b, some (.row kd l)) ∈ L := by repeat (first | exact bX | apply List.Mem.tail)) (e : l[o]? = some v := by rfl) (hv : v.one = true := by first | rfl | assumption | exact Fz.one (by assumption)) : Ev (fun n => bnd (aB (.p b o) h) (k n)) P := eBc S m e hv H
theorem wq (H : Ev (fun n => k n v h) P) (S : Sy I A Q L h := by assumption) (m : (b, some (.row kd l)) ∈ Q := by repeat (first | exact bX | apply List.Mem.tail)) (e : l[o]? = some v := by rfl) (hv : v.one = true := by first | rfl | assumption | exact Fz.one (by assumption)) : Ev (fun n => bnd (aB (.p b o) h) (k n)) P := eEk S m e hv H
theorem ws (H : Ev (fun n => k n (.a l) h) P) (S : Sy I A Q L h := by assumption) (m : (b, some (.row kd l)) ∈ L := by repeat (first | exact bX | apply List.Mem.tail)) (h1 : l.length = n := by first | rfl | assumption) (h2 : ∀ v ∈ l, v.one = true := by first | assumption | exact bV _ | (repeat (first | exact aX | refine aU (by first | rfl | assumption | exact Fz.one (by assumption)) ?_))) : Ev (fun m => bnd (aD n (.p b 0) h) (k m)) P := eCd S m h1 h2 H
theorem wa (H : ∀ b h', Sy I A Q ((b, some (.row .ex cs)) :: L) h' → Ev (fun n => k n (.p b 0) h') P) (S : Sy I A Q L h := by assumption) : Ev (fun n => bnd (bL cs h) (k n)) P := Ev.new S H
theorem wt (H : ∀ h', Sy I A Q L' h' → Ev (fun n => k n dU h') P) (S : Sy I A Q L h := by assumption) (r : Rpl b (some (.row .ex l)) (some (.row .ex l')) L L' := by repeat (first | exact Rpl.head _ | apply Rpl.tail)) (h1 : l.length = n := by first | rfl | assumption) (h2 : ∀ v ∈ l, v.one = true := by first | assumption | exact bV _ | (repeat (first | exact aX | refine aU (by first | rfl | assumption | exact Fz.one (by assumption)) ?_))) (h3 : l'.length = n := by first | rfl | assumption) (h4 : ∀ v ∈ l', v.one = true := by first | assumption | exact bV _ | (repeat (first | exact aX | refine aU (by first | rfl | assumption | exact Fz.one (by assumption)) ?_))) : Ev (fun m => bnd (aC n (.p b 0) (.a l') h) (k m)) P := eEg S r h1 h2 h3 h4 H
theorem wu (H : ∀ h', Sy I A Q L' h' → Ev (fun n => k n dU h') P) (S : Sy I A Q L h := by assumption) (r : Rpl b (some (.row .ex l)) (some (.row .ex l')) L L' := by repeat (first | exact Rpl.head _ | apply Rpl.tail)) (e : l.set o v = l' := by rfl) (h1 : ∃ x, l[o]? = some x ∧ x.one = true := by exact ⟨_, rfl, by first | rfl | assumption | exact Fz.one (by assumption)⟩) (hv : v.one = true := by first | rfl | assumption | exact Fz.one (by assumption)) : Ev (fun m => bnd (aC 1 (.p b o) v h) (k m)) P := eEm S r e h1 hv H
theorem wv (H : ∀ h', Sy I A Q' L h' → Ev (fun n => k n dU h') P) (S : Sy I A Q L h := by assumption) (r : Rpl b (some (.row .ex l)) (some (.row .ex l')) Q Q' := by repeat (first | exact Rpl.head _ | apply Rpl.tail)) (e : l.set o v = l' := by rfl) (h1 : ∃ x, l[o]? = some x ∧ x.one = true := by exact ⟨_, rfl, by first | rfl | assumption | exact Fz.one (by assumption)⟩) (hv : v.one = true := by first | rfl | assumption | exact Fz.one (by assumption)) : Ev (fun m => bnd (aC 1 (.p b o) v h) (k m)) P := eEn S r e h1 hv H
theorem wb (H : ∀ b h', Sy I A Q ((b, some (.row .ex cs)) :: L) h' → Ev (fun n => k n (.p b 0) h') P) (S : Sy I A Q L h := by assumption) (e : cN v = some cs := by rfl) : Ev (fun n => bnd (eR v h) (k n)) P := Ev.box S e H
theorem zt (H : Ev (fun n => bnd (F n) (k n)) P) : Ev (fun n => bnd (gD (.b true) true (F n) h) (k n)) P := H
theorem zf (H : Ev (fun n => bnd (F n) (k n)) P) : Ev (fun n => bnd (gD (.b false) false (F n) h) (k n)) P := H
theorem yf (H : Ev (fun n => k n dU h) P) : Ev (fun n => bnd (gD (.b false) true (F n) h) (k n)) P := H
theorem yg (H : Ev (fun n => k n dU h) P) : Ev (fun n => bnd (gD (.b true) false (F n) h) (k n)) P := H
theorem yu {c : Bool} (H : Ev (fun n => k n dU h) P) : Ev (fun n => bnd (gD dU c (F n) h) (k n)) P := H
theorem yt (H : Ev F P) : Ev (fun n => aV (.b true) (F n) (G n)) P := H
theorem yj (H : Ev G P) : Ev (fun n => aV (.b false) (F n) (G n)) P := H
theorem ap (H : Ev (fun n => k n x h) P) : Ev (fun n => bnd (bA (.b true) x y h) (k n)) P := H
theorem aq (H : Ev (fun n => k n y h) P) : Ev (fun n => bnd (bA (.b false) x y h) (k n)) P := H
theorem an (H : Ev (fun n => k n (.b false) h) P) : Ev (fun n => bnd (lS .not (.b true) h) (k n)) P := H
theorem ao (H : Ev (fun n => k n (.b true) h) P) : Ev (fun n => bnd (lS .not (.b false) h) (k n)) P := H
theorem wp (H : Ev (fun n => k n v h) P) (e : cs[i]? = some v := by rfl) : Ev (fun n => bnd (bY i (.a cs) h) (k n)) P := eEi e H
theorem wx (H : Ev (fun n => k n v h) P) (e : cs[i]? = some v := by rfl) : Ev (fun n => bnd (aP i (.t cs) h) (k n)) P := eEj e H
end
theorem wd {k : Nat → DV → Hp → aF} {P : DV → Hp → Prop} {h : Hp} {cs : List DV} {z : List DV} {ps : List (Nat × Nat × DV)} (H : Ev (fun n => k n (.a cs) h) P) (e : cU z ps = some cs := by first | rfl | ((repeat (rw [bJv (by first | rfl | assumption | exact Fz.one (by assumption)) (by simp)])); rfl)) : Ev (fun n => bnd (bC z ps h) (k n)) P := eEo e H
structure PSt where
 toks : List Tok
 deep : Int
 pos : Int
 err : Int
def wJ (x : Int) : Int := IntKind.i64.wrap x
def bN (st : PSt) (k : Nat) : Option Tok := st.toks[min k (st.toks.length - 1)]?
def bS (st : PSt) (t : Tok) (e : Int) : PSt := if st.err = 0 then { st with pos := t.pos, err := e } else st
def cP (st : PSt) : Option (Tok × PSt) :=
 (bN st 0).bind fun t => if t.kind = 0 then some (t, st) else if 2 ≤ st.toks.length then some (t, { st with toks := st.toks.drop 1 }) else none
def eD (st : PSt) (kind : Int) (text : List Nat) : Option Bool :=
 (bN st 0).bind fun t => some (decide (st.err = 0) && decide (t.kind = kind) && (decide (text = []) || decide (t.text = text)))
def z4 : Tok := ⟨0, [], 0, 0⟩
def eB (st : PSt) (kind : Int) (text : List Nat) : Option (Tok × PSt) :=
 (eD st kind text).bind fun c => if c then cP st else (bN st 0).bind fun t => some (z4, bS st t 13)
def qS (st : PSt) (kind : Int) (len : Nat) : Option (List Nat × PSt) :=
 (eB st kind []).bind fun r => some (r.1.text, if len = 4 then bS r.2 r.1 18 else r.2)
def bKl (st : PSt) : Option Bool :=
 (bN st 1).bind fun t => (eD st 3 [45]).bind fun c => (bN st 0).bind fun u => some (c && decide (t.kind = 4) && decide (t.pos = wJ (u.pos + 1)))
def PS (p : Pos) (s : DV) (st : PSt) : Pos × Option Ob := (p, some (.row .ex [s, .i .i64 st.deep, .i .i64 st.pos, .i .i64 st.err]))
theorem bOs {st : PSt} {k : Nat} {t : Tok} (h : bN st k = some t) : 1 ≤ st.toks.length := by
 unfold bN at h
 have := (wV h)
 omega
theorem cGy (n : Nat) (x y : DV) (h : Hp) : aI (n + 1) 81 [x, y] h = s81 (aI n) n x y h := by kernel_rfl
theorem cKl (n : Nat) (x y z : DV) (h : Hp) : aI (n + 1) 77 [x, y, z] h = s77 (aI n) n x y z h := by kernel_rfl
theorem cTx (n : Nat) (x : DV) (h : Hp) : aI (n + 1) 78 [x] h = s78 (aI n) n x h := by kernel_rfl
theorem cMv (n : Nat) (x y z : DV) (h : Hp) : aI (n + 1) 80 [x, y, z] h = s80 (aI n) n x y z h := by kernel_rfl
theorem cHl (n : Nat) (x y z : DV) (h : Hp) : aI (n + 1) 51 [x, y, z] h = s51 (aI n) n x y z h := by kernel_rfl
theorem cMb (n : Nat) (x y z : DV) (h : Hp) : aI (n + 1) 82 [x, y, z] h = s82 (aI n) n x y z h := by kernel_rfl
theorem bZo (n : Nat) (x : DV) (h : Hp) : aI (n + 1) 161 [x] h = s161 (aI n) n x h := by kernel_rfl
section
variable {I : Im} {A L : Ls} {h : Hp} {p : Pos} {s : DV} {st : PSt}
theorem iR (S : Sy I A [PS p s st] L h) (T : TS' I s st.toks) {k : Nat} {t : Tok} (hk : bN st k = some t) :
 Ev (fun n => aI n 81 [.p p 0, .i .i64 (Int.ofNat k)] h) (fun v h' => v = .a (tc t) ∧ Sy I A [PS p s st] L h') := by
 refine Ev.enter (fun n => cGy n _ _ h) ?_
 unfold s81
 have hs := T.2.one
 refine wa fun _ _ _ => ?_; refine wn (wf ?_); refine wq ?_; refine wn (wf ?_); refine wq ?_
 refine Ev.op (T.2.len _) (eBq ?_)
 have hlen := bOs hk
 have hl := T.1
 have e1 : IntKind.i64.wrap ((st.toks.length : Int) - Int.ofNat 1) = ((st.toks.length - 1 : Nat) : Int) := by
  rw [dW _ (by simp; omega) (by simp [bG] at hl ⊢; omega)]
  simp; omega
 rw [e1]
 have e2 : ∀ h, bKf (.i .i64 (Int.ofNat k)) (.i .i64 ((st.toks.length - 1 : Nat) : Int)) h = some (.i .i64 ((min k (st.toks.length - 1) : Nat) : Int), h) := fun h => by
  unfold bKf
  have : (if ((st.toks.length - 1 : Nat) : Int) < Int.ofNat k then ((st.toks.length - 1 : Nat) : Int) else Int.ofNat k) = ((min k (st.toks.length - 1) : Nat) : Int) := by
   show (if ((st.toks.length - 1 : Nat) : Int) < (k : Int) then ((st.toks.length - 1 : Nat) : Int) else (k : Int)) = _
   split <;> omega
  show some (DV.i .i64 (if ((st.toks.length - 1 : Nat) : Int) < Int.ofNat k then ((st.toks.length - 1 : Nat) : Int) else Int.ofNat k), h) = _
  rw [this]
 refine Ev.op (e2 _) ?_
 obtain ⟨b, o, a1, a2⟩ := T.at (by assumption) hk
 refine Ev.op (a1 _) (Ev.op a2 ?_)
 refine wt fun _ _ => ?_; refine ws ?_
 exact eAs ⟨rfl, Sy.dropL (by assumption)⟩
theorem eV (S : Sy I A [PS p s st] L h) (T : TS' I s st.toks) {kind : Int} {text : List Nat} {c : Bool} (hc : eD st kind text = some c) :
 Ev (fun n => aI n 77 [.p p 0, .i .i64 kind, .s text] h) (fun v h' => v = .b c ∧ Sy I A [PS p s st] L h') := by
 unfold eD at hc
 obtain ⟨t, ht, hc⟩ := aT hc
 simp only [aZ] at hc
 refine Ev.enter (fun n => cKl n _ _ _ h) ?_
 unfold s77
 refine eAr (iR S T ht) ?_
 rintro _ _ ⟨rfl, S1⟩
 refine wa fun _ _ _ => ?_; refine wt fun _ _ => ?_; refine wn (wf ?_); refine wq ?_
 refine eAv (fun e1 => ?_) (fun e1 => ?_)
 ·refine zt (wf (zt ?_)); refine wl ?_; refine zt (wm (zt ?_))
  refine eAv (fun e2 => ?_) (fun e2 => ?_)
  ·refine ap (zt (wm (zt ?_)))
   refine eCu (fun e3 => ?_) (fun e3 => ?_)
   ·refine zt (wm (yg (yg (yg (yg (zt (ap (ap ?_))))))))
    exact eAs ⟨by rw [← hc]; simp at e1; simp [e1, e2, e3], dp⟩
   ·refine zt (wm (zf (wf (zf ?_)))); refine wl ?_; refine zf (wm (zf ?_))
    refine eCu (fun e4 => ?_) (fun e4 => ?_)
    ·refine zt (aq (ap ?_))
     exact eAs ⟨by rw [← hc]; simp at e1; simp [e1, e2, e3, e4], dp⟩
    ·refine zt (aq (ap ?_))
     exact eAs ⟨by rw [← hc]; simp at e1; simp [e1, e2, e3, e4], dp⟩
  ·refine ap (yf (yf (yf (yu (yu (yu (yu (yf (aq ?_)))))))))
   exact eAs ⟨by rw [← hc]; simp at e1; simp [e1, e2], dp⟩
 ·refine yf (yf (yf (yf (aq (yf (yf (yf (yu (yu (yu (yu (yf (aq ?_)))))))))))))
  exact eAs ⟨by rw [← hc]; simp at e1; simp [e1], dp⟩
theorem lT (S : Sy I A [PS p s st] L h) (hs : s.one = true) (t : Tok) (e : Int) :
 Ev (fun n => aI n 80 [.p p 0, .a (tc t), .i .i64 e] h) (fun v h' => v = .t [] ∧ Sy I A [PS p s (bS st t e)] L h') := by
 refine Ev.enter (fun n => cMv n _ _ _ h) ?_
 unfold s80
 refine wb fun _ _ _ => ?_; refine wn (wf ?_); refine wq ?_
 refine eAv (fun e1 => ?_) (fun e1 => ?_)
 ·refine yt (wf ?_); refine wl ?_; refine wn (wf ?_); refine wv fun _ _ => ?_; refine wn (wf ?_); refine wv fun _ _ => ?_
  have : bS st t e = { st with pos := t.pos, err := e } := by simp at e1; simp [bS, e1]
  rw [this]
  exact eAs ⟨rfl, dp⟩
 ·refine yj ?_
  have : bS st t e = st := by simp at e1; simp [bS, e1]
  rw [this]
  exact eAs ⟨rfl, dp⟩
theorem cX (S : Sy I A [PS p s st] L h) (T : TS' I s st.toks) {t : Tok} {st' : PSt} (ht : cP st = some (t, st')) :
 Ev (fun n => aI n 78 [.p p 0] h) (fun v h' => v = .a (tc t) ∧ ∃ s', Sy I A [PS p s' st'] L h' ∧ TS' I s' st'.toks) := by
 unfold cP at ht
 obtain ⟨u, hu, ht⟩ := aT ht
 have hs := T.2.one
 refine Ev.enter (fun n => cTx n _ h) ?_
 unfold s78 cZh
 refine wa fun _ _ _ => ?_
 refine eAr (iR (by assumption) T hu) ?_
 rintro _ _ ⟨rfl, S1⟩
 unfold cZi
 refine wa fun _ _ _ => ?_; refine wt fun _ _ => ?_; refine wf ?_; refine wl ?_
 unfold bVf
 refine eBi (fun e1 => ?_) (fun e1 => ?_)
 ·refine yt (wn (wf ?_)); refine wq ?_
  simp only [show ¬ u.kind = 0 from e1, if_false] at ht
  split at ht
  ·rename_i h2
   simp only [aZ, bT] at ht
   obtain ⟨rfl, rfl⟩ := ht
   obtain ⟨s', e, T'⟩ := T.tail (i := 1) (by assumption) (by omega)
   have hs' := T'.2.one
   refine Ev.op e ?_
   refine wn (wf ?_); refine wv fun _ _ => ?_; refine ws ?_; refine wt fun _ _ => ?_; refine ws ?_
   exact eAs ⟨rfl, s', dp, T'⟩
  ·cases ht
 ·refine yj ?_; refine ws ?_; refine wt fun _ _ => ?_; refine ws ?_
  simp only [show u.kind = 0 from e1, if_true, aZ, bT] at ht
  obtain ⟨rfl, rfl⟩ := ht
  exact eAs ⟨rfl, s, dp, T⟩
theorem bJ (st : PSt) (t : Tok) (e : Int) : (bS st t e).toks = st.toks := by
 unfold bS; split <;> rfl
theorem iX (S : Sy I A [PS p s st] L h) (T : TS' I s st.toks) {kind : Int} {text : List Nat} {t : Tok} {st' : PSt} (ht : eB st kind text = some (t, st')) :
 Ev (fun n => aI n 51 [.p p 0, .i .i64 kind, .s text] h) (fun v h' => v = .a (tc t) ∧ ∃ s', Sy I A [PS p s' st'] L h' ∧ TS' I s' st'.toks) := by
 unfold eB at ht
 obtain ⟨c, hc, ht⟩ := aT ht
 refine Ev.enter (fun n => cHl n _ _ _ h) ?_
 unfold s51
 refine wa fun _ _ _ => ?_
 refine eAr (eV (by assumption) T hc) ?_
 rintro _ _ ⟨rfl, S1⟩
 cases c with
 | true =>
  refine an (yj ?_)
  refine eAr (cX (by assumption) T ht) ?_
  rintro _ _ ⟨rfl, s', S2, T2⟩
  refine wt fun _ _ => ?_; refine ws ?_
  exact eAs ⟨rfl, s', dp, T2⟩
 | false =>
  refine ao (yt ?_)
  obtain ⟨u, hu, ht⟩ := aT (by simpa using ht)
  simp only [aZ, bT] at ht
  obtain ⟨rfl, rfl⟩ := ht
  refine eAr (iR (k := 0) (by assumption) T hu) ?_
  rintro _ _ ⟨rfl, S2⟩
  refine eAr (lT (by assumption) T.2.one u _) ?_
  rintro _ _ ⟨rfl, S3⟩
  refine wd ?_; refine wt fun _ _ => ?_; refine ws ?_
  exact eAs ⟨rfl, s, dp, by rw [bJ]; exact T⟩
theorem aMe (S : Sy I A [PS p s st] L h) (T : TS' I s st.toks) {kind : Int} {x : DV} {len : Nat} (hl : ∀ h, dG x h = some (.i .i64 (len : Int), h)) {t : List Nat} {st' : PSt} (ht : qS st kind len = some (t, st')) :
 Ev (fun n => aI n 82 [.p p 0, .i .i64 kind, x] h) (fun v h' => v = .s t ∧ ∃ s', Sy I A [PS p s' st'] L h' ∧ TS' I s' st'.toks) := by
 unfold qS at ht
 obtain ⟨⟨u, st1⟩, hu, ht⟩ := aT ht
 simp only [aZ, bT] at ht
 obtain ⟨rfl, rfl⟩ := ht
 refine Ev.enter (fun n => cMb n _ _ _ h) ?_
 unfold s82 cYk
 refine eAr (iX S T hu) ?_
 rintro _ _ ⟨rfl, s', S1, T1⟩
 unfold cYc
 refine wa fun _ _ _ => ?_; refine wt fun _ _ => ?_
 refine Ev.op (hl _) ?_
 unfold bTi
 refine eAv (fun e1 => ?_) (fun e1 => ?_)
 ·refine yt ?_; refine ws ?_
  have e2 : len = 4 := by simp at e1; omega
  rw [if_pos e2]
  refine eAr (lT (by assumption) T1.2.one u _) ?_
  rintro _ _ ⟨rfl, S3⟩
  refine wf ?_; refine wl ?_
  exact eAs ⟨rfl, s', dp, by rw [bJ]; exact T1⟩
 ·refine yj (wf ?_); refine wl ?_
  have e2 : ¬ len = 4 := by simp at e1; omega
  rw [if_neg e2]
  exact eAs ⟨rfl, s', dp, T1⟩
theorem dBl (S : Sy I A [PS p s st] L h) (T : TS' I s st.toks) {c : Bool} (hc : bKl st = some c) :
 Ev (fun n => aI n 161 [.p p 0] h) (fun v h' => v = .b c ∧ Sy I A [PS p s st] L h') := by
 unfold bKl at hc
 obtain ⟨t, ht, hc⟩ := aT hc
 obtain ⟨d, hd, hc⟩ := aT hc
 obtain ⟨u, hu, hc⟩ := aT hc
 simp only [aZ] at hc
 refine Ev.enter (fun n => bZo n _ h) ?_
 unfold s161
 refine eAr (iR (k := 1) S T ht) ?_
 rintro _ _ ⟨rfl, S1⟩
 refine wa fun _ _ _ => ?_; refine wt fun _ _ => ?_
 refine eAr (eV (by assumption) T hd) ?_
 rintro _ _ ⟨rfl, S2⟩
 cases d with
 | false =>
  refine yf (yf (yf (aq (yf (yf (yf (yf ?_)))))))
  refine Ev.cnd rfl ?_
  refine yf (yf (yf (aq ?_)))
  exact eAs ⟨by rw [← hc]; rfl, dp⟩
 | true =>
  refine zt (wf (zt ?_)); refine wl ?_; refine zt ?_
  refine eAv (fun e1 => ?_) (fun e1 => ?_)
  ·refine ap (zt (wf (zt ?_))); refine wl ?_; refine zt (wm (zt ?_))
   refine eAr (iR (k := 0) (by assumption) T hu) ?_
   rintro _ _ ⟨rfl, S3⟩
   refine Ev.cnd ?_ ?_
   ·rw [Bool.and_true]
    exact bZz (S := S3) (bX) rfl rfl (by simp [DV.beq])
   refine zt ?_; refine wp ?_; refine zt ?_
   refine eAx ?_
   refine zt ?_
   refine eAv (fun e2 => ?_) (fun e2 => ?_)
   ·refine ap ?_
    exact eAs ⟨by rw [← hc, decide_eq_true (show t.kind = 4 from e1), decide_eq_true (show t.pos = wJ (u.pos + 1) from e2)]; rfl, dp⟩
   ·refine ap ?_
    exact eAs ⟨by rw [← hc, decide_eq_true (show t.kind = 4 from e1), decide_eq_false (show ¬ t.pos = wJ (u.pos + 1) from e2)]; rfl, dp⟩
  ·refine ap (yf (yf (yf (yf ?_))))
   refine Ev.cnd rfl ?_
   refine yf (yf (yf (aq ?_)))
   exact eAs ⟨by rw [← hc, decide_eq_false (show ¬ t.kind = 4 from e1)]; rfl, dp⟩
end
end Go.Dd

namespace Go.Dd
open Go.Proofs
theorem fV {c : List DV} (h : c.length = 6) : cU [(.i .i64 (Int.ofNat 0)), (.s []), (.i .i64 (Int.ofNat 0)), .l0, .l0, .l0] [(0, 6, .a c)] = some c := by
 simp [cU, cN, h]
theorem aLt {c d : List DV} (h : c.length = 6) (h' : d.length = 6) : cU [(.i .i64 (Int.ofNat 0)), (.s []), (.i .i64 (Int.ofNat 0)), .l0, .l0, .l0, (.i .i64 (Int.ofNat 0)), (.s []), (.i .i64 (Int.ofNat 0)), .l0, .l0, .l0] [(0, 6, .a c), (6, 6, .a d)] = some (c ++ d) := by
 have e : List.take 6 (c ++ [(.i .i64 (Int.ofNat 0)), (.s []), (.i .i64 (Int.ofNat 0)), .l0, .l0, .l0]) = c := by rw [← h, List.take_left]
 have e2 : List.drop 12 (c ++ [(DV.i .i64 (Int.ofNat 0)), (.s []), (.i .i64 (Int.ofNat 0)), .l0, .l0, .l0]) = [] := by simp [h]
 simp [cU, cN, h, h']
section
variable {I : Im} {A Q L L' : Ls} {h : Hp} {k : Nat → DV → Hp → aF} {P : DV → Hp → Prop} {b : Pos} {cs : List DV} {n : Nat} {kd : Kind} {l : List DV}
theorem eBl (S : Sy I A Q L h) {z : List DV} {ps : List (Nat × Nat × DV)} (r : Rpl b none (some (.row .ex cs)) L L') (e : cU z ps = some cs)
 (H : ∀ h', Sy I A Q L' h' → Ev (fun m => k m (.l b 0 n n) h') P) : Ev (fun m => bnd (aW (cS 0 b) z n ps h) (k m)) P := eEh S r e H
theorem aEq (S : Sy I A Q L h) (m : (b, some (.row kd l)) ∈ L) (h1 : l.length = n) (h2 : ∀ v ∈ l, v.one = true) (hb : DV.beq (.a l) (.a l) = true) : bM (aD n (.p b 0) h) (.a l) = true := by
 rw [ldA (S.memL m) (aCc h1 h2)]; exact hb
end
def zN : Node := .mk 0 [] 0 [] [] []
def cV (t : List Nat) (ks : List Node) : Node := .mk 7 t 0 [] [] ks
def Node.kids : Node → List Node | .mk _ _ _ _ _ ks => ks
def Node.text : Node → List Nat | .mk _ t _ _ _ _ => t
def Node.kind : Node → Int | .mk k _ _ _ _ _ => k
def mC (st : PSt) : Option ((Node × Bool) × PSt) :=
 (bN st 0).bind fun t =>
  if st.err = 0 then (bKl st).bind fun c =>
   if c then (cP st).bind fun r => (cP r.2).bind fun q => some ((.mk 1 [] (wJ (0 - q.1.num)) [] [] [], true), q.2)
   else if t.kind = 4 then (cP st).bind fun r => some ((.mk 1 t.text t.num [] [] [], true), r.2)
   else if t.kind = 5 then (cP st).bind fun r => some ((.mk 2 t.text t.num [] [] [], true), r.2)
   else if t.kind = 6 then (cP st).bind fun r => some ((.mk 3 t.text t.num [] [] [], true), r.2)
   else some ((.mk 0 t.text t.num [] [] [], false), st)
  else some ((.mk 0 t.text t.num [] [] [], false), st)
def gI (f : PSt → Option (Node × PSt)) (st : PSt) : Option (Node × PSt) :=
 (cP st).bind fun r => if r.2.deep = 20 then some (zN, bS r.2 r.1 14)
  else (f { r.2 with deep := wJ (r.2.deep + 1) }).bind fun q => some (q.1, { q.2 with deep := wJ (q.2.deep - 1) })
def iT : Nat → Node → PSt → Option (Node × PSt)
 | 0, _, _ => none
 | f + 1, x, st => (eD st 1 []).bind fun c => if c then (cP st).bind fun r => iT f (cV r.1.text [x]) r.2 else some (x, st)
def oV : Nat → List (List Nat) → PSt → Option (List (List Nat) × PSt)
 | 0, _, _ => none
 | f + 1, l, st => (eD st 1 []).bind fun c => if c then (cP st).bind fun r => oV f (l ++ [r.1.text]) r.2 else (eB st 10 [124]).bind fun r => some (l, r.2)
def lM (f : Nat) (st : PSt) : Option (List (List Nat) × PSt) :=
 (eD st 10 [124]).bind fun c => if c then (cP st).bind fun r => oV f [] r.2 else some ([], st)
def NPost (I : Im) (A L : Ls) (p : Pos) (x : Node) (st : PSt) (v : DV) (h : Hp) : Prop := ∃ J s cs, v = .a cs ∧ ILe I J ∧ Sy J A [PS p s st] L h ∧ TS' J s st.toks ∧ NV J x cs
theorem NPost.le {I J : Im} {A L : Ls} {p : Pos} {x : Node} {st : PSt} (g : ILe I J) : ∀ v h, NPost J A L p x st v h → NPost I A L p x st v h := by
 rintro v h ⟨K, s, cs, e, g', r⟩
 exact ⟨K, s, cs, e, g.trans g', r⟩
def uE (g : FuncId) (f : PSt → Option (Node × PSt)) : Prop := ∀ (I : Im) (A L : Ls) (h : Hp) (p : Pos) (s : DV) (st : PSt) (x : Node) (st' : PSt), Sy I A [PS p s st] L h → TS' I s st.toks → f st = some (x, st') →
 Ev (fun n => aI n g [.p p 0] h) (NPost I A L p x st')
def dKh (g : FuncId) (f : Node → PSt → Option (Node × PSt)) : Prop := ∀ (I : Im) (A L : Ls) (h : Hp) (p : Pos) (s : DV) (st : PSt) (x y : Node) (cs : List DV) (st' : PSt), Sy I A [PS p s st] L h → TS' I s st.toks → NV I x cs → f x st = some (y, st') →
 Ev (fun n => aI n g [.p p 0, .a cs] h) (NPost I A L p y st')
theorem NS.nil (I : Im) : NS I .l0 [] := ⟨by simp, [], .inl ⟨.inl rfl, rfl, rfl⟩, rfl⟩
theorem SS.nil (I : Im) : SS I .l0 [] := ⟨by simp, .inl ⟨.inl rfl, rfl, rfl⟩⟩
theorem NV.of {I : Im} {k : Int} {t : List Nat} {m : Int} {s1 s2 s3 : DV} {ns ts : List (List Nat)} {ks : List Node} (h1 : SS I s1 ns) (h2 : SS I s2 ts) (h3 : NS I s3 ks) : NV I (.mk k t m ns ts ks) [.i .i64 k, .s t, .i .i64 m, s1, s2, s3] :=
 ⟨s1, s2, s3, rfl, h1, h2, h3.1, h3.2⟩
theorem NV.flat {I : Im} (k : Int) (t : List Nat) (m : Int) : NV I (.mk k t m [] [] []) [.i .i64 k, .s t, .i .i64 m, .l0, .l0, .l0] := NV.of (SS.nil I) (SS.nil I) (NS.nil I)
theorem NS.one {I : Im} {s : DV} {ks : List Node} (H : NS I s ks) : s.one = true := by
 obtain ⟨_, c, f, _⟩ := H; exact f.one
theorem NS.len {I : Im} {s : DV} {ks : List Node} (H : NS I s ks) (h : Hp) : dG s h = some (.i .i64 (ks.length : Int), h) := by
 obtain ⟨_, c, f, _⟩ := H; exact f.len h
theorem aRn (n : Nat) (x y : DV) (h : Hp) : aI (n + 1) 149 [x, y] h = s149 (aI n) n x y h := by kernel_rfl
theorem cBs (n : Nat) (x : DV) (h : Hp) : aI (n + 1) 138 [x] h = s138 (aI n) n x h := by kernel_rfl
theorem bZk (n : Nat) (x : DV) (h : Hp) : aI (n + 1) 155 [x] h = s155 (aI n) n x h := by kernel_rfl
theorem cAo (n : Nat) (x : DV) (h : Hp) : aI (n + 1) 150 [x] h = s150 (aI n) n x h := by kernel_rfl
theorem cDc (n : Nat) (x y : DV) (h : Hp) : aI (n + 1) 151 [x, y] h = s151 (aI n) n x y h := by kernel_rfl
theorem bZx (n : Nat) (x y : DV) (h : Hp) : aI (n + 1) 136 [x, y] h = s136 (aI n) n x y h := by kernel_rfl
theorem cHn (n : Nat) (x : DV) (h : Hp) : aI (n + 1) 49 [x] h = s49 (aI n) n x h := by kernel_rfl
theorem xS {I : Im} {A Q L : Ls} {h : Hp} (S : Sy I A Q L h) {t : List Nat} {x : DV} {ks : List Node} (N : NS I x ks) :
 Ev (fun n => aI n 149 [.s t, x] h) (fun v h' => ∃ cs, v = .a cs ∧ NV I (cV t ks) cs ∧ Sy I A Q L h') := by
 have hx := N.one
 refine Ev.enter (fun n => aRn n _ _ h) ?_
 unfold s149
 refine wa fun _ _ _ => ?_; refine wd ?_; refine wt fun _ _ => ?_; refine ws ?_
 exact eAs ⟨_, rfl, NV.of (SS.nil I) (SS.nil I) N, dp⟩
section
variable {I : Im} {A L : Ls} {h : Hp} {p : Pos} {s : DV} {st : PSt}
theorem aSk (S : Sy I A [PS p s st] L h) (T : TS' I s st.toks) {x : Node} {c : Bool} {st' : PSt} (hm : mC st = some ((x, c), st')) :
 Ev (fun n => aI n 150 [.p p 0] h) (fun v h' => ∃ s' cs, v = .t [.a cs, .b c] ∧ Sy I A [PS p s' st'] L h' ∧ TS' I s' st'.toks ∧ NV I x cs) := by
 unfold mC at hm
 obtain ⟨t, ht, hm⟩ := aT hm
 refine Ev.enter (fun n => cAo n _ h) ?_
 unfold s150 bZn
 refine wa fun _ _ _ => ?_
 refine eAr (iR (k := 0) (by assumption) T ht) ?_
 rintro _ _ ⟨rfl, S1⟩
 unfold bMz bMs aGo
 refine wa fun _ _ _ => ?_; refine wt fun _ _ => ?_; refine wf ?_; refine wl ?_; refine wf ?_; refine wl ?_; refine wd ?_; refine wa fun _ _ _ => ?_; refine wt fun _ _ => ?_; refine wn (wf ?_); refine wq ?_
 refine eBi (fun e1 => ?_) (fun e1 => ?_)
 ·refine yt ?_; refine ws ?_; refine wt fun _ _ => ?_; refine ws ?_
  rw [if_neg (show ¬ st.err = 0 from e1)] at hm
  simp only [aZ, bT] at hm
  obtain ⟨⟨rfl, rfl⟩, rfl⟩ := hm
  exact eAs ⟨s, _, rfl, dp, T, NV.flat _ _ _⟩
 ·refine yj ?_
  rw [if_pos (show st.err = 0 from e1)] at hm
  obtain ⟨d, hd, hm⟩ := aT hm
  refine eAr (dBl (by assumption) T hd) ?_
  rintro _ _ ⟨rfl, S2⟩
  cases d with
  | true =>
   refine yt ?_
   rw [if_pos rfl] at hm
   obtain ⟨⟨t1, st1⟩, ht1, hm⟩ := aT hm
   obtain ⟨⟨t2, st2⟩, ht2, hm⟩ := aT hm
   simp only [aZ, bT] at hm
   obtain ⟨⟨rfl, rfl⟩, rfl⟩ := hm
   refine eAr (cX (by assumption) T ht1) ?_
   rintro _ _ ⟨rfl, s3, S3, T3⟩
   refine eAr (cX (by assumption) T3 ht2) ?_
   rintro _ _ ⟨rfl, s4, S4, T4⟩
   refine wp ?_
   refine eEc ?_
   refine wd ?_; refine wt fun _ _ => ?_; refine ws ?_
   exact eAs ⟨s4, _, rfl, dp, T4, NV.flat _ _ _⟩
  | false =>
   refine yj (wf ?_); refine wl ?_
   rw [if_neg (by simp)] at hm
   refine eAv (fun e2 => ?_) (fun e2 => ?_)
   ·refine yt (wf ?_); refine wu fun _ _ => ?_
    rw [if_pos (show t.kind = 4 from e2)] at hm
    obtain ⟨⟨t1, st1⟩, ht1, hm⟩ := aT hm
    simp only [aZ, bT] at hm
    obtain ⟨⟨rfl, rfl⟩, rfl⟩ := hm
    refine eAr (cX (by assumption) T ht1) ?_
    rintro _ _ ⟨rfl, s3, S3, T3⟩
    refine ws ?_; refine wt fun _ _ => ?_; refine ws ?_
    exact eAs ⟨s3, _, rfl, dp, T3, NV.flat _ _ _⟩
   ·refine yj (wf ?_); refine wl ?_
    rw [if_neg (show ¬ t.kind = 4 from e2)] at hm
    refine eAv (fun e3 => ?_) (fun e3 => ?_)
    ·refine yt (wf ?_); refine wu fun _ _ => ?_
     rw [if_pos (show t.kind = 5 from e3)] at hm
     obtain ⟨⟨t1, st1⟩, ht1, hm⟩ := aT hm
     simp only [aZ, bT] at hm
     obtain ⟨⟨rfl, rfl⟩, rfl⟩ := hm
     refine eAr (cX (by assumption) T ht1) ?_
     rintro _ _ ⟨rfl, s3, S3, T3⟩
     refine ws ?_; refine wt fun _ _ => ?_; refine ws ?_
     exact eAs ⟨s3, _, rfl, dp, T3, NV.flat _ _ _⟩
    ·refine yj (wf ?_); refine wl ?_
     rw [if_neg (show ¬ t.kind = 5 from e3)] at hm
     refine eAv (fun e4 => ?_) (fun e4 => ?_)
     ·refine yt (wf ?_); refine wu fun _ _ => ?_
      rw [if_pos (show t.kind = 6 from e4)] at hm
      obtain ⟨⟨t1, st1⟩, ht1, hm⟩ := aT hm
      simp only [aZ, bT] at hm
      obtain ⟨⟨rfl, rfl⟩, rfl⟩ := hm
      refine eAr (cX (by assumption) T ht1) ?_
      rintro _ _ ⟨rfl, s3, S3, T3⟩
      refine ws ?_; refine wt fun _ _ => ?_; refine ws ?_
      exact eAs ⟨s3, _, rfl, dp, T3, NV.flat _ _ _⟩
     ·refine yj ?_; refine ws ?_; refine wt fun _ _ => ?_; refine ws ?_
      rw [if_neg (show ¬ t.kind = 6 from e4)] at hm
      simp only [aZ, bT] at hm
      obtain ⟨⟨rfl, rfl⟩, rfl⟩ := hm
      exact eAs ⟨s, _, rfl, dp, T, NV.flat _ _ _⟩
theorem qK {g : FuncId} {f : PSt → Option (Node × PSt)} (hg : ∀ (rec : FuncId → List DV → Hp → aF) (x : DV) (h : Hp), eA CF rec (.f g [x] []) [] h = rec g [x] h) (F : uE g f) (S : Sy I A [PS p s st] L h) (T : TS' I s st.toks) {x : Node} {st' : PSt} (hm : gI f st = some (x, st')) :
 Ev (fun n => aI n 151 [.p p 0, .f g [.p p 0] []] h) (NPost I A L p x st') := by
 unfold gI at hm
 obtain ⟨⟨t, st1⟩, ht, hm⟩ := aT hm
 refine Ev.enter (fun n => cDc n _ _ h) ?_
 unfold s151
 simp only [hg]
 refine wa fun _ _ _ => ?_
 refine eAr (cX (by assumption) T ht) ?_
 rintro _ _ ⟨rfl, s1, S1, T1⟩
 have hs1 := T1.2.one
 refine wa fun _ _ _ => ?_; refine wt fun _ _ => ?_; refine wn (wf ?_); refine wq ?_
 refine eAv (fun e1 => ?_) (fun e1 => ?_)
 ·refine yt ?_; refine ws ?_
  rw [if_pos (show st1.deep = 20 from e1)] at hm
  simp only [aZ, bT] at hm
  obtain ⟨rfl, rfl⟩ := hm
  refine eAr (lT (by assumption) T1.2.one t _) ?_
  rintro _ _ ⟨rfl, S3⟩
  refine wd ?_; refine wt fun _ _ => ?_; refine ws ?_
  exact eAs ⟨I, s1, _, rfl, ILe.refl _, dp, by rw [bJ]; exact T1, NV.flat _ _ _⟩
 ·refine yj (wn (wf ?_)); refine wq ?_
  rw [if_neg (show ¬ st1.deep = 20 from e1)] at hm
  obtain ⟨⟨y, st2⟩, hy, hm⟩ := aT hm
  simp only [aZ, bT] at hm
  obtain ⟨rfl, rfl⟩ := hm
  refine eAx ?_
  refine wn (wf ?_); refine wv fun _ _ => ?_
  refine eAr (F I A _ _ p s1 { st1 with deep := wJ (st1.deep + 1) } _ _ (by assumption) T1 hy) ?_
  rintro _ _ ⟨J, s2, cs, rfl, g2, S2, T2, N2⟩
  obtain ⟨l2, o2, b2⟩ := N2.shape
  have hs2 := T2.2.one
  refine wa fun _ _ _ => ?_; refine wt fun _ _ => ?_; refine wn (wf ?_); refine wq ?_
  refine eBq ?_
  refine wn (wf ?_); refine wv fun _ _ => ?_; refine ws ?_; refine wt fun _ _ => ?_; refine ws ?_
  exact eAs ⟨J, s2, cs, rfl, g2, dp, T2, N2⟩
theorem yT : ∀ (f j : Nat) (I : Im) (A L : Ls) (h : Hp) (p : Pos) (s : DV) (st : PSt) (x y : Node) (cs z : List DV) (st' : PSt) (b3 b4 : Pos), Sy I A [PS p s st] ((b4, some (.row .ex z)) :: (b3, some (.row .ex cs)) :: L) h →
 z.length = 6 → (∀ v ∈ z, v.one = true) → TS' I s st.toks → NV I x cs → iT f x st = some (y, st') → Ev (fun n => nN (aI n) n (n - j) (.p p 0) (.p b3 0) (.p b4 0) h) (NPost I A L p y st')
 | 0, j, I, A, L, h, p, s, st, x, y, cs, z, st', b3, b4, S, z1, z2, T, N, hm => by cases hm
 | f + 1, j, I, A, L, h, p, s, st, x, y, cs, z, st', b3, b4, S, z1, z2, T, N, hm => by
  unfold iT at hm
  obtain ⟨c, hc, hm⟩ := aT hm
  refine eAw j (ll := fun n m => nN (aI n) n m (.p p 0) (.p b3 0) (.p b4 0) h) (bb := fun n m => xA (aI n) n (nN (aI n) n m) (.p p 0) (.p b3 0) (.p b4 0) h) (fun _ _ => rfl) ?_
  unfold xA fM
  obtain ⟨l1, o1, b1⟩ := N.shape
  refine eAr (eV S T hc) ?_
  rintro _ _ ⟨rfl, S1⟩
  cases c with
  | false =>
   refine yj ?_; refine ws ?_; refine wt fun _ _ => ?_; refine ws ?_
   rw [if_neg (by simp)] at hm
   simp only [aZ, bT] at hm
   obtain ⟨rfl, rfl⟩ := hm
   exact eAs ⟨I, s, cs, rfl, ILe.refl _, dp, T, N⟩
  | true =>
   refine yt ?_
   rw [if_pos rfl] at hm
   obtain ⟨⟨t, st1⟩, ht, hm⟩ := aT hm
   have Sr := S1.res
   refine eAr (cX Sr T ht) ?_
   rintro _ _ ⟨rfl, s2, S2, T2⟩
   refine wp ?_; refine ws ?_
   refine Ev.cnd ?_ ?_
   ·rw [Bool.and_true]; exact aEq Sr (by repeat (first | exact bX | apply List.Mem.tail)) l1 o1 b1
   refine eBl S2 (by repeat (first | exact Rpl.head _ | apply Rpl.tail)) (fV l1) ?_
   intro h3 S3
   obtain ⟨J, gJ, S4, F4, _⟩ := Fz.built (sz := 6) (n := 1) S3 (by omega) o1
   have N4 : NS J _ [x] := ⟨by simp [bG], cs, F4, eBf (N.mono gJ)⟩
   refine eAr (xS S4 N4) ?_
   rintro _ _ ⟨cs5, rfl, N5, S5⟩
   obtain ⟨l5, o5, b5⟩ := N5.shape
   refine wt fun _ _ => ?_
   exact (yT f (j + 1) J A L _ p s2 st1 _ y cs5 z st' b3 b4 (by assumption) z1 z2 (T2.mono gJ) N5 hm).mono (NPost.le gJ)
theorem uB (f : Nat) : dKh 136 (iT f) := by
 intro I A L h p s st x y cs st' S T N hm
 refine Ev.enter (fun n => bZx n _ _ h) ?_
 unfold s136 aJk aUk
 refine wb fun _ _ _ => ?_; refine wa fun _ _ _ => ?_
 exact yT f 0 _ _ _ _ _ _ _ _ _ _ _ _ _ _ (by assumption) rfl (by first | assumption | exact bV _ | (repeat (first | exact aX | refine aU (by first | rfl | assumption | exact Fz.one (by assumption)) ?_))) T N hm
theorem aBu : ∀ (f j : Nat) (I : Im) (B A L : Ls) (h : Hp) (p : Pos) (s x : DV) (st : PSt) (l l' : List (List Nat)) (st' : PSt), Sy I (B ++ A) [PS p s st] L h → Gr I 1 B x l.length (l.map .s) → l.length + f ≤ bG →
 TS' I s st.toks → oV f l st = some (l', st') →
 Ev (fun n => sO (aI n) n (n - j) (.p p 0) x h) (fun v h' => ∃ J s', ILe I J ∧ Sy J A [PS p s' st'] L h' ∧ TS' J s' st'.toks ∧ SS J v l')
 | 0, j, I, B, A, L, h, p, s, x, st, l, l', st', S, G, hl, T, hm => by cases hm
 | f + 1, j, I, B, A, L, h, p, s, x, st, l, l', st', S, G, hl, T, hm => by
  unfold oV at hm
  obtain ⟨c, hc, hm⟩ := aT hm
  refine eAw j (ll := fun n m => sO (aI n) n m (.p p 0) x h) (bb := fun n m => aKe (aI n) n (sO (aI n) n m) (.p p 0) x h) (fun _ _ => rfl) ?_
  unfold aKe jH
  refine eAr (eV S T hc) ?_
  rintro _ _ ⟨rfl, S1⟩
  cases c with
  | false =>
   refine yj ?_
   rw [if_neg (by simp)] at hm
   obtain ⟨⟨t, st1⟩, ht, hm⟩ := aT hm
   simp only [aZ, bT] at hm
   obtain ⟨rfl, rfl⟩ := hm
   refine eAr (iX S1 T ht) ?_
   rintro _ _ ⟨rfl, s2, S2, T2⟩
   obtain ⟨J, gJ, S3, F3⟩ := G.freeze S2
   exact eAs ⟨J, s2, gJ, S3, T2.mono gJ, by omega, F3⟩
  | true =>
   refine yt ?_
   rw [if_pos rfl] at hm
   obtain ⟨⟨t, st1⟩, ht, hm⟩ := aT hm
   refine eAr (cX S1 T ht) ?_
   rintro _ _ ⟨rfl, s2, S2, T2⟩
   refine wp ?_
   refine eBm S2 (cs := [.s t.text]) rfl ?_
   intro b3 h3 S3
   have hr : (l.length + 1) * 16 ≤ fH := by simp [fH, bG] at hl ⊢; omega
   obtain ⟨x4, h4, B4, e4, S4, G4⟩ := G.app S3 (nG S3 (n := 1) (bX) rfl (aU rfl aX)) rfl (aU rfl aX) (by omega) hr
   refine Ev.op e4 ?_
   refine aBu f (j + 1) I B4 A L h4 p s2 x4 st1 (l ++ [t.text]) l' st' (dp) ?_ (by simp; omega) T2 hm
   simpa using G4
theorem aPi (f : Nat) (hf : f ≤ bG) (S : Sy I A [PS p s st] L h) (T : TS' I s st.toks) {l' : List (List Nat)} {st' : PSt} (hm : lM f st = some (l', st')) :
 Ev (fun n => aI n 49 [.p p 0] h) (fun v h' => ∃ J s', ILe I J ∧ Sy J A [PS p s' st'] L h' ∧ TS' J s' st'.toks ∧ SS J v l') := by
 unfold lM at hm
 obtain ⟨c, hc, hm⟩ := aT hm
 refine Ev.enter (fun n => cHn n _ h) ?_
 unfold s49 bHb bEp
 refine eAr (eV S T hc) ?_
 rintro _ _ ⟨rfl, S1⟩
 cases c with
 | false =>
  refine ao (yt ?_)
  rw [if_neg (by simp)] at hm
  simp only [aZ, bT] at hm
  obtain ⟨rfl, rfl⟩ := hm
  exact eAs ⟨I, s, ILe.refl _, S1, T, SS.nil I⟩
 | true =>
  refine an (yj ?_)
  rw [if_pos rfl] at hm
  obtain ⟨⟨t, st1⟩, ht, hm⟩ := aT hm
  unfold bIc bBd cAc
  refine eAr (cX S1 T ht) ?_
  rintro _ _ ⟨rfl, s2, S2, T2⟩
  exact aBu f 0 I [] A L _ p s2 .l0 st1 [] l' st' S2 (Gr.nil I 1) (by simpa using hf) T2 hm
end
end Go.Dd

namespace Go.Dd
open Go.Proofs
abbrev PF := PSt → Option (Node × PSt)
def uW (E : PF) : PF := fun st => (E st).bind fun r => (eB r.2 10 [41]).bind fun q => some (r.1, q.2)
def jZ (LI : PF) : Nat → List Node → PSt → Option (List Node × PSt)
 | 0, _, _ => none
 | f + 1, xs, st => if st.err = 0 then (eD st 10 [41]).bind fun c => if c then some (xs, st) else
  (mC st).bind fun r => if r.1.2 then jZ LI f (xs ++ [r.1.1]) r.2 else
   (eD r.2 7 []).bind fun c1 => (if c1 then some true else eD r.2 10 [40]).bind fun c2 =>
    if c2 then (gI LI r.2).bind fun q => jZ LI f (xs ++ [q.1]) q.2 else (bN r.2 0).bind fun t => jZ LI f (xs ++ [r.1.1]) (bS r.2 t 13)
  else some (xs, st)
def gE (LI : PF) (f : Nat) : PF := fun st => (jZ LI f [] st).bind fun r => (cP r.2).bind fun q => some (.mk 4 [] 0 [] [] r.1, q.2)
def lX : Nat → List (List Nat) → PSt → Option (List (List Nat) × PSt)
 | 0, _, _ => none
 | f + 1, l, st => (eD st 8 []).bind fun c => if c then (qS st 8 l.length).bind fun r => lX f (l ++ [r.1]) r.2 else some (l, st)
def jM (E : PF) : Nat → List Node → PSt → Option (List Node × PSt)
 | 0, _, _ => none
 | f + 1, xs, st => if st.err = 0 then (eD st 0 []).bind fun c => if c then some (xs, st) else (eD st 10 [93]).bind fun c => if c then some (xs, st) else
  (eD st 10 [94]).bind fun c =>
   if c then (cP st).bind fun r => (E r.2).bind fun q => (eD q.2 10 [46]).bind fun d => if d then (cP q.2).bind fun u => some (xs ++ [.mk 10 [] 0 [] [] [q.1]], u.2) else some (xs ++ [.mk 10 [] 0 [] [] [q.1]], q.2)
   else (E st).bind fun q => (eD q.2 10 [46]).bind fun d => if d then (cP q.2).bind fun u => jM E f (xs ++ [q.1]) u.2 else some (xs ++ [q.1], q.2)
  else some (xs, st)
def bar (l : List (List Nat)) (st : PSt) : Option PSt :=
 if 0 < l.length then (eD st 10 [93]).bind fun c => if c then some st else (eB st 10 [124]).bind fun r => some r.2 else some st
def tA (E : PF) (f : Nat) : PF := fun st => (lX f [] st).bind fun r => (bar r.1 r.2).bind fun st2 => (lM f st2).bind fun q => (jM E f [] q.2).bind fun u => (eB u.2 10 [93]).bind fun w => some (.mk 9 [] 0 r.1 q.1 u.1, w.2)
def gA (LI E : PF) (f : Nat) : PF := fun st => (mC st).bind fun r => if r.1.2 then some (r.1.1, r.2) else (bN r.2 0).bind fun t =>
 if r.2.err = 0 then
  if t.kind = 1 then (cP r.2).bind fun q => some (.mk 5 q.1.text 0 [] [] [], q.2)
  else if t.kind = 7 then gI LI r.2
  else (eD r.2 10 [40]).bind fun c => if c then gI (uW E) r.2 else (eD r.2 10 [91]).bind fun c => if c then gI (tA E f) r.2 else some (zN, bS r.2 t 13)
 else some (zN, r.2)
def iV (P : PF) (g : Nat) : Nat → Node → PSt → Option (Node × PSt)
 | 0, _, _ => none
 | f + 1, x, st => (eD st 3 []).bind fun c => if c then (cP st).bind fun r => (P r.2).bind fun q => (iT g q.1 q.2).bind fun u => iV P g f (cV r.1.text [x, u.1]) u.2 else some (x, st)
def oQ (P : PF) (g : Nat) : Nat → List Nat → List Node → PSt → Option (Node × PSt)
 | 0, _, _, _ => none
 | f + 1, t, ks, st => (eD st 2 []).bind fun c => if c then (cP st).bind fun r => if t.length + r.1.text.length ≤ bG then
  (P r.2).bind fun q => (iT g q.1 q.2).bind fun u => (iV P g g u.1 u.2).bind fun w => oQ P g f (t ++ r.1.text) (ks ++ [w.1]) w.2 else none
  else some (cV t ks, st)
def uF (P : PF) (g : Nat) : Node → PF := fun x st => (eD st 2 []).bind fun c => if c then oQ P g g [] [x] st else some (x, st)
def kB (x : Node) : Node := if x.kids.length = 0 then x else cV x.text (x.kids.drop 1)
def aTg (P : PF) (g : Nat) : PF := fun st => (bN st 0).bind fun t =>
 if t.kind = 1 then (cP st).bind fun r => some (cV t.text [zN], r.2)
 else if t.kind = 3 then (cP st).bind fun r => (P r.2).bind fun q => (iT g q.1 q.2).bind fun u => some (cV t.text [zN, u.1], u.2)
 else if t.kind = 2 then uF P g zN st
 else some (zN, bS st t 13)
def aQc (P : PF) (g : Nat) : Nat → List Node → PSt → Option (Node × PSt)
 | 0, _, _ => none
 | f + 1, ks, st => (eD st 10 [59]).bind fun c => if c then (cP st).bind fun r => (aTg P g r.2).bind fun q => aQc P g f (ks ++ [kB q.1]) q.2 else some (.mk 8 [] 0 [] [] ks, st)
def lE (P : PF) (g : Nat) : PF := fun st => (P st).bind fun q => (iT g q.1 q.2).bind fun u => (iV P g g u.1 u.2).bind fun w => (uF P g w.1 w.2).bind fun n =>
 (eD n.2 10 [59]).bind fun c => if c then
  if n.1.kind = 7 then (n.1.kids[0]?).bind fun k0 => aQc P g g [k0, kB n.1] n.2
  else (bN n.2 0).bind fun t => some (n.1, bS n.2 t 13)
  else some n
def tW (P E : PF) (g : Nat) : PF := fun st => (eD st 1 []).bind fun c => (if c then (bN st 1).bind fun t => some (decide (t.kind = 9)) else some false).bind fun d =>
 if d then (cP st).bind fun r => (cP r.2).bind fun q => (E q.2).bind fun u => some (.mk 6 r.1.text 0 [] [] [u.1], u.2) else lE P g st
def wU : Nat → PF
 | 0 => fun _ => none
 | f + 1 => gE (wU f) f
def mO : Nat → PF
 | 0 => fun _ => none
 | f + 1 => tW (gA (wU f) (mO f) f) (mO f) f
theorem NVL.at {I : Im} : ∀ {l : List Node} {c : List DV} {i : Nat} {x : Node}, NVL I l c → l[i]? = some x → ∃ d rest, c.drop (i * 6) = d ++ rest ∧ NV I x d := by
 intro l c i x H hi
 have := H.drop i
 rw [jL hi] at this
 obtain ⟨d, rest, e, N, _⟩ := this
 exact ⟨d, rest, e, N⟩
theorem NS.at {I : Im} {s : DV} {ks : List Node} (H : NS I s ks) {i : Nat} {x : Node} (hi : ks[i]? = some x) :
 ∃ b o c, (∀ h', aO 6 s (.i .i64 (i : Int)) h' = some (.p b o, h')) ∧ NV I x c ∧ ∀ (J : Im) (A Q L : Ls) (h : Hp), ILe I J → Sy J A Q L h → aD 6 (.p b o) h = some (.a c, h) := by
 obtain ⟨_, cells, F, N⟩ := H
 obtain ⟨hlt, _⟩ := List.getElem?_eq_some_iff.1 hi
 obtain ⟨d, rest, e, Nd⟩ := N.at hi
 rcases F with ⟨_, h2, _⟩ | ⟨b, o, cap, k, row, rest2, rfl, h2, h3, h4, h5, h6⟩
 ·omega
 ·refine ⟨b, o + i * 6, d, fun h' => ?_, Nd, fun J A Q L h g S => ldA (S.im _ _ (g _ _ h3)) ?_⟩
  ·show (if 0 ≤ (i : Int) ∧ (i : Int) < (ks.length : Int) then some (DV.p b (o + (i : Int).toNat * 6), h') else none) = _
   rw [if_pos ⟨by omega, by omega⟩]
   rfl
  ·have hle : i * 6 ≤ cells.length := by rw [h5]; exact Nat.mul_le_mul_right _ (by omega)
   rw [← List.drop_drop, h4, List.drop_append_of_le_length hle, e, List.append_assoc]
   obtain ⟨s1, s2, _⟩ := Nd.shape
   exact gX d _ 6 s1 s2
theorem Fz.rest {I : Im} {sz : Nat} {s : DV} {len : Nat} {cells : List DV} (H : Fz I sz s len cells) {A Q L : Ls} {h : Hp} (S : Sy I A Q L h) {i : Nat} (hi : i ≤ len) (h0 : 0 < len) :
 ∃ s' h' J, dB sz s (some (.i .i64 (Int.ofNat i))) none h = some (s', h') ∧ ILe I J ∧ Sy J A Q L h' ∧ Fz J sz s' (len - i) (cells.drop (i * sz)) ∧ s' ≠ .l0 := by
 rcases H with ⟨_, rfl, _⟩ | ⟨b, o, cap, k, row, rest, rfl, h2, h3, h4, h5, h6⟩
 ·omega
 ·have hle : i * sz ≤ cells.length := by rw [h5]; exact Nat.mul_le_mul_right _ (by omega)
  have hd : row.drop (o + i * sz) = cells.drop (i * sz) ++ rest := by
   rw [← List.drop_drop, h4, List.drop_append_of_le_length hle]
  have e1 : hiD none len cap = some len := by simp [hiD, h2]
  have e2 : loD (some (.i .i64 (Int.ofNat i))) len = some i := by
   show (if 0 ≤ (Int.ofNat i) ∧ (Int.ofNat i) ≤ (len : Int) then some (Int.ofNat i).toNat else none) = _
   have hi' : (Int.ofNat i) = (i : Int) := rfl
   rw [if_pos ⟨by omega, by omega⟩]
   rfl
  have hlen : (cells.drop (i * sz)).length = (len - i) * sz := by rw [List.length_drop, h5, Nat.sub_mul]
  by_cases hc : cap = i
  ·have hz : len - i = 0 := by omega
   have hnil : cells.drop (i * sz) = [] := List.eq_nil_of_length_eq_zero (by rw [hlen, hz]; simp)
   have hg := S.im _ _ h3
   have other : (k = .ro ∨ k = .ex) → dB sz (.l b o len cap) (some (.i .i64 (Int.ofNat i))) none h = some (.l b o (len - i) (cap - i), h) := fun hk => by
    unfold dB
    simp only [e1, e2, hg]
    rcases hk with rfl | rfl <;> simp [hc]
   have grow : (k ≠ .ro ∧ k ≠ .ex) → dB sz (.l b o len cap) (some (.i .i64 (Int.ofNat i))) none h = some (.le, h) := fun hk => by
    unfold dB
    simp only [e1, e2, hg]
    cases k with
    | ro => exact absurd rfl hk.1
    | ex => exact absurd rfl hk.2
    | gr es => simp [hc]
    | sp => simp [hc]
   by_cases hk : k = .ro ∨ k = .ex
   ·refine ⟨_, _, I, other hk, ILe.refl _, S, .inr ⟨b, o, cap - i, k, row, row.drop o, rfl, by omega, h3, ?_, hlen, fun v hv => h6 v (List.mem_of_mem_drop hv)⟩, by simp⟩
    rw [hnil]; rfl
   ·refine ⟨_, _, I, grow ⟨fun e => hk (.inl e), fun e => hk (.inr e)⟩, ILe.refl _, S, ?_, by simp⟩
    rw [hz, hnil]
    exact .inl ⟨.inr rfl, rfl, rfl⟩
  ·refine ⟨.l b (o + i * sz) (len - i) (cap - i), h, I, ?_, ILe.refl _, S, .inr ⟨b, o + i * sz, cap - i, k, row, rest, rfl, by omega, h3, hd, hlen, fun v hv => h6 v (List.mem_of_mem_drop hv)⟩, by simp⟩
   unfold dB
   simp only [e1, e2, S.im _ _ h3]
   cases k <;> simp [hc]
theorem bWl {I : Im} {A Q L : Ls} {h : Hp} (S : Sy I A Q L h) {x : DV} {ks : List Node} (N : NS I x ks) :
 Ev (fun n => aI n 155 [x] h) (fun v h' => ∃ J, ILe I J ∧ Sy J A Q L h' ∧ NS J v ks) := by
 refine Ev.enter (fun n => bZk n _ h) ?_
 unfold s155
 have N0 := N
 obtain ⟨hl, cells, F, NL⟩ := N
 have F0 := F
 rcases F with ⟨rfl | rfl, h2, hc⟩ | ⟨b, o, cap, k, row, rest, rfl, _⟩
 ·refine Ev.op (show pEq (.slice 25) true .l0 .l0 h = some (.b true, h) from rfl) ?_
  refine yt ?_
  exact eAs ⟨I, ILe.refl _, S, N0⟩
 ·refine Ev.op (show pEq (.slice 25) true .le .l0 h = some (.b false, h) from rfl) ?_
  refine yj ?_
  refine eBm S (cs := []) rfl ?_
  intro b1 h1 S1
  have hks : ks = [] := List.eq_nil_of_length_eq_zero h2
  subst hks
  have hg := S1.memL (bX)
  have e : aY 6 104 (.l b1 0 0 0) .le h1 = some (.l b1 0 0 0, ⟨h1.next, Tr.set (.row .ex []) b1 h1.bl⟩) := by
   unfold aY
   simp only [pA]
   simp [iP, hg, Kind.writable, lG, uN]
  refine Ev.op e ?_
  have S2 : Sy I A Q ((b1, some (.row .ex [])) :: L) ⟨h1.next, Tr.set (.row .ex []) b1 h1.bl⟩ := S1.setL (Rpl.head _) rfl (fun c => eBp _ _ _ _)
  obtain ⟨J, gJ, S4, F4, _⟩ := Fz.built (sz := 6) (n := 0) S2 (by simp) aX
  exact eAs ⟨J, gJ, S4, by simp, [], F4, rfl⟩
 ·refine Ev.op (show pEq (.slice 25) true (.l b o ks.length cap) .l0 h = some (.b false, h) from rfl) ?_
  refine yj ?_
  refine eBm S (cs := []) rfl ?_
  intro b1 h1 S1
  by_cases hk : ks.length = 0
  ·have hks : ks = [] := List.eq_nil_of_length_eq_zero hk
   subst hks
   have hs : pA 6 (.l b o ([] : List Node).length cap) h1 = some (0, []) := by
    have hc : cells = [] := NL
    rw [F0.src S1.dropL, hc]
    rfl
   have hg := S1.memL (bX)
   have e : aY 6 104 (.l b1 0 0 0) (.l b o ([] : List Node).length cap) h1 = some (.l b1 0 0 0, ⟨h1.next, Tr.set (.row .ex []) b1 h1.bl⟩) := by
    unfold aY
    simp only [hs]
    simp [iP, hg, Kind.writable, lG, uN]
   refine Ev.op e ?_
   have S2 : Sy I A Q ((b1, some (.row .ex [])) :: L) ⟨h1.next, Tr.set (.row .ex []) b1 h1.bl⟩ := S1.setL (Rpl.head _) rfl (fun c => eBp _ _ _ _)
   obtain ⟨J, gJ, S4, F4, _⟩ := Fz.built (sz := 6) (n := 0) S2 (by simp) aX
   exact eAs ⟨J, gJ, S4, by simp, [], F4, rfl⟩
  ·obtain ⟨J, gJ, S4, F4, G4⟩ := Fz.built (sz := 6) (n := 0) S1 (by simp) aX
   obtain ⟨c1, c2⟩ := NL.shape
   have hr : (0 + ks.length) * 104 ≤ fH := by simp [fH, bG] at hl ⊢; omega
   obtain ⟨x5, h5, B5, e5, S5, G5⟩ := G4.app (A0 := A) S4 ((F0.mono gJ).src S4) c1 c2 hk hr
   refine Ev.op e5 ?_
   obtain ⟨K, gK, S6, F6⟩ := G5.freeze S5
   refine eAs ⟨K, gJ.trans gK, S6, hl, cells, by simpa using F6, (NL.mono gJ).mono gK⟩
theorem dQ {I : Im} {A Q L : Ls} {h : Hp} {b : Pos} {kd : Kind} {l : List DV} {o : Nat} {v : DV} (S : Sy I A Q L h) (m : (b, some (.row kd l)) ∈ L) (e : l[o]? = some v) (hv : v.one = true) (hb : DV.beq v v = true) : bM (aB (.p b o) h) v = true := bZz (S := S) m e hv hb
theorem mZ (t : List Nat) : DV.beq (.s t) (.s t) = true := by
 have e : xK t t = true := by rw [jP]
 simp [DV.beq, e]
theorem aCs {I : Im} {A Q L : Ls} {h : Hp} (S : Sy I A Q L h) {x : Node} {cs : List DV} (N : NV I x cs) :
 Ev (fun n => aI n 138 [.a cs] h) (fun v h' => ∃ J ds, v = .a ds ∧ ILe I J ∧ Sy J A Q L h' ∧ NV J (kB x) ds) := by
 refine Ev.enter (fun n => cBs n _ h) ?_
 unfold s138
 have N0 := N
 obtain ⟨k, t, m, ns, ts, ks⟩ := x
 obtain ⟨s1, s2, s3, rfl, a, b, c, cells, F, NL⟩ := N
 have o1 := a.2.one
 have o2 := b.2.one
 have o3 := F.one
 refine wb fun _ _ _ => ?_; refine wa fun _ _ _ => ?_; refine wf ?_; refine wl ?_
 refine Ev.op (F.len _) ?_
 refine eAv (fun e1 => ?_) (fun e1 => ?_)
 ·refine yt ?_; refine ws ?_; refine wt fun _ _ => ?_; refine ws ?_
  refine eAs ⟨I, _, rfl, ILe.refl _, dp, ?_⟩
  have e2 : ks.length = 0 := by simp at e1; simp [e1]
  rw [show kB (.mk k t m ns ts ks) = .mk k t m ns ts ks by simp [kB, Node.kids, e2]]
  exact N0
 ·refine yj (wf ?_); refine wl ?_; refine wf ?_; refine wl ?_
  have e2 : ks.length ≠ 0 := fun e => e1 (by rw [e]; rfl)
  rename_i bb hh SX
  obtain ⟨s4, h4, J, e4, g4, S4, F4, n4⟩ := F.rest SX (i := 1) (by omega) (by omega)
  refine Ev.op e4 ?_
  have N4 : NS J s4 (ks.drop 1) := ⟨by simp; omega, cells.drop (1 * 6), by simpa using F4, (NL.mono g4).drop 1⟩
  refine eAr (bWl S4 N4) ?_
  rintro v5 h5 ⟨K, g5, S5, N5⟩
  have o5 := N5.one
  refine Ev.cnd ?_ ?_
  ·rw [Bool.and_true]; exact dQ S5 (by repeat (first | exact bX | apply List.Mem.tail)) rfl rfl (mZ _)
  refine wd ?_; refine wt fun _ _ => ?_; refine ws ?_
  refine eAs ⟨K, _, rfl, g4.trans g5, dp, ?_⟩
  rw [show kB (.mk k t m ns ts ks) = cV t (ks.drop 1) by simp [kB, Node.kids, Node.text, e2]]
  exact NV.of (SS.nil K) (SS.nil K) N5
end Go.Dd

namespace Go.Dd
open Go.Proofs
theorem cAt (n : Nat) (x : DV) (h : Hp) : aI (n + 1) 153 [x] h = s153 (aI n) n x h := by kernel_rfl
theorem cEa (n : Nat) (x : DV) (h : Hp) : aI (n + 1) 152 [x] h = s152 (aI n) n x h := by kernel_rfl
theorem cUe (n : Nat) (x : DV) (h : Hp) : aI (n + 1) 50 [x] h = s50 (aI n) n x h := by kernel_rfl
theorem bUm (n : Nat) (x : DV) (h : Hp) : aI (n + 1) 154 [x] h = s154 (aI n) n x h := by kernel_rfl
theorem bZg (n : Nat) (x : DV) (h : Hp) : aI (n + 1) 137 [x] h = s137 (aI n) n x h := by kernel_rfl
theorem bOc (n : Nat) (x y : DV) (h : Hp) : aI (n + 1) 135 [x, y] h = s135 (aI n) n x y h := by kernel_rfl
theorem cAy (n : Nat) (x y : DV) (h : Hp) : aI (n + 1) 134 [x, y] h = s134 (aI n) n x y h := by kernel_rfl
theorem bRe (n : Nat) (x : DV) (h : Hp) : aI (n + 1) 139 [x] h = s139 (aI n) n x h := by kernel_rfl
theorem bSk (n : Nat) (x : DV) (h : Hp) : aI (n + 1) 114 [x] h = s114 (aI n) n x h := by kernel_rfl
theorem cUo (n : Nat) (x : DV) (h : Hp) : aI (n + 1) 79 [x] h = s79 (aI n) n x h := by kernel_rfl
theorem bBo (rec : FuncId → List DV → Hp → aF) (x : DV) (h : Hp) : eA CF rec (.f 152 [x] []) [] h = rec 152 [x] h := by kernel_rfl
theorem cGc (rec : FuncId → List DV → Hp → aF) (x : DV) (h : Hp) : eA CF rec (.f 153 [x] []) [] h = rec 153 [x] h := by kernel_rfl
theorem cGd (rec : FuncId → List DV → Hp → aF) (x : DV) (h : Hp) : eA CF rec (.f 154 [x] []) [] h = rec 154 [x] h := by kernel_rfl
theorem bRl {E : PF} (HE : uE 79 E) : uE 153 (uW E) := by
 intro I A L h p s st x st' S T hm
 unfold uW at hm
 obtain ⟨⟨y, st1⟩, hy, hm⟩ := aT hm
 obtain ⟨⟨t, st2⟩, ht, hm⟩ := aT hm
 simp only [aZ, bT] at hm
 obtain ⟨rfl, rfl⟩ := hm
 refine Ev.enter (fun n => cAt n _ h) ?_
 unfold s153
 refine wa fun _ _ _ => ?_
 refine eAr (HE _ _ _ _ _ _ _ _ _ (by assumption) T hy) ?_
 rintro _ _ ⟨J, s1, cs, rfl, g1, S1, T1, N1⟩
 obtain ⟨l1, o1, b1⟩ := N1.shape
 refine wa fun _ _ _ => ?_; refine wt fun _ _ => ?_
 refine eAr (iX (by assumption) T1 ht) ?_
 rintro _ _ ⟨rfl, s2, S2, T2⟩
 refine ws ?_; refine wt fun _ _ => ?_; refine ws ?_
 exact eAs ⟨J, s2, cs, rfl, g1, dp, T2, N1⟩
theorem eW {I : Im} {B A Q L : Ls} {h : Hp} {x : DV} {xs : List Node} {cells : List DV} (G : Gr I 6 B x xs.length cells) (NL : NVL I xs cells) {y : Node} {cs : List DV} (N : NV I y cs) {b : Pos}
 (S : Sy I (B ++ A) Q L h) (m : (b, some (.row .ex cs)) ∈ L) (hl : xs.length + 1 ≤ bG) :
 ∃ x' h' B' cells', aY 6 104 x (.l b 0 1 1) h = some (x', h') ∧ Sy I (B' ++ A) Q L h' ∧ Gr I 6 B' x' (xs ++ [y]).length cells' ∧ NVL I (xs ++ [y]) cells' := by
 obtain ⟨l1, o1, b1⟩ := N.shape
 have hr : (xs.length + 1) * 104 ≤ fH := by simp [fH, bG] at hl ⊢; omega
 obtain ⟨x4, h4, B4, e4, S4, G4⟩ := G.app S (nG S (n := 1) m (by omega) o1) (by omega) o1 (by omega) hr
 exact ⟨x4, h4, B4, cells ++ cs, e4, S4, by simpa using G4, NL.app (eBf N)⟩
theorem Gr.nodes {I : Im} {B A Q L : Ls} {h : Hp} {x : DV} {xs : List Node} {cells : List DV} (G : Gr I 6 B x xs.length cells) (NL : NVL I xs cells) (S : Sy I (B ++ A) Q L h) (hl : xs.length ≤ bG) :
 ∃ J, ILe I J ∧ Sy J A Q L h ∧ NS J x xs := by
 obtain ⟨J, gJ, S3, F3⟩ := G.freeze S
 exact ⟨J, gJ, S3, hl, cells, F3, NL.mono gJ⟩
theorem yO {E : PF} (HE : uE 79 E) : ∀ (f j : Nat) (I : Im) (B A L : Ls) (h : Hp) (p : Pos) (s x : DV) (st : PSt) (xs ys : List Node) (cells : List DV) (st' : PSt), Sy I (B ++ A) [PS p s st] L h → Gr I 6 B x xs.length cells → NVL I xs cells →
 xs.length + f ≤ bG → TS' I s st.toks → jM E f xs st = some (ys, st') →
 Ev (fun n => rM (aI n) n (n - j) (.p p 0) x h) (fun v h' => ∃ J s', ILe I J ∧ Sy J A [PS p s' st'] L h' ∧ TS' J s' st'.toks ∧ NS J v ys)
 | 0, j, I, B, A, L, h, p, s, x, st, xs, ys, cells, st', S, G, NL, hl, T, hm => by cases hm
 | f + 1, j, I, B, A, L, h, p, s, x, st, xs, ys, cells, st', S, G, NL, hl, T, hm => by
  unfold jM at hm
  refine eAw j (ll := fun n m => rM (aI n) n m (.p p 0) x h) (bb := fun n m => aKv (aI n) n (rM (aI n) n m) (.p p 0) x h) (fun _ _ => rfl) ?_
  have hs := T.2.one
  unfold aKv jE
  refine wn (wf ?_); refine wq ?_
  have fin : ∀ h', Sy I (B ++ A) [PS p s st] L h' → some (xs, st) = some (ys, st') → Ev (fun _ => some (x, h')) (fun v h' => ∃ J s', ILe I J ∧ Sy J A [PS p s' st'] L h' ∧ TS' J s' st'.toks ∧ NS J v ys) := by
   intro h' S' hm
   simp only [aZ, bT] at hm
   obtain ⟨rfl, rfl⟩ := hm
   obtain ⟨J, gJ, S3, N3⟩ := G.nodes NL S' (by omega)
   exact eAs ⟨J, s, gJ, S3, T.mono gJ, N3⟩
  refine eAv (fun e1 => ?_) (fun e1 => ?_)
  ·rw [if_pos (show st.err = 0 from e1)] at hm
   refine zt (wm (zt ?_))
   obtain ⟨c, hc, hm⟩ := aT hm
   refine eAr (eV (by assumption) T hc) ?_
   rintro _ _ ⟨rfl, S1⟩
   cases c with
   | true =>
    refine zt (an (ap (yf (yf (yf (aq (yj ?_)))))))
    exact fin _ S1 (by simpa using hm)
   | false =>
    refine zt (ao (ap (zt (wm (zt ?_)))))
    rw [if_neg (by simp)] at hm
    obtain ⟨c, hc, hm⟩ := aT hm
    refine eAr (eV (by assumption) T hc) ?_
    rintro _ _ ⟨rfl, S2⟩
    cases c with
    | true =>
     refine zt (an (ap (yj ?_)))
     exact fin _ S2 (by simpa using hm)
    | false =>
     refine zt (ao (ap (yt ?_)))
     rw [if_neg (by simp)] at hm
     obtain ⟨c, hc, hm⟩ := aT hm
     unfold cYh
     refine eAr (eV (by assumption) T hc) ?_
     rintro _ _ ⟨rfl, S3⟩
     unfold cXh
     cases c with
     | true =>
      refine yt ?_
      rw [if_pos rfl] at hm
      obtain ⟨⟨t, st1⟩, ht, hm⟩ := aT hm
      obtain ⟨⟨y, st2⟩, hy, hm⟩ := aT hm
      obtain ⟨d, hd, hm⟩ := aT hm
      unfold cXl
      refine eAr (cX S3 T ht) ?_
      rintro _ _ ⟨rfl, s4, S4, T4⟩
      unfold cZr
      refine eAr (HE _ _ _ _ _ _ _ _ _ S4 T4 hy) ?_
      rintro _ _ ⟨J, s5, cs, rfl, g5, S5, T5, N5⟩
      obtain ⟨l5, o5, b5⟩ := N5.shape
      refine eBm S5 (fV l5) ?_
      intro b6 h6 S6
      obtain ⟨K, g7, S7, F7, _⟩ := Fz.built (sz := 6) (n := 1) S6 (by omega) o5
      have N7 : NS K _ [y] := ⟨by simp [bG], cs, F7, eBf (N5.mono g7)⟩
      have o7 := N7.one
      refine wd ?_
      have N8 := NV.of (I := K) (k := 10) (t := []) (m := 0) (SS.nil K) (SS.nil K) N7
      obtain ⟨l8, o8, b8⟩ := N8.shape
      refine eBm S7 (fV l8) ?_
      intro b9 h9 S9
      obtain ⟨x10, h10, B10, cells10, e10, S10, G10, NL10⟩ := eW ((G.mono g5).mono g7) ((NL.mono g5).mono g7) N8 S9 (bX) (by omega)
      refine Ev.op e10 ?_
      unfold bUn aWm
      refine eAr (eV S10.dropL (T5.mono g7) hd) ?_
      rintro _ _ ⟨rfl, S11⟩
      have fin2 : ∀ h' s', Sy K (B10 ++ A) [PS p s' st'] L h' → TS' K s' st'.toks → ys = xs ++ [.mk 10 [] 0 [] [] [y]] → Ev (fun _ => some (x10, h')) (fun v h' => ∃ J s', ILe I J ∧ Sy J A [PS p s' st'] L h' ∧ TS' J s' st'.toks ∧ NS J v ys) := by
       intro h' s' S' T' e
       subst e
       obtain ⟨M, gM, S12, N12⟩ := G10.nodes NL10 S' (by simp; omega)
       exact eAs ⟨M, s', (g5.trans g7).trans gM, S12, T'.mono gM, N12⟩
      cases d with
      | true =>
       refine yt ?_
       rw [if_pos rfl] at hm
       obtain ⟨⟨t2, st3⟩, ht2, hm⟩ := aT hm
       simp only [aZ, bT] at hm
       obtain ⟨rfl, rfl⟩ := hm
       refine eAr (cX S11 (T5.mono g7) ht2) ?_
       rintro _ _ ⟨rfl, s18, S13, T13⟩
       exact fin2 _ s18 S13 T13 rfl
      | false =>
       refine yj ?_
       rw [if_neg (by simp)] at hm
       simp only [aZ, bT] at hm
       obtain ⟨rfl, rfl⟩ := hm
       exact fin2 _ s5 S11 (T5.mono g7) rfl
     | false =>
      refine yj ?_
      rw [if_neg (by simp)] at hm
      obtain ⟨⟨y, st2⟩, hy, hm⟩ := aT hm
      obtain ⟨d, hd, hm⟩ := aT hm
      unfold cWt
      refine eAr (HE _ _ _ _ _ _ _ _ _ S3 T hy) ?_
      rintro _ _ ⟨J, s5, cs, rfl, g5, S5, T5, N5⟩
      obtain ⟨l5, o5, b5⟩ := N5.shape
      refine eBm S5 (fV l5) ?_
      intro b6 h6 S6
      obtain ⟨x10, h10, B10, cells10, e10, S10, G10, NL10⟩ := eW (G.mono g5) (NL.mono g5) N5 S6 (bX) (by omega)
      refine Ev.op e10 ?_
      refine eAr (eV S10.dropL T5 hd) ?_
      rintro _ _ ⟨rfl, S11⟩
      cases d with
      | true =>
       refine an (yj ?_)
       rw [if_pos rfl] at hm
       obtain ⟨⟨t2, st3⟩, ht2, hm⟩ := aT hm
       refine eAr (cX S11 T5 ht2) ?_
       rintro _ _ ⟨rfl, s18, S13, T13⟩
       refine (yO HE f (j + 1) J B10 A L _ p s18 x10 st3 (xs ++ [y]) ys cells10 st' S13 G10 NL10 (by simp; omega) T13 hm).mono ?_
       rintro v h' ⟨M, s', gM, r⟩
       exact ⟨M, s', g5.trans gM, r⟩
      | false =>
       refine ao (yt ?_)
       rw [if_neg (by simp)] at hm
       simp only [aZ, bT] at hm
       obtain ⟨rfl, rfl⟩ := hm
       obtain ⟨M, gM, S12, N12⟩ := G10.nodes NL10 S11 (by simp; omega)
       exact eAs ⟨M, s5, g5.trans gM, S12, T5.mono gM, N12⟩
  ·rw [if_neg (show ¬ st.err = 0 from e1)] at hm
   refine yf (yf (yf (aq (yf (yf (yf (aq (yj ?_))))))))
   exact fin _ (by assumption) hm
theorem aRq {E : PF} (HE : uE 79 E) {I : Im} {A L : Ls} {h : Hp} {p : Pos} {s : DV} {st : PSt} (f : Nat) (hf : f ≤ bG) (S : Sy I A [PS p s st] L h) (T : TS' I s st.toks) {ys : List Node} {st' : PSt} (hm : jM E f [] st = some (ys, st')) :
 Ev (fun n => aI n 50 [.p p 0] h) (fun v h' => ∃ J s', ILe I J ∧ Sy J A [PS p s' st'] L h' ∧ TS' J s' st'.toks ∧ NS J v ys) := by
 refine Ev.enter (fun n => cUe n _ h) ?_
 unfold s50 bDv bGz bZs
 exact yO HE f 0 I [] A L h p s .l0 st [] ys [] st' S (Gr.nil I 6) rfl (by simpa using hf) T hm
end Go.Dd

namespace Go.Dd
open Go.Proofs
theorem aFt {LI : PF} (HL : uE 152 LI) : ∀ (f j : Nat) (I : Im) (B A L : Ls) (h : Hp) (p : Pos) (s x : DV) (st : PSt) (xs ys : List Node) (cells z : List DV) (st' : PSt) (b2 b3 : Pos),
 Sy I (B ++ A) [PS p s st] ((b3, some (.row .ex [.i .i64 (Int.ofNat 4), .s [], .i .i64 (Int.ofNat 0), .l0, .l0, x])) :: (b2, some (.row .ex z)) :: L) h → Gr I 6 B x xs.length cells → NVL I xs cells → z.length = 6 → (∀ v ∈ z, v.one = true) →
 xs.length + f ≤ bG → TS' I s st.toks → (jZ LI f xs st).bind (fun r => (cP r.2).bind fun q => some (r.1, q.2)) = some (ys, st') →
 Ev (fun n => jQ (aI n) n (n - j) (.p p 0) (.p b2 0) (.p b3 0) h) (NPost I A L p (.mk 4 [] 0 [] [] ys) st')
 | 0, j, I, B, A, L, h, p, s, x, st, xs, ys, cells, z, st', b2, b3, S, G, NL, z1, z2, hl, T, hm => by cases hm
 | f + 1, j, I, B, A, L, h, p, s, x, st, xs, ys, cells, z, st', b2, b3, S, G, NL, z1, z2, hl, T, hm => by
  unfold jZ at hm
  refine eAw j (ll := fun n m => jQ (aI n) n m (.p p 0) (.p b2 0) (.p b3 0) h) (bb := fun n m => xD (aI n) n (jQ (aI n) n m) (.p p 0) (.p b2 0) (.p b3 0) h) (fun _ _ => rfl) ?_
  have hs := T.2.one
  have hx := G.one
  unfold xD
  refine wn (wf ?_); refine wq ?_
  have fin : ∀ h', Sy I (B ++ A) [PS p s st] ((b3, some (.row .ex [.i .i64 (Int.ofNat 4), .s [], .i .i64 (Int.ofNat 0), .l0, .l0, x])) :: (b2, some (.row .ex z)) :: L) h' → (some (xs, st)).bind (fun r => (cP r.2).bind fun q => some (r.1, q.2)) = some (ys, st') →
   Ev (fun n => fD (aI n) n (.p p 0) (.p b2 0) (.p b3 0) h') (NPost I A L p (.mk 4 [] 0 [] [] ys) st') := by
   intro h' S' hm
   simp only [Option.bind_some] at hm
   obtain ⟨⟨t2, st2⟩, ht2, hm⟩ := aT hm
   simp only [aZ, bT] at hm
   obtain ⟨rfl, rfl⟩ := hm
   unfold fD
   refine eAr (cX S' T ht2) ?_
   rintro _ _ ⟨rfl, s2, S2, T2⟩
   obtain ⟨J, gJ, S3, N3⟩ := G.nodes NL S2 (by omega)
   have o3 := N3.one
   refine ws ?_; refine wt fun _ _ => ?_; refine ws ?_
   exact eAs ⟨J, s2, _, rfl, gJ, dp, T2.mono gJ, NV.of (SS.nil J) (SS.nil J) N3⟩
  refine eAv (fun e1 => ?_) (fun e1 => ?_)
  ·rw [if_pos (show st.err = 0 from e1)] at hm
   refine zt (wm (zt ?_))
   rw [Option.bind_assoc] at hm
   obtain ⟨c, hc, hm⟩ := aT hm
   refine eAr (eV (by assumption) T hc) ?_
   rintro _ _ ⟨rfl, S1⟩
   cases c with
   | true =>
    refine zt (an (ap (yj ?_)))
    exact fin _ S1 (by simpa using hm)
   | false =>
    refine zt (ao (ap (yt ?_)))
    rw [if_neg (by simp), Option.bind_assoc] at hm
    obtain ⟨⟨⟨y, d⟩, st1⟩, hy, hm⟩ := aT hm
    unfold cCu
    refine eAr (aSk S1 T hy) ?_
    rintro _ _ ⟨s2, cs, rfl, S2, T2, N2⟩
    obtain ⟨l2, o2, q2⟩ := N2.shape
    refine wx ?_; refine wx ?_; refine wa fun _ _ _ => ?_; refine wt fun _ _ => ?_
    unfold bOi
    have body : ∀ (J : Im) (h' : Hp) (b4 : Pos) (y' : Node) (cs' : List DV) (s' : DV) (st1' : PSt), ILe I J → Sy J (B ++ A) [PS p s' st1'] ((b4, some (.row .ex cs')) :: (b3, some (.row .ex [.i .i64 (Int.ofNat 4), .s [], .i .i64 (Int.ofNat 0), .l0, .l0, x])) :: (b2, some (.row .ex z)) :: L) h' →
     TS' J s' st1'.toks → NV J y' cs' → (jZ LI f (xs ++ [y']) st1').bind (fun r => (cP r.2).bind fun q => some (r.1, q.2)) = some (ys, st') →
     Ev (fun n => rK (aI n) n (jQ (aI n) n (n - (j + 1))) (.p p 0) (.p b2 0) (.p b3 0) (.p b4 0) h') (NPost I A L p (.mk 4 [] 0 [] [] ys) st') := by
     intro J h' b4 y' cs' s' st1' gJ S' T' N' hm
     obtain ⟨l', o', q'⟩ := N'.shape
     unfold rK
     refine wf ?_; refine wl ?_; refine ws ?_
     refine eBm S' (fV l') ?_
     intro b6 h6 S6
     obtain ⟨x10, h10, B10, cells10, e10, S10, G10, NL10⟩ := eW (G.mono gJ) (NL.mono gJ) N' S6 (bX) (by omega)
     have hx10 := G10.one
     refine Ev.op e10 ?_
     refine wf ?_; refine wu fun _ _ => ?_
     refine (aFt HL f (j + 1) J B10 A L _ p s' x10 st1' (xs ++ [y']) ys cells10 z st' b2 b3 ?_ G10 NL10 z1 z2 (by simp; omega) T' hm).mono (NPost.le gJ)
     exact Sy.dropL (Sy.dropL (by assumption))
    cases d with
    | true =>
     refine yt ?_
     exact body I _ _ y cs s2 st1 (ILe.refl _) (by assumption) T2 N2 (by simpa using hm)
    | false =>
     refine yj ?_
     rw [if_neg (by simp), Option.bind_assoc] at hm
     obtain ⟨c1, hc1, hm⟩ := aT hm
     rw [Option.bind_assoc] at hm
     obtain ⟨c2, hc2, hm2⟩ := aT hm
     refine eAr (eV (by assumption) T2 hc1) ?_
     rintro _ _ ⟨rfl, S3⟩
     have more : ∀ (b4 : Pos) h', Sy I (B ++ A) [PS p s2 st1] ((b4, some (.row .ex cs)) :: (b3, some (.row .ex [.i .i64 (Int.ofNat 4), .s [], .i .i64 (Int.ofNat 0), .l0, .l0, x])) :: (b2, some (.row .ex z)) :: L) h' → (if c2 = true then (gI LI st1).bind fun q => jZ LI f (xs ++ [q.1]) q.2 else (bN st1 0).bind fun t => jZ LI f (xs ++ [y]) (bS st1 t 13)).bind (fun r => (cP r.2).bind fun q => some (r.1, q.2)) = some (ys, st') →
      Ev (fun n => aV (.b c2)
       (bnd (aI n 151 [.p p 0, .f 152 [.p p 0] []] h') fun v41 h41 => bnd (aC 6 (.p b4 0) v41 h41) fun _ h42 => rK (aI n) n (jQ (aI n) n (n - (j + 1))) (.p p 0) (.p b2 0) (.p b3 0) (.p b4 0) h42)
       (bnd (aI n 81 [.p p 0, .i .i64 (Int.ofNat 0)] h') fun v43 h43 => bnd (aI n 80 [.p p 0, v43, .i .i64 (Int.ofNat 13)] h43) fun v44 h44 => rK (aI n) n (jQ (aI n) n (n - (j + 1))) (.p p 0) (.p b2 0) (.p b3 0) (.p b4 0) h44))
       (NPost I A L p (.mk 4 [] 0 [] [] ys) st') := by
      intro b4 h' S' hm
      cases c2 with
      | true =>
       rw [if_pos rfl, Option.bind_assoc] at hm
       obtain ⟨⟨w, st2⟩, hw, hm⟩ := aT hm
       refine yt ?_
       refine eAr (qK bBo HL S' T2 hw) ?_
       rintro _ _ ⟨J, s5, ds, rfl, g5, S5, T5, N5⟩
       obtain ⟨l5, o5, q5⟩ := N5.shape
       refine wt fun _ _ => ?_
       exact body J _ _ w ds s5 st2 g5 (by assumption) T5 N5 hm
      | false =>
       rw [if_neg (by simp), Option.bind_assoc] at hm
       obtain ⟨t, ht, hm⟩ := aT hm
       refine yj ?_
       refine eAr (iR (k := 0) S' T2 ht) ?_
       rintro _ _ ⟨rfl, S5⟩
       refine eAr (lT S5 T2.2.one t _) ?_
       rintro _ _ ⟨rfl, S6⟩
       exact body I _ _ y cs s2 (bS st1 t 13) (ILe.refl _) S6 (by rw [bJ]; exact T2) N2 hm
     cases c1 with
     | true =>
      simp only [if_true, aZ] at hc2
      subst hc2
      have M := more _ _ S3 hm2
      refine yg (yg (ap (yt ?_)))
      exact M
     | false =>
      refine zf (wm (zf ?_))
      refine eAr (eV (by assumption) T2 (by simpa using hc2)) ?_
      rintro _ _ ⟨rfl, S4⟩
      have M := more _ _ S4 hm2
      refine aq ?_
      exact M
  ·rw [if_neg (show ¬ st.err = 0 from e1)] at hm
   refine yf (yf (yf (aq (yj ?_))))
   exact fin _ (by assumption) hm
theorem aPj {LI : PF} (HL : uE 152 LI) (f : Nat) (hf : f ≤ bG) : uE 152 (gE LI f) := by
 intro I A L h p s st x st' S T hm
 unfold gE at hm
 refine Ev.enter (fun n => cEa n _ h) ?_
 unfold s152 aJm aNh aWt
 refine wa fun _ _ _ => ?_; refine wd ?_; refine wa fun _ _ _ => ?_; refine wt fun _ _ => ?_
 obtain ⟨⟨ys, st1⟩, h1, hm⟩ := aT hm
 obtain ⟨⟨t, st2⟩, h2, hm⟩ := aT hm
 simp only [aZ, bT] at hm
 obtain ⟨rfl, rfl⟩ := hm
 refine aFt HL f 0 I [] A L _ p s .l0 st [] ys [] _ st2 _ _ (by assumption) (Gr.nil I 6) rfl rfl (by first | assumption | exact bV _ | (repeat (first | exact aX | refine aU (by first | rfl | assumption | exact Fz.one (by assumption)) ?_))) (by simpa using hf) T ?_
 rw [h1]
 simp [h2]
theorem bMt : ∀ (f : Nat), f ≤ bG → uE 152 (wU f)
 | 0, _ => fun I A L h p s st x st' S T hm => by cases hm
 | f + 1, hf => aPj (bMt f (by omega)) f (by omega)
end Go.Dd

