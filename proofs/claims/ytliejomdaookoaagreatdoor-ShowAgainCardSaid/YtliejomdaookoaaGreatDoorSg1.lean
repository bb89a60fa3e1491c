/- A part of the proof: Q1 Q2 Q3 Q4 Q5 Q6 Qt SH R R1 R2 U S1 S2 S3 S4 S5 S6 S7 S8 S10 LV T1 ZR T2 T3 T4: each text has a comment of its own. -/
import Derived.Test.YtliejomdaookoaaGreatDoorSg0
import Derived.Shelf.Strings.Builder1
import Derived.Shelf.Strings.Builder2
import Derived.Shelf.Strings.OnBuilder
import Derived.Shelf.Small.Strs
import Derived.Shelf.Strconv.Itoa0
import Derived.Shelf.Strconv.Itoa1
import Derived.Shelf.LaysM
import Derived.Shelf.Strconv.Itoa2
import Derived.Shelf.Strconv.Itoa3
import Derived.Shelf.Strings.Search1
import Derived.Shelf.Strings.Search2
import Derived.Shelf.Strings.Search3
import Derived.Shelf.Strings.Count
import Derived.Shelf.Strings.Shaped
import Derived.Shelf.Strings.Split
import Derived.Shelf.Strings.Replace
import Derived.Shelf.Unicode.DecodeSlow
import Derived.Test.YtliejomdaookoaaGreatDoorProg
import Derived.Lib.SplitLaws
import Derived.Lib.IndexBytes
import Derived.Lib.Bytealg
import Derived.KernelRfl
import Derived.ChangeArms
import Derived.WalkKit
import Derived.ProofKit
set_option linter.unusedVariables false
set_option linter.unusedSimpArgs false
set_option linter.constructorNameAsVariable false
set_option maxRecDepth 100000
namespace Go.Dd
open Go.Proofs
noncomputable section
variable (r : RT) (n : Nat) (args : List DV) (h : Hp)
def s26 (r : RT) (n : Nat) (x0 x1 : DV) (h0 : Hp) : aG :=
 bnd (cG fF h0) fun v1 h1 =>
 bnd (r 48 [x0] h1) fun v2 h2 =>
 bnd (aM 0 v2 h2) fun v3 h3 =>
 bnd (aM 1 v2 h3) fun v4 h4 =>
 bnd (aM 2 v2 h4) fun v5 h5 =>
 bnd (aP .neq v5 (aJ 0) h5) fun v6 h6 =>
 cE v6 (
 bnd (cM fF [] h6) fun v7 h7 =>
 bnd (aC 6 v1 v7 h7) fun _ h8 =>
 bnd (aE 6 v1 h8) fun v9 _ =>
 some (.t [v9, v4, v5], h8)) (
 bnd (cM [.l0, (aJ 0), (aJ 0), (aJ 0)] [(0, 1, v3)] h6) fun v10 h10 =>
 bnd (iH v10 h10) fun v11 h11 =>
 bnd (dP CF r x1 [v11] h11) fun v12 h12 =>
 bnd (cG fF h12) fun v13 h13 =>
 bnd (aC 6 v13 v12 h13) fun _ h14 =>
 bnd (r 49 [v11] h14) fun v15 h15 =>
 bnd (aA 4 v13 h15) fun v16 h16 =>
 bnd (aC 1 v16 v15 h16) fun _ h17 =>
 bnd (r 50 [v11] h17) fun v18 h18 =>
 bnd (aA 5 v13 h18) fun v19 h19 =>
 bnd (aC 1 v19 v18 h19) fun _ h20 =>
 bnd (r 51 [v11, (aJ 0), (.s [])] h20) fun v21 h21 =>
 bnd (bV v11 h21) fun v22 h22 =>
 bnd (aA 3 v22 h22) fun v23 h23 =>
 bnd (aB v23 h23) fun v24 h24 =>
 bnd (aP .neq v24 (aJ 0) h24) fun v25 h25 =>
 cE v25 (
 bnd (cM fF [] h25) fun v26 h26 =>
 bnd (bV v11 h26) fun v27 h27 =>
 bnd (aA 2 v27 h27) fun v28 h28 =>
 bnd (aB v28 h28) fun v29 h29 =>
 bnd (bV v11 h29) fun v30 h30 =>
 bnd (aA 3 v30 h30) fun v31 h31 =>
 bnd (aB v31 h31) fun v32 h32 =>
 bnd (aC 6 v1 v26 h32) fun v33 h33 =>
 cnd (cB (aB v31 h33) v32 && (cB (aB v28 h33) v29 && true)) (
 bnd (aE 6 v1 h33) fun v34 _ =>
 some (.t [v34, v29, v32], h33))) (
 bnd (aE 6 v13 h25) fun v35 h35 =>
 bnd (aC 6 v1 v35 h35) fun _ h36 =>
 bnd (aE 6 v1 h36) fun v37 _ =>
 some (.t [v37, (aJ 0), (aJ 0)], h36)))
abbrev c26 : Code := cf Tryz.f26
abbrev r26 : K := bU CF Tryz.f26
def D26 (r : RT) (n : Nat) (c : Code) (X : Nat → K) (k : K) : K := aU CF r 52 n c X r26 k
theorem bMz : D26 r n c26 x0 r26 = (K2 (s26 r n) 0 1) :=
 (by kernel_rfl)
theorem bJq : aN CF r n 26 args h = s26 r n (bB args 0) (bB args 1) h :=
 fE (bMz r n) args h (by kernel_rfl) (by kernel_rfl)
def s27 (r : RT) (n : Nat) (x0 : DV) (h0 : Hp) : aG :=
 bnd (cG fF h0) fun v1 h1 =>
 bnd (cM fF [(0, 1, (aJ 11)), (1, 1, (.s [100, 111, 73, 116]))] h1) fun v2 h2 =>
 bnd (aC 6 v1 v2 h2) fun _ h3 =>
 bnd (aE 6 v1 h3) fun v4 _ =>
 some (v4, h3)
abbrev c27 : Code := cf Tryz.f27
abbrev r27 : K := bU CF Tryz.f27
def D27 (r : RT) (n : Nat) (c : Code) (X : Nat → K) (k : K) : K := aU CF r 4 n c X r27 k
theorem bOe : D27 r n c27 x0 r27 = (K1 (s27 r n) 0) :=
 (by kernel_rfl)
theorem bLp : aN CF r n 27 args h = s27 r n (bB args 0) h :=
 fE (bOe r n) args h (by kernel_rfl) (by kernel_rfl)
def s32 (r : RT) (n : Nat) (x0 : DV) (h0 : Hp) : aG :=
 bnd (r 57 [x0, (.i .u8 (Int.ofNat 58))] h0) fun v1 h1 =>
 bnd (aP .geq v1 (aJ 0) h1) fun v2 h2 =>
 cE v2 (
 some ((aJ 3), h2)) (
 bnd (gF .neq x0 (.s []) h2) fun v3 h3 =>
 bnd (gD v3 true (some (x0, h3)) h3) fun v4 h4 =>
 bnd (gD v3 true (dX v4 (aJ 0) h4) h4) fun v5 h5 =>
 bnd (gD v3 true (aP .geq v5 (.i .u8 (Int.ofNat 97)) h5) h5) fun v6 h6 =>
 bnd (gD v3 true (some (v6, h6)) h6) fun v7 h7 =>
 bnd (gD v7 true (some (x0, h7)) h7) fun v8 h8 =>
 bnd (gD v7 true (dX v8 (aJ 0) h8) h8) fun v9 h9 =>
 bnd (gD v7 true (aP .leq v9 (.i .u8 (Int.ofNat 122)) h9) h9) fun v10 h10 =>
 bnd (gD v3 true (bZ v7 v10 (.b false) h10) h10) fun v11 h11 =>
 bnd (gD v3 true (some (v11, h11)) h11) fun v12 h12 =>
 bnd (gD v12 false (some (x0, h12)) h12) fun v13 h13 =>
 bnd (gD v12 false (dX v13 (aJ 0) h13) h13) fun v14 h14 =>
 bnd (gD v12 false (aP .geq v14 (.i .u8 (Int.ofNat 65)) h14) h14) fun v15 h15 =>
 bnd (gD v12 false (some (v15, h15)) h15) fun v16 h16 =>
 bnd (gD v16 true (some (x0, h16)) h16) fun v17 h17 =>
 bnd (gD v16 true (dX v17 (aJ 0) h17) h17) fun v18 h18 =>
 bnd (gD v16 true (aP .leq v18 (.i .u8 (Int.ofNat 90)) h18) h18) fun v19 h19 =>
 bnd (gD v12 false (bZ v16 v19 (.b false) h19) h19) fun v20 h20 =>
 bnd (gD v3 true (bZ v12 (.b true) v20 h20) h20) fun v21 h21 =>
 bnd (bZ v3 v21 (.b false) h21) fun v22 h22 =>
 cE v22 (
 some ((aJ 1), h22)) (
 some ((aJ 2), h22)))
abbrev c32 : Code := cf Tryz.f32
abbrev r32 : K := bU CF Tryz.f32
def D32 (r : RT) (n : Nat) (c : Code) (X : Nat → K) (k : K) : K := aU CF r 30 n c X r32 k
theorem bLz : D32 r n c32 x0 r32 = (K1 (s32 r n) 0) :=
 (by kernel_rfl)
theorem bIi : aN CF r n 32 args h = s32 r n (bB args 0) h :=
 fE (bLz r n) args h (by kernel_rfl) (by kernel_rfl)
def s33 (r : RT) (n : Nat) (x0 : DV) (h0 : Hp) : aG :=
 bnd (r 58 [x0, (.s [58])] h0) fun v1 h1 =>
 bnd (gZ v1 h1) fun v2 h2 =>
 bnd (aP .sub v2 (aJ 1) h2) fun v3 h3 =>
 bnd (cQ 1 v1 none (some v3) h3) fun v4 h4 =>
 some (v4, h4)
abbrev c33 : Code := cf Tryz.f33
abbrev r33 : K := bU CF Tryz.f33
def D33 (r : RT) (n : Nat) (c : Code) (X : Nat → K) (k : K) : K := aU CF r 11 n c X r33 k
theorem bNa : D33 r n c33 x0 r33 = (K1 (s33 r n) 0) :=
 (by kernel_rfl)
theorem bLe : aN CF r n 33 args h = s33 r n (bB args 0) h :=
 fE (bNa r n) args h (by kernel_rfl) (by kernel_rfl)
def fI (r : RT) (n : Nat) (x1 x7 : DV) (h0 : Hp) : aG :=
 bnd (kI [x7, x1] h0) fun v1 h1 =>
 some (v1, h1)
def oM (r : RT) (n : Nat) (kk5 : TT6) (x1 x2 x7 x10 x11 x12 : DV) (h0 : Hp) : aG :=
 bnd (aP .lss x12 x11 h0) fun v1 h1 =>
 cE v1 (
 bnd (aZ 6 x10 x12 h1) fun v2 h2 =>
 bnd (aE 6 v2 h2) fun v3 h3 =>
 bnd (cG fF h3) fun v4 h4 =>
 bnd (aC 6 v4 v3 h4) fun _ h5 =>
 bnd (aE 6 v4 h5) fun v6 h6 =>
 bnd (dP CF r x2 [v6] h6) fun v7 h7 =>
 bnd (aO [(.s [])] 1 [(0, 1, v7)] h7) fun v8 h8 =>
 bnd (bN 1 16 x7 v8 h8) fun v9 h9 =>
 bnd (aP .add x12 (aJ 1) h9) fun v10 h10 =>
      kk5 x1 x2 v9 x10 x11 v10 h10) (
      fI r n x1 x7 h1)
def jU (r : RT) (n : Nat) (m : Nat) : TT6 :=
 Nat.rec (motive := fun _ => TT6) (fun _ _ _ _ _ _ _ => none) (fun _ ih => oM r n ih) m
def aKp (r : RT) (n : Nat) : TT6 := jU r n n
def aFp (r : RT) (n : Nat) (x1 x2 x7 x10 x11 x12 : DV) (h0 : Hp) : aG :=
 aKp r n x1 x2 x7 x10 x11 x12 h0
def aEx (r : RT) (n : Nat) (x0 x1 x2 x7 : DV) (h0 : Hp) : aG :=
 bnd (gZ x0 h0) fun v1 h1 =>
  aFp r n x1 x2 x7 x0 v1 (aJ 0) h1
def aHz (r : RT) (n : Nat) (x0 x1 x2 : DV) (h0 : Hp) : aG :=
 aEx r n x0 x1 x2 .l0 h0
def s35 (r : RT) (n : Nat) (x0 x1 x2 : DV) (h0 : Hp) : aG :=
 aHz r n x0 x1 x2 h0
abbrev c35 : Code := cf Tryz.f35
abbrev aGf := cR c35
abbrev aFg := cR aGf
abbrev bIy := cR aFg
abbrev zI := cL aFg
abbrev aPo := cR zI
abbrev aEg := cL aPo
abbrev rK := cL aEg
abbrev bAd := cL zI
abbrev bAv := cL aGf
abbrev aMn := cL c35
abbrev r35 : K := bU CF Tryz.f35
def D35 (r : RT) (n : Nat) (c : Code) (X : Nat → K) (k : K) : K := aU CF r 26 n c X r35 k
theorem bEq : D35 r n bIy x0 r35 = (K2 (fI r n) 1 7) := by kernel_rfl
theorem aYd (kk5 : TT6) : D35 r n rK (xs x0 0 (K2 (fI r n) 1 7)) (K6 kk5 1 2 7 10 11 12) = (K6 (oM r n kk5) 1 2 7 10 11 12) := by kernel_rfl
theorem aWi (m : Nat) : aR (fun kk => D35 r n rK (xs x0 0 (K2 (fI r n) 1 7)) kk) m = (K6 (jU r n m) 1 2 7 10 11 12) := by
 induction m with
 | zero => exact (by kernel_rfl : aR (fun kk => D35 r n rK (xs x0 0 (K2 (fI r n) 1 7)) kk) 0 = (K6 (jU r n 0) 1 2 7 10 11 12))
 | succ m ih =>
  refine (by kernel_rfl : aR (fun kk => D35 r n rK (xs x0 0 (K2 (fI r n) 1 7)) kk) (m + 1) = D35 r n rK (xs x0 0 (K2 (fI r n) 1 7)) (aR (fun kk => D35 r n rK (xs x0 0 (K2 (fI r n) 1 7)) kk) m)).trans ?_
  rw [ih]
  exact (aYd r n (jU r n m)).trans (by kernel_rfl)
theorem bDq : D35 r n aEg (xs x0 0 (K2 (fI r n) 1 7)) (K2 (fI r n) 1 7) = (K6 (aKp r n) 1 2 7 10 11 12) :=
 (by kernel_rfl : D35 r n aEg (xs x0 0 (K2 (fI r n) 1 7)) (K2 (fI r n) 1 7) = aR (fun kk => D35 r n rK (xs x0 0 (K2 (fI r n) 1 7)) kk) n).trans ((aWi r n n).trans (by kernel_rfl))
theorem bGv : D35 r n aPo x0 (K2 (fI r n) 1 7) = (K6 (aFp r n) 1 2 7 10 11 12) :=
 (by kernel_rfl : D35 r n aPo x0 (K2 (fI r n) 1 7) = D35 r n aEg (xs x0 0 (K2 (fI r n) 1 7)) (K2 (fI r n) 1 7)).trans
 ((bDq r n).trans (by kernel_rfl))
theorem aVa : D35 r n aFg x0 r35 = D35 r n zI x0 (K2 (fI r n) 1 7) :=
 congrArg (fun k => D35 r n zI x0 k) (bEq r n)
theorem aUq : D35 r n zI x0 (K2 (fI r n) 1 7) = D35 r n bAd x0 (K6 (aFp r n) 1 2 7 10 11 12) :=
 congrArg (fun k => D35 r n bAd x0 k) (bGv r n)
theorem bEn : D35 r n aFg x0 r35 = (K4 (aEx r n) 0 1 2 7) :=
 (aVa r n).trans
 ((aUq r n).trans
 ((by kernel_rfl)))
theorem aXh : D35 r n aGf x0 r35 = D35 r n bAv x0 (K4 (aEx r n) 0 1 2 7) :=
 congrArg (fun k => D35 r n bAv x0 k) (bEn r n)
theorem bCw : D35 r n aGf x0 r35 = (K3 (aHz r n) 0 1 2) :=
 (aXh r n).trans
 ((by kernel_rfl))
theorem bJp : D35 r n c35 x0 r35 = D35 r n aMn x0 (K3 (aHz r n) 0 1 2) :=
 congrArg (fun k => D35 r n aMn x0 k) (bCw r n)
theorem bLw : D35 r n c35 x0 r35 = (K3 (s35 r n) 0 1 2) :=
 (bJp r n).trans
 ((by kernel_rfl))
theorem bIx : aN CF r n 35 args h = s35 r n (bB args 0) (bB args 1) (bB args 2) h :=
 fE (bLw r n) args h (by kernel_rfl) (by kernel_rfl)
def aD (r : RT) (n : Nat) (x1 : DV) (h0 : Hp) : aG :=
 bnd (aA 1 x1 h0) fun v1 h1 =>
 bnd (aB v1 h1) fun v2 h2 =>
 some (v2, h2)
def xE (r : RT) (n : Nat) (x1 x3 : DV) (h0 : Hp) : aG :=
 bnd (aE 6 x1 h0) fun v1 h1 =>
 bnd (r 21 [v1] h1) fun v2 h2 =>
 bnd (aO [(.s []), (.s []), (.s []), (.s [])] 4 [(0, 1, (.s [91])), (1, 1, x3), (2, 1, v2), (3, 1, (.s [93]))] h2) fun v3 h3 =>
 bnd (r 19 [v3] h3) fun v4 h4 =>
 some (v4, h4)
def dM (r : RT) (n : Nat) (x1 x3 : DV) (h0 : Hp) : aG :=
 bnd (gF .neq x3 (.s []) h0) fun v1 h1 =>
 cE v1 (
 bnd (aO [(.s []), (.s [])] 2 [(0, 1, x3), (1, 1, (.s [124, 32]))] h1) fun v2 h2 =>
 bnd (r 19 [v2] h2) fun v3 h3 =>
  xE r n x1 v3 h3) (
  xE r n x1 x3 h1)
def lJ (r : RT) (n : Nat) (kk26 : TT5) (x1 x3 x64 x65 x66 : DV) (h0 : Hp) : aG :=
 bnd (aP .lss x66 x65 h0) fun v1 h1 =>
 cE v1 (
 bnd (aZ 1 x64 x66 h1) fun v2 h2 =>
 bnd (aB v2 h2) fun v3 h3 =>
 bnd (aO [(.s []), (.s []), (.s []), (.s [])] 4 [(0, 1, x3), (1, 1, (.s [58])), (2, 1, v3), (3, 1, (.s [32]))] h3) fun v4 h4 =>
 bnd (r 19 [v4] h4) fun v5 h5 =>
 bnd (aP .add x66 (aJ 1) h5) fun v6 h6 =>
      kk26 x1 v5 x64 x65 v6 h6) (
      dM r n x1 x3 h1)
def iC (r : RT) (n : Nat) (m : Nat) : TT5 :=
 Nat.rec (motive := fun _ => TT5) (fun _ _ _ _ _ _ => none) (fun _ ih => lJ r n ih) m
def aCc (r : RT) (n : Nat) : TT5 := iC r n n
def yM (r : RT) (n : Nat) (x1 x3 x64 x65 x66 : DV) (h0 : Hp) : aG :=
 aCc r n x1 x3 x64 x65 x66 h0
def wB (r : RT) (n : Nat) (x1 x3 : DV) (h0 : Hp) : aG :=
 bnd (aA 3 x1 h0) fun v1 h1 =>
 bnd (aB v1 h1) fun v2 h2 =>
 bnd (gZ v2 h2) fun v3 h3 =>
  yM r n x1 x3 v2 v3 (aJ 0) h3
def aDt (r : RT) (n : Nat) (x1 : DV) (h0 : Hp) : aG :=
 wB r n x1 (.s []) h0
def qJ (r : RT) (n : Nat) (x1 x61 : DV) (h0 : Hp) : aG :=
 cE x61 (
  aDt r n x1 h0) (
  aD r n x1 h0)
def aDl (r : RT) (n : Nat) (x1 x7 : DV) (h0 : Hp) : aG :=
 bnd (aP .eql x7 (aJ 9) h0) fun v1 h1 =>
  qJ r n x1 v1 h1
def sW (r : RT) (n : Nat) (x1 x7 x56 : DV) (h0 : Hp) : aG :=
 cE x56 (
 bnd (aA 5 x1 h0) fun v1 h1 =>
 bnd (aB v1 h1) fun v2 h2 =>
 bnd (r 62 [v2] h2) fun v3 h3 =>
 some (v3, h3)) (
  aDl r n x1 x7 h0)
def aCk (r : RT) (n : Nat) (x1 x7 : DV) (h0 : Hp) : aG :=
 bnd (aP .eql x7 (aJ 8) h0) fun v1 h1 =>
  sW r n x1 x7 v1 h1
def qN (r : RT) (n : Nat) (x1 x7 x49 : DV) (h0 : Hp) : aG :=
 cE x49 (
 bnd (aA 1 x1 h0) fun v1 h1 =>
 bnd (aB v1 h1) fun v2 h2 =>
 bnd (aA 5 x1 h2) fun v3 h3 =>
 bnd (aB v3 h3) fun v4 h4 =>
 bnd (r 61 [v2, v4] h4) fun v5 h5 =>
 some (v5, h5)) (
  aCk r n x1 x7 h0)
def aCa (r : RT) (n : Nat) (x1 x7 : DV) (h0 : Hp) : aG :=
 bnd (aP .eql x7 (aJ 7) h0) fun v1 h1 =>
  qN r n x1 x7 v1 h1
def sU (r : RT) (n : Nat) (x1 x7 x42 : DV) (h0 : Hp) : aG :=
 cE x42 (
 bnd (aA 5 x1 h0) fun v1 h1 =>
 bnd (aB v1 h1) fun v2 h2 =>
 bnd (r 35 [v2, (.s []), (.f 36 [] [])] h2) fun v3 h3 =>
 bnd (aO [(.s []), (.s [])] 2 [(0, 1, (.s [94])), (1, 1, v3)] h3) fun v4 h4 =>
 bnd (r 19 [v4] h4) fun v5 h5 =>
 some (v5, h5)) (
  aCa r n x1 x7 h0)
def aDr (r : RT) (n : Nat) (x1 x7 : DV) (h0 : Hp) : aG :=
 bnd (aP .eql x7 (aJ 10) h0) fun v1 h1 =>
  sU r n x1 x7 v1 h1
def sS (r : RT) (n : Nat) (x1 x7 x33 : DV) (h0 : Hp) : aG :=
 cE x33 (
 bnd (aA 1 x1 (iI 1 h0)) fun v1 h1 =>
 bnd (aB v1 h1) fun v2 h2 =>
 bnd (aA 5 x1 h2) fun v3 h3 =>
 bnd (aB v3 h3) fun v4 h4 =>
 bnd (r 35 [v4, (.s []), (.f 36 [] [])] h4) fun v5 h5 =>
 cnd (cB (aB v1 h5) v2 && true) (
 bnd (bE (dH 0 h0.next) [(.s []), (.s []), (.s [])] 3 [(0, 1, v2), (1, 1, (.s [32, 58, 61, 32])), (2, 1, v5)] h5) fun v6 h6 =>
 bnd (r 19 [v6] h6) fun v7 h7 =>
 some (v7, h7))) (
  aDr r n x1 x7 h0)
def aDe (r : RT) (n : Nat) (x1 x7 : DV) (h0 : Hp) : aG :=
 bnd (aP .eql x7 (aJ 6) h0) fun v1 h1 =>
  sS r n x1 x7 v1 h1
def rX (r : RT) (n : Nat) (x1 x7 x26 : DV) (h0 : Hp) : aG :=
 cE x26 (
 bnd (aA 5 x1 h0) fun v1 h1 =>
 bnd (aB v1 h1) fun v2 h2 =>
 bnd (r 35 [v2, (.s [32]), (.f 36 [] [])] h2) fun v3 h3 =>
 bnd (aO [(.s []), (.s []), (.s [])] 3 [(0, 1, (.s [35, 40])), (1, 1, v3), (2, 1, (.s [41]))] h3) fun v4 h4 =>
 bnd (r 19 [v4] h4) fun v5 h5 =>
 some (v5, h5)) (
  aDe r n x1 x7 h0)
def aQc (r : RT) (n : Nat) (x1 x7 : DV) (h0 : Hp) : aG :=
 bnd (aP .eql x7 (aJ 4) h0) fun v1 h1 =>
  rX r n x1 x7 v1 h1
def zC (r : RT) (n : Nat) (x1 x7 x20 : DV) (h0 : Hp) : aG :=
 cE x20 (
 bnd (aA 1 x1 h0) fun v1 h1 =>
 bnd (aB v1 h1) fun v2 h2 =>
 bnd (aO [(.s []), (.s [])] 2 [(0, 1, (.s [35])), (1, 1, v2)] h2) fun v3 h3 =>
 bnd (r 19 [v3] h3) fun v4 h4 =>
 some (v4, h4)) (
  aQc r n x1 x7 h0)
def aOu (r : RT) (n : Nat) (x1 x7 : DV) (h0 : Hp) : aG :=
 bnd (aP .eql x7 (aJ 3) h0) fun v1 h1 =>
  zC r n x1 x7 v1 h1
def aAb (r : RT) (n : Nat) (x1 x7 x13 : DV) (h0 : Hp) : aG :=
 cE x13 (
 bnd (aA 1 x1 h0) fun v1 h1 =>
 bnd (aB v1 h1) fun v2 h2 =>
 bnd (uZ [v2, (.s [39]), (.s [39, 39])] h2) fun v3 h3 =>
 bnd (aO [(.s []), (.s []), (.s [])] 3 [(0, 1, (.s [39])), (1, 1, v3), (2, 1, (.s [39]))] h3) fun v4 h4 =>
 bnd (r 19 [v4] h4) fun v5 h5 =>
 some (v5, h5)) (
  aOu r n x1 x7 h0)
def aSt (r : RT) (n : Nat) (x1 x7 : DV) (h0 : Hp) : aG :=
 bnd (aP .eql x7 (aJ 2) h0) fun v1 h1 =>
  aAb r n x1 x7 v1 h1
def aAi (r : RT) (n : Nat) (x1 x7 x8 : DV) (h0 : Hp) : aG :=
 cE x8 (
 bnd (aA 2 x1 h0) fun v1 h1 =>
 bnd (aB v1 h1) fun v2 h2 =>
 bnd (vB [v2] h2) fun v3 h3 =>
 some (v3, h3)) (
  aSt r n x1 x7 h0)
def aFy (r : RT) (n : Nat) (x1 x7 : DV) (h0 : Hp) : aG :=
 bnd (aP .eql x7 (aJ 1) h0) fun v1 h1 =>
  aAi r n x1 x7 v1 h1
def aGq (r : RT) (n : Nat) (x1 : DV) (h0 : Hp) : aG :=
 bnd (aA 0 x1 h0) fun v1 h1 =>
 bnd (aB v1 h1) fun v2 h2 =>
  aFy r n x1 v2 h2
def s36 (r : RT) (n : Nat) (x0 : DV) (h0 : Hp) : aG :=
 bnd (iH x0 h0) fun v1 h1 =>
  aGq r n v1 h1
abbrev c36 : Code := cf Tryz.f36
abbrev aGs := cR c36
abbrev bIg := cR aGs
abbrev zX := cL aGs
abbrev aRp := cR zX
abbrev aHh := cL aRp
abbrev zH := cR aHh
abbrev zG := cR zH
abbrev aBs := cR zG
abbrev aBu := cR aBs
abbrev qW := cR aBu
abbrev sF := cR qW
abbrev qQ := cR sF
abbrev sE := cR qQ
abbrev tI := cR sE
abbrev rR := cR tI
abbrev rG := cR rR
abbrev rB := cR rG
abbrev sG := cR rB
abbrev rW := cR sG
abbrev rT := cR rW
abbrev rN := cR rT
abbrev rP := cR rN
abbrev sC := cL rP
abbrev xF := cR sC
abbrev bGs := cR xF
abbrev rM := cL xF
abbrev aDx := cR rM
abbrev wL := cL aDx
abbrev lZ := cL wL
abbrev aSf := cL rM
abbrev aSx := cL sC
abbrev bDz := cR rP
abbrev aPx := cL rN
abbrev bCi := cL rT
abbrev aOf := cL rW
abbrev bDx := cL sG
abbrev aLt := cL rB
abbrev bCm := cL rG
abbrev aNu := cL rR
abbrev bHb := cL tI
abbrev aLr := cL sE
abbrev bHj := cL qQ
abbrev aMb := cL sF
abbrev bDc := cL qW
abbrev aKf := cL aBu
abbrev bGu := cL aBs
abbrev aMy := cL zG
abbrev bFo := cL zH
abbrev aQi := cL aHh
abbrev aPm := cL zX
abbrev aOs := cL c36
abbrev r36 : K := bU CF Tryz.f36
def D36 (r : RT) (n : Nat) (c : Code) (X : Nat → K) (k : K) : K := aU CF r 87 n c X r36 k
theorem bEy : D36 r n bIg x0 r36 = (K1 (aD r n) 1) := by kernel_rfl
theorem aXn : D36 r n bGs (xs x0 0 (K1 (aD r n) 1)) (K1 (aD r n) 1) = (K2 (dM r n) 1 3) := by kernel_rfl
theorem aRx (kk26 : TT5) : D36 r n lZ (xs (xs x0 0 (K1 (aD r n) 1)) 1 (K2 (dM r n) 1 3)) (K5 kk26 1 3 64 65 66) = (K5 (lJ r n kk26) 1 3 64 65 66) := by kernel_rfl
theorem aQg (m : Nat) : aR (fun kk => D36 r n lZ (xs (xs x0 0 (K1 (aD r n) 1)) 1 (K2 (dM r n) 1 3)) kk) m = (K5 (iC r n m) 1 3 64 65 66) := by
 induction m with
 | zero => exact (by kernel_rfl : aR (fun kk => D36 r n lZ (xs (xs x0 0 (K1 (aD r n) 1)) 1 (K2 (dM r n) 1 3)) kk) 0 = (K5 (iC r n 0) 1 3 64 65 66))
 | succ m ih =>
  refine (by kernel_rfl : aR (fun kk => D36 r n lZ (xs (xs x0 0 (K1 (aD r n) 1)) 1 (K2 (dM r n) 1 3)) kk) (m + 1) = D36 r n lZ (xs (xs x0 0 (K1 (aD r n) 1)) 1 (K2 (dM r n) 1 3)) (aR (fun kk => D36 r n lZ (xs (xs x0 0 (K1 (aD r n) 1)) 1 (K2 (dM r n) 1 3)) kk) m)).trans ?_
  rw [ih]
  exact (aRx r n (iC r n m)).trans (by kernel_rfl)
theorem aXc : D36 r n wL (xs (xs x0 0 (K1 (aD r n) 1)) 1 (K2 (dM r n) 1 3)) (K2 (dM r n) 1 3) = (K5 (aCc r n) 1 3 64 65 66) :=
 (by kernel_rfl : D36 r n wL (xs (xs x0 0 (K1 (aD r n) 1)) 1 (K2 (dM r n) 1 3)) (K2 (dM r n) 1 3) = aR (fun kk => D36 r n lZ (xs (xs x0 0 (K1 (aD r n) 1)) 1 (K2 (dM r n) 1 3)) kk) n).trans ((aQg r n n).trans (by kernel_rfl))
theorem aXk : D36 r n aDx (xs x0 0 (K1 (aD r n) 1)) (K2 (dM r n) 1 3) = (K5 (yM r n) 1 3 64 65 66) :=
 (by kernel_rfl : D36 r n aDx (xs x0 0 (K1 (aD r n) 1)) (K2 (dM r n) 1 3) = D36 r n wL (xs (xs x0 0 (K1 (aD r n) 1)) 1 (K2 (dM r n) 1 3)) (K2 (dM r n) 1 3)).trans
 ((aXc r n).trans (by kernel_rfl))
theorem aKb : D36 r n xF (xs x0 0 (K1 (aD r n) 1)) (K1 (aD r n) 1) = D36 r n rM (xs x0 0 (K1 (aD r n) 1)) (K2 (dM r n) 1 3) :=
 congrArg (fun k => D36 r n rM (xs x0 0 (K1 (aD r n) 1)) k) (aXn r n)
theorem aLe : D36 r n rM (xs x0 0 (K1 (aD r n) 1)) (K2 (dM r n) 1 3) = D36 r n aSf (xs x0 0 (K1 (aD r n) 1)) (K5 (yM r n) 1 3 64 65 66) :=
 congrArg (fun k => D36 r n aSf (xs x0 0 (K1 (aD r n) 1)) k) (aXk r n)
theorem aTl : D36 r n xF (xs x0 0 (K1 (aD r n) 1)) (K1 (aD r n) 1) = (K2 (wB r n) 1 3) :=
 (aKb r n).trans
 ((aLe r n).trans
 ((by kernel_rfl)))
theorem aJt : D36 r n sC (xs x0 0 (K1 (aD r n) 1)) (K1 (aD r n) 1) = D36 r n aSx (xs x0 0 (K1 (aD r n) 1)) (K2 (wB r n) 1 3) :=
 congrArg (fun k => D36 r n aSx (xs x0 0 (K1 (aD r n) 1)) k) (aTl r n)
theorem aZw : D36 r n sC (xs x0 0 (K1 (aD r n) 1)) (K1 (aD r n) 1) = (K1 (aDt r n) 1) :=
 (aJt r n).trans
 ((by kernel_rfl))
theorem aWm : D36 r n rP (xs x0 0 (K1 (aD r n) 1)) (K1 (aD r n) 1) = (K2 (qJ r n) 1 61) :=
 (by kernel_rfl : D36 r n rP (xs x0 0 (K1 (aD r n) 1)) (K1 (aD r n) 1) = (fun (env : eY) (h : Hp) => cE (opr env (cC rP)) (D36 r n sC (xs x0 0 (K1 (aD r n) 1)) (K1 (aD r n) 1) env h) (D36 r n bDz (xs x0 0 (K1 (aD r n) 1)) (K1 (aD r n) 1) env h))).trans (by rw [aZw r n]; kernel_rfl)
theorem aRb : D36 r n rN (xs x0 0 (K1 (aD r n) 1)) (K1 (aD r n) 1) = D36 r n aPx (xs x0 0 (K1 (aD r n) 1)) (K2 (qJ r n) 1 61) :=
 congrArg (fun k => D36 r n aPx (xs x0 0 (K1 (aD r n) 1)) k) (aWm r n)
theorem aZe : D36 r n rN (xs x0 0 (K1 (aD r n) 1)) (K1 (aD r n) 1) = (K2 (aDl r n) 1 7) :=
 (aRb r n).trans
 ((by kernel_rfl))
theorem aZo : D36 r n rT (xs x0 0 (K1 (aD r n) 1)) (K1 (aD r n) 1) = (K3 (sW r n) 1 7 56) :=
 (by kernel_rfl : D36 r n rT (xs x0 0 (K1 (aD r n) 1)) (K1 (aD r n) 1) = (fun (env : eY) (h : Hp) => cE (opr env (cC rT)) (D36 r n bCi (xs x0 0 (K1 (aD r n) 1)) (K1 (aD r n) 1) env h) (D36 r n rN (xs x0 0 (K1 (aD r n) 1)) (K1 (aD r n) 1) env h))).trans (by rw [aZe r n]; kernel_rfl)
theorem aQv : D36 r n rW (xs x0 0 (K1 (aD r n) 1)) (K1 (aD r n) 1) = D36 r n aOf (xs x0 0 (K1 (aD r n) 1)) (K3 (sW r n) 1 7 56) :=
 congrArg (fun k => D36 r n aOf (xs x0 0 (K1 (aD r n) 1)) k) (aZo r n)
theorem aZa : D36 r n rW (xs x0 0 (K1 (aD r n) 1)) (K1 (aD r n) 1) = (K2 (aCk r n) 1 7) :=
 (aQv r n).trans
 ((by kernel_rfl))
theorem aYo : D36 r n sG (xs x0 0 (K1 (aD r n) 1)) (K1 (aD r n) 1) = (K3 (qN r n) 1 7 49) :=
 (by kernel_rfl : D36 r n sG (xs x0 0 (K1 (aD r n) 1)) (K1 (aD r n) 1) = (fun (env : eY) (h : Hp) => cE (opr env (cC sG)) (D36 r n bDx (xs x0 0 (K1 (aD r n) 1)) (K1 (aD r n) 1) env h) (D36 r n rW (xs x0 0 (K1 (aD r n) 1)) (K1 (aD r n) 1) env h))).trans (by rw [aZa r n]; kernel_rfl)
theorem aJg : D36 r n rB (xs x0 0 (K1 (aD r n) 1)) (K1 (aD r n) 1) = D36 r n aLt (xs x0 0 (K1 (aD r n) 1)) (K3 (qN r n) 1 7 49) :=
 congrArg (fun k => D36 r n aLt (xs x0 0 (K1 (aD r n) 1)) k) (aYo r n)
theorem aWt : D36 r n rB (xs x0 0 (K1 (aD r n) 1)) (K1 (aD r n) 1) = (K2 (aCa r n) 1 7) :=
 (aJg r n).trans
 ((by kernel_rfl))
theorem aWp : D36 r n rG (xs x0 0 (K1 (aD r n) 1)) (K1 (aD r n) 1) = (K3 (sU r n) 1 7 42) :=
 (by kernel_rfl : D36 r n rG (xs x0 0 (K1 (aD r n) 1)) (K1 (aD r n) 1) = (fun (env : eY) (h : Hp) => cE (opr env (cC rG)) (D36 r n bCm (xs x0 0 (K1 (aD r n) 1)) (K1 (aD r n) 1) env h) (D36 r n rB (xs x0 0 (K1 (aD r n) 1)) (K1 (aD r n) 1) env h))).trans (by rw [aWt r n]; kernel_rfl)
theorem aJj : D36 r n rR (xs x0 0 (K1 (aD r n) 1)) (K1 (aD r n) 1) = D36 r n aNu (xs x0 0 (K1 (aD r n) 1)) (K3 (sU r n) 1 7 42) :=
 congrArg (fun k => D36 r n aNu (xs x0 0 (K1 (aD r n) 1)) k) (aWp r n)
theorem aYc : D36 r n rR (xs x0 0 (K1 (aD r n) 1)) (K1 (aD r n) 1) = (K2 (aDr r n) 1 7) :=
 (aJj r n).trans
 ((by kernel_rfl))
theorem aZl : D36 r n tI (xs x0 0 (K1 (aD r n) 1)) (K1 (aD r n) 1) = (K3 (sS r n) 1 7 33) :=
 (by kernel_rfl : D36 r n tI (xs x0 0 (K1 (aD r n) 1)) (K1 (aD r n) 1) = (fun (env : eY) (h : Hp) => cE (opr env (cC tI)) (D36 r n bHb (xs x0 0 (K1 (aD r n) 1)) (K1 (aD r n) 1) env h) (D36 r n rR (xs x0 0 (K1 (aD r n) 1)) (K1 (aD r n) 1) env h))).trans (by rw [aYc r n]; kernel_rfl)
theorem aIn : D36 r n sE (xs x0 0 (K1 (aD r n) 1)) (K1 (aD r n) 1) = D36 r n aLr (xs x0 0 (K1 (aD r n) 1)) (K3 (sS r n) 1 7 33) :=
 congrArg (fun k => D36 r n aLr (xs x0 0 (K1 (aD r n) 1)) k) (aZl r n)
theorem aUc : D36 r n sE (xs x0 0 (K1 (aD r n) 1)) (K1 (aD r n) 1) = (K2 (aDe r n) 1 7) :=
 (aIn r n).trans
 ((by kernel_rfl))
theorem aVe : D36 r n qQ (xs x0 0 (K1 (aD r n) 1)) (K1 (aD r n) 1) = (K3 (rX r n) 1 7 26) :=
 (by kernel_rfl : D36 r n qQ (xs x0 0 (K1 (aD r n) 1)) (K1 (aD r n) 1) = (fun (env : eY) (h : Hp) => cE (opr env (cC qQ)) (D36 r n bHj (xs x0 0 (K1 (aD r n) 1)) (K1 (aD r n) 1) env h) (D36 r n sE (xs x0 0 (K1 (aD r n) 1)) (K1 (aD r n) 1) env h))).trans (by rw [aUc r n]; kernel_rfl)
theorem aNs : D36 r n sF (xs x0 0 (K1 (aD r n) 1)) (K1 (aD r n) 1) = D36 r n aMb (xs x0 0 (K1 (aD r n) 1)) (K3 (rX r n) 1 7 26) :=
 congrArg (fun k => D36 r n aMb (xs x0 0 (K1 (aD r n) 1)) k) (aVe r n)
theorem bEt : D36 r n sF (xs x0 0 (K1 (aD r n) 1)) (K1 (aD r n) 1) = (K2 (aQc r n) 1 7) :=
 (aNs r n).trans
 ((by kernel_rfl))
theorem bFn : D36 r n qW (xs x0 0 (K1 (aD r n) 1)) (K1 (aD r n) 1) = (K3 (zC r n) 1 7 20) :=
 (by kernel_rfl : D36 r n qW (xs x0 0 (K1 (aD r n) 1)) (K1 (aD r n) 1) = (fun (env : eY) (h : Hp) => cE (opr env (cC qW)) (D36 r n bDc (xs x0 0 (K1 (aD r n) 1)) (K1 (aD r n) 1) env h) (D36 r n sF (xs x0 0 (K1 (aD r n) 1)) (K1 (aD r n) 1) env h))).trans (by rw [bEt r n]; kernel_rfl)
theorem aSu : D36 r n aBu (xs x0 0 (K1 (aD r n) 1)) (K1 (aD r n) 1) = D36 r n aKf (xs x0 0 (K1 (aD r n) 1)) (K3 (zC r n) 1 7 20) :=
 congrArg (fun k => D36 r n aKf (xs x0 0 (K1 (aD r n) 1)) k) (bFn r n)
theorem bGd : D36 r n aBu (xs x0 0 (K1 (aD r n) 1)) (K1 (aD r n) 1) = (K2 (aOu r n) 1 7) :=
 (aSu r n).trans
 ((by kernel_rfl))
theorem bDi : D36 r n aBs (xs x0 0 (K1 (aD r n) 1)) (K1 (aD r n) 1) = (K3 (aAb r n) 1 7 13) :=
 (by kernel_rfl : D36 r n aBs (xs x0 0 (K1 (aD r n) 1)) (K1 (aD r n) 1) = (fun (env : eY) (h : Hp) => cE (opr env (cC aBs)) (D36 r n bGu (xs x0 0 (K1 (aD r n) 1)) (K1 (aD r n) 1) env h) (D36 r n aBu (xs x0 0 (K1 (aD r n) 1)) (K1 (aD r n) 1) env h))).trans (by rw [bGd r n]; kernel_rfl)
theorem aKo : D36 r n zG (xs x0 0 (K1 (aD r n) 1)) (K1 (aD r n) 1) = D36 r n aMy (xs x0 0 (K1 (aD r n) 1)) (K3 (aAb r n) 1 7 13) :=
 congrArg (fun k => D36 r n aMy (xs x0 0 (K1 (aD r n) 1)) k) (bDi r n)
theorem bDk : D36 r n zG (xs x0 0 (K1 (aD r n) 1)) (K1 (aD r n) 1) = (K2 (aSt r n) 1 7) :=
 (aKo r n).trans
 ((by kernel_rfl))
theorem bHl : D36 r n zH (xs x0 0 (K1 (aD r n) 1)) (K1 (aD r n) 1) = (K3 (aAi r n) 1 7 8) :=
 (by kernel_rfl : D36 r n zH (xs x0 0 (K1 (aD r n) 1)) (K1 (aD r n) 1) = (fun (env : eY) (h : Hp) => cE (opr env (cC zH)) (D36 r n bFo (xs x0 0 (K1 (aD r n) 1)) (K1 (aD r n) 1) env h) (D36 r n zG (xs x0 0 (K1 (aD r n) 1)) (K1 (aD r n) 1) env h))).trans (by rw [bDk r n]; kernel_rfl)
theorem aNp : D36 r n aHh (xs x0 0 (K1 (aD r n) 1)) (K1 (aD r n) 1) = D36 r n aQi (xs x0 0 (K1 (aD r n) 1)) (K3 (aAi r n) 1 7 8) :=
 congrArg (fun k => D36 r n aQi (xs x0 0 (K1 (aD r n) 1)) k) (bHl r n)
theorem bGj : D36 r n aRp x0 (K1 (aD r n) 1) = (K2 (aFy r n) 1 7) :=
 (by kernel_rfl : D36 r n aRp x0 (K1 (aD r n) 1) = D36 r n aHh (xs x0 0 (K1 (aD r n) 1)) (K1 (aD r n) 1)).trans
 ((aNp r n).trans
 ((by kernel_rfl)))
theorem aOe : D36 r n aGs x0 r36 = D36 r n zX x0 (K1 (aD r n) 1) :=
 congrArg (fun k => D36 r n zX x0 k) (bEy r n)
theorem aTa : D36 r n zX x0 (K1 (aD r n) 1) = D36 r n aPm x0 (K2 (aFy r n) 1 7) :=
 congrArg (fun k => D36 r n aPm x0 k) (bGj r n)
theorem bGf : D36 r n aGs x0 r36 = (K1 (aGq r n) 1) :=
 (aOe r n).trans
 ((aTa r n).trans
 ((by kernel_rfl)))
theorem bFd : D36 r n c36 x0 r36 = D36 r n aOs x0 (K1 (aGq r n) 1) :=
 congrArg (fun k => D36 r n aOs x0 k) (bGf r n)
theorem bMo : D36 r n c36 x0 r36 = (K1 (s36 r n) 0) :=
 (bFd r n).trans
 ((by kernel_rfl))
theorem bIr : aN CF r n 36 args h = s36 r n (bB args 0) h :=
 fE (bMo r n) args h (by kernel_rfl) (by kernel_rfl)
def s37 (r : RT) (n : Nat) (x0 x1 : DV) (h0 : Hp) : aG :=
 bnd (iH x0 h0) fun v1 h1 =>
 bnd (iH x1 h1) fun v2 h2 =>
 bnd (aA 0 v1 h2) fun v3 h3 =>
 bnd (aB v3 h3) fun v4 h4 =>
 bnd (aA 0 v2 h4) fun v5 h5 =>
 bnd (aB v5 h5) fun v6 h6 =>
 bnd (aP .eql v4 v6 h6) fun v7 h7 =>
 bnd (gD v7 true (aA 1 v1 h7) h7) fun v8 h8 =>
 bnd (gD v7 true (aB v8 h8) h8) fun v9 h9 =>
 bnd (gD v7 true (aA 1 v2 h9) h9) fun v10 h10 =>
 bnd (gD v7 true (aB v10 h10) h10) fun v11 h11 =>
 bnd (gD v7 true (gF .eql v9 v11 h11) h11) fun v12 h12 =>
 bnd (bZ v7 v12 (.b false) h12) fun v13 h13 =>
 bnd (gD v13 true (aA 2 v1 h13) h13) fun v14 h14 =>
 bnd (gD v13 true (aB v14 h14) h14) fun v15 h15 =>
 bnd (gD v13 true (aA 2 v2 h15) h15) fun v16 h16 =>
 bnd (gD v13 true (aB v16 h16) h16) fun v17 h17 =>
 bnd (gD v13 true (aP .eql v15 v17 h17) h17) fun v18 h18 =>
 bnd (bZ v13 v18 (.b false) h18) fun v19 h19 =>
 bnd (gD v19 true (aA 3 v1 h19) h19) fun v20 h20 =>
 bnd (gD v19 true (aB v20 h20) h20) fun v21 h21 =>
 bnd (gD v19 true (aA 3 v2 h21) h21) fun v22 h22 =>
 bnd (gD v19 true (aB v22 h22) h22) fun v23 h23 =>
 bnd (gD v19 true (r 63 [v21, v23] h23) h23) fun v24 h24 =>
 bnd (bZ v19 v24 (.b false) h24) fun v25 h25 =>
 bnd (gD v25 true (aA 4 v1 h25) h25) fun v26 h26 =>
 bnd (gD v25 true (aB v26 h26) h26) fun v27 h27 =>
 bnd (gD v25 true (aA 4 v2 h27) h27) fun v28 h28 =>
 bnd (gD v25 true (aB v28 h28) h28) fun v29 h29 =>
 bnd (gD v25 true (r 63 [v27, v29] h29) h29) fun v30 h30 =>
 bnd (bZ v25 v30 (.b false) h30) fun v31 h31 =>
 bnd (gD v31 true (aA 5 v1 h31) h31) fun v32 h32 =>
 bnd (gD v31 true (aB v32 h32) h32) fun v33 h33 =>
 bnd (gD v31 true (aA 5 v2 h33) h33) fun v34 h34 =>
 bnd (gD v31 true (aB v34 h34) h34) fun v35 h35 =>
 bnd (gD v31 true (r 64 [v33, v35, (.f 37 [] [])] h35) h35) fun v36 h36 =>
 bnd (bZ v31 v36 (.b false) h36) fun v37 h37 =>
 some (v37, h37)
abbrev c37 : Code := cf Tryz.f37
abbrev r37 : K := bU CF Tryz.f37
def D37 (r : RT) (n : Nat) (c : Code) (X : Nat → K) (k : K) : K := aU CF r 47 n c X r37 k
theorem bOg : D37 r n c37 x0 r37 = (K2 (s37 r n) 0 1) :=
 (by kernel_rfl)
theorem bLq : aN CF r n 37 args h = s37 r n (bB args 0) (bB args 1) h :=
 fE (bOg r n) args h (by kernel_rfl) (by kernel_rfl)
end
end Go.Dd

namespace Go.Dd
open Go.Proofs
noncomputable section
variable (r : RT) (n : Nat) (args : List DV) (h : Hp)
def gH (r : RT) (n : Nat) (x0 x6 : DV) (h0 : Hp) : aG :=
 bnd (gN x0 h0) fun v1 h1 =>
 bnd (cM [(aJ 0), (.s []), (aJ 0), (aJ 0)] [(3, 1, v1)] h1) fun v2 h2 =>
 bnd (aO [(aJ 0), (.s []), (aJ 0), (aJ 0)] 1 [(0, 4, v2)] h2) fun v3 h3 =>
 bnd (bN 4 40 x6 v3 h3) fun v4 h4 =>
 some (.t [v4, (aJ 0), (aJ 0)], h4)
def wI (r : RT) (n : Nat) (kk7 : jP) (x0 x5 x6 : DV) (h0 : Hp) : aG :=
 bnd (r 75 [(.s [9, 10, 13, 32])] h0) fun v1 h1 =>
 bnd (gN x0 h1) fun v2 h2 =>
 bnd (r 74 [x5, v1, v2] h2) fun v3 h3 =>
 bnd (bV x5 h3) fun v4 h4 =>
 bnd (aA 1 v4 h4) fun v5 h5 =>
 bnd (aB v5 h5) fun v6 h6 =>
 bnd (gN x0 h6) fun v7 h7 =>
 bnd (aP .geq v6 v7 h7) fun v8 h8 =>
 cE v8 (
  gH r n x0 x6 h8) (
 bnd (bV x5 h8) fun v9 h9 =>
 bnd (aA 1 v9 h9) fun v10 h10 =>
 bnd (aB v10 h10) fun v11 h11 =>
 bnd (dX x0 v11 h11) fun v12 h12 =>
 bnd (aP .eql v12 (.i .u8 (Int.ofNat 34)) h12) fun v13 h13 =>
 cE v13 (
 bnd (bV x5 h13) fun v14 h14 =>
 bnd (aA 1 v14 h14) fun v15 h15 =>
 bnd (aB v15 h15) fun v16 h16 =>
 bnd (aP .add v16 (aJ 1) h16) fun v17 h17 =>
 bnd (dS x0 (some v17) none h17) fun v18 h18 =>
 bnd (r 57 [v18, (.i .u8 (Int.ofNat 34))] h18) fun v19 h19 =>
 bnd (aP .lss v19 (aJ 0) h19) fun v20 h20 =>
 cE v20 (
 bnd (bV x5 h20) fun v21 h21 =>
 bnd (aA 1 v21 h21) fun v22 h22 =>
 bnd (aB v22 h22) fun v23 h23 =>
 some (.t [.l0, v23, (aJ 11)], h23)) (
 bnd (bV x5 h20) fun v24 h24 =>
 bnd (aA 1 v24 h24) fun v25 h25 =>
 bnd (aB v25 h25) fun v26 h26 =>
 bnd (aP .add v19 (aJ 2) h26) fun v27 h27 =>
 bnd (aP .add v26 v27 h27) fun v28 h28 =>
 bnd (bV x5 h28) fun v29 h29 =>
 bnd (aA 1 v29 h29) fun v30 h30 =>
 bnd (aC 1 v30 v28 h30) fun _ h31 =>
  kk7 x0 x5 x6 h31)) (
 bnd (r 76 [x5] h13) fun v32 h32 =>
 bnd (aM 0 v32 h32) fun v33 h33 =>
 bnd (aM 1 v32 h33) fun v34 h34 =>
 bnd (cG [(aJ 0), (.s []), (aJ 0), (aJ 0)] h34) fun v35 h35 =>
 bnd (aC 4 v35 v33 h35) fun _ h36 =>
 bnd (aP .neq v34 (aJ 0) h36) fun v37 h37 =>
 cE v37 (
 bnd (aA 3 v35 h37) fun v38 h38 =>
 bnd (aB v38 h38) fun v39 h39 =>
 some (.t [.l0, v39, v34], h39)) (
 bnd (aE 4 v35 h37) fun v40 h40 =>
 bnd (aO [(aJ 0), (.s []), (aJ 0), (aJ 0)] 1 [(0, 4, v40)] h40) fun v41 h41 =>
 bnd (bN 4 40 x6 v41 h41) fun v42 h42 =>
  kk7 x0 x5 v42 h42)))
def mI (r : RT) (n : Nat) (m : Nat) : jP :=
 Nat.rec (motive := fun _ => jP) (fun _ _ _ _ => none) (fun _ ih => wI r n ih) m
def aNl (r : RT) (n : Nat) : jP := mI r n n
def aGc (r : RT) (n : Nat) (x0 x5 x6 : DV) (h0 : Hp) : aG :=
 aNl r n x0 x5 x6 h0
def aHw (r : RT) (n : Nat) (x0 x5 x6 : DV) (h0 : Hp) : aG :=
 aGc r n x0 x5 x6 h0
def aHm (r : RT) (n : Nat) (x0 x5 : DV) (h0 : Hp) : aG :=
 aHw r n x0 x5 .l0 h0
def aGd (r : RT) (n : Nat) (x0 : DV) (h0 : Hp) : aG :=
 bnd (cM [(.s []), (aJ 0)] [(0, 1, x0)] h0) fun v1 h1 =>
 bnd (iH v1 h1) fun v2 h2 =>
  aHm r n x0 v2 h2
def aGg (r : RT) (n : Nat) (x0 : DV) (h0 : Hp) : aG :=
 bnd (gN x0 h0) fun v1 h1 =>
 bnd (aP .gtr v1 (aJ 2000) h1) fun v2 h2 =>
 cE v2 (
 some (.t [.l0, (aJ 0), (aJ 12)], h2)) (
  aGd r n x0 h2)
def s48 (r : RT) (n : Nat) (x0 : DV) (h0 : Hp) : aG :=
 aGg r n x0 h0
abbrev c48 : Code := cf Tryz.f48
abbrev aMu := cR c48
abbrev aHs := cL aMu
abbrev aGz := cR aHs
abbrev aEv := cR aGz
abbrev aIf := cR aEv
abbrev aGl := cR aIf
abbrev bLl := cR aGl
abbrev aGi := cL aGl
abbrev aHp := cL aGi
abbrev mY := cL aHp
abbrev aLu := cL aIf
abbrev aKq := cL aEv
abbrev aPj := cL aGz
abbrev aQe := cL aHs
abbrev aNj := cL c48
abbrev r48 : K := bU CF Tryz.f48
def D48 (r : RT) (n : Nat) (c : Code) (X : Nat → K) (k : K) : K := aU CF r 80 n c X r48 k
theorem bHv : D48 r n bLl x0 r48 = (K2 (gH r n) 0 6) := by kernel_rfl
theorem aWo (kk7 : jP) : D48 r n mY (xs x0 0 (K2 (gH r n) 0 6)) (K3 kk7 0 5 6) = (K3 (wI r n kk7) 0 5 6) := by kernel_rfl
theorem aZy (m : Nat) : aR (fun kk => D48 r n mY (xs x0 0 (K2 (gH r n) 0 6)) kk) m = (K3 (mI r n m) 0 5 6) := by
 induction m with
 | zero => exact (by kernel_rfl : aR (fun kk => D48 r n mY (xs x0 0 (K2 (gH r n) 0 6)) kk) 0 = (K3 (mI r n 0) 0 5 6))
 | succ m ih =>
  refine (by kernel_rfl : aR (fun kk => D48 r n mY (xs x0 0 (K2 (gH r n) 0 6)) kk) (m + 1) = D48 r n mY (xs x0 0 (K2 (gH r n) 0 6)) (aR (fun kk => D48 r n mY (xs x0 0 (K2 (gH r n) 0 6)) kk) m)).trans ?_
  rw [ih]
  exact (aWo r n (mI r n m)).trans (by kernel_rfl)
theorem bHd : D48 r n aHp (xs x0 0 (K2 (gH r n) 0 6)) (K2 (gH r n) 0 6) = (K3 (aNl r n) 0 5 6) :=
 (by kernel_rfl : D48 r n aHp (xs x0 0 (K2 (gH r n) 0 6)) (K2 (gH r n) 0 6) = aR (fun kk => D48 r n mY (xs x0 0 (K2 (gH r n) 0 6)) kk) n).trans ((aZy r n n).trans (by kernel_rfl))
theorem aZn : D48 r n aGl x0 r48 = D48 r n aGi x0 (K2 (gH r n) 0 6) :=
 congrArg (fun k => D48 r n aGi x0 k) (bHv r n)
theorem bCu : D48 r n aGl x0 r48 = (K3 (aGc r n) 0 5 6) :=
 (aZn r n).trans
 ((by kernel_rfl : D48 r n aGi x0 (K2 (gH r n) 0 6) = D48 r n aHp (xs x0 0 (K2 (gH r n) 0 6)) (K2 (gH r n) 0 6)).trans
 ((bHd r n).trans (by kernel_rfl)))
theorem aWw : D48 r n aIf x0 r48 = D48 r n aLu x0 (K3 (aGc r n) 0 5 6) :=
 congrArg (fun k => D48 r n aLu x0 k) (bCu r n)
theorem bFj : D48 r n aIf x0 r48 = (K3 (aHw r n) 0 5 6) :=
 (aWw r n).trans
 ((by kernel_rfl))
theorem aWr : D48 r n aEv x0 r48 = D48 r n aKq x0 (K3 (aHw r n) 0 5 6) :=
 congrArg (fun k => D48 r n aKq x0 k) (bFj r n)
theorem bDy : D48 r n aEv x0 r48 = (K2 (aHm r n) 0 5) :=
 (aWr r n).trans
 ((by kernel_rfl))
theorem aWe : D48 r n aGz x0 r48 = D48 r n aPj x0 (K2 (aHm r n) 0 5) :=
 congrArg (fun k => D48 r n aPj x0 k) (bDy r n)
theorem bCl : D48 r n aGz x0 r48 = (K1 (aGd r n) 0) :=
 (aWe r n).trans
 ((by kernel_rfl))
theorem aZh : D48 r n aHs x0 r48 = D48 r n aQe x0 (K1 (aGd r n) 0) :=
 congrArg (fun k => D48 r n aQe x0 k) (bCl r n)
theorem bCp : D48 r n aMu x0 r48 = (K1 (aGg r n) 0) :=
 (by kernel_rfl : D48 r n aMu x0 r48 = D48 r n aHs x0 r48).trans
 ((aZh r n).trans
 ((by kernel_rfl)))
theorem bIw : D48 r n c48 x0 r48 = D48 r n aNj x0 (K1 (aGg r n) 0) :=
 congrArg (fun k => D48 r n aNj x0 k) (bCp r n)
theorem bMj : D48 r n c48 x0 r48 = (K1 (s48 r n) 0) :=
 (bIw r n).trans
 ((by kernel_rfl))
theorem bLd : aN CF r n 48 args h = s48 r n (bB args 0) h :=
 fE (bMj r n) args h (by kernel_rfl) (by kernel_rfl)
def gL (r : RT) (n : Nat) (x0 x3 : DV) (h0 : Hp) : aG :=
 bnd (r 51 [x0, (aJ 10), (.s [124])] h0) fun v1 h1 =>
 some (x3, h1)
def wA (r : RT) (n : Nat) (kk6 : lH) (x0 x3 : DV) (h0 : Hp) : aG :=
 bnd (r 77 [x0, (aJ 1), (.s [])] h0) fun v1 h1 =>
 cE v1 (
 bnd (r 78 [x0] h1) fun v2 h2 =>
 bnd (eW 1 v2 h2) fun v3 h3 =>
 bnd (aO [(.s [])] 1 [(0, 1, v3)] h3) fun v4 h4 =>
 bnd (bN 1 16 x3 v4 h4) fun v5 h5 =>
      kk6 x0 v5 h5) (
      gL r n x0 x3 h1)
def mF (r : RT) (n : Nat) (m : Nat) : lH :=
 Nat.rec (motive := fun _ => lH) (fun _ _ _ => none) (fun _ ih => wA r n ih) m
def aJu (r : RT) (n : Nat) : lH := mF r n n
def aFi (r : RT) (n : Nat) (x0 x3 : DV) (h0 : Hp) : aG :=
 aJu r n x0 x3 h0
def aHn (r : RT) (n : Nat) (x0 x3 : DV) (h0 : Hp) : aG :=
 bnd (r 78 [x0] h0) fun v1 h1 =>
  aFi r n x0 x3 h1
def aEy (r : RT) (n : Nat) (x0 x3 : DV) (h0 : Hp) : aG :=
 bnd (r 77 [x0, (aJ 10), (.s [124])] h0) fun v1 h1 =>
 bnd (tJ .not v1 h1) fun v2 h2 =>
 cE v2 (
 some (.l0, h2)) (
  aHn r n x0 x3 h2)
def aEd (r : RT) (n : Nat) (x0 : DV) (h0 : Hp) : aG :=
 aEy r n x0 .l0 h0
def s49 (r : RT) (n : Nat) (x0 : DV) (h0 : Hp) : aG :=
 aEd r n x0 h0
abbrev c49 : Code := cf Tryz.f49
abbrev aHf := cR c49
abbrev aFu := cR aHf
abbrev aGo := cR aFu
abbrev aHc := cR aGo
abbrev bIj := cR aHc
abbrev aGx := cL aHc
abbrev aEf := cL aGx
abbrev sX := cL aEf
abbrev bBd := cL aGo
abbrev aLq := cL aFu
abbrev aQl := cL aHf
abbrev aRd := cL c49
abbrev r49 : K := bU CF Tryz.f49
def D49 (r : RT) (n : Nat) (c : Code) (X : Nat → K) (k : K) : K := aU CF r 20 n c X r49 k
theorem bFy : D49 r n bIj x0 r49 = (K2 (gL r n) 0 3) := by kernel_rfl
theorem aYz (kk6 : lH) : D49 r n sX (xs x0 0 (K2 (gL r n) 0 3)) (K2 kk6 0 3) = (K2 (wA r n kk6) 0 3) := by kernel_rfl
theorem aUv (m : Nat) : aR (fun kk => D49 r n sX (xs x0 0 (K2 (gL r n) 0 3)) kk) m = (K2 (mF r n m) 0 3) := by
 induction m with
 | zero => exact (by kernel_rfl : aR (fun kk => D49 r n sX (xs x0 0 (K2 (gL r n) 0 3)) kk) 0 = (K2 (mF r n 0) 0 3))
 | succ m ih =>
  refine (by kernel_rfl : aR (fun kk => D49 r n sX (xs x0 0 (K2 (gL r n) 0 3)) kk) (m + 1) = D49 r n sX (xs x0 0 (K2 (gL r n) 0 3)) (aR (fun kk => D49 r n sX (xs x0 0 (K2 (gL r n) 0 3)) kk) m)).trans ?_
  rw [ih]
  exact (aYz r n (mF r n m)).trans (by kernel_rfl)
theorem bDn : D49 r n aEf (xs x0 0 (K2 (gL r n) 0 3)) (K2 (gL r n) 0 3) = (K2 (aJu r n) 0 3) :=
 (by kernel_rfl : D49 r n aEf (xs x0 0 (K2 (gL r n) 0 3)) (K2 (gL r n) 0 3) = aR (fun kk => D49 r n sX (xs x0 0 (K2 (gL r n) 0 3)) kk) n).trans ((aUv r n n).trans (by kernel_rfl))
theorem aWq : D49 r n aHc x0 r49 = D49 r n aGx x0 (K2 (gL r n) 0 3) :=
 congrArg (fun k => D49 r n aGx x0 k) (bFy r n)
theorem bEx : D49 r n aHc x0 r49 = (K2 (aFi r n) 0 3) :=
 (aWq r n).trans
 ((by kernel_rfl : D49 r n aGx x0 (K2 (gL r n) 0 3) = D49 r n aEf (xs x0 0 (K2 (gL r n) 0 3)) (K2 (gL r n) 0 3)).trans
 ((bDn r n).trans (by kernel_rfl)))
theorem aVz : D49 r n aGo x0 r49 = D49 r n bBd x0 (K2 (aFi r n) 0 3) :=
 congrArg (fun k => D49 r n bBd x0 k) (bEx r n)
theorem bEe : D49 r n aGo x0 r49 = (K2 (aHn r n) 0 3) :=
 (aVz r n).trans
 ((by kernel_rfl))
theorem aUl : D49 r n aFu x0 r49 = D49 r n aLq x0 (K2 (aHn r n) 0 3) :=
 congrArg (fun k => D49 r n aLq x0 k) (bEe r n)
theorem bFb : D49 r n aFu x0 r49 = (K2 (aEy r n) 0 3) :=
 (aUl r n).trans
 ((by kernel_rfl))
theorem aZs : D49 r n aHf x0 r49 = D49 r n aQl x0 (K2 (aEy r n) 0 3) :=
 congrArg (fun k => D49 r n aQl x0 k) (bFb r n)
theorem bEm : D49 r n aHf x0 r49 = (K1 (aEd r n) 0) :=
 (aZs r n).trans
 ((by kernel_rfl))
theorem bJf : D49 r n c49 x0 r49 = D49 r n aRd x0 (K1 (aEd r n) 0) :=
 congrArg (fun k => D49 r n aRd x0 k) (bEm r n)
theorem bNr : D49 r n c49 x0 r49 = (K1 (s49 r n) 0) :=
 (bJf r n).trans
 ((by kernel_rfl))
theorem bId : aN CF r n 49 args h = s49 r n (bB args 0) h :=
 fE (bNr r n) args h (by kernel_rfl) (by kernel_rfl)
def gI (r : RT) (n : Nat) (x3 : DV) (h0 : Hp) : aG :=
 some (x3, h0)
def bAn (r : RT) (n : Nat) (kk4 : lH) (x0 x3 : DV) (h0 : Hp) : aG :=
 bnd (r 79 [x0] h0) fun v1 h1 =>
 bnd (aO fF 1 [(0, 6, v1)] h1) fun v2 h2 =>
 bnd (bN 6 104 x3 v2 h2) fun v3 h3 =>
 bnd (r 77 [x0, (aJ 10), (.s [46])] h3) fun v4 h4 =>
 bnd (tJ .not v4 h4) fun v5 h5 =>
 cE v5 (
 some (v3, h5)) (
 bnd (r 78 [x0] h5) fun v6 h6 =>
  kk4 x0 v3 h6)
def aDv (r : RT) (n : Nat) (kk4 : lH) (x3 : DV) (h0 : Hp) : aG :=
 some (x3, h0)
def aSo (r : RT) (n : Nat) (kk4 : lH) (x0 x3 : DV) (h0 : Hp) : aG :=
 bnd (r 77 [x0, (aJ 10), (.s [46])] h0) fun v1 h1 =>
 cE v1 (
 bnd (r 78 [x0] h1) fun v2 h2 =>
  aDv r n kk4 x3 h2) (
  aDv r n kk4 x3 h1)
def bBk (r : RT) (n : Nat) (kk4 : lH) (x0 x3 : DV) (h0 : Hp) : aG :=
 bnd (r 79 [x0] h0) fun v1 h1 =>
 bnd (aO fF 1 [(0, 6, v1)] h1) fun v2 h2 =>
 bnd (cM fF [(0, 1, (aJ 10)), (5, 1, v2)] h2) fun v3 h3 =>
 bnd (aO fF 1 [(0, 6, v3)] h3) fun v4 h4 =>
 bnd (bN 6 104 x3 v4 h4) fun v5 h5 =>
  aSo r n kk4 x0 v5 h5
def bAo (r : RT) (n : Nat) (kk4 : lH) (x0 x3 : DV) (h0 : Hp) : aG :=
 bnd (r 78 [x0] h0) fun v1 h1 =>
  bBk r n kk4 x0 x3 h1
def bBe (r : RT) (n : Nat) (kk4 : lH) (x0 x3 x20 : DV) (h0 : Hp) : aG :=
 cE x20 (
  bAo r n kk4 x0 x3 h0) (
  bAn r n kk4 x0 x3 h0)
def bBm (r : RT) (n : Nat) (kk4 : lH) (x0 x3 : DV) (h0 : Hp) : aG :=
 bnd (r 77 [x0, (aJ 10), (.s [94])] h0) fun v1 h1 =>
  bBe r n kk4 x0 x3 v1 h1
def xW (r : RT) (n : Nat) (kk4 : lH) (x0 x3 : DV) (h0 : Hp) : aG :=
 bnd (bV x0 h0) fun v1 h1 =>
 bnd (aA 3 v1 h1) fun v2 h2 =>
 bnd (aB v2 h2) fun v3 h3 =>
 bnd (aP .eql v3 (aJ 0) h3) fun v4 h4 =>
 bnd (gD v4 true (some (x0, h4)) h4) fun v5 h5 =>
 bnd (gD v4 true (r 77 [v5, (aJ 0), (.s [])] h5) h5) fun v6 h6 =>
 bnd (gD v4 true (tJ .not v6 h6) h6) fun v7 h7 =>
 bnd (bZ v4 v7 (.b false) h7) fun v8 h8 =>
 bnd (gD v8 true (some (x0, h8)) h8) fun v9 h9 =>
 bnd (gD v8 true (r 77 [v9, (aJ 10), (.s [93])] h9) h9) fun v10 h10 =>
 bnd (gD v8 true (tJ .not v10 h10) h10) fun v11 h11 =>
 bnd (bZ v8 v11 (.b false) h11) fun v12 h12 =>
 cE v12 (
  bBm r n kk4 x0 x3 h12) (
  gI r n x3 h12)
def mA (r : RT) (n : Nat) (m : Nat) : lH :=
 Nat.rec (motive := fun _ => lH) (fun _ _ _ => none) (fun _ ih => xW r n ih) m
def aKw (r : RT) (n : Nat) : lH := mA r n n
def aGh (r : RT) (n : Nat) (x0 x3 : DV) (h0 : Hp) : aG :=
 aKw r n x0 x3 h0
def aGa (r : RT) (n : Nat) (x0 : DV) (h0 : Hp) : aG :=
 aGh r n x0 .l0 h0
def s50 (r : RT) (n : Nat) (x0 : DV) (h0 : Hp) : aG :=
 aGa r n x0 h0
abbrev c50 : Code := cf Tryz.f50
abbrev aFv := cR c50
abbrev aEm := cR aFv
abbrev bKi := cR aEm
abbrev aFk := cL aEm
abbrev aEo := cL aFk
abbrev tB := cL aEo
abbrev aLy := cL aFv
abbrev aKc := cL c50
abbrev r50 : K := bU CF Tryz.f50
def D50 (r : RT) (n : Nat) (c : Code) (X : Nat → K) (k : K) : K := aU CF r 47 n c X r50 k
theorem bFr : D50 r n bKi x0 r50 = (K1 (gI r n) 3) := by kernel_rfl
theorem aZf (kk4 : lH) : D50 r n tB (xs x0 0 (K1 (gI r n) 3)) (K2 kk4 0 3) = (K2 (xW r n kk4) 0 3) := by kernel_rfl
theorem aWf (m : Nat) : aR (fun kk => D50 r n tB (xs x0 0 (K1 (gI r n) 3)) kk) m = (K2 (mA r n m) 0 3) := by
 induction m with
 | zero => exact (by kernel_rfl : aR (fun kk => D50 r n tB (xs x0 0 (K1 (gI r n) 3)) kk) 0 = (K2 (mA r n 0) 0 3))
 | succ m ih =>
  refine (by kernel_rfl : aR (fun kk => D50 r n tB (xs x0 0 (K1 (gI r n) 3)) kk) (m + 1) = D50 r n tB (xs x0 0 (K1 (gI r n) 3)) (aR (fun kk => D50 r n tB (xs x0 0 (K1 (gI r n) 3)) kk) m)).trans ?_
  rw [ih]
  exact (aZf r n (mA r n m)).trans (by kernel_rfl)
theorem bCy : D50 r n aEo (xs x0 0 (K1 (gI r n) 3)) (K1 (gI r n) 3) = (K2 (aKw r n) 0 3) :=
 (by kernel_rfl : D50 r n aEo (xs x0 0 (K1 (gI r n) 3)) (K1 (gI r n) 3) = aR (fun kk => D50 r n tB (xs x0 0 (K1 (gI r n) 3)) kk) n).trans ((aWf r n n).trans (by kernel_rfl))
theorem aWk : D50 r n aEm x0 r50 = D50 r n aFk x0 (K1 (gI r n) 3) :=
 congrArg (fun k => D50 r n aFk x0 k) (bFr r n)
theorem bGz : D50 r n aEm x0 r50 = (K2 (aGh r n) 0 3) :=
 (aWk r n).trans
 ((by kernel_rfl : D50 r n aFk x0 (K1 (gI r n) 3) = D50 r n aEo (xs x0 0 (K1 (gI r n) 3)) (K1 (gI r n) 3)).trans
 ((bCy r n).trans (by kernel_rfl)))
theorem aPy : D50 r n aFv x0 r50 = D50 r n aLy x0 (K2 (aGh r n) 0 3) :=
 congrArg (fun k => D50 r n aLy x0 k) (bGz r n)
theorem bEu : D50 r n aFv x0 r50 = (K1 (aGa r n) 0) :=
 (aPy r n).trans
 ((by kernel_rfl))
theorem bFu : D50 r n c50 x0 r50 = D50 r n aKc x0 (K1 (aGa r n) 0) :=
 congrArg (fun k => D50 r n aKc x0 k) (bEu r n)
theorem bNn : D50 r n c50 x0 r50 = (K1 (s50 r n) 0) :=
 (bFu r n).trans
 ((by kernel_rfl))
theorem bKr : aN CF r n 50 args h = s50 r n (bB args 0) h :=
 fE (bNn r n) args h (by kernel_rfl) (by kernel_rfl)
def s51 (r : RT) (n : Nat) (x0 x1 x2 : DV) (h0 : Hp) : aG :=
 bnd (cG [(aJ 0), (.s []), (aJ 0), (aJ 0)] h0) fun v1 h1 =>
 bnd (r 77 [x0, x1, x2] h1) fun v2 h2 =>
 bnd (tJ .not v2 h2) fun v3 h3 =>
 cE v3 (
 bnd (r 81 [x0, (aJ 0)] h3) fun v4 h4 =>
 bnd (r 80 [x0, v4, (aJ 13)] h4) fun v5 h5 =>
 bnd (cM [(aJ 0), (.s []), (aJ 0), (aJ 0)] [] h5) fun v6 h6 =>
 bnd (aC 4 v1 v6 h6) fun _ h7 =>
 bnd (aE 4 v1 h7) fun v8 _ =>
 some (v8, h7)) (
 bnd (r 78 [x0] h3) fun v9 h9 =>
 bnd (aC 4 v1 v9 h9) fun _ h10 =>
 bnd (aE 4 v1 h10) fun v11 _ =>
 some (v11, h10))
abbrev c51 : Code := cf Tryz.f51
abbrev r51 : K := bU CF Tryz.f51
def D51 (r : RT) (n : Nat) (c : Code) (X : Nat → K) (k : K) : K := aU CF r 19 n c X r51 k
theorem bNk : D51 r n c51 x0 r51 = (K3 (s51 r n) 0 1 2) :=
 (by kernel_rfl)
theorem bJc : aN CF r n 51 args h = s51 r n (bB args 0) (bB args 1) (bB args 2) h :=
 fE (bNk r n) args h (by kernel_rfl) (by kernel_rfl)
def s57 (r : RT) (n : Nat) (x0 x1 : DV) (h0 : Hp) : aG :=
 bnd (r 85 [x0, x1] h0) fun v1 h1 =>
 some (v1, h1)
abbrev c57 : Code := cf Tryz.f57
abbrev r57 : K := bU CF Tryz.f57
def D57 (r : RT) (n : Nat) (c : Code) (X : Nat → K) (k : K) : K := aU CF r 8 n c X r57 k
theorem bNg : D57 r n c57 x0 r57 = (K2 (s57 r n) 0 1) :=
 (by kernel_rfl)
theorem bIl : aN CF r n 57 args h = s57 r n (bB args 0) (bB args 1) h :=
 fE (bNg r n) args h (by kernel_rfl) (by kernel_rfl)
def s58 (r : RT) (n : Nat) (x0 x1 : DV) (h0 : Hp) : aG :=
 bnd (gN x1 h0) fun v1 h1 =>
 bnd (nW [x0, x1, v1, (.i .i64 (Int.negSucc 0))] h1) fun v2 h2 =>
 some (v2, h2)
abbrev c58 : Code := cf Tryz.f58
abbrev r58 : K := bU CF Tryz.f58
def D58 (r : RT) (n : Nat) (c : Code) (X : Nat → K) (k : K) : K := aU CF r 10 n c X r58 k
theorem bLx : D58 r n c58 x0 r58 = (K2 (s58 r n) 0 1) :=
 (by kernel_rfl)
theorem bJb : aN CF r n 58 args h = s58 r n (bB args 0) (bB args 1) h :=
 fE (bLx r n) args h (by kernel_rfl) (by kernel_rfl)
def aIk (r : RT) (n : Nat) (x0 x1 x5 : DV) (h0 : Hp) : aG :=
 bnd (r 89 [x1, (aJ 0), x5] (iI 1 h0)) fun v1 h1 =>
 bnd (cQ 6 x1 (some (aJ 1)) none h1) fun v2 h2 =>
 cnd (cB (cQ 6 x1 (some (aJ 1)) none (iI 1 h0)) v2 && true) (
 bnd (r 90 [x0, v2] h2) fun v3 h3 =>
 bnd (bE (dH 0 h0.next) [(.s []), (.s []), (.s [])] 3 [(0, 1, v1), (1, 1, (.s [32])), (2, 1, v3)] h3) fun v4 h4 =>
 bnd (r 19 [v4] h4) fun v5 h5 =>
 some (v5, h5))
def bBv (r : RT) (n : Nat) (x0 x1 x5 : DV) (h0 : Hp) : aG :=
 bnd (r 32 [x0] h0) fun v1 h1 =>
 bnd (aP .eql v1 (aJ 1) h1) fun v2 h2 =>
 cE v2 (
  aIk r n x0 x1 (aJ 1) h2) (
  aIk r n x0 x1 x5 h2)
def bAf (r : RT) (n : Nat) (x0 x1 : DV) (h0 : Hp) : aG :=
 bBv r n x0 x1 (aJ 2) h0
def bAq (r : RT) (n : Nat) (x0 x1 : DV) (h0 : Hp) : aG :=
 bnd (gZ x1 h0) fun v1 h1 =>
 bnd (aP .eql v1 (aJ 0) h1) fun v2 h2 =>
 cE v2 (
 some ((.s []), h2)) (
  bAf r n x0 x1 h2)
def s61 (r : RT) (n : Nat) (x0 x1 : DV) (h0 : Hp) : aG :=
 bAq r n x0 x1 h0
abbrev c61 : Code := cf Tryz.f61
abbrev r61 : K := bU CF Tryz.f61
def D61 (r : RT) (n : Nat) (c : Code) (X : Nat → K) (k : K) : K := aU CF r 21 n c X r61 k
theorem bMw : D61 r n c61 x0 r61 = (K2 (s61 r n) 0 1) := by kernel_rfl
theorem bIb : aN CF r n 61 args h = s61 r n (bB args 0) (bB args 1) h :=
 fE (bMw r n) args h (by kernel_rfl) (by kernel_rfl)
def s62 (r : RT) (n : Nat) (x0 : DV) (h0 : Hp) : aG :=
 bnd (gZ x0 h0) fun v1 h1 =>
 bnd (aP .lss v1 (aJ 2) h1) fun v2 h2 =>
 cE v2 (
 some ((.s []), h2)) (
 bnd (aZ 6 x0 (aJ 0) (iI 1 h2)) fun v3 h3 =>
 bnd (aE 6 v3 h3) fun v4 h4 =>
 bnd (bE (dH 0 h2.next) fF 1 [(0, 6, v4)] h4) fun v5 h5 =>
 bnd (aZ 6 x0 (aJ 1) h5) fun v6 h6 =>
 bnd (aA 5 v6 h6) fun v7 h7 =>
 bnd (aB v7 h7) fun v8 h8 =>
 cnd (cB (aB v7 (iI 1 h2)) v8 && true) (
 bnd (bN 6 104 v5 v8 h8) fun v9 h9 =>
 bnd (cQ 6 x0 (some (aJ 2)) none h9) fun v10 h10 =>
 bnd (r 35 [v10, (.s []), (.f 91 [] [])] h10) fun v11 h11 =>
 bnd (aZ 6 x0 (aJ 1) h11) fun v12 h12 =>
 bnd (aA 1 v12 h12) fun v13 h13 =>
 bnd (aB v13 h13) fun v14 h14 =>
 bnd (r 61 [v14, v9] h14) fun v15 h15 =>
 bnd (aO [(.s []), (.s [])] 2 [(0, 1, v15), (1, 1, v11)] h15) fun v16 h16 =>
 bnd (r 19 [v16] h16) fun v17 h17 =>
 some (v17, h17)))
abbrev c62 : Code := cf Tryz.f62
abbrev r62 : K := bU CF Tryz.f62
def D62 (r : RT) (n : Nat) (c : Code) (X : Nat → K) (k : K) : K := aU CF r 29 n c X r62 k
theorem bLv : D62 r n c62 x0 r62 = (K1 (s62 r n) 0) :=
 (by kernel_rfl)
theorem bJr : aN CF r n 62 args h = s62 r n (bB args 0) h :=
 fE (bLv r n) args h (by kernel_rfl) (by kernel_rfl)
def fN (r : RT) (n : Nat) (h0 : Hp) : aG :=
 some ((.b true), h0)
def oU (r : RT) (n : Nat) (kk5 : TT4) (x0 x1 x12 x13 : DV) (h0 : Hp) : aG :=
 bnd (aP .lss x13 x12 h0) fun v1 h1 =>
 cE v1 (
 bnd (aZ 1 x0 x13 h1) fun v2 h2 =>
 bnd (aB v2 h2) fun v3 h3 =>
 bnd (aZ 1 x1 x13 h3) fun v4 h4 =>
 bnd (aB v4 h4) fun v5 h5 =>
 bnd (gF .neq v3 v5 h5) fun v6 h6 =>
 cE v6 (
 some ((.b false), h6)) (
 bnd (aP .add x13 (aJ 1) h6) fun v7 h7 =>
  kk5 x0 x1 x12 v7 h7)) (
      fN r n h1)
def jQ (r : RT) (n : Nat) (m : Nat) : TT4 :=
 Nat.rec (motive := fun _ => TT4) (fun _ _ _ _ _ => none) (fun _ ih => oU r n ih) m
def aRt (r : RT) (n : Nat) : TT4 := jQ r n n
def aFz (r : RT) (n : Nat) (x0 x1 x12 x13 : DV) (h0 : Hp) : aG :=
 aRt r n x0 x1 x12 x13 h0
def aFq (r : RT) (n : Nat) (x0 x1 : DV) (h0 : Hp) : aG :=
 bnd (gZ x0 h0) fun v1 h1 =>
  aFz r n x0 x1 v1 (aJ 0) h1
def aEh (r : RT) (n : Nat) (x0 x1 : DV) (h0 : Hp) : aG :=
 bnd (gZ x0 h0) fun v1 h1 =>
 bnd (gZ x1 h1) fun v2 h2 =>
 bnd (aP .neq v1 v2 h2) fun v3 h3 =>
 cE v3 (
 some ((.b false), h3)) (
  aFq r n x0 x1 h3)
def s63 (r : RT) (n : Nat) (x0 x1 : DV) (h0 : Hp) : aG :=
 aEh r n x0 x1 h0
abbrev c63 : Code := cf Tryz.f63
abbrev aFw := cR c63
abbrev aEu := cR aFw
abbrev bIc := cR aEu
abbrev aAg := cL aEu
abbrev aLd := cR aAg
abbrev aHg := cL aLd
abbrev tC := cL aHg
abbrev bAy := cL aAg
abbrev bBh := cL aFw
abbrev aPr := cL c63
abbrev r63 : K := bU CF Tryz.f63
def D63 (r : RT) (n : Nat) (c : Code) (X : Nat → K) (k : K) : K := aU CF r 26 n c X r63 k
theorem bDa : D63 r n bIc x0 r63 = (K0 (fN r n)) := by kernel_rfl
theorem aUi (kk5 : TT4) : D63 r n tC (xs x0 0 (K0 (fN r n))) (K4 kk5 0 1 12 13) = (K4 (oU r n kk5) 0 1 12 13) := by kernel_rfl
theorem aUt (m : Nat) : aR (fun kk => D63 r n tC (xs x0 0 (K0 (fN r n))) kk) m = (K4 (jQ r n m) 0 1 12 13) := by
 induction m with
 | zero => exact (by kernel_rfl : aR (fun kk => D63 r n tC (xs x0 0 (K0 (fN r n))) kk) 0 = (K4 (jQ r n 0) 0 1 12 13))
 | succ m ih =>
  refine (by kernel_rfl : aR (fun kk => D63 r n tC (xs x0 0 (K0 (fN r n))) kk) (m + 1) = D63 r n tC (xs x0 0 (K0 (fN r n))) (aR (fun kk => D63 r n tC (xs x0 0 (K0 (fN r n))) kk) m)).trans ?_
  rw [ih]
  exact (aUi r n (jQ r n m)).trans (by kernel_rfl)
theorem bGo : D63 r n aHg (xs x0 0 (K0 (fN r n))) (K0 (fN r n)) = (K4 (aRt r n) 0 1 12 13) :=
 (by kernel_rfl : D63 r n aHg (xs x0 0 (K0 (fN r n))) (K0 (fN r n)) = aR (fun kk => D63 r n tC (xs x0 0 (K0 (fN r n))) kk) n).trans ((aUt r n n).trans (by kernel_rfl))
theorem bGn : D63 r n aLd x0 (K0 (fN r n)) = (K4 (aFz r n) 0 1 12 13) :=
 (by kernel_rfl : D63 r n aLd x0 (K0 (fN r n)) = D63 r n aHg (xs x0 0 (K0 (fN r n))) (K0 (fN r n))).trans
 ((bGo r n).trans (by kernel_rfl))
theorem aXs : D63 r n aEu x0 r63 = D63 r n aAg x0 (K0 (fN r n)) :=
 congrArg (fun k => D63 r n aAg x0 k) (bDa r n)
theorem aYl : D63 r n aAg x0 (K0 (fN r n)) = D63 r n bAy x0 (K4 (aFz r n) 0 1 12 13) :=
 congrArg (fun k => D63 r n bAy x0 k) (bGn r n)
theorem bEf : D63 r n aEu x0 r63 = (K2 (aFq r n) 0 1) :=
 (aXs r n).trans
 ((aYl r n).trans
 ((by kernel_rfl)))
theorem aTe : D63 r n aFw x0 r63 = D63 r n bBh x0 (K2 (aFq r n) 0 1) :=
 congrArg (fun k => D63 r n bBh x0 k) (bEf r n)
theorem bHw : D63 r n aFw x0 r63 = (K2 (aEh r n) 0 1) :=
 (aTe r n).trans
 ((by kernel_rfl))
theorem bKu : D63 r n c63 x0 r63 = D63 r n aPr x0 (K2 (aEh r n) 0 1) :=
 congrArg (fun k => D63 r n aPr x0 k) (bHw r n)
theorem bMr : D63 r n c63 x0 r63 = (K2 (s63 r n) 0 1) :=
 (bKu r n).trans
 ((by kernel_rfl))
theorem bIf : aN CF r n 63 args h = s63 r n (bB args 0) (bB args 1) h :=
 fE (bMr r n) args h (by kernel_rfl) (by kernel_rfl)
def fJ (r : RT) (n : Nat) (h0 : Hp) : aG :=
 some ((.b true), h0)
def nT (r : RT) (n : Nat) (kk5 : TT5) (x1 x2 x15 x16 x17 : DV) (h0 : Hp) : aG :=
 bnd (aP .lss x17 x16 h0) fun v1 h1 =>
 cE v1 (
 bnd (aZ 6 x15 x17 h1) fun v2 h2 =>
 bnd (aE 6 v2 h2) fun v3 h3 =>
 bnd (cG fF h3) fun v4 h4 =>
 bnd (aC 6 v4 v3 h4) fun _ h5 =>
 bnd (aZ 6 x1 x17 h5) fun v6 h6 =>
 bnd (aE 6 v6 h6) fun v7 h7 =>
 bnd (cG fF h7) fun v8 h8 =>
 bnd (aC 6 v8 v7 h8) fun _ h9 =>
 bnd (aE 6 v4 h9) fun v10 h10 =>
 bnd (aE 6 v8 h10) fun v11 h11 =>
 bnd (dP CF r x2 [v10, v11] h11) fun v12 h12 =>
 bnd (tJ .not v12 h12) fun v13 h13 =>
 cE v13 (
 some ((.b false), h13)) (
 bnd (aP .add x17 (aJ 1) h13) fun v14 h14 =>
  kk5 x1 x2 x15 x16 v14 h14)) (
      fJ r n h1)
def iZ (r : RT) (n : Nat) (m : Nat) : TT5 :=
 Nat.rec (motive := fun _ => TT5) (fun _ _ _ _ _ _ => none) (fun _ ih => nT r n ih) m
def aJr (r : RT) (n : Nat) : TT5 := iZ r n n
def aFd (r : RT) (n : Nat) (x1 x2 x15 x16 x17 : DV) (h0 : Hp) : aG :=
 aJr r n x1 x2 x15 x16 x17 h0
def aHi (r : RT) (n : Nat) (x0 x1 x2 : DV) (h0 : Hp) : aG :=
 bnd (gZ x0 h0) fun v1 h1 =>
  aFd r n x1 x2 x0 v1 (aJ 0) h1
def aIe (r : RT) (n : Nat) (x0 x1 x2 : DV) (h0 : Hp) : aG :=
 bnd (gZ x0 h0) fun v1 h1 =>
 bnd (gZ x1 h1) fun v2 h2 =>
 bnd (aP .neq v1 v2 h2) fun v3 h3 =>
 cE v3 (
 some ((.b false), h3)) (
  aHi r n x0 x1 x2 h3)
def s64 (r : RT) (n : Nat) (x0 x1 x2 : DV) (h0 : Hp) : aG :=
 aIe r n x0 x1 x2 h0
abbrev c64 : Code := cf Tryz.f64
abbrev aHu := cR c64
abbrev aGw := cR aHu
abbrev bJd := cR aGw
abbrev aBa := cL aGw
abbrev aOx := cR aBa
abbrev aFr := cL aOx
abbrev sY := cL aFr
abbrev bBw := cL aBa
abbrev bAl := cL aHu
abbrev aRk := cL c64
abbrev r64 : K := bU CF Tryz.f64
def D64 (r : RT) (n : Nat) (c : Code) (X : Nat → K) (k : K) : K := aU CF r 32 n c X r64 k
theorem bHa : D64 r n bJd x0 r64 = (K0 (fJ r n)) := by kernel_rfl
theorem aXy (kk5 : TT5) : D64 r n sY (xs x0 0 (K0 (fJ r n))) (K5 kk5 1 2 15 16 17) = (K5 (nT r n kk5) 1 2 15 16 17) := by kernel_rfl
theorem aTw (m : Nat) : aR (fun kk => D64 r n sY (xs x0 0 (K0 (fJ r n))) kk) m = (K5 (iZ r n m) 1 2 15 16 17) := by
 induction m with
 | zero => exact (by kernel_rfl : aR (fun kk => D64 r n sY (xs x0 0 (K0 (fJ r n))) kk) 0 = (K5 (iZ r n 0) 1 2 15 16 17))
 | succ m ih =>
  refine (by kernel_rfl : aR (fun kk => D64 r n sY (xs x0 0 (K0 (fJ r n))) kk) (m + 1) = D64 r n sY (xs x0 0 (K0 (fJ r n))) (aR (fun kk => D64 r n sY (xs x0 0 (K0 (fJ r n))) kk) m)).trans ?_
  rw [ih]
  exact (aXy r n (iZ r n m)).trans (by kernel_rfl)
theorem bDe : D64 r n aFr (xs x0 0 (K0 (fJ r n))) (K0 (fJ r n)) = (K5 (aJr r n) 1 2 15 16 17) :=
 (by kernel_rfl : D64 r n aFr (xs x0 0 (K0 (fJ r n))) (K0 (fJ r n)) = aR (fun kk => D64 r n sY (xs x0 0 (K0 (fJ r n))) kk) n).trans ((aTw r n n).trans (by kernel_rfl))
theorem bDp : D64 r n aOx x0 (K0 (fJ r n)) = (K5 (aFd r n) 1 2 15 16 17) :=
 (by kernel_rfl : D64 r n aOx x0 (K0 (fJ r n)) = D64 r n aFr (xs x0 0 (K0 (fJ r n))) (K0 (fJ r n))).trans
 ((bDe r n).trans (by kernel_rfl))
theorem aUo : D64 r n aGw x0 r64 = D64 r n aBa x0 (K0 (fJ r n)) :=
 congrArg (fun k => D64 r n aBa x0 k) (bHa r n)
theorem aWv : D64 r n aBa x0 (K0 (fJ r n)) = D64 r n bBw x0 (K5 (aFd r n) 1 2 15 16 17) :=
 congrArg (fun k => D64 r n bBw x0 k) (bDp r n)
theorem bGe : D64 r n aGw x0 r64 = (K3 (aHi r n) 0 1 2) :=
 (aUo r n).trans
 ((aWv r n).trans
 ((by kernel_rfl)))
theorem aXm : D64 r n aHu x0 r64 = D64 r n bAl x0 (K3 (aHi r n) 0 1 2) :=
 congrArg (fun k => D64 r n bAl x0 k) (bGe r n)
theorem bDf : D64 r n aHu x0 r64 = (K3 (aIe r n) 0 1 2) :=
 (aXm r n).trans
 ((by kernel_rfl))
theorem bKy : D64 r n c64 x0 r64 = D64 r n aRk x0 (K3 (aIe r n) 0 1 2) :=
 congrArg (fun k => D64 r n aRk x0 k) (bDf r n)
theorem bOj : D64 r n c64 x0 r64 = (K3 (s64 r n) 0 1 2) :=
 (bKy r n).trans
 ((by kernel_rfl))
theorem bIp : aN CF r n 64 args h = s64 r n (bB args 0) (bB args 1) (bB args 2) h :=
 fE (bOj r n) args h (by kernel_rfl) (by kernel_rfl)
end
end Go.Dd

namespace Go.Dd
open Go.Proofs
noncomputable section
variable (r : RT) (n : Nat) (args : List DV) (h : Hp)
end
end Go.Dd

namespace Go.Dd
open Go.Proofs
noncomputable section
variable (r : RT) (n : Nat) (args : List DV) (h : Hp)
def fU (r : RT) (n : Nat) (x0 x7 : DV) (h0 : Hp) : aG :=
 bnd (bV x0 h0) fun v1 h1 =>
 bnd (aA 0 v1 h1) fun v2 h2 =>
 bnd (aB v2 h2) fun v3 h3 =>
 bnd (bV x0 h3) fun v4 h4 =>
 bnd (aA 1 v4 h4) fun v5 h5 =>
 bnd (aB v5 h5) fun v6 h6 =>
 bnd (dS v3 (some x7) (some v6) h6) fun v7 h7 =>
 some (v7, h7)
def oB (r : RT) (n : Nat) (kk4 : TT4) (x0 x1 x2 x7 : DV) (h0 : Hp) : aG :=
 bnd (bV x0 h0) fun v1 h1 =>
 bnd (aA 1 v1 h1) fun v2 h2 =>
 bnd (aB v2 h2) fun v3 h3 =>
 bnd (bV x0 h3) fun v4 h4 =>
 bnd (aA 0 v4 h4) fun v5 h5 =>
 bnd (aB v5 h5) fun v6 h6 =>
 bnd (gN v6 h6) fun v7 h7 =>
 bnd (aP .lss v3 v7 h7) fun v8 h8 =>
 bnd (gD v8 true (some (x0, h8)) h8) fun v9 h9 =>
 bnd (gD v8 true (bV v9 h9) h9) fun v10 h10 =>
 bnd (gD v8 true (aA 1 v10 h10) h10) fun v11 h11 =>
 bnd (gD v8 true (aB v11 h11) h11) fun v12 h12 =>
 bnd (gD v8 true (some (x7, h12)) h12) fun v13 h13 =>
 bnd (gD v8 true (aP .sub v12 v13 h13) h13) fun v14 h14 =>
 bnd (gD v8 true (some (x2, h14)) h14) fun v15 h15 =>
 bnd (gD v8 true (aP .lss v14 v15 h15) h15) fun v16 h16 =>
 bnd (bZ v8 v16 (.b false) h16) fun v17 h17 =>
 bnd (gD v17 true (some (x1, h17)) h17) fun v18 h18 =>
 bnd (gD v17 true (some (x0, h18)) h18) fun v19 h19 =>
 bnd (gD v17 true (bV v19 h19) h19) fun v20 h20 =>
 bnd (gD v17 true (aA 0 v20 h20) h20) fun v21 h21 =>
 bnd (gD v17 true (aB v21 h21) h21) fun v22 h22 =>
 bnd (gD v17 true (some (x0, h22)) h22) fun v23 h23 =>
 bnd (gD v17 true (bV v23 h23) h23) fun v24 h24 =>
 bnd (gD v17 true (aA 1 v24 h24) h24) fun v25 h25 =>
 bnd (gD v17 true (aB v25 h25) h25) fun v26 h26 =>
 bnd (gD v17 true (dX v22 v26 h26) h26) fun v27 h27 =>
 bnd (gD v17 true (dP CF r v18 [v27] h27) h27) fun v28 h28 =>
 bnd (bZ v17 v28 (.b false) h28) fun v29 h29 =>
 cE v29 (
 bnd (bV x0 h29) fun v30 h30 =>
 bnd (aA 1 v30 h30) fun v31 h31 =>
 bnd (aB v31 h31) fun v32 h32 =>
 bnd (aP .add v32 (aJ 1) h32) fun v33 h33 =>
 bnd (bV x0 h33) fun v34 h34 =>
 bnd (aA 1 v34 h34) fun v35 h35 =>
 bnd (aC 1 v35 v33 h35) fun _ h36 =>
      kk4 x0 x1 x2 x7 h36) (
      fU r n x0 x7 h29)
def jV (r : RT) (n : Nat) (m : Nat) : TT4 :=
 Nat.rec (motive := fun _ => TT4) (fun _ _ _ _ _ => none) (fun _ ih => oB r n ih) m
def aLs (r : RT) (n : Nat) : TT4 := jV r n n
def aHe (r : RT) (n : Nat) (x0 x1 x2 x7 : DV) (h0 : Hp) : aG :=
 aLs r n x0 x1 x2 x7 h0
def aEn (r : RT) (n : Nat) (x0 x1 x2 : DV) (h0 : Hp) : aG :=
 bnd (bV x0 h0) fun v1 h1 =>
 bnd (aA 1 v1 h1) fun v2 h2 =>
 bnd (aB v2 h2) fun v3 h3 =>
  aHe r n x0 x1 x2 v3 h3
def s74 (r : RT) (n : Nat) (x0 x1 x2 : DV) (h0 : Hp) : aG :=
 aEn r n x0 x1 x2 h0
abbrev c74 : Code := cf Tryz.f74
abbrev aFm := cR c74
abbrev aFt := cR aFm
abbrev bIk := cR aFt
abbrev aHq := cL aFt
abbrev aIb := cL aHq
abbrev sA := cL aIb
abbrev bBq := cL aFm
abbrev bBr := cL c74
abbrev r74 : K := bU CF Tryz.f74
def D74 (r : RT) (n : Nat) (c : Code) (X : Nat → K) (k : K) : K := aU CF r 62 n c X r74 k
theorem bFm : D74 r n bIk x0 r74 = (K2 (fU r n) 0 7) := by kernel_rfl
theorem aXx (kk4 : TT4) : D74 r n sA (xs x0 0 (K2 (fU r n) 0 7)) (K4 kk4 0 1 2 7) = (K4 (oB r n kk4) 0 1 2 7) := by kernel_rfl
theorem aYn (m : Nat) : aR (fun kk => D74 r n sA (xs x0 0 (K2 (fU r n) 0 7)) kk) m = (K4 (jV r n m) 0 1 2 7) := by
 induction m with
 | zero => exact (by kernel_rfl : aR (fun kk => D74 r n sA (xs x0 0 (K2 (fU r n) 0 7)) kk) 0 = (K4 (jV r n 0) 0 1 2 7))
 | succ m ih =>
  refine (by kernel_rfl : aR (fun kk => D74 r n sA (xs x0 0 (K2 (fU r n) 0 7)) kk) (m + 1) = D74 r n sA (xs x0 0 (K2 (fU r n) 0 7)) (aR (fun kk => D74 r n sA (xs x0 0 (K2 (fU r n) 0 7)) kk) m)).trans ?_
  rw [ih]
  exact (aXx r n (jV r n m)).trans (by kernel_rfl)
theorem bEz : D74 r n aIb (xs x0 0 (K2 (fU r n) 0 7)) (K2 (fU r n) 0 7) = (K4 (aLs r n) 0 1 2 7) :=
 (by kernel_rfl : D74 r n aIb (xs x0 0 (K2 (fU r n) 0 7)) (K2 (fU r n) 0 7) = aR (fun kk => D74 r n sA (xs x0 0 (K2 (fU r n) 0 7)) kk) n).trans ((aYn r n n).trans (by kernel_rfl))
theorem aYx : D74 r n aFt x0 r74 = D74 r n aHq x0 (K2 (fU r n) 0 7) :=
 congrArg (fun k => D74 r n aHq x0 k) (bFm r n)
theorem bEo : D74 r n aFt x0 r74 = (K4 (aHe r n) 0 1 2 7) :=
 (aYx r n).trans
 ((by kernel_rfl : D74 r n aHq x0 (K2 (fU r n) 0 7) = D74 r n aIb (xs x0 0 (K2 (fU r n) 0 7)) (K2 (fU r n) 0 7)).trans
 ((bEz r n).trans (by kernel_rfl)))
theorem aTu : D74 r n aFm x0 r74 = D74 r n bBq x0 (K4 (aHe r n) 0 1 2 7) :=
 congrArg (fun k => D74 r n bBq x0 k) (bEo r n)
theorem bHq : D74 r n aFm x0 r74 = (K3 (aEn r n) 0 1 2) :=
 (aTu r n).trans
 ((by kernel_rfl))
theorem bLj : D74 r n c74 x0 r74 = D74 r n bBr x0 (K3 (aEn r n) 0 1 2) :=
 congrArg (fun k => D74 r n bBr x0 k) (bHq r n)
theorem bNj : D74 r n c74 x0 r74 = (K3 (s74 r n) 0 1 2) :=
 (bLj r n).trans
 ((by kernel_rfl))
theorem bJg : aN CF r n 74 args h = s74 r n (bB args 0) (bB args 1) (bB args 2) h :=
 fE (bNj r n) args h (by kernel_rfl) (by kernel_rfl)
def s75 (r : RT) (n : Nat) (x0 : DV) (h0 : Hp) : aG :=
 bnd (iH x0 h0) fun v1 h1 =>
 some ((.f 105 [] [v1]), h1)
abbrev c75 : Code := cf Tryz.f75
abbrev r75 : K := bU CF Tryz.f75
def D75 (r : RT) (n : Nat) (c : Code) (X : Nat → K) (k : K) : K := aU CF r 4 n c X r75 k
theorem bOi : D75 r n c75 x0 r75 = (K1 (s75 r n) 0) :=
 (by kernel_rfl)
theorem bKn : aN CF r n 75 args h = s75 r n (bB args 0) h :=
 fE (bOi r n) args h (by kernel_rfl) (by kernel_rfl)
def eK (r : RT) (n : Nat) (x2 x4 x5 : DV) (h0 : Hp) : aG :=
 bnd (aE 4 x4 h0) fun v1 h1 =>
 bnd (aC 4 x2 v1 h1) fun _ h2 =>
 bnd (aE 4 x2 h2) fun v3 _ =>
 some (.t [v3, x5], h2)
def bAz (r : RT) (n : Nat) (x0 x2 x4 x5 x6 : DV) (h0 : Hp) : aG :=
 bnd (r 107 [x6] h0) fun v1 h1 =>
 cE v1 (
 bnd (aA 0 x4 h1) fun v2 h2 =>
 bnd (aC 1 v2 (aJ 1) h2) fun _ h3 =>
 bnd (r 108 [x0] h3) fun v4 h4 =>
 bnd (aM 0 v4 h4) fun v5 h5 =>
 bnd (aM 1 v4 h5) fun v6 h6 =>
 bnd (aA 1 x4 h6) fun v7 h7 =>
 bnd (aC 1 v7 v5 h7) fun _ h8 =>
 bnd (aP .eql v6 (aJ 0) h8) fun v9 h9 =>
 bnd (gD v9 true (some (x0, h9)) h9) fun v10 h10 =>
 bnd (gD v9 true (r 109 [v10] h10) h10) fun v11 h11 =>
 bnd (bZ v9 v11 (.b false) h11) fun v12 h12 =>
 cE v12 (
 bnd (aA 1 x4 h12) fun v13 h13 =>
 bnd (aB v13 h13) fun v14 h14 =>
 bnd (gF .add v14 (.s [58]) h14) fun v15 h15 =>
 bnd (aA 0 x4 h15) fun v16 h16 =>
 bnd (aC 1 v16 (aJ 2) h16) fun _ h17 =>
 bnd (aA 1 x4 h17) fun v18 h18 =>
 bnd (aC 1 v18 v15 h18) fun _ h19 =>
      eK r n x2 x4 v6 h19) (
      eK r n x2 x4 v6 h12)) (
 bnd (r 110 [x6] h1) fun v20 h20 =>
 cE v20 (
 bnd (aA 0 x4 h20) fun v21 h21 =>
 bnd (aC 1 v21 (aJ 4) h21) fun _ h22 =>
 bnd (r 111 [x0] h22) fun v23 h23 =>
 bnd (aM 0 v23 h23) fun v24 h24 =>
 bnd (aM 1 v23 h24) fun v25 h25 =>
 bnd (aA 2 x4 h25) fun v26 h26 =>
 bnd (aC 1 v26 v24 h26) fun _ h27 =>
      eK r n x2 x4 v25 h27) (
 bnd (aP .eql x6 (.i .u8 (Int.ofNat 39)) h20) fun v28 h28 =>
 cE v28 (
 bnd (bV x0 h28) fun v29 h29 =>
 bnd (aA 1 v29 h29) fun v30 h30 =>
 bnd (aB v30 h30) fun v31 h31 =>
 bnd (aP .add v31 (aJ 1) h31) fun v32 h32 =>
 bnd (bV x0 h32) fun v33 h33 =>
 bnd (aA 1 v33 h33) fun v34 h34 =>
 bnd (aC 1 v34 v32 h34) fun _ h35 =>
 bnd (aA 0 x4 h35) fun v36 h36 =>
 bnd (aC 1 v36 (aJ 5) h36) fun _ h37 =>
 bnd (r 112 [x0] h37) fun v38 h38 =>
 bnd (aM 0 v38 h38) fun v39 h39 =>
 bnd (aM 1 v38 h39) fun v40 h40 =>
 bnd (aA 1 x4 h40) fun v41 h41 =>
 bnd (aC 1 v41 v39 h41) fun _ h42 =>
  eK r n x2 x4 v40 h42) (
 bnd (aP .eql x6 (.i .u8 (Int.ofNat 35)) h28) fun v43 h43 =>
 bnd (gD v43 true (some (x0, h43)) h43) fun v44 h44 =>
 bnd (gD v43 true (r 106 [v44, (aJ 1)] h44) h44) fun v45 h45 =>
 bnd (gD v43 true (aP .eql v45 (.i .u8 (Int.ofNat 40)) h45) h45) fun v46 h46 =>
 bnd (bZ v43 v46 (.b false) h46) fun v47 h47 =>
 cE v47 (
 bnd (bV x0 h47) fun v48 h48 =>
 bnd (aA 1 v48 h48) fun v49 h49 =>
 bnd (aB v49 h49) fun v50 h50 =>
 bnd (aP .add v50 (aJ 2) h50) fun v51 h51 =>
 bnd (bV x0 h51) fun v52 h52 =>
 bnd (aA 1 v52 h52) fun v53 h53 =>
 bnd (aC 1 v53 v51 h53) fun _ h54 =>
 bnd (aA 0 x4 h54) fun v55 h55 =>
 bnd (aC 1 v55 (aJ 7) h55) fun _ h56 =>
  eK r n x2 x4 x5 h56) (
 bnd (aP .eql x6 (.i .u8 (Int.ofNat 35)) h47) fun v57 h57 =>
 cE v57 (
 bnd (bV x0 h57) fun v58 h58 =>
 bnd (aA 1 v58 h58) fun v59 h59 =>
 bnd (aB v59 h59) fun v60 h60 =>
 bnd (aP .add v60 (aJ 1) h60) fun v61 h61 =>
 bnd (bV x0 h61) fun v62 h62 =>
 bnd (aA 1 v62 h62) fun v63 h63 =>
 bnd (aC 1 v63 v61 h63) fun _ h64 =>
 bnd (aA 0 x4 h64) fun v65 h65 =>
 bnd (aC 1 v65 (aJ 6) h65) fun _ h66 =>
 bnd (r 113 [x0] h66) fun v67 h67 =>
 bnd (aM 0 v67 h67) fun v68 h68 =>
 bnd (aM 1 v67 h68) fun v69 h69 =>
 bnd (aA 1 x4 h69) fun v70 h70 =>
 bnd (aC 1 v70 v68 h70) fun _ h71 =>
  eK r n x2 x4 v69 h71) (
 bnd (aP .eql x6 (.i .u8 (Int.ofNat 58)) h57) fun v72 h72 =>
 bnd (gD v72 true (some (x0, h72)) h72) fun v73 h73 =>
 bnd (gD v72 true (r 106 [v73, (aJ 1)] h73) h73) fun v74 h74 =>
 bnd (gD v72 true (aP .eql v74 (.i .u8 (Int.ofNat 61)) h74) h74) fun v75 h75 =>
 bnd (bZ v72 v75 (.b false) h75) fun v76 h76 =>
 cE v76 (
 bnd (bV x0 h76) fun v77 h77 =>
 bnd (aA 1 v77 h77) fun v78 h78 =>
 bnd (aB v78 h78) fun v79 h79 =>
 bnd (aP .add v79 (aJ 2) h79) fun v80 h80 =>
 bnd (bV x0 h80) fun v81 h81 =>
 bnd (aA 1 v81 h81) fun v82 h82 =>
 bnd (aC 1 v82 v80 h82) fun _ h83 =>
 bnd (aA 0 x4 h83) fun v84 h84 =>
 bnd (aC 1 v84 (aJ 9) h84) fun _ h85 =>
  eK r n x2 x4 x5 h85) (
 bnd (aP .eql x6 (.i .u8 (Int.ofNat 58)) h76) fun v86 h86 =>
 bnd (gD v86 true (some (x0, h86)) h86) fun v87 h87 =>
 bnd (gD v86 true (r 106 [v87, (aJ 1)] h87) h87) fun v88 h88 =>
 bnd (gD v86 true (r 107 [v88] h88) h88) fun v89 h89 =>
 bnd (bZ v86 v89 (.b false) h89) fun v90 h90 =>
 cE v90 (
 bnd (bV x0 h90) fun v91 h91 =>
 bnd (aA 1 v91 h91) fun v92 h92 =>
 bnd (aB v92 h92) fun v93 h93 =>
 bnd (aP .add v93 (aJ 1) h93) fun v94 h94 =>
 bnd (bV x0 h94) fun v95 h95 =>
 bnd (aA 1 v95 h95) fun v96 h96 =>
 bnd (aC 1 v96 v94 h96) fun _ h97 =>
 bnd (aA 0 x4 h97) fun v98 h98 =>
 bnd (aC 1 v98 (aJ 8) h98) fun _ h99 =>
 bnd (r 108 [x0] h99) fun v100 h100 =>
 bnd (aM 0 v100 h100) fun v101 h101 =>
 bnd (aM 1 v100 h101) fun v102 h102 =>
 bnd (aA 1 x4 h102) fun v103 h103 =>
 bnd (aC 1 v103 v101 h103) fun _ h104 =>
  eK r n x2 x4 v102 h104) (
 bnd (r 75 [(.s [43, 45, 42, 47, 60, 62, 61, 126, 44, 64, 38, 37])] h90) fun v105 h105 =>
 bnd (dP CF r v105 [x6] h105) fun v106 h106 =>
 cE v106 (
 bnd (r 75 [(.s [43, 45, 42, 47, 60, 62, 61, 126, 44, 64, 38, 37])] h106) fun v107 h107 =>
 bnd (r 74 [x0, v107, (aJ 2)] h107) fun v108 h108 =>
 bnd (aA 0 x4 h108) fun v109 h109 =>
 bnd (aC 1 v109 (aJ 3) h109) fun _ h110 =>
 bnd (aA 1 x4 h110) fun v111 h111 =>
 bnd (aC 1 v111 v108 h111) fun _ h112 =>
  eK r n x2 x4 x5 h112) (
 bnd (r 75 [(.s [94, 46, 59, 40, 41, 91, 93, 124])] h106) fun v113 h113 =>
 bnd (dP CF r v113 [x6] h113) fun v114 h114 =>
 cE v114 (
 bnd (r 75 [(.s [94, 46, 59, 40, 41, 91, 93, 124])] h114) fun v115 h115 =>
 bnd (r 74 [x0, v115, (aJ 1)] h115) fun v116 h116 =>
 bnd (aA 0 x4 h116) fun v117 h117 =>
 bnd (aC 1 v117 (aJ 10) h117) fun _ h118 =>
 bnd (aA 1 x4 h118) fun v119 h119 =>
 bnd (aC 1 v119 v116 h119) fun _ h120 =>
  eK r n x2 x4 x5 h120) (
  eK r n x2 x4 (aJ 10) h114)))))))))
def bAs (r : RT) (n : Nat) (x0 x2 x4 x5 : DV) (h0 : Hp) : aG :=
 bnd (r 106 [x0, (aJ 0)] h0) fun v1 h1 =>
  bAz r n x0 x2 x4 x5 v1 h1
def bAx (r : RT) (n : Nat) (x0 x2 x4 : DV) (h0 : Hp) : aG :=
 bAs r n x0 x2 x4 (aJ 0) h0
def bAk (r : RT) (n : Nat) (x0 x2 : DV) (h0 : Hp) : aG :=
 bnd (bV x0 h0) fun v1 h1 =>
 bnd (aA 1 v1 h1) fun v2 h2 =>
 bnd (aB v2 h2) fun v3 h3 =>
 bnd (cM [(aJ 0), (.s []), (aJ 0), (aJ 0)] [(3, 1, v3)] h3) fun v4 h4 =>
 bnd (cG [(aJ 0), (.s []), (aJ 0), (aJ 0)] h4) fun v5 h5 =>
 bnd (aC 4 v5 v4 h5) fun _ h6 =>
  bAx r n x0 x2 v5 h6
def s76 (r : RT) (n : Nat) (x0 : DV) (h0 : Hp) : aG :=
 bnd (cG [(aJ 0), (.s []), (aJ 0), (aJ 0)] h0) fun v1 h1 =>
  bAk r n x0 v1 h1
abbrev c76 : Code := cf Tryz.f76
abbrev r76 : K := bU CF Tryz.f76
def D76 (r : RT) (n : Nat) (c : Code) (X : Nat → K) (k : K) : K := aU CF r 153 n c X r76 k
theorem bMd : D76 r n c76 x0 r76 = (K1 (s76 r n) 0) := by kernel_rfl
theorem bJv : aN CF r n 76 args h = s76 r n (bB args 0) h :=
 fE (bMd r n) args h (by kernel_rfl) (by kernel_rfl)
def s77 (r : RT) (n : Nat) (x0 x1 x2 : DV) (h0 : Hp) : aG :=
 bnd (r 81 [x0, (aJ 0)] h0) fun v1 h1 =>
 bnd (cG [(aJ 0), (.s []), (aJ 0), (aJ 0)] h1) fun v2 h2 =>
 bnd (aC 4 v2 v1 h2) fun _ h3 =>
 bnd (bV x0 h3) fun v4 h4 =>
 bnd (aA 3 v4 h4) fun v5 h5 =>
 bnd (aB v5 h5) fun v6 h6 =>
 bnd (aP .eql v6 (aJ 0) h6) fun v7 h7 =>
 bnd (gD v7 true (aA 0 v2 h7) h7) fun v8 h8 =>
 bnd (gD v7 true (aB v8 h8) h8) fun v9 h9 =>
 bnd (gD v7 true (some (x1, h9)) h9) fun v10 h10 =>
 bnd (gD v7 true (aP .eql v9 v10 h10) h10) fun v11 h11 =>
 bnd (bZ v7 v11 (.b false) h11) fun v12 h12 =>
 bnd (gD v12 true (some (x2, h12)) h12) fun v13 h13 =>
 bnd (gD v12 true (gF .eql v13 (.s []) h13) h13) fun v14 h14 =>
 bnd (gD v12 true (some (v14, h14)) h14) fun v15 h15 =>
 bnd (gD v15 false (aA 1 v2 h15) h15) fun v16 h16 =>
 bnd (gD v15 false (aB v16 h16) h16) fun v17 h17 =>
 bnd (gD v15 false (some (x2, h17)) h17) fun v18 h18 =>
 bnd (gD v15 false (gF .eql v17 v18 h18) h18) fun v19 h19 =>
 bnd (gD v12 true (bZ v15 (.b true) v19 h19) h19) fun v20 h20 =>
 bnd (bZ v12 v20 (.b false) h20) fun v21 h21 =>
 some (v21, h21)
abbrev c77 : Code := cf Tryz.f77
abbrev r77 : K := bU CF Tryz.f77
def D77 (r : RT) (n : Nat) (c : Code) (X : Nat → K) (k : K) : K := aU CF r 31 n c X r77 k
theorem bNz : D77 r n c77 x0 r77 = (K3 (s77 r n) 0 1 2) :=
 (by kernel_rfl)
theorem bJe : aN CF r n 77 args h = s77 r n (bB args 0) (bB args 1) (bB args 2) h :=
 fE (bNz r n) args h (by kernel_rfl) (by kernel_rfl)
def aRh (r : RT) (n : Nat) (x2 x3 : DV) (h0 : Hp) : aG :=
 bnd (aE 4 x3 h0) fun v1 h1 =>
 bnd (aC 4 x2 v1 h1) fun _ h2 =>
 bnd (aE 4 x2 h2) fun v3 _ =>
 some (v3, h2)
def bBb (r : RT) (n : Nat) (x0 x2 x3 : DV) (h0 : Hp) : aG :=
 bnd (aA 0 x3 h0) fun v1 h1 =>
 bnd (aB v1 h1) fun v2 h2 =>
 bnd (aP .neq v2 (aJ 0) h2) fun v3 h3 =>
 cE v3 (
 bnd (bV x0 h3) fun v4 h4 =>
 bnd (aA 0 v4 h4) fun v5 h5 =>
 bnd (aB v5 h5) fun v6 h6 =>
 bnd (cQ 4 v6 (some (aJ 1)) none h6) fun v7 h7 =>
 bnd (bV x0 h7) fun v8 h8 =>
 bnd (aA 0 v8 h8) fun v9 h9 =>
 bnd (aC 1 v9 v7 h9) fun _ h10 =>
  aRh r n x2 x3 h10) (
  aRh r n x2 x3 h3)
def bBo (r : RT) (n : Nat) (x0 x2 : DV) (h0 : Hp) : aG :=
 bnd (r 81 [x0, (aJ 0)] h0) fun v1 h1 =>
 bnd (cG [(aJ 0), (.s []), (aJ 0), (aJ 0)] h1) fun v2 h2 =>
 bnd (aC 4 v2 v1 h2) fun _ h3 =>
  bBb r n x0 x2 v2 h3
def s78 (r : RT) (n : Nat) (x0 : DV) (h0 : Hp) : aG :=
 bnd (cG [(aJ 0), (.s []), (aJ 0), (aJ 0)] h0) fun v1 h1 =>
  bBo r n x0 v1 h1
abbrev c78 : Code := cf Tryz.f78
abbrev r78 : K := bU CF Tryz.f78
def D78 (r : RT) (n : Nat) (c : Code) (X : Nat → K) (k : K) : K := aU CF r 18 n c X r78 k
theorem bOd : D78 r n c78 x0 r78 = (K1 (s78 r n) 0) := by kernel_rfl
theorem bJy : aN CF r n 78 args h = s78 r n (bB args 0) h :=
 fE (bOd r n) args h (by kernel_rfl) (by kernel_rfl)
def s79 (r : RT) (n : Nat) (x0 : DV) (h0 : Hp) : aG :=
 bnd (cG fF h0) fun v1 h1 =>
 bnd (r 77 [x0, (aJ 1), (.s [])] h1) fun v2 h2 =>
 bnd (gD v2 true (some (x0, h2)) h2) fun v3 h3 =>
 bnd (gD v2 true (r 81 [v3, (aJ 1)] h3) h3) fun v4 h4 =>
 bnd (gD v2 true (eW 0 v4 h4) h4) fun v5 h5 =>
 bnd (gD v2 true (aP .eql v5 (aJ 9) h5) h5) fun v6 h6 =>
 bnd (bZ v2 v6 (.b false) h6) fun v7 h7 =>
 cE v7 (
 bnd (r 78 [x0] h7) fun v8 h8 =>
 bnd (eW 1 v8 h8) fun v9 h9 =>
 bnd (cM fF [(0, 1, (aJ 6)), (1, 1, v9)] h9) fun v10 h10 =>
 bnd (cG fF h10) fun v11 h11 =>
 bnd (aC 6 v11 v10 h11) fun _ h12 =>
 bnd (r 78 [x0] h12) fun v13 h13 =>
 bnd (r 79 [x0] h13) fun v14 h14 =>
 bnd (aO fF 1 [(0, 6, v14)] h14) fun v15 h15 =>
 bnd (aA 5 v11 h15) fun v16 h16 =>
 bnd (aC 1 v16 v15 h16) fun _ h17 =>
 bnd (aE 6 v11 h17) fun v18 h18 =>
 bnd (aC 6 v1 v18 h18) fun _ h19 =>
 bnd (aE 6 v1 h19) fun v20 _ =>
 some (v20, h19)) (
 bnd (r 114 [x0] h7) fun v21 h21 =>
 bnd (aC 6 v1 v21 h21) fun _ h22 =>
 bnd (aE 6 v1 h22) fun v23 _ =>
 some (v23, h22))
abbrev c79 : Code := cf Tryz.f79
abbrev r79 : K := bU CF Tryz.f79
def D79 (r : RT) (n : Nat) (c : Code) (X : Nat → K) (k : K) : K := aU CF r 25 n c X r79 k
theorem bOb : D79 r n c79 x0 r79 = (K1 (s79 r n) 0) :=
 (by kernel_rfl)
theorem bJz : aN CF r n 79 args h = s79 r n (bB args 0) h :=
 fE (bOb r n) args h (by kernel_rfl) (by kernel_rfl)
def s80 (r : RT) (n : Nat) (x0 x1 x2 : DV) (h0 : Hp) : aG :=
 bnd (iH x1 h0) fun v1 h1 =>
 bnd (bV x0 h1) fun v2 h2 =>
 bnd (aA 3 v2 h2) fun v3 h3 =>
 bnd (aB v3 h3) fun v4 h4 =>
 bnd (aP .eql v4 (aJ 0) h4) fun v5 h5 =>
 cE v5 (
 bnd (aA 3 v1 h5) fun v6 h6 =>
 bnd (aB v6 h6) fun v7 h7 =>
 bnd (bV x0 h7) fun v8 h8 =>
 bnd (aA 2 v8 h8) fun v9 h9 =>
 bnd (aC 1 v9 v7 h9) fun _ h10 =>
 bnd (bV x0 h10) fun v11 h11 =>
 bnd (aA 3 v11 h11) fun v12 h12 =>
 bnd (aC 1 v12 x2 h12) fun _ h13 =>
 some (.t [], h13)) (
 some (.t [], h5))
abbrev c80 : Code := cf Tryz.f80
abbrev r80 : K := bU CF Tryz.f80
def D80 (r : RT) (n : Nat) (c : Code) (X : Nat → K) (k : K) : K := aU CF r 20 n c X r80 k
theorem bNh : D80 r n c80 x0 r80 = (K3 (s80 r n) 0 1 2) :=
 (by kernel_rfl)
theorem bKm : aN CF r n 80 args h = s80 r n (bB args 0) (bB args 1) (bB args 2) h :=
 fE (bNh r n) args h (by kernel_rfl) (by kernel_rfl)
def s81 (r : RT) (n : Nat) (x0 x1 : DV) (h0 : Hp) : aG :=
 bnd (cG [(aJ 0), (.s []), (aJ 0), (aJ 0)] h0) fun v1 h1 =>
 bnd (bV x0 h1) fun v2 h2 =>
 bnd (aA 0 v2 h2) fun v3 h3 =>
 bnd (aB v3 h3) fun v4 h4 =>
 bnd (bV x0 h4) fun v5 h5 =>
 bnd (aA 0 v5 h5) fun v6 h6 =>
 bnd (aB v6 h6) fun v7 h7 =>
 bnd (gZ v7 h7) fun v8 h8 =>
 bnd (aP .sub v8 (aJ 1) h8) fun v9 h9 =>
 bnd (aIx x1 v9 h9) fun v10 h10 =>
 bnd (aZ 4 v4 v10 h10) fun v11 h11 =>
 bnd (aE 4 v11 h11) fun v12 h12 =>
 bnd (aC 4 v1 v12 h12) fun v13 h13 =>
 bnd (aE 4 v1 h13) fun v14 _ =>
 some (v14, h13)
abbrev c81 : Code := cf Tryz.f81
abbrev r81 : K := bU CF Tryz.f81
def D81 (r : RT) (n : Nat) (c : Code) (X : Nat → K) (k : K) : K := aU CF r 19 n c X r81 k
theorem bNe : D81 r n c81 x0 r81 = (K2 (s81 r n) 0 1) :=
 (by kernel_rfl)
theorem bKt : aN CF r n 81 args h = s81 r n (bB args 0) (bB args 1) h :=
 fE (bNe r n) args h (by kernel_rfl) (by kernel_rfl)
def aMl (r : RT) (n : Nat) (x7 : DV) (h0 : Hp) : aG :=
 bnd (aA 1 x7 h0) fun v1 h1 =>
 bnd (aB v1 h1) fun v2 h2 =>
 some (v2, h2)
def bBu (r : RT) (n : Nat) (x0 x2 x7 : DV) (h0 : Hp) : aG :=
 bnd (gZ x2 h0) fun v1 h1 =>
 bnd (aP .eql v1 (aJ 4) h1) fun v2 h2 =>
 cE v2 (
 bnd (aE 4 x7 h2) fun v3 h3 =>
 bnd (r 80 [x0, v3, (aJ 18)] h3) fun v4 h4 =>
  aMl r n x7 h4) (
  aMl r n x7 h2)
def bBf (r : RT) (n : Nat) (x0 x1 x2 : DV) (h0 : Hp) : aG :=
 bnd (r 51 [x0, x1, (.s [])] h0) fun v1 h1 =>
 bnd (cG [(aJ 0), (.s []), (aJ 0), (aJ 0)] h1) fun v2 h2 =>
 bnd (aC 4 v2 v1 h2) fun _ h3 =>
  bBu r n x0 x2 v2 h3
def s82 (r : RT) (n : Nat) (x0 x1 x2 : DV) (h0 : Hp) : aG :=
 bBf r n x0 x1 x2 h0
abbrev c82 : Code := cf Tryz.f82
abbrev r82 : K := bU CF Tryz.f82
def D82 (r : RT) (n : Nat) (c : Code) (X : Nat → K) (k : K) : K := aU CF r 19 n c X r82 k
theorem bNb : D82 r n c82 x0 r82 = (K3 (s82 r n) 0 1 2) := by kernel_rfl
theorem bKk : aN CF r n 82 args h = s82 r n (bB args 0) (bB args 1) (bB args 2) h :=
 fE (bNb r n) args h (by kernel_rfl) (by kernel_rfl)
def s85 (r : RT) (n : Nat) (x0 x1 : DV) (h0 : Hp) : aG :=
 bnd (aIr [x0, x1] h0) fun v1 h1 =>
 some (v1, h1)
abbrev c85 : Code := cf Tryz.f85
abbrev r85 : K := bU CF Tryz.f85
def D85 (r : RT) (n : Nat) (c : Code) (X : Nat → K) (k : K) : K := aU CF r 8 n c X r85 k
theorem bMm : D85 r n c85 x0 r85 = (K2 (s85 r n) 0 1) :=
 (by kernel_rfl)
theorem bKg : aN CF r n 85 args h = s85 r n (bB args 0) (bB args 1) h :=
 fE (bMm r n) args h (by kernel_rfl) (by kernel_rfl)
def s89 (r : RT) (n : Nat) (x0 x1 x2 : DV) (h0 : Hp) : aG :=
 bnd (gZ x0 h0) fun v1 h1 =>
 bnd (aP .geq x1 v1 h1) fun v2 h2 =>
 cE v2 (
 some ((.s []), h2)) (
 bnd (aZ 6 x0 x1 h2) fun v3 h3 =>
 bnd (aE 6 v3 h3) fun v4 h4 =>
 bnd (r 126 [v4] h4) fun v5 h5 =>
 bnd (aP .gtr v5 x2 h5) fun v6 h6 =>
 cE v6 (
 bnd (aZ 6 x0 x1 h6) fun v7 h7 =>
 bnd (aE 6 v7 h7) fun v8 h8 =>
 bnd (r 36 [v8] h8) fun v9 h9 =>
 bnd (aO [(.s []), (.s []), (.s [])] 3 [(0, 1, (.s [40])), (1, 1, v9), (2, 1, (.s [41]))] h9) fun v10 h10 =>
 bnd (r 19 [v10] h10) fun v11 h11 =>
 some (v11, h11)) (
 bnd (aZ 6 x0 x1 h6) fun v12 h12 =>
 bnd (aE 6 v12 h12) fun v13 h13 =>
 bnd (r 36 [v13] h13) fun v14 h14 =>
 some (v14, h14)))
abbrev c89 : Code := cf Tryz.f89
abbrev r89 : K := bU CF Tryz.f89
def D89 (r : RT) (n : Nat) (c : Code) (X : Nat → K) (k : K) : K := aU CF r 32 n c X r89 k
theorem bNu : D89 r n c89 x0 r89 = (K3 (s89 r n) 0 1 2) :=
 (by kernel_rfl)
theorem bIn : aN CF r n 89 args h = s89 r n (bB args 0) (bB args 1) (bB args 2) h :=
 fE (bNu r n) args h (by kernel_rfl) (by kernel_rfl)
def fL (r : RT) (n : Nat) (x5 : DV) (h0 : Hp) : aG :=
 bnd (kI [x5, (.s [32])] h0) fun v1 h1 =>
 some (v1, h1)
def oJ (r : RT) (n : Nat) (kk6 : TT5) (x1 x5 x21 x22 x23 : DV) (h0 : Hp) : aG :=
 bnd (aP .lss x23 x22 h0) fun v1 h1 =>
 cE v1 (
 bnd (aZ 1 x21 x23 h1) fun v2 h2 =>
 bnd (aB v2 h2) fun v3 h3 =>
 bnd (r 89 [x1, x23, (aJ 2)] h3) fun v4 h4 =>
 bnd (aO [(.s []), (.s []), (.s [])] 3 [(0, 1, v3), (1, 1, (.s [32])), (2, 1, v4)] h4) fun v5 h5 =>
 bnd (r 19 [v5] h5) fun v6 h6 =>
 bnd (aO [(.s [])] 1 [(0, 1, v6)] h6) fun v7 h7 =>
 bnd (bN 1 16 x5 v7 h7) fun v8 h8 =>
 bnd (aP .add x23 (aJ 1) h8) fun v9 h9 =>
      kk6 x1 v8 x21 x22 v9 h9) (
      fL r n x5 h1)
def jZ (r : RT) (n : Nat) (m : Nat) : TT5 :=
 Nat.rec (motive := fun _ => TT5) (fun _ _ _ _ _ _ => none) (fun _ ih => oJ r n ih) m
def aKy (r : RT) (n : Nat) : TT5 := jZ r n n
def aEi (r : RT) (n : Nat) (x1 x5 x21 x22 x23 : DV) (h0 : Hp) : aG :=
 aKy r n x1 x5 x21 x22 x23 h0
def aEt (r : RT) (n : Nat) (x0 x1 x5 : DV) (h0 : Hp) : aG :=
 bnd (r 33 [x0] h0) fun v1 h1 =>
 bnd (gZ v1 h1) fun v2 h2 =>
  aEi r n x1 x5 v1 v2 (aJ 0) h2
def aGt (r : RT) (n : Nat) (x0 x1 : DV) (h0 : Hp) : aG :=
 aEt r n x0 x1 .l0 h0
def aFn (r : RT) (n : Nat) (x0 x1 : DV) (h0 : Hp) : aG :=
 bnd (r 32 [x0] h0) fun v1 h1 =>
 bnd (aP .eql v1 (aJ 1) h1) fun v2 h2 =>
 cE v2 (
 some (x0, h2)) (
 bnd (aP .eql v1 (aJ 2) h2) fun v3 h3 =>
 cE v3 (
 bnd (r 89 [x1, (aJ 0), (aJ 1)] h3) fun v4 h4 =>
 bnd (aO [(.s []), (.s []), (.s [])] 3 [(0, 1, x0), (1, 1, (.s [32])), (2, 1, v4)] h4) fun v5 h5 =>
 bnd (r 19 [v5] h5) fun v6 h6 =>
 some (v6, h6)) (
  aGt r n x0 x1 h3))
def s90 (r : RT) (n : Nat) (x0 x1 : DV) (h0 : Hp) : aG :=
 aFn r n x0 x1 h0
abbrev c90 : Code := cf Tryz.f90
abbrev aHv := cR c90
abbrev aGn := cR aHv
abbrev aGj := cR aGn
abbrev bIo := cR aGj
abbrev aAs := cL aGj
abbrev aPw := cR aAs
abbrev aEe := cL aPw
abbrev sM := cL aEe
abbrev bAh := cL aAs
abbrev aRn := cL aGn
abbrev aMv := cL aHv
abbrev aRw := cL c90
abbrev r90 : K := bU CF Tryz.f90
def D90 (r : RT) (n : Nat) (c : Code) (X : Nat → K) (k : K) : K := aU CF r 40 n c X r90 k
theorem bCs : D90 r n bIo x0 r90 = (K1 (fL r n) 5) := by kernel_rfl
theorem aXp (kk6 : TT5) : D90 r n sM (xs x0 1 (K1 (fL r n) 5)) (K5 kk6 1 5 21 22 23) = (K5 (oJ r n kk6) 1 5 21 22 23) := by kernel_rfl
theorem aXw (m : Nat) : aR (fun kk => D90 r n sM (xs x0 1 (K1 (fL r n) 5)) kk) m = (K5 (jZ r n m) 1 5 21 22 23) := by
 induction m with
 | zero => exact (by kernel_rfl : aR (fun kk => D90 r n sM (xs x0 1 (K1 (fL r n) 5)) kk) 0 = (K5 (jZ r n 0) 1 5 21 22 23))
 | succ m ih =>
  refine (by kernel_rfl : aR (fun kk => D90 r n sM (xs x0 1 (K1 (fL r n) 5)) kk) (m + 1) = D90 r n sM (xs x0 1 (K1 (fL r n) 5)) (aR (fun kk => D90 r n sM (xs x0 1 (K1 (fL r n) 5)) kk) m)).trans ?_
  rw [ih]
  exact (aXp r n (jZ r n m)).trans (by kernel_rfl)
theorem bCk : D90 r n aEe (xs x0 1 (K1 (fL r n) 5)) (K1 (fL r n) 5) = (K5 (aKy r n) 1 5 21 22 23) :=
 (by kernel_rfl : D90 r n aEe (xs x0 1 (K1 (fL r n) 5)) (K1 (fL r n) 5) = aR (fun kk => D90 r n sM (xs x0 1 (K1 (fL r n) 5)) kk) n).trans ((aXw r n n).trans (by kernel_rfl))
theorem bCc : D90 r n aPw x0 (K1 (fL r n) 5) = (K5 (aEi r n) 1 5 21 22 23) :=
 (by kernel_rfl : D90 r n aPw x0 (K1 (fL r n) 5) = D90 r n aEe (xs x0 1 (K1 (fL r n) 5)) (K1 (fL r n) 5)).trans
 ((bCk r n).trans (by kernel_rfl))
theorem aYt : D90 r n aGj x0 r90 = D90 r n aAs x0 (K1 (fL r n) 5) :=
 congrArg (fun k => D90 r n aAs x0 k) (bCs r n)
theorem aTh : D90 r n aAs x0 (K1 (fL r n) 5) = D90 r n bAh x0 (K5 (aEi r n) 1 5 21 22 23) :=
 congrArg (fun k => D90 r n bAh x0 k) (bCc r n)
theorem bEs : D90 r n aGj x0 r90 = (K3 (aEt r n) 0 1 5) :=
 (aYt r n).trans
 ((aTh r n).trans
 ((by kernel_rfl)))
theorem aWl : D90 r n aGn x0 r90 = D90 r n aRn x0 (K3 (aEt r n) 0 1 5) :=
 congrArg (fun k => D90 r n aRn x0 k) (bEs r n)
theorem bBx : D90 r n aGn x0 r90 = (K2 (aGt r n) 0 1) :=
 (aWl r n).trans
 ((by kernel_rfl))
theorem aXo : D90 r n aHv x0 r90 = D90 r n aMv x0 (K2 (aGt r n) 0 1) :=
 congrArg (fun k => D90 r n aMv x0 k) (bBx r n)
theorem bEh : D90 r n aHv x0 r90 = (K2 (aFn r n) 0 1) :=
 (aXo r n).trans
 ((by kernel_rfl))
theorem bIv : D90 r n c90 x0 r90 = D90 r n aRw x0 (K2 (aFn r n) 0 1) :=
 congrArg (fun k => D90 r n aRw x0 k) (bEh r n)
theorem bMf : D90 r n c90 x0 r90 = (K2 (s90 r n) 0 1) :=
 (bIv r n).trans
 ((by kernel_rfl))
theorem bLg : aN CF r n 90 args h = s90 r n (bB args 0) (bB args 1) h :=
 fE (bMf r n) args h (by kernel_rfl) (by kernel_rfl)
def s91 (r : RT) (n : Nat) (x0 : DV) (h0 : Hp) : aG :=
 bnd (iH x0 h0) fun v1 h1 =>
 bnd (aA 1 v1 h1) fun v2 h2 =>
 bnd (aB v2 h2) fun v3 h3 =>
 bnd (aA 5 v1 h3) fun v4 h4 =>
 bnd (aB v4 h4) fun v5 h5 =>
 bnd (r 90 [v3, v5] h5) fun v6 h6 =>
 bnd (aO [(.s []), (.s [])] 2 [(0, 1, (.s [59, 32])), (1, 1, v6)] h6) fun v7 h7 =>
 bnd (r 19 [v7] h7) fun v8 h8 =>
 some (v8, h8)
abbrev c91 : Code := cf Tryz.f91
abbrev r91 : K := bU CF Tryz.f91
def D91 (r : RT) (n : Nat) (c : Code) (X : Nat → K) (k : K) : K := aU CF r 10 n c X r91 k
theorem bMg : D91 r n c91 x0 r91 = (K1 (s91 r n) 0) :=
 (by kernel_rfl)
theorem bJx : aN CF r n 91 args h = s91 r n (bB args 0) h :=
 fE (bMg r n) args h (by kernel_rfl) (by kernel_rfl)
end
end Go.Dd

namespace Go.Dd
open Go.Proofs
noncomputable section
variable (r : RT) (n : Nat) (args : List DV) (h : Hp)
def s105 (r : RT) (n : Nat) (x0 x1 : DV) (h0 : Hp) : aG :=
 bnd (aB x1 h0) fun v1 h1 =>
 bnd (r 57 [v1, x0] h1) fun v2 h2 =>
 bnd (aP .geq v2 (aJ 0) h2) fun v3 h3 =>
 some (v3, h3)
abbrev c105 : Code := cf Tryz.f105
abbrev r105 : K := bU CF Tryz.f105
def D105 (r : RT) (n : Nat) (c : Code) (X : Nat → K) (k : K) : K := aU CF r 8 n c X r105 k
theorem bKz : D105 r n c105 x0 r105 = (K2 (s105 r n) 0 1) :=
 (by kernel_rfl)
theorem bEj : aN CF r n 105 args h = s105 r n (bB args 0) (bB args 1) h :=
 fE (bKz r n) args h (by kernel_rfl) (by kernel_rfl)
def s106 (r : RT) (n : Nat) (x0 x1 : DV) (h0 : Hp) : aG :=
 bnd (bV x0 h0) fun v1 h1 =>
 bnd (aA 1 v1 h1) fun v2 h2 =>
 bnd (aB v2 h2) fun v3 h3 =>
 bnd (aP .add v3 x1 h3) fun v4 h4 =>
 bnd (bV x0 h4) fun v5 h5 =>
 bnd (aA 0 v5 h5) fun v6 h6 =>
 bnd (aB v6 h6) fun v7 h7 =>
 bnd (gN v7 h7) fun v8 h8 =>
 bnd (aP .geq v4 v8 h8) fun v9 h9 =>
 cE v9 (
 some ((.i .u8 (Int.ofNat 0)), h9)) (
 bnd (bV x0 h9) fun v10 h10 =>
 bnd (aA 0 v10 h10) fun v11 h11 =>
 bnd (aB v11 h11) fun v12 h12 =>
 bnd (bV x0 h12) fun v13 h13 =>
 bnd (aA 1 v13 h13) fun v14 h14 =>
 bnd (aB v14 h14) fun v15 h15 =>
 bnd (aP .add v15 x1 h15) fun v16 h16 =>
 bnd (dX v12 v16 h16) fun v17 h17 =>
 some (v17, h17))
abbrev c106 : Code := cf Tryz.f106
abbrev r106 : K := bU CF Tryz.f106
def D106 (r : RT) (n : Nat) (c : Code) (X : Nat → K) (k : K) : K := aU CF r 28 n c X r106 k
theorem bIq : D106 r n c106 x0 r106 = (K2 (s106 r n) 0 1) :=
 (by kernel_rfl)
theorem bFk : aN CF r n 106 args h = s106 r n (bB args 0) (bB args 1) h :=
 fE (bIq r n) args h (by kernel_rfl) (by kernel_rfl)
def s107 (r : RT) (n : Nat) (x0 : DV) (h0 : Hp) : aG :=
 bnd (aP .geq x0 (.i .u8 (Int.ofNat 97)) h0) fun v1 h1 =>
 bnd (gD v1 true (some (x0, h1)) h1) fun v2 h2 =>
 bnd (gD v1 true (aP .leq v2 (.i .u8 (Int.ofNat 122)) h2) h2) fun v3 h3 =>
 bnd (bZ v1 v3 (.b false) h3) fun v4 h4 =>
 bnd (gD v4 false (some (x0, h4)) h4) fun v5 h5 =>
 bnd (gD v4 false (aP .geq v5 (.i .u8 (Int.ofNat 65)) h5) h5) fun v6 h6 =>
 bnd (gD v4 false (some (v6, h6)) h6) fun v7 h7 =>
 bnd (gD v7 true (some (x0, h7)) h7) fun v8 h8 =>
 bnd (gD v7 true (aP .leq v8 (.i .u8 (Int.ofNat 90)) h8) h8) fun v9 h9 =>
 bnd (gD v4 false (bZ v7 v9 (.b false) h9) h9) fun v10 h10 =>
 bnd (bZ v4 (.b true) v10 h10) fun v11 h11 =>
 some (v11, h11)
abbrev c107 : Code := cf Tryz.f107
abbrev r107 : K := bU CF Tryz.f107
def D107 (r : RT) (n : Nat) (c : Code) (X : Nat → K) (k : K) : K := aU CF r 17 n c X r107 k
theorem bLo : D107 r n c107 x0 r107 = (K1 (s107 r n) 0) :=
 (by kernel_rfl)
theorem bFe : aN CF r n 107 args h = s107 r n (bB args 0) h :=
 fE (bLo r n) args h (by kernel_rfl) (by kernel_rfl)
def s108 (r : RT) (n : Nat) (x0 : DV) (h0 : Hp) : aG :=
 bnd (bV x0 h0) fun v1 h1 =>
 bnd (aA 0 v1 h1) fun v2 h2 =>
 bnd (aB v2 h2) fun v3 h3 =>
 bnd (gN v3 h3) fun v4 h4 =>
 bnd (r 74 [x0, (.f 132 [] []), v4] h4) fun v5 h5 =>
 bnd (gN v5 h5) fun v6 h6 =>
 bnd (aP .gtr v6 (aJ 24) h6) fun v7 h7 =>
 cE v7 (
 some (.t [(.s []), (aJ 12)], h7)) (
 some (.t [v5, (aJ 0)], h7))
abbrev c108 : Code := cf Tryz.f108
abbrev r108 : K := bU CF Tryz.f108
def D108 (r : RT) (n : Nat) (c : Code) (X : Nat → K) (k : K) : K := aU CF r 16 n c X r108 k
theorem bJi : D108 r n c108 x0 r108 = (K1 (s108 r n) 0) :=
 (by kernel_rfl)
theorem bGw : aN CF r n 108 args h = s108 r n (bB args 0) h :=
 fE (bJi r n) args h (by kernel_rfl) (by kernel_rfl)
def s109 (r : RT) (n : Nat) (x0 : DV) (h0 : Hp) : aG :=
 bnd (r 106 [x0, (aJ 0)] h0) fun v1 h1 =>
 bnd (aP .neq v1 (.i .u8 (Int.ofNat 58)) h1) fun v2 h2 =>
 bnd (gD v2 false (some (x0, h2)) h2) fun v3 h3 =>
 bnd (gD v2 false (r 106 [v3, (aJ 1)] h3) h3) fun v4 h4 =>
 bnd (gD v2 false (aP .eql v4 (.i .u8 (Int.ofNat 61)) h4) h4) fun v5 h5 =>
 bnd (bZ v2 (.b true) v5 h5) fun v6 h6 =>
 cE v6 (
 some ((.b false), h6)) (
 bnd (bV x0 h6) fun v7 h7 =>
 bnd (aA 1 v7 h7) fun v8 h8 =>
 bnd (aB v8 h8) fun v9 h9 =>
 bnd (aP .add v9 (aJ 1) h9) fun v10 h10 =>
 bnd (bV x0 h10) fun v11 h11 =>
 bnd (aA 1 v11 h11) fun v12 h12 =>
 bnd (aC 1 v12 v10 h12) fun _ h13 =>
 some ((.b true), h13))
abbrev c109 : Code := cf Tryz.f109
abbrev r109 : K := bU CF Tryz.f109
def D109 (r : RT) (n : Nat) (c : Code) (X : Nat → K) (k : K) : K := aU CF r 18 n c X r109 k
theorem bLa : D109 r n c109 x0 r109 = (K1 (s109 r n) 0) :=
 (by kernel_rfl)
theorem bFf : aN CF r n 109 args h = s109 r n (bB args 0) h :=
 fE (bLa r n) args h (by kernel_rfl) (by kernel_rfl)
def s110 (r : RT) (n : Nat) (x0 : DV) (h0 : Hp) : aG :=
 bnd (aP .geq x0 (.i .u8 (Int.ofNat 48)) h0) fun v1 h1 =>
 bnd (gD v1 true (some (x0, h1)) h1) fun v2 h2 =>
 bnd (gD v1 true (aP .leq v2 (.i .u8 (Int.ofNat 57)) h2) h2) fun v3 h3 =>
 bnd (bZ v1 v3 (.b false) h3) fun v4 h4 =>
 some (v4, h4)
abbrev c110 : Code := cf Tryz.f110
abbrev r110 : K := bU CF Tryz.f110
def D110 (r : RT) (n : Nat) (c : Code) (X : Nat → K) (k : K) : K := aU CF r 9 n c X r110 k
theorem bKb : D110 r n c110 x0 r110 = (K1 (s110 r n) 0) :=
 (by kernel_rfl)
theorem bFg : aN CF r n 110 args h = s110 r n (bB args 0) h :=
 fE (bKb r n) args h (by kernel_rfl) (by kernel_rfl)
def dT (r : RT) (n : Nat) (x4 : DV) (h0 : Hp) : aG :=
 some (.t [x4, (aJ 0)], h0)
def lI (r : RT) (n : Nat) (kk5 : lH) (x4 x14 : DV) (h0 : Hp) : aG :=
 bnd (pC x14 h0) fun v1 h1 =>
 bnd (aM 0 v1 h1) fun v2 h2 =>
 cE v2 (
 bnd (aM 2 v1 h2) fun v3 h3 =>
 bnd (aP .gtr x4 (aJ 115292150460684697) h3) fun v4 h4 =>
 cE v4 (
 some (.t [(aJ 0), (aJ 2)], h4)) (
 bnd (aP .mul x4 (aJ 10) h4) fun v5 h5 =>
 bnd (aP .sub v3 (.i .i32 (Int.ofNat 48)) h5) fun v6 h6 =>
 bnd (oD .i64 v6 h6) fun v7 h7 =>
 bnd (aP .add v5 v7 h7) fun v8 h8 =>
 bnd (aP .gtr v8 (aJ 1152921504606846976) h8) fun v9 h9 =>
 cE v9 (
 some (.t [(aJ 0), (aJ 2)], h9)) (
  kk5 v8 x14 h9))) (
  dT r n x4 h2)
def iD (r : RT) (n : Nat) (m : Nat) : lH :=
 Nat.rec (motive := fun _ => lH) (fun _ _ _ => none) (fun _ ih => lI r n ih) m
def aCn (r : RT) (n : Nat) : lH := iD r n n
def xP (r : RT) (n : Nat) (x4 x14 : DV) (h0 : Hp) : aG :=
 aCn r n x4 x14 h0
def xT (r : RT) (n : Nat) (x0 x4 : DV) (h0 : Hp) : aG :=
 bnd (bV x0 h0) fun v1 h1 =>
 bnd (aA 0 v1 h1) fun v2 h2 =>
 bnd (aB v2 h2) fun v3 h3 =>
 bnd (gN v3 h3) fun v4 h4 =>
 bnd (r 74 [x0, (.f 110 [] []), v4] h4) fun v5 h5 =>
 bnd (yZ v5 h5) fun v6 h6 =>
  xP r n x4 v6 h6
def yL (r : RT) (n : Nat) (x0 : DV) (h0 : Hp) : aG :=
 xT r n x0 (aJ 0) h0
def s111 (r : RT) (n : Nat) (x0 : DV) (h0 : Hp) : aG :=
 yL r n x0 h0
abbrev c111 : Code := cf Tryz.f111
abbrev vE := cR c111
abbrev vU := cR vE
abbrev bGg := cR vU
abbrev qM := cL vU
abbrev aDo := cR qM
abbrev xO := cL aDo
abbrev mE := cL xO
abbrev aRg := cL qM
abbrev aLz := cL vE
abbrev aFo := cL c111
abbrev r111 : K := bU CF Tryz.f111
def D111 (r : RT) (n : Nat) (c : Code) (X : Nat → K) (k : K) : K := aU CF r 29 n c X r111 k
theorem aWd : D111 r n bGg x0 r111 = (K1 (dT r n) 4) := by kernel_rfl
theorem aRo (kk5 : lH) : D111 r n mE (xs x0 0 (K1 (dT r n) 4)) (K2 kk5 4 14) = (K2 (lI r n kk5) 4 14) := by kernel_rfl
theorem aRs (m : Nat) : aR (fun kk => D111 r n mE (xs x0 0 (K1 (dT r n) 4)) kk) m = (K2 (iD r n m) 4 14) := by
 induction m with
 | zero => exact (by kernel_rfl : aR (fun kk => D111 r n mE (xs x0 0 (K1 (dT r n) 4)) kk) 0 = (K2 (iD r n 0) 4 14))
 | succ m ih =>
  refine (by kernel_rfl : aR (fun kk => D111 r n mE (xs x0 0 (K1 (dT r n) 4)) kk) (m + 1) = D111 r n mE (xs x0 0 (K1 (dT r n) 4)) (aR (fun kk => D111 r n mE (xs x0 0 (K1 (dT r n) 4)) kk) m)).trans ?_
  rw [ih]
  exact (aRo r n (iD r n m)).trans (by kernel_rfl)
theorem aXr : D111 r n xO (xs x0 0 (K1 (dT r n) 4)) (K1 (dT r n) 4) = (K2 (aCn r n) 4 14) :=
 (by kernel_rfl : D111 r n xO (xs x0 0 (K1 (dT r n) 4)) (K1 (dT r n) 4) = aR (fun kk => D111 r n mE (xs x0 0 (K1 (dT r n) 4)) kk) n).trans ((aRs r n n).trans (by kernel_rfl))
theorem aTt : D111 r n aDo x0 (K1 (dT r n) 4) = (K2 (xP r n) 4 14) :=
 (by kernel_rfl : D111 r n aDo x0 (K1 (dT r n) 4) = D111 r n xO (xs x0 0 (K1 (dT r n) 4)) (K1 (dT r n) 4)).trans
 ((aXr r n).trans (by kernel_rfl))
theorem aJw : D111 r n vU x0 r111 = D111 r n qM x0 (K1 (dT r n) 4) :=
 congrArg (fun k => D111 r n qM x0 k) (aWd r n)
theorem aSr : D111 r n qM x0 (K1 (dT r n) 4) = D111 r n aRg x0 (K2 (xP r n) 4 14) :=
 congrArg (fun k => D111 r n aRg x0 k) (aTt r n)
theorem aYf : D111 r n vU x0 r111 = (K2 (xT r n) 0 4) :=
 (aJw r n).trans
 ((aSr r n).trans
 ((by kernel_rfl)))
theorem aNr : D111 r n vE x0 r111 = D111 r n aLz x0 (K2 (xT r n) 0 4) :=
 congrArg (fun k => D111 r n aLz x0 k) (aYf r n)
theorem aZz : D111 r n vE x0 r111 = (K1 (yL r n) 0) :=
 (aNr r n).trans
 ((by kernel_rfl))
theorem bEc : D111 r n c111 x0 r111 = D111 r n aFo x0 (K1 (yL r n) 0) :=
 congrArg (fun k => D111 r n aFo x0 k) (aZz r n)
theorem bKa : D111 r n c111 x0 r111 = (K1 (s111 r n) 0) :=
 (bEc r n).trans
 ((by kernel_rfl))
theorem bDb : aN CF r n 111 args h = s111 r n (bB args 0) h :=
 fE (bKa r n) args h (by kernel_rfl) (by kernel_rfl)
def qB (r : RT) (n : Nat) (kk3 : lH) (x0 x4 : DV) (h0 : Hp) : aG :=
 bnd (bV x0 h0) fun v1 h1 =>
 bnd (aA 0 v1 h1) fun v2 h2 =>
 bnd (aB v2 h2) fun v3 h3 =>
 bnd (gN v3 h3) fun v4 h4 =>
 bnd (r 74 [x0, (.f 133 [] []), v4] h4) fun v5 h5 =>
 bnd (gF .add x4 v5 h5) fun v6 h6 =>
 bnd (bV x0 h6) fun v7 h7 =>
 bnd (aA 1 v7 h7) fun v8 h8 =>
 bnd (aB v8 h8) fun v9 h9 =>
 bnd (bV x0 h9) fun v10 h10 =>
 bnd (aA 0 v10 h10) fun v11 h11 =>
 bnd (aB v11 h11) fun v12 h12 =>
 bnd (gN v12 h12) fun v13 h13 =>
 bnd (aP .geq v9 v13 h13) fun v14 h14 =>
 cE v14 (
 some (.t [(.s []), (aJ 11)], h14)) (
 bnd (bV x0 h14) fun v15 h15 =>
 bnd (aA 1 v15 h15) fun v16 h16 =>
 bnd (aB v16 h16) fun v17 h17 =>
 bnd (aP .add v17 (aJ 1) h17) fun v18 h18 =>
 bnd (bV x0 h18) fun v19 h19 =>
 bnd (aA 1 v19 h19) fun v20 h20 =>
 bnd (aC 1 v20 v18 h20) fun _ h21 =>
 bnd (r 106 [x0, (aJ 0)] h21) fun v22 h22 =>
 bnd (aP .neq v22 (.i .u8 (Int.ofNat 39)) h22) fun v23 h23 =>
 cE v23 (
 some (.t [v6, (aJ 0)], h23)) (
 bnd (gF .add v6 (.s [39]) h23) fun v24 h24 =>
 bnd (bV x0 h24) fun v25 h25 =>
 bnd (aA 1 v25 h25) fun v26 h26 =>
 bnd (aB v26 h26) fun v27 h27 =>
 bnd (aP .add v27 (aJ 1) h27) fun v28 h28 =>
 bnd (bV x0 h28) fun v29 h29 =>
 bnd (aA 1 v29 h29) fun v30 h30 =>
 bnd (aC 1 v30 v28 h30) fun _ h31 =>
  kk3 x0 v24 h31))
def kE (r : RT) (n : Nat) (m : Nat) : lH :=
 Nat.rec (motive := fun _ => lH) (fun _ _ _ => none) (fun _ ih => qB r n ih) m
def aDd (r : RT) (n : Nat) : lH := kE r n n
def vO (r : RT) (n : Nat) (x0 x4 : DV) (h0 : Hp) : aG :=
 aDd r n x0 x4 h0
def xK (r : RT) (n : Nat) (x0 : DV) (h0 : Hp) : aG :=
 vO r n x0 (.s []) h0
def s112 (r : RT) (n : Nat) (x0 : DV) (h0 : Hp) : aG :=
 xK r n x0 h0
abbrev c112 : Code := cf Tryz.f112
abbrev wZ := cR c112
abbrev aCt := cR wZ
abbrev yS := cL aCt
abbrev lW := cL yS
abbrev aMq := cL wZ
abbrev aQz := cL c112
abbrev r112 : K := bU CF Tryz.f112
def D112 (r : RT) (n : Nat) (c : Code) (X : Nat → K) (k : K) : K := aU CF r 44 n c X r112 k
theorem aOv (kk3 : lH) : D112 r n lW (xs x0 0 r112) (K2 kk3 0 4) = (K2 (qB r n kk3) 0 4) := by kernel_rfl
theorem aKv (m : Nat) : aR (fun kk => D112 r n lW (xs x0 0 r112) kk) m = (K2 (kE r n m) 0 4) := by
 induction m with
 | zero => exact (by kernel_rfl : aR (fun kk => D112 r n lW (xs x0 0 r112) kk) 0 = (K2 (kE r n 0) 0 4))
 | succ m ih =>
  refine (by kernel_rfl : aR (fun kk => D112 r n lW (xs x0 0 r112) kk) (m + 1) = D112 r n lW (xs x0 0 r112) (aR (fun kk => D112 r n lW (xs x0 0 r112) kk) m)).trans ?_
  rw [ih]
  exact (aOv r n (kE r n m)).trans (by kernel_rfl)
theorem aVq : D112 r n yS (xs x0 0 r112) r112 = (K2 (aDd r n) 0 4) :=
 (by kernel_rfl : D112 r n yS (xs x0 0 r112) r112 = aR (fun kk => D112 r n lW (xs x0 0 r112) kk) n).trans ((aKv r n n).trans (by kernel_rfl))
theorem aWb : D112 r n aCt x0 r112 = (K2 (vO r n) 0 4) :=
 (by kernel_rfl : D112 r n aCt x0 r112 = D112 r n yS (xs x0 0 r112) r112).trans
 ((aVq r n).trans (by kernel_rfl))
theorem aPu : D112 r n wZ x0 r112 = D112 r n aMq x0 (K2 (vO r n) 0 4) :=
 congrArg (fun k => D112 r n aMq x0 k) (aWb r n)
theorem aYj : D112 r n wZ x0 r112 = (K1 (xK r n) 0) :=
 (aPu r n).trans
 ((by kernel_rfl))
theorem bHy : D112 r n c112 x0 r112 = D112 r n aQz x0 (K1 (xK r n) 0) :=
 congrArg (fun k => D112 r n aQz x0 k) (aYj r n)
theorem bJk : D112 r n c112 x0 r112 = (K1 (s112 r n) 0) :=
 (bHy r n).trans
 ((by kernel_rfl))
theorem bHp : aN CF r n 112 args h = s112 r n (bB args 0) h :=
 fE (bJk r n) args h (by kernel_rfl) (by kernel_rfl)
def eD (r : RT) (n : Nat) (x5 : DV) (h0 : Hp) : aG :=
 some (.t [x5, (aJ 0)], h0)
def qF (r : RT) (n : Nat) (kk8 : lH) (x0 x5 : DV) (h0 : Hp) : aG :=
 bnd (r 106 [x0, (aJ 0)] h0) fun v1 h1 =>
 bnd (r 107 [v1] h1) fun v2 h2 =>
 cE v2 (
 bnd (bV x0 h2) fun v3 h3 =>
 bnd (aA 1 v3 h3) fun v4 h4 =>
 bnd (aB v4 h4) fun v5 h5 =>
 bnd (r 108 [x0] h5) fun v6 h6 =>
 bnd (aM 0 v6 h6) fun v7 h7 =>
 bnd (aM 1 v6 h7) fun v8 h8 =>
 bnd (r 109 [x0] h8) fun v9 h9 =>
 bnd (tJ .not v9 h9) fun v10 h10 =>
 cE v10 (
 bnd (bV x0 h10) fun v11 h11 =>
 bnd (aA 1 v11 h11) fun v12 h12 =>
 bnd (aC 1 v12 v5 h12) fun _ h13 =>
 some (.t [x5, (aJ 0)], h13)) (
 bnd (aP .neq v8 (aJ 0) h10) fun v14 h14 =>
 cE v14 (
 some (.t [(.s []), v8], h14)) (
 bnd (gF .add v7 (.s [58]) h14) fun v15 h15 =>
 bnd (gF .add x5 v15 h15) fun v16 h16 =>
  kk8 x0 v16 h16))) (
      eD r n x5 h2)
def jR (r : RT) (n : Nat) (m : Nat) : lH :=
 Nat.rec (motive := fun _ => lH) (fun _ _ _ => none) (fun _ ih => qF r n ih) m
def aBz (r : RT) (n : Nat) : lH := jR r n n
def wU (r : RT) (n : Nat) (x0 x5 : DV) (h0 : Hp) : aG :=
 aBz r n x0 x5 h0
def yQ (r : RT) (n : Nat) (x0 x5 : DV) (h0 : Hp) : aG :=
 bnd (gF .add x5 (.s [58]) h0) fun v1 h1 =>
  wU r n x0 v1 h1
def wC (r : RT) (n : Nat) (x0 x5 x6 : DV) (h0 : Hp) : aG :=
 bnd (aP .neq x6 (aJ 0) h0) fun v1 h1 =>
 bnd (gD v1 false (some (x0, h1)) h1) fun v2 h2 =>
 bnd (gD v1 false (r 109 [v2] h2) h2) fun v3 h3 =>
 bnd (gD v1 false (tJ .not v3 h3) h3) fun v4 h4 =>
 bnd (bZ v1 (.b true) v4 h4) fun v5 h5 =>
 cE v5 (
 some (.t [x5, x6], h5)) (
  yQ r n x0 x5 h5)
def yU (r : RT) (n : Nat) (x0 : DV) (h0 : Hp) : aG :=
 bnd (r 108 [x0] h0) fun v1 h1 =>
 bnd (aM 0 v1 h1) fun v2 h2 =>
 bnd (aM 1 v1 h2) fun v3 h3 =>
  wC r n x0 v2 v3 h3
def xN (r : RT) (n : Nat) (x0 : DV) (h0 : Hp) : aG :=
 bnd (r 106 [x0, (aJ 0)] h0) fun v1 h1 =>
 bnd (r 107 [v1] h1) fun v2 h2 =>
 bnd (tJ .not v2 h2) fun v3 h3 =>
 cE v3 (
 some (.t [(.s []), (aJ 10)], h3)) (
  yU r n x0 h3)
def yO (r : RT) (n : Nat) (x0 : DV) (h0 : Hp) : aG :=
 bnd (r 75 [(.s [43, 45, 42, 47, 60, 62, 61, 126, 44, 64, 38, 37])] h0) fun v1 h1 =>
 bnd (r 74 [x0, v1, (aJ 2)] h1) fun v2 h2 =>
 bnd (gF .neq v2 (.s []) h2) fun v3 h3 =>
 cE v3 (
 some (.t [v2, (aJ 0)], h3)) (
  xN r n x0 h3)
def s113 (r : RT) (n : Nat) (x0 : DV) (h0 : Hp) : aG :=
 yO r n x0 h0
abbrev c113 : Code := cf Tryz.f113
abbrev vF := cR c113
abbrev yF := cR vF
abbrev yG := cR yF
abbrev yH := cR yG
abbrev xC := cR yH
abbrev wR := cR xC
abbrev bGa := cR wR
abbrev wJ := cL wR
abbrev xU := cL wJ
abbrev kB := cL xU
abbrev aEc := cL xC
abbrev aFb := cL yH
abbrev aHr := cL yG
abbrev aFa := cL yF
abbrev aIc := cL vF
abbrev aFe := cL c113
abbrev r113 : K := bU CF Tryz.f113
def D113 (r : RT) (n : Nat) (c : Code) (X : Nat → K) (k : K) : K := aU CF r 64 n c X r113 k
theorem aVi : D113 r n bGa x0 r113 = (K1 (eD r n) 5) := by kernel_rfl
theorem aOa (kk8 : lH) : D113 r n kB (xs x0 0 (K1 (eD r n) 5)) (K2 kk8 0 5) = (K2 (qF r n kk8) 0 5) := by kernel_rfl
theorem aPi (m : Nat) : aR (fun kk => D113 r n kB (xs x0 0 (K1 (eD r n) 5)) kk) m = (K2 (jR r n m) 0 5) := by
 induction m with
 | zero => exact (by kernel_rfl : aR (fun kk => D113 r n kB (xs x0 0 (K1 (eD r n) 5)) kk) 0 = (K2 (jR r n 0) 0 5))
 | succ m ih =>
  refine (by kernel_rfl : aR (fun kk => D113 r n kB (xs x0 0 (K1 (eD r n) 5)) kk) (m + 1) = D113 r n kB (xs x0 0 (K1 (eD r n) 5)) (aR (fun kk => D113 r n kB (xs x0 0 (K1 (eD r n) 5)) kk) m)).trans ?_
  rw [ih]
  exact (aOa r n (jR r n m)).trans (by kernel_rfl)
theorem aYg : D113 r n xU (xs x0 0 (K1 (eD r n) 5)) (K1 (eD r n) 5) = (K2 (aBz r n) 0 5) :=
 (by kernel_rfl : D113 r n xU (xs x0 0 (K1 (eD r n) 5)) (K1 (eD r n) 5) = aR (fun kk => D113 r n kB (xs x0 0 (K1 (eD r n) 5)) kk) n).trans ((aPi r n n).trans (by kernel_rfl))
theorem aQu : D113 r n wR x0 r113 = D113 r n wJ x0 (K1 (eD r n) 5) :=
 congrArg (fun k => D113 r n wJ x0 k) (aVi r n)
theorem aZc : D113 r n wR x0 r113 = (K2 (wU r n) 0 5) :=
 (aQu r n).trans
 ((by kernel_rfl : D113 r n wJ x0 (K1 (eD r n) 5) = D113 r n xU (xs x0 0 (K1 (eD r n) 5)) (K1 (eD r n) 5)).trans
 ((aYg r n).trans (by kernel_rfl)))
theorem aQx : D113 r n xC x0 r113 = D113 r n aEc x0 (K2 (wU r n) 0 5) :=
 congrArg (fun k => D113 r n aEc x0 k) (aZc r n)
theorem aYe : D113 r n xC x0 r113 = (K2 (yQ r n) 0 5) :=
 (aQx r n).trans
 ((by kernel_rfl))
theorem aMt : D113 r n yH x0 r113 = D113 r n aFb x0 (K2 (yQ r n) 0 5) :=
 congrArg (fun k => D113 r n aFb x0 k) (aYe r n)
theorem aZu : D113 r n yH x0 r113 = (K3 (wC r n) 0 5 6) :=
 (aMt r n).trans
 ((by kernel_rfl))
theorem aLv : D113 r n yG x0 r113 = D113 r n aHr x0 (K3 (wC r n) 0 5 6) :=
 congrArg (fun k => D113 r n aHr x0 k) (aZu r n)
theorem aTj : D113 r n yG x0 r113 = (K1 (yU r n) 0) :=
 (aLv r n).trans
 ((by kernel_rfl))
theorem aNb : D113 r n yF x0 r113 = D113 r n aFa x0 (K1 (yU r n) 0) :=
 congrArg (fun k => D113 r n aFa x0 k) (aTj r n)
theorem aUu : D113 r n yF x0 r113 = (K1 (xN r n) 0) :=
 (aNb r n).trans
 ((by kernel_rfl))
theorem aQo : D113 r n vF x0 r113 = D113 r n aIc x0 (K1 (xN r n) 0) :=
 congrArg (fun k => D113 r n aIc x0 k) (aUu r n)
theorem aUj : D113 r n vF x0 r113 = (K1 (yO r n) 0) :=
 (aQo r n).trans
 ((by kernel_rfl))
theorem bGt : D113 r n c113 x0 r113 = D113 r n aFe x0 (K1 (yO r n) 0) :=
 congrArg (fun k => D113 r n aFe x0 k) (aUj r n)
theorem bKw : D113 r n c113 x0 r113 = (K1 (s113 r n) 0) :=
 (bGt r n).trans
 ((by kernel_rfl))
theorem bCf : aN CF r n 113 args h = s113 r n (bB args 0) h :=
 fE (bKw r n) args h (by kernel_rfl) (by kernel_rfl)
def eG (r : RT) (n : Nat) (x2 x4 : DV) (h0 : Hp) : aG :=
 bnd (aE 6 x4 h0) fun v1 h1 =>
 bnd (aC 6 x2 v1 h1) fun _ h2 =>
 bnd (aE 6 x2 h2) fun v3 _ =>
 some (v3, h2)
def pY (r : RT) (n : Nat) (kk7 : jP) (x0 x2 x4 : DV) (h0 : Hp) : aG :=
 bnd (r 77 [x0, (aJ 10), (.s [59])] h0) fun v1 h1 =>
 cE v1 (
 bnd (r 78 [x0] h1) fun v2 h2 =>
 bnd (aA 5 x4 (iI 1 h2)) fun v3 h3 =>
 bnd (aB v3 h3) fun v4 h4 =>
 bnd (r 139 [x0] h4) fun v5 h5 =>
 cnd (cB (aB v3 h5) v4 && true) (
 bnd (r 138 [v5] h5) fun v6 h6 =>
 cnd (cB (aB v3 h6) v4 && true) (
 bnd (bE (dH 0 h2.next) fF 1 [(0, 6, v6)] h6) fun v7 h7 =>
 bnd (bN 6 104 v4 v7 h7) fun v8 h8 =>
 bnd (aA 5 x4 h8) fun v9 h9 =>
 bnd (aC 1 v9 v8 h9) fun v10 h10 =>
      kk7 x0 x2 x4 h10))) (
      eG r n x2 x4 h1)
def jX (r : RT) (n : Nat) (m : Nat) : jP :=
 Nat.rec (motive := fun _ => jP) (fun _ _ _ _ => none) (fun _ ih => pY r n ih) m
def aCp (r : RT) (n : Nat) : jP := jX r n n
def yK (r : RT) (n : Nat) (x0 x2 x4 : DV) (h0 : Hp) : aG :=
 aCp r n x0 x2 x4 h0
def yV (r : RT) (n : Nat) (x0 x2 x3 : DV) (h0 : Hp) : aG :=
 bnd (aA 5 x3 (iI 2 h0)) fun v1 h1 =>
 bnd (aB v1 h1) fun v2 h2 =>
 bnd (aZ 6 v2 (aJ 0) h2) fun v3 h3 =>
 bnd (aE 6 v3 h3) fun v4 h4 =>
 bnd (aE 6 x3 h4) fun v5 h5 =>
 bnd (r 138 [v5] h5) fun v6 h6 =>
 cnd (cB (aE 6 v3 h6) v4 && (cB (aB v1 h6) v2 && true)) (
 bnd (bE (dH 0 h0.next) [(aJ 0), (.s []), (aJ 0), .l0, .l0, .l0, (aJ 0), (.s []), (aJ 0), .l0, .l0, .l0] 2 [(0, 6, v4), (6, 6, v6)] h6) fun v7 h7 =>
 bnd (cM fF [(0, 1, (aJ 8)), (5, 1, v7)] h7) fun v8 h8 =>
 bnd (oA (dH 1 h0.next) fF h8) fun v9 h9 =>
 bnd (aC 6 v9 v8 h9) fun v10 h10 =>
  yK r n x0 x2 v9 h10)
def yD (r : RT) (n : Nat) (x0 x2 x3 : DV) (h0 : Hp) : aG :=
 bnd (aA 0 x3 h0) fun v1 h1 =>
 bnd (aB v1 h1) fun v2 h2 =>
 bnd (aP .neq v2 (aJ 7) h2) fun v3 h3 =>
 cE v3 (
 bnd (r 81 [x0, (aJ 0)] h3) fun v4 h4 =>
 bnd (r 80 [x0, v4, (aJ 13)] h4) fun v5 h5 =>
 bnd (aE 6 x3 h5) fun v6 h6 =>
 bnd (aC 6 x2 v6 h6) fun _ h7 =>
 bnd (aE 6 x2 h7) fun v8 _ =>
 some (v8, h7)) (
  yV r n x0 x2 x3 h3)
def xQ (r : RT) (n : Nat) (x0 x2 x3 : DV) (h0 : Hp) : aG :=
 bnd (r 77 [x0, (aJ 10), (.s [59])] h0) fun v1 h1 =>
 bnd (tJ .not v1 h1) fun v2 h2 =>
 cE v2 (
 bnd (aE 6 x3 h2) fun v3 h3 =>
 bnd (aC 6 x2 v3 h3) fun _ h4 =>
 bnd (aE 6 x2 h4) fun v5 _ =>
 some (v5, h4)) (
  yD r n x0 x2 x3 h2)
def oH (r : RT) (n : Nat) (x0 x2 : DV) (h0 : Hp) : aG :=
 bnd (r 137 [x0] h0) fun v1 h1 =>
 bnd (r 136 [x0, v1] h1) fun v2 h2 =>
 bnd (r 135 [x0, v2] h2) fun v3 h3 =>
 bnd (r 134 [x0, v3] h3) fun v4 h4 =>
 bnd (cG fF h4) fun v5 h5 =>
 bnd (aC 6 v5 v4 h5) fun _ h6 =>
  xQ r n x0 x2 v5 h6
def s114 (r : RT) (n : Nat) (x0 : DV) (h0 : Hp) : aG :=
 bnd (cG fF h0) fun v1 h1 =>
  oH r n x0 v1 h1
abbrev c114 : Code := cf Tryz.f114
abbrev xR := cR c114
abbrev wQ := cR xR
abbrev vJ := cR wQ
abbrev xV := cR vJ
abbrev wP := cR xV
abbrev bEp := cR wP
abbrev xI := cL wP
abbrev wO := cL xI
abbrev mK := cL wO
abbrev aHy := cL xV
abbrev aHt := cL vJ
abbrev aFc := cL wQ
abbrev aEp := cL xR
abbrev yR := cL c114
abbrev r114 : K := bU CF Tryz.f114
def D114 (r : RT) (n : Nat) (c : Code) (X : Nat → K) (k : K) : K := aU CF r 46 n c X r114 k
theorem aWa : D114 r n bEp x0 r114 = (K2 (eG r n) 2 4) := by kernel_rfl
theorem aPv (kk7 : jP) : D114 r n mK (xs x0 0 (K2 (eG r n) 2 4)) (K3 kk7 0 2 4) = (K3 (pY r n kk7) 0 2 4) := by kernel_rfl
theorem aPa (m : Nat) : aR (fun kk => D114 r n mK (xs x0 0 (K2 (eG r n) 2 4)) kk) m = (K3 (jX r n m) 0 2 4) := by
 induction m with
 | zero => exact (by kernel_rfl : aR (fun kk => D114 r n mK (xs x0 0 (K2 (eG r n) 2 4)) kk) 0 = (K3 (jX r n 0) 0 2 4))
 | succ m ih =>
  refine (by kernel_rfl : aR (fun kk => D114 r n mK (xs x0 0 (K2 (eG r n) 2 4)) kk) (m + 1) = D114 r n mK (xs x0 0 (K2 (eG r n) 2 4)) (aR (fun kk => D114 r n mK (xs x0 0 (K2 (eG r n) 2 4)) kk) m)).trans ?_
  rw [ih]
  exact (aPv r n (jX r n m)).trans (by kernel_rfl)
theorem aTv : D114 r n wO (xs x0 0 (K2 (eG r n) 2 4)) (K2 (eG r n) 2 4) = (K3 (aCp r n) 0 2 4) :=
 (by kernel_rfl : D114 r n wO (xs x0 0 (K2 (eG r n) 2 4)) (K2 (eG r n) 2 4) = aR (fun kk => D114 r n mK (xs x0 0 (K2 (eG r n) 2 4)) kk) n).trans ((aPa r n n).trans (by kernel_rfl))
theorem aQj : D114 r n wP x0 r114 = D114 r n xI x0 (K2 (eG r n) 2 4) :=
 congrArg (fun k => D114 r n xI x0 k) (aWa r n)
theorem aVd : D114 r n wP x0 r114 = (K3 (yK r n) 0 2 4) :=
 (aQj r n).trans
 ((by kernel_rfl : D114 r n xI x0 (K2 (eG r n) 2 4) = D114 r n wO (xs x0 0 (K2 (eG r n) 2 4)) (K2 (eG r n) 2 4)).trans
 ((aTv r n).trans (by kernel_rfl)))
theorem aRz : D114 r n xV x0 r114 = D114 r n aHy x0 (K3 (yK r n) 0 2 4) :=
 congrArg (fun k => D114 r n aHy x0 k) (aVd r n)
theorem aYb : D114 r n xV x0 r114 = (K3 (yV r n) 0 2 3) :=
 (aRz r n).trans
 ((by kernel_rfl))
theorem aMa : D114 r n vJ x0 r114 = D114 r n aHt x0 (K3 (yV r n) 0 2 3) :=
 congrArg (fun k => D114 r n aHt x0 k) (aYb r n)
theorem aUw : D114 r n vJ x0 r114 = (K3 (yD r n) 0 2 3) :=
 (aMa r n).trans
 ((by kernel_rfl))
theorem aLf : D114 r n wQ x0 r114 = D114 r n aFc x0 (K3 (yD r n) 0 2 3) :=
 congrArg (fun k => D114 r n aFc x0 k) (aUw r n)
theorem aUx : D114 r n wQ x0 r114 = (K3 (xQ r n) 0 2 3) :=
 (aLf r n).trans
 ((by kernel_rfl))
theorem aPb : D114 r n xR x0 r114 = D114 r n aEp x0 (K3 (xQ r n) 0 2 3) :=
 congrArg (fun k => D114 r n aEp x0 k) (aUx r n)
theorem aTi : D114 r n xR x0 r114 = (K2 (oH r n) 0 2) :=
 (aPb r n).trans
 ((by kernel_rfl))
theorem bDl : D114 r n c114 x0 r114 = D114 r n yR x0 (K2 (oH r n) 0 2) :=
 congrArg (fun k => D114 r n yR x0 k) (aTi r n)
theorem aUm (q0 : lH) : D114 r n yR x0 (K2 q0 0 2) = fun (env : eY) (h : Hp) =>
 bnd (cG fF h) fun v1 h1 =>
  q0 (env 0) v1 h1 := by kernel_rfl
theorem aQq : (fun (env : eY) (h : Hp) =>
 bnd (cG fF h) fun v1 h1 =>
  oH r n (env 0) v1 h1) = (K1 (s114 r n) 0) := by kernel_rfl
theorem bLk : D114 r n c114 x0 r114 = (K1 (s114 r n) 0) :=
 (bDl r n).trans
 ((aUm r n (oH r n)).trans (aQq r n))
theorem bGb : aN CF r n 114 args h = s114 r n (bB args 0) h :=
 fE (bLk r n) args h (by kernel_rfl) (by kernel_rfl)
def s126 (r : RT) (n : Nat) (x0 : DV) (h0 : Hp) : aG :=
 bnd (iH x0 h0) fun v1 h1 =>
 bnd (aA 0 v1 h1) fun v2 h2 =>
 bnd (aB v2 h2) fun v3 h3 =>
 bnd (aP .eql v3 (aJ 7) h3) fun v4 h4 =>
 cE v4 (
 bnd (aA 1 v1 h4) fun v5 h5 =>
 bnd (aB v5 h5) fun v6 h6 =>
 bnd (r 32 [v6] h6) fun v7 h7 =>
 some (v7, h7)) (
 bnd (aP .eql v3 (aJ 8) h4) fun v8 h8 =>
 cE v8 (
 some ((aJ 4), h8)) (
 bnd (aP .eql v3 (aJ 6) h8) fun v9 h9 =>
 cE v9 (
 some ((aJ 5), h9)) (
 some ((aJ 0), h9))))
abbrev c126 : Code := cf Tryz.f126
abbrev r126 : K := bU CF Tryz.f126
def D126 (r : RT) (n : Nat) (c : Code) (X : Nat → K) (k : K) : K := aU CF r 14 n c X r126 k
theorem bKe : D126 r n c126 x0 r126 = (K1 (s126 r n) 0) :=
 (by kernel_rfl)
theorem bFh : aN CF r n 126 args h = s126 r n (bB args 0) h :=
 fE (bKe r n) args h (by kernel_rfl) (by kernel_rfl)
end
end Go.Dd

namespace Go.Dd
open Go.Proofs
noncomputable section
variable (r : RT) (n : Nat) (args : List DV) (h : Hp)
def s132 (r : RT) (n : Nat) (x0 : DV) (h0 : Hp) : aG :=
 bnd (r 107 [x0] h0) fun v1 h1 =>
 bnd (gD v1 false (some (x0, h1)) h1) fun v2 h2 =>
 bnd (gD v1 false (r 110 [v2] h2) h2) fun v3 h3 =>
 bnd (bZ v1 (.b true) v3 h3) fun v4 h4 =>
 some (v4, h4)
abbrev c132 : Code := cf Tryz.f132
abbrev r132 : K := bU CF Tryz.f132
def D132 (r : RT) (n : Nat) (c : Code) (X : Nat → K) (k : K) : K := aU CF r 9 n c X r132 k
theorem bJw : D132 r n c132 x0 r132 = (K1 (s132 r n) 0) :=
 (by kernel_rfl)
theorem bGi : aN CF r n 132 args h = s132 r n (bB args 0) h :=
 fE (bJw r n) args h (by kernel_rfl) (by kernel_rfl)
def s133 (r : RT) (n : Nat) (x0 : DV) (h0 : Hp) : aG :=
 bnd (aP .neq x0 (.i .u8 (Int.ofNat 39)) h0) fun v1 h1 =>
 some (v1, h1)
abbrev c133 : Code := cf Tryz.f133
abbrev r133 : K := bU CF Tryz.f133
def D133 (r : RT) (n : Nat) (c : Code) (X : Nat → K) (k : K) : K := aU CF r 5 n c X r133 k
theorem bLi : D133 r n c133 x0 r133 = (K1 (s133 r n) 0) :=
 (by kernel_rfl)
theorem bFz : aN CF r n 133 args h = s133 r n (bB args 0) h :=
 fE (bLi r n) args h (by kernel_rfl) (by kernel_rfl)
def eC (r : RT) (n : Nat) (x4 x5 : DV) (h0 : Hp) : aG :=
 bnd (aE 6 x5 h0) fun v1 h1 =>
 bnd (aC 6 x4 v1 h1) fun _ h2 =>
 bnd (aE 6 x4 h2) fun v3 _ =>
 some (v3, h2)
def qE (r : RT) (n : Nat) (kk5 : jP) (x0 x4 x5 : DV) (h0 : Hp) : aG :=
 bnd (r 77 [x0, (aJ 2), (.s [])] h0) fun v1 h1 =>
 cE v1 (
 bnd (aA 1 x5 h1) fun v2 h2 =>
 bnd (aB v2 h2) fun v3 h3 =>
 bnd (r 78 [x0] h3) fun v4 h4 =>
 cnd (cB (aB v2 h4) v3 && true) (
 bnd (eW 1 v4 h4) fun v5 h5 =>
 bnd (gF .add v3 v5 h5) fun v6 h6 =>
 bnd (aA 1 x5 h6) fun v7 h7 =>
 bnd (aC 1 v7 v6 h7) fun v8 h8 =>
 bnd (aA 5 x5 (iI 1 h8)) fun v9 h9 =>
 bnd (aB v9 h9) fun v10 h10 =>
 bnd (r 137 [x0] h10) fun v11 h11 =>
 cnd (cB (aB v9 h11) v10 && true) (
 bnd (r 136 [x0, v11] h11) fun v12 h12 =>
 cnd (cB (aB v9 h12) v10 && true) (
 bnd (r 135 [x0, v12] h12) fun v13 h13 =>
 cnd (cB (aB v9 h13) v10 && true) (
 bnd (bE (dH 0 h8.next) fF 1 [(0, 6, v13)] h13) fun v14 h14 =>
 bnd (bN 6 104 v10 v14 h14) fun v15 h15 =>
 bnd (aA 5 x5 h15) fun v16 h16 =>
 bnd (aC 1 v16 v15 h16) fun v17 h17 =>
      kk5 x0 x4 x5 h17))))) (
      eC r n x4 x5 h1)
def kA (r : RT) (n : Nat) (m : Nat) : jP :=
 Nat.rec (motive := fun _ => jP) (fun _ _ _ _ => none) (fun _ ih => qE r n ih) m
def aCm (r : RT) (n : Nat) : jP := kA r n n
def wW (r : RT) (n : Nat) (x0 x4 x5 : DV) (h0 : Hp) : aG :=
 aCm r n x0 x4 x5 h0
def xH (r : RT) (n : Nat) (x0 x3 x4 : DV) (h0 : Hp) : aG :=
 bnd (aE 6 x3 h0) fun v1 h1 =>
 bnd (aO fF 1 [(0, 6, v1)] h1) fun v2 h2 =>
 bnd (r 149 [(.s []), v2] h2) fun v3 h3 =>
 bnd (cG fF h3) fun v4 h4 =>
 bnd (aC 6 v4 v3 h4) fun _ h5 =>
  wW r n x0 x4 v4 h5
def wD (r : RT) (n : Nat) (x0 x3 x4 : DV) (h0 : Hp) : aG :=
 bnd (r 77 [x0, (aJ 2), (.s [])] h0) fun v1 h1 =>
 bnd (tJ .not v1 h1) fun v2 h2 =>
 cE v2 (
 bnd (aE 6 x3 h2) fun v3 h3 =>
 bnd (aC 6 x4 v3 h3) fun _ h4 =>
 bnd (aE 6 x4 h4) fun v5 _ =>
 some (v5, h4)) (
  xH r n x0 x3 x4 h2)
def s134 (r : RT) (n : Nat) (x0 x1 : DV) (h0 : Hp) : aG :=
 bnd (iH x1 h0) fun v1 h1 =>
 bnd (cG fF h1) fun v2 h2 =>
  wD r n x0 v1 v2 h2
abbrev c134 : Code := cf Tryz.f134
abbrev yC := cR c134
abbrev vM := cR yC
abbrev xG := cR vM
abbrev bEg := cR xG
abbrev yA := cL xG
abbrev vH := cL yA
abbrev mB := cL vH
abbrev aKu := cL vM
abbrev aLo := cL yC
abbrev aEk := cL c134
abbrev r134 : K := bU CF Tryz.f134
def D134 (r : RT) (n : Nat) (c : Code) (X : Nat → K) (k : K) : K := aU CF r 34 n c X r134 k
theorem aYv : D134 r n bEg x0 r134 = (K2 (eC r n) 4 5) := by kernel_rfl
theorem aKz (kk5 : jP) : D134 r n mB (xs x0 0 (K2 (eC r n) 4 5)) (K3 kk5 0 4 5) = (K3 (qE r n kk5) 0 4 5) := by kernel_rfl
theorem aPk (m : Nat) : aR (fun kk => D134 r n mB (xs x0 0 (K2 (eC r n) 4 5)) kk) m = (K3 (kA r n m) 0 4 5) := by
 induction m with
 | zero => exact (by kernel_rfl : aR (fun kk => D134 r n mB (xs x0 0 (K2 (eC r n) 4 5)) kk) 0 = (K3 (kA r n 0) 0 4 5))
 | succ m ih =>
  refine (by kernel_rfl : aR (fun kk => D134 r n mB (xs x0 0 (K2 (eC r n) 4 5)) kk) (m + 1) = D134 r n mB (xs x0 0 (K2 (eC r n) 4 5)) (aR (fun kk => D134 r n mB (xs x0 0 (K2 (eC r n) 4 5)) kk) m)).trans ?_
  rw [ih]
  exact (aKz r n (kA r n m)).trans (by kernel_rfl)
theorem aTg : D134 r n vH (xs x0 0 (K2 (eC r n) 4 5)) (K2 (eC r n) 4 5) = (K3 (aCm r n) 0 4 5) :=
 (by kernel_rfl : D134 r n vH (xs x0 0 (K2 (eC r n) 4 5)) (K2 (eC r n) 4 5) = aR (fun kk => D134 r n mB (xs x0 0 (K2 (eC r n) 4 5)) kk) n).trans ((aPk r n n).trans (by kernel_rfl))
theorem aNk : D134 r n xG x0 r134 = D134 r n yA x0 (K2 (eC r n) 4 5) :=
 congrArg (fun k => D134 r n yA x0 k) (aYv r n)
theorem aVn : D134 r n xG x0 r134 = (K3 (wW r n) 0 4 5) :=
 (aNk r n).trans
 ((by kernel_rfl : D134 r n yA x0 (K2 (eC r n) 4 5) = D134 r n vH (xs x0 0 (K2 (eC r n) 4 5)) (K2 (eC r n) 4 5)).trans
 ((aTg r n).trans (by kernel_rfl)))
theorem aKr : D134 r n vM x0 r134 = D134 r n aKu x0 (K3 (wW r n) 0 4 5) :=
 congrArg (fun k => D134 r n aKu x0 k) (aVn r n)
theorem aVc : D134 r n vM x0 r134 = (K3 (xH r n) 0 3 4) :=
 (aKr r n).trans
 ((by kernel_rfl))
theorem aNm : D134 r n yC x0 r134 = D134 r n aLo x0 (K3 (xH r n) 0 3 4) :=
 congrArg (fun k => D134 r n aLo x0 k) (aVc r n)
theorem aUd : D134 r n yC x0 r134 = (K3 (wD r n) 0 3 4) :=
 (aNm r n).trans
 ((by kernel_rfl))
theorem bHo : D134 r n c134 x0 r134 = D134 r n aEk x0 (K3 (wD r n) 0 3 4) :=
 congrArg (fun k => D134 r n aEk x0 k) (aUd r n)
theorem bJh : D134 r n c134 x0 r134 = (K2 (s134 r n) 0 1) :=
 (bHo r n).trans
 ((by kernel_rfl))
theorem bFc : aN CF r n 134 args h = s134 r n (bB args 0) (bB args 1) h :=
 fE (bJh r n) args h (by kernel_rfl) (by kernel_rfl)
def eF (r : RT) (n : Nat) (x3 x4 : DV) (h0 : Hp) : aG :=
 bnd (aE 6 x3 h0) fun v1 h1 =>
 bnd (aC 6 x4 v1 h1) fun _ h2 =>
 bnd (aE 6 x4 h2) fun v3 _ =>
 some (v3, h2)
def pR (r : RT) (n : Nat) (kk3 : jP) (x0 x3 x4 : DV) (h0 : Hp) : aG :=
 bnd (r 77 [x0, (aJ 3), (.s [])] h0) fun v1 h1 =>
 cE v1 (
 bnd (r 78 [x0] h1) fun v2 h2 =>
 bnd (cG [(aJ 0), (.s []), (aJ 0), (aJ 0)] h2) fun v3 h3 =>
 bnd (aC 4 v3 v2 h3) fun _ h4 =>
 bnd (aA 1 v3 (iI 1 h4)) fun v5 h5 =>
 bnd (aB v5 h5) fun v6 h6 =>
 bnd (aE 6 x3 h6) fun v7 h7 =>
 bnd (r 137 [x0] h7) fun v8 h8 =>
 cnd (cB (aE 6 x3 h8) v7 && (cB (aB v5 h8) v6 && true)) (
 bnd (r 136 [x0, v8] h8) fun v9 h9 =>
 cnd (cB (aE 6 x3 h9) v7 && (cB (aB v5 h9) v6 && true)) (
 bnd (bE (dH 0 h4.next) [(aJ 0), (.s []), (aJ 0), .l0, .l0, .l0, (aJ 0), (.s []), (aJ 0), .l0, .l0, .l0] 2 [(0, 6, v7), (6, 6, v9)] h9) fun v10 h10 =>
 bnd (r 149 [v6, v10] h10) fun v11 h11 =>
 bnd (aC 6 x3 v11 h11) fun v12 h12 =>
      kk3 x0 x3 x4 h12))) (
      eF r n x3 x4 h1)
def kC (r : RT) (n : Nat) (m : Nat) : jP :=
 Nat.rec (motive := fun _ => jP) (fun _ _ _ _ => none) (fun _ ih => pR r n ih) m
def aCr (r : RT) (n : Nat) : jP := kC r n n
def vR (r : RT) (n : Nat) (x0 x3 x4 : DV) (h0 : Hp) : aG :=
 aCr r n x0 x3 x4 h0
def s135 (r : RT) (n : Nat) (x0 x1 : DV) (h0 : Hp) : aG :=
 bnd (iH x1 h0) fun v1 h1 =>
 bnd (cG fF h1) fun v2 h2 =>
  vR r n x0 v1 v2 h2
abbrev c135 : Code := cf Tryz.f135
abbrev vK := cR c135
abbrev bFs := cR vK
abbrev yE := cL vK
abbrev wE := cL yE
abbrev lX := cL wE
abbrev aRq := cL c135
abbrev r135 : K := bU CF Tryz.f135
def D135 (r : RT) (n : Nat) (c : Code) (X : Nat → K) (k : K) : K := aU CF r 20 n c X r135 k
theorem aVo : D135 r n bFs x0 r135 = (K2 (eF r n) 3 4) := by kernel_rfl
theorem aMz (kk3 : jP) : D135 r n lX (xs x0 0 (K2 (eF r n) 3 4)) (K3 kk3 0 3 4) = (K3 (pR r n kk3) 0 3 4) := by kernel_rfl
theorem aNc (m : Nat) : aR (fun kk => D135 r n lX (xs x0 0 (K2 (eF r n) 3 4)) kk) m = (K3 (kC r n m) 0 3 4) := by
 induction m with
 | zero => exact (by kernel_rfl : aR (fun kk => D135 r n lX (xs x0 0 (K2 (eF r n) 3 4)) kk) 0 = (K3 (kC r n 0) 0 3 4))
 | succ m ih =>
  refine (by kernel_rfl : aR (fun kk => D135 r n lX (xs x0 0 (K2 (eF r n) 3 4)) kk) (m + 1) = D135 r n lX (xs x0 0 (K2 (eF r n) 3 4)) (aR (fun kk => D135 r n lX (xs x0 0 (K2 (eF r n) 3 4)) kk) m)).trans ?_
  rw [ih]
  exact (aMz r n (kC r n m)).trans (by kernel_rfl)
theorem aUr : D135 r n wE (xs x0 0 (K2 (eF r n) 3 4)) (K2 (eF r n) 3 4) = (K3 (aCr r n) 0 3 4) :=
 (by kernel_rfl : D135 r n wE (xs x0 0 (K2 (eF r n) 3 4)) (K2 (eF r n) 3 4) = aR (fun kk => D135 r n lX (xs x0 0 (K2 (eF r n) 3 4)) kk) n).trans ((aNc r n n).trans (by kernel_rfl))
theorem aPt : D135 r n vK x0 r135 = D135 r n yE x0 (K2 (eF r n) 3 4) :=
 congrArg (fun k => D135 r n yE x0 k) (aVo r n)
theorem aXv : D135 r n vK x0 r135 = (K3 (vR r n) 0 3 4) :=
 (aPt r n).trans
 ((by kernel_rfl : D135 r n yE x0 (K2 (eF r n) 3 4) = D135 r n wE (xs x0 0 (K2 (eF r n) 3 4)) (K2 (eF r n) 3 4)).trans
 ((aUr r n).trans (by kernel_rfl)))
theorem bFi : D135 r n c135 x0 r135 = D135 r n aRq x0 (K3 (vR r n) 0 3 4) :=
 congrArg (fun k => D135 r n aRq x0 k) (aXv r n)
theorem bJt : D135 r n c135 x0 r135 = (K2 (s135 r n) 0 1) :=
 (bFi r n).trans
 ((by kernel_rfl))
theorem bEb : aN CF r n 135 args h = s135 r n (bB args 0) (bB args 1) h :=
 fE (bJt r n) args h (by kernel_rfl) (by kernel_rfl)
def eE (r : RT) (n : Nat) (x3 x4 : DV) (h0 : Hp) : aG :=
 bnd (aE 6 x3 h0) fun v1 h1 =>
 bnd (aC 6 x4 v1 h1) fun _ h2 =>
 bnd (aE 6 x4 h2) fun v3 _ =>
 some (v3, h2)
def pV (r : RT) (n : Nat) (kk3 : jP) (x0 x3 x4 : DV) (h0 : Hp) : aG :=
 bnd (r 77 [x0, (aJ 1), (.s [])] h0) fun v1 h1 =>
 cE v1 (
 bnd (r 78 [x0] (iI 1 h1)) fun v2 h2 =>
 bnd (eW 1 v2 h2) fun v3 h3 =>
 bnd (aE 6 x3 h3) fun v4 h4 =>
 cnd (cB (aE 6 x3 (iI 1 h1)) v4 && true) (
 bnd (bE (dH 0 h1.next) fF 1 [(0, 6, v4)] h4) fun v5 h5 =>
 bnd (r 149 [v3, v5] h5) fun v6 h6 =>
 bnd (aC 6 x3 v6 h6) fun v7 h7 =>
      kk3 x0 x3 x4 h7)) (
      eE r n x3 x4 h1)
def jS (r : RT) (n : Nat) (m : Nat) : jP :=
 Nat.rec (motive := fun _ => jP) (fun _ _ _ _ => none) (fun _ ih => pV r n ih) m
def aDa (r : RT) (n : Nat) : jP := jS r n n
def yN (r : RT) (n : Nat) (x0 x3 x4 : DV) (h0 : Hp) : aG :=
 aDa r n x0 x3 x4 h0
def s136 (r : RT) (n : Nat) (x0 x1 : DV) (h0 : Hp) : aG :=
 bnd (iH x1 h0) fun v1 h1 =>
 bnd (cG fF h1) fun v2 h2 =>
  yN r n x0 v1 v2 h2
abbrev c136 : Code := cf Tryz.f136
abbrev wT := cR c136
abbrev bFp := cR wT
abbrev yJ := cL wT
abbrev vT := cL yJ
abbrev mM := cL vT
abbrev aKa := cL c136
abbrev r136 : K := bU CF Tryz.f136
def D136 (r : RT) (n : Nat) (c : Code) (X : Nat → K) (k : K) : K := aU CF r 14 n c X r136 k
theorem aUh : D136 r n bFp x0 r136 = (K2 (eE r n) 3 4) := by kernel_rfl
theorem aRa (kk3 : jP) : D136 r n mM (xs x0 0 (K2 (eE r n) 3 4)) (K3 kk3 0 3 4) = (K3 (pV r n kk3) 0 3 4) := by kernel_rfl
theorem aRf (m : Nat) : aR (fun kk => D136 r n mM (xs x0 0 (K2 (eE r n) 3 4)) kk) m = (K3 (jS r n m) 0 3 4) := by
 induction m with
 | zero => exact (by kernel_rfl : aR (fun kk => D136 r n mM (xs x0 0 (K2 (eE r n) 3 4)) kk) 0 = (K3 (jS r n 0) 0 3 4))
 | succ m ih =>
  refine (by kernel_rfl : aR (fun kk => D136 r n mM (xs x0 0 (K2 (eE r n) 3 4)) kk) (m + 1) = D136 r n mM (xs x0 0 (K2 (eE r n) 3 4)) (aR (fun kk => D136 r n mM (xs x0 0 (K2 (eE r n) 3 4)) kk) m)).trans ?_
  rw [ih]
  exact (aRa r n (jS r n m)).trans (by kernel_rfl)
theorem aTy : D136 r n vT (xs x0 0 (K2 (eE r n) 3 4)) (K2 (eE r n) 3 4) = (K3 (aDa r n) 0 3 4) :=
 (by kernel_rfl : D136 r n vT (xs x0 0 (K2 (eE r n) 3 4)) (K2 (eE r n) 3 4) = aR (fun kk => D136 r n mM (xs x0 0 (K2 (eE r n) 3 4)) kk) n).trans ((aRf r n n).trans (by kernel_rfl))
theorem aQk : D136 r n wT x0 r136 = D136 r n yJ x0 (K2 (eE r n) 3 4) :=
 congrArg (fun k => D136 r n yJ x0 k) (aUh r n)
theorem aZt : D136 r n wT x0 r136 = (K3 (yN r n) 0 3 4) :=
 (aQk r n).trans
 ((by kernel_rfl : D136 r n yJ x0 (K2 (eE r n) 3 4) = D136 r n vT (xs x0 0 (K2 (eE r n) 3 4)) (K2 (eE r n) 3 4)).trans
 ((aTy r n).trans (by kernel_rfl)))
theorem bGx : D136 r n c136 x0 r136 = D136 r n aKa x0 (K3 (yN r n) 0 3 4) :=
 congrArg (fun k => D136 r n aKa x0 k) (aZt r n)
theorem bIh : D136 r n c136 x0 r136 = (K2 (s136 r n) 0 1) :=
 (bGx r n).trans
 ((by kernel_rfl))
theorem bDw : aN CF r n 136 args h = s136 r n (bB args 0) (bB args 1) h :=
 fE (bIh r n) args h (by kernel_rfl) (by kernel_rfl)
def aCz (r : RT) (n : Nat) (x2 : DV) (h0 : Hp) : aG :=
 bnd (cM fF [] h0) fun v1 h1 =>
 bnd (aC 6 x2 v1 h1) fun _ h2 =>
 bnd (aE 6 x2 h2) fun v3 _ =>
 some (v3, h2)
def aSc (r : RT) (n : Nat) (x0 x2 : DV) (h0 : Hp) : aG :=
 bnd (r 81 [x0, (aJ 0)] h0) fun v1 h1 =>
 bnd (cG [(aJ 0), (.s []), (aJ 0), (aJ 0)] h1) fun v2 h2 =>
 bnd (aC 4 v2 v1 h2) fun _ h3 =>
 bnd (bV x0 h3) fun v4 h4 =>
 bnd (aA 3 v4 h4) fun v5 h5 =>
 bnd (aB v5 h5) fun v6 h6 =>
 bnd (aP .neq v6 (aJ 0) h6) fun v7 h7 =>
 cE v7 (
  aCz r n x2 h7) (
 bnd (aA 0 v2 h7) fun v8 h8 =>
 bnd (aB v8 h8) fun v9 h9 =>
 bnd (aP .eql v9 (aJ 1) h9) fun v10 h10 =>
 cE v10 (
 bnd (r 78 [x0] h10) fun v11 h11 =>
 bnd (eW 1 v11 h11) fun v12 h12 =>
 bnd (cM fF [(0, 1, (aJ 5)), (1, 1, v12)] h12) fun v13 h13 =>
 bnd (aC 6 x2 v13 h13) fun _ h14 =>
 bnd (aE 6 x2 h14) fun v15 _ =>
 some (v15, h14)) (
 bnd (aA 0 v2 h10) fun v16 h16 =>
 bnd (aB v16 h16) fun v17 h17 =>
 bnd (aP .eql v17 (aJ 7) h17) fun v18 h18 =>
 cE v18 (
 bnd (r 151 [x0, (.f 152 [x0] [])] h18) fun v19 h19 =>
 bnd (aC 6 x2 v19 h19) fun _ h20 =>
 bnd (aE 6 x2 h20) fun v21 _ =>
 some (v21, h20)) (
 bnd (r 77 [x0, (aJ 10), (.s [40])] h18) fun v22 h22 =>
 cE v22 (
 bnd (r 151 [x0, (.f 153 [x0] [])] h22) fun v23 h23 =>
 bnd (aC 6 x2 v23 h23) fun _ h24 =>
 bnd (aE 6 x2 h24) fun v25 _ =>
 some (v25, h24)) (
 bnd (r 77 [x0, (aJ 10), (.s [91])] h22) fun v26 h26 =>
 cE v26 (
 bnd (r 151 [x0, (.f 154 [x0] [])] h26) fun v27 h27 =>
 bnd (aC 6 x2 v27 h27) fun _ h28 =>
 bnd (aE 6 x2 h28) fun v29 _ =>
 some (v29, h28)) (
 bnd (aE 4 v2 h26) fun v30 h30 =>
 bnd (r 80 [x0, v30, (aJ 13)] h30) fun v31 h31 =>
  aCz r n x2 h31)))))
def aMf (r : RT) (n : Nat) (x0 x2 : DV) (h0 : Hp) : aG :=
 bnd (r 150 [x0] h0) fun v1 h1 =>
 bnd (aM 0 v1 h1) fun v2 h2 =>
 bnd (aM 1 v1 h2) fun v3 h3 =>
 bnd (cG fF h3) fun v4 h4 =>
 bnd (aC 6 v4 v2 h4) fun _ h5 =>
 cE v3 (
 bnd (aE 6 v4 h5) fun v6 h6 =>
 bnd (aC 6 x2 v6 h6) fun _ h7 =>
 bnd (aE 6 x2 h7) fun v8 _ =>
 some (v8, h7)) (
  aSc r n x0 x2 h5)
def s137 (r : RT) (n : Nat) (x0 : DV) (h0 : Hp) : aG :=
 bnd (cG fF h0) fun v1 h1 =>
  aMf r n x0 v1 h1
abbrev c137 : Code := cf Tryz.f137
abbrev r137 : K := bU CF Tryz.f137
def D137 (r : RT) (n : Nat) (c : Code) (X : Nat → K) (k : K) : K := aU CF r 55 n c X r137 k
theorem bKc : D137 r n c137 x0 r137 = (K1 (s137 r n) 0) := by kernel_rfl
theorem bCa : aN CF r n 137 args h = s137 r n (bB args 0) h :=
 fE (bKc r n) args h (by kernel_rfl) (by kernel_rfl)
def s138 (r : RT) (n : Nat) (x0 : DV) (h0 : Hp) : aG :=
 bnd (iH x0 h0) fun v1 h1 =>
 bnd (cG fF h1) fun v2 h2 =>
 bnd (aA 5 v1 h2) fun v3 h3 =>
 bnd (aB v3 h3) fun v4 h4 =>
 bnd (gZ v4 h4) fun v5 h5 =>
 bnd (aP .eql v5 (aJ 0) h5) fun v6 h6 =>
 cE v6 (
 bnd (aE 6 v1 h6) fun v7 h7 =>
 bnd (aC 6 v2 v7 h7) fun _ h8 =>
 bnd (aE 6 v2 h8) fun v9 _ =>
 some (v9, h8)) (
 bnd (aA 1 v1 h6) fun v10 h10 =>
 bnd (aB v10 h10) fun v11 h11 =>
 bnd (aA 5 v1 h11) fun v12 h12 =>
 bnd (aB v12 h12) fun v13 h13 =>
 bnd (cQ 6 v13 (some (aJ 1)) none h13) fun v14 h14 =>
 bnd (r 155 [v14] h14) fun v15 h15 =>
 cnd (cB (aB v10 h15) v11 && true) (
 bnd (cM fF [(0, 1, (aJ 7)), (1, 1, v11), (5, 1, v15)] h15) fun v16 h16 =>
 bnd (aC 6 v2 v16 h16) fun v17 h17 =>
 bnd (aE 6 v2 h17) fun v18 _ =>
 some (v18, h17)))
abbrev c138 : Code := cf Tryz.f138
abbrev r138 : K := bU CF Tryz.f138
def D138 (r : RT) (n : Nat) (c : Code) (X : Nat → K) (k : K) : K := aU CF r 15 n c X r138 k
theorem bKq : D138 r n c138 x0 r138 = (K1 (s138 r n) 0) :=
 (by kernel_rfl)
theorem bGm : aN CF r n 138 args h = s138 r n (bB args 0) h :=
 fE (bKq r n) args h (by kernel_rfl) (by kernel_rfl)
def s139 (r : RT) (n : Nat) (x0 : DV) (h0 : Hp) : aG :=
 bnd (cG fF h0) fun v1 h1 =>
 bnd (cG fF h1) fun v2 h2 =>
 bnd (r 81 [x0, (aJ 0)] h2) fun v3 h3 =>
 bnd (cG [(aJ 0), (.s []), (aJ 0), (aJ 0)] h3) fun v4 h4 =>
 bnd (aC 4 v4 v3 h4) fun _ h5 =>
 bnd (aA 0 v4 h5) fun v6 h6 =>
 bnd (aB v6 h6) fun v7 h7 =>
 bnd (aP .eql v7 (aJ 1) h7) fun v8 h8 =>
 cE v8 (
 bnd (r 78 [x0] h8) fun v9 h9 =>
 bnd (aA 1 v4 h9) fun v10 h10 =>
 bnd (aB v10 h10) fun v11 h11 =>
 bnd (aE 6 v2 h11) fun v12 h12 =>
 bnd (aO fF 1 [(0, 6, v12)] h12) fun v13 h13 =>
 bnd (r 149 [v11, v13] h13) fun v14 h14 =>
 bnd (aC 6 v1 v14 h14) fun _ h15 =>
 bnd (aE 6 v1 h15) fun v16 _ =>
 some (v16, h15)) (
 bnd (aP .eql v7 (aJ 3) h8) fun v17 h17 =>
 cE v17 (
 bnd (r 78 [x0] h17) fun v18 h18 =>
 bnd (aA 1 v4 (iI 1 h18)) fun v19 h19 =>
 bnd (aB v19 h19) fun v20 h20 =>
 bnd (aE 6 v2 h20) fun v21 h21 =>
 bnd (r 137 [x0] h21) fun v22 h22 =>
 cnd (cB (aE 6 v2 h22) v21 && (cB (aB v19 h22) v20 && true)) (
 bnd (r 136 [x0, v22] h22) fun v23 h23 =>
 cnd (cB (aE 6 v2 h23) v21 && (cB (aB v19 h23) v20 && true)) (
 bnd (bE (dH 0 h18.next) [(aJ 0), (.s []), (aJ 0), .l0, .l0, .l0, (aJ 0), (.s []), (aJ 0), .l0, .l0, .l0] 2 [(0, 6, v21), (6, 6, v23)] h23) fun v24 h24 =>
 bnd (r 149 [v20, v24] h24) fun v25 h25 =>
 bnd (aC 6 v1 v25 h25) fun v26 h26 =>
 bnd (aE 6 v1 h26) fun v27 _ =>
 some (v27, h26)))) (
 bnd (aP .eql v7 (aJ 2) h17) fun v28 h28 =>
 cE v28 (
 bnd (aE 6 v2 h28) fun v29 h29 =>
 bnd (r 134 [x0, v29] h29) fun v30 h30 =>
 bnd (aC 6 v1 v30 h30) fun _ h31 =>
 bnd (aE 6 v1 h31) fun v32 _ =>
 some (v32, h31)) (
 bnd (aE 4 v4 h28) fun v33 h33 =>
 bnd (r 80 [x0, v33, (aJ 13)] h33) fun v34 h34 =>
 bnd (aE 6 v2 h34) fun v35 h35 =>
 bnd (aC 6 v1 v35 h35) fun _ h36 =>
 bnd (aE 6 v1 h36) fun v37 _ =>
 some (v37, h36))))
abbrev c139 : Code := cf Tryz.f139
abbrev r139 : K := bU CF Tryz.f139
def D139 (r : RT) (n : Nat) (c : Code) (X : Nat → K) (k : K) : K := aU CF r 40 n c X r139 k
theorem bLr : D139 r n c139 x0 r139 = (K1 (s139 r n) 0) :=
 (by kernel_rfl)
theorem bHs : aN CF r n 139 args h = s139 r n (bB args 0) h :=
 fE (bLr r n) args h (by kernel_rfl) (by kernel_rfl)
def s149 (r : RT) (n : Nat) (x0 x1 : DV) (h0 : Hp) : aG :=
 bnd (cG fF h0) fun v1 h1 =>
 bnd (cM fF [(0, 1, (aJ 7)), (1, 1, x0), (5, 1, x1)] h1) fun v2 h2 =>
 bnd (aC 6 v1 v2 h2) fun _ h3 =>
 bnd (aE 6 v1 h3) fun v4 _ =>
 some (v4, h3)
abbrev c149 : Code := cf Tryz.f149
abbrev r149 : K := bU CF Tryz.f149
def D149 (r : RT) (n : Nat) (c : Code) (X : Nat → K) (k : K) : K := aU CF r 8 n c X r149 k
theorem bLf : D149 r n c149 x0 r149 = (K2 (s149 r n) 0 1) :=
 (by kernel_rfl)
theorem bEl : aN CF r n 149 args h = s149 r n (bB args 0) (bB args 1) h :=
 fE (bLf r n) args h (by kernel_rfl) (by kernel_rfl)
def vQ (r : RT) (n : Nat) (x0 x2 x5 : DV) (h0 : Hp) : aG :=
 bnd (r 78 [x0] h0) fun v1 h1 =>
 bnd (aE 6 x5 h1) fun v2 h2 =>
 bnd (aC 6 x2 v2 h2) fun _ h3 =>
 bnd (aE 6 x2 h3) fun v4 _ =>
 some (.t [v4, (.b true)], h3)
def aRe (r : RT) (n : Nat) (x0 x2 x4 x5 : DV) (h0 : Hp) : aG :=
 bnd (bV x0 h0) fun v1 h1 =>
 bnd (aA 3 v1 h1) fun v2 h2 =>
 bnd (aB v2 h2) fun v3 h3 =>
 bnd (aP .neq v3 (aJ 0) h3) fun v4 h4 =>
 cE v4 (
 bnd (aE 6 x5 h4) fun v5 h5 =>
 bnd (aC 6 x2 v5 h5) fun _ h6 =>
 bnd (aE 6 x2 h6) fun v7 _ =>
 some (.t [v7, (.b false)], h6)) (
 bnd (r 161 [x0] h4) fun v8 h8 =>
 cE v8 (
 bnd (r 78 [x0] h8) fun v9 h9 =>
 bnd (r 78 [x0] h9) fun v10 h10 =>
 bnd (eW 2 v10 h10) fun v11 h11 =>
 bnd (tJ .neg v11 h11) fun v12 h12 =>
 bnd (cM fF [(0, 1, (aJ 1)), (2, 1, v12)] h12) fun v13 h13 =>
 bnd (aC 6 x2 v13 h13) fun _ h14 =>
 bnd (aE 6 x2 h14) fun v15 _ =>
 some (.t [v15, (.b true)], h14)) (
 bnd (aA 0 x4 h8) fun v16 h16 =>
 bnd (aB v16 h16) fun v17 h17 =>
 bnd (aP .eql v17 (aJ 4) h17) fun v18 h18 =>
 cE v18 (
 bnd (aA 0 x5 h18) fun v19 h19 =>
 bnd (aC 1 v19 (aJ 1) h19) fun _ h20 =>
  vQ r n x0 x2 x5 h20) (
 bnd (aA 0 x4 h18) fun v21 h21 =>
 bnd (aB v21 h21) fun v22 h22 =>
 bnd (aP .eql v22 (aJ 5) h22) fun v23 h23 =>
 cE v23 (
 bnd (aA 0 x5 h23) fun v24 h24 =>
 bnd (aC 1 v24 (aJ 2) h24) fun _ h25 =>
  vQ r n x0 x2 x5 h25) (
 bnd (aA 0 x4 h23) fun v26 h26 =>
 bnd (aB v26 h26) fun v27 h27 =>
 bnd (aP .eql v27 (aJ 6) h27) fun v28 h28 =>
 cE v28 (
 bnd (aA 0 x5 h28) fun v29 h29 =>
 bnd (aC 1 v29 (aJ 3) h29) fun _ h30 =>
  vQ r n x0 x2 x5 h30) (
 bnd (aE 6 x5 h28) fun v31 h31 =>
 bnd (aC 6 x2 v31 h31) fun _ h32 =>
 bnd (aE 6 x2 h32) fun v33 _ =>
 some (.t [v33, (.b false)], h32))))))
def aLk (r : RT) (n : Nat) (x0 x2 x4 : DV) (h0 : Hp) : aG :=
 bnd (aA 1 x4 h0) fun v1 h1 =>
 bnd (aB v1 h1) fun v2 h2 =>
 bnd (aA 2 x4 h2) fun v3 h3 =>
 bnd (aB v3 h3) fun v4 h4 =>
 bnd (cM fF [(1, 1, v2), (2, 1, v4)] h4) fun v5 h5 =>
 bnd (cG fF h5) fun v6 h6 =>
 bnd (aC 6 v6 v5 h6) fun _ h7 =>
  aRe r n x0 x2 x4 v6 h7
def aSq (r : RT) (n : Nat) (x0 x2 : DV) (h0 : Hp) : aG :=
 bnd (r 81 [x0, (aJ 0)] h0) fun v1 h1 =>
 bnd (cG [(aJ 0), (.s []), (aJ 0), (aJ 0)] h1) fun v2 h2 =>
 bnd (aC 4 v2 v1 h2) fun _ h3 =>
  aLk r n x0 x2 v2 h3
def s150 (r : RT) (n : Nat) (x0 : DV) (h0 : Hp) : aG :=
 bnd (cG fF h0) fun v1 h1 =>
  aSq r n x0 v1 h1
abbrev c150 : Code := cf Tryz.f150
abbrev r150 : K := bU CF Tryz.f150
def D150 (r : RT) (n : Nat) (c : Code) (X : Nat → K) (k : K) : K := aU CF r 49 n c X r150 k
theorem bJj : D150 r n c150 x0 r150 = (K1 (s150 r n) 0) := by kernel_rfl
theorem bEk : aN CF r n 150 args h = s150 r n (bB args 0) h :=
 fE (bJj r n) args h (by kernel_rfl) (by kernel_rfl)
def s151 (r : RT) (n : Nat) (x0 x1 : DV) (h0 : Hp) : aG :=
 bnd (cG fF h0) fun v1 h1 =>
 bnd (r 78 [x0] h1) fun v2 h2 =>
 bnd (cG [(aJ 0), (.s []), (aJ 0), (aJ 0)] h2) fun v3 h3 =>
 bnd (aC 4 v3 v2 h3) fun _ h4 =>
 bnd (bV x0 h4) fun v5 h5 =>
 bnd (aA 1 v5 h5) fun v6 h6 =>
 bnd (aB v6 h6) fun v7 h7 =>
 bnd (aP .eql v7 (aJ 20) h7) fun v8 h8 =>
 cE v8 (
 bnd (aE 4 v3 h8) fun v9 h9 =>
 bnd (r 80 [x0, v9, (aJ 14)] h9) fun v10 h10 =>
 bnd (cM fF [] h10) fun v11 h11 =>
 bnd (aC 6 v1 v11 h11) fun _ h12 =>
 bnd (aE 6 v1 h12) fun v13 _ =>
 some (v13, h12)) (
 bnd (bV x0 h8) fun v14 h14 =>
 bnd (aA 1 v14 h14) fun v15 h15 =>
 bnd (aB v15 h15) fun v16 h16 =>
 bnd (aP .add v16 (aJ 1) h16) fun v17 h17 =>
 bnd (bV x0 h17) fun v18 h18 =>
 bnd (aA 1 v18 h18) fun v19 h19 =>
 bnd (aC 1 v19 v17 h19) fun _ h20 =>
 bnd (dP CF r x1 [] h20) fun v21 h21 =>
 bnd (cG fF h21) fun v22 h22 =>
 bnd (aC 6 v22 v21 h22) fun _ h23 =>
 bnd (bV x0 h23) fun v24 h24 =>
 bnd (aA 1 v24 h24) fun v25 h25 =>
 bnd (aB v25 h25) fun v26 h26 =>
 bnd (aP .sub v26 (aJ 1) h26) fun v27 h27 =>
 bnd (bV x0 h27) fun v28 h28 =>
 bnd (aA 1 v28 h28) fun v29 h29 =>
 bnd (aC 1 v29 v27 h29) fun _ h30 =>
 bnd (aE 6 v22 h30) fun v31 h31 =>
 bnd (aC 6 v1 v31 h31) fun _ h32 =>
 bnd (aE 6 v1 h32) fun v33 _ =>
 some (v33, h32))
abbrev c151 : Code := cf Tryz.f151
abbrev r151 : K := bU CF Tryz.f151
def D151 (r : RT) (n : Nat) (c : Code) (X : Nat → K) (k : K) : K := aU CF r 35 n c X r151 k
theorem bLh : D151 r n c151 x0 r151 = (K2 (s151 r n) 0 1) :=
 (by kernel_rfl)
theorem bFw : aN CF r n 151 args h = s151 r n (bB args 0) (bB args 1) h :=
 fE (bLh r n) args h (by kernel_rfl) (by kernel_rfl)
def dW (r : RT) (n : Nat) (x0 x2 x3 : DV) (h0 : Hp) : aG :=
 bnd (r 78 [x0] h0) fun v1 h1 =>
 bnd (aE 6 x3 h1) fun v2 h2 =>
 bnd (aC 6 x2 v2 h2) fun _ h3 =>
 bnd (aE 6 x2 h3) fun v4 _ =>
 some (v4, h3)
def mR (r : RT) (n : Nat) (kk4 : jP) (x0 x2 x3 x4 : DV) (h0 : Hp) : aG :=
 bnd (aA 5 x3 h0) fun v1 h1 =>
 bnd (aB v1 h1) fun v2 h2 =>
 bnd (aE 6 x4 h2) fun v3 h3 =>
 bnd (aO fF 1 [(0, 6, v3)] h3) fun v4 h4 =>
 bnd (bN 6 104 v2 v4 h4) fun v5 h5 =>
 bnd (aA 5 x3 h5) fun v6 h6 =>
 bnd (aC 1 v6 v5 h6) fun _ h7 =>
  kk4 x0 x2 x3 h7
def aSv (r : RT) (n : Nat) (kk4 : jP) (x0 x2 x3 x4 x5 : DV) (h0 : Hp) : aG :=
 cE x5 (
  mR r n kk4 x0 x2 x3 x4 h0) (
 bnd (r 77 [x0, (aJ 7), (.s [])] h0) fun v1 h1 =>
 bnd (gD v1 false (some (x0, h1)) h1) fun v2 h2 =>
 bnd (gD v1 false (r 77 [v2, (aJ 10), (.s [40])] h2) h2) fun v3 h3 =>
 bnd (bZ v1 (.b true) v3 h3) fun v4 h4 =>
 cE v4 (
 bnd (r 151 [x0, (.f 152 [x0] [])] h4) fun v5 h5 =>
 bnd (aC 6 x4 v5 h5) fun _ h6 =>
      mR r n kk4 x0 x2 x3 x4 h6) (
 bnd (r 81 [x0, (aJ 0)] h4) fun v7 h7 =>
 bnd (r 80 [x0, v7, (aJ 13)] h7) fun v8 h8 =>
      mR r n kk4 x0 x2 x3 x4 h8))
def aLp (r : RT) (n : Nat) (kk4 : jP) (x0 x2 x3 : DV) (h0 : Hp) : aG :=
 bnd (r 150 [x0] h0) fun v1 h1 =>
 bnd (aM 0 v1 h1) fun v2 h2 =>
 bnd (aM 1 v1 h2) fun v3 h3 =>
 bnd (cG fF h3) fun v4 h4 =>
 bnd (aC 6 v4 v2 h4) fun _ h5 =>
  aSv r n kk4 x0 x2 x3 v4 v3 h5
def pZ (r : RT) (n : Nat) (kk4 : jP) (x0 x2 x3 : DV) (h0 : Hp) : aG :=
 bnd (bV x0 h0) fun v1 h1 =>
 bnd (aA 3 v1 h1) fun v2 h2 =>
 bnd (aB v2 h2) fun v3 h3 =>
 bnd (aP .eql v3 (aJ 0) h3) fun v4 h4 =>
 bnd (gD v4 true (some (x0, h4)) h4) fun v5 h5 =>
 bnd (gD v4 true (r 77 [v5, (aJ 10), (.s [41])] h5) h5) fun v6 h6 =>
 bnd (gD v4 true (tJ .not v6 h6) h6) fun v7 h7 =>
 bnd (bZ v4 v7 (.b false) h7) fun v8 h8 =>
 cE v8 (
  aLp r n kk4 x0 x2 x3 h8) (
  dW r n x0 x2 x3 h8)
def gS (r : RT) (n : Nat) (m : Nat) : jP :=
 Nat.rec (motive := fun _ => jP) (fun _ _ _ _ => none) (fun _ ih => pZ r n ih) m
def aDz (r : RT) (n : Nat) : jP := gS r n n
def yB (r : RT) (n : Nat) (x0 x2 x3 : DV) (h0 : Hp) : aG :=
 aDz r n x0 x2 x3 h0
def xD (r : RT) (n : Nat) (x0 x2 : DV) (h0 : Hp) : aG :=
 bnd (cM fF [(0, 1, (aJ 4))] h0) fun v1 h1 =>
 bnd (cG fF h1) fun v2 h2 =>
 bnd (aC 6 v2 v1 h2) fun _ h3 =>
  yB r n x0 x2 v2 h3
def s152 (r : RT) (n : Nat) (x0 : DV) (h0 : Hp) : aG :=
 bnd (cG fF h0) fun v1 h1 =>
  xD r n x0 v1 h1
abbrev c152 : Code := cf Tryz.f152
abbrev vL := cR c152
abbrev xA := cR vL
abbrev bDs := cR xA
abbrev vI := cL xA
abbrev wS := cL vI
abbrev mL := cL wS
abbrev aFj := cL vL
abbrev aId := cL c152
abbrev r152 : K := bU CF Tryz.f152
def D152 (r : RT) (n : Nat) (c : Code) (X : Nat → K) (k : K) : K := aU CF r 48 n c X r152 k
theorem aUy : D152 r n bDs x0 r152 = (K3 (dW r n) 0 2 3) := by kernel_rfl
theorem aSe (kk4 : jP) : D152 r n mL (xs x0 0 (K3 (dW r n) 0 2 3)) (K3 kk4 0 2 3) = (K3 (pZ r n kk4) 0 2 3) := by kernel_rfl
theorem aKk (m : Nat) : aR (fun kk => D152 r n mL (xs x0 0 (K3 (dW r n) 0 2 3)) kk) m = (K3 (gS r n m) 0 2 3) := by
 induction m with
 | zero => exact (by kernel_rfl : aR (fun kk => D152 r n mL (xs x0 0 (K3 (dW r n) 0 2 3)) kk) 0 = (K3 (gS r n 0) 0 2 3))
 | succ m ih =>
  refine (by kernel_rfl : aR (fun kk => D152 r n mL (xs x0 0 (K3 (dW r n) 0 2 3)) kk) (m + 1) = D152 r n mL (xs x0 0 (K3 (dW r n) 0 2 3)) (aR (fun kk => D152 r n mL (xs x0 0 (K3 (dW r n) 0 2 3)) kk) m)).trans ?_
  rw [ih]
  exact (aSe r n (gS r n m)).trans (by kernel_rfl)
theorem aZd : D152 r n wS (xs x0 0 (K3 (dW r n) 0 2 3)) (K3 (dW r n) 0 2 3) = (K3 (aDz r n) 0 2 3) :=
 (by kernel_rfl : D152 r n wS (xs x0 0 (K3 (dW r n) 0 2 3)) (K3 (dW r n) 0 2 3) = aR (fun kk => D152 r n mL (xs x0 0 (K3 (dW r n) 0 2 3)) kk) n).trans ((aKk r n n).trans (by kernel_rfl))
theorem aQa : D152 r n xA x0 r152 = D152 r n vI x0 (K3 (dW r n) 0 2 3) :=
 congrArg (fun k => D152 r n vI x0 k) (aUy r n)
theorem aXu : D152 r n xA x0 r152 = (K3 (yB r n) 0 2 3) :=
 (aQa r n).trans
 ((by kernel_rfl : D152 r n vI x0 (K3 (dW r n) 0 2 3) = D152 r n wS (xs x0 0 (K3 (dW r n) 0 2 3)) (K3 (dW r n) 0 2 3)).trans
 ((aZd r n).trans (by kernel_rfl)))
theorem aSm : D152 r n vL x0 r152 = D152 r n aFj x0 (K3 (yB r n) 0 2 3) :=
 congrArg (fun k => D152 r n aFj x0 k) (aXu r n)
theorem aXf : D152 r n vL x0 r152 = (K2 (xD r n) 0 2) :=
 (aSm r n).trans
 ((by kernel_rfl))
theorem bHk : D152 r n c152 x0 r152 = D152 r n aId x0 (K2 (xD r n) 0 2) :=
 congrArg (fun k => D152 r n aId x0 k) (aXf r n)
theorem bIe : D152 r n c152 x0 r152 = (K1 (s152 r n) 0) :=
 (bHk r n).trans
 ((by kernel_rfl))
theorem bDd : aN CF r n 152 args h = s152 r n (bB args 0) h :=
 fE (bIe r n) args h (by kernel_rfl) (by kernel_rfl)
def s153 (r : RT) (n : Nat) (x0 : DV) (h0 : Hp) : aG :=
 bnd (cG fF h0) fun v1 h1 =>
 bnd (r 79 [x0] h1) fun v2 h2 =>
 bnd (cG fF h2) fun v3 h3 =>
 bnd (aC 6 v3 v2 h3) fun _ h4 =>
 bnd (r 51 [x0, (aJ 10), (.s [41])] h4) fun v5 h5 =>
 bnd (aE 6 v3 h5) fun v6 h6 =>
 bnd (aC 6 v1 v6 h6) fun _ h7 =>
 bnd (aE 6 v1 h7) fun v8 _ =>
 some (v8, h7)
abbrev c153 : Code := cf Tryz.f153
abbrev r153 : K := bU CF Tryz.f153
def D153 (r : RT) (n : Nat) (c : Code) (X : Nat → K) (k : K) : K := aU CF r 9 n c X r153 k
theorem bJl : D153 r n c153 x0 r153 = (K1 (s153 r n) 0) :=
 (by kernel_rfl)
theorem bBz : aN CF r n 153 args h = s153 r n (bB args 0) h :=
 fE (bJl r n) args h (by kernel_rfl) (by kernel_rfl)
def xL (r : RT) (n : Nat) (x0 x2 x3 : DV) (h0 : Hp) : aG :=
 bnd (r 49 [x0] h0) fun v1 h1 =>
 bnd (aA 4 x3 h1) fun v2 h2 =>
 bnd (aC 1 v2 v1 h2) fun _ h3 =>
 bnd (r 50 [x0] h3) fun v4 h4 =>
 bnd (aA 5 x3 h4) fun v5 h5 =>
 bnd (aC 1 v5 v4 h5) fun _ h6 =>
 bnd (r 51 [x0, (aJ 10), (.s [93])] h6) fun v7 h7 =>
 bnd (aE 6 x3 h7) fun v8 h8 =>
 bnd (aC 6 x2 v8 h8) fun _ h9 =>
 bnd (aE 6 x2 h9) fun v10 _ =>
 some (v10, h9)
def dY (r : RT) (n : Nat) (x0 x2 x3 : DV) (h0 : Hp) : aG :=
 bnd (aA 3 x3 h0) fun v1 h1 =>
 bnd (aB v1 h1) fun v2 h2 =>
 bnd (gZ v2 h2) fun v3 h3 =>
 bnd (aP .gtr v3 (aJ 0) h3) fun v4 h4 =>
 bnd (gD v4 true (some (x0, h4)) h4) fun v5 h5 =>
 bnd (gD v4 true (r 77 [v5, (aJ 10), (.s [93])] h5) h5) fun v6 h6 =>
 bnd (gD v4 true (tJ .not v6 h6) h6) fun v7 h7 =>
 bnd (bZ v4 v7 (.b false) h7) fun v8 h8 =>
 cE v8 (
 bnd (r 51 [x0, (aJ 10), (.s [124])] h8) fun v9 h9 =>
  xL r n x0 x2 x3 h9) (
  xL r n x0 x2 x3 h8)
def qA (r : RT) (n : Nat) (kk5 : jP) (x0 x2 x3 : DV) (h0 : Hp) : aG :=
 bnd (r 77 [x0, (aJ 8), (.s [])] h0) fun v1 h1 =>
 cE v1 (
 bnd (aA 3 x3 (iI 1 h1)) fun v2 h2 =>
 bnd (aB v2 h2) fun v3 h3 =>
 bnd (aA 3 x3 h3) fun v4 h4 =>
 bnd (aB v4 h4) fun v5 h5 =>
 bnd (r 82 [x0, (aJ 8), v5] h5) fun v6 h6 =>
 cnd (cB (aB v2 h6) v3 && true) (
 bnd (bE (dH 0 h1.next) [(.s [])] 1 [(0, 1, v6)] h6) fun v7 h7 =>
 bnd (bN 1 16 v3 v7 h7) fun v8 h8 =>
 bnd (aA 3 x3 h8) fun v9 h9 =>
 bnd (aC 1 v9 v8 h9) fun v10 h10 =>
      kk5 x0 x2 x3 h10)) (
      dY r n x0 x2 x3 h1)
def jO (r : RT) (n : Nat) (m : Nat) : jP :=
 Nat.rec (motive := fun _ => jP) (fun _ _ _ _ => none) (fun _ ih => qA r n ih) m
def aCo (r : RT) (n : Nat) : jP := jO r n n
def wN (r : RT) (n : Nat) (x0 x2 x3 : DV) (h0 : Hp) : aG :=
 aCo r n x0 x2 x3 h0
def yW (r : RT) (n : Nat) (x0 x2 : DV) (h0 : Hp) : aG :=
 bnd (cM fF [(0, 1, (aJ 9))] h0) fun v1 h1 =>
 bnd (cG fF h1) fun v2 h2 =>
 bnd (aC 6 v2 v1 h2) fun _ h3 =>
  wN r n x0 x2 v2 h3
def s154 (r : RT) (n : Nat) (x0 : DV) (h0 : Hp) : aG :=
 bnd (cG fF h0) fun v1 h1 =>
  yW r n x0 v1 h1
abbrev c154 : Code := cf Tryz.f154
abbrev vX := cR c154
abbrev xS := cR vX
abbrev bFv := cR xS
abbrev yI := cL xS
abbrev xM := cL yI
abbrev mP := cL xM
abbrev aRm := cL vX
abbrev aHd := cL c154
abbrev r154 : K := bU CF Tryz.f154
def D154 (r : RT) (n : Nat) (c : Code) (X : Nat → K) (k : K) : K := aU CF r 36 n c X r154 k
theorem aZb : D154 r n bFv x0 r154 = (K3 (dY r n) 0 2 3) := by kernel_rfl
theorem aRv (kk5 : jP) : D154 r n mP (xs x0 0 (K3 (dY r n) 0 2 3)) (K3 kk5 0 2 3) = (K3 (qA r n kk5) 0 2 3) := by kernel_rfl
theorem aNo (m : Nat) : aR (fun kk => D154 r n mP (xs x0 0 (K3 (dY r n) 0 2 3)) kk) m = (K3 (jO r n m) 0 2 3) := by
 induction m with
 | zero => exact (by kernel_rfl : aR (fun kk => D154 r n mP (xs x0 0 (K3 (dY r n) 0 2 3)) kk) 0 = (K3 (jO r n 0) 0 2 3))
 | succ m ih =>
  refine (by kernel_rfl : aR (fun kk => D154 r n mP (xs x0 0 (K3 (dY r n) 0 2 3)) kk) (m + 1) = D154 r n mP (xs x0 0 (K3 (dY r n) 0 2 3)) (aR (fun kk => D154 r n mP (xs x0 0 (K3 (dY r n) 0 2 3)) kk) m)).trans ?_
  rw [ih]
  exact (aRv r n (jO r n m)).trans (by kernel_rfl)
theorem aYk : D154 r n xM (xs x0 0 (K3 (dY r n) 0 2 3)) (K3 (dY r n) 0 2 3) = (K3 (aCo r n) 0 2 3) :=
 (by kernel_rfl : D154 r n xM (xs x0 0 (K3 (dY r n) 0 2 3)) (K3 (dY r n) 0 2 3) = aR (fun kk => D154 r n mP (xs x0 0 (K3 (dY r n) 0 2 3)) kk) n).trans ((aNo r n n).trans (by kernel_rfl))
theorem aTb : D154 r n xS x0 r154 = D154 r n yI x0 (K3 (dY r n) 0 2 3) :=
 congrArg (fun k => D154 r n yI x0 k) (aZb r n)
theorem bAc : D154 r n xS x0 r154 = (K3 (wN r n) 0 2 3) :=
 (aTb r n).trans
 ((by kernel_rfl : D154 r n yI x0 (K3 (dY r n) 0 2 3) = D154 r n xM (xs x0 0 (K3 (dY r n) 0 2 3)) (K3 (dY r n) 0 2 3)).trans
 ((aYk r n).trans (by kernel_rfl)))
theorem aMj : D154 r n vX x0 r154 = D154 r n aRm x0 (K3 (wN r n) 0 2 3) :=
 congrArg (fun k => D154 r n aRm x0 k) (bAc r n)
theorem aYi : D154 r n vX x0 r154 = (K2 (yW r n) 0 2) :=
 (aMj r n).trans
 ((by kernel_rfl))
theorem bHi : D154 r n c154 x0 r154 = D154 r n aHd x0 (K2 (yW r n) 0 2) :=
 congrArg (fun k => D154 r n aHd x0 k) (aYi r n)
theorem bJo : D154 r n c154 x0 r154 = (K1 (s154 r n) 0) :=
 (bHi r n).trans
 ((by kernel_rfl))
theorem bCd : aN CF r n 154 args h = s154 r n (bB args 0) h :=
 fE (bJo r n) args h (by kernel_rfl) (by kernel_rfl)
def s155 (r : RT) (n : Nat) (x0 : DV) (h0 : Hp) : aG :=
 bnd (pEq (.slice 25) true x0 .l0 h0) fun v1 h1 =>
 cE v1 (
 some (.l0, h1)) (
 bnd (aO [] 0 [] h1) fun v2 h2 =>
 bnd (bN 6 104 v2 x0 h2) fun v3 h3 =>
 some (v3, h3))
abbrev c155 : Code := cf Tryz.f155
abbrev r155 : K := bU CF Tryz.f155
def D155 (r : RT) (n : Nat) (c : Code) (X : Nat → K) (k : K) : K := aU CF r 8 n c X r155 k
theorem bKj : D155 r n c155 x0 r155 = (K1 (s155 r n) 0) :=
 (by kernel_rfl)
theorem bDj : aN CF r n 155 args h = s155 r n (bB args 0) h :=
 fE (bKj r n) args h (by kernel_rfl) (by kernel_rfl)
def s161 (r : RT) (n : Nat) (x0 : DV) (h0 : Hp) : aG :=
 bnd (r 81 [x0, (aJ 1)] h0) fun v1 h1 =>
 bnd (cG [(aJ 0), (.s []), (aJ 0), (aJ 0)] h1) fun v2 h2 =>
 bnd (aC 4 v2 v1 h2) fun _ h3 =>
 bnd (r 77 [x0, (aJ 3), (.s [45])] h3) fun v4 h4 =>
 bnd (gD v4 true (aA 0 v2 h4) h4) fun v5 h5 =>
 bnd (gD v4 true (aB v5 h5) h5) fun v6 h6 =>
 bnd (gD v4 true (aP .eql v6 (aJ 4) h6) h6) fun v7 h7 =>
 bnd (bZ v4 v7 (.b false) h7) fun v8 h8 =>
 bnd (gD v8 true (aA 3 v2 h8) h8) fun v9 h9 =>
 bnd (gD v8 true (aB v9 h9) h9) fun v10 h10 =>
 bnd (gD v8 true (some (x0, h10)) h10) fun v11 h11 =>
 bnd (gD v8 true (r 81 [v11, (aJ 0)] h11) h11) fun v12 h12 =>
 cnd (cB (gD v8 true (aB v9 h12) h12) v10 && true) (
 bnd (gD v8 true (eW 3 v12 h12) h12) fun v13 h13 =>
 bnd (gD v8 true (aP .add v13 (aJ 1) h13) h13) fun v14 h14 =>
 bnd (gD v8 true (aP .eql v10 v14 h14) h14) fun v15 h15 =>
 bnd (bZ v8 v15 (.b false) h15) fun v16 h16 =>
 some (v16, h16))
abbrev c161 : Code := cf Tryz.f161
abbrev r161 : K := bU CF Tryz.f161
def D161 (r : RT) (n : Nat) (c : Code) (X : Nat → K) (k : K) : K := aU CF r 22 n c X r161 k
theorem bIu : D161 r n c161 x0 r161 = (K1 (s161 r n) 0) :=
 (by kernel_rfl)
theorem bDg : aN CF r n 161 args h = s161 r n (bB args 0) h :=
 fE (bIu r n) args h (by kernel_rfl) (by kernel_rfl)
end
end Go.Dd

namespace Go.Dd
open Go.Proofs
noncomputable section
section
variable (ih : RT) (m : Nat) (f : FuncId) (args : List DV) (h : Hp)
theorem fD {i : Nat} {s r : aG} (e1 : s = aN CF ih m i args h) (e2 : r = aN CF ih m f args h) : (bif Nat.beq f i then s else r) = aN CF ih m f args h := by
 cases e : Nat.beq f i with
 | false => exact e2
 | true => cases Nat.eq_of_beq_eq_true e; exact e1
theorem ndC {i : Nat} {a b : aG} (e1 : a = aN CF ih m f args h) (e2 : b = aN CF ih m f args h) : (bif Nat.blt f i then a else b) = aN CF ih m f args h := by
 cases Nat.blt f i with
 | false => exact e2
 | true => exact e1
def qg0 : aG := bif Nat.beq f 6 then s6 ih m (bB args 0) h else bif Nat.beq f 13 then s13 ih m (bB args 0) h else bif Nat.beq f 14 then s14 ih m (bB args 0) h else bif Nat.beq f 15 then s15 ih m (bB args 0) h else bif Nat.beq f 19 then s19 ih m (bB args 0) h else bif Nat.beq f 21 then s21 ih m (bB args 0) h else bif Nat.beq f 22 then s22 ih m (bB args 0) (bB args 1) (bB args 2) (bB args 3) h else bif Nat.beq f 26 then s26 ih m (bB args 0) (bB args 1) h else aN CF ih m f args h
theorem bNo : qg0 ih m f args h = aN CF ih m f args h := fD ih m f args h (bJn ih m args h).symm (fD ih m f args h (bLm ih m args h).symm (fD ih m f args h (bKp ih m args h).symm (fD ih m f args h (bIz ih m args h).symm (fD ih m f args h (bKs ih m args h).symm (fD ih m f args h (bKl ih m args h).symm (fD ih m f args h (bKf ih m args h).symm (fD ih m f args h (bJq ih m args h).symm rfl)))))))
def qg1 : aG := bif Nat.beq f 27 then s27 ih m (bB args 0) h else bif Nat.beq f 32 then s32 ih m (bB args 0) h else bif Nat.beq f 33 then s33 ih m (bB args 0) h else bif Nat.beq f 35 then s35 ih m (bB args 0) (bB args 1) (bB args 2) h else bif Nat.beq f 36 then s36 ih m (bB args 0) h else bif Nat.beq f 37 then s37 ih m (bB args 0) (bB args 1) h else bif Nat.beq f 48 then s48 ih m (bB args 0) h else bif Nat.beq f 49 then s49 ih m (bB args 0) h else aN CF ih m f args h
theorem bNy : qg1 ih m f args h = aN CF ih m f args h := fD ih m f args h (bLp ih m args h).symm (fD ih m f args h (bIi ih m args h).symm (fD ih m f args h (bLe ih m args h).symm (fD ih m f args h (bIx ih m args h).symm (fD ih m f args h (bIr ih m args h).symm (fD ih m f args h (bLq ih m args h).symm (fD ih m f args h (bLd ih m args h).symm (fD ih m f args h (bId ih m args h).symm rfl)))))))
def qg2 : aG := bif Nat.beq f 50 then s50 ih m (bB args 0) h else bif Nat.beq f 51 then s51 ih m (bB args 0) (bB args 1) (bB args 2) h else bif Nat.beq f 57 then s57 ih m (bB args 0) (bB args 1) h else bif Nat.beq f 58 then s58 ih m (bB args 0) (bB args 1) h else bif Nat.beq f 61 then s61 ih m (bB args 0) (bB args 1) h else bif Nat.beq f 62 then s62 ih m (bB args 0) h else bif Nat.beq f 63 then s63 ih m (bB args 0) (bB args 1) h else bif Nat.beq f 64 then s64 ih m (bB args 0) (bB args 1) (bB args 2) h else aN CF ih m f args h
theorem bNv : qg2 ih m f args h = aN CF ih m f args h := fD ih m f args h (bKr ih m args h).symm (fD ih m f args h (bJc ih m args h).symm (fD ih m f args h (bIl ih m args h).symm (fD ih m f args h (bJb ih m args h).symm (fD ih m f args h (bIb ih m args h).symm (fD ih m f args h (bJr ih m args h).symm (fD ih m f args h (bIf ih m args h).symm (fD ih m f args h (bIp ih m args h).symm rfl)))))))
def qg3 : aG := bif Nat.beq f 74 then s74 ih m (bB args 0) (bB args 1) (bB args 2) h else bif Nat.beq f 75 then s75 ih m (bB args 0) h else bif Nat.beq f 76 then s76 ih m (bB args 0) h else bif Nat.beq f 77 then s77 ih m (bB args 0) (bB args 1) (bB args 2) h else bif Nat.beq f 78 then s78 ih m (bB args 0) h else bif Nat.beq f 79 then s79 ih m (bB args 0) h else bif Nat.beq f 80 then s80 ih m (bB args 0) (bB args 1) (bB args 2) h else bif Nat.beq f 81 then s81 ih m (bB args 0) (bB args 1) h else aN CF ih m f args h
theorem bOk : qg3 ih m f args h = aN CF ih m f args h := fD ih m f args h (bJg ih m args h).symm (fD ih m f args h (bKn ih m args h).symm (fD ih m f args h (bJv ih m args h).symm (fD ih m f args h (bJe ih m args h).symm (fD ih m f args h (bJy ih m args h).symm (fD ih m f args h (bJz ih m args h).symm (fD ih m f args h (bKm ih m args h).symm (fD ih m f args h (bKt ih m args h).symm rfl)))))))
def qg4 : aG := bif Nat.beq f 82 then s82 ih m (bB args 0) (bB args 1) (bB args 2) h else bif Nat.beq f 85 then s85 ih m (bB args 0) (bB args 1) h else bif Nat.beq f 89 then s89 ih m (bB args 0) (bB args 1) (bB args 2) h else bif Nat.beq f 90 then s90 ih m (bB args 0) (bB args 1) h else bif Nat.beq f 91 then s91 ih m (bB args 0) h else bif Nat.beq f 105 then s105 ih m (bB args 0) (bB args 1) h else bif Nat.beq f 106 then s106 ih m (bB args 0) (bB args 1) h else bif Nat.beq f 107 then s107 ih m (bB args 0) h else aN CF ih m f args h
theorem bMc : qg4 ih m f args h = aN CF ih m f args h := fD ih m f args h (bKk ih m args h).symm (fD ih m f args h (bKg ih m args h).symm (fD ih m f args h (bIn ih m args h).symm (fD ih m f args h (bLg ih m args h).symm (fD ih m f args h (bJx ih m args h).symm (fD ih m f args h (bEj ih m args h).symm (fD ih m f args h (bFk ih m args h).symm (fD ih m f args h (bFe ih m args h).symm rfl)))))))
def qg5 : aG := bif Nat.beq f 108 then s108 ih m (bB args 0) h else bif Nat.beq f 109 then s109 ih m (bB args 0) h else bif Nat.beq f 110 then s110 ih m (bB args 0) h else bif Nat.beq f 111 then s111 ih m (bB args 0) h else bif Nat.beq f 112 then s112 ih m (bB args 0) h else bif Nat.beq f 113 then s113 ih m (bB args 0) h else bif Nat.beq f 114 then s114 ih m (bB args 0) h else bif Nat.beq f 126 then s126 ih m (bB args 0) h else aN CF ih m f args h
theorem bLs : qg5 ih m f args h = aN CF ih m f args h := fD ih m f args h (bGw ih m args h).symm (fD ih m f args h (bFf ih m args h).symm (fD ih m f args h (bFg ih m args h).symm (fD ih m f args h (bDb ih m args h).symm (fD ih m f args h (bHp ih m args h).symm (fD ih m f args h (bCf ih m args h).symm (fD ih m f args h (bGb ih m args h).symm (fD ih m f args h (bFh ih m args h).symm rfl)))))))
def qg6 : aG := bif Nat.beq f 132 then s132 ih m (bB args 0) h else bif Nat.beq f 133 then s133 ih m (bB args 0) h else bif Nat.beq f 134 then s134 ih m (bB args 0) (bB args 1) h else bif Nat.beq f 135 then s135 ih m (bB args 0) (bB args 1) h else bif Nat.beq f 136 then s136 ih m (bB args 0) (bB args 1) h else bif Nat.beq f 137 then s137 ih m (bB args 0) h else bif Nat.beq f 138 then s138 ih m (bB args 0) h else bif Nat.beq f 139 then s139 ih m (bB args 0) h else aN CF ih m f args h
theorem bMu : qg6 ih m f args h = aN CF ih m f args h := fD ih m f args h (bGi ih m args h).symm (fD ih m f args h (bFz ih m args h).symm (fD ih m f args h (bFc ih m args h).symm (fD ih m f args h (bEb ih m args h).symm (fD ih m f args h (bDw ih m args h).symm (fD ih m f args h (bCa ih m args h).symm (fD ih m f args h (bGm ih m args h).symm (fD ih m f args h (bHs ih m args h).symm rfl)))))))
def qg7 : aG := bif Nat.beq f 149 then s149 ih m (bB args 0) (bB args 1) h else bif Nat.beq f 150 then s150 ih m (bB args 0) h else bif Nat.beq f 151 then s151 ih m (bB args 0) (bB args 1) h else bif Nat.beq f 152 then s152 ih m (bB args 0) h else bif Nat.beq f 153 then s153 ih m (bB args 0) h else bif Nat.beq f 154 then s154 ih m (bB args 0) h else bif Nat.beq f 155 then s155 ih m (bB args 0) h else bif Nat.beq f 161 then s161 ih m (bB args 0) h else aN CF ih m f args h
theorem bNd : qg7 ih m f args h = aN CF ih m f args h := fD ih m f args h (bEl ih m args h).symm (fD ih m f args h (bEk ih m args h).symm (fD ih m f args h (bFw ih m args h).symm (fD ih m f args h (bDd ih m args h).symm (fD ih m f args h (bBz ih m args h).symm (fD ih m f args h (bCd ih m args h).symm (fD ih m f args h (bDj ih m args h).symm (fD ih m f args h (bDg ih m args h).symm rfl)))))))
def qd0 : aG := bif Nat.blt f 27 then qg0 ih m f args h else qg1 ih m f args h
theorem bNp : qd0 ih m f args h = aN CF ih m f args h := ndC ih m f args h (bNo ih m f args h) (bNy ih m f args h)
def qd1 : aG := bif Nat.blt f 74 then qg2 ih m f args h else qg3 ih m f args h
theorem bOa : qd1 ih m f args h = aN CF ih m f args h := ndC ih m f args h (bNv ih m f args h) (bOk ih m f args h)
def qd2 : aG := bif Nat.blt f 50 then qd0 ih m f args h else qd1 ih m f args h
theorem bMv : qd2 ih m f args h = aN CF ih m f args h := ndC ih m f args h (bNp ih m f args h) (bOa ih m f args h)
def qd3 : aG := bif Nat.blt f 108 then qg4 ih m f args h else qg5 ih m f args h
theorem bMt : qd3 ih m f args h = aN CF ih m f args h := ndC ih m f args h (bMc ih m f args h) (bLs ih m f args h)
def qd4 : aG := bif Nat.blt f 149 then qg6 ih m f args h else qg7 ih m f args h
theorem bOc : qd4 ih m f args h = aN CF ih m f args h := ndC ih m f args h (bMu ih m f args h) (bNd ih m f args h)
def qd5 : aG := bif Nat.blt f 132 then qd3 ih m f args h else qd4 ih m f args h
theorem bLy : qd5 ih m f args h = aN CF ih m f args h := ndC ih m f args h (bMt ih m f args h) (bOc ih m f args h)
def qd6 : aG := bif Nat.blt f 82 then qd2 ih m f args h else qd5 ih m f args h
theorem bMl : qd6 ih m f args h = aN CF ih m f args h := ndC ih m f args h (bMv ih m f args h) (bLy ih m f args h)
end
def shB (ih : RT) (m : Nat) (f : FuncId) (args : List DV) (h : Hp) : aG := qd6 ih m f args h
theorem bHt (ih : RT) (m : Nat) (f : FuncId) (args : List DV) (h : Hp) : shB ih m f args h = aN CF ih m f args h := bMl ih m f args h
def aL (n : Nat) : FuncId → List DV → Hp → aG :=
 Nat.rec (motive := fun _ => FuncId → List DV → Hp → aG) (fun _ _ _ => none) (fun m ih => shB ih m) n
theorem aDc : ∀ n, aL n = fnD CF n
 | 0 => rfl
 | n + 1 => by
  have e : aL (n + 1) = shB (aL n) n := rfl
  have e' : fnD CF (n + 1) = aN CF (fnD CF n) n := rfl
  rw [e, e', ← aDc n]
  funext f args h
  exact bHt _ _ _ _ _
end
end Go.Dd

namespace Go.Proofs
open Go.Shelf
def Tryz.lays156_ren : Go.Shelf.Ren := ⟨fun | 156 => 30 | 165 => 54 | 166 => 55 | 169 => 56 | 240 => 83 | 241 => 84 | 276 => 115 | 277 => 116 | n => n, fun | 31 => 22 | 9 => 9 | 3 => 3 | 4 => 4 | 0 => 0 | 20 => 20 | 72 => 73 | 76 => 77 | 70 => 70 | 37 => 71 | 75 => 76 | 127 => 104 | 164 => 118 | 5 => 5 | 80 => 79 | n => n, fun | n => n⟩
theorem Tryz.lays156 : Go.Proofs.Lays.n156 Tryz.prog Tryz.lays156_ren := {
 mixed := by kernel_rfl
 f156 := Tryz.func30.trans (congrArg some (by kernel_rfl))
 f165 := Tryz.func54.trans (congrArg some (by kernel_rfl))
 f166 := Tryz.func55.trans (congrArg some (by kernel_rfl))
 f169 := Tryz.func56.trans (congrArg some (by kernel_rfl))
 f240 := Tryz.func83.trans (congrArg some (by kernel_rfl))
 f241 := Tryz.func84.trans (congrArg some (by kernel_rfl))
 f276 := Tryz.func115.trans (congrArg some (by kernel_rfl))
 f277 := Tryz.func116.trans (congrArg some (by kernel_rfl))
 t0 := Tryz.underlying0
 a0 := Tryz.isAgg0
 z0 := Tryz.sizeOf0
 v0 := Tryz.zeroValue0
 t3 := Tryz.underlying3
 a3 := Tryz.isAgg3
 z3 := Tryz.sizeOf3
 v3 := Tryz.zeroValue3
 t4 := Tryz.underlying4
 a4 := Tryz.isAgg4
 z4 := Tryz.sizeOf4
 v4 := Tryz.zeroValue4
 t9 := Tryz.underlying9
 a9 := Tryz.isAgg9
 z9 := Tryz.sizeOf9
 v9 := Tryz.zeroValue9
 t20 := Tryz.underlying20
 a20 := Tryz.isAgg20
 z20 := Tryz.sizeOf20
 v20 := Tryz.zeroValue20
 t31 := Tryz.underlying22
 a31 := Tryz.isAgg22
 z31 := Tryz.sizeOf22
 v31 := Tryz.zeroValue22
 t37 := Tryz.underlying71
 a37 := Tryz.isAgg71
 z37 := Tryz.sizeOf71
 v37 := Tryz.zeroValue71
 t70 := Tryz.underlying70
 a70 := Tryz.isAgg70
 z70 := Tryz.sizeOf70
 v70 := Tryz.zeroValue70
 t72 := Tryz.underlying73
 a72 := Tryz.isAgg73
 z72 := Tryz.sizeOf73
 v72 := Tryz.zeroValue73
 t75 := Tryz.underlying76
 a75 := Tryz.isAgg76
 z75 := Tryz.sizeOf76
 v75 := Tryz.zeroValue76
 t76 := Tryz.underlying77
 a76 := Tryz.isAgg77
 z76 := Tryz.sizeOf77
 v76 := Tryz.zeroValue77
 t127 := Tryz.underlying104
 a127 := Tryz.isAgg104
 z127 := Tryz.sizeOf104
 v127 := Tryz.zeroValue104
 t164 := Tryz.underlying118
 a164 := Tryz.isAgg118
 z164 := Tryz.sizeOf118
 v164 := Tryz.zeroValue118 }
theorem Tryz.Builder_Extra_156 : Builder.Extra Tryz.prog Tryz.lays156_ren := {
 sizeBuilder := by kernel_rfl
 liesBuilder := by kernel_rfl
 t5 := Tryz.underlying5
 a5 := Tryz.isAgg5
 z5 := Tryz.sizeOf5
 v5 := Tryz.zeroValue5
 infoByte := by kernel_rfl
 cellsByte := by kernel_rfl
 sizeByte := by kernel_rfl
 neB5 := by decide }
open Go.RowKit in
theorem Tryz.strings_Join_none (a : Option Addr) (c : Nat) (sep : ByteArray) (w : World) :
 Calls Tryz.prog 30 #[.slice a 0 c, .string sep] w fun e w' => e = .returned (.string ⟨#[]⟩) ∧ w' = w := Any.strings_Join_none Tryz.lays156 Tryz.Builder_Extra_156 a c sep w
open Go.RowKit in
theorem Tryz.strings_Join (bk o c : Nat) (xs : List ByteArray) (sep : ByteArray) (w : World) (hcells : ∀ (j : Nat) x, xs[j]? = some x → w.cell? ⟨bk, o + j, none⟩ = some (.string x)) (hbk : bk < w.heap.size) (hN : xs.length ≤ 140737488355328) (hcap : xs.length ≤ c) (hlen : (Lib.join (xs.map (·.data.toList)) sep.data.toList).length ≤ 140737488355328) :
 Calls Tryz.prog 30 #[.slice (some ⟨bk, o, none⟩) xs.length c, .string sep] w fun e w' => e = .returned (.string ⟨(Lib.join (xs.map (·.data.toList)) sep.data.toList).toArray⟩) ∧ Below w.heap.size w w' := Any.strings_Join Tryz.lays156 Tryz.Builder_Extra_156 bk o c xs sep w hcells hbk hN hcap hlen
def Tryz.laysM246_ren : Go.Shelf.Ren := ⟨fun | 246 => 87 | 283 => 121 | 284 => 122 | 285 => 123 | 286 => 124 | 129 => 144 | 317 => 143 | 318 => 145 | 319 => 146 | 320 => 147 | 337 => 159 | 338 => 160 | n => n, fun | 2 => 2 | 3 => 3 | 9 => 9 | 4 => 4 | 171 => 123 | 0 => 0 | 53 => 124 | 37 => 71 | 5 => 5 | 173 => 127 | 212 => 136 | 51 => 137 | 20 => 20 | 213 => 138 | 46 => 140 | 232 => 152 | 233 => 153 | n => n, fun | 17 => 1 | 18 => 4 | 19 => 5 | n => n⟩
def Tryz.laysM243_ren : Go.Shelf.Ren := ⟨fun | 243 => 59 | 246 => 87 | 283 => 121 | 284 => 122 | 285 => 123 | 286 => 124 | 129 => 144 | 317 => 143 | 318 => 145 | 319 => 146 | 320 => 147 | 337 => 159 | 338 => 160 | n => n, fun | 3 => 3 | 9 => 9 | 2 => 2 | 4 => 4 | 171 => 123 | 0 => 0 | 53 => 124 | 37 => 71 | 5 => 5 | 173 => 127 | 212 => 136 | 51 => 137 | 20 => 20 | 213 => 138 | 46 => 140 | 232 => 152 | 233 => 153 | n => n, fun | 17 => 1 | 18 => 4 | 19 => 5 | n => n⟩
def Tryz.laysM171_ren : Go.Shelf.Ren := ⟨fun | 171 => 34 | 243 => 59 | 246 => 87 | 283 => 121 | 284 => 122 | 285 => 123 | 286 => 124 | 129 => 144 | 317 => 143 | 318 => 145 | 319 => 146 | 320 => 147 | 337 => 159 | 338 => 160 | n => n, fun | 3 => 3 | 9 => 9 | 2 => 2 | 4 => 4 | 171 => 123 | 0 => 0 | 53 => 124 | 37 => 71 | 5 => 5 | 173 => 127 | 212 => 136 | 51 => 137 | 20 => 20 | 213 => 138 | 46 => 140 | 232 => 152 | 233 => 153 | n => n, fun | 17 => 1 | 18 => 4 | 19 => 5 | n => n⟩
theorem Tryz.laysM171 : Go.Proofs.LaysM.n171 Tryz.prog Tryz.laysM171_ren := {
 mixed := by kernel_rfl
 f129 := Tryz.func144.trans (congrArg some (by kernel_rfl))
 f171 := Tryz.func34.trans (congrArg some (by kernel_rfl))
 f243 := Tryz.func59.trans (congrArg some (by kernel_rfl))
 f246 := Tryz.func87.trans (congrArg some (by kernel_rfl))
 f283 := Tryz.func121.trans (congrArg some (by kernel_rfl))
 f284 := Tryz.func122.trans (congrArg some (by kernel_rfl))
 f285 := Tryz.func123.trans (congrArg some (by kernel_rfl))
 f286 := Tryz.func124.trans (congrArg some (by kernel_rfl))
 f317 := Tryz.func143.trans (congrArg some (by kernel_rfl))
 f318 := Tryz.func145.trans (congrArg some (by kernel_rfl))
 f319 := Tryz.func146.trans (congrArg some (by kernel_rfl))
 f320 := Tryz.func147.trans (congrArg some (by kernel_rfl))
 f337 := Tryz.func159.trans (congrArg some (by kernel_rfl))
 f338 := Tryz.func160.trans (congrArg some (by kernel_rfl))
 t0 := Tryz.underlying0
 a0 := Tryz.isAgg0
 z0 := Tryz.sizeOf0
 v0 := Tryz.zeroValue0
 t2 := Tryz.underlying2
 a2 := Tryz.isAgg2
 z2 := Tryz.sizeOf2
 v2 := Tryz.zeroValue2
 t3 := Tryz.underlying3
 a3 := Tryz.isAgg3
 z3 := Tryz.sizeOf3
 v3 := Tryz.zeroValue3
 t4 := Tryz.underlying4
 a4 := Tryz.isAgg4
 z4 := Tryz.sizeOf4
 v4 := Tryz.zeroValue4
 t5 := Tryz.underlying5
 a5 := Tryz.isAgg5
 z5 := Tryz.sizeOf5
 v5 := Tryz.zeroValue5
 t9 := Tryz.underlying9
 a9 := Tryz.isAgg9
 z9 := Tryz.sizeOf9
 v9 := Tryz.zeroValue9
 t20 := Tryz.underlying20
 a20 := Tryz.isAgg20
 z20 := Tryz.sizeOf20
 v20 := Tryz.zeroValue20
 t37 := Tryz.underlying71
 a37 := Tryz.isAgg71
 z37 := Tryz.sizeOf71
 v37 := Tryz.zeroValue71
 t46 := Tryz.underlying140
 a46 := Tryz.isAgg140
 z46 := Tryz.sizeOf140
 v46 := Tryz.zeroValue140
 t51 := Tryz.underlying137
 a51 := Tryz.isAgg137
 z51 := Tryz.sizeOf137
 v51 := Tryz.zeroValue137
 t53 := Tryz.underlying124
 a53 := Tryz.isAgg124
 z53 := Tryz.sizeOf124
 v53 := Tryz.zeroValue124
 t171 := Tryz.underlying123
 a171 := Tryz.isAgg123
 z171 := Tryz.sizeOf123
 v171 := Tryz.zeroValue123
 t173 := Tryz.underlying127
 a173 := Tryz.isAgg127
 z173 := Tryz.sizeOf127
 v173 := Tryz.zeroValue127
 t212 := Tryz.underlying136
 a212 := Tryz.isAgg136
 z212 := Tryz.sizeOf136
 v212 := Tryz.zeroValue136
 t213 := Tryz.underlying138
 a213 := Tryz.isAgg138
 z213 := Tryz.sizeOf138
 t232 := Tryz.underlying152
 a232 := Tryz.isAgg152
 z232 := Tryz.sizeOf152
 v232 := Tryz.zeroValue152
 t233 := Tryz.underlying153
 a233 := Tryz.isAgg153
 z233 := Tryz.sizeOf153
 v233 := Tryz.zeroValue153
 g17 := by kernel_rfl
 g18 := by kernel_rfl
 g19 := by kernel_rfl
 i0 := by kernel_rfl
 i2 := by kernel_rfl
 i3 := by kernel_rfl
 i4 := by kernel_rfl
 i5 := by kernel_rfl
 i9 := by kernel_rfl
 i20 := by kernel_rfl
 i37 := by kernel_rfl
 i46 := by kernel_rfl
 i51 := by kernel_rfl
 i53 := by kernel_rfl
 i171 := by kernel_rfl
 i173 := by kernel_rfl
 i212 := by kernel_rfl
 i232 := by kernel_rfl
 i233 := by kernel_rfl
 m17 := by kernel_rfl
 m18 := by kernel_rfl
 m19 := by kernel_rfl }
open Go.RowKit Go.Sort Go.Lib in
theorem Tryz.strconv_Itoa (n : Int) (h0 : -9223372036854775808 ≤ n) (h1 : n ≤ 9223372036854775807) (w : World) (htab : Lib.TabIs Tryz.prog w "internal/strconv.uint64pow10" .u64 Lib.pow10Tab) :
 Calls Tryz.prog 34 #[.int .i64 n] w fun e w' => e = .returned (.string ⟨(Lib.itoa n).toArray⟩) ∧ ∃ k os, w' = grow (w.drewN k) os := Any.strconv_Itoa Tryz.laysM171 n h0 h1 w htab
def Tryz.lays219_ren : Go.Shelf.Ren := ⟨fun | 219 => 142 | 217 => 85 | 225 => 156 | 224 => 157 | 267 => 158 | 266 => 117 | 314 => 162 | n => n, fun | 9 => 9 | 3 => 3 | 4 => 4 | 5 => 5 | 46 => 140 | 146 => 150 | 51 => 137 | n => n, fun | 1 => 0 | n => n⟩
def Tryz.lays143_ren : Go.Shelf.Ren := ⟨fun | 143 => 120 | 219 => 142 | 217 => 85 | 225 => 156 | 224 => 157 | 267 => 158 | 266 => 117 | 314 => 162 | n => n, fun | 9 => 9 | 3 => 3 | 4 => 4 | 5 => 5 | 46 => 140 | 146 => 150 | 51 => 137 | n => n, fun | 1 => 0 | n => n⟩
def Tryz.laysM143_ren : Go.Shelf.Ren := ⟨fun | 143 => 120 | 219 => 142 | 217 => 85 | 225 => 156 | 224 => 157 | 267 => 158 | 266 => 117 | 314 => 162 | n => n, fun | 9 => 9 | 3 => 3 | 4 => 4 | 5 => 5 | 46 => 140 | 146 => 150 | 51 => 137 | n => n, fun | 1 => 0 | n => n⟩
theorem Tryz.laysM143 : Go.Proofs.LaysM.n143 Tryz.prog Tryz.laysM143_ren := {
 mixed := by kernel_rfl
 f143 := Tryz.func120.trans (congrArg some (by kernel_rfl))
 f217 := Tryz.func85.trans (congrArg some (by kernel_rfl))
 f219 := Tryz.func142.trans (congrArg some (by kernel_rfl))
 f224 := Tryz.func157.trans (congrArg some (by kernel_rfl))
 f225 := Tryz.func156.trans (congrArg some (by kernel_rfl))
 f266 := Tryz.func117.trans (congrArg some (by kernel_rfl))
 f267 := Tryz.func158.trans (congrArg some (by kernel_rfl))
 f314 := Tryz.func162.trans (congrArg some (by kernel_rfl))
 t3 := Tryz.underlying3
 a3 := Tryz.isAgg3
 z3 := Tryz.sizeOf3
 v3 := Tryz.zeroValue3
 t4 := Tryz.underlying4
 a4 := Tryz.isAgg4
 z4 := Tryz.sizeOf4
 v4 := Tryz.zeroValue4
 t5 := Tryz.underlying5
 a5 := Tryz.isAgg5
 z5 := Tryz.sizeOf5
 v5 := Tryz.zeroValue5
 t9 := Tryz.underlying9
 a9 := Tryz.isAgg9
 z9 := Tryz.sizeOf9
 v9 := Tryz.zeroValue9
 t46 := Tryz.underlying140
 a46 := Tryz.isAgg140
 z46 := Tryz.sizeOf140
 v46 := Tryz.zeroValue140
 t51 := Tryz.underlying137
 a51 := Tryz.isAgg137
 z51 := Tryz.sizeOf137
 v51 := Tryz.zeroValue137
 t146 := Tryz.underlying150
 a146 := Tryz.isAgg150
 z146 := Tryz.sizeOf150
 v146 := Tryz.zeroValue150
 g1 := by kernel_rfl
 i3 := by kernel_rfl
 i4 := by kernel_rfl
 i5 := by kernel_rfl
 i9 := by kernel_rfl
 i46 := by kernel_rfl
 i51 := by kernel_rfl
 i146 := by kernel_rfl
 m1 := by kernel_rfl
 s1_3 := fun w h => Go.Proofs.cell_of_shapedOpen_int (zero := #[.int .i64 0]) (t := 3) h (of_decide_eq_true (by kernel_rfl)) (by kernel_rfl) rfl (by kernel_rfl) (by kernel_rfl) Tryz.underlying3 }
def Tryz.lays221_ren : Go.Shelf.Ren := ⟨fun | 221 => 86 | 268 => 118 | 138 => 119 | 143 => 120 | 195 => 140 | 197 => 125 | 218 => 141 | 219 => 142 | 260 => 148 | 217 => 85 | 225 => 156 | 224 => 157 | 267 => 158 | 266 => 117 | 314 => 162 | n => n, fun | 9 => 9 | 3 => 3 | 31 => 22 | 4 => 4 | 0 => 0 | 105 => 129 | 21 => 21 | 5 => 5 | 46 => 140 | 119 => 146 | 139 => 149 | 138 => 148 | 146 => 150 | 51 => 137 | n => n, fun | 1 => 0 | 3 => 2 | 4 => 3 | n => n⟩
theorem Tryz.lays221 : Go.Proofs.Lays.n221 Tryz.prog Tryz.lays221_ren := {
 mixed := by kernel_rfl
 f138 := Tryz.func119.trans (congrArg some (by kernel_rfl))
 f143 := Tryz.func120.trans (congrArg some (by kernel_rfl))
 f195 := Tryz.func140.trans (congrArg some (by kernel_rfl))
 f197 := Tryz.func125.trans (congrArg some (by kernel_rfl))
 f217 := Tryz.func85.trans (congrArg some (by kernel_rfl))
 f218 := Tryz.func141.trans (congrArg some (by kernel_rfl))
 f219 := Tryz.func142.trans (congrArg some (by kernel_rfl))
 f221 := Tryz.func86.trans (congrArg some (by kernel_rfl))
 f224 := Tryz.func157.trans (congrArg some (by kernel_rfl))
 f225 := Tryz.func156.trans (congrArg some (by kernel_rfl))
 f260 := Tryz.func148.trans (congrArg some (by kernel_rfl))
 f266 := Tryz.func117.trans (congrArg some (by kernel_rfl))
 f267 := Tryz.func158.trans (congrArg some (by kernel_rfl))
 f268 := Tryz.func118.trans (congrArg some (by kernel_rfl))
 f314 := Tryz.func162.trans (congrArg some (by kernel_rfl))
 t0 := Tryz.underlying0
 a0 := Tryz.isAgg0
 z0 := Tryz.sizeOf0
 v0 := Tryz.zeroValue0
 t3 := Tryz.underlying3
 a3 := Tryz.isAgg3
 z3 := Tryz.sizeOf3
 v3 := Tryz.zeroValue3
 t4 := Tryz.underlying4
 a4 := Tryz.isAgg4
 z4 := Tryz.sizeOf4
 v4 := Tryz.zeroValue4
 t5 := Tryz.underlying5
 a5 := Tryz.isAgg5
 z5 := Tryz.sizeOf5
 v5 := Tryz.zeroValue5
 t9 := Tryz.underlying9
 a9 := Tryz.isAgg9
 z9 := Tryz.sizeOf9
 v9 := Tryz.zeroValue9
 t21 := Tryz.underlying21
 a21 := Tryz.isAgg21
 z21 := Tryz.sizeOf21
 v21 := Tryz.zeroValue21
 t31 := Tryz.underlying22
 a31 := Tryz.isAgg22
 z31 := Tryz.sizeOf22
 v31 := Tryz.zeroValue22
 t46 := Tryz.underlying140
 a46 := Tryz.isAgg140
 z46 := Tryz.sizeOf140
 v46 := Tryz.zeroValue140
 t51 := Tryz.underlying137
 a51 := Tryz.isAgg137
 z51 := Tryz.sizeOf137
 v51 := Tryz.zeroValue137
 t105 := Tryz.underlying129
 a105 := Tryz.isAgg129
 z105 := Tryz.sizeOf129
 v105 := Tryz.zeroValue129
 t119 := Tryz.underlying146
 a119 := Tryz.isAgg146
 z119 := Tryz.sizeOf146
 t138 := Tryz.underlying148
 a138 := Tryz.isAgg148
 z138 := Tryz.sizeOf148
 v138 := Tryz.zeroValue148
 t139 := Tryz.underlying149
 a139 := Tryz.isAgg149
 z139 := Tryz.sizeOf149
 v139 := Tryz.zeroValue149
 t146 := Tryz.underlying150
 a146 := Tryz.isAgg150
 z146 := Tryz.sizeOf150
 v146 := Tryz.zeroValue150
 g1 := by kernel_rfl
 g3 := by kernel_rfl
 g4 := by kernel_rfl }
open Go.RowKit Go.Lib in
theorem Tryz.strings_genSplit (s sep : ByteArray) (sv : Nat) (n : Int) (N : Nat) (m : Int) (w : World) (hs : s.size < 4294967281) (hm : w.cell? ⟨0, 0, none⟩ = some (.int .i64 m)) (h1 : 1 ≤ sep.size) (hsv : sv ≤ sep.size) (hn0 : n ≠ 0) (hn63 : n ≤ 9223372036854775807) (hN : (N : Int) = min (if n < 0 then (Lib.countB s sep : Int) + 1 else n) ((s.size : Int) + 1)) :
 Calls Tryz.prog 86 #[.string s, .string sep, .int .i64 sv, .int .i64 n] w fun e w' =>
  e = .returned (.slice (some ⟨w.heap.size, 0, none⟩) (Lib.splitB sep sv (N - 1) s).length N) ∧ w' = w.alloc (.cells (Lib.cellsOf (Lib.splitB sep sv (N - 1) s) N) 9) := Any.strings_genSplit Tryz.lays221 (by kernel_rfl) s sep sv n N m w hs hm h1 hsv hn0 hn63 hN
def Tryz.lays154_ren : Go.Shelf.Ren := ⟨fun | 154 => 88 | 138 => 119 | 165 => 54 | 143 => 120 | 166 => 55 | 197 => 125 | 169 => 56 | 195 => 140 | 218 => 141 | 240 => 83 | 241 => 84 | 219 => 142 | 260 => 148 | 276 => 115 | 277 => 116 | 217 => 85 | 225 => 156 | 224 => 157 | 267 => 158 | 266 => 117 | 314 => 162 | n => n, fun | 9 => 9 | 3 => 3 | 4 => 4 | 72 => 73 | 0 => 0 | 76 => 77 | 105 => 129 | 21 => 21 | 5 => 5 | 70 => 70 | 20 => 20 | 37 => 71 | 75 => 76 | 127 => 104 | 164 => 118 | 46 => 140 | 119 => 146 | 139 => 149 | 138 => 148 | 146 => 150 | 51 => 137 | 80 => 79 | n => n, fun | 1 => 0 | 3 => 2 | 4 => 3 | n => n⟩
def Tryz.lays155_ren : Go.Shelf.Ren := ⟨fun | 155 => 60 | 154 => 88 | 138 => 119 | 165 => 54 | 143 => 120 | 166 => 55 | 197 => 125 | 169 => 56 | 195 => 140 | 218 => 141 | 240 => 83 | 241 => 84 | 219 => 142 | 260 => 148 | 276 => 115 | 277 => 116 | 217 => 85 | 225 => 156 | 224 => 157 | 267 => 158 | 266 => 117 | 314 => 162 | n => n, fun | 9 => 9 | 3 => 3 | 4 => 4 | 72 => 73 | 0 => 0 | 76 => 77 | 105 => 129 | 21 => 21 | 5 => 5 | 70 => 70 | 20 => 20 | 37 => 71 | 75 => 76 | 127 => 104 | 164 => 118 | 46 => 140 | 119 => 146 | 139 => 149 | 138 => 148 | 146 => 150 | 51 => 137 | 80 => 79 | n => n, fun | 1 => 0 | 3 => 2 | 4 => 3 | n => n⟩
theorem Tryz.lays155 : Go.Proofs.Lays.n155 Tryz.prog Tryz.lays155_ren := {
 mixed := by kernel_rfl
 f138 := Tryz.func119.trans (congrArg some (by kernel_rfl))
 f143 := Tryz.func120.trans (congrArg some (by kernel_rfl))
 f154 := Tryz.func88.trans (congrArg some (by kernel_rfl))
 f155 := Tryz.func60.trans (congrArg some (by kernel_rfl))
 f165 := Tryz.func54.trans (congrArg some (by kernel_rfl))
 f166 := Tryz.func55.trans (congrArg some (by kernel_rfl))
 f169 := Tryz.func56.trans (congrArg some (by kernel_rfl))
 f195 := Tryz.func140.trans (congrArg some (by kernel_rfl))
 f197 := Tryz.func125.trans (congrArg some (by kernel_rfl))
 f217 := Tryz.func85.trans (congrArg some (by kernel_rfl))
 f218 := Tryz.func141.trans (congrArg some (by kernel_rfl))
 f219 := Tryz.func142.trans (congrArg some (by kernel_rfl))
 f224 := Tryz.func157.trans (congrArg some (by kernel_rfl))
 f225 := Tryz.func156.trans (congrArg some (by kernel_rfl))
 f240 := Tryz.func83.trans (congrArg some (by kernel_rfl))
 f241 := Tryz.func84.trans (congrArg some (by kernel_rfl))
 f260 := Tryz.func148.trans (congrArg some (by kernel_rfl))
 f266 := Tryz.func117.trans (congrArg some (by kernel_rfl))
 f267 := Tryz.func158.trans (congrArg some (by kernel_rfl))
 f276 := Tryz.func115.trans (congrArg some (by kernel_rfl))
 f277 := Tryz.func116.trans (congrArg some (by kernel_rfl))
 f314 := Tryz.func162.trans (congrArg some (by kernel_rfl))
 t0 := Tryz.underlying0
 a0 := Tryz.isAgg0
 z0 := Tryz.sizeOf0
 v0 := Tryz.zeroValue0
 t3 := Tryz.underlying3
 a3 := Tryz.isAgg3
 z3 := Tryz.sizeOf3
 v3 := Tryz.zeroValue3
 t4 := Tryz.underlying4
 a4 := Tryz.isAgg4
 z4 := Tryz.sizeOf4
 v4 := Tryz.zeroValue4
 t5 := Tryz.underlying5
 a5 := Tryz.isAgg5
 z5 := Tryz.sizeOf5
 v5 := Tryz.zeroValue5
 t9 := Tryz.underlying9
 a9 := Tryz.isAgg9
 z9 := Tryz.sizeOf9
 v9 := Tryz.zeroValue9
 t20 := Tryz.underlying20
 a20 := Tryz.isAgg20
 z20 := Tryz.sizeOf20
 v20 := Tryz.zeroValue20
 t21 := Tryz.underlying21
 a21 := Tryz.isAgg21
 z21 := Tryz.sizeOf21
 v21 := Tryz.zeroValue21
 t37 := Tryz.underlying71
 a37 := Tryz.isAgg71
 z37 := Tryz.sizeOf71
 v37 := Tryz.zeroValue71
 t46 := Tryz.underlying140
 a46 := Tryz.isAgg140
 z46 := Tryz.sizeOf140
 v46 := Tryz.zeroValue140
 t51 := Tryz.underlying137
 a51 := Tryz.isAgg137
 z51 := Tryz.sizeOf137
 v51 := Tryz.zeroValue137
 t70 := Tryz.underlying70
 a70 := Tryz.isAgg70
 z70 := Tryz.sizeOf70
 v70 := Tryz.zeroValue70
 t72 := Tryz.underlying73
 a72 := Tryz.isAgg73
 z72 := Tryz.sizeOf73
 v72 := Tryz.zeroValue73
 t75 := Tryz.underlying76
 a75 := Tryz.isAgg76
 z75 := Tryz.sizeOf76
 v75 := Tryz.zeroValue76
 t76 := Tryz.underlying77
 a76 := Tryz.isAgg77
 z76 := Tryz.sizeOf77
 v76 := Tryz.zeroValue77
 t105 := Tryz.underlying129
 a105 := Tryz.isAgg129
 z105 := Tryz.sizeOf129
 v105 := Tryz.zeroValue129
 t119 := Tryz.underlying146
 a119 := Tryz.isAgg146
 z119 := Tryz.sizeOf146
 t127 := Tryz.underlying104
 a127 := Tryz.isAgg104
 z127 := Tryz.sizeOf104
 v127 := Tryz.zeroValue104
 t138 := Tryz.underlying148
 a138 := Tryz.isAgg148
 z138 := Tryz.sizeOf148
 v138 := Tryz.zeroValue148
 t139 := Tryz.underlying149
 a139 := Tryz.isAgg149
 z139 := Tryz.sizeOf149
 v139 := Tryz.zeroValue149
 t146 := Tryz.underlying150
 a146 := Tryz.isAgg150
 z146 := Tryz.sizeOf150
 v146 := Tryz.zeroValue150
 t164 := Tryz.underlying118
 a164 := Tryz.isAgg118
 z164 := Tryz.sizeOf118
 v164 := Tryz.zeroValue118
 g1 := by kernel_rfl
 g3 := by kernel_rfl
 g4 := by kernel_rfl }
theorem Tryz.Builder_Extra_155 : Builder.Extra Tryz.prog Tryz.lays155_ren := {
 sizeBuilder := by kernel_rfl
 liesBuilder := by kernel_rfl
 t5 := Tryz.underlying5
 a5 := Tryz.isAgg5
 z5 := Tryz.sizeOf5
 v5 := Tryz.zeroValue5
 infoByte := by kernel_rfl
 cellsByte := by kernel_rfl
 sizeByte := by kernel_rfl
 neB5 := by decide }
open Go.RowKit Go.Lib in
theorem Tryz.strings_ReplaceAll (s old new : ByteArray) (m : Int) (w : World) (hs : s.size < 4294967281) (hm : w.cell? ⟨0, 0, none⟩ = some (.int .i64 m)) (h1 : 1 ≤ old.size) (hlen : s.size + Lib.countB s old * new.size ≤ 140737488355328) :
 Calls Tryz.prog 60 #[.string s, .string old, .string new] w fun e w' =>
  e = .returned (.string ⟨(Lib.replaceAll s.data.toList old.data.toList new.data.toList).toArray⟩) ∧ Below w.heap.size w w' := Any.strings_ReplaceAll Tryz.lays155 Tryz.Builder_Extra_155 s old new m w hs hm h1 hlen
end Go.Proofs

namespace Go.Dd
open Go.Proofs Go.RowKit
theorem aJe : (Tryz.prog.funcs.toList.all fun fn => !(fn.name == "runtime.NumGoroutine")) = true := by kernel_rfl
theorem Try_ok : POk CF.P where
 mixed := by kernel_rfl
 names := by
  intro f fn hf
  have h := List.all_eq_true.1 aJe fn (by
   have : Tryz.prog.funcs[f]? = some fn := hf
   obtain ⟨hlt, rfl⟩ := Array.getElem?_eq_some_iff.1 this
   simp)
  simpa using h
theorem HR.later {G : Gd} {ρ : Ren} {h : Hp} {w w' : World} (H : HR G ρ h w) (e : Below w.heap.size w w') : HR G ρ h w' where
 gl := fun k hk => (e.block k (Nat.lt_of_lt_of_le hk H.sz.1)).trans (H.gl k hk)
 sz := ⟨Nat.le_trans H.sz.1 e.size, fun k hk => Nat.lt_of_lt_of_le (H.sz.2 k hk) e.size⟩
 nx := H.nx
 ro := H.ro
 dom := H.dom
 lt := H.lt
 cell := fun b k l L i v h1 h2 h3 h4 => by
  obtain ⟨v', h5, h6⟩ := H.cell b k l L i v h1 h2 h3 h4
  exact ⟨v', by rw [e.cell (eI h5)]; exact h5, h6⟩
 spare := fun b l L es j h1 h2 h3 => by
  obtain ⟨v', h5⟩ := H.spare b l L es j h1 h2 h3
  exact ⟨v', by rw [e.cell (eI h5)]; exact h5⟩
 free := fun b a h1 h2 => by
  obtain ⟨v, hv⟩ := H.lt_cell h1
  rw [e.frozen (eI hv)]
  exact H.free b a h1 h2
 inj := H.inj
 ex := H.ex
 grone := H.grone
 itr := fun b s pos L h1 h2 => by
  obtain ⟨a, b, bs, c, d⟩ := H.itr b s pos L h1 h2
  refine ⟨a, b, bs, ?_, d⟩
  rw [e.block _ (Array.getElem?_eq_some_iff.1 c).1]
  exact c
 itj := H.itj
theorem Kp.later {G : Gd} {ρ : Ren} {h : Hp} {w w' : World} (H : HR G ρ h w) (e : Below w.heap.size w w') : Kp G w w' :=
 ⟨e.mono H.sz.1, fun k hk => e.block k (H.sz.2 k hk)⟩
theorem CallFn.of {G : Gd} {ρ : Ren} {w : World} {v : DV} {h1 : Hp} {g : FuncId} {args' : Array Value} (fn : Func) (hf : Tryz.prog.funcs[g]? = some fn) (hb : fn.body.isSome = true)
 (hc : Calls Tryz.prog g args' w (aSi G ρ w v h1)) : CallFn CF.P G ρ w v h1 g args' := by
 refine .inl ⟨?_, hc⟩
 have hf' : CF.P.funcs[g]? = some fn := hf
 have hn : ¬ fn.name = "runtime.NumGoroutine" := by simpa using Try_ok.names g fn hf'
 have hbn : fn.body ≠ none := by intro e; rw [e] at hb; cases hb
 unfold callFunc
 simp [hf', hn, hbn]
theorem qH (sep : List UInt8) : ∀ xs : List (List UInt8), aF (sep.map (·.toNat)) (xs.map (·.map (·.toNat))) = (Lib.join xs sep).map (·.toNat)
 | [] => rfl
 | [x] => by simp [aF, Lib.join, List.intercalate]
 | x :: y :: l => by
  have ih := qH sep (y :: l)
  simp only [List.map_cons] at ih ⊢
  rw [aF, ih]
  simp [Lib.join, List.intercalate, List.map_append]
theorem aAz {ρ : Ren} : ∀ {cells : List DV} {vs : List Value} {l : List (List Nat)}, VRs ρ cells vs → kW cells = some l → ∃ xs : List ByteArray, vs = xs.map Value.string ∧ l = xs.map fun x => x.data.toList.map (·.toNat)
 | [], _, _, .nil, e => by
  simp only [kW, aW] at e
  exact ⟨[], rfl, e.symm⟩
 | x :: c, _, _, .cons _ x' _ vs hx hs, e => by
  cases hx <;> try (simp [kW] at e; done)
  rename_i t bs hb
  simp only [kW, Option.map_eq_some_iff] at e
  obtain ⟨l0, e0, rfl⟩ := e
  obtain ⟨xs, rfl, rfl⟩ := aAz hs e0
  exact ⟨bs :: xs, rfl, by simp [hb]⟩
theorem aQd {w : World} {L : Loc} {i : Nat} {v : Value} (h : w.cell? (eN L i) = some v) : eN L i = ⟨L.bl, L.of + i, none⟩ := by
 unfold eN at *
 by_cases e : i = 0
 ·subst e
  simp only [if_true] at h ⊢
  cases hs : L.spot with
  | none => rfl
  | some s =>
   rw [hs] at h
   unfold World.cell? at h
   split at h <;> simp at h
 ·simp [e]
theorem rD (xs : List ByteArray) : (xs.map fun x => x.data.toList.map (·.toNat)) = (xs.map (·.data.toList)).map (·.map (·.toNat)) := by simp
theorem aYa (G : Gd) : oS CF.P G 30 kI := by
 intro args h v h1 hr ρ w args' H hargs
 unfold kI at hr
 split at hr <;> (try (cases hr; done))
 rename_i x sep hno
 split at hr <;> (try (cases hr; done))
 rename_i n cells hsrc
 split at hr <;> (try (cases hr; done))
 rename_i l hl
 cases hc : Nat.ble (aF sep l).length 100000000000 with
 | false => rw [hc] at hr; cases hr
 | true =>
 rw [hc] at hr
 cases hc2 : (Nat.ble n 100000000000 && aOq x) with
 | false => rw [hc2] at hr; cases hr
 | true =>
 rw [hc2] at hr
 have hc' := Nat.le_of_ble_eq_true hc
 rw [Bool.and_eq_true] at hc2
 obtain ⟨hc2, hcap⟩ := hc2
 have hn' := Nat.le_of_ble_eq_true hc2
 simp only [cond_true, aW, bR] at hr
 obtain ⟨rfl, rfl⟩ := hr
 obtain ⟨a⟩ := args'
 cases hargs with
 | cons _ x' l1 l1' hx hxs =>
 cases hxs with
 | cons y y' l2 l2' hy hys =>
 cases hys
 cases hy with
 | s _ bs hbs =>
 refine CallFn.of Tryz.f30 (by kernel_rfl) (by kernel_rfl) ?_
 have hnone : ∀ (a : Option Addr) (c : Nat), l = [] → Calls Tryz.prog 30 #[.slice a 0 c, .string bs] w (aSi G ρ w (.s (aF sep l)) h) := by
  intro a c e
  subst e
  refine (Tryz.strings_Join_none a c bs w).mono ?_
  rintro e w' ⟨rfl, rfl⟩
  exact ⟨ρ, _, rfl, Ex.refl _ _, .s _ _ rfl, H, Kp.refl _ _⟩
 unfold lP at hsrc
 cases hx with
 | l0 =>
  simp only [aW, bR] at hsrc
  obtain ⟨rfl, rfl⟩ := hsrc
  simp only [kW, aW] at hl
  exact hnone _ _ hl.symm
 | le a c =>
  simp only [aW, bR] at hsrc
  obtain ⟨rfl, rfl⟩ := hsrc
  simp only [kW, aW] at hl
  exact hnone _ _ hl.symm
 | l b o m cap L hL =>
  simp only at hsrc
  split at hsrc <;> (try (cases hsrc; done))
  rename_i cs hcs
  simp only [aW, bR] at hsrc
  obtain ⟨rfl, rfl⟩ := hsrc
  obtain ⟨e1, e2, e3, vs, e4, e5, e6⟩ := eR H hcs hL
  obtain ⟨xs, rfl, rfl⟩ := aAz e4 hl
  simp only [List.length_map, Nat.mul_one] at e5
  subst e5
  cases xs with
  | nil => exact hnone _ _ rfl
  | cons x0 xs0 =>
   have h0 := e6 0 (.string x0) rfl
   have ha : eN L o = ⟨L.bl, L.of + o, none⟩ := aQd h0
   rw [ha]
   have hsep := hbs
   refine (Tryz.strings_Join L.bl (L.of + o) (cap + L.sp) (x0 :: xs0) bs w ?_ (eI h0) (by omega) ?_ ?_).mono ?_
   ·intro j y hj
    have h5 := e6 j (.string y) (by rw [List.getElem?_map, hj]; rfl)
    rw [aQd h5] at h5
    rw [show L.of + o + j = L.of + (o + j) by omega]
    exact h5
   ·exact Nat.le_trans (Nat.le_of_ble_eq_true hcap) (Nat.le_add_right _ _)
   ·have := hc'
    rw [← hbs, rD, qH, List.length_map] at this
    omega
   ·rintro e w' ⟨rfl, hbel⟩
    refine ⟨ρ, _, rfl, Ex.refl _ _, .s _ _ ?_, H.later hbel, Kp.later H hbel⟩
    rw [← hbs, rD, qH]
 | u => simp at hsrc
 | s => exact (hno _ rfl).elim
 | _ => simp at hsrc
theorem rE : ∀ (f n : Nat) (acc : List Nat), n < 10 ^ f → 0 < f → fK f n acc = (Lib.decDigits n).map (·.toNat) ++ acc
 | 0, n, acc, h, h0 => by omega
 | f + 1, n, acc, h, _ => by
  have hd : ∀ d, d < 10 → (UInt8.ofNat (48 + d)).toNat = 48 + d := fun d hd => by simp; omega
  unfold fK
  rw [Lib.decDigits]
  cases e : Nat.ble 10 n with
  | false =>
   have hn : n < 10 := by
    rcases Nat.lt_or_ge n 10 with h | h
    ·exact h
    ·rw [Nat.ble_eq_true_of_le h] at e; cases e
   simp only [cond_false]
   rw [dif_pos hn]
   show (48 + n) :: acc = _
   simp [hd n hn]
   omega
  | true =>
   have hn := Nat.le_of_ble_eq_true e
   simp only [cond_true]
   rw [dif_neg (by omega)]
   have hf : 0 < f := by
    rcases Nat.eq_zero_or_pos f with h1 | h1
    ·subst h1; simp at h; omega
    ·exact h1
   show fK f (n / 10) ((48 + n % 10) :: acc) = _
   rw [rE f (n / 10) _ (by rw [Nat.pow_succ] at h; omega) hf]
   simp [hd (n % 10) (by omega)]
   omega
theorem aOb (n : Int) (h0 : -9223372036854775808 ≤ n) (h1 : n ≤ 9223372036854775807) : iV n = (Lib.itoa n).map (·.toNat) := by
 unfold Lib.itoa iV
 cases n with
 | ofNat n =>
  rw [if_neg (by simp)]
  simp only
  rw [rE 20 n [] (by simp at h1; omega) (by omega)]
  simp
 | negSucc n =>
  rw [if_pos (by omega)]
  simp only
  rw [rE 20 _ [] (by show n + 1 < _; omega) (by omega)]
  simp
theorem aXd (G : Gd) : oS CF.P G 34 vB := by
 intro args h v h1 hr ρ w args' H hargs
 unfold vB at hr
 split at hr <;> (try (cases hr; done))
 rename_i n
 cases hc : (decide (-9223372036854775808 ≤ n) && decide (n ≤ 9223372036854775807)) with
 | false => rw [hc] at hr; cases hr
 | true =>
 rw [hc] at hr
 simp only [Bool.and_eq_true, decide_eq_true_eq] at hc
 simp only [cond_true, aW, bR] at hr
 obtain ⟨rfl, rfl⟩ := hr
 obtain ⟨a⟩ := args'
 cases hargs with
 | cons _ x' l1 l1' hx hxs =>
 cases hxs
 cases hx
 refine CallFn.of Tryz.f34 (by kernel_rfl) (by kernel_rfl) ?_
 have F := G.ok w H.gl
 have htab : Lib.TabIs Tryz.prog w "internal/strconv.uint64pow10" .u64 Lib.pow10Tab := by
  obtain ⟨_, t, z, ht⟩ := F
  have hg : Tryz.prog.globalNamed "internal/strconv.uint64pow10" = some 1 := by kernel_rfl
  unfold Lib.TabIs World.var?
  rw [hg]
  simp only [Option.bind_some, ht]
 refine (Tryz.strconv_Itoa n hc.1 hc.2 w htab).mono ?_
 rintro e w' ⟨rfl, k, os, rfl⟩
 have hbel : Below w.heap.size w (Sort.grow (w.drewN k) os) := ⟨rfl, rfl, rfl, by simp [Sort.grow, World.drewN], fun i hi => by
  show (w.heap ++ os)[i]? = _
  rw [Array.getElem?_append_left hi]⟩
 exact ⟨ρ, _, rfl, Ex.refl _ _, .s _ _ (aOb n hc.1 hc.2).symm, H.later hbel, Kp.later H hbel⟩
end Go.Dd

namespace Go.Dd
open Go.Proofs Go.Lib Go.RowKit
theorem aSp (b c : UInt8) : Nat.beq b.toNat c.toNat = (b == c) := by
 rw [Bool.eq_iff_iff]
 constructor
 ·intro h
  have := Nat.eq_of_beq_eq_true h
  simpa using UInt8.toNat_inj.1 this
 ·intro h
  have h2 : b = c := by simpa using h
  rw [h2]; simp
theorem aQt {bs : ByteArray} {c : Nat} (h : bs.data.toList.map (·.toNat) = [c]) : ∃ u : UInt8, bs = ⟨#[u]⟩ ∧ u.toNat = c := by
 obtain ⟨⟨l⟩⟩ := bs
 match l, h with
 | [u], h => exact ⟨u, rfl, by simpa using h⟩
def lU (c : UInt8) (new : List UInt8) : List UInt8 → List UInt8
 | [] => []
 | x :: l => if x = c then new ++ lU c new l else x :: lU c new l
theorem zE {b c : UInt8} {l : List UInt8} (h : b ≠ c) {i : Nat} (hi : index l [c] = i) : index (b :: l) [c] = ((i + 1 : Nat) : Int) := by
 have hp : ([c] : List UInt8).isPrefixOf (b :: l) = false := by simp [List.isPrefixOf, Ne.symm h]
 rw [index, hp, hi]
 simp
theorem aAd {c : UInt8} {l : List UInt8} : index (c :: l) [c] = ((0 : Nat) : Int) := by
 rw [index]; simp [List.isPrefixOf]
theorem aBw (c : UInt8) (new : List UInt8) : ∀ s : List UInt8, replaceK [c] new (count s [c]) s = lU c new s
 | [] => by rw [count_one]; rfl
 | b :: l => by
  have ih := aBw c new l
  by_cases h : b = c
  ·subst h
   rw [count_cons_eq, Nat.add_comm, replaceK_hit _ _ _ _ 0 aAd]
   simp [lU, ih]
  ·rw [count_cons_ne _ _ _ h]
   simp only [lU, if_neg h]
   cases hk : count l [c] with
   | zero =>
    rw [hk] at ih
    simp only [replaceK] at ih ⊢
    rw [← ih]
   | succ k =>
    rw [hk] at ih
    obtain ⟨i, hi⟩ := index_of_count (s := l) (old := [c]) (by omega)
    rw [replaceK_hit _ _ _ _ i hi] at ih
    rw [replaceK_hit _ _ _ _ (i + 1) (zE h hi), ← ih]
    simp [Nat.add_right_comm]
theorem sL (c : UInt8) : ∀ s : List UInt8, lU c [c] s = s
 | [] => rfl
 | x :: l => by
  simp only [lU, sL c l]
  split
  ·rename_i h; subst h; rfl
  ·rfl
theorem aRy (s : List UInt8) (c : UInt8) (new : List UInt8) : replaceAll s [c] new = lU c new s := by
 unfold replaceAll replace
 split
 ·rename_i h
  have : [c] = new := by simpa using h
  subst this
  rw [sL]
 ·unfold replaceNum
  rw [if_pos (.inl (by decide))]
  exact aBw c new s
theorem aBq (c : UInt8) (new : List UInt8) : ∀ s : List UInt8, cS c.toNat (new.map (·.toNat)) (s.map (·.toNat)) = (lU c new s).map (·.toNat)
 | [] => rfl
 | x :: l => by
  simp only [List.map_cons, cS, lU, aBq c new l, aSp]
  by_cases h : x = c
  ·subst h; simp
  ·rw [if_neg h, show (x == c) = false by simpa using h]; simp
theorem aXj (G : Gd) : oS CF.P G 60 uZ := by
 intro args h v h1 hr ρ w args' H hargs
 unfold uZ at hr
 split at hr <;> (try (cases hr; done))
 rename_i s c new
 cases hc : Nat.blt c 256 with
 | false => rw [hc] at hr; cases hr
 | true =>
 rw [hc] at hr
 cases hc2 : Nat.ble s.length 4000000000 with
 | false => rw [hc2] at hr; cases hr
 | true =>
 rw [hc2] at hr
 cases hc3 : Nat.ble new.length 1000 with
 | false => rw [hc3] at hr; cases hr
 | true =>
 rw [hc3] at hr
 have hs' := Nat.le_of_ble_eq_true hc2
 have hn' := Nat.le_of_ble_eq_true hc3
 simp only [cond_true, aW, bR] at hr
 obtain ⟨rfl, rfl⟩ := hr
 obtain ⟨a⟩ := args'
 cases hargs with
 | cons _ x' l1 l1' hx hxs =>
 cases hxs with
 | cons _ y' l2 l2' hy hys =>
 cases hys with
 | cons _ z' l3 l3' hz hzs =>
 cases hzs
 cases hx with
 | s _ bs hbs =>
 cases hy with
 | s _ bc hbc =>
 cases hz with
 | s _ bn hbn =>
 obtain ⟨u, rfl, rfl⟩ := aQt hbc
 subst hbs hbn
 have e1 : bs.size ≤ 4000000000 := by rw [List.length_map, Array.length_toList] at hs'; exact hs'
 have e2 : bn.size ≤ 1000 := by rw [List.length_map, Array.length_toList] at hn'; exact hn'
 refine CallFn.of Tryz.f60 (by kernel_rfl) (by kernel_rfl) ?_
 obtain ⟨⟨m, hm⟩, _⟩ := G.ok w H.gl
 have hcnt : countB bs ⟨#[u]⟩ ≤ bs.size := countB_le _ (by simp [ByteArray.size]) _ _ (Nat.le_refl _)
 have hmul : countB bs ⟨#[u]⟩ * bn.size ≤ 4000000000 * 1000 := Nat.mul_le_mul (by omega) e2
 refine (Tryz.strings_ReplaceAll bs ⟨#[u]⟩ bn m w (by omega) hm (by simp [ByteArray.size]) (by omega)).mono ?_
 rintro e w' ⟨rfl, hbel⟩
 refine ⟨ρ, _, rfl, Ex.refl _ _, .s _ _ ?_, H.later hbel, Kp.later H hbel⟩
 rw [aBq, ← aRy]
def fP (acc : List UInt8) : List (List UInt8) → List (List UInt8)
 | [] => []
 | p :: ps => (acc ++ p) :: ps
theorem oR (c : UInt8) : ∀ (s acc : List UInt8), cH c.toNat (acc.map (·.toNat)) (s.map (·.toNat)) = (fP acc (splitK [c] 1 (count s [c]) s)).map (·.map (·.toNat))
 | [], acc => by rw [count_one]; simp [cH, splitK, fP]
 | b :: l, acc => by
  simp only [List.map_cons, cH, aSp]
  by_cases h : b = c
  ·subst h
   have ih := oR b l []
   rw [count_cons_eq, Nat.add_comm]
   simp only [splitK, aAd]
   simp only [List.map_nil] at ih
   rw [show (b == b) = true by simp, cond_true, ih]
   have hd : fP [] (splitK [b] 1 (count l [b]) l) = splitK [b] 1 (count l [b]) l := by cases splitK [b] 1 (count l [b]) l <;> simp [fP]
   rw [hd]
   simp [fP]
  ·have ih := oR c l (acc ++ [b])
   rw [show (b == c) = false by simpa using h, cond_false, count_cons_ne _ _ _ h]
   simp only [List.map_append, List.map_cons, List.map_nil] at ih
   rw [ih]
   cases hk : count l [c] with
   | zero => simp [splitK, fP]
   | succ k =>
    obtain ⟨i, hi⟩ := index_of_count (s := l) (old := [c]) (by omega)
    have hi2 := zE h hi
    simp only [splitK, hi, hi2]
    rw [if_neg (by first | (simp; done) | (simp; omega)), if_neg (by first | (simp; done) | (simp; omega))]
    simp [fP]
theorem aTd (G : Gd) : oS CF.P G 86 nW := by
 intro args h v h1 hr ρ w args' H hargs
 unfold nW at hr
 split at hr <;> (try (cases hr; done))
 rename_i s c
 cases hc : Nat.blt c 256 with
 | false => rw [hc] at hr; cases hr
 | true =>
 rw [hc] at hr
 cases hc2 : Nat.ble s.length 4000000000 with
 | false => rw [hc2] at hr; cases hr
 | true =>
 rw [hc2] at hr
 have hs' := Nat.le_of_ble_eq_true hc2
 simp only [cond_true, aW, bR] at hr
 obtain ⟨rfl, rfl⟩ := hr
 obtain ⟨a⟩ := args'
 cases hargs with
 | cons _ x' l1 l1' hx hxs =>
 cases hxs with
 | cons _ y' l2 l2' hy hys =>
 cases hys with
 | cons _ z' l3 l3' hz hzs =>
 cases hzs with
 | cons _ z4 l4 l4' hz4 hzs4 =>
 cases hzs4
 cases hz
 cases hz4
 cases hx with
 | s _ bs hbs =>
 cases hy with
 | s _ bc hbc =>
 obtain ⟨u, rfl, rfl⟩ := aQt hbc
 subst hbs
 have e1 : bs.size ≤ 4000000000 := by rw [List.length_map, Array.length_toList] at hs'; exact hs'
 have hsz : (⟨#[u]⟩ : ByteArray).size = 1 := rfl
 have hcnt : countB bs ⟨#[u]⟩ ≤ bs.size := countB_le _ (by omega) _ _ (Nat.le_refl _)
 have hp : cH u.toNat [] (bs.data.toList.map (·.toNat)) = ((splitB ⟨#[u]⟩ 1 (countB bs ⟨#[u]⟩) bs).map (·.data.toList)).map (·.map (·.toNat)) := by
  have := oR u bs.data.toList []
  simp only [List.map_nil] at this
  rw [this, splitB_data]
  show (fP [] (splitK [u] 1 (count bs.data.toList [u]) bs.data.toList)).map _ = (splitK [u] 1 (count bs.data.toList [u]) bs.data.toList).map _
  cases splitK [u] 1 (count bs.data.toList [u]) bs.data.toList <;> simp [fP]
 have hlen := splitB_all ⟨#[u]⟩ (by omega) 1 _ bs rfl
 refine CallFn.of Tryz.f86 (by kernel_rfl) (by kernel_rfl) ?_
 obtain ⟨⟨m, hm⟩, _⟩ := G.ok w H.gl
 have hN : ((countB bs ⟨#[u]⟩ + 1 : Nat) : Int) = min (if (Int.negSucc 0) < 0 then (countB bs ⟨#[u]⟩ : Int) + 1 else Int.negSucc 0) ((bs.size : Int) + 1) := by
  rw [if_pos (by decide)]
  omega
 refine (Tryz.strings_genSplit bs ⟨#[u]⟩ 1 (Int.negSucc 0) (countB bs ⟨#[u]⟩ + 1) m w (by omega) hm (by omega) (by omega) (by decide) (by decide) hN).mono ?_
 rintro e w' ⟨rfl, rfl⟩
 simp only [Nat.add_sub_cancel] at *
 generalize hps : splitB ⟨#[u]⟩ 1 (countB bs ⟨#[u]⟩) bs = ps at *
 rw [hp]
 have hcell : cellsOf ps (countB bs ⟨#[u]⟩ + 1) = (ps.map Value.string).toArray := by rw [← hlen]; exact cellsOf_full ps
 rw [hcell]
 have hvs : ∀ qs : List ByteArray, VRs ρ (((qs.map (·.data.toList)).map (·.map (·.toNat))).map DV.s) (qs.map Value.string) := by
  intro qs
  induction qs with
  | nil => exact .nil
  | cons q qs ih => exact .cons _ _ _ _ (.s _ _ rfl) ih
 have H2 := H.newRow .ex _ (ps.map Value.string) (ps.map Value.string).toArray 9 0 (hvs ps) (fun i v hv => by simpa using hv) (.inl ⟨rfl, rfl⟩)
 refine ⟨_, _, rfl, H.exx ⟨w.heap.size, 0, 0, none⟩, ?_, H2, fM H.sz _⟩
 have := VR.l (ρ := lT ρ h.next ⟨w.heap.size, 0, 0, none⟩) h.next 0 ps.length ps.length ⟨w.heap.size, 0, 0, none⟩ (bL _ _ _)
 simpa [eN, hlen] using this
end Go.Dd

namespace Go.Dd
open Go.Proofs Go.Lib Go.RowKit
theorem zU (c : Nat) (hc : c < 256) : ∀ (l : List UInt8) (i : Nat), cO c (l.map (·.toNat)) i = if indexByte l c.toUInt8 = -1 then -1 else indexByte l c.toUInt8 + i
 | [], i => rfl
 | b :: l, i => by
  have hb : Nat.beq b.toNat c = (b == c.toUInt8) := by
   rw [Bool.eq_iff_iff]
   constructor
   ·intro h
    have := Nat.eq_of_beq_eq_true h
    simp [← this]
   ·intro h
    have h2 : b = c.toUInt8 := by simpa using h
    rw [h2]
    have : (c.toUInt8).toNat = c := by simp [Nat.toUInt8]; omega
    rw [this]; simp
  show (bif Nat.beq b.toNat c then Int.ofNat i else cO c (l.map (·.toNat)) (i + 1)) = _
  rw [hb]
  unfold indexByte
  cases h : (b == c.toUInt8) with
  | true => simp
  | false =>
   have ih := zU c hc l (i + 1)
   have hge := indexByte_ge l c.toUInt8
   simp only [cond_false, Bool.false_eq_true, if_false]
   rw [ih]
   by_cases h1 : indexByte l c.toUInt8 = -1
   ·simp [h1]
   ·simp only [h1, if_false, beq_iff_eq]
    rw [if_neg (by omega)]
    omega
theorem bDr (G : Gd) : oS CF.P G 117 aIr := by
 intro args h v h1 hr ρ w args' H hargs
 unfold aIr at hr
 split at hr <;> (try (cases hr; done))
 rename_i l c
 cases hc : Nat.blt c 256 with
 | false => rw [hc] at hr; cases hr
 | true =>
  rw [hc] at hr
  have hc' : c < 256 := by simpa using hc
  simp only [cond_true, aW, bR] at hr
  obtain ⟨rfl, rfl⟩ := hr
  obtain ⟨a⟩ := args'
  cases hargs with
  | cons x x' l1 l1' hx hxs =>
  cases hxs with
  | cons y y' l2 l2' hy hys =>
  cases hys
  cases hx with
  | s l bs hbs =>
  cases hy with
  | i k n =>
  refine .inr ⟨ρ, w, .int .i64 (indexByte bs.data.toList c.toUInt8), ?_, Ex.refl _ _, ?_, H, Kp.refl _ _⟩
  ·rw [run_callFunc_extern (fn := Tryz.f117) (e := Extern.BytealgIndexByte.indexByte) (by kernel_rfl) (by kernel_rfl) (by kernel_rfl) (by kernel_rfl) (by kernel_rfl)]
   rw [run_indexByteString bs (Int.ofNat c) w]
   rfl
  ·have e := zU c hc' bs.data.toList 0
   rw [hbs] at e
   have e2 : cO c l 0 = indexByte bs.data.toList c.toUInt8 := by
    rw [e]
    split
    ·rename_i h; exact h.symm
    ·simp
   rw [e2]
   exact .i _ _
theorem aDu (G : Gd) (g : FuncId) (F : List DV → Hp → aG) (h : CF.I g = some F) : oS CF.P G g F := by
 have e : CF.I g = bif Nat.beq g 117 then some aIr else bif Nat.beq g 30 then some kI else bif Nat.beq g 86 then some nW else bif Nat.beq g 60 then some uZ else bif Nat.beq g 34 then some vB else none := rfl
 rw [e] at h
 cases hg : Nat.beq g 117 with
 | true => rw [hg] at h; cases h; cases Nat.eq_of_beq_eq_true hg; exact bDr G
 | false =>
 rw [hg, cond_false] at h
 cases hg : Nat.beq g 30 with
 | true => rw [hg] at h; cases h; cases Nat.eq_of_beq_eq_true hg; exact aYa G
 | false =>
 rw [hg, cond_false] at h
 cases hg : Nat.beq g 86 with
 | true => rw [hg] at h; cases h; cases Nat.eq_of_beq_eq_true hg; exact aTd G
 | false =>
 rw [hg, cond_false] at h
 cases hg : Nat.beq g 60 with
 | true => rw [hg] at h; cases h; cases Nat.eq_of_beq_eq_true hg; exact aXj G
 | false =>
 rw [hg, cond_false] at h
 cases hg : Nat.beq g 34 with
 | true => rw [hg] at h; cases h; cases Nat.eq_of_beq_eq_true hg; exact aXd G
 | false => rw [hg] at h; cases h
def bEa (w : World) (F : Facts w) : Gd := ⟨w.heap.size, fun _ => False, 0, w.heap, fun w' h => F.keep fun k hk => h k (Nat.lt_of_lt_of_le hk F.two)⟩
def h00 : Hp := ⟨.h, .e⟩
theorem top {n : Nat} {f : FuncId} {args : List DV} {v : DV} {h1 : Hp} (hr : aL n f args h00 = some (v, h1)) (fn : Func) (hf : Tryz.prog.funcs[f]? = some fn) (hb : fn.body.isSome = true)
 (w : World) (F : Facts w) (args' : Array Value) (hargs : VRs (fun _ => none) args args'.toList) :
 Calls Tryz.prog f args' w fun e w' => ∃ ρ' v', e = .returned v' ∧ VR ρ' v v' ∧ HR (bEa w F) ρ' h1 w' ∧ Below w.heap.size w w' := by
 rw [aDc] at hr
 have H : HR (bEa w F) (fun _ => none) h00 w := by
  constructor
  ·exact fun _ _ => rfl
  ·exact ⟨Nat.le_refl _, fun _ h => h.elim⟩
  ·exact Nat.zero_le _
  ·rintro b a ⟨k, l, L, _, h2, _⟩; cases h2
  ·intro b o h; cases b <;> cases h
  ·intro b L h; cases h
  ·intro b k l L i v h h2; cases h2
  ·intro b l L es j h h2; cases h2
  ·rintro b a ⟨k, l, L, _, h2, _⟩; cases h2
  ·rintro b b' a ⟨k, l, L, _, h2, _⟩; cases h2
  ·intro b l L h h2; cases h2
  ·intro b es l i v h; cases b <;> cases h
  ·intro b s pos L h h2; cases h2
  ·intro b s pos b' s' pos' L L' h h' h2; cases h2
 rcases aCh (C := CF) Try_ok aDu n _ f args h00 v h1 hr _ w args' H hargs with ⟨_, h⟩ | ⟨ρ', w', v', h, _⟩
 ·refine h.mono ?_
  rintro e w' ⟨ρ', v', h1, h2, h3, h4, h5⟩
  exact ⟨ρ', v', h1, h3, h4, h5.low⟩
 ·exfalso
  have hf' : CF.P.funcs[f]? = some fn := hf
  have hn : ¬ fn.name = "runtime.NumGoroutine" := by simpa using Try_ok.names f fn hf'
  have hbn : fn.body ≠ none := by intro e; rw [e] at hb; cases hb
  unfold callFunc at h
  simp [hf', hn, hbn] at h
end Go.Dd

namespace Go.Dd
noncomputable def val (r : aG) : DV := Option.rec (motive := fun _ => DV) .u (fun p => p.1) r
theorem bLn {r : aG} {b : Bool} (h : val r = .b b) : ∃ h1, r = some (.b b, h1) := by
 cases r with
 | none => cases h
 | some p =>
  obtain ⟨v, h1⟩ := p
  have : v = .b b := h
  exact ⟨h1, by rw [this]⟩
end Go.Dd

namespace Go.Dd
open Go.Proofs
def Wf (h : Hp) : Prop := ∀ b o, h.bl.get b = some o → b.toNat < h.next.toNat
noncomputable def nw (o : Ob) (h : Hp) : Hp := ⟨h.next.succ, Tr.set o h.next h.bl⟩
theorem bEw (h : Hp) (o : Ob) : (nw o h).bl.get h.next = some o := bOn o _ _
theorem bLb (cs : List DV) (h : Hp) : cG cs h = some (.p h.next 0, nw (.row .ex cs) h) := rfl
theorem aKh (x y : List Nat) (h : Hp) : gF .eql (.s x) (.s y) h = some (.b (sT x y), h) := rfl
theorem bFx (x y : List Nat) (h : Hp) : gF .neq (.s x) (.s y) h = some (.b (!sT x y), h) := rfl
theorem gE (n : Int) (h1 : -9223372036854775808 ≤ n) (h2 : n ≤ 9223372036854775807) : IntKind.i64.wrap n = n := by
 unfold IntKind.wrap
 simp [IntKind.bits, IntKind.signed, IntKind.min, IntKind.max]
 omega
theorem ld1 {h : Hp} {b : Pos} {k : Kind} {l : List DV} {o : Nat} {v : DV} (e : h.bl.get b = some (.row k l)) (ho : l[o]? = some v) (hv : v.one = true) : aB (.p b o) h = some (v, h) := by
 simp [aB, aAc, kJ, e, ho, hv]
theorem ldA {h : Hp} {b : Pos} {k : Kind} {l : List DV} {o n : Nat} {cs : List DV} (e : h.bl.get b = some (.row k l)) (ho : hZ n (l.drop o) = some cs) : aE n (.p b o) h = some (.a cs, h) := by
 simp [aE, dR, kJ, e, ho]
theorem jJ {α : Type} {l : List α} {i : Nat} {x : α} (hi : l[i]? = some x) : l.drop i = x :: l.drop (i + 1) := by
 obtain ⟨h1, h2⟩ := List.getElem?_eq_some_iff.1 hi
 rw [← h2]
 exact List.drop_eq_getElem_cons h1
theorem aEw (x y : List Nat) : sT x y = decide (x = y) := by
 rw [Bool.eq_iff_iff, iU]; simp
end Go.Dd

namespace Go.Dd
open Go.Proofs
theorem zJ : ∀ (l vs : List DV), l.length = vs.length → (∀ v ∈ l, v.one = true) → (∀ v ∈ vs, v.one = true) → oL l vs = some vs
 | [], [], _, _, _ => rfl
 | x :: l, v :: vs, h, h1, h2 => by
  have := zJ l vs (by simpa using h) (fun y hy => h1 y (by simp [hy])) (fun y hy => h2 y (by simp [hy]))
  simp [oL, this, h1 x (by simp), h2 v (by simp)]
 | [], _ :: _, h, _, _ => by simp at h
 | _ :: _, [], h, _, _ => by simp at h
theorem vC : ∀ (x : List DV), (∀ v ∈ x, v.one = true) → hZ x.length x = some x
 | [], _ => rfl
 | v :: x, h => by simp [hZ, h v (by simp), vC x (fun y hy => h y (by simp [hy]))]
end Go.Dd

namespace Go.Dd
open Go.Proofs
end Go.Dd

namespace Go.Dd
open Go.Proofs
end Go.Dd

namespace Go.Dd
open Go.Proofs
end Go.Dd

namespace Go.Dd
open Go.Proofs
end Go.Dd

namespace Go.Dd
open Go.Proofs
end Go.Dd

namespace Go.Dd
open Go.Proofs Go.RowKit
theorem aIm {n : Nat} {f : FuncId} {r : Bool} {h1 : Hp} (hr : aL n f [] h00 = some (.b r, h1)) (fn : Func) (hf : Tryz.prog.funcs[f]? = some fn) (hb : fn.body.isSome = true) (G : Gd) :
 oS CF.P G f (fun args h => match args with
  | [] => some (.b r, h)
  | _ => none) := by
 intro args h v h2 he ρ w args' H hargs
 cases args with
 | cons _ _ => cases he
 | nil =>
  simp only [aW, bR] at he
  obtain ⟨rfl, rfl⟩ := he
  have e0 : args' = #[] := by
   obtain ⟨a⟩ := args'
   cases hargs
   rfl
  subst e0
  refine .inl ⟨?_, ?_⟩
  ·have hf' : CF.P.funcs[f]? = some fn := hf
   have hn : ¬ fn.name = "runtime.NumGoroutine" := by simpa using Try_ok.names f fn hf'
   have hbn : fn.body ≠ none := by intro e; rw [e] at hb; cases hb
   unfold callFunc
   simp [hf', hn, hbn]
  ·refine (top hr fn hf hb w (G.ok w H.gl) #[] .nil).mono ?_
   rintro e w' ⟨ρ', v', rfl, hv, _, hbel⟩
   cases hv
   exact ⟨ρ, _, rfl, Ex.refl _ _, .b _, H.later hbel, Kp.later H hbel⟩
noncomputable def qP (l : FuncId) (r : Bool) (n : Nat) : FuncId → List DV → Hp → aG := fun g =>
 bif Nat.beq g l then (fun args h => match args with
  | [] => some (.b r, h)
  | _ => none) else aL n g
theorem aXa {n m : Nat} {f : FuncId} {r : Bool} {h1 : Hp} (hr : aL m f [] h00 = some (.b r, h1)) (fn : Func) (hf : Tryz.prog.funcs[f]? = some fn) (hb : fn.body.isSome = true) : OkC CF (qP f r n) := by
 refine ⟨aDu, fun G g => ?_⟩
 unfold qP
 cases hg : Nat.beq g f with
 | true =>
  cases Nat.eq_of_beq_eq_true hg
  exact aIm hr fn hf hb G
 | false =>
  show oS CF.P G g (aL n g)
  rw [aDc]
  exact aCh Try_ok aDu n G g
theorem aIw (l : FuncId) (r : Bool) (n : Nat) (h : Hp) : qP l r n l [] h = some (.b r, h) := by
 unfold qP
 rw [show Nat.beq l l = true from by simp]
 rfl
theorem mC {l g : FuncId} (r : Bool) (n : Nat) (e : Nat.beq g l = false) : qP l r n g = aL n g := by
 unfold qP
 rw [e]
 rfl
end Go.Dd

namespace Go.Dd
open Go.Proofs Go.RowKit
structure Ro (w : World) (ρ : Ren) (h : Hp) : Prop where
 dom : ∀ b o, h.bl.get b = some o → ∃ L, ρ b = some L
 lt : ∀ b L, ρ b = some L → b.toNat < h.next.toNat
 row : ∀ b o, h.bl.get b = some o → ∃ l, o = .row .ro l
 cell : ∀ b l L i v, h.bl.get b = some (.row .ro l) → ρ b = some L → l[i]? = some v → ∃ v', w.cell? (eN L i) = some v' ∧ VR ρ v v'
 sp : ∀ b o L, h.bl.get b = some o → ρ b = some L → L.sp = 0
theorem Ro.isRo {w : World} {ρ : Ren} {h : Hp} (R : Ro w ρ h) {b : Pos} {a : Addr} (c : Claims ρ h b a) : isRo h b := by
 obtain ⟨k, l, L, h1, h2, _⟩ := c
 obtain ⟨l', e⟩ := R.row b _ h1
 exact ⟨l', by rw [h1, e]⟩
theorem Ro.hr {w : World} {ρ : Ren} {h : Hp} (R : Ro w ρ h) (F : Facts w) : HR (bEa w F) ρ h w where
 gl := fun _ _ => rfl
 sz := ⟨Nat.le_refl _, fun _ hh => hh.elim⟩
 nx := Nat.zero_le _
 ro := fun b a c _ => by
  obtain ⟨k, l, L, h1, h2, h3⟩ := c
  obtain ⟨l', e⟩ := R.row b _ h1
  cases e
  rcases h3 with ⟨i, v, h4, h5, rfl⟩ | ⟨es, j, h4, _⟩
  ·obtain ⟨v', h6, _⟩ := R.cell b _ L i v h1 h2 h4
   exact eI h6
  ·cases h4
 dom := R.dom
 lt := R.lt
 cell := fun b k l L i v h1 h2 h3 h4 => by
  obtain ⟨l', e⟩ := R.row b _ h1
  cases e
  exact R.cell b _ L i v h1 h2 h3
 spare := fun b l L es j h1 => by
  obtain ⟨l', e⟩ := R.row b _ h1
  cases e
 free := fun b a c hn => absurd (R.isRo c) hn
 inj := fun b b' a c c' hn => absurd (R.isRo c) hn
 ex := fun b l L h1 h2 => by
  rcases h1 with h1 | h1
  ·exact R.sp b _ L h1 h2
  ·exact R.sp b _ L h1 h2
 grone := fun b es l i v h1 => by
  obtain ⟨l', e⟩ := R.row b _ h1
  cases e
 itr := fun b s pos L h1 => by
  obtain ⟨l', e⟩ := R.row b _ h1
  cases e
 itj := fun b s pos b' s' pos' L L' h1 => by
  obtain ⟨l', e⟩ := R.row b _ h1
  cases e
theorem Ro.none (w : World) : Ro w (fun _ => none) h00 where
 dom := fun b o h => by cases b <;> cases h
 lt := fun b L h => by cases h
 row := fun b o h => by cases b <;> cases h
 cell := fun b l L i v h => by cases b <;> cases h
 sp := fun b o L h => by cases b <;> cases h
section
variable {H : Type} {enc : TypeId × Value → H} {w : World}
end
end Go.Dd

namespace Go.Dd
theorem aWn : ∃ h1, aL 900 10 [] h00 = some (.b true, h1) := bLn (by kernel_rfl)
end Go.Dd

namespace Go.Dd
open Go.Proofs
def Ev (F : Nat → aG) (P : DV → Hp → Prop) : Prop := ∃ v h N, P v h ∧ ∀ n, N ≤ n → F n = some (v, h)
theorem bOo {v : DV} {h : Hp} {P : DV → Hp → Prop} (H : P v h) : Ev (fun _ => some (v, h)) P := ⟨v, h, 0, H, fun _ _ => rfl⟩
theorem Ev.mono {F : Nat → aG} {P Q : DV → Hp → Prop} (H : Ev F P) (k : ∀ v h, P v h → Q v h) : Ev F Q := by
 obtain ⟨v, h, N, a, b⟩ := H
 exact ⟨v, h, N, k v h a, b⟩
theorem Ev.op {r : aG} {v : DV} {h : Hp} {k : Nat → DV → Hp → aG} {P : DV → Hp → Prop} (e : r = some (v, h)) (H : Ev (fun n => k n v h) P) : Ev (fun n => bnd r (k n)) P := by
 rw [e]; exact H
theorem bOm {F : Nat → aG} {Q P : DV → Hp → Prop} {k : Nat → DV → Hp → aG} (H : Ev F Q) (K : ∀ v h, Q v h → Ev (fun n => k n v h) P) : Ev (fun n => bnd (F n) (k n)) P := by
 obtain ⟨v, h, N, a, b⟩ := H
 obtain ⟨v', h', N', a', b'⟩ := K v h a
 refine ⟨v', h', max N N', a', fun n hn => ?_⟩
 show Dd.bnd (F n) (k n) = _
 rw [b n (by omega)]
 exact b' n (by omega)
theorem Ev.enter {G : Nat → aG} {F : Nat → aG} {P : DV → Hp → Prop} (e : ∀ n, F (n + 1) = G n) (H : Ev G P) : Ev F P := by
 obtain ⟨v, h, N, a, b⟩ := H
 refine ⟨v, h, N + 1, a, fun n hn => ?_⟩
 obtain ⟨n, rfl⟩ : ∃ m, n = m + 1 := ⟨n - 1, by omega⟩
 rw [e]
 exact b n (by omega)
theorem bOv (j : Nat) {ll bb : Nat → Nat → aG} {P : DV → Hp → Prop} (e : ∀ n m, ll n (m + 1) = bb n m) (H : Ev (fun n => bb n (n - (j + 1))) P) : Ev (fun n => ll n (n - j)) P := by
 obtain ⟨v, h, N, a, b⟩ := H
 refine ⟨v, h, N + j + 1, a, fun n hn => ?_⟩
 have : n - j = (n - (j + 1)) + 1 := by omega
 show ll n (n - j) = _
 rw [this, e]
 exact b n (by omega)
theorem bQa {F G : Nat → aG} {P : DV → Hp → Prop} (H : Ev F P) : Ev (fun n => cE (.b true) (F n) (G n)) P := H
theorem bPk {F G : Nat → aG} {P : DV → Hp → Prop} (H : Ev G P) : Ev (fun n => cE (.b false) (F n) (G n)) P := H
theorem bPg {b : Bool} {F : Nat → aG} {P : DV → Hp → Prop} (e : b = true) (H : Ev F P) : Ev (fun n => cnd b (F n)) P := by
 subst e; exact H
section
variable {k : Nat → DV → Hp → aG} {P : DV → Hp → Prop} {h : Hp} {q : IntKind} {x y : Int} {s t : List Nat}
theorem gR (o : BinOp) (z : DV) (e : aDj o q x y = some z) : aP o (.i q x) (.i q y) h = some (z, h) := by simp [aP, e]
theorem bOr (H : x = y → Ev (fun n => k n (.b true) h) P) (H' : x ≠ y → Ev (fun n => k n (.b false) h) P) : Ev (fun n => bnd (aP .eql (.i q x) (.i q y) h) (k n)) P := by
 refine Ev.op (gR .eql (.b (x == y)) rfl) ?_
 by_cases e : x = y
 ·rw [show (x == y) = true by simpa using e]; exact H e
 ·rw [show (x == y) = false by simpa using e]; exact H' e
theorem bPq (H : x ≠ y → Ev (fun n => k n (.b true) h) P) (H' : x = y → Ev (fun n => k n (.b false) h) P) : Ev (fun n => bnd (aP .neq (.i q x) (.i q y) h) (k n)) P := by
 refine Ev.op (gR .neq (.b (x != y)) rfl) ?_
 by_cases e : x = y
 ·rw [show (x != y) = false by simpa using e]; exact H' e
 ·rw [show (x != y) = true by simpa using e]; exact H e
theorem bPr (H : x < y → Ev (fun n => k n (.b true) h) P) (H' : ¬ x < y → Ev (fun n => k n (.b false) h) P) : Ev (fun n => bnd (aP .lss (.i q x) (.i q y) h) (k n)) P := by
 refine Ev.op (gR .lss (.b (decide (x < y))) rfl) ?_
 by_cases e : x < y
 ·rw [decide_eq_true e]; exact H e
 ·rw [decide_eq_false e]; exact H' e
theorem bQm (H : x ≤ y → Ev (fun n => k n (.b true) h) P) (H' : ¬ x ≤ y → Ev (fun n => k n (.b false) h) P) : Ev (fun n => bnd (aP .leq (.i q x) (.i q y) h) (k n)) P := by
 refine Ev.op (gR .leq (.b (decide (x ≤ y))) rfl) ?_
 by_cases e : x ≤ y
 ·rw [decide_eq_true e]; exact H e
 ·rw [decide_eq_false e]; exact H' e
theorem bQj (H : y < x → Ev (fun n => k n (.b true) h) P) (H' : ¬ y < x → Ev (fun n => k n (.b false) h) P) : Ev (fun n => bnd (aP .gtr (.i q x) (.i q y) h) (k n)) P := by
 refine Ev.op (gR .gtr (.b (decide (x > y))) rfl) ?_
 by_cases e : y < x
 ·rw [decide_eq_true e]; exact H e
 ·rw [decide_eq_false e]; exact H' e
theorem bPy (H : y ≤ x → Ev (fun n => k n (.b true) h) P) (H' : ¬ y ≤ x → Ev (fun n => k n (.b false) h) P) : Ev (fun n => bnd (aP .geq (.i q x) (.i q y) h) (k n)) P := by
 refine Ev.op (gR .geq (.b (decide (x ≥ y))) rfl) ?_
 by_cases e : y ≤ x
 ·rw [decide_eq_true e]; exact H e
 ·rw [decide_eq_false e]; exact H' e
theorem bRp (H : s = t → Ev (fun n => k n (.b true) h) P) (H' : s ≠ t → Ev (fun n => k n (.b false) h) P) : Ev (fun n => bnd (gF .eql (.s s) (.s t) h) (k n)) P := by
 refine Ev.op (aKh s t h) ?_
 by_cases e : s = t
 ·rw [show sT s t = true by rw [iU]; exact e]; exact H e
 ·rw [show sT s t = false by rw [aEw]; simp [e]]; exact H' e
theorem bRq (H : s ≠ t → Ev (fun n => k n (.b true) h) P) (H' : s = t → Ev (fun n => k n (.b false) h) P) : Ev (fun n => bnd (gF .neq (.s s) (.s t) h) (k n)) P := by
 refine Ev.op (bFx s t h) ?_
 by_cases e : s = t
 ·rw [show sT s t = true by rw [iU]; exact e]; exact H' e
 ·rw [show sT s t = false by rw [aEw]; simp [e]]; exact H e
theorem bOw (H : Ev (fun n => k n (.i q (q.wrap (x + y))) h) P) : Ev (fun n => bnd (aP .add (.i q x) (.i q y) h) (k n)) P := Ev.op (gR .add _ rfl) H
theorem bQg (H : Ev (fun n => k n (.i q (q.wrap (x - y))) h) P) : Ev (fun n => bnd (aP .sub (.i q x) (.i q y) h) (k n)) P := Ev.op (gR .sub _ rfl) H
theorem bSb (H : Ev (fun n => k n (.i q (q.wrap (x * y))) h) P) : Ev (fun n => bnd (aP .mul (.i q x) (.i q y) h) (k n)) P := Ev.op (gR .mul _ rfl) H
theorem bQd (hl : s.length + t.length ≤ 9223372036854775807) (H : Ev (fun n => k n (.s (s ++ t)) h) P) : Ev (fun n => bnd (gF .add (.s s) (.s t) h) (k n)) P := by
 refine Ev.op (v := .s (s ++ t)) (h := h) ?_ H
 have e : ¬ (((s.length + t.length : Nat) : Int) > IntKind.i64.max) := by
  have : IntKind.i64.max = 9223372036854775807 := by rfl
  omega
 show (match xJ .add s t with
  | some v => some (v, h)
  | none => none) = _
 unfold xJ
 simp only [if_neg e]
end
abbrev Im := Pos → Option Ob
def ILe (I J : Im) : Prop := ∀ b o, I b = some o → J b = some o
theorem ILe.refl (I : Im) : ILe I I := fun _ _ h => h
theorem ILe.trans {I J K : Im} (a : ILe I J) (b : ILe J K) : ILe I K := fun x o h => b x o (a x o h)
abbrev Ls := List (Pos × Option Ob)
structure Sy (I : Im) (A Q L : Ls) (h : Hp) : Prop where
 wf : Wf h
 im : ∀ b o, I b = some o → h.bl.get b = some o
 loc : ∀ b o, (b, o) ∈ A ++ Q ++ L → h.bl.get b = o
 lt : ∀ b o, (b, o) ∈ A ++ Q ++ L → b.toNat < h.next.toNat
 nd : ((A ++ Q ++ L).map (·.1)).Nodup
 dj : ∀ b o, (b, o) ∈ A ++ Q ++ L → I b = none
theorem zK {I : Im} {A Q L A' Q' L' : Ls} {h : Hp} (p : List.Perm (A ++ Q ++ L) (A' ++ Q' ++ L')) (S : Sy I A Q L h) : Sy I A' Q' L' h where
 wf := S.wf
 im := S.im
 loc := fun b o m => S.loc b o (p.mem_iff.2 m)
 lt := fun b o m => S.lt b o (p.mem_iff.2 m)
 nd := (p.map _).nodup_iff.1 S.nd
 dj := fun b o m => S.dj b o (p.mem_iff.2 m)
theorem bHf {I : Im} {A Q L A' Q' L' : Ls} {h : Hp} (p : List.Sublist (A' ++ Q' ++ L') (A ++ Q ++ L)) (S : Sy I A Q L h) : Sy I A' Q' L' h where
 wf := S.wf
 im := S.im
 loc := fun b o m => S.loc b o (p.subset m)
 lt := fun b o m => S.lt b o (p.subset m)
 nd := (p.map _).nodup S.nd
 dj := fun b o m => S.dj b o (p.subset m)
theorem Sy.dropL {I : Im} {A Q L : Ls} {e : Pos × Option Ob} {h : Hp} (S : Sy I A Q (e :: L) h) : Sy I A Q L h :=
 bHf (by rw [List.append_assoc, List.append_assoc]; exact (List.Sublist.refl _).append ((List.Sublist.refl _).append (List.sublist_cons_self _ _))) S
theorem bSh {I : Im} {A Q L : Ls} {e : Pos × Option Ob} {h : Hp} (S : Sy I A Q (e :: L) h) : Sy I A (Q ++ [e]) L h :=
 zK (by simp) S
theorem bSi {I : Im} {A Q L : Ls} {e : Pos × Option Ob} {h : Hp} (S : Sy I A (Q ++ [e]) L h) : Sy I A Q (e :: L) h :=
 zK (by simp) S
theorem Sy.add {I : Im} {A Q L : Ls} {h : Hp} (S : Sy I A Q L h) {h' : Hp} (o : Option Ob) (e1 : h'.next = h.next.succ) (e2 : ∀ b, h'.bl.get b = if b = h.next then o else h.bl.get b) : Sy I A Q ((h.next, o) :: L) h' := by
 have ne : ∀ b x, (b, x) ∈ A ++ Q ++ L → b ≠ h.next := fun b x m e => by
  have := S.lt b x m
  rw [e] at this
  omega
 have fresh : h.bl.get h.next = none := by
  cases e : h.bl.get h.next with
  | none => rfl
  | some o => exact absurd (S.wf _ _ e) (Nat.lt_irrefl _)
 have mem : ∀ b x, (b, x) ∈ A ++ Q ++ (h.next, o) :: L → (b = h.next ∧ x = o) ∨ (b, x) ∈ A ++ Q ++ L := fun b x m => by
  simp only [List.mem_append, List.mem_cons, bR] at m ⊢
  rcases m with (m | m) | (m | m)
  ·exact .inr (.inl (.inl m))
  ·exact .inr (.inl (.inr m))
  ·exact .inl m
  ·exact .inr (.inr m)
 have inone : I h.next = none := by
  cases e : I h.next with
  | none => rfl
  | some o => rw [S.im _ _ e] at fresh; cases fresh
 refine ⟨?_, ?_, ?_, ?_, ?_, ?_⟩
 ·intro b x e
  rw [e1, bOt]
  rw [e2] at e
  split at e
  ·rename_i hb; rw [hb]; omega
  ·have := S.wf b x e; omega
 ·intro b x e
  have hb : b ≠ h.next := fun e3 => by rw [e3, inone] at e; cases e
  rw [e2, if_neg hb]
  exact S.im b x e
 ·intro b x m
  rw [e2]
  rcases mem b x m with ⟨rfl, rfl⟩ | m
  ·rw [if_pos rfl]
  ·rw [if_neg (ne b x m)]; exact S.loc b x m
 ·intro b x m
  rw [e1, bOt]
  rcases mem b x m with ⟨rfl, rfl⟩ | m
  ·omega
  ·have := S.lt b x m; omega
 ·have p : List.Perm ((A ++ Q ++ (h.next, o) :: L).map (·.1)) (h.next :: (A ++ Q ++ L).map (·.1)) := by
   have : List.Perm (A ++ Q ++ (h.next, o) :: L) ((h.next, o) :: (A ++ Q ++ L)) := List.perm_middle
   exact this.map _
  rw [p.nodup_iff, List.nodup_cons]
  refine ⟨fun m => ?_, S.nd⟩
  obtain ⟨⟨b, x⟩, m, e⟩ := List.mem_map.1 m
  exact ne b x m e
 ·intro b x m
  rcases mem b x m with ⟨rfl, rfl⟩ | m
  ·exact inone
  ·exact S.dj b x m
theorem Sy.new {I : Im} {A Q L : Ls} {h : Hp} (S : Sy I A Q L h) (o : Ob) : Sy I A Q ((h.next, some o) :: L) (nw o h) :=
 S.add (some o) rfl (fun b => bOy o h.next b h.bl)
theorem Sy.res {I : Im} {A Q L : Ls} {h : Hp} (S : Sy I A Q L h) : Sy I A Q ((h.next, none) :: L) (iI 1 h) := by
 refine S.add none rfl (fun b => ?_)
 show h.bl.get b = _
 split
 ·rename_i hb
  rw [hb]
  cases e : h.bl.get h.next with
  | none => rfl
  | some o => exact absurd (S.wf _ _ e) (Nat.lt_irrefl _)
 ·rfl
inductive Rpl (b : Pos) (o o' : Option Ob) : Ls → Ls → Prop
 | head (L : Ls) : Rpl b o o' ((b, o) :: L) ((b, o') :: L)
 | tail (e : Pos × Option Ob) {L L' : Ls} : Rpl b o o' L L' → Rpl b o o' (e :: L) (e :: L')
theorem Rpl.keys {b : Pos} {o o' : Option Ob} {L L' : Ls} (r : Rpl b o o' L L') : L'.map (·.1) = L.map (·.1) := by
 induction r with
 | head L => rfl
 | tail e _ ih => simp [ih]
theorem Rpl.at {b : Pos} {o o' : Option Ob} {L L' : Ls} (r : Rpl b o o' L L') : (b, o) ∈ L ∧ (b, o') ∈ L' := by
 induction r with
 | head L => simp
 | tail e _ ih => simp [ih]
theorem Rpl.mem {b : Pos} {o o' : Option Ob} {L L' : Ls} (r : Rpl b o o' L L') (nd : (L.map (·.1)).Nodup) : ∀ c x, (c, x) ∈ L' → (c = b ∧ x = o') ∨ (c ≠ b ∧ (c, x) ∈ L) := by
 induction r with
 | head L =>
  intro c x m
  rcases List.mem_cons.1 m with m2 | m2
  ·cases m2; exact .inl ⟨rfl, rfl⟩
  ·refine .inr ⟨fun e => ?_, List.mem_cons_of_mem _ m2⟩
   subst e
   rw [List.map_cons, List.nodup_cons] at nd
   exact nd.1 (List.mem_map.2 ⟨_, m2, rfl⟩)
 | tail e r ih =>
  intro c x m
  rw [List.map_cons, List.nodup_cons] at nd
  rcases List.mem_cons.1 m with m | m
  ·subst m
   refine .inr ⟨fun e => ?_, by simp⟩
   subst e
   exact nd.1 (List.mem_map.2 ⟨_, r.at.1, rfl⟩)
  ·rcases ih nd.2 c x m with h | ⟨h1, h2⟩
   ·exact .inl h
   ·exact .inr ⟨h1, by simp [h2]⟩
theorem Sy.setAll {I : Im} {A Q L A' Q' L' : Ls} {h h' : Hp} {b : Pos} {o : Option Ob} {o' : Ob} (S : Sy I A Q L h) (r : Rpl b o (some o') (A ++ Q ++ L) (A' ++ Q' ++ L'))
 (e1 : h'.next = h.next) (e2 : ∀ c, h'.bl.get c = if c = b then some o' else h.bl.get c) : Sy I A' Q' L' h' := by
 have mem := r.mem S.nd
 have hb := S.lt b o r.at.1
 refine ⟨?_, ?_, ?_, ?_, ?_, ?_⟩
 ·intro c x e
  rw [e1]
  rw [e2] at e
  split at e
  ·rename_i hc; rw [hc]; exact hb
  ·exact S.wf c x e
 ·intro c x e
  have hc : c ≠ b := fun e3 => by rw [e3, S.dj b o r.at.1] at e; cases e
  rw [e2, if_neg hc]
  exact S.im c x e
 ·intro c x m
  rw [e2]
  rcases mem c x m with ⟨rfl, rfl⟩ | ⟨hc, m⟩
  ·rw [if_pos rfl]
  ·rw [if_neg hc]; exact S.loc c x m
 ·intro c x m
  rw [e1]
  rcases mem c x m with ⟨rfl, rfl⟩ | ⟨hc, m⟩
  ·exact hb
  ·exact S.lt c x m
 ·rw [r.keys]; exact S.nd
 ·intro c x m
  rcases mem c x m with ⟨rfl, rfl⟩ | ⟨hc, m⟩
  ·exact S.dj c o r.at.1
  ·exact S.dj c x m
theorem Rpl.left (A : Ls) {b : Pos} {o o' : Option Ob} {L L' : Ls} (r : Rpl b o o' L L') : Rpl b o o' (A ++ L) (A ++ L') := by
 induction A with
 | nil => exact r
 | cons e A ih => exact .tail e ih
theorem Rpl.right (A : Ls) {b : Pos} {o o' : Option Ob} {L L' : Ls} (r : Rpl b o o' L L') : Rpl b o o' (L ++ A) (L' ++ A) := by
 induction r with
 | head L => exact .head _
 | tail e _ ih => exact .tail e ih
theorem Sy.setL {I : Im} {A Q L L' : Ls} {h h' : Hp} {b : Pos} {o : Option Ob} {o' : Ob} (S : Sy I A Q L h) (r : Rpl b o (some o') L L')
 (e1 : h'.next = h.next) (e2 : ∀ c, h'.bl.get c = if c = b then some o' else h.bl.get c) : Sy I A Q L' h' := S.setAll (r.left _) e1 e2
theorem Sy.setQ {I : Im} {A Q Q' L : Ls} {h h' : Hp} {b : Pos} {o : Option Ob} {o' : Ob} (S : Sy I A Q L h) (r : Rpl b o (some o') Q Q')
 (e1 : h'.next = h.next) (e2 : ∀ c, h'.bl.get c = if c = b then some o' else h.bl.get c) : Sy I A Q' L h' := S.setAll ((r.left A).right L) e1 e2
theorem Sy.setA {I : Im} {A A' Q L : Ls} {h h' : Hp} {b : Pos} {o : Option Ob} {o' : Ob} (S : Sy I A Q L h) (r : Rpl b o (some o') A A')
 (e1 : h'.next = h.next) (e2 : ∀ c, h'.bl.get c = if c = b then some o' else h.bl.get c) : Sy I A' Q L h' := S.setAll ((r.right Q).right L) e1 e2
noncomputable def Im.put (I : Im) (b : Pos) (o : Ob) : Im := fun c => if c = b then some o else I c
theorem Sy.freeze {I : Im} {A Q L : Ls} {h : Hp} {b : Pos} {o : Ob} (S : Sy I A Q ((b, some o) :: L) h) : Sy (I.put b o) A Q L h ∧ ILe I (I.put b o) := by
 have hb : (b, some o) ∈ A ++ Q ++ (b, some o) :: L := by simp
 have S' := S.dropL
 have nb : ∀ c x, (c, x) ∈ A ++ Q ++ L → c ≠ b := by
  intro c x m e
  subst e
  have p : List.Perm ((A ++ Q ++ (c, some o) :: L).map (·.1)) (c :: (A ++ Q ++ L).map (·.1)) := (List.perm_middle (a := (c, some o)) (l₁ := A ++ Q) (l₂ := L)).map _
  have := p.nodup_iff.1 S.nd
  rw [List.nodup_cons] at this
  exact this.1 (List.mem_map.2 ⟨_, m, rfl⟩)
 refine ⟨⟨S.wf, ?_, S'.loc, S'.lt, S'.nd, ?_⟩, ?_⟩
 ·intro c x e
  unfold Im.put at e
  split at e
  ·rename_i hc; subst hc; cases e; exact S.loc _ _ hb
  ·exact S.im c x e
 ·intro c x m
  unfold Im.put
  rw [if_neg (nb c x m)]
  exact S'.dj c x m
 ·intro c x e
  have : c ≠ b := fun e2 => by rw [e2, S.dj b _ hb] at e; cases e
  unfold Im.put
  rw [if_neg this]
  exact e
theorem bPs (I : Im) (b : Pos) (o : Ob) : I.put b o b = some o := by simp [Im.put]
theorem Sy.memL {I : Im} {A Q L : Ls} {h : Hp} {b : Pos} {o : Ob} (S : Sy I A Q L h) (m : (b, some o) ∈ L) : h.bl.get b = some o := S.loc b _ (by simp [m])
theorem Sy.memQ {I : Im} {A Q L : Ls} {h : Hp} {b : Pos} {o : Ob} (S : Sy I A Q L h) (m : (b, some o) ∈ Q) : h.bl.get b = some o := S.loc b _ (by simp [m])
theorem Sy.memA {I : Im} {A Q L : Ls} {h : Hp} {b : Pos} {o : Ob} (S : Sy I A Q L h) (m : (b, some o) ∈ A) : h.bl.get b = some o := S.loc b _ (by simp [m])
section
variable {I : Im} {A Q L L' Q' : Ls} {h : Hp} {k : Nat → DV → Hp → aG} {P : DV → Hp → Prop} {b : Pos} {kd : Kind} {l l' cs : List DV} {o n : Nat} {v : DV}
theorem Ev.new (S : Sy I A Q L h) (H : ∀ b h', Sy I A Q ((b, some (.row .ex cs)) :: L) h' → Ev (fun n => k n (.p b 0) h') P) : Ev (fun n => bnd (cG cs h) (k n)) P :=
 Ev.op (bLb cs h) (H _ _ (S.new _))
theorem Ev.box (S : Sy I A Q L h) (e : cD v = some cs) (H : ∀ b h', Sy I A Q ((b, some (.row .ex cs)) :: L) h' → Ev (fun n => k n (.p b 0) h') P) : Ev (fun n => bnd (iH v h) (k n)) P := by
 have e2 : iH v h = cG cs h := by unfold iH; rw [e]
 rw [e2]
 exact Ev.new S H
theorem bSc (hg : h.bl.get b = some (.row kd l)) (e : l[o]? = some v) (hv : v.one = true) (H : Ev (fun n => k n v h) P) : Ev (fun n => bnd (aB (.p b o) h) (k n)) P := Ev.op (ld1 hg e hv) H
theorem bRr (S : Sy I A Q L h) (m : (b, some (.row kd l)) ∈ L) (e : l[o]? = some v) (hv : v.one = true) (H : Ev (fun n => k n v h) P) : Ev (fun n => bnd (aB (.p b o) h) (k n)) P := bSc (S.memL m) e hv H
theorem bSj (S : Sy I A Q L h) (m : (b, some (.row kd l)) ∈ Q) (e : l[o]? = some v) (hv : v.one = true) (H : Ev (fun n => k n v h) P) : Ev (fun n => bnd (aB (.p b o) h) (k n)) P := bSc (S.memQ m) e hv H
theorem bSk (hg : h.bl.get b = some (.row kd l)) (e : hZ n (l.drop o) = some cs) (H : Ev (fun n => k n (.a cs) h) P) : Ev (fun m => bnd (aE n (.p b o) h) (k m)) P := Ev.op (ldA hg e) H
theorem aBj (h1 : l.length = n) (h2 : ∀ v ∈ l, v.one = true) : hZ n (l.drop 0) = some l := by
 subst h1; simpa using vC l h2
theorem bQz (S : Sy I A Q L h) (m : (b, some (.row kd l)) ∈ L) (h1 : l.length = n) (h2 : ∀ v ∈ l, v.one = true) (H : Ev (fun n => k n (.a l) h) P) : Ev (fun m => bnd (aE n (.p b 0) h) (k m)) P := bSk (S.memL m) (aBj h1 h2) H
theorem aIo {kw : Kind} (hk : kw.writable = true) (hg : h.bl.get b = some (.row kw l)) (h1 : l.length = n) (h2 : ∀ v ∈ l, v.one = true) (h3 : l'.length = n) (h4 : ∀ v ∈ l', v.one = true) :
 aC n (.p b 0) (.a l') h = some (dA, ⟨h.next, Tr.set (.row kw l') b h.bl⟩) := by
 have hp : iS 0 l l' = some l' := zJ l l' (by omega) h2 h4
 simp [aC, cD, h3, fT, hg, hk, hp]
theorem bSd (S : Sy I A Q L h) (r : Rpl b (some (.row .ex l)) (some (.row .ex l')) L L') (h1 : l.length = n) (h2 : ∀ v ∈ l, v.one = true) (h3 : l'.length = n) (h4 : ∀ v ∈ l', v.one = true)
 (H : ∀ h', Sy I A Q L' h' → Ev (fun n => k n dA h') P) : Ev (fun m => bnd (aC n (.p b 0) (.a l') h) (k m)) P :=
 Ev.op (aIo rfl (S.memL r.at.1) h1 h2 h3 h4) (H _ (S.setL r rfl (fun c => bOy _ _ _ _)))
theorem tR (hv : v.one = true) : cD v = some [v] := by
 cases v <;> first | rfl | cases hv
theorem aAw : ∀ (o : Nat) (l : List DV), (∃ x, l[o]? = some x ∧ x.one = true) → v.one = true → iS o l [v] = some (l.set o v)
 | 0, [], h, _ => by obtain ⟨x, h, _⟩ := h; simp at h
 | 0, x :: l, h, hv => by
  obtain ⟨y, h1, h2⟩ := h
  simp at h1
  subst h1
  simp [iS, oL, hv, h2]
 | o + 1, [], h, _ => by obtain ⟨x, h, _⟩ := h; simp at h
 | o + 1, x :: l, h, hv => by
  have := aAw o l (by simpa using h) hv
  simp [iS, this]
theorem tS {kw : Kind} (hk : kw.writable = true) (hg : h.bl.get b = some (.row kw l)) (h1 : ∃ x, l[o]? = some x ∧ x.one = true) (hv : v.one = true) :
 aC 1 (.p b o) v h = some (dA, ⟨h.next, Tr.set (.row kw (l.set o v)) b h.bl⟩) := by
 simp [aC, tR hv, fT, hg, hk, aAw o l h1 hv]
theorem bSl (S : Sy I A Q L h) (r : Rpl b (some (.row .ex l)) (some (.row .ex l')) L L') (e : l.set o v = l') (h1 : ∃ x, l[o]? = some x ∧ x.one = true) (hv : v.one = true)
 (H : ∀ h', Sy I A Q L' h' → Ev (fun n => k n dA h') P) : Ev (fun m => bnd (aC 1 (.p b o) v h) (k m)) P := by
 subst e
 exact Ev.op (tS rfl (S.memL r.at.1) h1 hv) (H _ (S.setL r rfl (fun c => bOy _ _ _ _)))
theorem bSm (S : Sy I A Q L h) (r : Rpl b (some (.row .ex l)) (some (.row .ex l')) Q Q') (e : l.set o v = l') (h1 : ∃ x, l[o]? = some x ∧ x.one = true) (hv : v.one = true)
 (H : ∀ h', Sy I A Q' L h' → Ev (fun n => k n dA h') P) : Ev (fun m => bnd (aC 1 (.p b o) v h) (k m)) P := by
 subst e
 exact Ev.op (tS rfl (S.memQ r.at.1) h1 hv) (H _ (S.setQ r rfl (fun c => bOy _ _ _ _)))
theorem bPl (S : Sy I A Q L h) {z : List DV} {ps : List (Nat × Nat × DV)} (e : cJ z ps = some cs) (H : ∀ b h', Sy I A Q ((b, some (.row .ex cs)) :: L) h' → Ev (fun m => k m (.l b 0 n n) h') P) : Ev (fun m => bnd (aO z n ps h) (k m)) P := by
 refine Ev.op (v := .l h.next 0 n n) (h := nw (.row .ex cs) h) ?_ (H _ _ (S.new _))
 unfold aO
 rw [e]
 rfl
theorem bSe (S : Sy I A Q L h) {z : List DV} {ps : List (Nat × Nat × DV)} (r : Rpl b none (some (.row .ex cs)) L L') (e : cJ z ps = some cs)
 (H : ∀ h', Sy I A Q L' h' → Ev (fun m => k m (.l b 0 n n) h') P) : Ev (fun m => bnd (bE b z n ps h) (k m)) P := by
 refine Ev.op (v := .l b 0 n n) (h := ⟨h.next, Tr.set (.row .ex cs) b h.bl⟩) ?_ (H _ (S.setL r rfl (fun c => bOy _ _ _ _)))
 unfold bE
 rw [e]
theorem bSn {z : List DV} {ps : List (Nat × Nat × DV)} (e : cJ z ps = some cs) (H : Ev (fun n => k n (.a cs) h) P) : Ev (fun n => bnd (cM z ps h) (k n)) P := by
 refine Ev.op (v := .a cs) (h := h) ?_ H
 unfold cM
 rw [e]
theorem bBn {S : Sy I A Q L h} (m : (b, some (.row kd l)) ∈ L) (e : l[o]? = some v) (hv : v.one = true) (hb : DV.beq v v = true) : cB (aB (.p b o) h) v = true := by
 rw [ld1 (S.memL m) e hv]; exact hb
end
end Go.Dd

namespace Go.Dd
open Go.Proofs Go.RowKit
theorem bRw : Sy (fun _ => none) [] [] [] h00 where
 wf := fun b o e => by cases b <;> cases e
 im := fun b o e => by cases e
 loc := fun b o m => by simp at m
 lt := fun b o m => by simp at m
 nd := by simp
 dj := fun b o m => by simp at m
theorem aMp {f : FuncId} {s : ByteArray} {F : Nat → aG} (e : ∀ n, aN CF (qP 10 true n) n f [.s (s.data.toList.map (·.toNat))] h00 = F n) (H : Ev F (fun v _ => v = .b true)) (fn : Func) (hf : Tryz.prog.funcs[f]? = some fn) (hb : fn.body.isSome = true) (w : World) (W : Facts w) :
 Calls Tryz.prog f #[.string s] w fun e w' => e = .returned (.bool true) ∧ Below w.heap.size w w' := by
 obtain ⟨v, h1, N, rfl, hN⟩ := H
 have hr := (e N).trans (hN N (Nat.le_refl _))
 obtain ⟨hl, el⟩ := aWn
 rcases aGu (aXa el Tryz.f10 Tryz.func10 (by kernel_rfl)) Try_ok N f _ h00 _ h1 hr _ w #[.string s] ((Ro.none w).hr W) (.cons _ _ _ _ (.s _ s rfl) .nil) with ⟨_, h⟩ | ⟨ρ', w', v', h, _⟩
 ·refine h.mono ?_
  rintro e w' ⟨ρ', v', rfl, h2, h3, h4, h5⟩
  cases h3
  exact ⟨rfl, h5.low⟩
 ·exfalso
  have hf' : CF.P.funcs[f]? = some fn := hf
  have hn : ¬ fn.name = "runtime.NumGoroutine" := by simpa using Try_ok.names f fn hf'
  have hbn : fn.body ≠ none := by intro e; rw [e] at hb; cases hb
  unfold callFunc at h
  simp [hf', hn, hbn] at h
theorem aMw (s : ByteArray) : ∀ c ∈ s.data.toList.map (·.toNat), c < 256 := by
 intro c hc
 obtain ⟨b, _, rfl⟩ := List.mem_map.1 hc
 exact b.toNat_lt
end Go.Dd

namespace Go.Dd
open Go.Proofs
def cA : Nat := 100000000000
structure Tok where
 kind : Int
 text : List Nat
 num : Int
 pos : Int
def tc (t : Tok) : List DV := [.i .i64 t.kind, .s t.text, .i .i64 t.num, .i .i64 t.pos]
inductive Node where
 | mk (kind : Int) (text : List Nat) (num : Int) (names temps : List (List Nat)) (kids : List Node)
def Fz (I : Im) (sz : Nat) (s : DV) (len : Nat) (cells : List DV) : Prop :=
 ((s = .l0 ∨ s = .le) ∧ len = 0 ∧ cells = []) ∨
   ∃ (b : Pos) (o cap : Nat) (k : Kind) (row rest : List DV), s = .l b o len cap ∧ len ≤ cap ∧ I b = some (.row k row) ∧ row.drop o = cells ++ rest ∧ cells.length = len * sz ∧ ∀ v ∈ cells, v.one = true
theorem Fz.mono {I J : Im} (g : ILe I J) {sz : Nat} {s : DV} {len : Nat} {cells : List DV} (H : Fz I sz s len cells) : Fz J sz s len cells := by
 rcases H with H | ⟨b, o, cap, k, row, rest, h1, h2, h3, h4⟩
 ·exact .inl H
 ·exact .inr ⟨b, o, cap, k, row, rest, h1, h2, g _ _ h3, h4⟩
theorem Fz.one {I : Im} {sz : Nat} {s : DV} {len : Nat} {cells : List DV} (H : Fz I sz s len cells) : s.one = true := by
 rcases H with ⟨rfl | rfl, _⟩ | ⟨b, o, cap, k, row, rest, rfl, _⟩ <;> rfl
theorem Fz.beq {I : Im} {sz : Nat} {s : DV} {len : Nat} {cells : List DV} (H : Fz I sz s len cells) : DV.beq s s = true := by
 rcases H with ⟨rfl | rfl, _⟩ | ⟨b, o, cap, k, row, rest, rfl, _⟩
 ·rfl
 ·rfl
 ·simp [DV.beq]
theorem Fz.len {I : Im} {sz : Nat} {s : DV} {len : Nat} {cells : List DV} (H : Fz I sz s len cells) (h : Hp) : gZ s h = some (.i .i64 (len : Int), h) := by
 rcases H with ⟨rfl | rfl, rfl, _⟩ | ⟨b, o, cap, k, row, rest, rfl, _⟩ <;> rfl
theorem Fz.at {I : Im} {sz : Nat} {s : DV} {len : Nat} {cells : List DV} (H : Fz I sz s len cells) {A Q L : Ls} {h : Hp} (S : Sy I A Q L h) {i : Nat} (hi : i < len) :
 ∃ b o, (∀ h', aZ sz s (.i .i64 (i : Int)) h' = some (.p b o, h')) ∧ ∃ k row, h.bl.get b = some (.row k row) ∧ ∃ rest, row.drop o = cells.drop (i * sz) ++ rest := by
 rcases H with ⟨_, rfl, _⟩ | ⟨b, o, cap, k, row, rest, rfl, h2, h3, h4, h5, h6⟩
 ·omega
 ·refine ⟨b, o + i * sz, fun h' => ?_, k, row, S.im _ _ h3, rest, ?_⟩
  ·show (if 0 ≤ (i : Int) ∧ (i : Int) < (len : Int) then some (DV.p b (o + (i : Int).toNat * sz), h') else none) = _
   rw [if_pos ⟨by omega, by omega⟩]
   rfl
  ·have : i * sz ≤ cells.length := by rw [h5]; exact Nat.mul_le_mul_right _ (by omega)
   rw [← List.drop_drop, h4, List.drop_append_of_le_length this]
theorem Fz.tail {I : Im} {sz : Nat} {s : DV} {len : Nat} {cells : List DV} (H : Fz I sz s len cells) {A Q L : Ls} {h : Hp} (S : Sy I A Q L h) {i : Nat} (hi : i < len) :
 ∃ s', cQ sz s (some (.i .i64 (Int.ofNat i))) none h = some (s', h) ∧ Fz I sz s' (len - i) (cells.drop (i * sz)) := by
 rcases H with ⟨_, rfl, _⟩ | ⟨b, o, cap, k, row, rest, rfl, h2, h3, h4, h5, h6⟩
 ·omega
 ·have hle : i * sz ≤ cells.length := by rw [h5]; exact Nat.mul_le_mul_right _ (by omega)
  have hd : row.drop (o + i * sz) = cells.drop (i * sz) ++ rest := by
   rw [← List.drop_drop, h4, List.drop_append_of_le_length hle]
  refine ⟨.l b (o + i * sz) (len - i) (cap - i), ?_, .inr ⟨b, o + i * sz, cap - i, k, row, rest, rfl, by omega, h3, hd, ?_, fun v hv => h6 v (List.mem_of_mem_drop hv)⟩⟩
  ·have e1 : zB none len cap = some len := by simp [zB, h2]
   have e2 : loD (some (.i .i64 (Int.ofNat i))) len = some i := by
    show (if 0 ≤ (Int.ofNat i) ∧ (Int.ofNat i) ≤ (len : Int) then some (Int.ofNat i).toNat else none) = _
    have hi' : (Int.ofNat i) = (i : Int) := rfl
    rw [if_pos ⟨by omega, by omega⟩]
    rfl
   have hne : ¬ cap = i := by omega
   unfold cQ
   simp only [e1, e2, S.im _ _ h3]
   cases k <;> simp [hne]
  ·rw [List.length_drop, h5, Nat.sub_mul]
def Gr (I : Im) (sz : Nat) (A : Ls) (s : DV) (len : Nat) (cells : List DV) : Prop :=
 cells.length = len * sz ∧ (∀ v ∈ cells, v.one = true) ∧
  ((A = [] ∧ s = .l0 ∧ len = 0) ∨ (A = [] ∧ ∃ b, s = .l b 0 len len ∧ I b = some (.row .ex cells)) ∨ ∃ b, A = [(b, some (.row (.gr sz) cells))] ∧ s = .l b 0 len len)
theorem Gr.nil (I : Im) (sz : Nat) : Gr I sz [] .l0 0 [] := ⟨by simp, by simp, .inl ⟨rfl, rfl, rfl⟩⟩
theorem Gr.one {I : Im} {sz : Nat} {A : Ls} {s : DV} {len : Nat} {cells : List DV} (H : Gr I sz A s len cells) : s.one = true := by
 obtain ⟨_, _, ⟨_, rfl, _⟩ | ⟨_, b, rfl, _⟩ | ⟨b, _, rfl⟩⟩ := H <;> rfl
theorem Gr.beq {I : Im} {sz : Nat} {A : Ls} {s : DV} {len : Nat} {cells : List DV} (H : Gr I sz A s len cells) : DV.beq s s = true := by
 obtain ⟨_, _, ⟨_, rfl, _⟩ | ⟨_, b, rfl, _⟩ | ⟨b, _, rfl⟩⟩ := H
 ·rfl
 ·simp [DV.beq]
 ·simp [DV.beq]
theorem Gr.len {I : Im} {sz : Nat} {A : Ls} {s : DV} {len : Nat} {cells : List DV} (H : Gr I sz A s len cells) (h : Hp) : gZ s h = some (.i .i64 (len : Int), h) := by
 obtain ⟨_, _, ⟨_, rfl, rfl⟩ | ⟨_, b, rfl, _⟩ | ⟨b, _, rfl⟩⟩ := H <;> rfl
theorem Gr.mono {I J : Im} (g : ILe I J) {sz : Nat} {A : Ls} {s : DV} {len : Nat} {cells : List DV} (H : Gr I sz A s len cells) : Gr J sz A s len cells := by
 obtain ⟨h1, h2, h3 | ⟨h3, b, h4, h5⟩ | h3⟩ := H
 ·exact ⟨h1, h2, .inl h3⟩
 ·exact ⟨h1, h2, .inr (.inl ⟨h3, b, h4, g _ _ h5⟩)⟩
 ·exact ⟨h1, h2, .inr (.inr h3)⟩
theorem gO (x rest : List DV) (n : Nat) (hn : x.length = n) (ho : ∀ v ∈ x, v.one = true) : hZ n (x ++ rest) = some x := by
 subst hn
 induction x with
 | nil => simp [hZ]
 | cons y x ih => simp [hZ, ho y (by simp), ih (fun v hv => ho v (by simp [hv]))]
theorem Gr.app {I : Im} {sz bytes : Nat} {A A0 Q L : Ls} {s : DV} {len : Nat} {cells : List DV} (H : Gr I sz A s len cells) {h : Hp} (S : Sy I (A ++ A0) Q L h) {x : DV} {n : Nat} {new : List DV} (hs : lP sz x h = some (n, new))
 (h1 : new.length = n * sz) (h2 : ∀ v ∈ new, v.one = true) (hn : n ≠ 0) (hb : (len + n) * bytes ≤ gA) :
 ∃ s' h' A', bN sz bytes s x h = some (s', h') ∧ Sy I (A' ++ A0) Q L h' ∧ Gr I sz A' s' (len + n) (cells ++ new) := by
 obtain ⟨g1, g2, g3⟩ := H
 have l' : (cells ++ new).length = (len + n) * sz := by rw [List.length_append, g1, h1, Nat.add_mul]
 have o' : ∀ v ∈ cells ++ new, v.one = true := fun v hv => by
  rcases List.mem_append.1 hv with hv | hv
  ·exact g2 v hv
  ·exact h2 v hv
 have mv : ∀ {e : Pos × Option Ob} {h' : Hp}, Sy I A0 Q (e :: L) h' → Sy I ([e] ++ A0) Q L h' := @fun e h' S => zK (by
  have : List.Perm (A0 ++ Q ++ e :: L) (e :: (A0 ++ Q ++ L)) := List.perm_middle
  simpa [aJ] using this) S
 rcases g3 with ⟨rfl, rfl, rfl⟩ | ⟨rfl, b, rfl, hI⟩ | ⟨b, rfl, rfl⟩
 ·have hc : cells = [] := by simpa using g1
  subst hc
  refine ⟨.l h.next 0 n n, nw (.row (.gr sz) new) h, [(h.next, some (.row (.gr sz) new))], ?_, mv (Sy.new (by simpa using S) _), ?_⟩
  ·unfold bN
   simp only [hs, if_neg hn]
   rw [Nat.zero_add] at hb
   rw [if_pos hb]
   rfl
  ·simp only [Nat.zero_add, List.nil_append]
   exact ⟨by simpa using l', by simpa using o', .inr (.inr ⟨_, rfl, rfl⟩)⟩
 ·have hg := S.im _ _ hI
  have hc : dR b 0 (len * sz) h = some cells := by
   simp only [dR, kJ, hg, List.drop_zero]
   have := gO cells [] (len * sz) g1 g2
   simpa [aJ] using this
  refine ⟨.l h.next 0 (len + n) (len + n), nw (.row (.gr sz) (cells ++ new)) h, [(h.next, some (.row (.gr sz) (cells ++ new)))], ?_, mv (Sy.new (by simpa using S) _), l', o', .inr (.inr ⟨_, rfl, rfl⟩)⟩
  unfold bN
  simp only [hs]
  rw [if_neg (by omega)]
  simp only [hg, hc]
  rw [if_pos hb]
  rfl
 ·have hg := S.memA (b := b) (o := .row (.gr sz) cells) (by simp)
  have hc : dR b 0 (len * sz) h = some cells := by
   simp only [dR, kJ, hg, List.drop_zero]
   have := gO cells [] (len * sz) g1 g2
   simpa [aJ] using this
  let h1 : Hp := ⟨h.next, Tr.set (.row .sp (bP 0 cells)) b h.bl⟩
  have S1 : Sy I ((b, some (.row .sp (bP 0 cells))) :: A0) Q L h1 := S.setA (Rpl.head A0) rfl (fun c => bOy _ _ _ _)
  have S2 := S1.new (.row (.gr sz) (cells ++ new))
  have S3 : Sy I ([(h.next, some (.row (.gr sz) (cells ++ new)))] ++ A0) Q L (nw (.row (.gr sz) (cells ++ new)) h1) := by
   have S4 : Sy I A0 Q ((h1.next, some (.row (.gr sz) (cells ++ new))) :: L) (nw (.row (.gr sz) (cells ++ new)) h1) :=
    bHf (by simp) S2
   exact mv S4
  refine ⟨.l h.next 0 (len + n) (len + n), _, _, ?_, S3, l', o', .inr (.inr ⟨_, rfl, rfl⟩)⟩
  unfold bN
  simp only [hs]
  rw [if_neg (by omega)]
  simp only [hg, hc]
  rw [if_pos hb]
  have e3 : 0 + len * sz = cells.length := by rw [g1]; omega
  simp only [e3, and_self, if_true]
  rfl
theorem Gr.freeze {I : Im} {sz : Nat} {A A0 Q L : Ls} {s : DV} {len : Nat} {cells : List DV} (H : Gr I sz A s len cells) {h : Hp} (S : Sy I (A ++ A0) Q L h) : ∃ J, ILe I J ∧ Sy J A0 Q L h ∧ Fz J sz s len cells := by
 obtain ⟨g1, g2, g3⟩ := H
 rcases g3 with ⟨rfl, rfl, rfl⟩ | ⟨rfl, b, rfl, hI⟩ | ⟨b, rfl, rfl⟩
 ·have hc : cells = [] := by simpa using g1
  exact ⟨I, ILe.refl _, by simpa using S, .inl ⟨.inl rfl, rfl, hc⟩⟩
 ·exact ⟨I, ILe.refl _, by simpa using S, .inr ⟨b, 0, len, .ex, cells, [], rfl, Nat.le_refl _, hI, by simp, g1, g2⟩⟩
 ·have S1 : Sy I A0 Q ((b, some (.row (.gr sz) cells)) :: L) h := zK (by
   have : List.Perm (A0 ++ Q ++ (b, some (Ob.row (.gr sz) cells)) :: L) ((b, some (Ob.row (.gr sz) cells)) :: (A0 ++ Q ++ L)) := List.perm_middle
   simpa [aJ] using this.symm) S
  obtain ⟨S2, g⟩ := S1.freeze
  exact ⟨_, g, S2, .inr ⟨b, 0, len, .gr sz, cells, [], rfl, Nat.le_refl _, bPs _ _ _, by simp, g1, g2⟩⟩
theorem Fz.built {I : Im} {sz : Nat} {A Q L : Ls} {b : Pos} {n : Nat} {cells : List DV} {h : Hp} (S : Sy I A Q ((b, some (.row .ex cells)) :: L) h) (h1 : cells.length = n * sz) (h2 : ∀ v ∈ cells, v.one = true) :
 ∃ J, ILe I J ∧ Sy J A Q L h ∧ Fz J sz (.l b 0 n n) n cells ∧ Gr J sz [] (.l b 0 n n) n cells := by
 obtain ⟨S2, g⟩ := S.freeze
 exact ⟨_, g, S2, .inr ⟨b, 0, n, .ex, cells, [], rfl, Nat.le_refl _, bPs _ _ _, by simp, h1, h2⟩, h1, h2, .inr (.inl ⟨rfl, b, rfl, bPs _ _ _⟩)⟩
theorem Fz.src {I : Im} {sz : Nat} {s : DV} {len : Nat} {cells : List DV} (H : Fz I sz s len cells) {A Q L : Ls} {h : Hp} (S : Sy I A Q L h) : lP sz s h = some (len, cells) := by
 rcases H with ⟨rfl | rfl, rfl, rfl⟩ | ⟨b, o, cap, k, row, rest, rfl, h2, h3, h4, h5, h6⟩
 ·rfl
 ·rfl
 ·have : dR b o (len * sz) h = some cells := by
   simp only [dR, kJ, S.im _ _ h3, h4]
   exact gO cells rest (len * sz) h5 h6
  simp [lP, this]
theorem nI {I : Im} {sz : Nat} {A Q L : Ls} {h : Hp} (S : Sy I A Q L h) {b : Pos} {n : Nat} {cells : List DV} (m : (b, some (.row .ex cells)) ∈ L) (h1 : cells.length = n * sz) (h2 : ∀ v ∈ cells, v.one = true) : lP sz (.l b 0 n n) h = some (n, cells) := by
 have : dR b 0 (n * sz) h = some cells := by
  simp only [dR, kJ, S.memL m, List.drop_zero]
  have := gO cells [] (n * sz) h1 h2
  simpa [aJ] using this
 simp [lP, this]
def SS (I : Im) (s : DV) (l : List (List Nat)) : Prop := l.length ≤ cA ∧ Fz I 1 s l.length (l.map .s)
def TS' (I : Im) (s : DV) (l : List Tok) : Prop := l.length ≤ cA ∧ Fz I 4 s l.length (l.map tc).flatten
mutual
def NV (I : Im) : Node → List DV → Prop
 | .mk k t m ns ts ks, cs => ∃ s1 s2 s3, cs = [.i .i64 k, .s t, .i .i64 m, s1, s2, s3] ∧ SS I s1 ns ∧ SS I s2 ts ∧ ks.length ≤ cA ∧ ∃ cells, Fz I 6 s3 ks.length cells ∧ NVL I ks cells
def NVL (I : Im) : List Node → List DV → Prop
 | [], cells => cells = []
 | x :: l, cells => ∃ c rest, cells = c ++ rest ∧ NV I x c ∧ NVL I l rest
end
def NS (I : Im) (s : DV) (ks : List Node) : Prop := ks.length ≤ cA ∧ ∃ cells, Fz I 6 s ks.length cells ∧ NVL I ks cells
theorem SS.mono {I J : Im} (g : ILe I J) {s : DV} {l : List (List Nat)} (H : SS I s l) : SS J s l := ⟨H.1, H.2.mono g⟩
theorem TS'.mono {I J : Im} (g : ILe I J) {s : DV} {l : List Tok} (H : TS' I s l) : TS' J s l := ⟨H.1, H.2.mono g⟩
mutual
theorem NV.mono {I J : Im} (g : ILe I J) : ∀ {x : Node} {cs : List DV}, NV I x cs → NV J x cs
 | .mk k t m ns ts ks, cs, ⟨s1, s2, s3, e, a, b, c, cells, f, n⟩ => ⟨s1, s2, s3, e, a.mono g, b.mono g, c, cells, f.mono g, NVL.mono g n⟩
theorem NVL.mono {I J : Im} (g : ILe I J) : ∀ {l : List Node} {cells : List DV}, NVL I l cells → NVL J l cells
 | [], _, e => e
 | x :: l, _, ⟨c, rest, e, a, b⟩ => ⟨c, rest, e, NV.mono g a, NVL.mono g b⟩
end
theorem NS.mono {I J : Im} (g : ILe I J) {s : DV} {l : List Node} (H : NS I s l) : NS J s l := by
 obtain ⟨a, cells, b, c⟩ := H
 exact ⟨a, cells, b.mono g, c.mono g⟩
theorem NV.shape {I : Im} {x : Node} {cs : List DV} (H : NV I x cs) : cs.length = 6 ∧ (∀ v ∈ cs, v.one = true) ∧ DV.beq (.a cs) (.a cs) = true := by
 cases x with
 | mk k t m ns ts ks =>
  obtain ⟨s1, s2, s3, rfl, a, b, c, cells, f, n⟩ := H
  have o1 := a.2.one
  have o2 := b.2.one
  have o3 := f.one
  refine ⟨rfl, ?_, ?_⟩
  ·intro v hv
   simp only [List.mem_cons, List.not_mem_nil, or_false] at hv
   rcases hv with rfl | rfl | rfl | rfl | rfl | rfl
   ·rfl
   ·rfl
   ·rfl
   ·exact o1
   ·exact o2
   ·exact o3
  ·have e : sT t t = true := by rw [iU]
   simp [DV.beq, bPu, e, a.2.beq, b.2.beq, f.beq]
theorem NVL.shape {I : Im} : ∀ {l : List Node} {cells : List DV}, NVL I l cells → cells.length = l.length * 6 ∧ ∀ v ∈ cells, v.one = true
 | [], _, e => by
  have e : _ = [] := e
  subst e; simp
 | x :: l, _, ⟨c, rest, e, a, b⟩ => by
  obtain ⟨h1, h2⟩ := NVL.shape b
  obtain ⟨h3, h4, _⟩ := a.shape
  subst e
  refine ⟨by rw [List.length_append, h1, h3, List.length_cons]; omega, fun v hv => ?_⟩
  rcases List.mem_append.1 hv with hv | hv
  ·exact h4 v hv
  ·exact h2 v hv
theorem NVL.app {I : Im} : ∀ {l l' : List Node} {c c' : List DV}, NVL I l c → NVL I l' c' → NVL I (l ++ l') (c ++ c')
 | [], l', c, c', e, H => by
  have e : c = [] := e
  subst e; simpa using H
 | x :: l, l', _, c', ⟨c, rest, e, a, b⟩, H => by
  subst e
  exact ⟨c, rest ++ c', by simp, a, NVL.app b H⟩
theorem bOu {I : Im} {x : Node} {c : List DV} (H : NV I x c) : NVL I [x] c := ⟨c, [], by simp, H, rfl⟩
theorem NVL.drop {I : Im} : ∀ {l : List Node} {c : List DV} (i : Nat), NVL I l c → NVL I (l.drop i) (c.drop (i * 6))
 | l, c, 0, H => by simpa using H
 | [], c, i + 1, e => by
  have e : c = [] := e
  subst e; simp; rfl
 | x :: l, _, i + 1, ⟨c, rest, e, a, b⟩ => by
  subst e
  have := NVL.drop i b
  rw [List.drop_succ_cons, show (i + 1) * 6 = c.length + i * 6 by rw [a.shape.1]; omega, ← List.drop_drop, List.drop_left]
  exact this
theorem wM : ∀ (l : List Tok) (i : Nat), (l.map tc).flatten.drop (i * 4) = ((l.drop i).map tc).flatten
 | l, 0 => by simp
 | [], i + 1 => by simp
 | t :: l, i + 1 => by
  have := wM l i
  rw [List.map_cons, List.flatten_cons, List.drop_succ_cons, show (i + 1) * 4 = (tc t).length + i * 4 by simp [tc]; omega, ← List.drop_drop, List.drop_left]
  exact this
theorem TS'.tail {I : Im} {s : DV} {l : List Tok} (H : TS' I s l) {A Q L : Ls} {h : Hp} (S : Sy I A Q L h) {i : Nat} (hi : i < l.length) :
 ∃ s', cQ 4 s (some (.i .i64 (Int.ofNat i))) none h = some (s', h) ∧ TS' I s' (l.drop i) := by
 obtain ⟨s', e, f⟩ := H.2.tail S hi
 refine ⟨s', e, ?_, ?_⟩
 ·have := H.1
  simp; omega
 ·rw [wM] at f
  simpa using f
theorem TS'.at {I : Im} {s : DV} {l : List Tok} (H : TS' I s l) {A Q L : Ls} {h : Hp} (S : Sy I A Q L h) {i : Nat} {t : Tok} (hi : l[i]? = some t) :
 ∃ b o, (∀ h', aZ 4 s (.i .i64 (i : Int)) h' = some (.p b o, h')) ∧ aE 4 (.p b o) h = some (.a (tc t), h) := by
 obtain ⟨hlt, hg⟩ := List.getElem?_eq_some_iff.1 hi
 obtain ⟨b, o, e, k, row, g, rest, d⟩ := H.2.at S hlt
 refine ⟨b, o, e, ldA g ?_⟩
 rw [d, wM, jJ hi, List.map_cons, List.flatten_cons, List.append_assoc]
 refine gO (tc t) _ 4 rfl ?_
 intro v hv
 simp only [tc, List.mem_cons, List.not_mem_nil, or_false] at hv
 rcases hv with rfl | rfl | rfl | rfl <;> rfl
end Go.Dd

namespace Go.Dd
open Go.Proofs
section
variable {I : Im} {A Q L : Ls} {h : Hp} {k : Nat → DV → Hp → aG} {P : DV → Hp → Prop} {b : Pos} {o i : Nat} {v : DV}
theorem bRd (H : Ev (fun n => k n (.p b (o + i)) h) P) : Ev (fun n => bnd (aA i (.p b o) h) (k n)) P := H
theorem bSo {q : IntKind} {x : Int} (H : Ev (fun n => k n (.i q (q.wrap (0 - x))) h) P) : Ev (fun n => bnd (tJ .neg (.i q x) h) (k n)) P := H
theorem bSf {cs : List DV} (e : cs[i]? = some v) (H : Ev (fun n => k n v h) P) : Ev (fun n => bnd (eW i (.a cs) h) (k n)) P := by
 refine Ev.op (v := v) (h := h) ?_ H
 simp [eW, e]
theorem bSg {cs : List DV} (e : cs[i]? = some v) (H : Ev (fun n => k n v h) P) : Ev (fun n => bnd (aM i (.t cs) h) (k n)) P := by
 refine Ev.op (v := v) (h := h) ?_ H
 simp [aM, e]
end
theorem bT : ∀ v ∈ ([] : List DV), v.one = true := fun v hv => by simp at hv
theorem bJ {v : DV} {l : List DV} (h : v.one = true) (t : ∀ w ∈ l, w.one = true) : ∀ w ∈ v :: l, w.one = true := fun w hw => by
 rcases List.mem_cons.1 hw with rfl | hw
 ·exact h
 ·exact t w hw
theorem dK (t : Tok) : ∀ v ∈ tc t, v.one = true := bJ rfl (bJ rfl (bJ rfl (bJ rfl bT)))
theorem aJk {cells : List DV} {off : Nat} {v : DV} {rest : List (Nat × Nat × DV)} (hv : v.one = true) (ho : off + 1 ≤ cells.length) : cJ cells ((off, 1, v) :: rest) = cJ (cells.set off v) rest := by
 have e : cells.take off ++ [v] ++ cells.drop (off + 1) = cells.set off v := by
  rw [List.set_eq_take_append_cons_drop, if_pos (by omega)]
  simp
 show (match cD v with
  | some cs => if cs.length = 1 ∧ off + 1 ≤ cells.length then cJ (cells.take off ++ cs ++ cells.drop (off + 1)) rest else none
  | none => none) = _
 rw [tR hv]
 show (if [v].length = 1 ∧ off + 1 ≤ cells.length then cJ (cells.take off ++ [v] ++ cells.drop (off + 1)) rest else none) = _
 rw [if_pos ⟨rfl, ho⟩, e]
section
variable {I : Im} {A Q L L' Q' : Ls} {h : Hp} {k : Nat → DV → Hp → aG} {F G : Nat → aG} {P : DV → Hp → Prop} {b : Pos} {kd : Kind} {l l' cs : List DV} {o n i : Nat} {v x y : DV}
theorem dp (S : Sy I A Q L h := by first | assumption | exact Sy.dropL (by assumption) | exact Sy.dropL (Sy.dropL (by assumption)) | exact Sy.dropL (Sy.dropL (Sy.dropL (by assumption))) | exact Sy.dropL (Sy.dropL (Sy.dropL (Sy.dropL (by assumption)))) | exact Sy.dropL (Sy.dropL (Sy.dropL (Sy.dropL (Sy.dropL (by assumption))))) | exact Sy.dropL (Sy.dropL (Sy.dropL (Sy.dropL (Sy.dropL (Sy.dropL (by assumption)))))) | exact Sy.dropL (Sy.dropL (Sy.dropL (Sy.dropL (Sy.dropL (Sy.dropL (Sy.dropL (by assumption)))))))) : Sy I A Q L h := S
theorem wf (H : Ev (fun n => k n (.p b (o + i)) h) P) : Ev (fun n => bnd (aA i (.p b o) h) (k n)) P := H
theorem wn (H : Ev (fun n => k n (.p b o) h) P) : Ev (fun n => bnd (bV (.p b o) h) (k n)) P := H
theorem wm (H : Ev (fun n => k n v h) P) : Ev (fun n => bnd (some (v, h)) (k n)) P := H
theorem wl (H : Ev (fun n => k n v h) P) (S : Sy I A Q L h := by assumption) (m : (b, some (.row kd l)) ∈ L := by repeat (first | exact fO | apply List.Mem.tail)) (e : l[o]? = some v := by rfl) (hv : v.one = true := by first | rfl | assumption | exact Fz.one (by assumption)) : Ev (fun n => bnd (aB (.p b o) h) (k n)) P := bRr S m e hv H
theorem wq (H : Ev (fun n => k n v h) P) (S : Sy I A Q L h := by assumption) (m : (b, some (.row kd l)) ∈ Q := by repeat (first | exact fO | apply List.Mem.tail)) (e : l[o]? = some v := by rfl) (hv : v.one = true := by first | rfl | assumption | exact Fz.one (by assumption)) : Ev (fun n => bnd (aB (.p b o) h) (k n)) P := bSj S m e hv H
theorem ws (H : Ev (fun n => k n (.a l) h) P) (S : Sy I A Q L h := by assumption) (m : (b, some (.row kd l)) ∈ L := by repeat (first | exact fO | apply List.Mem.tail)) (h1 : l.length = n := by first | rfl | assumption) (h2 : ∀ v ∈ l, v.one = true := by first | assumption | exact dK _ | (repeat (first | exact bT | refine bJ (by first | rfl | assumption | exact Fz.one (by assumption)) ?_))) : Ev (fun m => bnd (aE n (.p b 0) h) (k m)) P := bQz S m h1 h2 H
theorem wa (H : ∀ b h', Sy I A Q ((b, some (.row .ex cs)) :: L) h' → Ev (fun n => k n (.p b 0) h') P) (S : Sy I A Q L h := by assumption) : Ev (fun n => bnd (cG cs h) (k n)) P := Ev.new S H
theorem wt (H : ∀ h', Sy I A Q L' h' → Ev (fun n => k n dA h') P) (S : Sy I A Q L h := by assumption) (r : Rpl b (some (.row .ex l)) (some (.row .ex l')) L L' := by repeat (first | exact Rpl.head _ | apply Rpl.tail)) (h1 : l.length = n := by first | rfl | assumption) (h2 : ∀ v ∈ l, v.one = true := by first | assumption | exact dK _ | (repeat (first | exact bT | refine bJ (by first | rfl | assumption | exact Fz.one (by assumption)) ?_))) (h3 : l'.length = n := by first | rfl | assumption) (h4 : ∀ v ∈ l', v.one = true := by first | assumption | exact dK _ | (repeat (first | exact bT | refine bJ (by first | rfl | assumption | exact Fz.one (by assumption)) ?_))) : Ev (fun m => bnd (aC n (.p b 0) (.a l') h) (k m)) P := bSd S r h1 h2 h3 h4 H
theorem wu (H : ∀ h', Sy I A Q L' h' → Ev (fun n => k n dA h') P) (S : Sy I A Q L h := by assumption) (r : Rpl b (some (.row .ex l)) (some (.row .ex l')) L L' := by repeat (first | exact Rpl.head _ | apply Rpl.tail)) (e : l.set o v = l' := by rfl) (h1 : ∃ x, l[o]? = some x ∧ x.one = true := by exact ⟨_, rfl, by first | rfl | assumption | exact Fz.one (by assumption)⟩) (hv : v.one = true := by first | rfl | assumption | exact Fz.one (by assumption)) : Ev (fun m => bnd (aC 1 (.p b o) v h) (k m)) P := bSl S r e h1 hv H
theorem wv (H : ∀ h', Sy I A Q' L h' → Ev (fun n => k n dA h') P) (S : Sy I A Q L h := by assumption) (r : Rpl b (some (.row .ex l)) (some (.row .ex l')) Q Q' := by repeat (first | exact Rpl.head _ | apply Rpl.tail)) (e : l.set o v = l' := by rfl) (h1 : ∃ x, l[o]? = some x ∧ x.one = true := by exact ⟨_, rfl, by first | rfl | assumption | exact Fz.one (by assumption)⟩) (hv : v.one = true := by first | rfl | assumption | exact Fz.one (by assumption)) : Ev (fun m => bnd (aC 1 (.p b o) v h) (k m)) P := bSm S r e h1 hv H
theorem wb (H : ∀ b h', Sy I A Q ((b, some (.row .ex cs)) :: L) h' → Ev (fun n => k n (.p b 0) h') P) (S : Sy I A Q L h := by assumption) (e : cD v = some cs := by rfl) : Ev (fun n => bnd (iH v h) (k n)) P := Ev.box S e H
theorem zt (H : Ev (fun n => bnd (F n) (k n)) P) : Ev (fun n => bnd (gD (.b true) true (F n) h) (k n)) P := H
theorem zf (H : Ev (fun n => bnd (F n) (k n)) P) : Ev (fun n => bnd (gD (.b false) false (F n) h) (k n)) P := H
theorem yf (H : Ev (fun n => k n dA h) P) : Ev (fun n => bnd (gD (.b false) true (F n) h) (k n)) P := H
theorem yg (H : Ev (fun n => k n dA h) P) : Ev (fun n => bnd (gD (.b true) false (F n) h) (k n)) P := H
theorem yu {c : Bool} (H : Ev (fun n => k n dA h) P) : Ev (fun n => bnd (gD dA c (F n) h) (k n)) P := H
theorem yt (H : Ev F P) : Ev (fun n => cE (.b true) (F n) (G n)) P := H
theorem yj (H : Ev G P) : Ev (fun n => cE (.b false) (F n) (G n)) P := H
theorem ap (H : Ev (fun n => k n x h) P) : Ev (fun n => bnd (bZ (.b true) x y h) (k n)) P := H
theorem aq (H : Ev (fun n => k n y h) P) : Ev (fun n => bnd (bZ (.b false) x y h) (k n)) P := H
theorem an (H : Ev (fun n => k n (.b false) h) P) : Ev (fun n => bnd (tJ .not (.b true) h) (k n)) P := H
theorem ao (H : Ev (fun n => k n (.b true) h) P) : Ev (fun n => bnd (tJ .not (.b false) h) (k n)) P := H
theorem wp (H : Ev (fun n => k n v h) P) (e : cs[i]? = some v := by rfl) : Ev (fun n => bnd (eW i (.a cs) h) (k n)) P := bSf e H
theorem wx (H : Ev (fun n => k n v h) P) (e : cs[i]? = some v := by rfl) : Ev (fun n => bnd (aM i (.t cs) h) (k n)) P := bSg e H
end
theorem wd {k : Nat → DV → Hp → aG} {P : DV → Hp → Prop} {h : Hp} {cs : List DV} {z : List DV} {ps : List (Nat × Nat × DV)} (H : Ev (fun n => k n (.a cs) h) P) (e : cJ z ps = some cs := by first | rfl | ((repeat (rw [aJk (by first | rfl | assumption | exact Fz.one (by assumption)) (by simp)])); rfl)) : Ev (fun n => bnd (cM z ps h) (k n)) P := bSn e H
structure PSt where
 toks : List Tok
 deep : Int
 pos : Int
 err : Int
def jB (x : Int) : Int := IntKind.i64.wrap x
def aX (st : PSt) (k : Nat) : Option Tok := st.toks[min k (st.toks.length - 1)]?
def cP (st : PSt) (t : Tok) (e : Int) : PSt := if st.err = 0 then { st with pos := t.pos, err := e } else st
def aT (st : PSt) : Option (Tok × PSt) :=
 (aX st 0).bind fun t => if t.kind = 0 then some (t, st) else if 2 ≤ st.toks.length then some (t, { st with toks := st.toks.drop 1 }) else none
def dQ (st : PSt) (kind : Int) (text : List Nat) : Option Bool :=
 (aX st 0).bind fun t => some (decide (st.err = 0) && decide (t.kind = kind) && (decide (text = []) || decide (t.text = text)))
def z4 : Tok := ⟨0, [], 0, 0⟩
def dZ (st : PSt) (kind : Int) (text : List Nat) : Option (Tok × PSt) :=
 (dQ st kind text).bind fun c => if c then aT st else (aX st 0).bind fun t => some (z4, cP st t 13)
def nC (st : PSt) (kind : Int) (len : Nat) : Option (List Nat × PSt) :=
 (dZ st kind []).bind fun r => some (r.1.text, if len = 4 then cP r.2 r.1 18 else r.2)
def oK (st : PSt) : Option Bool :=
 (aX st 1).bind fun t => (dQ st 3 [45]).bind fun c => (aX st 0).bind fun u => some (c && decide (t.kind = 4) && decide (t.pos = jB (u.pos + 1)))
def PS (p : Pos) (s : DV) (st : PSt) : Pos × Option Ob := (p, some (.row .ex [s, .i .i64 st.deep, .i .i64 st.pos, .i .i64 st.err]))
theorem aKt {st : PSt} {k : Nat} {t : Tok} (h : aX st k = some t) : 1 ≤ st.toks.length := by
 unfold aX at h
 have := (gLt h)
 omega
theorem aYu (n : Nat) (x y : DV) (h : Hp) : aL (n + 1) 81 [x, y] h = s81 (aL n) n x y h := by kernel_rfl
theorem aVu (n : Nat) (x y z : DV) (h : Hp) : aL (n + 1) 77 [x, y, z] h = s77 (aL n) n x y z h := by kernel_rfl
theorem aVs (n : Nat) (x : DV) (h : Hp) : aL (n + 1) 78 [x] h = s78 (aL n) n x h := by kernel_rfl
theorem aYp (n : Nat) (x y z : DV) (h : Hp) : aL (n + 1) 80 [x, y, z] h = s80 (aL n) n x y z h := by kernel_rfl
theorem aXe (n : Nat) (x y z : DV) (h : Hp) : aL (n + 1) 51 [x, y, z] h = s51 (aL n) n x y z h := by kernel_rfl
theorem aVk (n : Nat) (x y z : DV) (h : Hp) : aL (n + 1) 82 [x, y, z] h = s82 (aL n) n x y z h := by kernel_rfl
theorem aKl (n : Nat) (x : DV) (h : Hp) : aL (n + 1) 161 [x] h = s161 (aL n) n x h := by kernel_rfl
section
variable {I : Im} {A L : Ls} {h : Hp} {p : Pos} {s : DV} {st : PSt}
theorem fS (S : Sy I A [PS p s st] L h) (T : TS' I s st.toks) {k : Nat} {t : Tok} (hk : aX st k = some t) :
 Ev (fun n => aL n 81 [.p p 0, .i .i64 (Int.ofNat k)] h) (fun v h' => v = .a (tc t) ∧ Sy I A [PS p s st] L h') := by
 refine Ev.enter (fun n => aYu n _ _ h) ?_
 unfold s81
 have hs := T.2.one
 refine wa fun _ _ _ => ?_; refine wn (wf ?_); refine wq ?_; refine wn (wf ?_); refine wq ?_
 refine Ev.op (T.2.len _) (bQg ?_)
 have hlen := aKt hk
 have hl := T.1
 have e1 : IntKind.i64.wrap ((st.toks.length : Int) - Int.ofNat 1) = ((st.toks.length - 1 : Nat) : Int) := by
  rw [gE _ (by simp; omega) (by simp [cA] at hl ⊢; omega)]
  simp; omega
 rw [e1]
 have e2 : ∀ h, aIx (.i .i64 (Int.ofNat k)) (.i .i64 ((st.toks.length - 1 : Nat) : Int)) h = some (.i .i64 ((min k (st.toks.length - 1) : Nat) : Int), h) := fun h => by
  unfold aIx
  have : (if ((st.toks.length - 1 : Nat) : Int) < Int.ofNat k then ((st.toks.length - 1 : Nat) : Int) else Int.ofNat k) = ((min k (st.toks.length - 1) : Nat) : Int) := by
   show (if ((st.toks.length - 1 : Nat) : Int) < (k : Int) then ((st.toks.length - 1 : Nat) : Int) else (k : Int)) = _
   split <;> omega
  show some (DV.i .i64 (if ((st.toks.length - 1 : Nat) : Int) < Int.ofNat k then ((st.toks.length - 1 : Nat) : Int) else Int.ofNat k), h) = _
  rw [this]
 refine Ev.op (e2 _) ?_
 obtain ⟨b, o, a1, a2⟩ := T.at (by assumption) hk
 refine Ev.op (a1 _) (Ev.op a2 ?_)
 refine wt fun _ _ => ?_; refine ws ?_
 exact bOo ⟨rfl, Sy.dropL (by assumption)⟩
theorem eO (S : Sy I A [PS p s st] L h) (T : TS' I s st.toks) {kind : Int} {text : List Nat} {c : Bool} (hc : dQ st kind text = some c) :
 Ev (fun n => aL n 77 [.p p 0, .i .i64 kind, .s text] h) (fun v h' => v = .b c ∧ Sy I A [PS p s st] L h') := by
 unfold dQ at hc
 obtain ⟨t, ht, hc⟩ := bD hc
 simp only [aW] at hc
 refine Ev.enter (fun n => aVu n _ _ _ h) ?_
 unfold s77
 refine bOm (fS S T ht) ?_
 rintro _ _ ⟨rfl, S1⟩
 refine wa fun _ _ _ => ?_; refine wt fun _ _ => ?_; refine wn (wf ?_); refine wq ?_
 refine bOr (fun e1 => ?_) (fun e1 => ?_)
 ·refine zt (wf (zt ?_)); refine wl ?_; refine zt (wm (zt ?_))
  refine bOr (fun e2 => ?_) (fun e2 => ?_)
  ·refine ap (zt (wm (zt ?_)))
   refine bRp (fun e3 => ?_) (fun e3 => ?_)
   ·refine zt (wm (yg (yg (yg (yg (zt (ap (ap ?_))))))))
    exact bOo ⟨by rw [← hc]; simp at e1; simp [e1, e2, e3], dp⟩
   ·refine zt (wm (zf (wf (zf ?_)))); refine wl ?_; refine zf (wm (zf ?_))
    refine bRp (fun e4 => ?_) (fun e4 => ?_)
    ·refine zt (aq (ap ?_))
     exact bOo ⟨by rw [← hc]; simp at e1; simp [e1, e2, e3, e4], dp⟩
    ·refine zt (aq (ap ?_))
     exact bOo ⟨by rw [← hc]; simp at e1; simp [e1, e2, e3, e4], dp⟩
  ·refine ap (yf (yf (yf (yu (yu (yu (yu (yf (aq ?_)))))))))
   exact bOo ⟨by rw [← hc]; simp at e1; simp [e1, e2], dp⟩
 ·refine yf (yf (yf (yf (aq (yf (yf (yf (yu (yu (yu (yu (yf (aq ?_)))))))))))))
  exact bOo ⟨by rw [← hc]; simp at e1; simp [e1], dp⟩
theorem jY (S : Sy I A [PS p s st] L h) (hs : s.one = true) (t : Tok) (e : Int) :
 Ev (fun n => aL n 80 [.p p 0, .a (tc t), .i .i64 e] h) (fun v h' => v = .t [] ∧ Sy I A [PS p s (cP st t e)] L h') := by
 refine Ev.enter (fun n => aYp n _ _ _ h) ?_
 unfold s80
 refine wb fun _ _ _ => ?_; refine wn (wf ?_); refine wq ?_
 refine bOr (fun e1 => ?_) (fun e1 => ?_)
 ·refine yt (wf ?_); refine wl ?_; refine wn (wf ?_); refine wv fun _ _ => ?_; refine wn (wf ?_); refine wv fun _ _ => ?_
  have : cP st t e = { st with pos := t.pos, err := e } := by simp at e1; simp [cP, e1]
  rw [this]
  exact bOo ⟨rfl, dp⟩
 ·refine yj ?_
  have : cP st t e = st := by simp at e1; simp [cP, e1]
  rw [this]
  exact bOo ⟨rfl, dp⟩
theorem cN (S : Sy I A [PS p s st] L h) (T : TS' I s st.toks) {t : Tok} {st' : PSt} (ht : aT st = some (t, st')) :
 Ev (fun n => aL n 78 [.p p 0] h) (fun v h' => v = .a (tc t) ∧ ∃ s', Sy I A [PS p s' st'] L h' ∧ TS' I s' st'.toks) := by
 unfold aT at ht
 obtain ⟨u, hu, ht⟩ := bD ht
 have hs := T.2.one
 refine Ev.enter (fun n => aVs n _ h) ?_
 unfold s78 bBo
 refine wa fun _ _ _ => ?_
 refine bOm (fS (by assumption) T hu) ?_
 rintro _ _ ⟨rfl, S1⟩
 unfold bBb
 refine wa fun _ _ _ => ?_; refine wt fun _ _ => ?_; refine wf ?_; refine wl ?_
 unfold aRh
 refine bPq (fun e1 => ?_) (fun e1 => ?_)
 ·refine yt (wn (wf ?_)); refine wq ?_
  simp only [show ¬ u.kind = 0 from e1, if_false] at ht
  split at ht
  ·rename_i h2
   simp only [aW, bR] at ht
   obtain ⟨rfl, rfl⟩ := ht
   obtain ⟨s', e, T'⟩ := T.tail (i := 1) (by assumption) (by omega)
   have hs' := T'.2.one
   refine Ev.op e ?_
   refine wn (wf ?_); refine wv fun _ _ => ?_; refine ws ?_; refine wt fun _ _ => ?_; refine ws ?_
   exact bOo ⟨rfl, s', dp, T'⟩
  ·cases ht
 ·refine yj ?_; refine ws ?_; refine wt fun _ _ => ?_; refine ws ?_
  simp only [show u.kind = 0 from e1, if_true, aW, bR] at ht
  obtain ⟨rfl, rfl⟩ := ht
  exact bOo ⟨rfl, s, dp, T⟩
theorem cX (st : PSt) (t : Tok) (e : Int) : (cP st t e).toks = st.toks := by
 unfold cP; split <;> rfl
theorem lK (S : Sy I A [PS p s st] L h) (T : TS' I s st.toks) {kind : Int} {text : List Nat} {t : Tok} {st' : PSt} (ht : dZ st kind text = some (t, st')) :
 Ev (fun n => aL n 51 [.p p 0, .i .i64 kind, .s text] h) (fun v h' => v = .a (tc t) ∧ ∃ s', Sy I A [PS p s' st'] L h' ∧ TS' I s' st'.toks) := by
 unfold dZ at ht
 obtain ⟨c, hc, ht⟩ := bD ht
 refine Ev.enter (fun n => aXe n _ _ _ h) ?_
 unfold s51
 refine wa fun _ _ _ => ?_
 refine bOm (eO (by assumption) T hc) ?_
 rintro _ _ ⟨rfl, S1⟩
 cases c with
 | true =>
  refine an (yj ?_)
  refine bOm (cN (by assumption) T ht) ?_
  rintro _ _ ⟨rfl, s', S2, T2⟩
  refine wt fun _ _ => ?_; refine ws ?_
  exact bOo ⟨rfl, s', dp, T2⟩
 | false =>
  refine ao (yt ?_)
  obtain ⟨u, hu, ht⟩ := bD (by simpa using ht)
  simp only [aW, bR] at ht
  obtain ⟨rfl, rfl⟩ := ht
  refine bOm (fS (k := 0) (by assumption) T hu) ?_
  rintro _ _ ⟨rfl, S2⟩
  refine bOm (jY (by assumption) T.2.one u _) ?_
  rintro _ _ ⟨rfl, S3⟩
  refine wd ?_; refine wt fun _ _ => ?_; refine ws ?_
  exact bOo ⟨rfl, s, dp, by rw [cX]; exact T⟩
theorem aUp (S : Sy I A [PS p s st] L h) (T : TS' I s st.toks) {kind : Int} {x : DV} {len : Nat} (hl : ∀ h, gZ x h = some (.i .i64 (len : Int), h)) {t : List Nat} {st' : PSt} (ht : nC st kind len = some (t, st')) :
 Ev (fun n => aL n 82 [.p p 0, .i .i64 kind, x] h) (fun v h' => v = .s t ∧ ∃ s', Sy I A [PS p s' st'] L h' ∧ TS' I s' st'.toks) := by
 unfold nC at ht
 obtain ⟨⟨u, st1⟩, hu, ht⟩ := bD ht
 simp only [aW, bR] at ht
 obtain ⟨rfl, rfl⟩ := ht
 refine Ev.enter (fun n => aVk n _ _ _ h) ?_
 unfold s82 bBf
 refine bOm (lK S T hu) ?_
 rintro _ _ ⟨rfl, s', S1, T1⟩
 unfold bBu
 refine wa fun _ _ _ => ?_; refine wt fun _ _ => ?_
 refine Ev.op (hl _) ?_
 unfold aMl
 refine bOr (fun e1 => ?_) (fun e1 => ?_)
 ·refine yt ?_; refine ws ?_
  have e2 : len = 4 := by simp at e1; omega
  rw [if_pos e2]
  refine bOm (jY (by assumption) T1.2.one u _) ?_
  rintro _ _ ⟨rfl, S3⟩
  refine wf ?_; refine wl ?_
  exact bOo ⟨rfl, s', dp, by rw [cX]; exact T1⟩
 ·refine yj (wf ?_); refine wl ?_
  have e2 : ¬ len = 4 := by simp at e1; omega
  rw [if_neg e2]
  exact bOo ⟨rfl, s', dp, T1⟩
theorem bDu (S : Sy I A [PS p s st] L h) (T : TS' I s st.toks) {c : Bool} (hc : oK st = some c) :
 Ev (fun n => aL n 161 [.p p 0] h) (fun v h' => v = .b c ∧ Sy I A [PS p s st] L h') := by
 unfold oK at hc
 obtain ⟨t, ht, hc⟩ := bD hc
 obtain ⟨d, hd, hc⟩ := bD hc
 obtain ⟨u, hu, hc⟩ := bD hc
 simp only [aW] at hc
 refine Ev.enter (fun n => aKl n _ h) ?_
 unfold s161
 refine bOm (fS (k := 1) S T ht) ?_
 rintro _ _ ⟨rfl, S1⟩
 refine wa fun _ _ _ => ?_; refine wt fun _ _ => ?_
 refine bOm (eO (by assumption) T hd) ?_
 rintro _ _ ⟨rfl, S2⟩
 cases d with
 | false =>
  refine yf (yf (yf (aq (yf (yf (yf (yf ?_)))))))
  refine bPg rfl ?_
  refine yf (yf (yf (aq ?_)))
  exact bOo ⟨by rw [← hc]; rfl, dp⟩
 | true =>
  refine zt (wf (zt ?_)); refine wl ?_; refine zt ?_
  refine bOr (fun e1 => ?_) (fun e1 => ?_)
  ·refine ap (zt (wf (zt ?_))); refine wl ?_; refine zt (wm (zt ?_))
   refine bOm (fS (k := 0) (by assumption) T hu) ?_
   rintro _ _ ⟨rfl, S3⟩
   refine bPg ?_ ?_
   ·rw [Bool.and_true]
    exact bBn (S := S3) (fO) rfl rfl (by simp [DV.beq])
   refine zt ?_; refine wp ?_; refine zt ?_
   refine bOw ?_
   refine zt ?_
   refine bOr (fun e2 => ?_) (fun e2 => ?_)
   ·refine ap ?_
    exact bOo ⟨by rw [← hc, decide_eq_true (show t.kind = 4 from e1), decide_eq_true (show t.pos = jB (u.pos + 1) from e2)]; rfl, dp⟩
   ·refine ap ?_
    exact bOo ⟨by rw [← hc, decide_eq_true (show t.kind = 4 from e1), decide_eq_false (show ¬ t.pos = jB (u.pos + 1) from e2)]; rfl, dp⟩
  ·refine ap (yf (yf (yf (yf ?_))))
   refine bPg rfl ?_
   refine yf (yf (yf (aq ?_)))
   exact bOo ⟨by rw [← hc, decide_eq_false (show ¬ t.kind = 4 from e1)]; rfl, dp⟩
end
end Go.Dd

namespace Go.Dd
open Go.Proofs
theorem kO {c : List DV} (h : c.length = 6) : cJ [(.i .i64 (Int.ofNat 0)), (.s []), (.i .i64 (Int.ofNat 0)), .l0, .l0, .l0] [(0, 6, .a c)] = some c := by
 simp [cJ, cD, h]
theorem aDi {c d : List DV} (h : c.length = 6) (h' : d.length = 6) : cJ [(.i .i64 (Int.ofNat 0)), (.s []), (.i .i64 (Int.ofNat 0)), .l0, .l0, .l0, (.i .i64 (Int.ofNat 0)), (.s []), (.i .i64 (Int.ofNat 0)), .l0, .l0, .l0] [(0, 6, .a c), (6, 6, .a d)] = some (c ++ d) := by
 have e : List.take 6 (c ++ [(.i .i64 (Int.ofNat 0)), (.s []), (.i .i64 (Int.ofNat 0)), .l0, .l0, .l0]) = c := by rw [← h, List.take_left]
 have e2 : List.drop 12 (c ++ [(DV.i .i64 (Int.ofNat 0)), (.s []), (.i .i64 (Int.ofNat 0)), .l0, .l0, .l0]) = [] := by simp [h]
 simp [cJ, cD, h, h']
section
variable {I : Im} {A Q L L' : Ls} {h : Hp} {k : Nat → DV → Hp → aG} {P : DV → Hp → Prop} {b : Pos} {cs : List DV} {n : Nat} {kd : Kind} {l : List DV}
theorem bPo (S : Sy I A Q L h) {z : List DV} {ps : List (Nat × Nat × DV)} (r : Rpl b none (some (.row .ex cs)) L L') (e : cJ z ps = some cs)
 (H : ∀ h', Sy I A Q L' h' → Ev (fun m => k m (.l b 0 n n) h') P) : Ev (fun m => bnd (bE (dH 0 b) z n ps h) (k m)) P := bSe S r e H
theorem aAo (S : Sy I A Q L h) (m : (b, some (.row kd l)) ∈ L) (h1 : l.length = n) (h2 : ∀ v ∈ l, v.one = true) (hb : DV.beq (.a l) (.a l) = true) : cB (aE n (.p b 0) h) (.a l) = true := by
 rw [ldA (S.memL m) (aBj h1 h2)]; exact hb
end
def zN : Node := .mk 0 [] 0 [] [] []
def aH (t : List Nat) (ks : List Node) : Node := .mk 7 t 0 [] [] ks
def Node.kids : Node → List Node | .mk _ _ _ _ _ ks => ks
def Node.text : Node → List Nat | .mk _ t _ _ _ _ => t
def Node.kind : Node → Int | .mk k _ _ _ _ _ => k
def dO (st : PSt) : Option ((Node × Bool) × PSt) :=
 (aX st 0).bind fun t =>
  if st.err = 0 then (oK st).bind fun c =>
   if c then (aT st).bind fun r => (aT r.2).bind fun q => some ((.mk 1 [] (jB (0 - q.1.num)) [] [] [], true), q.2)
   else if t.kind = 4 then (aT st).bind fun r => some ((.mk 1 t.text t.num [] [] [], true), r.2)
   else if t.kind = 5 then (aT st).bind fun r => some ((.mk 2 t.text t.num [] [] [], true), r.2)
   else if t.kind = 6 then (aT st).bind fun r => some ((.mk 3 t.text t.num [] [] [], true), r.2)
   else some ((.mk 0 t.text t.num [] [] [], false), st)
  else some ((.mk 0 t.text t.num [] [] [], false), st)
def cF (f : PSt → Option (Node × PSt)) (st : PSt) : Option (Node × PSt) :=
 (aT st).bind fun r => if r.2.deep = 20 then some (zN, cP r.2 r.1 14)
  else (f { r.2 with deep := jB (r.2.deep + 1) }).bind fun q => some (q.1, { q.2 with deep := jB (q.2.deep - 1) })
def bO : Nat → Node → PSt → Option (Node × PSt)
 | 0, _, _ => none
 | f + 1, x, st => (dQ st 1 []).bind fun c => if c then (aT st).bind fun r => bO f (aH r.1.text [x]) r.2 else some (x, st)
def eU : Nat → List (List Nat) → PSt → Option (List (List Nat) × PSt)
 | 0, _, _ => none
 | f + 1, l, st => (dQ st 1 []).bind fun c => if c then (aT st).bind fun r => eU f (l ++ [r.1.text]) r.2 else (dZ st 10 [124]).bind fun r => some (l, r.2)
def hO (f : Nat) (st : PSt) : Option (List (List Nat) × PSt) :=
 (dQ st 10 [124]).bind fun c => if c then (aT st).bind fun r => eU f [] r.2 else some ([], st)
def NPost (I : Im) (A L : Ls) (p : Pos) (x : Node) (st : PSt) (v : DV) (h : Hp) : Prop := ∃ J s cs, v = .a cs ∧ ILe I J ∧ Sy J A [PS p s st] L h ∧ TS' J s st.toks ∧ NV J x cs
theorem NPost.le {I J : Im} {A L : Ls} {p : Pos} {x : Node} {st : PSt} (g : ILe I J) : ∀ v h, NPost J A L p x st v h → NPost I A L p x st v h := by
 rintro v h ⟨K, s, cs, e, g', r⟩
 exact ⟨K, s, cs, e, g.trans g', r⟩
def nJ (g : FuncId) (f : PSt → Option (Node × PSt)) : Prop := ∀ (I : Im) (A L : Ls) (h : Hp) (p : Pos) (s : DV) (st : PSt) (x : Node) (st' : PSt), Sy I A [PS p s st] L h → TS' I s st.toks → f st = some (x, st') →
 Ev (fun n => aL n g [.p p 0] h) (NPost I A L p x st')
def bCv (g : FuncId) (f : Node → PSt → Option (Node × PSt)) : Prop := ∀ (I : Im) (A L : Ls) (h : Hp) (p : Pos) (s : DV) (st : PSt) (x y : Node) (cs : List DV) (st' : PSt), Sy I A [PS p s st] L h → TS' I s st.toks → NV I x cs → f x st = some (y, st') →
 Ev (fun n => aL n g [.p p 0, .a cs] h) (NPost I A L p y st')
theorem NS.nil (I : Im) : NS I .l0 [] := ⟨by simp, [], .inl ⟨.inl rfl, rfl, rfl⟩, rfl⟩
theorem SS.nil (I : Im) : SS I .l0 [] := ⟨by simp, .inl ⟨.inl rfl, rfl, rfl⟩⟩
theorem NV.of {I : Im} {k : Int} {t : List Nat} {m : Int} {s1 s2 s3 : DV} {ns ts : List (List Nat)} {ks : List Node} (h1 : SS I s1 ns) (h2 : SS I s2 ts) (h3 : NS I s3 ks) : NV I (.mk k t m ns ts ks) [.i .i64 k, .s t, .i .i64 m, s1, s2, s3] :=
 ⟨s1, s2, s3, rfl, h1, h2, h3.1, h3.2⟩
theorem NV.flat {I : Im} (k : Int) (t : List Nat) (m : Int) : NV I (.mk k t m [] [] []) [.i .i64 k, .s t, .i .i64 m, .l0, .l0, .l0] := NV.of (SS.nil I) (SS.nil I) (NS.nil I)
theorem NS.one {I : Im} {s : DV} {ks : List Node} (H : NS I s ks) : s.one = true := by
 obtain ⟨_, c, f, _⟩ := H; exact f.one
theorem NS.len {I : Im} {s : DV} {ks : List Node} (H : NS I s ks) (h : Hp) : gZ s h = some (.i .i64 (ks.length : Int), h) := by
 obtain ⟨_, c, f, _⟩ := H; exact f.len h
theorem aBp (n : Nat) (x y : DV) (h : Hp) : aL (n + 1) 149 [x, y] h = s149 (aL n) n x y h := by kernel_rfl
theorem aSa (n : Nat) (x : DV) (h : Hp) : aL (n + 1) 138 [x] h = s138 (aL n) n x h := by kernel_rfl
theorem aLc (n : Nat) (x : DV) (h : Hp) : aL (n + 1) 155 [x] h = s155 (aL n) n x h := by kernel_rfl
theorem aPc (n : Nat) (x : DV) (h : Hp) : aL (n + 1) 150 [x] h = s150 (aL n) n x h := by kernel_rfl
theorem aSk (n : Nat) (x y : DV) (h : Hp) : aL (n + 1) 151 [x, y] h = s151 (aL n) n x y h := by kernel_rfl
theorem aQm (n : Nat) (x y : DV) (h : Hp) : aL (n + 1) 136 [x, y] h = s136 (aL n) n x y h := by kernel_rfl
theorem aVx (n : Nat) (x : DV) (h : Hp) : aL (n + 1) 49 [x] h = s49 (aL n) n x h := by kernel_rfl
theorem pO {I : Im} {A Q L : Ls} {h : Hp} (S : Sy I A Q L h) {t : List Nat} {x : DV} {ks : List Node} (N : NS I x ks) :
 Ev (fun n => aL n 149 [.s t, x] h) (fun v h' => ∃ cs, v = .a cs ∧ NV I (aH t ks) cs ∧ Sy I A Q L h') := by
 have hx := N.one
 refine Ev.enter (fun n => aBp n _ _ h) ?_
 unfold s149
 refine wa fun _ _ _ => ?_; refine wd ?_; refine wt fun _ _ => ?_; refine ws ?_
 exact bOo ⟨_, rfl, NV.of (SS.nil I) (SS.nil I) N, dp⟩
section
variable {I : Im} {A L : Ls} {h : Hp} {p : Pos} {s : DV} {st : PSt}
theorem zT (S : Sy I A [PS p s st] L h) (T : TS' I s st.toks) {x : Node} {c : Bool} {st' : PSt} (hm : dO st = some ((x, c), st')) :
 Ev (fun n => aL n 150 [.p p 0] h) (fun v h' => ∃ s' cs, v = .t [.a cs, .b c] ∧ Sy I A [PS p s' st'] L h' ∧ TS' I s' st'.toks ∧ NV I x cs) := by
 unfold dO at hm
 obtain ⟨t, ht, hm⟩ := bD hm
 refine Ev.enter (fun n => aPc n _ h) ?_
 unfold s150 aSq
 refine wa fun _ _ _ => ?_
 refine bOm (fS (k := 0) (by assumption) T ht) ?_
 rintro _ _ ⟨rfl, S1⟩
 unfold aLk aRe vQ
 refine wa fun _ _ _ => ?_; refine wt fun _ _ => ?_; refine wf ?_; refine wl ?_; refine wf ?_; refine wl ?_; refine wd ?_; refine wa fun _ _ _ => ?_; refine wt fun _ _ => ?_; refine wn (wf ?_); refine wq ?_
 refine bPq (fun e1 => ?_) (fun e1 => ?_)
 ·refine yt ?_; refine ws ?_; refine wt fun _ _ => ?_; refine ws ?_
  rw [if_neg (show ¬ st.err = 0 from e1)] at hm
  simp only [aW, bR] at hm
  obtain ⟨⟨rfl, rfl⟩, rfl⟩ := hm
  exact bOo ⟨s, _, rfl, dp, T, NV.flat _ _ _⟩
 ·refine yj ?_
  rw [if_pos (show st.err = 0 from e1)] at hm
  obtain ⟨d, hd, hm⟩ := bD hm
  refine bOm (bDu (by assumption) T hd) ?_
  rintro _ _ ⟨rfl, S2⟩
  cases d with
  | true =>
   refine yt ?_
   rw [if_pos rfl] at hm
   obtain ⟨⟨t1, st1⟩, ht1, hm⟩ := bD hm
   obtain ⟨⟨t2, st2⟩, ht2, hm⟩ := bD hm
   simp only [aW, bR] at hm
   obtain ⟨⟨rfl, rfl⟩, rfl⟩ := hm
   refine bOm (cN (by assumption) T ht1) ?_
   rintro _ _ ⟨rfl, s3, S3, T3⟩
   refine bOm (cN (by assumption) T3 ht2) ?_
   rintro _ _ ⟨rfl, s4, S4, T4⟩
   refine wp ?_
   refine bSo ?_
   refine wd ?_; refine wt fun _ _ => ?_; refine ws ?_
   exact bOo ⟨s4, _, rfl, dp, T4, NV.flat _ _ _⟩
  | false =>
   refine yj (wf ?_); refine wl ?_
   rw [if_neg (by simp)] at hm
   refine bOr (fun e2 => ?_) (fun e2 => ?_)
   ·refine yt (wf ?_); refine wu fun _ _ => ?_
    rw [if_pos (show t.kind = 4 from e2)] at hm
    obtain ⟨⟨t1, st1⟩, ht1, hm⟩ := bD hm
    simp only [aW, bR] at hm
    obtain ⟨⟨rfl, rfl⟩, rfl⟩ := hm
    refine bOm (cN (by assumption) T ht1) ?_
    rintro _ _ ⟨rfl, s3, S3, T3⟩
    refine ws ?_; refine wt fun _ _ => ?_; refine ws ?_
    exact bOo ⟨s3, _, rfl, dp, T3, NV.flat _ _ _⟩
   ·refine yj (wf ?_); refine wl ?_
    rw [if_neg (show ¬ t.kind = 4 from e2)] at hm
    refine bOr (fun e3 => ?_) (fun e3 => ?_)
    ·refine yt (wf ?_); refine wu fun _ _ => ?_
     rw [if_pos (show t.kind = 5 from e3)] at hm
     obtain ⟨⟨t1, st1⟩, ht1, hm⟩ := bD hm
     simp only [aW, bR] at hm
     obtain ⟨⟨rfl, rfl⟩, rfl⟩ := hm
     refine bOm (cN (by assumption) T ht1) ?_
     rintro _ _ ⟨rfl, s3, S3, T3⟩
     refine ws ?_; refine wt fun _ _ => ?_; refine ws ?_
     exact bOo ⟨s3, _, rfl, dp, T3, NV.flat _ _ _⟩
    ·refine yj (wf ?_); refine wl ?_
     rw [if_neg (show ¬ t.kind = 5 from e3)] at hm
     refine bOr (fun e4 => ?_) (fun e4 => ?_)
     ·refine yt (wf ?_); refine wu fun _ _ => ?_
      rw [if_pos (show t.kind = 6 from e4)] at hm
      obtain ⟨⟨t1, st1⟩, ht1, hm⟩ := bD hm
      simp only [aW, bR] at hm
      obtain ⟨⟨rfl, rfl⟩, rfl⟩ := hm
      refine bOm (cN (by assumption) T ht1) ?_
      rintro _ _ ⟨rfl, s3, S3, T3⟩
      refine ws ?_; refine wt fun _ _ => ?_; refine ws ?_
      exact bOo ⟨s3, _, rfl, dp, T3, NV.flat _ _ _⟩
     ·refine yj ?_; refine ws ?_; refine wt fun _ _ => ?_; refine ws ?_
      rw [if_neg (show ¬ t.kind = 6 from e4)] at hm
      simp only [aW, bR] at hm
      obtain ⟨⟨rfl, rfl⟩, rfl⟩ := hm
      exact bOo ⟨s, _, rfl, dp, T, NV.flat _ _ _⟩
theorem lO {g : FuncId} {f : PSt → Option (Node × PSt)} (hg : ∀ (rec : FuncId → List DV → Hp → aG) (x : DV) (h : Hp), dP CF rec (.f g [x] []) [] h = rec g [x] h) (F : nJ g f) (S : Sy I A [PS p s st] L h) (T : TS' I s st.toks) {x : Node} {st' : PSt} (hm : cF f st = some (x, st')) :
 Ev (fun n => aL n 151 [.p p 0, .f g [.p p 0] []] h) (NPost I A L p x st') := by
 unfold cF at hm
 obtain ⟨⟨t, st1⟩, ht, hm⟩ := bD hm
 refine Ev.enter (fun n => aSk n _ _ h) ?_
 unfold s151
 simp only [hg]
 refine wa fun _ _ _ => ?_
 refine bOm (cN (by assumption) T ht) ?_
 rintro _ _ ⟨rfl, s1, S1, T1⟩
 have hs1 := T1.2.one
 refine wa fun _ _ _ => ?_; refine wt fun _ _ => ?_; refine wn (wf ?_); refine wq ?_
 refine bOr (fun e1 => ?_) (fun e1 => ?_)
 ·refine yt ?_; refine ws ?_
  rw [if_pos (show st1.deep = 20 from e1)] at hm
  simp only [aW, bR] at hm
  obtain ⟨rfl, rfl⟩ := hm
  refine bOm (jY (by assumption) T1.2.one t _) ?_
  rintro _ _ ⟨rfl, S3⟩
  refine wd ?_; refine wt fun _ _ => ?_; refine ws ?_
  exact bOo ⟨I, s1, _, rfl, ILe.refl _, dp, by rw [cX]; exact T1, NV.flat _ _ _⟩
 ·refine yj (wn (wf ?_)); refine wq ?_
  rw [if_neg (show ¬ st1.deep = 20 from e1)] at hm
  obtain ⟨⟨y, st2⟩, hy, hm⟩ := bD hm
  simp only [aW, bR] at hm
  obtain ⟨rfl, rfl⟩ := hm
  refine bOw ?_
  refine wn (wf ?_); refine wv fun _ _ => ?_
  refine bOm (F I A _ _ p s1 { st1 with deep := jB (st1.deep + 1) } _ _ (by assumption) T1 hy) ?_
  rintro _ _ ⟨J, s2, cs, rfl, g2, S2, T2, N2⟩
  obtain ⟨l2, o2, b2⟩ := N2.shape
  have hs2 := T2.2.one
  refine wa fun _ _ _ => ?_; refine wt fun _ _ => ?_; refine wn (wf ?_); refine wq ?_
  refine bQg ?_
  refine wn (wf ?_); refine wv fun _ _ => ?_; refine ws ?_; refine wt fun _ _ => ?_; refine ws ?_
  exact bOo ⟨J, s2, cs, rfl, g2, dp, T2, N2⟩
theorem rC : ∀ (f j : Nat) (I : Im) (A L : Ls) (h : Hp) (p : Pos) (s : DV) (st : PSt) (x y : Node) (cs z : List DV) (st' : PSt) (b3 b4 : Pos), Sy I A [PS p s st] ((b4, some (.row .ex z)) :: (b3, some (.row .ex cs)) :: L) h →
 z.length = 6 → (∀ v ∈ z, v.one = true) → TS' I s st.toks → NV I x cs → bO f x st = some (y, st') → Ev (fun n => jS (aL n) n (n - j) (.p p 0) (.p b3 0) (.p b4 0) h) (NPost I A L p y st')
 | 0, j, I, A, L, h, p, s, st, x, y, cs, z, st', b3, b4, S, z1, z2, T, N, hm => by cases hm
 | f + 1, j, I, A, L, h, p, s, st, x, y, cs, z, st', b3, b4, S, z1, z2, T, N, hm => by
  unfold bO at hm
  obtain ⟨c, hc, hm⟩ := bD hm
  refine bOv j (ll := fun n m => jS (aL n) n m (.p p 0) (.p b3 0) (.p b4 0) h) (bb := fun n m => pV (aL n) n (jS (aL n) n m) (.p p 0) (.p b3 0) (.p b4 0) h) (fun _ _ => rfl) ?_
  unfold pV eE
  obtain ⟨l1, o1, b1⟩ := N.shape
  refine bOm (eO S T hc) ?_
  rintro _ _ ⟨rfl, S1⟩
  cases c with
  | false =>
   refine yj ?_; refine ws ?_; refine wt fun _ _ => ?_; refine ws ?_
   rw [if_neg (by simp)] at hm
   simp only [aW, bR] at hm
   obtain ⟨rfl, rfl⟩ := hm
   exact bOo ⟨I, s, cs, rfl, ILe.refl _, dp, T, N⟩
  | true =>
   refine yt ?_
   rw [if_pos rfl] at hm
   obtain ⟨⟨t, st1⟩, ht, hm⟩ := bD hm
   have Sr := S1.res
   refine bOm (cN Sr T ht) ?_
   rintro _ _ ⟨rfl, s2, S2, T2⟩
   refine wp ?_; refine ws ?_
   refine bPg ?_ ?_
   ·rw [Bool.and_true]; exact aAo Sr (by repeat (first | exact fO | apply List.Mem.tail)) l1 o1 b1
   refine bPo S2 (by repeat (first | exact Rpl.head _ | apply Rpl.tail)) (kO l1) ?_
   intro h3 S3
   obtain ⟨J, gJ, S4, F4, _⟩ := Fz.built (sz := 6) (n := 1) S3 (by omega) o1
   have N4 : NS J _ [x] := ⟨by simp [cA], cs, F4, bOu (N.mono gJ)⟩
   refine bOm (pO S4 N4) ?_
   rintro _ _ ⟨cs5, rfl, N5, S5⟩
   obtain ⟨l5, o5, b5⟩ := N5.shape
   refine wt fun _ _ => ?_
   exact (rC f (j + 1) J A L _ p s2 st1 _ y cs5 z st' b3 b4 (by assumption) z1 z2 (T2.mono gJ) N5 hm).mono (NPost.le gJ)
theorem nO (f : Nat) : bCv 136 (bO f) := by
 intro I A L h p s st x y cs st' S T N hm
 refine Ev.enter (fun n => aQm n _ _ h) ?_
 unfold s136 yN aDa
 refine wb fun _ _ _ => ?_; refine wa fun _ _ _ => ?_
 exact rC f 0 _ _ _ _ _ _ _ _ _ _ _ _ _ _ (by assumption) rfl (by first | assumption | exact dK _ | (repeat (first | exact bT | refine bJ (by first | rfl | assumption | exact Fz.one (by assumption)) ?_))) T N hm
theorem tA : ∀ (f j : Nat) (I : Im) (B A L : Ls) (h : Hp) (p : Pos) (s x : DV) (st : PSt) (l l' : List (List Nat)) (st' : PSt), Sy I (B ++ A) [PS p s st] L h → Gr I 1 B x l.length (l.map .s) → l.length + f ≤ cA →
 TS' I s st.toks → eU f l st = some (l', st') →
 Ev (fun n => mF (aL n) n (n - j) (.p p 0) x h) (fun v h' => ∃ J s', ILe I J ∧ Sy J A [PS p s' st'] L h' ∧ TS' J s' st'.toks ∧ SS J v l')
 | 0, j, I, B, A, L, h, p, s, x, st, l, l', st', S, G, hl, T, hm => by cases hm
 | f + 1, j, I, B, A, L, h, p, s, x, st, l, l', st', S, G, hl, T, hm => by
  unfold eU at hm
  obtain ⟨c, hc, hm⟩ := bD hm
  refine bOv j (ll := fun n m => mF (aL n) n m (.p p 0) x h) (bb := fun n m => wA (aL n) n (mF (aL n) n m) (.p p 0) x h) (fun _ _ => rfl) ?_
  unfold wA gL
  refine bOm (eO S T hc) ?_
  rintro _ _ ⟨rfl, S1⟩
  cases c with
  | false =>
   refine yj ?_
   rw [if_neg (by simp)] at hm
   obtain ⟨⟨t, st1⟩, ht, hm⟩ := bD hm
   simp only [aW, bR] at hm
   obtain ⟨rfl, rfl⟩ := hm
   refine bOm (lK S1 T ht) ?_
   rintro _ _ ⟨rfl, s2, S2, T2⟩
   obtain ⟨J, gJ, S3, F3⟩ := G.freeze S2
   exact bOo ⟨J, s2, gJ, S3, T2.mono gJ, by omega, F3⟩
  | true =>
   refine yt ?_
   rw [if_pos rfl] at hm
   obtain ⟨⟨t, st1⟩, ht, hm⟩ := bD hm
   refine bOm (cN S1 T ht) ?_
   rintro _ _ ⟨rfl, s2, S2, T2⟩
   refine wp ?_
   refine bPl S2 (cs := [.s t.text]) rfl ?_
   intro b3 h3 S3
   have hr : (l.length + 1) * 16 ≤ gA := by simp [gA, cA] at hl ⊢; omega
   obtain ⟨x4, h4, B4, e4, S4, G4⟩ := G.app S3 (nI S3 (n := 1) (fO) rfl (bJ rfl bT)) rfl (bJ rfl bT) (by omega) hr
   refine Ev.op e4 ?_
   refine tA f (j + 1) I B4 A L h4 p s2 x4 st1 (l ++ [t.text]) l' st' (dp) ?_ (by simp; omega) T2 hm
   simpa using G4
theorem aBy (f : Nat) (hf : f ≤ cA) (S : Sy I A [PS p s st] L h) (T : TS' I s st.toks) {l' : List (List Nat)} {st' : PSt} (hm : hO f st = some (l', st')) :
 Ev (fun n => aL n 49 [.p p 0] h) (fun v h' => ∃ J s', ILe I J ∧ Sy J A [PS p s' st'] L h' ∧ TS' J s' st'.toks ∧ SS J v l') := by
 unfold hO at hm
 obtain ⟨c, hc, hm⟩ := bD hm
 refine Ev.enter (fun n => aVx n _ h) ?_
 unfold s49 aEd aEy
 refine bOm (eO S T hc) ?_
 rintro _ _ ⟨rfl, S1⟩
 cases c with
 | false =>
  refine ao (yt ?_)
  rw [if_neg (by simp)] at hm
  simp only [aW, bR] at hm
  obtain ⟨rfl, rfl⟩ := hm
  exact bOo ⟨I, s, ILe.refl _, S1, T, SS.nil I⟩
 | true =>
  refine an (yj ?_)
  rw [if_pos rfl] at hm
  obtain ⟨⟨t, st1⟩, ht, hm⟩ := bD hm
  unfold aHn aFi aJu
  refine bOm (cN S1 T ht) ?_
  rintro _ _ ⟨rfl, s2, S2, T2⟩
  exact tA f 0 I [] A L _ p s2 .l0 st1 [] l' st' S2 (Gr.nil I 1) (by simpa using hf) T2 hm
end
end Go.Dd

