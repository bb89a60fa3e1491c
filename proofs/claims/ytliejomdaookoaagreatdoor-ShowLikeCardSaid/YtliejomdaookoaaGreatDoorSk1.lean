/- A part of the proof: Q0 Q1 Q2 Q3 Q4 Q5 Q6 Qt SH R R1 R2 U S1 S2 S3 S4 S5 S6 S7 S8 S10 LV T1 ZR T2: each text has a comment of its own. -/
import Derived.Test.YtliejomdaookoaaGreatDoorSk0
import Derived.Shelf.Strings.Builder1
import Derived.Shelf.Strings.Builder2
import Derived.Shelf.Strings.OnBuilder
import Derived.Shelf.Small.Strs
import Derived.Shelf.Strconv.Itoa0
import Derived.Shelf.Strconv.Itoa1
import Derived.Shelf.LaysM
import Derived.Shelf.Strconv.Itoa2
import Derived.Shelf.Strconv.Itoa3
import Derived.Shelf.Strings.Search1
import Derived.Shelf.Strings.Search2
import Derived.Shelf.Strings.Search3
import Derived.Shelf.Strings.Count
import Derived.Shelf.Strings.Shaped
import Derived.Shelf.Strings.Split
import Derived.Shelf.Strings.Replace
import Derived.Shelf.Unicode.DecodeSlow
import Derived.Test.YtliejomdaookoaaGreatDoorProg
import Derived.Lib.SplitLaws
import Derived.Lib.IndexBytes
import Derived.Lib.Bytealg
import Derived.KernelRfl
import Derived.ChangeArms
import Derived.WalkKit
import Derived.ProofKit
set_option linter.unusedVariables false
set_option linter.unusedSimpArgs false
set_option linter.constructorNameAsVariable false
set_option maxRecDepth 100000
namespace Go.Dd
open Go.Proofs
noncomputable section
variable (r : RT) (n : Nat) (args : List DV) (h : Hp)
def bAl (r : RT) (n : Nat) (x0 : DV) (h0 : Hp) : aG :=
 bnd (r 14 [x0] h0) fun v1 h1 =>
 bnd (aL 0 v1 h1) fun v2 h2 =>
 bnd (aL 1 v1 h2) fun v3 h3 =>
 bnd (aL 2 v1 h3) fun v4 h4 =>
 bnd (cK fP h4) fun v5 h5 =>
 bnd (aC 6 v5 v2 h5) fun _ h6 =>
 bnd (aR .neq v4 (aJ 0) h6) fun v7 h7 =>
 cG v7 (
 bnd (r 10 [] h7) fun v8 h8 =>
 some (v8, h8)) (
 bnd (aD 6 v5 h7) fun v9 h9 =>
 bnd (cK fP h9) fun v10 h10 =>
 bnd (aC 6 v10 v9 h10) fun _ h11 =>
 bnd (aA 1 v10 h11) fun v12 h12 =>
 bnd (aC 1 v12 (.s [102, 111, 111]) h12) fun _ h13 =>
 bnd (aD 6 v5 h13) fun v14 h14 =>
 bnd (r 13 [v14] h14) fun v15 h15 =>
 bnd (aL 0 v15 h15) fun v16 h16 =>
 bnd (aL 1 v15 h16) fun v17 h17 =>
 bnd (aD 6 v10 h17) fun v18 h18 =>
 bnd (r 11 [v18] h18) fun v19 h19 =>
 bnd (aL 0 v19 h19) fun v20 h20 =>
 bnd (aL 1 v19 h20) fun v21 h21 =>
 bnd (aR .eql v17 (aJ 0) h21) fun v22 h22 =>
 bnd (gD v22 true (some (v21, h22)) h22) fun v23 h23 =>
 bnd (gD v22 true (aR .eql v23 (aJ 0) h23) h23) fun v24 h24 =>
 bnd (cN v22 v24 (.b false) h24) fun v25 h25 =>
 bnd (gD v25 true (some (v20, h25)) h25) fun v26 h26 =>
 bnd (gD v25 true (some (v16, h26)) h26) fun v27 h27 =>
 bnd (gD v25 true (fZ .add (.s [102, 111, 111, 32]) v27 h27) h27) fun v28 h28 =>
 bnd (gD v25 true (fZ .eql v26 v28 h28) h28) fun v29 h29 =>
 bnd (cN v25 v29 (.b false) h29) fun v30 h30 =>
 bnd (gD v30 true (r 10 [] h30) h30) fun v31 h31 =>
 bnd (cN v30 v31 (.b false) h31) fun v32 h32 =>
 some (v32, h32))
def bPd (r : RT) (n : Nat) (x0 : DV) (h0 : Hp) : aG :=
 bnd (hO x0 h0) fun v1 h1 =>
 bnd (aR .gtr v1 (aJ 300) h1) fun v2 h2 =>
 cG v2 (
 bnd (eC x0 none (some (aJ 300)) h2) fun v3 h3 =>
  bAl r n v3 h3) (
  bAl r n x0 h2)
def s8 (r : RT) (n : Nat) (x0 : DV) (h0 : Hp) : aG :=
 bPd r n x0 h0
abbrev c8 : Code := cf Tryz.f8
abbrev r8 : K := bT CF Tryz.f8
def D8 (r : RT) (n : Nat) (c : Code) (X : Nat → K) (k : K) : K := aV CF r 52 n c X r8 k
theorem s8m : D8 r n c8 x0 r8 = (K1 (s8 r n) 0) := by kernel_rfl
theorem bOw : aO CF r n 8 args h = s8 r n (bA args 0) h :=
 fL (s8m r n) args h (by kernel_rfl) (by kernel_rfl)
def s11 (r : RT) (n : Nat) (x0 : DV) (h0 : Hp) : aG :=
 bnd (iH x0 h0) fun v1 h1 =>
 bnd (aD 6 v1 (gI 1 h1)) fun v2 h2 =>
 bnd (r 20 [v2] h2) fun v3 h3 =>
 bnd (aD 6 v1 h3) fun v4 h4 =>
 cnd (bU (aD 6 v1 (gI 1 h1)) v4 && true) (
 bnd (r 21 [v4] h4) fun v5 h5 =>
 bnd (aX (dC 0 h1.next) [(.s []), (.s [])] 2 [(0, 1, v3), (1, 1, v5)] h5) fun v6 h6 =>
 bnd (r 19 [v6] h6) fun v7 h7 =>
 bnd (r 17 [v7] h7) fun v8 h8 =>
 bnd (aL 0 v8 h8) fun v9 h9 =>
 bnd (aL 1 v8 h9) fun v10 h10 =>
 bnd (aL 2 v8 h10) fun v11 h11 =>
 bnd (cK fP h11) fun v12 h12 =>
 bnd (aC 6 v12 v9 h12) fun _ h13 =>
 bnd (aD 6 v1 h13) fun v14 h14 =>
 bnd (aD 6 v12 h14) fun v15 h15 =>
 bnd (r 22 [v7, v14, v15, v11] h15) fun v16 h16 =>
 bnd (aL 0 v16 h16) fun v17 h17 =>
 bnd (aL 1 v16 h17) fun v18 h18 =>
 some (.t [v17, v18], h18))
abbrev c11 : Code := cf Tryz.f11
abbrev r11 : K := bT CF Tryz.f11
def D11 (r : RT) (n : Nat) (c : Code) (X : Nat → K) (k : K) : K := aV CF r 27 n c X r11 k
theorem bUk : D11 r n c11 x0 r11 = (K1 (s11 r n) 0) :=
 (by kernel_rfl)
theorem bPm : aO CF r n 11 args h = s11 r n (bA args 0) h :=
 fL (bUk r n) args h (by kernel_rfl) (by kernel_rfl)
def s13 (r : RT) (n : Nat) (x0 : DV) (h0 : Hp) : aG :=
 bnd (iH x0 h0) fun v1 h1 =>
 bnd (aD 6 v1 h1) fun v2 h2 =>
 bnd (r 21 [v2] h2) fun v3 h3 =>
 bnd (r 14 [v3] h3) fun v4 h4 =>
 bnd (aL 0 v4 h4) fun v5 h5 =>
 bnd (aL 1 v4 h5) fun v6 h6 =>
 bnd (aL 2 v4 h6) fun v7 h7 =>
 bnd (cK fP h7) fun v8 h8 =>
 bnd (aC 6 v8 v5 h8) fun _ h9 =>
 bnd (aD 6 v1 h9) fun v10 h10 =>
 bnd (aD 6 v8 h10) fun v11 h11 =>
 bnd (r 22 [v3, v10, v11, v7] h11) fun v12 h12 =>
 bnd (aL 0 v12 h12) fun v13 h13 =>
 bnd (aL 1 v12 h13) fun v14 h14 =>
 some (.t [v13, v14], h14)
abbrev c13 : Code := cf Tryz.f13
abbrev r13 : K := bT CF Tryz.f13
def D13 (r : RT) (n : Nat) (c : Code) (X : Nat → K) (k : K) : K := aV CF r 23 n c X r13 k
theorem bUo : D13 r n c13 x0 r13 = (K1 (s13 r n) 0) :=
 (by kernel_rfl)
theorem bRb : aO CF r n 13 args h = s13 r n (bA args 0) h :=
 fL (bUo r n) args h (by kernel_rfl) (by kernel_rfl)
def s14 (r : RT) (n : Nat) (x0 : DV) (h0 : Hp) : aG :=
 bnd (cK fP h0) fun v1 h1 =>
 bnd (r 26 [x0, (.f 27 [] [])] h1) fun v2 h2 =>
 bnd (aL 0 v2 h2) fun v3 h3 =>
 bnd (aL 1 v2 h3) fun v4 h4 =>
 bnd (aL 2 v2 h4) fun v5 h5 =>
 bnd (aC 6 v1 v3 h5) fun _ h6 =>
 bnd (aD 6 v1 h6) fun v7 _ =>
 some (.t [v7, v4, v5], h6)
abbrev c14 : Code := cf Tryz.f14
abbrev r14 : K := bT CF Tryz.f14
def D14 (r : RT) (n : Nat) (c : Code) (X : Nat → K) (k : K) : K := aV CF r 10 n c X r14 k
theorem bUq : D14 r n c14 x0 r14 = (K1 (s14 r n) 0) :=
 (by kernel_rfl)
theorem bPl : aO CF r n 14 args h = s14 r n (bA args 0) h :=
 fL (bUq r n) args h (by kernel_rfl) (by kernel_rfl)
def s17 (r : RT) (n : Nat) (x0 : DV) (h0 : Hp) : aG :=
 bnd (cK fP h0) fun v1 h1 =>
 bnd (r 26 [x0, (.f 29 [] [])] h1) fun v2 h2 =>
 bnd (aL 0 v2 h2) fun v3 h3 =>
 bnd (aL 1 v2 h3) fun v4 h4 =>
 bnd (aL 2 v2 h4) fun v5 h5 =>
 bnd (aC 6 v1 v3 h5) fun _ h6 =>
 bnd (aD 6 v1 h6) fun v7 _ =>
 some (.t [v7, v4, v5], h6)
abbrev c17 : Code := cf Tryz.f17
abbrev r17 : K := bT CF Tryz.f17
def D17 (r : RT) (n : Nat) (c : Code) (X : Nat → K) (k : K) : K := aV CF r 10 n c X r17 k
theorem bTh : D17 r n c17 x0 r17 = (K1 (s17 r n) 0) :=
 (by kernel_rfl)
theorem bPy : aO CF r n 17 args h = s17 r n (bA args 0) h :=
 fL (bTh r n) args h (by kernel_rfl) (by kernel_rfl)
def s19 (r : RT) (n : Nat) (x0 : DV) (h0 : Hp) : aG :=
 bnd (kF [x0, (.s [])] h0) fun v1 h1 =>
 some (v1, h1)
abbrev c19 : Code := cf Tryz.f19
abbrev r19 : K := bT CF Tryz.f19
def D19 (r : RT) (n : Nat) (c : Code) (X : Nat → K) (k : K) : K := aV CF r 5 n c X r19 k
theorem bTw : D19 r n c19 x0 r19 = (K1 (s19 r n) 0) :=
 (by kernel_rfl)
theorem bOr : aO CF r n 19 args h = s19 r n (bA args 0) h :=
 fL (bTw r n) args h (by kernel_rfl) (by kernel_rfl)
def aKw (r : RT) (n : Nat) (x4 : DV) (h0 : Hp) : aG :=
 bnd (aM [(.s []), (.s [])] 2 [(0, 1, x4), (1, 1, (.s [32]))] h0) fun v1 h1 =>
 bnd (r 19 [v1] h1) fun v2 h2 =>
 some (v2, h2)
def bC (r : RT) (n : Nat) (x1 x4 : DV) (h0 : Hp) : aG :=
 bnd (aA 2 x1 h0) fun v1 h1 =>
 bnd (aB v1 h1) fun v2 h2 =>
 bnd (aR .neq v2 (aJ 0) h2) fun v3 h3 =>
 cG v3 (
 bnd (aA 2 x1 h3) fun v4 h4 =>
 bnd (aB v4 h4) fun v5 h5 =>
 bnd (tW [v5] h5) fun v6 h6 =>
 bnd (aM [(.s []), (.s []), (.s []), (.s [])] 4 [(0, 1, x4), (1, 1, (.s [32, 60, 112, 114, 105, 109, 105, 116, 105, 118, 101, 58, 32])), (2, 1, v6), (3, 1, (.s [62]))] h6) fun v7 h7 =>
 bnd (r 19 [v7] h7) fun v8 h8 =>
  aKw r n v8 h8) (
  aKw r n x4 h3)
def dW (r : RT) (n : Nat) (x1 x5 : DV) (h0 : Hp) : aG :=
 bnd (kF [x5, (.s [32])] h0) fun v1 h1 =>
  bC r n x1 v1 h1
def lZ (r : RT) (n : Nat) (kk14 : TT6) (x1 x3 x5 x26 x27 x28 : DV) (h0 : Hp) : aG :=
 bnd (aR .lss x28 x27 h0) fun v1 h1 =>
 cG v1 (
 bnd (aY 1 x26 x28 h1) fun v2 h2 =>
 bnd (aB v2 h2) fun v3 h3 =>
 bnd (dJ CF r x3 [x28] h3) fun v4 h4 =>
 bnd (aM [(.s []), (.s []), (.s [])] 3 [(0, 1, v3), (1, 1, (.s [32])), (2, 1, v4)] h4) fun v5 h5 =>
 bnd (r 19 [v5] h5) fun v6 h6 =>
 bnd (aM [(.s [])] 1 [(0, 1, v6)] h6) fun v7 h7 =>
 bnd (bH 1 16 x5 v7 h7) fun v8 h8 =>
 bnd (aR .add x28 (aJ 1) h8) fun v9 h9 =>
      kk14 x1 x3 v8 x26 x27 v9 h9) (
      dW r n x1 x5 h1)
def iS (r : RT) (n : Nat) (m : Nat) : TT6 :=
 Nat.rec (motive := fun _ => TT6) (fun _ _ _ _ _ _ _ => none) (fun _ ih => lZ r n ih) m
def aEh (r : RT) (n : Nat) : TT6 := iS r n n
def aAm (r : RT) (n : Nat) (x1 x3 x5 x26 x27 x28 : DV) (h0 : Hp) : aG :=
 aEh r n x1 x3 x5 x26 x27 x28 h0
def zM (r : RT) (n : Nat) (x1 x3 x5 : DV) (h0 : Hp) : aG :=
 bnd (aA 1 x1 h0) fun v1 h1 =>
 bnd (aB v1 h1) fun v2 h2 =>
 bnd (r 33 [v2] h2) fun v3 h3 =>
 bnd (hC v3 h3) fun v4 h4 =>
  aAm r n x1 x3 x5 v3 v4 (aJ 0) h4
def aFl (r : RT) (n : Nat) (x1 x3 : DV) (h0 : Hp) : aG :=
 zM r n x1 x3 .l0 h0
def aBu (r : RT) (n : Nat) (x1 x3 x4 x22 : DV) (h0 : Hp) : aG :=
 cG x22 (
  aFl r n x1 x3 h0) (
  bC r n x1 x4 h0)
def aUf (r : RT) (n : Nat) (x1 x3 x4 x13 : DV) (h0 : Hp) : aG :=
 bnd (aR .eql x13 (aJ 3) h0) fun v1 h1 =>
  aBu r n x1 x3 x4 v1 h1
def aCh (r : RT) (n : Nat) (x1 x3 x4 x13 x14 : DV) (h0 : Hp) : aG :=
 cG x14 (
 bnd (aA 1 x1 (gI 1 h0)) fun v1 h1 =>
 bnd (aB v1 h1) fun v2 h2 =>
 bnd (dJ CF r x3 [(aJ 0)] h2) fun v3 h3 =>
 cnd (bU (aB v1 h3) v2 && true) (
 bnd (aX (dC 0 h0.next) [(.s []), (.s []), (.s [])] 3 [(0, 1, v2), (1, 1, (.s [32])), (2, 1, v3)] h3) fun v4 h4 =>
 bnd (r 19 [v4] h4) fun v5 h5 =>
  bC r n x1 v5 h5)) (
  aUf r n x1 x3 x4 x13 h0)
def aIn (r : RT) (n : Nat) (x1 x3 x4 x13 : DV) (h0 : Hp) : aG :=
 bnd (aR .eql x13 (aJ 2) h0) fun v1 h1 =>
  aCh r n x1 x3 x4 x13 v1 h1
def aJl (r : RT) (n : Nat) (x1 x3 x4 : DV) (h0 : Hp) : aG :=
 bnd (aA 1 x1 h0) fun v1 h1 =>
 bnd (aB v1 h1) fun v2 h2 =>
 bnd (r 32 [v2] h2) fun v3 h3 =>
  aIn r n x1 x3 x4 v3 h3
def aKj (r : RT) (n : Nat) (x1 x3 : DV) (h0 : Hp) : aG :=
 bnd (aA 1 x1 h0) fun v1 h1 =>
 bnd (aB v1 h1) fun v2 h2 =>
  aJl r n x1 x3 v2 h2
def aIk (r : RT) (n : Nat) (x1 : DV) (h0 : Hp) : aG :=
 aKj r n x1 (.f 31 [] [x1]) h0
def s20 (r : RT) (n : Nat) (x0 : DV) (h0 : Hp) : aG :=
 bnd (iH x0 h0) fun v1 h1 =>
  aIk r n v1 h1
abbrev c20 : Code := cf Tryz.f20
abbrev aJm := cR c20
abbrev aIm := cR aJm
abbrev aGz := cR aIm
abbrev bRy := cR aGz
abbrev aBb := cL aGz
abbrev aWd := cR aBb
abbrev aKk := cL aWd
abbrev uB := cR aKk
abbrev vA := cR uB
abbrev uV := cR vA
abbrev uJ := cL uV
abbrev yC := cR uJ
abbrev bIq := cR yC
abbrev tL := cL yC
abbrev aGf := cR tL
abbrev wW := cL aGf
abbrev mY := cL wW
abbrev aPf := cL tL
abbrev aVg := cL uJ
abbrev bHx := cR uV
abbrev aUh := cL vA
abbrev bLq := cL uB
abbrev aUr := cL aKk
abbrev aOh := cL aBb
abbrev aNu := cL aIm
abbrev aVx := cL aJm
abbrev aWf := cL c20
abbrev r20 : K := bT CF Tryz.f20
def D20 (r : RT) (n : Nat) (c : Code) (X : Nat → K) (k : K) : K := aV CF r 57 n c X r20 k
theorem bNv : D20 r n bRy x0 r20 = (K2 (bC r n) 1 4) := by kernel_rfl
theorem aZj : D20 r n bIq (xs x0 0 (K2 (bC r n) 1 4)) (K2 (bC r n) 1 4) = (K2 (dW r n) 1 5) := by kernel_rfl
theorem aNm (kk14 : TT6) : D20 r n mY (xs (xs x0 0 (K2 (bC r n) 1 4)) 1 (K2 (dW r n) 1 5)) (K6 kk14 1 3 5 26 27 28) = (K6 (lZ r n kk14) 1 3 5 26 27 28) := by kernel_rfl
theorem aTc (m : Nat) : aP (fun kk => D20 r n mY (xs (xs x0 0 (K2 (bC r n) 1 4)) 1 (K2 (dW r n) 1 5)) kk) m = (K6 (iS r n m) 1 3 5 26 27 28) := by
 induction m with
 | zero => exact (by kernel_rfl : aP (fun kk => D20 r n mY (xs (xs x0 0 (K2 (bC r n) 1 4)) 1 (K2 (dW r n) 1 5)) kk) 0 = (K6 (iS r n 0) 1 3 5 26 27 28))
 | succ m ih =>
  refine (by kernel_rfl : aP (fun kk => D20 r n mY (xs (xs x0 0 (K2 (bC r n) 1 4)) 1 (K2 (dW r n) 1 5)) kk) (m + 1) = D20 r n mY (xs (xs x0 0 (K2 (bC r n) 1 4)) 1 (K2 (dW r n) 1 5)) (aP (fun kk => D20 r n mY (xs (xs x0 0 (K2 (bC r n) 1 4)) 1 (K2 (dW r n) 1 5)) kk) m)).trans ?_
  rw [ih]
  exact (aNm r n (iS r n m)).trans (by kernel_rfl)
theorem bEb : D20 r n wW (xs (xs x0 0 (K2 (bC r n) 1 4)) 1 (K2 (dW r n) 1 5)) (K2 (dW r n) 1 5) = (K6 (aEh r n) 1 3 5 26 27 28) :=
 (by kernel_rfl : D20 r n wW (xs (xs x0 0 (K2 (bC r n) 1 4)) 1 (K2 (dW r n) 1 5)) (K2 (dW r n) 1 5) = aP (fun kk => D20 r n mY (xs (xs x0 0 (K2 (bC r n) 1 4)) 1 (K2 (dW r n) 1 5)) kk) n).trans ((aTc r n n).trans (by kernel_rfl))
theorem bAi : D20 r n aGf (xs x0 0 (K2 (bC r n) 1 4)) (K2 (dW r n) 1 5) = (K6 (aAm r n) 1 3 5 26 27 28) :=
 (by kernel_rfl : D20 r n aGf (xs x0 0 (K2 (bC r n) 1 4)) (K2 (dW r n) 1 5) = D20 r n wW (xs (xs x0 0 (K2 (bC r n) 1 4)) 1 (K2 (dW r n) 1 5)) (K2 (dW r n) 1 5)).trans
 ((bEb r n).trans (by kernel_rfl))
theorem aWo : D20 r n yC (xs x0 0 (K2 (bC r n) 1 4)) (K2 (bC r n) 1 4) = D20 r n tL (xs x0 0 (K2 (bC r n) 1 4)) (K2 (dW r n) 1 5) :=
 congrArg (fun k => D20 r n tL (xs x0 0 (K2 (bC r n) 1 4)) k) (aZj r n)
theorem aWu : D20 r n tL (xs x0 0 (K2 (bC r n) 1 4)) (K2 (dW r n) 1 5) = D20 r n aPf (xs x0 0 (K2 (bC r n) 1 4)) (K6 (aAm r n) 1 3 5 26 27 28) :=
 congrArg (fun k => D20 r n aPf (xs x0 0 (K2 (bC r n) 1 4)) k) (bAi r n)
theorem aYf : D20 r n yC (xs x0 0 (K2 (bC r n) 1 4)) (K2 (bC r n) 1 4) = (K3 (zM r n) 1 3 5) :=
 (aWo r n).trans
 ((aWu r n).trans
 ((by kernel_rfl)))
theorem aPz : D20 r n uJ (xs x0 0 (K2 (bC r n) 1 4)) (K2 (bC r n) 1 4) = D20 r n aVg (xs x0 0 (K2 (bC r n) 1 4)) (K3 (zM r n) 1 3 5) :=
 congrArg (fun k => D20 r n aVg (xs x0 0 (K2 (bC r n) 1 4)) k) (aYf r n)
theorem aYh : D20 r n uJ (xs x0 0 (K2 (bC r n) 1 4)) (K2 (bC r n) 1 4) = (K2 (aFl r n) 1 3) :=
 (aPz r n).trans
 ((by kernel_rfl))
theorem bJb : D20 r n uV (xs x0 0 (K2 (bC r n) 1 4)) (K2 (bC r n) 1 4) = (K4 (aBu r n) 1 3 4 22) :=
 (by kernel_rfl : D20 r n uV (xs x0 0 (K2 (bC r n) 1 4)) (K2 (bC r n) 1 4) = (fun (env : fM) (h : Hp) => cG (opr env (cC uV)) (D20 r n uJ (xs x0 0 (K2 (bC r n) 1 4)) (K2 (bC r n) 1 4) env h) (D20 r n bHx (xs x0 0 (K2 (bC r n) 1 4)) (K2 (bC r n) 1 4) env h))).trans (by rw [aYh r n]; kernel_rfl)
theorem aYc : D20 r n vA (xs x0 0 (K2 (bC r n) 1 4)) (K2 (bC r n) 1 4) = D20 r n aUh (xs x0 0 (K2 (bC r n) 1 4)) (K4 (aBu r n) 1 3 4 22) :=
 congrArg (fun k => D20 r n aUh (xs x0 0 (K2 (bC r n) 1 4)) k) (bJb r n)
theorem bIv : D20 r n vA (xs x0 0 (K2 (bC r n) 1 4)) (K2 (bC r n) 1 4) = (K4 (aUf r n) 1 3 4 13) :=
 (aYc r n).trans
 ((by kernel_rfl))
theorem bKm : D20 r n uB (xs x0 0 (K2 (bC r n) 1 4)) (K2 (bC r n) 1 4) = (K5 (aCh r n) 1 3 4 13 14) :=
 (by kernel_rfl : D20 r n uB (xs x0 0 (K2 (bC r n) 1 4)) (K2 (bC r n) 1 4) = (fun (env : fM) (h : Hp) => cG (opr env (cC uB)) (D20 r n bLq (xs x0 0 (K2 (bC r n) 1 4)) (K2 (bC r n) 1 4) env h) (D20 r n vA (xs x0 0 (K2 (bC r n) 1 4)) (K2 (bC r n) 1 4) env h))).trans (by rw [bIv r n]; kernel_rfl)
theorem bBj : D20 r n aKk (xs x0 0 (K2 (bC r n) 1 4)) (K2 (bC r n) 1 4) = D20 r n aUr (xs x0 0 (K2 (bC r n) 1 4)) (K5 (aCh r n) 1 3 4 13 14) :=
 congrArg (fun k => D20 r n aUr (xs x0 0 (K2 (bC r n) 1 4)) k) (bKm r n)
theorem bOg : D20 r n aWd x0 (K2 (bC r n) 1 4) = (K4 (aIn r n) 1 3 4 13) :=
 (by kernel_rfl : D20 r n aWd x0 (K2 (bC r n) 1 4) = D20 r n aKk (xs x0 0 (K2 (bC r n) 1 4)) (K2 (bC r n) 1 4)).trans
 ((bBj r n).trans
 ((by kernel_rfl)))
theorem aZe : D20 r n aGz x0 r20 = D20 r n aBb x0 (K2 (bC r n) 1 4) :=
 congrArg (fun k => D20 r n aBb x0 k) (bNv r n)
theorem aPx : D20 r n aBb x0 (K2 (bC r n) 1 4) = D20 r n aOh x0 (K4 (aIn r n) 1 3 4 13) :=
 congrArg (fun k => D20 r n aOh x0 k) (bOg r n)
theorem bMu : D20 r n aGz x0 r20 = (K3 (aJl r n) 1 3 4) :=
 (aZe r n).trans
 ((aPx r n).trans
 ((by kernel_rfl)))
theorem aQk : D20 r n aIm x0 r20 = D20 r n aNu x0 (K3 (aJl r n) 1 3 4) :=
 congrArg (fun k => D20 r n aNu x0 k) (bMu r n)
theorem bIs : D20 r n aIm x0 r20 = (K2 (aKj r n) 1 3) :=
 (aQk r n).trans
 ((by kernel_rfl))
theorem aNs : D20 r n aJm x0 r20 = D20 r n aVx x0 (K2 (aKj r n) 1 3) :=
 congrArg (fun k => D20 r n aVx x0 k) (bIs r n)
theorem bNp : D20 r n aJm x0 r20 = (K1 (aIk r n) 1) :=
 (aNs r n).trans
 ((by kernel_rfl))
theorem bKx : D20 r n c20 x0 r20 = D20 r n aWf x0 (K1 (aIk r n) 1) :=
 congrArg (fun k => D20 r n aWf x0 k) (bNp r n)
theorem bTy : D20 r n c20 x0 r20 = (K1 (s20 r n) 0) :=
 (bKx r n).trans
 ((by kernel_rfl))
theorem bRg : aO CF r n 20 args h = s20 r n (bA args 0) h :=
 fL (bTy r n) args h (by kernel_rfl) (by kernel_rfl)
def aKh (r : RT) (n : Nat) (x1 x3 : DV) (h0 : Hp) : aG :=
 bnd (aA 5 x1 h0) fun v1 h1 =>
 bnd (aB v1 h1) fun v2 h2 =>
 bnd (r 35 [v2, (.s [46, 32]), (.f 36 [] [])] h2) fun v3 h3 =>
 bnd (aM [(.s []), (.s [])] 2 [(0, 1, x3), (1, 1, v3)] h3) fun v4 h4 =>
 bnd (r 19 [v4] h4) fun v5 h5 =>
 some (v5, h5)
def bFr (r : RT) (n : Nat) (x1 x3 : DV) (h0 : Hp) : aG :=
 bnd (aA 4 x1 h0) fun v1 h1 =>
 bnd (aB v1 h1) fun v2 h2 =>
 bnd (hC v2 h2) fun v3 h3 =>
 bnd (aR .gtr v3 (aJ 0) h3) fun v4 h4 =>
 cG v4 (
 bnd (aA 4 x1 h4) fun v5 h5 =>
 bnd (aB v5 h5) fun v6 h6 =>
 bnd (kF [v6, (.s [32])] h6) fun v7 h7 =>
 bnd (aM [(.s []), (.s []), (.s [])] 3 [(0, 1, (.s [124, 32])), (1, 1, v7), (2, 1, (.s [32, 124, 32]))] h7) fun v8 h8 =>
 bnd (r 19 [v8] h8) fun v9 h9 =>
  aKh r n x1 v9 h9) (
  aKh r n x1 x3 h4)
def bHa (r : RT) (n : Nat) (x1 : DV) (h0 : Hp) : aG :=
 bFr r n x1 (.s []) h0
def s21 (r : RT) (n : Nat) (x0 : DV) (h0 : Hp) : aG :=
 bnd (iH x0 h0) fun v1 h1 =>
  bHa r n v1 h1
abbrev c21 : Code := cf Tryz.f21
abbrev r21 : K := bT CF Tryz.f21
def D21 (r : RT) (n : Nat) (c : Code) (X : Nat → K) (k : K) : K := aV CF r 19 n c X r21 k
theorem bVh : D21 r n c21 x0 r21 = (K1 (s21 r n) 0) := by kernel_rfl
theorem bPs : aO CF r n 21 args h = s21 r n (bA args 0) h :=
 fL (bVh r n) args h (by kernel_rfl) (by kernel_rfl)
def s22 (r : RT) (n : Nat) (x0 x1 x2 x3 : DV) (h0 : Hp) : aG :=
 bnd (iH x1 h0) fun v1 h1 =>
 bnd (iH x2 h1) fun v2 h2 =>
 bnd (aR .neq x3 (aJ 0) h2) fun v3 h3 =>
 bnd (gD v3 false (aD 6 v1 h3) h3) fun v4 h4 =>
 bnd (gD v3 false (aD 6 v2 h4) h4) fun v5 h5 =>
 bnd (gD v3 false (r 37 [v4, v5] h5) h5) fun v6 h6 =>
 bnd (gD v3 false (tQ .not v6 h6) h6) fun v7 h7 =>
 bnd (cN v3 (.b true) v7 h7) fun v8 h8 =>
 cG v8 (
 some (.t [(.s []), (aJ 1)], h8)) (
 some (.t [x0, (aJ 0)], h8))
abbrev c22 : Code := cf Tryz.f22
abbrev r22 : K := bT CF Tryz.f22
def D22 (r : RT) (n : Nat) (c : Code) (X : Nat → K) (k : K) : K := aV CF r 19 n c X r22 k
theorem bVf : D22 r n c22 x0 r22 = (K4 (s22 r n) 0 1 2 3) :=
 (by kernel_rfl)
theorem bSm : aO CF r n 22 args h = s22 r n (bA args 0) (bA args 1) (bA args 2) (bA args 3) h :=
 fL (bVf r n) args h (by kernel_rfl) (by kernel_rfl)
end
end Go.Dd

namespace Go.Dd
open Go.Proofs
noncomputable section
variable (r : RT) (n : Nat) (args : List DV) (h : Hp)
def s26 (r : RT) (n : Nat) (x0 x1 : DV) (h0 : Hp) : aG :=
 bnd (cK fP h0) fun v1 h1 =>
 bnd (r 48 [x0] h1) fun v2 h2 =>
 bnd (aL 0 v2 h2) fun v3 h3 =>
 bnd (aL 1 v2 h3) fun v4 h4 =>
 bnd (aL 2 v2 h4) fun v5 h5 =>
 bnd (aR .neq v5 (aJ 0) h5) fun v6 h6 =>
 cG v6 (
 bnd (cW fP [] h6) fun v7 h7 =>
 bnd (aC 6 v1 v7 h7) fun _ h8 =>
 bnd (aD 6 v1 h8) fun v9 _ =>
 some (.t [v9, v4, v5], h8)) (
 bnd (cW [.l0, (aJ 0), (aJ 0), (aJ 0)] [(0, 1, v3)] h6) fun v10 h10 =>
 bnd (iH v10 h10) fun v11 h11 =>
 bnd (dJ CF r x1 [v11] h11) fun v12 h12 =>
 bnd (cK fP h12) fun v13 h13 =>
 bnd (aC 6 v13 v12 h13) fun _ h14 =>
 bnd (r 49 [v11] h14) fun v15 h15 =>
 bnd (aA 4 v13 h15) fun v16 h16 =>
 bnd (aC 1 v16 v15 h16) fun _ h17 =>
 bnd (r 50 [v11] h17) fun v18 h18 =>
 bnd (aA 5 v13 h18) fun v19 h19 =>
 bnd (aC 1 v19 v18 h19) fun _ h20 =>
 bnd (r 51 [v11, (aJ 0), (.s [])] h20) fun v21 h21 =>
 bnd (bK v11 h21) fun v22 h22 =>
 bnd (aA 3 v22 h22) fun v23 h23 =>
 bnd (aB v23 h23) fun v24 h24 =>
 bnd (aR .neq v24 (aJ 0) h24) fun v25 h25 =>
 cG v25 (
 bnd (cW fP [] h25) fun v26 h26 =>
 bnd (bK v11 h26) fun v27 h27 =>
 bnd (aA 2 v27 h27) fun v28 h28 =>
 bnd (aB v28 h28) fun v29 h29 =>
 bnd (bK v11 h29) fun v30 h30 =>
 bnd (aA 3 v30 h30) fun v31 h31 =>
 bnd (aB v31 h31) fun v32 h32 =>
 bnd (aC 6 v1 v26 h32) fun v33 h33 =>
 cnd (bU (aB v31 h33) v32 && (bU (aB v28 h33) v29 && true)) (
 bnd (aD 6 v1 h33) fun v34 _ =>
 some (.t [v34, v29, v32], h33))) (
 bnd (aD 6 v13 h25) fun v35 h35 =>
 bnd (aC 6 v1 v35 h35) fun _ h36 =>
 bnd (aD 6 v1 h36) fun v37 _ =>
 some (.t [v37, (aJ 0), (aJ 0)], h36)))
abbrev c26 : Code := cf Tryz.f26
abbrev r26 : K := bT CF Tryz.f26
def D26 (r : RT) (n : Nat) (c : Code) (X : Nat → K) (k : K) : K := aV CF r 52 n c X r26 k
theorem bUw : D26 r n c26 x0 r26 = (K2 (s26 r n) 0 1) :=
 (by kernel_rfl)
theorem bPv : aO CF r n 26 args h = s26 r n (bA args 0) (bA args 1) h :=
 fL (bUw r n) args h (by kernel_rfl) (by kernel_rfl)
def s27 (r : RT) (n : Nat) (x0 : DV) (h0 : Hp) : aG :=
 bnd (cK fP h0) fun v1 h1 =>
 bnd (cW fP [(0, 1, (aJ 11)), (1, 1, (.s [100, 111, 73, 116]))] h1) fun v2 h2 =>
 bnd (aC 6 v1 v2 h2) fun _ h3 =>
 bnd (aD 6 v1 h3) fun v4 _ =>
 some (v4, h3)
abbrev c27 : Code := cf Tryz.f27
abbrev r27 : K := bT CF Tryz.f27
def D27 (r : RT) (n : Nat) (c : Code) (X : Nat → K) (k : K) : K := aV CF r 4 n c X r27 k
theorem bTl : D27 r n c27 x0 r27 = (K1 (s27 r n) 0) :=
 (by kernel_rfl)
theorem bPn : aO CF r n 27 args h = s27 r n (bA args 0) h :=
 fL (bTl r n) args h (by kernel_rfl) (by kernel_rfl)
def s29 (r : RT) (n : Nat) (x0 : DV) (h0 : Hp) : aG :=
 bnd (cK fP h0) fun v1 h1 =>
 bnd (cW fP [(0, 1, (aJ 11))] h1) fun v2 h2 =>
 bnd (cK fP h2) fun v3 h3 =>
 bnd (aC 6 v3 v2 h3) fun _ h4 =>
 bnd (r 52 [x0, v3] h4) fun v5 h5 =>
 bnd (r 53 [x0] h5) fun v6 h6 =>
 bnd (aA 2 v3 h6) fun v7 h7 =>
 bnd (aC 1 v7 v6 h7) fun _ h8 =>
 bnd (aD 6 v3 h8) fun v9 h9 =>
 bnd (aC 6 v1 v9 h9) fun _ h10 =>
 bnd (aD 6 v1 h10) fun v11 _ =>
 some (v11, h10)
abbrev c29 : Code := cf Tryz.f29
abbrev r29 : K := bT CF Tryz.f29
def D29 (r : RT) (n : Nat) (c : Code) (X : Nat → K) (k : K) : K := aV CF r 11 n c X r29 k
theorem bTd : D29 r n c29 x0 r29 = (K1 (s29 r n) 0) :=
 (by kernel_rfl)
theorem bPk : aO CF r n 29 args h = s29 r n (bA args 0) h :=
 fL (bTd r n) args h (by kernel_rfl) (by kernel_rfl)
def s31 (r : RT) (n : Nat) (x0 x1 : DV) (h0 : Hp) : aG :=
 bnd (aA 3 x1 h0) fun v1 h1 =>
 bnd (aB v1 h1) fun v2 h2 =>
 bnd (hC v2 h2) fun v3 h3 =>
 bnd (aR .geq x0 v3 h3) fun v4 h4 =>
 cG v4 (
 some ((.s []), h4)) (
 bnd (aA 3 x1 h4) fun v5 h5 =>
 bnd (aB v5 h5) fun v6 h6 =>
 bnd (aY 1 v6 x0 h6) fun v7 h7 =>
 bnd (aB v7 h7) fun v8 h8 =>
 some (v8, h8))
abbrev c31 : Code := cf Tryz.f31
abbrev r31 : K := bT CF Tryz.f31
def D31 (r : RT) (n : Nat) (c : Code) (X : Nat → K) (k : K) : K := aV CF r 14 n c X r31 k
theorem bSr : D31 r n c31 x0 r31 = (K2 (s31 r n) 0 1) :=
 (by kernel_rfl)
theorem bRm : aO CF r n 31 args h = s31 r n (bA args 0) (bA args 1) h :=
 fL (bSr r n) args h (by kernel_rfl) (by kernel_rfl)
def s32 (r : RT) (n : Nat) (x0 : DV) (h0 : Hp) : aG :=
 bnd (r 57 [x0, (.i .u8 (Int.ofNat 58))] h0) fun v1 h1 =>
 bnd (aR .geq v1 (aJ 0) h1) fun v2 h2 =>
 cG v2 (
 some ((aJ 3), h2)) (
 bnd (fZ .neq x0 (.s []) h2) fun v3 h3 =>
 bnd (gD v3 true (some (x0, h3)) h3) fun v4 h4 =>
 bnd (gD v3 true (eL v4 (aJ 0) h4) h4) fun v5 h5 =>
 bnd (gD v3 true (aR .geq v5 (.i .u8 (Int.ofNat 97)) h5) h5) fun v6 h6 =>
 bnd (gD v3 true (some (v6, h6)) h6) fun v7 h7 =>
 bnd (gD v7 true (some (x0, h7)) h7) fun v8 h8 =>
 bnd (gD v7 true (eL v8 (aJ 0) h8) h8) fun v9 h9 =>
 bnd (gD v7 true (aR .leq v9 (.i .u8 (Int.ofNat 122)) h9) h9) fun v10 h10 =>
 bnd (gD v3 true (cN v7 v10 (.b false) h10) h10) fun v11 h11 =>
 bnd (gD v3 true (some (v11, h11)) h11) fun v12 h12 =>
 bnd (gD v12 false (some (x0, h12)) h12) fun v13 h13 =>
 bnd (gD v12 false (eL v13 (aJ 0) h13) h13) fun v14 h14 =>
 bnd (gD v12 false (aR .geq v14 (.i .u8 (Int.ofNat 65)) h14) h14) fun v15 h15 =>
 bnd (gD v12 false (some (v15, h15)) h15) fun v16 h16 =>
 bnd (gD v16 true (some (x0, h16)) h16) fun v17 h17 =>
 bnd (gD v16 true (eL v17 (aJ 0) h17) h17) fun v18 h18 =>
 bnd (gD v16 true (aR .leq v18 (.i .u8 (Int.ofNat 90)) h18) h18) fun v19 h19 =>
 bnd (gD v12 false (cN v16 v19 (.b false) h19) h19) fun v20 h20 =>
 bnd (gD v3 true (cN v12 (.b true) v20 h20) h20) fun v21 h21 =>
 bnd (cN v3 v21 (.b false) h21) fun v22 h22 =>
 cG v22 (
 some ((aJ 1), h22)) (
 some ((aJ 2), h22)))
abbrev c32 : Code := cf Tryz.f32
abbrev r32 : K := bT CF Tryz.f32
def D32 (r : RT) (n : Nat) (c : Code) (X : Nat → K) (k : K) : K := aV CF r 30 n c X r32 k
theorem bUs : D32 r n c32 x0 r32 = (K1 (s32 r n) 0) :=
 (by kernel_rfl)
theorem bOz : aO CF r n 32 args h = s32 r n (bA args 0) h :=
 fL (bUs r n) args h (by kernel_rfl) (by kernel_rfl)
def s33 (r : RT) (n : Nat) (x0 : DV) (h0 : Hp) : aG :=
 bnd (r 58 [x0, (.s [58])] h0) fun v1 h1 =>
 bnd (hC v1 h1) fun v2 h2 =>
 bnd (aR .sub v2 (aJ 1) h2) fun v3 h3 =>
 bnd (dA 1 v1 none (some v3) h3) fun v4 h4 =>
 some (v4, h4)
abbrev c33 : Code := cf Tryz.f33
abbrev r33 : K := bT CF Tryz.f33
def D33 (r : RT) (n : Nat) (c : Code) (X : Nat → K) (k : K) : K := aV CF r 11 n c X r33 k
theorem bUv : D33 r n c33 x0 r33 = (K1 (s33 r n) 0) :=
 (by kernel_rfl)
theorem bSn : aO CF r n 33 args h = s33 r n (bA args 0) h :=
 fL (bUv r n) args h (by kernel_rfl) (by kernel_rfl)
def gF (r : RT) (n : Nat) (x1 x7 : DV) (h0 : Hp) : aG :=
 bnd (kF [x7, x1] h0) fun v1 h1 =>
 some (v1, h1)
def pO (r : RT) (n : Nat) (kk5 : TT6) (x1 x2 x7 x10 x11 x12 : DV) (h0 : Hp) : aG :=
 bnd (aR .lss x12 x11 h0) fun v1 h1 =>
 cG v1 (
 bnd (aY 6 x10 x12 h1) fun v2 h2 =>
 bnd (aD 6 v2 h2) fun v3 h3 =>
 bnd (cK fP h3) fun v4 h4 =>
 bnd (aC 6 v4 v3 h4) fun _ h5 =>
 bnd (aD 6 v4 h5) fun v6 h6 =>
 bnd (dJ CF r x2 [v6] h6) fun v7 h7 =>
 bnd (aM [(.s [])] 1 [(0, 1, v7)] h7) fun v8 h8 =>
 bnd (bH 1 16 x7 v8 h8) fun v9 h9 =>
 bnd (aR .add x12 (aJ 1) h9) fun v10 h10 =>
      kk5 x1 x2 v9 x10 x11 v10 h10) (
      gF r n x1 x7 h1)
def kW (r : RT) (n : Nat) (m : Nat) : TT6 :=
 Nat.rec (motive := fun _ => TT6) (fun _ _ _ _ _ _ _ => none) (fun _ ih => pO r n ih) m
def aSt (r : RT) (n : Nat) : TT6 := kW r n n
def aKf (r : RT) (n : Nat) (x1 x2 x7 x10 x11 x12 : DV) (h0 : Hp) : aG :=
 aSt r n x1 x2 x7 x10 x11 x12 h0
def aJw (r : RT) (n : Nat) (x0 x1 x2 x7 : DV) (h0 : Hp) : aG :=
 bnd (hC x0 h0) fun v1 h1 =>
  aKf r n x1 x2 x7 x0 v1 (aJ 0) h1
def aJs (r : RT) (n : Nat) (x0 x1 x2 : DV) (h0 : Hp) : aG :=
 aJw r n x0 x1 x2 .l0 h0
def s35 (r : RT) (n : Nat) (x0 x1 x2 : DV) (h0 : Hp) : aG :=
 aJs r n x0 x1 x2 h0
abbrev c35 : Code := cf Tryz.f35
abbrev aKi := cR c35
abbrev aIa := cR aKi
abbrev bPi := cR aIa
abbrev aDd := cL aIa
abbrev aQm := cR aDd
abbrev aHc := cL aQm
abbrev uZ := cL aHc
abbrev bHc := cL aDd
abbrev bGo := cL aKi
abbrev aXl := cL c35
abbrev r35 : K := bT CF Tryz.f35
def D35 (r : RT) (n : Nat) (c : Code) (X : Nat → K) (k : K) : K := aV CF r 26 n c X r35 k
theorem bKs : D35 r n bPi x0 r35 = (K2 (gF r n) 1 7) := by kernel_rfl
theorem aYa (kk5 : TT6) : D35 r n uZ (xs x0 0 (K2 (gF r n) 1 7)) (K6 kk5 1 2 7 10 11 12) = (K6 (pO r n kk5) 1 2 7 10 11 12) := by kernel_rfl
theorem bDd (m : Nat) : aP (fun kk => D35 r n uZ (xs x0 0 (K2 (gF r n) 1 7)) kk) m = (K6 (kW r n m) 1 2 7 10 11 12) := by
 induction m with
 | zero => exact (by kernel_rfl : aP (fun kk => D35 r n uZ (xs x0 0 (K2 (gF r n) 1 7)) kk) 0 = (K6 (kW r n 0) 1 2 7 10 11 12))
 | succ m ih =>
  refine (by kernel_rfl : aP (fun kk => D35 r n uZ (xs x0 0 (K2 (gF r n) 1 7)) kk) (m + 1) = D35 r n uZ (xs x0 0 (K2 (gF r n) 1 7)) (aP (fun kk => D35 r n uZ (xs x0 0 (K2 (gF r n) 1 7)) kk) m)).trans ?_
  rw [ih]
  exact (aYa r n (kW r n m)).trans (by kernel_rfl)
theorem bJg : D35 r n aHc (xs x0 0 (K2 (gF r n) 1 7)) (K2 (gF r n) 1 7) = (K6 (aSt r n) 1 2 7 10 11 12) :=
 (by kernel_rfl : D35 r n aHc (xs x0 0 (K2 (gF r n) 1 7)) (K2 (gF r n) 1 7) = aP (fun kk => D35 r n uZ (xs x0 0 (K2 (gF r n) 1 7)) kk) n).trans ((bDd r n n).trans (by kernel_rfl))
theorem bOf : D35 r n aQm x0 (K2 (gF r n) 1 7) = (K6 (aKf r n) 1 2 7 10 11 12) :=
 (by kernel_rfl : D35 r n aQm x0 (K2 (gF r n) 1 7) = D35 r n aHc (xs x0 0 (K2 (gF r n) 1 7)) (K2 (gF r n) 1 7)).trans
 ((bJg r n).trans (by kernel_rfl))
theorem aXu : D35 r n aIa x0 r35 = D35 r n aDd x0 (K2 (gF r n) 1 7) :=
 congrArg (fun k => D35 r n aDd x0 k) (bKs r n)
theorem bBq : D35 r n aDd x0 (K2 (gF r n) 1 7) = D35 r n bHc x0 (K6 (aKf r n) 1 2 7 10 11 12) :=
 congrArg (fun k => D35 r n bHc x0 k) (bOf r n)
theorem bIp : D35 r n aIa x0 r35 = (K4 (aJw r n) 0 1 2 7) :=
 (aXu r n).trans
 ((bBq r n).trans
 ((by kernel_rfl)))
theorem bCt : D35 r n aKi x0 r35 = D35 r n bGo x0 (K4 (aJw r n) 0 1 2 7) :=
 congrArg (fun k => D35 r n bGo x0 k) (bIp r n)
theorem bNg : D35 r n aKi x0 r35 = (K3 (aJs r n) 0 1 2) :=
 (bCt r n).trans
 ((by kernel_rfl))
theorem bPc : D35 r n c35 x0 r35 = D35 r n aXl x0 (K3 (aJs r n) 0 1 2) :=
 congrArg (fun k => D35 r n aXl x0 k) (bNg r n)
theorem bVn : D35 r n c35 x0 r35 = (K3 (s35 r n) 0 1 2) :=
 (bPc r n).trans
 ((by kernel_rfl))
theorem bRl : aO CF r n 35 args h = s35 r n (bA args 0) (bA args 1) (bA args 2) h :=
 fL (bVn r n) args h (by kernel_rfl) (by kernel_rfl)
def aE (r : RT) (n : Nat) (x1 : DV) (h0 : Hp) : aG :=
 bnd (aA 1 x1 h0) fun v1 h1 =>
 bnd (aB v1 h1) fun v2 h2 =>
 some (v2, h2)
def zL (r : RT) (n : Nat) (x1 x3 : DV) (h0 : Hp) : aG :=
 bnd (aD 6 x1 h0) fun v1 h1 =>
 bnd (r 21 [v1] h1) fun v2 h2 =>
 bnd (aM [(.s []), (.s []), (.s []), (.s [])] 4 [(0, 1, (.s [91])), (1, 1, x3), (2, 1, v2), (3, 1, (.s [93]))] h2) fun v3 h3 =>
 bnd (r 19 [v3] h3) fun v4 h4 =>
 some (v4, h4)
def dZ (r : RT) (n : Nat) (x1 x3 : DV) (h0 : Hp) : aG :=
 bnd (fZ .neq x3 (.s []) h0) fun v1 h1 =>
 cG v1 (
 bnd (aM [(.s []), (.s [])] 2 [(0, 1, x3), (1, 1, (.s [124, 32]))] h1) fun v2 h2 =>
 bnd (r 19 [v2] h2) fun v3 h3 =>
  zL r n x1 v3 h3) (
  zL r n x1 x3 h1)
def mF (r : RT) (n : Nat) (kk26 : TT5) (x1 x3 x64 x65 x66 : DV) (h0 : Hp) : aG :=
 bnd (aR .lss x66 x65 h0) fun v1 h1 =>
 cG v1 (
 bnd (aY 1 x64 x66 h1) fun v2 h2 =>
 bnd (aB v2 h2) fun v3 h3 =>
 bnd (aM [(.s []), (.s []), (.s []), (.s [])] 4 [(0, 1, x3), (1, 1, (.s [58])), (2, 1, v3), (3, 1, (.s [32]))] h3) fun v4 h4 =>
 bnd (r 19 [v4] h4) fun v5 h5 =>
 bnd (aR .add x66 (aJ 1) h5) fun v6 h6 =>
      kk26 x1 v5 x64 x65 v6 h6) (
      dZ r n x1 x3 h1)
def iT (r : RT) (n : Nat) (m : Nat) : TT5 :=
 Nat.rec (motive := fun _ => TT5) (fun _ _ _ _ _ _ => none) (fun _ ih => mF r n ih) m
def aFr (r : RT) (n : Nat) : TT5 := iT r n n
def zA (r : RT) (n : Nat) (x1 x3 x64 x65 x66 : DV) (h0 : Hp) : aG :=
 aFr r n x1 x3 x64 x65 x66 h0
def yA (r : RT) (n : Nat) (x1 x3 : DV) (h0 : Hp) : aG :=
 bnd (aA 3 x1 h0) fun v1 h1 =>
 bnd (aB v1 h1) fun v2 h2 =>
 bnd (hC v2 h2) fun v3 h3 =>
  zA r n x1 x3 v2 v3 (aJ 0) h3
def aFv (r : RT) (n : Nat) (x1 : DV) (h0 : Hp) : aG :=
 yA r n x1 (.s []) h0
def sU (r : RT) (n : Nat) (x1 x61 : DV) (h0 : Hp) : aG :=
 cG x61 (
  aFv r n x1 h0) (
  aE r n x1 h0)
def aFg (r : RT) (n : Nat) (x1 x7 : DV) (h0 : Hp) : aG :=
 bnd (aR .eql x7 (aJ 9) h0) fun v1 h1 =>
  sU r n x1 v1 h1
def sV (r : RT) (n : Nat) (x1 x7 x56 : DV) (h0 : Hp) : aG :=
 cG x56 (
 bnd (aA 5 x1 h0) fun v1 h1 =>
 bnd (aB v1 h1) fun v2 h2 =>
 bnd (r 62 [v2] h2) fun v3 h3 =>
 some (v3, h3)) (
  aFg r n x1 x7 h0)
def aGb (r : RT) (n : Nat) (x1 x7 : DV) (h0 : Hp) : aG :=
 bnd (aR .eql x7 (aJ 8) h0) fun v1 h1 =>
  sV r n x1 x7 v1 h1
def uA (r : RT) (n : Nat) (x1 x7 x49 : DV) (h0 : Hp) : aG :=
 cG x49 (
 bnd (aA 1 x1 h0) fun v1 h1 =>
 bnd (aB v1 h1) fun v2 h2 =>
 bnd (aA 5 x1 h2) fun v3 h3 =>
 bnd (aB v3 h3) fun v4 h4 =>
 bnd (r 61 [v2, v4] h4) fun v5 h5 =>
 some (v5, h5)) (
  aGb r n x1 x7 h0)
def aGh (r : RT) (n : Nat) (x1 x7 : DV) (h0 : Hp) : aG :=
 bnd (aR .eql x7 (aJ 7) h0) fun v1 h1 =>
  uA r n x1 x7 v1 h1
def uK (r : RT) (n : Nat) (x1 x7 x42 : DV) (h0 : Hp) : aG :=
 cG x42 (
 bnd (aA 5 x1 h0) fun v1 h1 =>
 bnd (aB v1 h1) fun v2 h2 =>
 bnd (r 35 [v2, (.s []), (.f 36 [] [])] h2) fun v3 h3 =>
 bnd (aM [(.s []), (.s [])] 2 [(0, 1, (.s [94])), (1, 1, v3)] h3) fun v4 h4 =>
 bnd (r 19 [v4] h4) fun v5 h5 =>
 some (v5, h5)) (
  aGh r n x1 x7 h0)
def aFj (r : RT) (n : Nat) (x1 x7 : DV) (h0 : Hp) : aG :=
 bnd (aR .eql x7 (aJ 10) h0) fun v1 h1 =>
  uK r n x1 x7 v1 h1
def sJ (r : RT) (n : Nat) (x1 x7 x33 : DV) (h0 : Hp) : aG :=
 cG x33 (
 bnd (aA 1 x1 (gI 1 h0)) fun v1 h1 =>
 bnd (aB v1 h1) fun v2 h2 =>
 bnd (aA 5 x1 h2) fun v3 h3 =>
 bnd (aB v3 h3) fun v4 h4 =>
 bnd (r 35 [v4, (.s []), (.f 36 [] [])] h4) fun v5 h5 =>
 cnd (bU (aB v1 h5) v2 && true) (
 bnd (aX (dC 0 h0.next) [(.s []), (.s []), (.s [])] 3 [(0, 1, v2), (1, 1, (.s [32, 58, 61, 32])), (2, 1, v5)] h5) fun v6 h6 =>
 bnd (r 19 [v6] h6) fun v7 h7 =>
 some (v7, h7))) (
  aFj r n x1 x7 h0)
def aFn (r : RT) (n : Nat) (x1 x7 : DV) (h0 : Hp) : aG :=
 bnd (aR .eql x7 (aJ 6) h0) fun v1 h1 =>
  sJ r n x1 x7 v1 h1
def tI (r : RT) (n : Nat) (x1 x7 x26 : DV) (h0 : Hp) : aG :=
 cG x26 (
 bnd (aA 5 x1 h0) fun v1 h1 =>
 bnd (aB v1 h1) fun v2 h2 =>
 bnd (r 35 [v2, (.s [32]), (.f 36 [] [])] h2) fun v3 h3 =>
 bnd (aM [(.s []), (.s []), (.s [])] 3 [(0, 1, (.s [35, 40])), (1, 1, v3), (2, 1, (.s [41]))] h3) fun v4 h4 =>
 bnd (r 19 [v4] h4) fun v5 h5 =>
 some (v5, h5)) (
  aFn r n x1 x7 h0)
def aXa (r : RT) (n : Nat) (x1 x7 : DV) (h0 : Hp) : aG :=
 bnd (aR .eql x7 (aJ 4) h0) fun v1 h1 =>
  tI r n x1 x7 v1 h1
def aBi (r : RT) (n : Nat) (x1 x7 x20 : DV) (h0 : Hp) : aG :=
 cG x20 (
 bnd (aA 1 x1 h0) fun v1 h1 =>
 bnd (aB v1 h1) fun v2 h2 =>
 bnd (aM [(.s []), (.s [])] 2 [(0, 1, (.s [35])), (1, 1, v2)] h2) fun v3 h3 =>
 bnd (r 19 [v3] h3) fun v4 h4 =>
 some (v4, h4)) (
  aXa r n x1 x7 h0)
def aWt (r : RT) (n : Nat) (x1 x7 : DV) (h0 : Hp) : aG :=
 bnd (aR .eql x7 (aJ 3) h0) fun v1 h1 =>
  aBi r n x1 x7 v1 h1
def aDb (r : RT) (n : Nat) (x1 x7 x13 : DV) (h0 : Hp) : aG :=
 cG x13 (
 bnd (aA 1 x1 h0) fun v1 h1 =>
 bnd (aB v1 h1) fun v2 h2 =>
 bnd (vM [v2, (.s [39]), (.s [39, 39])] h2) fun v3 h3 =>
 bnd (aM [(.s []), (.s []), (.s [])] 3 [(0, 1, (.s [39])), (1, 1, v3), (2, 1, (.s [39]))] h3) fun v4 h4 =>
 bnd (r 19 [v4] h4) fun v5 h5 =>
 some (v5, h5)) (
  aWt r n x1 x7 h0)
def aRw (r : RT) (n : Nat) (x1 x7 : DV) (h0 : Hp) : aG :=
 bnd (aR .eql x7 (aJ 2) h0) fun v1 h1 =>
  aDb r n x1 x7 v1 h1
def aCv (r : RT) (n : Nat) (x1 x7 x8 : DV) (h0 : Hp) : aG :=
 cG x8 (
 bnd (aA 2 x1 h0) fun v1 h1 =>
 bnd (aB v1 h1) fun v2 h2 =>
 bnd (tW [v2] h2) fun v3 h3 =>
 some (v3, h3)) (
  aRw r n x1 x7 h0)
def aLg (r : RT) (n : Nat) (x1 x7 : DV) (h0 : Hp) : aG :=
 bnd (aR .eql x7 (aJ 1) h0) fun v1 h1 =>
  aCv r n x1 x7 v1 h1
def aLj (r : RT) (n : Nat) (x1 : DV) (h0 : Hp) : aG :=
 bnd (aA 0 x1 h0) fun v1 h1 =>
 bnd (aB v1 h1) fun v2 h2 =>
  aLg r n x1 v2 h2
def s36 (r : RT) (n : Nat) (x0 : DV) (h0 : Hp) : aG :=
 bnd (iH x0 h0) fun v1 h1 =>
  aLj r n v1 h1
abbrev c36 : Code := cf Tryz.f36
abbrev aKa := cR c36
abbrev bQg := cR aKa
abbrev aDq := cL aKa
abbrev aWm := cR aDq
abbrev aIz := cL aWm
abbrev aBm := cR aIz
abbrev aBj := cR aBm
abbrev aEb := cR aBj
abbrev aCt := cR aEb
abbrev tV := cR aCt
abbrev rW := cR tV
abbrev uC := cR rW
abbrev sS := cR uC
abbrev tY := cR sS
abbrev rX := cR tY
abbrev tT := cR rX
abbrev sL := cR tT
abbrev uE := cR sL
abbrev sI := cR uE
abbrev tJ := cR sI
abbrev sX := cR tJ
abbrev uH := cR sX
abbrev uI := cL uH
abbrev zE := cR uI
abbrev bLn := cR zE
abbrev uM := cL zE
abbrev aFb := cR uM
abbrev wY := cL aFb
abbrev nD := cL wY
abbrev aXj := cL uM
abbrev aSi := cL uI
abbrev bIc := cR uH
abbrev aNo := cL sX
abbrev bMq := cL tJ
abbrev aXn := cL sI
abbrev bHz := cL uE
abbrev aQv := cL sL
abbrev bHw := cL tT
abbrev aNe := cL rX
abbrev bIz := cL tY
abbrev aRl := cL sS
abbrev bNe := cL uC
abbrev aVl := cL rW
abbrev bKr := cL tV
abbrev aOo := cL aCt
abbrev bLr := cL aEb
abbrev aTl := cL aBj
abbrev bNq := cL aBm
abbrev aWk := cL aIz
abbrev aSs := cL aDq
abbrev aNr := cL c36
abbrev r36 : K := bT CF Tryz.f36
def D36 (r : RT) (n : Nat) (c : Code) (X : Nat → K) (k : K) : K := aV CF r 87 n c X r36 k
theorem bMz : D36 r n bQg x0 r36 = (K1 (aE r n) 1) := by kernel_rfl
theorem bBb : D36 r n bLn (xs x0 0 (K1 (aE r n) 1)) (K1 (aE r n) 1) = (K2 (dZ r n) 1 3) := by kernel_rfl
theorem aNl (kk26 : TT5) : D36 r n nD (xs (xs x0 0 (K1 (aE r n) 1)) 1 (K2 (dZ r n) 1 3)) (K5 kk26 1 3 64 65 66) = (K5 (mF r n kk26) 1 3 64 65 66) := by kernel_rfl
theorem aSm (m : Nat) : aP (fun kk => D36 r n nD (xs (xs x0 0 (K1 (aE r n) 1)) 1 (K2 (dZ r n) 1 3)) kk) m = (K5 (iT r n m) 1 3 64 65 66) := by
 induction m with
 | zero => exact (by kernel_rfl : aP (fun kk => D36 r n nD (xs (xs x0 0 (K1 (aE r n) 1)) 1 (K2 (dZ r n) 1 3)) kk) 0 = (K5 (iT r n 0) 1 3 64 65 66))
 | succ m ih =>
  refine (by kernel_rfl : aP (fun kk => D36 r n nD (xs (xs x0 0 (K1 (aE r n) 1)) 1 (K2 (dZ r n) 1 3)) kk) (m + 1) = D36 r n nD (xs (xs x0 0 (K1 (aE r n) 1)) 1 (K2 (dZ r n) 1 3)) (aP (fun kk => D36 r n nD (xs (xs x0 0 (K1 (aE r n) 1)) 1 (K2 (dZ r n) 1 3)) kk) m)).trans ?_
  rw [ih]
  exact (aNl r n (iT r n m)).trans (by kernel_rfl)
theorem bAg : D36 r n wY (xs (xs x0 0 (K1 (aE r n) 1)) 1 (K2 (dZ r n) 1 3)) (K2 (dZ r n) 1 3) = (K5 (aFr r n) 1 3 64 65 66) :=
 (by kernel_rfl : D36 r n wY (xs (xs x0 0 (K1 (aE r n) 1)) 1 (K2 (dZ r n) 1 3)) (K2 (dZ r n) 1 3) = aP (fun kk => D36 r n nD (xs (xs x0 0 (K1 (aE r n) 1)) 1 (K2 (dZ r n) 1 3)) kk) n).trans ((aSm r n n).trans (by kernel_rfl))
theorem bDh : D36 r n aFb (xs x0 0 (K1 (aE r n) 1)) (K2 (dZ r n) 1 3) = (K5 (zA r n) 1 3 64 65 66) :=
 (by kernel_rfl : D36 r n aFb (xs x0 0 (K1 (aE r n) 1)) (K2 (dZ r n) 1 3) = D36 r n wY (xs (xs x0 0 (K1 (aE r n) 1)) 1 (K2 (dZ r n) 1 3)) (K2 (dZ r n) 1 3)).trans
 ((bAg r n).trans (by kernel_rfl))
theorem aOw : D36 r n zE (xs x0 0 (K1 (aE r n) 1)) (K1 (aE r n) 1) = D36 r n uM (xs x0 0 (K1 (aE r n) 1)) (K2 (dZ r n) 1 3) :=
 congrArg (fun k => D36 r n uM (xs x0 0 (K1 (aE r n) 1)) k) (bBb r n)
theorem aSr : D36 r n uM (xs x0 0 (K1 (aE r n) 1)) (K2 (dZ r n) 1 3) = D36 r n aXj (xs x0 0 (K1 (aE r n) 1)) (K5 (zA r n) 1 3 64 65 66) :=
 congrArg (fun k => D36 r n aXj (xs x0 0 (K1 (aE r n) 1)) k) (bDh r n)
theorem aZg : D36 r n zE (xs x0 0 (K1 (aE r n) 1)) (K1 (aE r n) 1) = (K2 (yA r n) 1 3) :=
 (aOw r n).trans
 ((aSr r n).trans
 ((by kernel_rfl)))
theorem aPy : D36 r n uI (xs x0 0 (K1 (aE r n) 1)) (K1 (aE r n) 1) = D36 r n aSi (xs x0 0 (K1 (aE r n) 1)) (K2 (yA r n) 1 3) :=
 congrArg (fun k => D36 r n aSi (xs x0 0 (K1 (aE r n) 1)) k) (aZg r n)
theorem bCr : D36 r n uI (xs x0 0 (K1 (aE r n) 1)) (K1 (aE r n) 1) = (K1 (aFv r n) 1) :=
 (aPy r n).trans
 ((by kernel_rfl))
theorem bDz : D36 r n uH (xs x0 0 (K1 (aE r n) 1)) (K1 (aE r n) 1) = (K2 (sU r n) 1 61) :=
 (by kernel_rfl : D36 r n uH (xs x0 0 (K1 (aE r n) 1)) (K1 (aE r n) 1) = (fun (env : fM) (h : Hp) => cG (opr env (cC uH)) (D36 r n uI (xs x0 0 (K1 (aE r n) 1)) (K1 (aE r n) 1) env h) (D36 r n bIc (xs x0 0 (K1 (aE r n) 1)) (K1 (aE r n) 1) env h))).trans (by rw [bCr r n]; kernel_rfl)
theorem aTq : D36 r n sX (xs x0 0 (K1 (aE r n) 1)) (K1 (aE r n) 1) = D36 r n aNo (xs x0 0 (K1 (aE r n) 1)) (K2 (sU r n) 1 61) :=
 congrArg (fun k => D36 r n aNo (xs x0 0 (K1 (aE r n) 1)) k) (bDz r n)
theorem bBs : D36 r n sX (xs x0 0 (K1 (aE r n) 1)) (K1 (aE r n) 1) = (K2 (aFg r n) 1 7) :=
 (aTq r n).trans
 ((by kernel_rfl))
theorem bCi : D36 r n tJ (xs x0 0 (K1 (aE r n) 1)) (K1 (aE r n) 1) = (K3 (sV r n) 1 7 56) :=
 (by kernel_rfl : D36 r n tJ (xs x0 0 (K1 (aE r n) 1)) (K1 (aE r n) 1) = (fun (env : fM) (h : Hp) => cG (opr env (cC tJ)) (D36 r n bMq (xs x0 0 (K1 (aE r n) 1)) (K1 (aE r n) 1) env h) (D36 r n sX (xs x0 0 (K1 (aE r n) 1)) (K1 (aE r n) 1) env h))).trans (by rw [bBs r n]; kernel_rfl)
theorem aQe : D36 r n sI (xs x0 0 (K1 (aE r n) 1)) (K1 (aE r n) 1) = D36 r n aXn (xs x0 0 (K1 (aE r n) 1)) (K3 (sV r n) 1 7 56) :=
 congrArg (fun k => D36 r n aXn (xs x0 0 (K1 (aE r n) 1)) k) (bCi r n)
theorem bEo : D36 r n sI (xs x0 0 (K1 (aE r n) 1)) (K1 (aE r n) 1) = (K2 (aGb r n) 1 7) :=
 (aQe r n).trans
 ((by kernel_rfl))
theorem aYd : D36 r n uE (xs x0 0 (K1 (aE r n) 1)) (K1 (aE r n) 1) = (K3 (uA r n) 1 7 49) :=
 (by kernel_rfl : D36 r n uE (xs x0 0 (K1 (aE r n) 1)) (K1 (aE r n) 1) = (fun (env : fM) (h : Hp) => cG (opr env (cC uE)) (D36 r n bHz (xs x0 0 (K1 (aE r n) 1)) (K1 (aE r n) 1) env h) (D36 r n sI (xs x0 0 (K1 (aE r n) 1)) (K1 (aE r n) 1) env h))).trans (by rw [bEo r n]; kernel_rfl)
theorem aNc : D36 r n sL (xs x0 0 (K1 (aE r n) 1)) (K1 (aE r n) 1) = D36 r n aQv (xs x0 0 (K1 (aE r n) 1)) (K3 (uA r n) 1 7 49) :=
 congrArg (fun k => D36 r n aQv (xs x0 0 (K1 (aE r n) 1)) k) (aYd r n)
theorem bCo : D36 r n sL (xs x0 0 (K1 (aE r n) 1)) (K1 (aE r n) 1) = (K2 (aGh r n) 1 7) :=
 (aNc r n).trans
 ((by kernel_rfl))
theorem bAk : D36 r n tT (xs x0 0 (K1 (aE r n) 1)) (K1 (aE r n) 1) = (K3 (uK r n) 1 7 42) :=
 (by kernel_rfl : D36 r n tT (xs x0 0 (K1 (aE r n) 1)) (K1 (aE r n) 1) = (fun (env : fM) (h : Hp) => cG (opr env (cC tT)) (D36 r n bHw (xs x0 0 (K1 (aE r n) 1)) (K1 (aE r n) 1) env h) (D36 r n sL (xs x0 0 (K1 (aE r n) 1)) (K1 (aE r n) 1) env h))).trans (by rw [bCo r n]; kernel_rfl)
theorem aLz : D36 r n rX (xs x0 0 (K1 (aE r n) 1)) (K1 (aE r n) 1) = D36 r n aNe (xs x0 0 (K1 (aE r n) 1)) (K3 (uK r n) 1 7 42) :=
 congrArg (fun k => D36 r n aNe (xs x0 0 (K1 (aE r n) 1)) k) (bAk r n)
theorem bBi : D36 r n rX (xs x0 0 (K1 (aE r n) 1)) (K1 (aE r n) 1) = (K2 (aFj r n) 1 7) :=
 (aLz r n).trans
 ((by kernel_rfl))
theorem aYt : D36 r n tY (xs x0 0 (K1 (aE r n) 1)) (K1 (aE r n) 1) = (K3 (sJ r n) 1 7 33) :=
 (by kernel_rfl : D36 r n tY (xs x0 0 (K1 (aE r n) 1)) (K1 (aE r n) 1) = (fun (env : fM) (h : Hp) => cG (opr env (cC tY)) (D36 r n bIz (xs x0 0 (K1 (aE r n) 1)) (K1 (aE r n) 1) env h) (D36 r n rX (xs x0 0 (K1 (aE r n) 1)) (K1 (aE r n) 1) env h))).trans (by rw [bBi r n]; kernel_rfl)
theorem aLw : D36 r n sS (xs x0 0 (K1 (aE r n) 1)) (K1 (aE r n) 1) = D36 r n aRl (xs x0 0 (K1 (aE r n) 1)) (K3 (sJ r n) 1 7 33) :=
 congrArg (fun k => D36 r n aRl (xs x0 0 (K1 (aE r n) 1)) k) (aYt r n)
theorem bCm : D36 r n sS (xs x0 0 (K1 (aE r n) 1)) (K1 (aE r n) 1) = (K2 (aFn r n) 1 7) :=
 (aLw r n).trans
 ((by kernel_rfl))
theorem bCz : D36 r n uC (xs x0 0 (K1 (aE r n) 1)) (K1 (aE r n) 1) = (K3 (tI r n) 1 7 26) :=
 (by kernel_rfl : D36 r n uC (xs x0 0 (K1 (aE r n) 1)) (K1 (aE r n) 1) = (fun (env : fM) (h : Hp) => cG (opr env (cC uC)) (D36 r n bNe (xs x0 0 (K1 (aE r n) 1)) (K1 (aE r n) 1) env h) (D36 r n sS (xs x0 0 (K1 (aE r n) 1)) (K1 (aE r n) 1) env h))).trans (by rw [bCm r n]; kernel_rfl)
theorem aPt : D36 r n rW (xs x0 0 (K1 (aE r n) 1)) (K1 (aE r n) 1) = D36 r n aVl (xs x0 0 (K1 (aE r n) 1)) (K3 (tI r n) 1 7 26) :=
 congrArg (fun k => D36 r n aVl (xs x0 0 (K1 (aE r n) 1)) k) (bCz r n)
theorem bMs : D36 r n rW (xs x0 0 (K1 (aE r n) 1)) (K1 (aE r n) 1) = (K2 (aXa r n) 1 7) :=
 (aPt r n).trans
 ((by kernel_rfl))
theorem bMl : D36 r n tV (xs x0 0 (K1 (aE r n) 1)) (K1 (aE r n) 1) = (K3 (aBi r n) 1 7 20) :=
 (by kernel_rfl : D36 r n tV (xs x0 0 (K1 (aE r n) 1)) (K1 (aE r n) 1) = (fun (env : fM) (h : Hp) => cG (opr env (cC tV)) (D36 r n bKr (xs x0 0 (K1 (aE r n) 1)) (K1 (aE r n) 1) env h) (D36 r n rW (xs x0 0 (K1 (aE r n) 1)) (K1 (aE r n) 1) env h))).trans (by rw [bMs r n]; kernel_rfl)
theorem aRv : D36 r n aCt (xs x0 0 (K1 (aE r n) 1)) (K1 (aE r n) 1) = D36 r n aOo (xs x0 0 (K1 (aE r n) 1)) (K3 (aBi r n) 1 7 20) :=
 congrArg (fun k => D36 r n aOo (xs x0 0 (K1 (aE r n) 1)) k) (bMl r n)
theorem bJe : D36 r n aCt (xs x0 0 (K1 (aE r n) 1)) (K1 (aE r n) 1) = (K2 (aWt r n) 1 7) :=
 (aRv r n).trans
 ((by kernel_rfl))
theorem bMc : D36 r n aEb (xs x0 0 (K1 (aE r n) 1)) (K1 (aE r n) 1) = (K3 (aDb r n) 1 7 13) :=
 (by kernel_rfl : D36 r n aEb (xs x0 0 (K1 (aE r n) 1)) (K1 (aE r n) 1) = (fun (env : fM) (h : Hp) => cG (opr env (cC aEb)) (D36 r n bLr (xs x0 0 (K1 (aE r n) 1)) (K1 (aE r n) 1) env h) (D36 r n aCt (xs x0 0 (K1 (aE r n) 1)) (K1 (aE r n) 1) env h))).trans (by rw [bJe r n]; kernel_rfl)
theorem aVc : D36 r n aBj (xs x0 0 (K1 (aE r n) 1)) (K1 (aE r n) 1) = D36 r n aTl (xs x0 0 (K1 (aE r n) 1)) (K3 (aDb r n) 1 7 13) :=
 congrArg (fun k => D36 r n aTl (xs x0 0 (K1 (aE r n) 1)) k) (bMc r n)
theorem bMb : D36 r n aBj (xs x0 0 (K1 (aE r n) 1)) (K1 (aE r n) 1) = (K2 (aRw r n) 1 7) :=
 (aVc r n).trans
 ((by kernel_rfl))
theorem bLd : D36 r n aBm (xs x0 0 (K1 (aE r n) 1)) (K1 (aE r n) 1) = (K3 (aCv r n) 1 7 8) :=
 (by kernel_rfl : D36 r n aBm (xs x0 0 (K1 (aE r n) 1)) (K1 (aE r n) 1) = (fun (env : fM) (h : Hp) => cG (opr env (cC aBm)) (D36 r n bNq (xs x0 0 (K1 (aE r n) 1)) (K1 (aE r n) 1) env h) (D36 r n aBj (xs x0 0 (K1 (aE r n) 1)) (K1 (aE r n) 1) env h))).trans (by rw [bMb r n]; kernel_rfl)
theorem aRu : D36 r n aIz (xs x0 0 (K1 (aE r n) 1)) (K1 (aE r n) 1) = D36 r n aWk (xs x0 0 (K1 (aE r n) 1)) (K3 (aCv r n) 1 7 8) :=
 congrArg (fun k => D36 r n aWk (xs x0 0 (K1 (aE r n) 1)) k) (bLd r n)
theorem bHr : D36 r n aWm x0 (K1 (aE r n) 1) = (K2 (aLg r n) 1 7) :=
 (by kernel_rfl : D36 r n aWm x0 (K1 (aE r n) 1) = D36 r n aIz (xs x0 0 (K1 (aE r n) 1)) (K1 (aE r n) 1)).trans
 ((aRu r n).trans
 ((by kernel_rfl)))
theorem aRb : D36 r n aKa x0 r36 = D36 r n aDq x0 (K1 (aE r n) 1) :=
 congrArg (fun k => D36 r n aDq x0 k) (bMz r n)
theorem aNv : D36 r n aDq x0 (K1 (aE r n) 1) = D36 r n aSs x0 (K2 (aLg r n) 1 7) :=
 congrArg (fun k => D36 r n aSs x0 k) (bHr r n)
theorem bLm : D36 r n aKa x0 r36 = (K1 (aLj r n) 1) :=
 (aRb r n).trans
 ((aNv r n).trans
 ((by kernel_rfl)))
theorem bIb : D36 r n c36 x0 r36 = D36 r n aNr x0 (K1 (aLj r n) 1) :=
 congrArg (fun k => D36 r n aNr x0 k) (bLm r n)
theorem bUc : D36 r n c36 x0 r36 = (K1 (s36 r n) 0) :=
 (bIb r n).trans
 ((by kernel_rfl))
theorem bQj : aO CF r n 36 args h = s36 r n (bA args 0) h :=
 fL (bUc r n) args h (by kernel_rfl) (by kernel_rfl)
def s37 (r : RT) (n : Nat) (x0 x1 : DV) (h0 : Hp) : aG :=
 bnd (iH x0 h0) fun v1 h1 =>
 bnd (iH x1 h1) fun v2 h2 =>
 bnd (aA 0 v1 h2) fun v3 h3 =>
 bnd (aB v3 h3) fun v4 h4 =>
 bnd (aA 0 v2 h4) fun v5 h5 =>
 bnd (aB v5 h5) fun v6 h6 =>
 bnd (aR .eql v4 v6 h6) fun v7 h7 =>
 bnd (gD v7 true (aA 1 v1 h7) h7) fun v8 h8 =>
 bnd (gD v7 true (aB v8 h8) h8) fun v9 h9 =>
 bnd (gD v7 true (aA 1 v2 h9) h9) fun v10 h10 =>
 bnd (gD v7 true (aB v10 h10) h10) fun v11 h11 =>
 bnd (gD v7 true (fZ .eql v9 v11 h11) h11) fun v12 h12 =>
 bnd (cN v7 v12 (.b false) h12) fun v13 h13 =>
 bnd (gD v13 true (aA 2 v1 h13) h13) fun v14 h14 =>
 bnd (gD v13 true (aB v14 h14) h14) fun v15 h15 =>
 bnd (gD v13 true (aA 2 v2 h15) h15) fun v16 h16 =>
 bnd (gD v13 true (aB v16 h16) h16) fun v17 h17 =>
 bnd (gD v13 true (aR .eql v15 v17 h17) h17) fun v18 h18 =>
 bnd (cN v13 v18 (.b false) h18) fun v19 h19 =>
 bnd (gD v19 true (aA 3 v1 h19) h19) fun v20 h20 =>
 bnd (gD v19 true (aB v20 h20) h20) fun v21 h21 =>
 bnd (gD v19 true (aA 3 v2 h21) h21) fun v22 h22 =>
 bnd (gD v19 true (aB v22 h22) h22) fun v23 h23 =>
 bnd (gD v19 true (r 63 [v21, v23] h23) h23) fun v24 h24 =>
 bnd (cN v19 v24 (.b false) h24) fun v25 h25 =>
 bnd (gD v25 true (aA 4 v1 h25) h25) fun v26 h26 =>
 bnd (gD v25 true (aB v26 h26) h26) fun v27 h27 =>
 bnd (gD v25 true (aA 4 v2 h27) h27) fun v28 h28 =>
 bnd (gD v25 true (aB v28 h28) h28) fun v29 h29 =>
 bnd (gD v25 true (r 63 [v27, v29] h29) h29) fun v30 h30 =>
 bnd (cN v25 v30 (.b false) h30) fun v31 h31 =>
 bnd (gD v31 true (aA 5 v1 h31) h31) fun v32 h32 =>
 bnd (gD v31 true (aB v32 h32) h32) fun v33 h33 =>
 bnd (gD v31 true (aA 5 v2 h33) h33) fun v34 h34 =>
 bnd (gD v31 true (aB v34 h34) h34) fun v35 h35 =>
 bnd (gD v31 true (r 64 [v33, v35, (.f 37 [] [])] h35) h35) fun v36 h36 =>
 bnd (cN v31 v36 (.b false) h36) fun v37 h37 =>
 some (v37, h37)
abbrev c37 : Code := cf Tryz.f37
abbrev r37 : K := bT CF Tryz.f37
def D37 (r : RT) (n : Nat) (c : Code) (X : Nat → K) (k : K) : K := aV CF r 47 n c X r37 k
theorem bUt : D37 r n c37 x0 r37 = (K2 (s37 r n) 0 1) :=
 (by kernel_rfl)
theorem bOs : aO CF r n 37 args h = s37 r n (bA args 0) (bA args 1) h :=
 fL (bUt r n) args h (by kernel_rfl) (by kernel_rfl)
end
end Go.Dd

namespace Go.Dd
open Go.Proofs
noncomputable section
variable (r : RT) (n : Nat) (args : List DV) (h : Hp)
def hU (r : RT) (n : Nat) (x0 x6 : DV) (h0 : Hp) : aG :=
 bnd (hO x0 h0) fun v1 h1 =>
 bnd (cW [(aJ 0), (.s []), (aJ 0), (aJ 0)] [(3, 1, v1)] h1) fun v2 h2 =>
 bnd (aM [(aJ 0), (.s []), (aJ 0), (aJ 0)] 1 [(0, 4, v2)] h2) fun v3 h3 =>
 bnd (bH 4 40 x6 v3 h3) fun v4 h4 =>
 some (.t [v4, (aJ 0), (aJ 0)], h4)
def xO (r : RT) (n : Nat) (kk7 : jN) (x0 x5 x6 : DV) (h0 : Hp) : aG :=
 bnd (r 75 [(.s [9, 10, 13, 32])] h0) fun v1 h1 =>
 bnd (hO x0 h1) fun v2 h2 =>
 bnd (r 74 [x5, v1, v2] h2) fun v3 h3 =>
 bnd (bK x5 h3) fun v4 h4 =>
 bnd (aA 1 v4 h4) fun v5 h5 =>
 bnd (aB v5 h5) fun v6 h6 =>
 bnd (hO x0 h6) fun v7 h7 =>
 bnd (aR .geq v6 v7 h7) fun v8 h8 =>
 cG v8 (
  hU r n x0 x6 h8) (
 bnd (bK x5 h8) fun v9 h9 =>
 bnd (aA 1 v9 h9) fun v10 h10 =>
 bnd (aB v10 h10) fun v11 h11 =>
 bnd (eL x0 v11 h11) fun v12 h12 =>
 bnd (aR .eql v12 (.i .u8 (Int.ofNat 34)) h12) fun v13 h13 =>
 cG v13 (
 bnd (bK x5 h13) fun v14 h14 =>
 bnd (aA 1 v14 h14) fun v15 h15 =>
 bnd (aB v15 h15) fun v16 h16 =>
 bnd (aR .add v16 (aJ 1) h16) fun v17 h17 =>
 bnd (eC x0 (some v17) none h17) fun v18 h18 =>
 bnd (r 57 [v18, (.i .u8 (Int.ofNat 34))] h18) fun v19 h19 =>
 bnd (aR .lss v19 (aJ 0) h19) fun v20 h20 =>
 cG v20 (
 bnd (bK x5 h20) fun v21 h21 =>
 bnd (aA 1 v21 h21) fun v22 h22 =>
 bnd (aB v22 h22) fun v23 h23 =>
 some (.t [.l0, v23, (aJ 11)], h23)) (
 bnd (bK x5 h20) fun v24 h24 =>
 bnd (aA 1 v24 h24) fun v25 h25 =>
 bnd (aB v25 h25) fun v26 h26 =>
 bnd (aR .add v19 (aJ 2) h26) fun v27 h27 =>
 bnd (aR .add v26 v27 h27) fun v28 h28 =>
 bnd (bK x5 h28) fun v29 h29 =>
 bnd (aA 1 v29 h29) fun v30 h30 =>
 bnd (aC 1 v30 v28 h30) fun _ h31 =>
  kk7 x0 x5 x6 h31)) (
 bnd (r 76 [x5] h13) fun v32 h32 =>
 bnd (aL 0 v32 h32) fun v33 h33 =>
 bnd (aL 1 v32 h33) fun v34 h34 =>
 bnd (cK [(aJ 0), (.s []), (aJ 0), (aJ 0)] h34) fun v35 h35 =>
 bnd (aC 4 v35 v33 h35) fun _ h36 =>
 bnd (aR .neq v34 (aJ 0) h36) fun v37 h37 =>
 cG v37 (
 bnd (aA 3 v35 h37) fun v38 h38 =>
 bnd (aB v38 h38) fun v39 h39 =>
 some (.t [.l0, v39, v34], h39)) (
 bnd (aD 4 v35 h37) fun v40 h40 =>
 bnd (aM [(aJ 0), (.s []), (aJ 0), (aJ 0)] 1 [(0, 4, v40)] h40) fun v41 h41 =>
 bnd (bH 4 40 x6 v41 h41) fun v42 h42 =>
  kk7 x0 x5 v42 h42)))
def mX (r : RT) (n : Nat) (m : Nat) : jN :=
 Nat.rec (motive := fun _ => jN) (fun _ _ _ _ => none) (fun _ ih => xO r n ih) m
def aQd (r : RT) (n : Nat) : jN := mX r n n
def aJu (r : RT) (n : Nat) (x0 x5 x6 : DV) (h0 : Hp) : aG :=
 aQd r n x0 x5 x6 h0
def aHy (r : RT) (n : Nat) (x0 x5 x6 : DV) (h0 : Hp) : aG :=
 aJu r n x0 x5 x6 h0
def aHp (r : RT) (n : Nat) (x0 x5 : DV) (h0 : Hp) : aG :=
 aHy r n x0 x5 .l0 h0
def aLu (r : RT) (n : Nat) (x0 : DV) (h0 : Hp) : aG :=
 bnd (cW [(.s []), (aJ 0)] [(0, 1, x0)] h0) fun v1 h1 =>
 bnd (iH v1 h1) fun v2 h2 =>
  aHp r n x0 v2 h2
def aGv (r : RT) (n : Nat) (x0 : DV) (h0 : Hp) : aG :=
 bnd (hO x0 h0) fun v1 h1 =>
 bnd (aR .gtr v1 (aJ 2000) h1) fun v2 h2 =>
 cG v2 (
 some (.t [.l0, (aJ 0), (aJ 12)], h2)) (
  aLu r n x0 h2)
def s48 (r : RT) (n : Nat) (x0 : DV) (h0 : Hp) : aG :=
 aGv r n x0 h0
abbrev c48 : Code := cf Tryz.f48
abbrev aRc := cR c48
abbrev aLa := cL aRc
abbrev aKx := cR aLa
abbrev aJc := cR aKx
abbrev aKu := cR aJc
abbrev aHx := cR aKu
abbrev bPh := cR aHx
abbrev aIx := cL aHx
abbrev aIt := cL aIx
abbrev nE := cL aIt
abbrev aNz := cL aKu
abbrev aUp := cL aJc
abbrev aTa := cL aKx
abbrev aTr := cL aLa
abbrev aTd := cL c48
abbrev r48 : K := bT CF Tryz.f48
def D48 (r : RT) (n : Nat) (c : Code) (X : Nat → K) (k : K) : K := aV CF r 80 n c X r48 k
theorem bJu : D48 r n bPh x0 r48 = (K2 (hU r n) 0 6) := by kernel_rfl
theorem bBh (kk7 : jN) : D48 r n nE (xs x0 0 (K2 (hU r n) 0 6)) (K3 kk7 0 5 6) = (K3 (xO r n kk7) 0 5 6) := by kernel_rfl
theorem bAn (m : Nat) : aP (fun kk => D48 r n nE (xs x0 0 (K2 (hU r n) 0 6)) kk) m = (K3 (mX r n m) 0 5 6) := by
 induction m with
 | zero => exact (by kernel_rfl : aP (fun kk => D48 r n nE (xs x0 0 (K2 (hU r n) 0 6)) kk) 0 = (K3 (mX r n 0) 0 5 6))
 | succ m ih =>
  refine (by kernel_rfl : aP (fun kk => D48 r n nE (xs x0 0 (K2 (hU r n) 0 6)) kk) (m + 1) = D48 r n nE (xs x0 0 (K2 (hU r n) 0 6)) (aP (fun kk => D48 r n nE (xs x0 0 (K2 (hU r n) 0 6)) kk) m)).trans ?_
  rw [ih]
  exact (bBh r n (mX r n m)).trans (by kernel_rfl)
theorem bJl : D48 r n aIt (xs x0 0 (K2 (hU r n) 0 6)) (K2 (hU r n) 0 6) = (K3 (aQd r n) 0 5 6) :=
 (by kernel_rfl : D48 r n aIt (xs x0 0 (K2 (hU r n) 0 6)) (K2 (hU r n) 0 6) = aP (fun kk => D48 r n nE (xs x0 0 (K2 (hU r n) 0 6)) kk) n).trans ((bAn r n n).trans (by kernel_rfl))
theorem bBg : D48 r n aHx x0 r48 = D48 r n aIx x0 (K2 (hU r n) 0 6) :=
 congrArg (fun k => D48 r n aIx x0 k) (bJu r n)
theorem bOd : D48 r n aHx x0 r48 = (K3 (aJu r n) 0 5 6) :=
 (bBg r n).trans
 ((by kernel_rfl : D48 r n aIx x0 (K2 (hU r n) 0 6) = D48 r n aIt (xs x0 0 (K2 (hU r n) 0 6)) (K2 (hU r n) 0 6)).trans
 ((bJl r n).trans (by kernel_rfl)))
theorem bEz : D48 r n aKu x0 r48 = D48 r n aNz x0 (K3 (aJu r n) 0 5 6) :=
 congrArg (fun k => D48 r n aNz x0 k) (bOd r n)
theorem bIm : D48 r n aKu x0 r48 = (K3 (aHy r n) 0 5 6) :=
 (bEz r n).trans
 ((by kernel_rfl))
theorem bFf : D48 r n aJc x0 r48 = D48 r n aUp x0 (K3 (aHy r n) 0 5 6) :=
 congrArg (fun k => D48 r n aUp x0 k) (bIm r n)
theorem bLa : D48 r n aJc x0 r48 = (K2 (aHp r n) 0 5) :=
 (bFf r n).trans
 ((by kernel_rfl))
theorem bDq : D48 r n aKx x0 r48 = D48 r n aTa x0 (K2 (aHp r n) 0 5) :=
 congrArg (fun k => D48 r n aTa x0 k) (bLa r n)
theorem bId : D48 r n aKx x0 r48 = (K1 (aLu r n) 0) :=
 (bDq r n).trans
 ((by kernel_rfl))
theorem bDk : D48 r n aLa x0 r48 = D48 r n aTr x0 (K1 (aLu r n) 0) :=
 congrArg (fun k => D48 r n aTr x0 k) (bId r n)
theorem bJt : D48 r n aRc x0 r48 = (K1 (aGv r n) 0) :=
 (by kernel_rfl : D48 r n aRc x0 r48 = D48 r n aLa x0 r48).trans
 ((bDk r n).trans
 ((by kernel_rfl)))
theorem bQa : D48 r n c48 x0 r48 = D48 r n aTd x0 (K1 (aGv r n) 0) :=
 congrArg (fun k => D48 r n aTd x0 k) (bJt r n)
theorem bSx : D48 r n c48 x0 r48 = (K1 (s48 r n) 0) :=
 (bQa r n).trans
 ((by kernel_rfl))
theorem bQp : aO CF r n 48 args h = s48 r n (bA args 0) h :=
 fL (bSx r n) args h (by kernel_rfl) (by kernel_rfl)
def hJ (r : RT) (n : Nat) (x0 x3 : DV) (h0 : Hp) : aG :=
 bnd (r 51 [x0, (aJ 10), (.s [124])] h0) fun v1 h1 =>
 some (x3, h1)
def xN (r : RT) (n : Nat) (kk6 : mN) (x0 x3 : DV) (h0 : Hp) : aG :=
 bnd (r 77 [x0, (aJ 1), (.s [])] h0) fun v1 h1 =>
 cG v1 (
 bnd (r 78 [x0] h1) fun v2 h2 =>
 bnd (eH 1 v2 h2) fun v3 h3 =>
 bnd (aM [(.s [])] 1 [(0, 1, v3)] h3) fun v4 h4 =>
 bnd (bH 1 16 x3 v4 h4) fun v5 h5 =>
      kk6 x0 v5 h5) (
      hJ r n x0 x3 h1)
def mZ (r : RT) (n : Nat) (m : Nat) : mN :=
 Nat.rec (motive := fun _ => mN) (fun _ _ _ => none) (fun _ ih => xN r n ih) m
def aPl (r : RT) (n : Nat) : mN := mZ r n n
def aHk (r : RT) (n : Nat) (x0 x3 : DV) (h0 : Hp) : aG :=
 aPl r n x0 x3 h0
def aKr (r : RT) (n : Nat) (x0 x3 : DV) (h0 : Hp) : aG :=
 bnd (r 78 [x0] h0) fun v1 h1 =>
  aHk r n x0 x3 h1
def aJx (r : RT) (n : Nat) (x0 x3 : DV) (h0 : Hp) : aG :=
 bnd (r 77 [x0, (aJ 10), (.s [124])] h0) fun v1 h1 =>
 bnd (tQ .not v1 h1) fun v2 h2 =>
 cG v2 (
 some (.l0, h2)) (
  aKr r n x0 x3 h2)
def aIv (r : RT) (n : Nat) (x0 : DV) (h0 : Hp) : aG :=
 aJx r n x0 .l0 h0
def s49 (r : RT) (n : Nat) (x0 : DV) (h0 : Hp) : aG :=
 aIv r n x0 h0
abbrev c49 : Code := cf Tryz.f49
abbrev aHe := cR c49
abbrev aGw := cR aHe
abbrev aKt := cR aGw
abbrev aHh := cR aKt
abbrev bRi := cR aHh
abbrev aIr := cL aHh
abbrev aLb := cL aIr
abbrev tP := cL aLb
abbrev bFs := cL aKt
abbrev aUv := cL aGw
abbrev aSw := cL aHe
abbrev aWs := cL c49
abbrev r49 : K := bT CF Tryz.f49
def D49 (r : RT) (n : Nat) (c : Code) (X : Nat → K) (k : K) : K := aV CF r 20 n c X r49 k
theorem bOb : D49 r n bRi x0 r49 = (K2 (hJ r n) 0 3) := by kernel_rfl
theorem bCn (kk6 : mN) : D49 r n tP (xs x0 0 (K2 (hJ r n) 0 3)) (K2 kk6 0 3) = (K2 (xN r n kk6) 0 3) := by kernel_rfl
theorem aZz (m : Nat) : aP (fun kk => D49 r n tP (xs x0 0 (K2 (hJ r n) 0 3)) kk) m = (K2 (mZ r n m) 0 3) := by
 induction m with
 | zero => exact (by kernel_rfl : aP (fun kk => D49 r n tP (xs x0 0 (K2 (hJ r n) 0 3)) kk) 0 = (K2 (mZ r n 0) 0 3))
 | succ m ih =>
  refine (by kernel_rfl : aP (fun kk => D49 r n tP (xs x0 0 (K2 (hJ r n) 0 3)) kk) (m + 1) = D49 r n tP (xs x0 0 (K2 (hJ r n) 0 3)) (aP (fun kk => D49 r n tP (xs x0 0 (K2 (hJ r n) 0 3)) kk) m)).trans ?_
  rw [ih]
  exact (bCn r n (mZ r n m)).trans (by kernel_rfl)
theorem bJp : D49 r n aLb (xs x0 0 (K2 (hJ r n) 0 3)) (K2 (hJ r n) 0 3) = (K2 (aPl r n) 0 3) :=
 (by kernel_rfl : D49 r n aLb (xs x0 0 (K2 (hJ r n) 0 3)) (K2 (hJ r n) 0 3) = aP (fun kk => D49 r n tP (xs x0 0 (K2 (hJ r n) 0 3)) kk) n).trans ((aZz r n n).trans (by kernel_rfl))
theorem bEe : D49 r n aHh x0 r49 = D49 r n aIr x0 (K2 (hJ r n) 0 3) :=
 congrArg (fun k => D49 r n aIr x0 k) (bOb r n)
theorem bOj : D49 r n aHh x0 r49 = (K2 (aHk r n) 0 3) :=
 (bEe r n).trans
 ((by kernel_rfl : D49 r n aIr x0 (K2 (hJ r n) 0 3) = D49 r n aLb (xs x0 0 (K2 (hJ r n) 0 3)) (K2 (hJ r n) 0 3)).trans
 ((bJp r n).trans (by kernel_rfl)))
theorem aYu : D49 r n aKt x0 r49 = D49 r n bFs x0 (K2 (aHk r n) 0 3) :=
 congrArg (fun k => D49 r n bFs x0 k) (bOj r n)
theorem bMf : D49 r n aKt x0 r49 = (K2 (aKr r n) 0 3) :=
 (aYu r n).trans
 ((by kernel_rfl))
theorem bDc : D49 r n aGw x0 r49 = D49 r n aUv x0 (K2 (aKr r n) 0 3) :=
 congrArg (fun k => D49 r n aUv x0 k) (bMf r n)
theorem bLv : D49 r n aGw x0 r49 = (K2 (aJx r n) 0 3) :=
 (bDc r n).trans
 ((by kernel_rfl))
theorem bFl : D49 r n aHe x0 r49 = D49 r n aSw x0 (K2 (aJx r n) 0 3) :=
 congrArg (fun k => D49 r n aSw x0 k) (bLv r n)
theorem bJs : D49 r n aHe x0 r49 = (K1 (aIv r n) 0) :=
 (bFl r n).trans
 ((by kernel_rfl))
theorem bSb : D49 r n c49 x0 r49 = D49 r n aWs x0 (K1 (aIv r n) 0) :=
 congrArg (fun k => D49 r n aWs x0 k) (bJs r n)
theorem bUx : D49 r n c49 x0 r49 = (K1 (s49 r n) 0) :=
 (bSb r n).trans
 ((by kernel_rfl))
theorem bQi : aO CF r n 49 args h = s49 r n (bA args 0) h :=
 fL (bUx r n) args h (by kernel_rfl) (by kernel_rfl)
def hD (r : RT) (n : Nat) (x3 : DV) (h0 : Hp) : aG :=
 some (x3, h0)
def bGd (r : RT) (n : Nat) (kk4 : mN) (x0 x3 : DV) (h0 : Hp) : aG :=
 bnd (r 79 [x0] h0) fun v1 h1 =>
 bnd (aM fP 1 [(0, 6, v1)] h1) fun v2 h2 =>
 bnd (bH 6 104 x3 v2 h2) fun v3 h3 =>
 bnd (r 77 [x0, (aJ 10), (.s [46])] h3) fun v4 h4 =>
 bnd (tQ .not v4 h4) fun v5 h5 =>
 cG v5 (
 some (v3, h5)) (
 bnd (r 78 [x0] h5) fun v6 h6 =>
  kk4 x0 v3 h6)
def aFf (r : RT) (n : Nat) (kk4 : mN) (x3 : DV) (h0 : Hp) : aG :=
 some (x3, h0)
def aPj (r : RT) (n : Nat) (kk4 : mN) (x0 x3 : DV) (h0 : Hp) : aG :=
 bnd (r 77 [x0, (aJ 10), (.s [46])] h0) fun v1 h1 =>
 cG v1 (
 bnd (r 78 [x0] h1) fun v2 h2 =>
  aFf r n kk4 x3 h2) (
  aFf r n kk4 x3 h1)
def bHf (r : RT) (n : Nat) (kk4 : mN) (x0 x3 : DV) (h0 : Hp) : aG :=
 bnd (r 79 [x0] h0) fun v1 h1 =>
 bnd (aM fP 1 [(0, 6, v1)] h1) fun v2 h2 =>
 bnd (cW fP [(0, 1, (aJ 10)), (5, 1, v2)] h2) fun v3 h3 =>
 bnd (aM fP 1 [(0, 6, v3)] h3) fun v4 h4 =>
 bnd (bH 6 104 x3 v4 h4) fun v5 h5 =>
  aPj r n kk4 x0 v5 h5
def bHb (r : RT) (n : Nat) (kk4 : mN) (x0 x3 : DV) (h0 : Hp) : aG :=
 bnd (r 78 [x0] h0) fun v1 h1 =>
  bHf r n kk4 x0 x3 h1
def bHp (r : RT) (n : Nat) (kk4 : mN) (x0 x3 x20 : DV) (h0 : Hp) : aG :=
 cG x20 (
  bHb r n kk4 x0 x3 h0) (
  bGd r n kk4 x0 x3 h0)
def bGs (r : RT) (n : Nat) (kk4 : mN) (x0 x3 : DV) (h0 : Hp) : aG :=
 bnd (r 77 [x0, (aJ 10), (.s [94])] h0) fun v1 h1 =>
  bHp r n kk4 x0 x3 v1 h1
def aAs (r : RT) (n : Nat) (kk4 : mN) (x0 x3 : DV) (h0 : Hp) : aG :=
 bnd (bK x0 h0) fun v1 h1 =>
 bnd (aA 3 v1 h1) fun v2 h2 =>
 bnd (aB v2 h2) fun v3 h3 =>
 bnd (aR .eql v3 (aJ 0) h3) fun v4 h4 =>
 bnd (gD v4 true (some (x0, h4)) h4) fun v5 h5 =>
 bnd (gD v4 true (r 77 [v5, (aJ 0), (.s [])] h5) h5) fun v6 h6 =>
 bnd (gD v4 true (tQ .not v6 h6) h6) fun v7 h7 =>
 bnd (cN v4 v7 (.b false) h7) fun v8 h8 =>
 bnd (gD v8 true (some (x0, h8)) h8) fun v9 h9 =>
 bnd (gD v8 true (r 77 [v9, (aJ 10), (.s [93])] h9) h9) fun v10 h10 =>
 bnd (gD v8 true (tQ .not v10 h10) h10) fun v11 h11 =>
 bnd (cN v8 v11 (.b false) h11) fun v12 h12 =>
 cG v12 (
  bGs r n kk4 x0 x3 h12) (
  hD r n x3 h12)
def nJ (r : RT) (n : Nat) (m : Nat) : mN :=
 Nat.rec (motive := fun _ => mN) (fun _ _ _ => none) (fun _ ih => aAs r n ih) m
def aSb (r : RT) (n : Nat) : mN := nJ r n n
def aHt (r : RT) (n : Nat) (x0 x3 : DV) (h0 : Hp) : aG :=
 aSb r n x0 x3 h0
def aGt (r : RT) (n : Nat) (x0 : DV) (h0 : Hp) : aG :=
 aHt r n x0 .l0 h0
def s50 (r : RT) (n : Nat) (x0 : DV) (h0 : Hp) : aG :=
 aGt r n x0 h0
abbrev c50 : Code := cf Tryz.f50
abbrev aIy := cR c50
abbrev aKq := cR aIy
abbrev bSi := cR aKq
abbrev aKp := cL aKq
abbrev aId := cL aKp
abbrev tE := cL aId
abbrev aPu := cL aIy
abbrev aRq := cL c50
abbrev r50 : K := bT CF Tryz.f50
def D50 (r : RT) (n : Nat) (c : Code) (X : Nat → K) (k : K) : K := aV CF r 47 n c X r50 k
theorem bIr : D50 r n bSi x0 r50 = (K1 (hD r n) 3) := by kernel_rfl
theorem bCs (kk4 : mN) : D50 r n tE (xs x0 0 (K1 (hD r n) 3)) (K2 kk4 0 3) = (K2 (aAs r n kk4) 0 3) := by kernel_rfl
theorem bAm (m : Nat) : aP (fun kk => D50 r n tE (xs x0 0 (K1 (hD r n) 3)) kk) m = (K2 (nJ r n m) 0 3) := by
 induction m with
 | zero => exact (by kernel_rfl : aP (fun kk => D50 r n tE (xs x0 0 (K1 (hD r n) 3)) kk) 0 = (K2 (nJ r n 0) 0 3))
 | succ m ih =>
  refine (by kernel_rfl : aP (fun kk => D50 r n tE (xs x0 0 (K1 (hD r n) 3)) kk) (m + 1) = D50 r n tE (xs x0 0 (K1 (hD r n) 3)) (aP (fun kk => D50 r n tE (xs x0 0 (K1 (hD r n) 3)) kk) m)).trans ?_
  rw [ih]
  exact (bCs r n (nJ r n m)).trans (by kernel_rfl)
theorem bMj : D50 r n aId (xs x0 0 (K1 (hD r n) 3)) (K1 (hD r n) 3) = (K2 (aSb r n) 0 3) :=
 (by kernel_rfl : D50 r n aId (xs x0 0 (K1 (hD r n) 3)) (K1 (hD r n) 3) = aP (fun kk => D50 r n tE (xs x0 0 (K1 (hD r n) 3)) kk) n).trans ((bAm r n n).trans (by kernel_rfl))
theorem aXt : D50 r n aKq x0 r50 = D50 r n aKp x0 (K1 (hD r n) 3) :=
 congrArg (fun k => D50 r n aKp x0 k) (bIr r n)
theorem bKp : D50 r n aKq x0 r50 = (K2 (aHt r n) 0 3) :=
 (aXt r n).trans
 ((by kernel_rfl : D50 r n aKp x0 (K1 (hD r n) 3) = D50 r n aId (xs x0 0 (K1 (hD r n) 3)) (K1 (hD r n) 3)).trans
 ((bMj r n).trans (by kernel_rfl)))
theorem aWy : D50 r n aIy x0 r50 = D50 r n aPu x0 (K2 (aHt r n) 0 3) :=
 congrArg (fun k => D50 r n aPu x0 k) (bKp r n)
theorem bHy : D50 r n aIy x0 r50 = (K1 (aGt r n) 0) :=
 (aWy r n).trans
 ((by kernel_rfl))
theorem bIo : D50 r n c50 x0 r50 = D50 r n aRq x0 (K1 (aGt r n) 0) :=
 congrArg (fun k => D50 r n aRq x0 k) (bHy r n)
theorem bUg : D50 r n c50 x0 r50 = (K1 (s50 r n) 0) :=
 (bIo r n).trans
 ((by kernel_rfl))
theorem bPg : aO CF r n 50 args h = s50 r n (bA args 0) h :=
 fL (bUg r n) args h (by kernel_rfl) (by kernel_rfl)
def s51 (r : RT) (n : Nat) (x0 x1 x2 : DV) (h0 : Hp) : aG :=
 bnd (cK [(aJ 0), (.s []), (aJ 0), (aJ 0)] h0) fun v1 h1 =>
 bnd (r 77 [x0, x1, x2] h1) fun v2 h2 =>
 bnd (tQ .not v2 h2) fun v3 h3 =>
 cG v3 (
 bnd (r 81 [x0, (aJ 0)] h3) fun v4 h4 =>
 bnd (r 80 [x0, v4, (aJ 13)] h4) fun v5 h5 =>
 bnd (cW [(aJ 0), (.s []), (aJ 0), (aJ 0)] [] h5) fun v6 h6 =>
 bnd (aC 4 v1 v6 h6) fun _ h7 =>
 bnd (aD 4 v1 h7) fun v8 _ =>
 some (v8, h7)) (
 bnd (r 78 [x0] h3) fun v9 h9 =>
 bnd (aC 4 v1 v9 h9) fun _ h10 =>
 bnd (aD 4 v1 h10) fun v11 _ =>
 some (v11, h10))
abbrev c51 : Code := cf Tryz.f51
abbrev r51 : K := bT CF Tryz.f51
def D51 (r : RT) (n : Nat) (c : Code) (X : Nat → K) (k : K) : K := aV CF r 19 n c X r51 k
theorem bTu : D51 r n c51 x0 r51 = (K3 (s51 r n) 0 1 2) :=
 (by kernel_rfl)
theorem bPo : aO CF r n 51 args h = s51 r n (bA args 0) (bA args 1) (bA args 2) h :=
 fL (bTu r n) args h (by kernel_rfl) (by kernel_rfl)
def xX (r : RT) (n : Nat) (kk6 : jN) (x0 x1 x4 : DV) (h0 : Hp) : aG :=
 bnd (gD x4 false (some (x0, h0)) h0) fun v1 h1 =>
 bnd (gD x4 false (r 77 [v1, (aJ 2), (.s [])] h1) h1) fun v2 h2 =>
 bnd (cN x4 (.b true) v2 h2) fun v3 h3 =>
 cG v3 (
 bnd (bK x1 h3) fun v4 h4 =>
 bnd (aA 1 v4 h4) fun v5 h5 =>
 bnd (aB v5 h5) fun v6 h6 =>
 bnd (r 51 [x0, (aJ 2), (.s [])] h6) fun v7 h7 =>
 cnd (bU (aB v5 h7) v6 && true) (
 bnd (eH 1 v7 h7) fun v8 h8 =>
 bnd (fZ .add v6 v8 h8) fun v9 h9 =>
 bnd (bK x1 h9) fun v10 h10 =>
 bnd (aA 1 v10 h10) fun v11 h11 =>
 bnd (aC 1 v11 v9 h11) fun v12 h12 =>
 bnd (bK x1 (gI 1 h12)) fun v13 h13 =>
 bnd (aA 3 v13 h13) fun v14 h14 =>
 bnd (aB v14 h14) fun v15 h15 =>
 bnd (bK x1 h15) fun v16 h16 =>
 bnd (aA 3 v16 h16) fun v17 h17 =>
 bnd (aB v17 h17) fun v18 h18 =>
 bnd (r 82 [x0, (aJ 1), v18] h18) fun v19 h19 =>
 cnd (bU (aB v14 h19) v15 && true) (
 bnd (aX (dC 0 h12.next) [(.s [])] 1 [(0, 1, v19)] h19) fun v20 h20 =>
 bnd (bH 1 16 v15 v20 h20) fun v21 h21 =>
 bnd (bK x1 h21) fun v22 h22 =>
 bnd (aA 3 v22 h22) fun v23 h23 =>
 bnd (aC 1 v23 v21 h23) fun v24 h24 =>
      kk6 x0 x1 (.b false) h24))) (
 some (.t [], h3))
def lK (r : RT) (n : Nat) (m : Nat) : jN :=
 Nat.rec (motive := fun _ => jN) (fun _ _ _ _ => none) (fun _ ih => xX r n ih) m
def aWa (r : RT) (n : Nat) : jN := lK r n n
def aLr (r : RT) (n : Nat) (x0 x1 x4 : DV) (h0 : Hp) : aG :=
 aWa r n x0 x1 x4 h0
def aVe (r : RT) (n : Nat) (x0 x1 : DV) (h0 : Hp) : aG :=
 aLr r n x0 x1 (.b true) h0
def aJj (r : RT) (n : Nat) (x0 x1 x44 : DV) (h0 : Hp) : aG :=
 cG x44 (
 bnd (r 78 [x0] h0) fun v1 h1 =>
 bnd (eH 1 v1 h1) fun v2 h2 =>
 bnd (bK x1 h2) fun v3 h3 =>
 bnd (aA 1 v3 h3) fun v4 h4 =>
 bnd (aC 1 v4 v2 h4) fun _ h5 =>
 bnd (bK x1 (gI 1 h5)) fun v6 h6 =>
 bnd (aA 3 v6 h6) fun v7 h7 =>
 bnd (aB v7 h7) fun v8 h8 =>
 bnd (bK x1 h8) fun v9 h9 =>
 bnd (aA 3 v9 h9) fun v10 h10 =>
 bnd (aB v10 h10) fun v11 h11 =>
 bnd (r 82 [x0, (aJ 1), v11] h11) fun v12 h12 =>
 cnd (bU (aB v7 h12) v8 && true) (
 bnd (aX (dC 0 h5.next) [(.s [])] 1 [(0, 1, v12)] h12) fun v13 h13 =>
 bnd (bH 1 16 v8 v13 h13) fun v14 h14 =>
 bnd (bK x1 h14) fun v15 h15 =>
 bnd (aA 3 v15 h15) fun v16 h16 =>
 bnd (aC 1 v16 v14 h16) fun v17 h17 =>
 some (.t [], h17))) (
  aVe r n x0 x1 h0)
def aVh (r : RT) (n : Nat) (x0 x1 : DV) (h0 : Hp) : aG :=
 bnd (r 77 [x0, (aJ 3), (.s [])] h0) fun v1 h1 =>
  aJj r n x0 x1 v1 h1
def aHi (r : RT) (n : Nat) (x0 x1 x35 : DV) (h0 : Hp) : aG :=
 cG x35 (
 bnd (r 78 [x0] h0) fun v1 h1 =>
 bnd (eH 1 v1 h1) fun v2 h2 =>
 bnd (bK x1 h2) fun v3 h3 =>
 bnd (aA 1 v3 h3) fun v4 h4 =>
 bnd (aC 1 v4 v2 h4) fun _ h5 =>
 some (.t [], h5)) (
  aVh r n x0 x1 h0)
def s52 (r : RT) (n : Nat) (x0 x1 : DV) (h0 : Hp) : aG :=
 bnd (r 77 [x0, (aJ 1), (.s [])] h0) fun v1 h1 =>
  aHi r n x0 x1 v1 h1
abbrev c52 : Code := cf Tryz.f52
abbrev aKb := cL c52
abbrev aDw := cR aKb
abbrev aDc := cR aDw
abbrev aDa := cR aDc
abbrev aBt := cR aDa
abbrev aVp := cR aBt
abbrev aLs := cL aVp
abbrev tR := cL aLs
abbrev bGq := cL aBt
abbrev bJz := cL aDa
abbrev aQw := cL aDc
abbrev bJj := cL aDw
abbrev aOe := cL aKb
abbrev r52 : K := bT CF Tryz.f52
def D52 (r : RT) (n : Nat) (c : Code) (X : Nat → K) (k : K) : K := aV CF r 68 n c X r52 k
theorem bBk (kk6 : jN) : D52 r n tR (xs (xs x0 0 r52) 1 r52) (K3 kk6 0 1 4) = (K3 (xX r n kk6) 0 1 4) := by kernel_rfl
theorem bAt (m : Nat) : aP (fun kk => D52 r n tR (xs (xs x0 0 r52) 1 r52) kk) m = (K3 (lK r n m) 0 1 4) := by
 induction m with
 | zero => exact (by kernel_rfl : aP (fun kk => D52 r n tR (xs (xs x0 0 r52) 1 r52) kk) 0 = (K3 (lK r n 0) 0 1 4))
 | succ m ih =>
  refine (by kernel_rfl : aP (fun kk => D52 r n tR (xs (xs x0 0 r52) 1 r52) kk) (m + 1) = D52 r n tR (xs (xs x0 0 r52) 1 r52) (aP (fun kk => D52 r n tR (xs (xs x0 0 r52) 1 r52) kk) m)).trans ?_
  rw [ih]
  exact (bBk r n (lK r n m)).trans (by kernel_rfl)
theorem bLo : D52 r n aLs (xs (xs x0 0 r52) 1 r52) r52 = (K3 (aWa r n) 0 1 4) :=
 (by kernel_rfl : D52 r n aLs (xs (xs x0 0 r52) 1 r52) r52 = aP (fun kk => D52 r n tR (xs (xs x0 0 r52) 1 r52) kk) n).trans ((bAt r n n).trans (by kernel_rfl))
theorem bIj : D52 r n aVp (xs x0 0 r52) r52 = (K3 (aLr r n) 0 1 4) :=
 (by kernel_rfl : D52 r n aVp (xs x0 0 r52) r52 = D52 r n aLs (xs (xs x0 0 r52) 1 r52) r52).trans
 ((bLo r n).trans (by kernel_rfl))
theorem bBr : D52 r n aBt (xs x0 0 r52) r52 = D52 r n bGq (xs x0 0 r52) (K3 (aLr r n) 0 1 4) :=
 congrArg (fun k => D52 r n bGq (xs x0 0 r52) k) (bIj r n)
theorem bMe : D52 r n aBt (xs x0 0 r52) r52 = (K2 (aVe r n) 0 1) :=
 (bBr r n).trans
 ((by kernel_rfl))
theorem bKq : D52 r n aDa (xs x0 0 r52) r52 = (K3 (aJj r n) 0 1 44) :=
 (by kernel_rfl : D52 r n aDa (xs x0 0 r52) r52 = (fun (env : fM) (h : Hp) => cG (opr env (cC aDa)) (D52 r n bJz (xs x0 0 r52) r52 env h) (D52 r n aBt (xs x0 0 r52) r52 env h))).trans (by rw [bMe r n]; kernel_rfl)
theorem bDx : D52 r n aDc (xs x0 0 r52) r52 = D52 r n aQw (xs x0 0 r52) (K3 (aJj r n) 0 1 44) :=
 congrArg (fun k => D52 r n aQw (xs x0 0 r52) k) (bKq r n)
theorem bIn : D52 r n aDc (xs x0 0 r52) r52 = (K2 (aVh r n) 0 1) :=
 (bDx r n).trans
 ((by kernel_rfl))
theorem bKb : D52 r n aDw (xs x0 0 r52) r52 = (K3 (aHi r n) 0 1 35) :=
 (by kernel_rfl : D52 r n aDw (xs x0 0 r52) r52 = (fun (env : fM) (h : Hp) => cG (opr env (cC aDw)) (D52 r n bJj (xs x0 0 r52) r52 env h) (D52 r n aDc (xs x0 0 r52) r52 env h))).trans (by rw [bIn r n]; kernel_rfl)
theorem bOo : D52 r n aKb (xs x0 0 r52) r52 = D52 r n aOe (xs x0 0 r52) (K3 (aHi r n) 0 1 35) :=
 congrArg (fun k => D52 r n aOe (xs x0 0 r52) k) (bKb r n)
theorem bUe : D52 r n c52 x0 r52 = (K2 (s52 r n) 0 1) :=
 (by kernel_rfl : D52 r n c52 x0 r52 = D52 r n aKb (xs x0 0 r52) r52).trans
 ((bOo r n).trans
 ((by kernel_rfl)))
theorem bRt : aO CF r n 52 args h = s52 r n (bA args 0) (bA args 1) h :=
 fL (bUe r n) args h (by kernel_rfl) (by kernel_rfl)
def aTu (r : RT) (n : Nat) (x0 x3 : DV) (h0 : Hp) : aG :=
 bnd (r 51 [x0, (aJ 3), (.s [62])] h0) fun v1 h1 =>
 bnd (aA 2 x3 h1) fun v2 h2 =>
 bnd (aB v2 h2) fun v3 h3 =>
 some (v3, h3)
def bFp (r : RT) (n : Nat) (x0 x3 : DV) (h0 : Hp) : aG :=
 bnd (aA 2 x3 h0) fun v1 h1 =>
 bnd (aB v1 h1) fun v2 h2 =>
 bnd (aR .gtr v2 (aJ 255) h2) fun v3 h3 =>
 cG v3 (
 bnd (aD 4 x3 h3) fun v4 h4 =>
 bnd (r 80 [x0, v4, (aJ 2)] h4) fun v5 h5 =>
  aTu r n x0 x3 h5) (
  aTu r n x0 x3 h3)
def bGa (r : RT) (n : Nat) (x0 : DV) (h0 : Hp) : aG :=
 bnd (r 51 [x0, (aJ 4), (.s [])] h0) fun v1 h1 =>
 bnd (cK [(aJ 0), (.s []), (aJ 0), (aJ 0)] h1) fun v2 h2 =>
 bnd (aC 4 v2 v1 h2) fun _ h3 =>
  bFp r n x0 v2 h3
def bGb (r : RT) (n : Nat) (x0 : DV) (h0 : Hp) : aG :=
 bnd (r 51 [x0, (aJ 2), (.s [112, 114, 105, 109, 105, 116, 105, 118, 101, 58])] h0) fun v1 h1 =>
  bGa r n x0 h1
def bGy (r : RT) (n : Nat) (x0 : DV) (h0 : Hp) : aG :=
 bnd (r 78 [x0] h0) fun v1 h1 =>
  bGb r n x0 h1
def bFu (r : RT) (n : Nat) (x0 : DV) (h0 : Hp) : aG :=
 bnd (r 77 [x0, (aJ 3), (.s [60])] h0) fun v1 h1 =>
 bnd (tQ .not v1 h1) fun v2 h2 =>
 cG v2 (
 some ((aJ 0), h2)) (
  bGy r n x0 h2)
def s53 (r : RT) (n : Nat) (x0 : DV) (h0 : Hp) : aG :=
 bFu r n x0 h0
abbrev c53 : Code := cf Tryz.f53
abbrev r53 : K := bT CF Tryz.f53
def D53 (r : RT) (n : Nat) (c : Code) (X : Nat → K) (k : K) : K := aV CF r 23 n c X r53 k
theorem bVm : D53 r n c53 x0 r53 = (K1 (s53 r n) 0) := by kernel_rfl
theorem bQs : aO CF r n 53 args h = s53 r n (bA args 0) h :=
 fL (bVm r n) args h (by kernel_rfl) (by kernel_rfl)
def s57 (r : RT) (n : Nat) (x0 x1 : DV) (h0 : Hp) : aG :=
 bnd (r 85 [x0, x1] h0) fun v1 h1 =>
 some (v1, h1)
abbrev c57 : Code := cf Tryz.f57
abbrev r57 : K := bT CF Tryz.f57
def D57 (r : RT) (n : Nat) (c : Code) (X : Nat → K) (k : K) : K := aV CF r 8 n c X r57 k
theorem bUr : D57 r n c57 x0 r57 = (K2 (s57 r n) 0 1) :=
 (by kernel_rfl)
theorem bQn : aO CF r n 57 args h = s57 r n (bA args 0) (bA args 1) h :=
 fL (bUr r n) args h (by kernel_rfl) (by kernel_rfl)
def s58 (r : RT) (n : Nat) (x0 x1 : DV) (h0 : Hp) : aG :=
 bnd (hO x1 h0) fun v1 h1 =>
 bnd (qB [x0, x1, v1, (.i .i64 (Int.negSucc 0))] h1) fun v2 h2 =>
 some (v2, h2)
abbrev c58 : Code := cf Tryz.f58
abbrev r58 : K := bT CF Tryz.f58
def D58 (r : RT) (n : Nat) (c : Code) (X : Nat → K) (k : K) : K := aV CF r 10 n c X r58 k
theorem bSy : D58 r n c58 x0 r58 = (K2 (s58 r n) 0 1) :=
 (by kernel_rfl)
theorem bRa : aO CF r n 58 args h = s58 r n (bA args 0) (bA args 1) h :=
 fL (bSy r n) args h (by kernel_rfl) (by kernel_rfl)
def aHs (r : RT) (n : Nat) (x0 x1 x5 : DV) (h0 : Hp) : aG :=
 bnd (r 89 [x1, (aJ 0), x5] (gI 1 h0)) fun v1 h1 =>
 bnd (dA 6 x1 (some (aJ 1)) none h1) fun v2 h2 =>
 cnd (bU (dA 6 x1 (some (aJ 1)) none (gI 1 h0)) v2 && true) (
 bnd (r 90 [x0, v2] h2) fun v3 h3 =>
 bnd (aX (dC 0 h0.next) [(.s []), (.s []), (.s [])] 3 [(0, 1, v1), (1, 1, (.s [32])), (2, 1, v3)] h3) fun v4 h4 =>
 bnd (r 19 [v4] h4) fun v5 h5 =>
 some (v5, h5))
def bGl (r : RT) (n : Nat) (x0 x1 x5 : DV) (h0 : Hp) : aG :=
 bnd (r 32 [x0] h0) fun v1 h1 =>
 bnd (aR .eql v1 (aJ 1) h1) fun v2 h2 =>
 cG v2 (
  aHs r n x0 x1 (aJ 1) h2) (
  aHs r n x0 x1 x5 h2)
def bGn (r : RT) (n : Nat) (x0 x1 : DV) (h0 : Hp) : aG :=
 bGl r n x0 x1 (aJ 2) h0
def bHo (r : RT) (n : Nat) (x0 x1 : DV) (h0 : Hp) : aG :=
 bnd (hC x1 h0) fun v1 h1 =>
 bnd (aR .eql v1 (aJ 0) h1) fun v2 h2 =>
 cG v2 (
 some ((.s []), h2)) (
  bGn r n x0 x1 h2)
def s61 (r : RT) (n : Nat) (x0 x1 : DV) (h0 : Hp) : aG :=
 bHo r n x0 x1 h0
abbrev c61 : Code := cf Tryz.f61
abbrev r61 : K := bT CF Tryz.f61
def D61 (r : RT) (n : Nat) (c : Code) (X : Nat → K) (k : K) : K := aV CF r 21 n c X r61 k
theorem bUd : D61 r n c61 x0 r61 = (K2 (s61 r n) 0 1) := by kernel_rfl
theorem bRq : aO CF r n 61 args h = s61 r n (bA args 0) (bA args 1) h :=
 fL (bUd r n) args h (by kernel_rfl) (by kernel_rfl)
def s62 (r : RT) (n : Nat) (x0 : DV) (h0 : Hp) : aG :=
 bnd (hC x0 h0) fun v1 h1 =>
 bnd (aR .lss v1 (aJ 2) h1) fun v2 h2 =>
 cG v2 (
 some ((.s []), h2)) (
 bnd (aY 6 x0 (aJ 0) (gI 1 h2)) fun v3 h3 =>
 bnd (aD 6 v3 h3) fun v4 h4 =>
 bnd (aX (dC 0 h2.next) fP 1 [(0, 6, v4)] h4) fun v5 h5 =>
 bnd (aY 6 x0 (aJ 1) h5) fun v6 h6 =>
 bnd (aA 5 v6 h6) fun v7 h7 =>
 bnd (aB v7 h7) fun v8 h8 =>
 cnd (bU (aB v7 (gI 1 h2)) v8 && true) (
 bnd (bH 6 104 v5 v8 h8) fun v9 h9 =>
 bnd (dA 6 x0 (some (aJ 2)) none h9) fun v10 h10 =>
 bnd (r 35 [v10, (.s []), (.f 91 [] [])] h10) fun v11 h11 =>
 bnd (aY 6 x0 (aJ 1) h11) fun v12 h12 =>
 bnd (aA 1 v12 h12) fun v13 h13 =>
 bnd (aB v13 h13) fun v14 h14 =>
 bnd (r 61 [v14, v9] h14) fun v15 h15 =>
 bnd (aM [(.s []), (.s [])] 2 [(0, 1, v15), (1, 1, v11)] h15) fun v16 h16 =>
 bnd (r 19 [v16] h16) fun v17 h17 =>
 some (v17, h17)))
abbrev c62 : Code := cf Tryz.f62
abbrev r62 : K := bT CF Tryz.f62
def D62 (r : RT) (n : Nat) (c : Code) (X : Nat → K) (k : K) : K := aV CF r 29 n c X r62 k
theorem bTj : D62 r n c62 x0 r62 = (K1 (s62 r n) 0) :=
 (by kernel_rfl)
theorem bQv : aO CF r n 62 args h = s62 r n (bA args 0) h :=
 fL (bTj r n) args h (by kernel_rfl) (by kernel_rfl)
def gG (r : RT) (n : Nat) (h0 : Hp) : aG :=
 some ((.b true), h0)
def pH (r : RT) (n : Nat) (kk5 : TT4) (x0 x1 x12 x13 : DV) (h0 : Hp) : aG :=
 bnd (aR .lss x13 x12 h0) fun v1 h1 =>
 cG v1 (
 bnd (aY 1 x0 x13 h1) fun v2 h2 =>
 bnd (aB v2 h2) fun v3 h3 =>
 bnd (aY 1 x1 x13 h3) fun v4 h4 =>
 bnd (aB v4 h4) fun v5 h5 =>
 bnd (fZ .neq v3 v5 h5) fun v6 h6 =>
 cG v6 (
 some ((.b false), h6)) (
 bnd (aR .add x13 (aJ 1) h6) fun v7 h7 =>
  kk5 x0 x1 x12 v7 h7)) (
      gG r n h1)
def kU (r : RT) (n : Nat) (m : Nat) : TT4 :=
 Nat.rec (motive := fun _ => TT4) (fun _ _ _ _ _ => none) (fun _ ih => pH r n ih) m
def aUu (r : RT) (n : Nat) : TT4 := kU r n n
def aJd (r : RT) (n : Nat) (x0 x1 x12 x13 : DV) (h0 : Hp) : aG :=
 aUu r n x0 x1 x12 x13 h0
def aGr (r : RT) (n : Nat) (x0 x1 : DV) (h0 : Hp) : aG :=
 bnd (hC x0 h0) fun v1 h1 =>
  aJd r n x0 x1 v1 (aJ 0) h1
def aGq (r : RT) (n : Nat) (x0 x1 : DV) (h0 : Hp) : aG :=
 bnd (hC x0 h0) fun v1 h1 =>
 bnd (hC x1 h1) fun v2 h2 =>
 bnd (aR .neq v1 v2 h2) fun v3 h3 =>
 cG v3 (
 some ((.b false), h3)) (
  aGr r n x0 x1 h3)
def s63 (r : RT) (n : Nat) (x0 x1 : DV) (h0 : Hp) : aG :=
 aGq r n x0 x1 h0
abbrev c63 : Code := cf Tryz.f63
abbrev aIp := cR c63
abbrev aHd := cR aIp
abbrev bPj := cR aHd
abbrev aDv := cL aHd
abbrev aNi := cR aDv
abbrev aJg := cL aNi
abbrev sA := cL aJg
abbrev bGh := cL aDv
abbrev bFv := cL aIp
abbrev aSv := cL c63
abbrev r63 : K := bT CF Tryz.f63
def D63 (r : RT) (n : Nat) (c : Code) (X : Nat → K) (k : K) : K := aV CF r 26 n c X r63 k
theorem bJv : D63 r n bPj x0 r63 = (K0 (gG r n)) := by kernel_rfl
theorem bDj (kk5 : TT4) : D63 r n sA (xs x0 0 (K0 (gG r n))) (K4 kk5 0 1 12 13) = (K4 (pH r n kk5) 0 1 12 13) := by kernel_rfl
theorem aYm (m : Nat) : aP (fun kk => D63 r n sA (xs x0 0 (K0 (gG r n))) kk) m = (K4 (kU r n m) 0 1 12 13) := by
 induction m with
 | zero => exact (by kernel_rfl : aP (fun kk => D63 r n sA (xs x0 0 (K0 (gG r n))) kk) 0 = (K4 (kU r n 0) 0 1 12 13))
 | succ m ih =>
  refine (by kernel_rfl : aP (fun kk => D63 r n sA (xs x0 0 (K0 (gG r n))) kk) (m + 1) = D63 r n sA (xs x0 0 (K0 (gG r n))) (aP (fun kk => D63 r n sA (xs x0 0 (K0 (gG r n))) kk) m)).trans ?_
  rw [ih]
  exact (bDj r n (kU r n m)).trans (by kernel_rfl)
theorem bKk : D63 r n aJg (xs x0 0 (K0 (gG r n))) (K0 (gG r n)) = (K4 (aUu r n) 0 1 12 13) :=
 (by kernel_rfl : D63 r n aJg (xs x0 0 (K0 (gG r n))) (K0 (gG r n)) = aP (fun kk => D63 r n sA (xs x0 0 (K0 (gG r n))) kk) n).trans ((aYm r n n).trans (by kernel_rfl))
theorem bOl : D63 r n aNi x0 (K0 (gG r n)) = (K4 (aJd r n) 0 1 12 13) :=
 (by kernel_rfl : D63 r n aNi x0 (K0 (gG r n)) = D63 r n aJg (xs x0 0 (K0 (gG r n))) (K0 (gG r n))).trans
 ((bKk r n).trans (by kernel_rfl))
theorem bAb : D63 r n aHd x0 r63 = D63 r n aDv x0 (K0 (gG r n)) :=
 congrArg (fun k => D63 r n aDv x0 k) (bJv r n)
theorem bFo : D63 r n aDv x0 (K0 (gG r n)) = D63 r n bGh x0 (K4 (aJd r n) 0 1 12 13) :=
 congrArg (fun k => D63 r n bGh x0 k) (bOl r n)
theorem bJh : D63 r n aHd x0 r63 = (K2 (aGr r n) 0 1) :=
 (bAb r n).trans
 ((bFo r n).trans
 ((by kernel_rfl)))
theorem bDe : D63 r n aIp x0 r63 = D63 r n bFv x0 (K2 (aGr r n) 0 1) :=
 congrArg (fun k => D63 r n bFv x0 k) (bJh r n)
theorem bKj : D63 r n aIp x0 r63 = (K2 (aGq r n) 0 1) :=
 (bDe r n).trans
 ((by kernel_rfl))
theorem bRv : D63 r n c63 x0 r63 = D63 r n aSv x0 (K2 (aGq r n) 0 1) :=
 congrArg (fun k => D63 r n aSv x0 k) (bKj r n)
theorem bUa : D63 r n c63 x0 r63 = (K2 (s63 r n) 0 1) :=
 (bRv r n).trans
 ((by kernel_rfl))
theorem bSj : aO CF r n 63 args h = s63 r n (bA args 0) (bA args 1) h :=
 fL (bUa r n) args h (by kernel_rfl) (by kernel_rfl)
def gE (r : RT) (n : Nat) (h0 : Hp) : aG :=
 some ((.b true), h0)
def qA (r : RT) (n : Nat) (kk5 : TT5) (x1 x2 x15 x16 x17 : DV) (h0 : Hp) : aG :=
 bnd (aR .lss x17 x16 h0) fun v1 h1 =>
 cG v1 (
 bnd (aY 6 x15 x17 h1) fun v2 h2 =>
 bnd (aD 6 v2 h2) fun v3 h3 =>
 bnd (cK fP h3) fun v4 h4 =>
 bnd (aC 6 v4 v3 h4) fun _ h5 =>
 bnd (aY 6 x1 x17 h5) fun v6 h6 =>
 bnd (aD 6 v6 h6) fun v7 h7 =>
 bnd (cK fP h7) fun v8 h8 =>
 bnd (aC 6 v8 v7 h8) fun _ h9 =>
 bnd (aD 6 v4 h9) fun v10 h10 =>
 bnd (aD 6 v8 h10) fun v11 h11 =>
 bnd (dJ CF r x2 [v10, v11] h11) fun v12 h12 =>
 bnd (tQ .not v12 h12) fun v13 h13 =>
 cG v13 (
 some ((.b false), h13)) (
 bnd (aR .add x17 (aJ 1) h13) fun v14 h14 =>
  kk5 x1 x2 x15 x16 v14 h14)) (
      gE r n h1)
def jT (r : RT) (n : Nat) (m : Nat) : TT5 :=
 Nat.rec (motive := fun _ => TT5) (fun _ _ _ _ _ _ => none) (fun _ ih => qA r n ih) m
def aXc (r : RT) (n : Nat) : TT5 := jT r n n
def aKy (r : RT) (n : Nat) (x1 x2 x15 x16 x17 : DV) (h0 : Hp) : aG :=
 aXc r n x1 x2 x15 x16 x17 h0
def aHn (r : RT) (n : Nat) (x0 x1 x2 : DV) (h0 : Hp) : aG :=
 bnd (hC x0 h0) fun v1 h1 =>
  aKy r n x1 x2 x0 v1 (aJ 0) h1
def aIi (r : RT) (n : Nat) (x0 x1 x2 : DV) (h0 : Hp) : aG :=
 bnd (hC x0 h0) fun v1 h1 =>
 bnd (hC x1 h1) fun v2 h2 =>
 bnd (aR .neq v1 v2 h2) fun v3 h3 =>
 cG v3 (
 some ((.b false), h3)) (
  aHn r n x0 x1 x2 h3)
def s64 (r : RT) (n : Nat) (x0 x1 x2 : DV) (h0 : Hp) : aG :=
 aIi r n x0 x1 x2 h0
abbrev c64 : Code := cf Tryz.f64
abbrev aLm := cR c64
abbrev aHm := cR aLm
abbrev bPq := cR aHm
abbrev aBk := cL aHm
abbrev aTg := cR aBk
abbrev aHz := cL aTg
abbrev uR := cL aHz
abbrev bHl := cL aBk
abbrev bHg := cL aLm
abbrev aUj := cL c64
abbrev r64 : K := bT CF Tryz.f64
def D64 (r : RT) (n : Nat) (c : Code) (X : Nat → K) (k : K) : K := aV CF r 32 n c X r64 k
theorem bIu : D64 r n bPq x0 r64 = (K0 (gE r n)) := by kernel_rfl
theorem bAy (kk5 : TT5) : D64 r n uR (xs x0 0 (K0 (gE r n))) (K5 kk5 1 2 15 16 17) = (K5 (qA r n kk5) 1 2 15 16 17) := by kernel_rfl
theorem bAh (m : Nat) : aP (fun kk => D64 r n uR (xs x0 0 (K0 (gE r n))) kk) m = (K5 (jT r n m) 1 2 15 16 17) := by
 induction m with
 | zero => exact (by kernel_rfl : aP (fun kk => D64 r n uR (xs x0 0 (K0 (gE r n))) kk) 0 = (K5 (jT r n 0) 1 2 15 16 17))
 | succ m ih =>
  refine (by kernel_rfl : aP (fun kk => D64 r n uR (xs x0 0 (K0 (gE r n))) kk) (m + 1) = D64 r n uR (xs x0 0 (K0 (gE r n))) (aP (fun kk => D64 r n uR (xs x0 0 (K0 (gE r n))) kk) m)).trans ?_
  rw [ih]
  exact (bAy r n (jT r n m)).trans (by kernel_rfl)
theorem bLi : D64 r n aHz (xs x0 0 (K0 (gE r n))) (K0 (gE r n)) = (K5 (aXc r n) 1 2 15 16 17) :=
 (by kernel_rfl : D64 r n aHz (xs x0 0 (K0 (gE r n))) (K0 (gE r n)) = aP (fun kk => D64 r n uR (xs x0 0 (K0 (gE r n))) kk) n).trans ((bAh r n n).trans (by kernel_rfl))
theorem bMw : D64 r n aTg x0 (K0 (gE r n)) = (K5 (aKy r n) 1 2 15 16 17) :=
 (by kernel_rfl : D64 r n aTg x0 (K0 (gE r n)) = D64 r n aHz (xs x0 0 (K0 (gE r n))) (K0 (gE r n))).trans
 ((bLi r n).trans (by kernel_rfl))
theorem aXz : D64 r n aHm x0 r64 = D64 r n aBk x0 (K0 (gE r n)) :=
 congrArg (fun k => D64 r n aBk x0 k) (bIu r n)
theorem bEs : D64 r n aBk x0 (K0 (gE r n)) = D64 r n bHl x0 (K5 (aKy r n) 1 2 15 16 17) :=
 congrArg (fun k => D64 r n bHl x0 k) (bMw r n)
theorem bLl : D64 r n aHm x0 r64 = (K3 (aHn r n) 0 1 2) :=
 (aXz r n).trans
 ((bEs r n).trans
 ((by kernel_rfl)))
theorem aZp : D64 r n aLm x0 r64 = D64 r n bHg x0 (K3 (aHn r n) 0 1 2) :=
 congrArg (fun k => D64 r n bHg x0 k) (bLl r n)
theorem bNd : D64 r n aLm x0 r64 = (K3 (aIi r n) 0 1 2) :=
 (aZp r n).trans
 ((by kernel_rfl))
theorem bSa : D64 r n c64 x0 r64 = D64 r n aUj x0 (K3 (aIi r n) 0 1 2) :=
 congrArg (fun k => D64 r n aUj x0 k) (bNd r n)
theorem bTs : D64 r n c64 x0 r64 = (K3 (s64 r n) 0 1 2) :=
 (bSa r n).trans
 ((by kernel_rfl))
theorem bPw : aO CF r n 64 args h = s64 r n (bA args 0) (bA args 1) (bA args 2) h :=
 fL (bTs r n) args h (by kernel_rfl) (by kernel_rfl)
end
end Go.Dd

namespace Go.Dd
open Go.Proofs
noncomputable section
variable (r : RT) (n : Nat) (args : List DV) (h : Hp)
end
end Go.Dd

namespace Go.Dd
open Go.Proofs
noncomputable section
variable (r : RT) (n : Nat) (args : List DV) (h : Hp)
def gL (r : RT) (n : Nat) (x0 x7 : DV) (h0 : Hp) : aG :=
 bnd (bK x0 h0) fun v1 h1 =>
 bnd (aA 0 v1 h1) fun v2 h2 =>
 bnd (aB v2 h2) fun v3 h3 =>
 bnd (bK x0 h3) fun v4 h4 =>
 bnd (aA 1 v4 h4) fun v5 h5 =>
 bnd (aB v5 h5) fun v6 h6 =>
 bnd (eC v3 (some x7) (some v6) h6) fun v7 h7 =>
 some (v7, h7)
def oW (r : RT) (n : Nat) (kk4 : TT4) (x0 x1 x2 x7 : DV) (h0 : Hp) : aG :=
 bnd (bK x0 h0) fun v1 h1 =>
 bnd (aA 1 v1 h1) fun v2 h2 =>
 bnd (aB v2 h2) fun v3 h3 =>
 bnd (bK x0 h3) fun v4 h4 =>
 bnd (aA 0 v4 h4) fun v5 h5 =>
 bnd (aB v5 h5) fun v6 h6 =>
 bnd (hO v6 h6) fun v7 h7 =>
 bnd (aR .lss v3 v7 h7) fun v8 h8 =>
 bnd (gD v8 true (some (x0, h8)) h8) fun v9 h9 =>
 bnd (gD v8 true (bK v9 h9) h9) fun v10 h10 =>
 bnd (gD v8 true (aA 1 v10 h10) h10) fun v11 h11 =>
 bnd (gD v8 true (aB v11 h11) h11) fun v12 h12 =>
 bnd (gD v8 true (some (x7, h12)) h12) fun v13 h13 =>
 bnd (gD v8 true (aR .sub v12 v13 h13) h13) fun v14 h14 =>
 bnd (gD v8 true (some (x2, h14)) h14) fun v15 h15 =>
 bnd (gD v8 true (aR .lss v14 v15 h15) h15) fun v16 h16 =>
 bnd (cN v8 v16 (.b false) h16) fun v17 h17 =>
 bnd (gD v17 true (some (x1, h17)) h17) fun v18 h18 =>
 bnd (gD v17 true (some (x0, h18)) h18) fun v19 h19 =>
 bnd (gD v17 true (bK v19 h19) h19) fun v20 h20 =>
 bnd (gD v17 true (aA 0 v20 h20) h20) fun v21 h21 =>
 bnd (gD v17 true (aB v21 h21) h21) fun v22 h22 =>
 bnd (gD v17 true (some (x0, h22)) h22) fun v23 h23 =>
 bnd (gD v17 true (bK v23 h23) h23) fun v24 h24 =>
 bnd (gD v17 true (aA 1 v24 h24) h24) fun v25 h25 =>
 bnd (gD v17 true (aB v25 h25) h25) fun v26 h26 =>
 bnd (gD v17 true (eL v22 v26 h26) h26) fun v27 h27 =>
 bnd (gD v17 true (dJ CF r v18 [v27] h27) h27) fun v28 h28 =>
 bnd (cN v17 v28 (.b false) h28) fun v29 h29 =>
 cG v29 (
 bnd (bK x0 h29) fun v30 h30 =>
 bnd (aA 1 v30 h30) fun v31 h31 =>
 bnd (aB v31 h31) fun v32 h32 =>
 bnd (aR .add v32 (aJ 1) h32) fun v33 h33 =>
 bnd (bK x0 h33) fun v34 h34 =>
 bnd (aA 1 v34 h34) fun v35 h35 =>
 bnd (aC 1 v35 v33 h35) fun _ h36 =>
      kk4 x0 x1 x2 x7 h36) (
      gL r n x0 x7 h29)
def kK (r : RT) (n : Nat) (m : Nat) : TT4 :=
 Nat.rec (motive := fun _ => TT4) (fun _ _ _ _ _ => none) (fun _ ih => oW r n ih) m
def aTj (r : RT) (n : Nat) : TT4 := kK r n n
def aKn (r : RT) (n : Nat) (x0 x1 x2 x7 : DV) (h0 : Hp) : aG :=
 aTj r n x0 x1 x2 x7 h0
def aIg (r : RT) (n : Nat) (x0 x1 x2 : DV) (h0 : Hp) : aG :=
 bnd (bK x0 h0) fun v1 h1 =>
 bnd (aA 1 v1 h1) fun v2 h2 =>
 bnd (aB v2 h2) fun v3 h3 =>
  aKn r n x0 x1 x2 v3 h3
def s74 (r : RT) (n : Nat) (x0 x1 x2 : DV) (h0 : Hp) : aG :=
 aIg r n x0 x1 x2 h0
abbrev c74 : Code := cf Tryz.f74
abbrev aJi := cR c74
abbrev aLq := cR aJi
abbrev bQf := cR aLq
abbrev aKl := cL aLq
abbrev aIf := cL aKl
abbrev tB := cL aIf
abbrev bGv := cL aJi
abbrev bFt := cL c74
abbrev r74 : K := bT CF Tryz.f74
def D74 (r : RT) (n : Nat) (c : Code) (X : Nat → K) (k : K) : K := aV CF r 62 n c X r74 k
theorem bLk : D74 r n bQf x0 r74 = (K2 (gL r n) 0 7) := by kernel_rfl
theorem bFk (kk4 : TT4) : D74 r n tB (xs x0 0 (K2 (gL r n) 0 7)) (K4 kk4 0 1 2 7) = (K4 (oW r n kk4) 0 1 2 7) := by kernel_rfl
theorem aZq (m : Nat) : aP (fun kk => D74 r n tB (xs x0 0 (K2 (gL r n) 0 7)) kk) m = (K4 (kK r n m) 0 1 2 7) := by
 induction m with
 | zero => exact (by kernel_rfl : aP (fun kk => D74 r n tB (xs x0 0 (K2 (gL r n) 0 7)) kk) 0 = (K4 (kK r n 0) 0 1 2 7))
 | succ m ih =>
  refine (by kernel_rfl : aP (fun kk => D74 r n tB (xs x0 0 (K2 (gL r n) 0 7)) kk) (m + 1) = D74 r n tB (xs x0 0 (K2 (gL r n) 0 7)) (aP (fun kk => D74 r n tB (xs x0 0 (K2 (gL r n) 0 7)) kk) m)).trans ?_
  rw [ih]
  exact (bFk r n (kK r n m)).trans (by kernel_rfl)
theorem bNn : D74 r n aIf (xs x0 0 (K2 (gL r n) 0 7)) (K2 (gL r n) 0 7) = (K4 (aTj r n) 0 1 2 7) :=
 (by kernel_rfl : D74 r n aIf (xs x0 0 (K2 (gL r n) 0 7)) (K2 (gL r n) 0 7) = aP (fun kk => D74 r n tB (xs x0 0 (K2 (gL r n) 0 7)) kk) n).trans ((aZq r n n).trans (by kernel_rfl))
theorem bEc : D74 r n aLq x0 r74 = D74 r n aKl x0 (K2 (gL r n) 0 7) :=
 congrArg (fun k => D74 r n aKl x0 k) (bLk r n)
theorem bNx : D74 r n aLq x0 r74 = (K4 (aKn r n) 0 1 2 7) :=
 (bEc r n).trans
 ((by kernel_rfl : D74 r n aKl x0 (K2 (gL r n) 0 7) = D74 r n aIf (xs x0 0 (K2 (gL r n) 0 7)) (K2 (gL r n) 0 7)).trans
 ((bNn r n).trans (by kernel_rfl)))
theorem aXx : D74 r n aJi x0 r74 = D74 r n bGv x0 (K4 (aKn r n) 0 1 2 7) :=
 congrArg (fun k => D74 r n bGv x0 k) (bNx r n)
theorem bMx : D74 r n aJi x0 r74 = (K3 (aIg r n) 0 1 2) :=
 (aXx r n).trans
 ((by kernel_rfl))
theorem bOp : D74 r n c74 x0 r74 = D74 r n bFt x0 (K3 (aIg r n) 0 1 2) :=
 congrArg (fun k => D74 r n bFt x0 k) (bMx r n)
theorem bVo : D74 r n c74 x0 r74 = (K3 (s74 r n) 0 1 2) :=
 (bOp r n).trans
 ((by kernel_rfl))
theorem bRk : aO CF r n 74 args h = s74 r n (bA args 0) (bA args 1) (bA args 2) h :=
 fL (bVo r n) args h (by kernel_rfl) (by kernel_rfl)
def s75 (r : RT) (n : Nat) (x0 : DV) (h0 : Hp) : aG :=
 bnd (iH x0 h0) fun v1 h1 =>
 some ((.f 105 [] [v1]), h1)
abbrev c75 : Code := cf Tryz.f75
abbrev r75 : K := bT CF Tryz.f75
def D75 (r : RT) (n : Nat) (c : Code) (X : Nat → K) (k : K) : K := aV CF r 4 n c X r75 k
theorem bTz : D75 r n c75 x0 r75 = (K1 (s75 r n) 0) :=
 (by kernel_rfl)
theorem bRe : aO CF r n 75 args h = s75 r n (bA args 0) h :=
 fL (bTz r n) args h (by kernel_rfl) (by kernel_rfl)
def fD (r : RT) (n : Nat) (x2 x4 x5 : DV) (h0 : Hp) : aG :=
 bnd (aD 4 x4 h0) fun v1 h1 =>
 bnd (aC 4 x2 v1 h1) fun _ h2 =>
 bnd (aD 4 x2 h2) fun v3 _ =>
 some (.t [v3, x5], h2)
def bGf (r : RT) (n : Nat) (x0 x2 x4 x5 x6 : DV) (h0 : Hp) : aG :=
 bnd (r 107 [x6] h0) fun v1 h1 =>
 cG v1 (
 bnd (aA 0 x4 h1) fun v2 h2 =>
 bnd (aC 1 v2 (aJ 1) h2) fun _ h3 =>
 bnd (r 108 [x0] h3) fun v4 h4 =>
 bnd (aL 0 v4 h4) fun v5 h5 =>
 bnd (aL 1 v4 h5) fun v6 h6 =>
 bnd (aA 1 x4 h6) fun v7 h7 =>
 bnd (aC 1 v7 v5 h7) fun _ h8 =>
 bnd (aR .eql v6 (aJ 0) h8) fun v9 h9 =>
 bnd (gD v9 true (some (x0, h9)) h9) fun v10 h10 =>
 bnd (gD v9 true (r 109 [v10] h10) h10) fun v11 h11 =>
 bnd (cN v9 v11 (.b false) h11) fun v12 h12 =>
 cG v12 (
 bnd (aA 1 x4 h12) fun v13 h13 =>
 bnd (aB v13 h13) fun v14 h14 =>
 bnd (fZ .add v14 (.s [58]) h14) fun v15 h15 =>
 bnd (aA 0 x4 h15) fun v16 h16 =>
 bnd (aC 1 v16 (aJ 2) h16) fun _ h17 =>
 bnd (aA 1 x4 h17) fun v18 h18 =>
 bnd (aC 1 v18 v15 h18) fun _ h19 =>
      fD r n x2 x4 v6 h19) (
      fD r n x2 x4 v6 h12)) (
 bnd (r 110 [x6] h1) fun v20 h20 =>
 cG v20 (
 bnd (aA 0 x4 h20) fun v21 h21 =>
 bnd (aC 1 v21 (aJ 4) h21) fun _ h22 =>
 bnd (r 111 [x0] h22) fun v23 h23 =>
 bnd (aL 0 v23 h23) fun v24 h24 =>
 bnd (aL 1 v23 h24) fun v25 h25 =>
 bnd (aA 2 x4 h25) fun v26 h26 =>
 bnd (aC 1 v26 v24 h26) fun _ h27 =>
      fD r n x2 x4 v25 h27) (
 bnd (aR .eql x6 (.i .u8 (Int.ofNat 39)) h20) fun v28 h28 =>
 cG v28 (
 bnd (bK x0 h28) fun v29 h29 =>
 bnd (aA 1 v29 h29) fun v30 h30 =>
 bnd (aB v30 h30) fun v31 h31 =>
 bnd (aR .add v31 (aJ 1) h31) fun v32 h32 =>
 bnd (bK x0 h32) fun v33 h33 =>
 bnd (aA 1 v33 h33) fun v34 h34 =>
 bnd (aC 1 v34 v32 h34) fun _ h35 =>
 bnd (aA 0 x4 h35) fun v36 h36 =>
 bnd (aC 1 v36 (aJ 5) h36) fun _ h37 =>
 bnd (r 112 [x0] h37) fun v38 h38 =>
 bnd (aL 0 v38 h38) fun v39 h39 =>
 bnd (aL 1 v38 h39) fun v40 h40 =>
 bnd (aA 1 x4 h40) fun v41 h41 =>
 bnd (aC 1 v41 v39 h41) fun _ h42 =>
  fD r n x2 x4 v40 h42) (
 bnd (aR .eql x6 (.i .u8 (Int.ofNat 35)) h28) fun v43 h43 =>
 bnd (gD v43 true (some (x0, h43)) h43) fun v44 h44 =>
 bnd (gD v43 true (r 106 [v44, (aJ 1)] h44) h44) fun v45 h45 =>
 bnd (gD v43 true (aR .eql v45 (.i .u8 (Int.ofNat 40)) h45) h45) fun v46 h46 =>
 bnd (cN v43 v46 (.b false) h46) fun v47 h47 =>
 cG v47 (
 bnd (bK x0 h47) fun v48 h48 =>
 bnd (aA 1 v48 h48) fun v49 h49 =>
 bnd (aB v49 h49) fun v50 h50 =>
 bnd (aR .add v50 (aJ 2) h50) fun v51 h51 =>
 bnd (bK x0 h51) fun v52 h52 =>
 bnd (aA 1 v52 h52) fun v53 h53 =>
 bnd (aC 1 v53 v51 h53) fun _ h54 =>
 bnd (aA 0 x4 h54) fun v55 h55 =>
 bnd (aC 1 v55 (aJ 7) h55) fun _ h56 =>
  fD r n x2 x4 x5 h56) (
 bnd (aR .eql x6 (.i .u8 (Int.ofNat 35)) h47) fun v57 h57 =>
 cG v57 (
 bnd (bK x0 h57) fun v58 h58 =>
 bnd (aA 1 v58 h58) fun v59 h59 =>
 bnd (aB v59 h59) fun v60 h60 =>
 bnd (aR .add v60 (aJ 1) h60) fun v61 h61 =>
 bnd (bK x0 h61) fun v62 h62 =>
 bnd (aA 1 v62 h62) fun v63 h63 =>
 bnd (aC 1 v63 v61 h63) fun _ h64 =>
 bnd (aA 0 x4 h64) fun v65 h65 =>
 bnd (aC 1 v65 (aJ 6) h65) fun _ h66 =>
 bnd (r 113 [x0] h66) fun v67 h67 =>
 bnd (aL 0 v67 h67) fun v68 h68 =>
 bnd (aL 1 v67 h68) fun v69 h69 =>
 bnd (aA 1 x4 h69) fun v70 h70 =>
 bnd (aC 1 v70 v68 h70) fun _ h71 =>
  fD r n x2 x4 v69 h71) (
 bnd (aR .eql x6 (.i .u8 (Int.ofNat 58)) h57) fun v72 h72 =>
 bnd (gD v72 true (some (x0, h72)) h72) fun v73 h73 =>
 bnd (gD v72 true (r 106 [v73, (aJ 1)] h73) h73) fun v74 h74 =>
 bnd (gD v72 true (aR .eql v74 (.i .u8 (Int.ofNat 61)) h74) h74) fun v75 h75 =>
 bnd (cN v72 v75 (.b false) h75) fun v76 h76 =>
 cG v76 (
 bnd (bK x0 h76) fun v77 h77 =>
 bnd (aA 1 v77 h77) fun v78 h78 =>
 bnd (aB v78 h78) fun v79 h79 =>
 bnd (aR .add v79 (aJ 2) h79) fun v80 h80 =>
 bnd (bK x0 h80) fun v81 h81 =>
 bnd (aA 1 v81 h81) fun v82 h82 =>
 bnd (aC 1 v82 v80 h82) fun _ h83 =>
 bnd (aA 0 x4 h83) fun v84 h84 =>
 bnd (aC 1 v84 (aJ 9) h84) fun _ h85 =>
  fD r n x2 x4 x5 h85) (
 bnd (aR .eql x6 (.i .u8 (Int.ofNat 58)) h76) fun v86 h86 =>
 bnd (gD v86 true (some (x0, h86)) h86) fun v87 h87 =>
 bnd (gD v86 true (r 106 [v87, (aJ 1)] h87) h87) fun v88 h88 =>
 bnd (gD v86 true (r 107 [v88] h88) h88) fun v89 h89 =>
 bnd (cN v86 v89 (.b false) h89) fun v90 h90 =>
 cG v90 (
 bnd (bK x0 h90) fun v91 h91 =>
 bnd (aA 1 v91 h91) fun v92 h92 =>
 bnd (aB v92 h92) fun v93 h93 =>
 bnd (aR .add v93 (aJ 1) h93) fun v94 h94 =>
 bnd (bK x0 h94) fun v95 h95 =>
 bnd (aA 1 v95 h95) fun v96 h96 =>
 bnd (aC 1 v96 v94 h96) fun _ h97 =>
 bnd (aA 0 x4 h97) fun v98 h98 =>
 bnd (aC 1 v98 (aJ 8) h98) fun _ h99 =>
 bnd (r 108 [x0] h99) fun v100 h100 =>
 bnd (aL 0 v100 h100) fun v101 h101 =>
 bnd (aL 1 v100 h101) fun v102 h102 =>
 bnd (aA 1 x4 h102) fun v103 h103 =>
 bnd (aC 1 v103 v101 h103) fun _ h104 =>
  fD r n x2 x4 v102 h104) (
 bnd (r 75 [(.s [43, 45, 42, 47, 60, 62, 61, 126, 44, 64, 38, 37])] h90) fun v105 h105 =>
 bnd (dJ CF r v105 [x6] h105) fun v106 h106 =>
 cG v106 (
 bnd (r 75 [(.s [43, 45, 42, 47, 60, 62, 61, 126, 44, 64, 38, 37])] h106) fun v107 h107 =>
 bnd (r 74 [x0, v107, (aJ 2)] h107) fun v108 h108 =>
 bnd (aA 0 x4 h108) fun v109 h109 =>
 bnd (aC 1 v109 (aJ 3) h109) fun _ h110 =>
 bnd (aA 1 x4 h110) fun v111 h111 =>
 bnd (aC 1 v111 v108 h111) fun _ h112 =>
  fD r n x2 x4 x5 h112) (
 bnd (r 75 [(.s [94, 46, 59, 40, 41, 91, 93, 124])] h106) fun v113 h113 =>
 bnd (dJ CF r v113 [x6] h113) fun v114 h114 =>
 cG v114 (
 bnd (r 75 [(.s [94, 46, 59, 40, 41, 91, 93, 124])] h114) fun v115 h115 =>
 bnd (r 74 [x0, v115, (aJ 1)] h115) fun v116 h116 =>
 bnd (aA 0 x4 h116) fun v117 h117 =>
 bnd (aC 1 v117 (aJ 10) h117) fun _ h118 =>
 bnd (aA 1 x4 h118) fun v119 h119 =>
 bnd (aC 1 v119 v116 h119) fun _ h120 =>
  fD r n x2 x4 x5 h120) (
  fD r n x2 x4 (aJ 10) h114)))))))))
def bGp (r : RT) (n : Nat) (x0 x2 x4 x5 : DV) (h0 : Hp) : aG :=
 bnd (r 106 [x0, (aJ 0)] h0) fun v1 h1 =>
  bGf r n x0 x2 x4 x5 v1 h1
def bHd (r : RT) (n : Nat) (x0 x2 x4 : DV) (h0 : Hp) : aG :=
 bGp r n x0 x2 x4 (aJ 0) h0
def bHh (r : RT) (n : Nat) (x0 x2 : DV) (h0 : Hp) : aG :=
 bnd (bK x0 h0) fun v1 h1 =>
 bnd (aA 1 v1 h1) fun v2 h2 =>
 bnd (aB v2 h2) fun v3 h3 =>
 bnd (cW [(aJ 0), (.s []), (aJ 0), (aJ 0)] [(3, 1, v3)] h3) fun v4 h4 =>
 bnd (cK [(aJ 0), (.s []), (aJ 0), (aJ 0)] h4) fun v5 h5 =>
 bnd (aC 4 v5 v4 h5) fun _ h6 =>
  bHd r n x0 x2 v5 h6
def s76 (r : RT) (n : Nat) (x0 : DV) (h0 : Hp) : aG :=
 bnd (cK [(aJ 0), (.s []), (aJ 0), (aJ 0)] h0) fun v1 h1 =>
  bHh r n x0 v1 h1
abbrev c76 : Code := cf Tryz.f76
abbrev r76 : K := bT CF Tryz.f76
def D76 (r : RT) (n : Nat) (c : Code) (X : Nat → K) (k : K) : K := aV CF r 153 n c X r76 k
theorem bTk : D76 r n c76 x0 r76 = (K1 (s76 r n) 0) := by kernel_rfl
theorem bRs : aO CF r n 76 args h = s76 r n (bA args 0) h :=
 fL (bTk r n) args h (by kernel_rfl) (by kernel_rfl)
def s77 (r : RT) (n : Nat) (x0 x1 x2 : DV) (h0 : Hp) : aG :=
 bnd (r 81 [x0, (aJ 0)] h0) fun v1 h1 =>
 bnd (cK [(aJ 0), (.s []), (aJ 0), (aJ 0)] h1) fun v2 h2 =>
 bnd (aC 4 v2 v1 h2) fun _ h3 =>
 bnd (bK x0 h3) fun v4 h4 =>
 bnd (aA 3 v4 h4) fun v5 h5 =>
 bnd (aB v5 h5) fun v6 h6 =>
 bnd (aR .eql v6 (aJ 0) h6) fun v7 h7 =>
 bnd (gD v7 true (aA 0 v2 h7) h7) fun v8 h8 =>
 bnd (gD v7 true (aB v8 h8) h8) fun v9 h9 =>
 bnd (gD v7 true (some (x1, h9)) h9) fun v10 h10 =>
 bnd (gD v7 true (aR .eql v9 v10 h10) h10) fun v11 h11 =>
 bnd (cN v7 v11 (.b false) h11) fun v12 h12 =>
 bnd (gD v12 true (some (x2, h12)) h12) fun v13 h13 =>
 bnd (gD v12 true (fZ .eql v13 (.s []) h13) h13) fun v14 h14 =>
 bnd (gD v12 true (some (v14, h14)) h14) fun v15 h15 =>
 bnd (gD v15 false (aA 1 v2 h15) h15) fun v16 h16 =>
 bnd (gD v15 false (aB v16 h16) h16) fun v17 h17 =>
 bnd (gD v15 false (some (x2, h17)) h17) fun v18 h18 =>
 bnd (gD v15 false (fZ .eql v17 v18 h18) h18) fun v19 h19 =>
 bnd (gD v12 true (cN v15 (.b true) v19 h19) h19) fun v20 h20 =>
 bnd (cN v12 v20 (.b false) h20) fun v21 h21 =>
 some (v21, h21)
abbrev c77 : Code := cf Tryz.f77
abbrev r77 : K := bT CF Tryz.f77
def D77 (r : RT) (n : Nat) (c : Code) (X : Nat → K) (k : K) : K := aV CF r 31 n c X r77 k
theorem bTa : D77 r n c77 x0 r77 = (K3 (s77 r n) 0 1 2) :=
 (by kernel_rfl)
theorem bOq : aO CF r n 77 args h = s77 r n (bA args 0) (bA args 1) (bA args 2) h :=
 fL (bTa r n) args h (by kernel_rfl) (by kernel_rfl)
def aPd (r : RT) (n : Nat) (x2 x3 : DV) (h0 : Hp) : aG :=
 bnd (aD 4 x3 h0) fun v1 h1 =>
 bnd (aC 4 x2 v1 h1) fun _ h2 =>
 bnd (aD 4 x2 h2) fun v3 _ =>
 some (v3, h2)
def bGt (r : RT) (n : Nat) (x0 x2 x3 : DV) (h0 : Hp) : aG :=
 bnd (aA 0 x3 h0) fun v1 h1 =>
 bnd (aB v1 h1) fun v2 h2 =>
 bnd (aR .neq v2 (aJ 0) h2) fun v3 h3 =>
 cG v3 (
 bnd (bK x0 h3) fun v4 h4 =>
 bnd (aA 0 v4 h4) fun v5 h5 =>
 bnd (aB v5 h5) fun v6 h6 =>
 bnd (dA 4 v6 (some (aJ 1)) none h6) fun v7 h7 =>
 bnd (bK x0 h7) fun v8 h8 =>
 bnd (aA 0 v8 h8) fun v9 h9 =>
 bnd (aC 1 v9 v7 h9) fun _ h10 =>
  aPd r n x2 x3 h10) (
  aPd r n x2 x3 h3)
def bHk (r : RT) (n : Nat) (x0 x2 : DV) (h0 : Hp) : aG :=
 bnd (r 81 [x0, (aJ 0)] h0) fun v1 h1 =>
 bnd (cK [(aJ 0), (.s []), (aJ 0), (aJ 0)] h1) fun v2 h2 =>
 bnd (aC 4 v2 v1 h2) fun _ h3 =>
  bGt r n x0 x2 v2 h3
def s78 (r : RT) (n : Nat) (x0 : DV) (h0 : Hp) : aG :=
 bnd (cK [(aJ 0), (.s []), (aJ 0), (aJ 0)] h0) fun v1 h1 =>
  bHk r n x0 v1 h1
abbrev c78 : Code := cf Tryz.f78
abbrev r78 : K := bT CF Tryz.f78
def D78 (r : RT) (n : Nat) (c : Code) (X : Nat → K) (k : K) : K := aV CF r 18 n c X r78 k
theorem bTm : D78 r n c78 x0 r78 = (K1 (s78 r n) 0) := by kernel_rfl
theorem bOy : aO CF r n 78 args h = s78 r n (bA args 0) h :=
 fL (bTm r n) args h (by kernel_rfl) (by kernel_rfl)
def s79 (r : RT) (n : Nat) (x0 : DV) (h0 : Hp) : aG :=
 bnd (cK fP h0) fun v1 h1 =>
 bnd (r 77 [x0, (aJ 1), (.s [])] h1) fun v2 h2 =>
 bnd (gD v2 true (some (x0, h2)) h2) fun v3 h3 =>
 bnd (gD v2 true (r 81 [v3, (aJ 1)] h3) h3) fun v4 h4 =>
 bnd (gD v2 true (eH 0 v4 h4) h4) fun v5 h5 =>
 bnd (gD v2 true (aR .eql v5 (aJ 9) h5) h5) fun v6 h6 =>
 bnd (cN v2 v6 (.b false) h6) fun v7 h7 =>
 cG v7 (
 bnd (r 78 [x0] h7) fun v8 h8 =>
 bnd (eH 1 v8 h8) fun v9 h9 =>
 bnd (cW fP [(0, 1, (aJ 6)), (1, 1, v9)] h9) fun v10 h10 =>
 bnd (cK fP h10) fun v11 h11 =>
 bnd (aC 6 v11 v10 h11) fun _ h12 =>
 bnd (r 78 [x0] h12) fun v13 h13 =>
 bnd (r 79 [x0] h13) fun v14 h14 =>
 bnd (aM fP 1 [(0, 6, v14)] h14) fun v15 h15 =>
 bnd (aA 5 v11 h15) fun v16 h16 =>
 bnd (aC 1 v16 v15 h16) fun _ h17 =>
 bnd (aD 6 v11 h17) fun v18 h18 =>
 bnd (aC 6 v1 v18 h18) fun _ h19 =>
 bnd (aD 6 v1 h19) fun v20 _ =>
 some (v20, h19)) (
 bnd (r 114 [x0] h7) fun v21 h21 =>
 bnd (aC 6 v1 v21 h21) fun _ h22 =>
 bnd (aD 6 v1 h22) fun v23 _ =>
 some (v23, h22))
abbrev c79 : Code := cf Tryz.f79
abbrev r79 : K := bT CF Tryz.f79
def D79 (r : RT) (n : Nat) (c : Code) (X : Nat → K) (k : K) : K := aV CF r 25 n c X r79 k
theorem bTf : D79 r n c79 x0 r79 = (K1 (s79 r n) 0) :=
 (by kernel_rfl)
theorem bSh : aO CF r n 79 args h = s79 r n (bA args 0) h :=
 fL (bTf r n) args h (by kernel_rfl) (by kernel_rfl)
def s80 (r : RT) (n : Nat) (x0 x1 x2 : DV) (h0 : Hp) : aG :=
 bnd (iH x1 h0) fun v1 h1 =>
 bnd (bK x0 h1) fun v2 h2 =>
 bnd (aA 3 v2 h2) fun v3 h3 =>
 bnd (aB v3 h3) fun v4 h4 =>
 bnd (aR .eql v4 (aJ 0) h4) fun v5 h5 =>
 cG v5 (
 bnd (aA 3 v1 h5) fun v6 h6 =>
 bnd (aB v6 h6) fun v7 h7 =>
 bnd (bK x0 h7) fun v8 h8 =>
 bnd (aA 2 v8 h8) fun v9 h9 =>
 bnd (aC 1 v9 v7 h9) fun _ h10 =>
 bnd (bK x0 h10) fun v11 h11 =>
 bnd (aA 3 v11 h11) fun v12 h12 =>
 bnd (aC 1 v12 x2 h12) fun _ h13 =>
 some (.t [], h13)) (
 some (.t [], h5))
abbrev c80 : Code := cf Tryz.f80
abbrev r80 : K := bT CF Tryz.f80
def D80 (r : RT) (n : Nat) (c : Code) (X : Nat → K) (k : K) : K := aV CF r 20 n c X r80 k
theorem bTb : D80 r n c80 x0 r80 = (K3 (s80 r n) 0 1 2) :=
 (by kernel_rfl)
theorem bQe : aO CF r n 80 args h = s80 r n (bA args 0) (bA args 1) (bA args 2) h :=
 fL (bTb r n) args h (by kernel_rfl) (by kernel_rfl)
def s81 (r : RT) (n : Nat) (x0 x1 : DV) (h0 : Hp) : aG :=
 bnd (cK [(aJ 0), (.s []), (aJ 0), (aJ 0)] h0) fun v1 h1 =>
 bnd (bK x0 h1) fun v2 h2 =>
 bnd (aA 0 v2 h2) fun v3 h3 =>
 bnd (aB v3 h3) fun v4 h4 =>
 bnd (bK x0 h4) fun v5 h5 =>
 bnd (aA 0 v5 h5) fun v6 h6 =>
 bnd (aB v6 h6) fun v7 h7 =>
 bnd (hC v7 h7) fun v8 h8 =>
 bnd (aR .sub v8 (aJ 1) h8) fun v9 h9 =>
 bnd (aMf x1 v9 h9) fun v10 h10 =>
 bnd (aY 4 v4 v10 h10) fun v11 h11 =>
 bnd (aD 4 v11 h11) fun v12 h12 =>
 bnd (aC 4 v1 v12 h12) fun v13 h13 =>
 bnd (aD 4 v1 h13) fun v14 _ =>
 some (v14, h13)
abbrev c81 : Code := cf Tryz.f81
abbrev r81 : K := bT CF Tryz.f81
def D81 (r : RT) (n : Nat) (c : Code) (X : Nat → K) (k : K) : K := aV CF r 19 n c X r81 k
theorem bTe : D81 r n c81 x0 r81 = (K2 (s81 r n) 0 1) :=
 (by kernel_rfl)
theorem bRh : aO CF r n 81 args h = s81 r n (bA args 0) (bA args 1) h :=
 fL (bTe r n) args h (by kernel_rfl) (by kernel_rfl)
def aOg (r : RT) (n : Nat) (x7 : DV) (h0 : Hp) : aG :=
 bnd (aA 1 x7 h0) fun v1 h1 =>
 bnd (aB v1 h1) fun v2 h2 =>
 some (v2, h2)
def bGg (r : RT) (n : Nat) (x0 x2 x7 : DV) (h0 : Hp) : aG :=
 bnd (hC x2 h0) fun v1 h1 =>
 bnd (aR .eql v1 (aJ 4) h1) fun v2 h2 =>
 cG v2 (
 bnd (aD 4 x7 h2) fun v3 h3 =>
 bnd (r 80 [x0, v3, (aJ 18)] h3) fun v4 h4 =>
  aOg r n x7 h4) (
  aOg r n x7 h2)
def bFx (r : RT) (n : Nat) (x0 x1 x2 : DV) (h0 : Hp) : aG :=
 bnd (r 51 [x0, x1, (.s [])] h0) fun v1 h1 =>
 bnd (cK [(aJ 0), (.s []), (aJ 0), (aJ 0)] h1) fun v2 h2 =>
 bnd (aC 4 v2 v1 h2) fun _ h3 =>
  bGg r n x0 x2 v2 h3
def s82 (r : RT) (n : Nat) (x0 x1 x2 : DV) (h0 : Hp) : aG :=
 bFx r n x0 x1 x2 h0
abbrev c82 : Code := cf Tryz.f82
abbrev r82 : K := bT CF Tryz.f82
def D82 (r : RT) (n : Nat) (c : Code) (X : Nat → K) (k : K) : K := aV CF r 19 n c X r82 k
theorem bUi : D82 r n c82 x0 r82 = (K3 (s82 r n) 0 1 2) := by kernel_rfl
theorem bQy : aO CF r n 82 args h = s82 r n (bA args 0) (bA args 1) (bA args 2) h :=
 fL (bUi r n) args h (by kernel_rfl) (by kernel_rfl)
def s85 (r : RT) (n : Nat) (x0 x1 : DV) (h0 : Hp) : aG :=
 bnd (aMl [x0, x1] h0) fun v1 h1 =>
 some (v1, h1)
abbrev c85 : Code := cf Tryz.f85
abbrev r85 : K := bT CF Tryz.f85
def D85 (r : RT) (n : Nat) (c : Code) (X : Nat → K) (k : K) : K := aV CF r 8 n c X r85 k
theorem bTr : D85 r n c85 x0 r85 = (K2 (s85 r n) 0 1) :=
 (by kernel_rfl)
theorem bPa : aO CF r n 85 args h = s85 r n (bA args 0) (bA args 1) h :=
 fL (bTr r n) args h (by kernel_rfl) (by kernel_rfl)
def s89 (r : RT) (n : Nat) (x0 x1 x2 : DV) (h0 : Hp) : aG :=
 bnd (hC x0 h0) fun v1 h1 =>
 bnd (aR .geq x1 v1 h1) fun v2 h2 =>
 cG v2 (
 some ((.s []), h2)) (
 bnd (aY 6 x0 x1 h2) fun v3 h3 =>
 bnd (aD 6 v3 h3) fun v4 h4 =>
 bnd (r 126 [v4] h4) fun v5 h5 =>
 bnd (aR .gtr v5 x2 h5) fun v6 h6 =>
 cG v6 (
 bnd (aY 6 x0 x1 h6) fun v7 h7 =>
 bnd (aD 6 v7 h7) fun v8 h8 =>
 bnd (r 36 [v8] h8) fun v9 h9 =>
 bnd (aM [(.s []), (.s []), (.s [])] 3 [(0, 1, (.s [40])), (1, 1, v9), (2, 1, (.s [41]))] h9) fun v10 h10 =>
 bnd (r 19 [v10] h10) fun v11 h11 =>
 some (v11, h11)) (
 bnd (aY 6 x0 x1 h6) fun v12 h12 =>
 bnd (aD 6 v12 h12) fun v13 h13 =>
 bnd (r 36 [v13] h13) fun v14 h14 =>
 some (v14, h14)))
abbrev c89 : Code := cf Tryz.f89
abbrev r89 : K := bT CF Tryz.f89
def D89 (r : RT) (n : Nat) (c : Code) (X : Nat → K) (k : K) : K := aV CF r 32 n c X r89 k
theorem bVl : D89 r n c89 x0 r89 = (K3 (s89 r n) 0 1 2) :=
 (by kernel_rfl)
theorem bQb : aO CF r n 89 args h = s89 r n (bA args 0) (bA args 1) (bA args 2) h :=
 fL (bVl r n) args h (by kernel_rfl) (by kernel_rfl)
def gH (r : RT) (n : Nat) (x5 : DV) (h0 : Hp) : aG :=
 bnd (kF [x5, (.s [32])] h0) fun v1 h1 =>
 some (v1, h1)
def pC (r : RT) (n : Nat) (kk6 : TT5) (x1 x5 x21 x22 x23 : DV) (h0 : Hp) : aG :=
 bnd (aR .lss x23 x22 h0) fun v1 h1 =>
 cG v1 (
 bnd (aY 1 x21 x23 h1) fun v2 h2 =>
 bnd (aB v2 h2) fun v3 h3 =>
 bnd (r 89 [x1, x23, (aJ 2)] h3) fun v4 h4 =>
 bnd (aM [(.s []), (.s []), (.s [])] 3 [(0, 1, v3), (1, 1, (.s [32])), (2, 1, v4)] h4) fun v5 h5 =>
 bnd (r 19 [v5] h5) fun v6 h6 =>
 bnd (aM [(.s [])] 1 [(0, 1, v6)] h6) fun v7 h7 =>
 bnd (bH 1 16 x5 v7 h7) fun v8 h8 =>
 bnd (aR .add x23 (aJ 1) h8) fun v9 h9 =>
      kk6 x1 v8 x21 x22 v9 h9) (
      gH r n x5 h1)
def kY (r : RT) (n : Nat) (m : Nat) : TT5 :=
 Nat.rec (motive := fun _ => TT5) (fun _ _ _ _ _ _ => none) (fun _ ih => pC r n ih) m
def aUi (r : RT) (n : Nat) : TT5 := kY r n n
def aKg (r : RT) (n : Nat) (x1 x5 x21 x22 x23 : DV) (h0 : Hp) : aG :=
 aUi r n x1 x5 x21 x22 x23 h0
def aJy (r : RT) (n : Nat) (x0 x1 x5 : DV) (h0 : Hp) : aG :=
 bnd (r 33 [x0] h0) fun v1 h1 =>
 bnd (hC v1 h1) fun v2 h2 =>
  aKg r n x1 x5 v1 v2 (aJ 0) h2
def aHq (r : RT) (n : Nat) (x0 x1 : DV) (h0 : Hp) : aG :=
 aJy r n x0 x1 .l0 h0
def aHw (r : RT) (n : Nat) (x0 x1 : DV) (h0 : Hp) : aG :=
 bnd (r 32 [x0] h0) fun v1 h1 =>
 bnd (aR .eql v1 (aJ 1) h1) fun v2 h2 =>
 cG v2 (
 some (x0, h2)) (
 bnd (aR .eql v1 (aJ 2) h2) fun v3 h3 =>
 cG v3 (
 bnd (r 89 [x1, (aJ 0), (aJ 1)] h3) fun v4 h4 =>
 bnd (aM [(.s []), (.s []), (.s [])] 3 [(0, 1, x0), (1, 1, (.s [32])), (2, 1, v4)] h4) fun v5 h5 =>
 bnd (r 19 [v5] h5) fun v6 h6 =>
 some (v6, h6)) (
  aHq r n x0 x1 h3))
def s90 (r : RT) (n : Nat) (x0 x1 : DV) (h0 : Hp) : aG :=
 aHw r n x0 x1 h0
abbrev c90 : Code := cf Tryz.f90
abbrev aJb := cR c90
abbrev aIe := cR aJb
abbrev aIu := cR aIe
abbrev bRj := cR aIu
abbrev aCg := cL aIu
abbrev aWw := cR aCg
abbrev aJo := cL aWw
abbrev uT := cL aJo
abbrev bHm := cL aCg
abbrev aOd := cL aIe
abbrev aRa := cL aJb
abbrev aOn := cL c90
abbrev r90 : K := bT CF Tryz.f90
def D90 (r : RT) (n : Nat) (c : Code) (X : Nat → K) (k : K) : K := aV CF r 40 n c X r90 k
theorem bKf : D90 r n bRj x0 r90 = (K1 (gH r n) 5) := by kernel_rfl
theorem bCd (kk6 : TT5) : D90 r n uT (xs x0 1 (K1 (gH r n) 5)) (K5 kk6 1 5 21 22 23) = (K5 (pC r n kk6) 1 5 21 22 23) := by kernel_rfl
theorem bAo (m : Nat) : aP (fun kk => D90 r n uT (xs x0 1 (K1 (gH r n) 5)) kk) m = (K5 (kY r n m) 1 5 21 22 23) := by
 induction m with
 | zero => exact (by kernel_rfl : aP (fun kk => D90 r n uT (xs x0 1 (K1 (gH r n) 5)) kk) 0 = (K5 (kY r n 0) 1 5 21 22 23))
 | succ m ih =>
  refine (by kernel_rfl : aP (fun kk => D90 r n uT (xs x0 1 (K1 (gH r n) 5)) kk) (m + 1) = D90 r n uT (xs x0 1 (K1 (gH r n) 5)) (aP (fun kk => D90 r n uT (xs x0 1 (K1 (gH r n) 5)) kk) m)).trans ?_
  rw [ih]
  exact (bCd r n (kY r n m)).trans (by kernel_rfl)
theorem bKw : D90 r n aJo (xs x0 1 (K1 (gH r n) 5)) (K1 (gH r n) 5) = (K5 (aUi r n) 1 5 21 22 23) :=
 (by kernel_rfl : D90 r n aJo (xs x0 1 (K1 (gH r n) 5)) (K1 (gH r n) 5) = aP (fun kk => D90 r n uT (xs x0 1 (K1 (gH r n) 5)) kk) n).trans ((bAo r n n).trans (by kernel_rfl))
theorem bLy : D90 r n aWw x0 (K1 (gH r n) 5) = (K5 (aKg r n) 1 5 21 22 23) :=
 (by kernel_rfl : D90 r n aWw x0 (K1 (gH r n) 5) = D90 r n aJo (xs x0 1 (K1 (gH r n) 5)) (K1 (gH r n) 5)).trans
 ((bKw r n).trans (by kernel_rfl))
theorem bAq : D90 r n aIu x0 r90 = D90 r n aCg x0 (K1 (gH r n) 5) :=
 congrArg (fun k => D90 r n aCg x0 k) (bKf r n)
theorem bCh : D90 r n aCg x0 (K1 (gH r n) 5) = D90 r n bHm x0 (K5 (aKg r n) 1 5 21 22 23) :=
 congrArg (fun k => D90 r n bHm x0 k) (bLy r n)
theorem bJi : D90 r n aIu x0 r90 = (K3 (aJy r n) 0 1 5) :=
 (bAq r n).trans
 ((bCh r n).trans
 ((by kernel_rfl)))
theorem bAc : D90 r n aIe x0 r90 = D90 r n aOd x0 (K3 (aJy r n) 0 1 5) :=
 congrArg (fun k => D90 r n aOd x0 k) (bJi r n)
theorem bIy : D90 r n aIe x0 r90 = (K2 (aHq r n) 0 1) :=
 (bAc r n).trans
 ((by kernel_rfl))
theorem bBd : D90 r n aJb x0 r90 = D90 r n aRa x0 (K2 (aHq r n) 0 1) :=
 congrArg (fun k => D90 r n aRa x0 k) (bIy r n)
theorem bIl : D90 r n aJb x0 r90 = (K2 (aHw r n) 0 1) :=
 (bBd r n).trans
 ((by kernel_rfl))
theorem bQh : D90 r n c90 x0 r90 = D90 r n aOn x0 (K2 (aHw r n) 0 1) :=
 congrArg (fun k => D90 r n aOn x0 k) (bIl r n)
theorem bTq : D90 r n c90 x0 r90 = (K2 (s90 r n) 0 1) :=
 (bQh r n).trans
 ((by kernel_rfl))
theorem bRd : aO CF r n 90 args h = s90 r n (bA args 0) (bA args 1) h :=
 fL (bTq r n) args h (by kernel_rfl) (by kernel_rfl)
def s91 (r : RT) (n : Nat) (x0 : DV) (h0 : Hp) : aG :=
 bnd (iH x0 h0) fun v1 h1 =>
 bnd (aA 1 v1 h1) fun v2 h2 =>
 bnd (aB v2 h2) fun v3 h3 =>
 bnd (aA 5 v1 h3) fun v4 h4 =>
 bnd (aB v4 h4) fun v5 h5 =>
 bnd (r 90 [v3, v5] h5) fun v6 h6 =>
 bnd (aM [(.s []), (.s [])] 2 [(0, 1, (.s [59, 32])), (1, 1, v6)] h6) fun v7 h7 =>
 bnd (r 19 [v7] h7) fun v8 h8 =>
 some (v8, h8)
abbrev c91 : Code := cf Tryz.f91
abbrev r91 : K := bT CF Tryz.f91
def D91 (r : RT) (n : Nat) (c : Code) (X : Nat → K) (k : K) : K := aV CF r 10 n c X r91 k
theorem bTv : D91 r n c91 x0 r91 = (K1 (s91 r n) 0) :=
 (by kernel_rfl)
theorem bRo : aO CF r n 91 args h = s91 r n (bA args 0) h :=
 fL (bTv r n) args h (by kernel_rfl) (by kernel_rfl)
end
end Go.Dd

namespace Go.Dd
open Go.Proofs
noncomputable section
variable (r : RT) (n : Nat) (args : List DV) (h : Hp)
def s105 (r : RT) (n : Nat) (x0 x1 : DV) (h0 : Hp) : aG :=
 bnd (aB x1 h0) fun v1 h1 =>
 bnd (r 57 [v1, x0] h1) fun v2 h2 =>
 bnd (aR .geq v2 (aJ 0) h2) fun v3 h3 =>
 some (v3, h3)
abbrev c105 : Code := cf Tryz.f105
abbrev r105 : K := bT CF Tryz.f105
def D105 (r : RT) (n : Nat) (c : Code) (X : Nat → K) (k : K) : K := aV CF r 8 n c X r105 k
theorem bQq : D105 r n c105 x0 r105 = (K2 (s105 r n) 0 1) :=
 (by kernel_rfl)
theorem bJm : aO CF r n 105 args h = s105 r n (bA args 0) (bA args 1) h :=
 fL (bQq r n) args h (by kernel_rfl) (by kernel_rfl)
def s106 (r : RT) (n : Nat) (x0 x1 : DV) (h0 : Hp) : aG :=
 bnd (bK x0 h0) fun v1 h1 =>
 bnd (aA 1 v1 h1) fun v2 h2 =>
 bnd (aB v2 h2) fun v3 h3 =>
 bnd (aR .add v3 x1 h3) fun v4 h4 =>
 bnd (bK x0 h4) fun v5 h5 =>
 bnd (aA 0 v5 h5) fun v6 h6 =>
 bnd (aB v6 h6) fun v7 h7 =>
 bnd (hO v7 h7) fun v8 h8 =>
 bnd (aR .geq v4 v8 h8) fun v9 h9 =>
 cG v9 (
 some ((.i .u8 (Int.ofNat 0)), h9)) (
 bnd (bK x0 h9) fun v10 h10 =>
 bnd (aA 0 v10 h10) fun v11 h11 =>
 bnd (aB v11 h11) fun v12 h12 =>
 bnd (bK x0 h12) fun v13 h13 =>
 bnd (aA 1 v13 h13) fun v14 h14 =>
 bnd (aB v14 h14) fun v15 h15 =>
 bnd (aR .add v15 x1 h15) fun v16 h16 =>
 bnd (eL v12 v16 h16) fun v17 h17 =>
 some (v17, h17))
abbrev c106 : Code := cf Tryz.f106
abbrev r106 : K := bT CF Tryz.f106
def D106 (r : RT) (n : Nat) (c : Code) (X : Nat → K) (k : K) : K := aV CF r 28 n c X r106 k
theorem bQt : D106 r n c106 x0 r106 = (K2 (s106 r n) 0 1) :=
 (by kernel_rfl)
theorem bNm : aO CF r n 106 args h = s106 r n (bA args 0) (bA args 1) h :=
 fL (bQt r n) args h (by kernel_rfl) (by kernel_rfl)
def s107 (r : RT) (n : Nat) (x0 : DV) (h0 : Hp) : aG :=
 bnd (aR .geq x0 (.i .u8 (Int.ofNat 97)) h0) fun v1 h1 =>
 bnd (gD v1 true (some (x0, h1)) h1) fun v2 h2 =>
 bnd (gD v1 true (aR .leq v2 (.i .u8 (Int.ofNat 122)) h2) h2) fun v3 h3 =>
 bnd (cN v1 v3 (.b false) h3) fun v4 h4 =>
 bnd (gD v4 false (some (x0, h4)) h4) fun v5 h5 =>
 bnd (gD v4 false (aR .geq v5 (.i .u8 (Int.ofNat 65)) h5) h5) fun v6 h6 =>
 bnd (gD v4 false (some (v6, h6)) h6) fun v7 h7 =>
 bnd (gD v7 true (some (x0, h7)) h7) fun v8 h8 =>
 bnd (gD v7 true (aR .leq v8 (.i .u8 (Int.ofNat 90)) h8) h8) fun v9 h9 =>
 bnd (gD v4 false (cN v7 v9 (.b false) h9) h9) fun v10 h10 =>
 bnd (cN v4 (.b true) v10 h10) fun v11 h11 =>
 some (v11, h11)
abbrev c107 : Code := cf Tryz.f107
abbrev r107 : K := bT CF Tryz.f107
def D107 (r : RT) (n : Nat) (c : Code) (X : Nat → K) (k : K) : K := aV CF r 17 n c X r107 k
theorem bOt : D107 r n c107 x0 r107 = (K1 (s107 r n) 0) :=
 (by kernel_rfl)
theorem bJa : aO CF r n 107 args h = s107 r n (bA args 0) h :=
 fL (bOt r n) args h (by kernel_rfl) (by kernel_rfl)
def s108 (r : RT) (n : Nat) (x0 : DV) (h0 : Hp) : aG :=
 bnd (bK x0 h0) fun v1 h1 =>
 bnd (aA 0 v1 h1) fun v2 h2 =>
 bnd (aB v2 h2) fun v3 h3 =>
 bnd (hO v3 h3) fun v4 h4 =>
 bnd (r 74 [x0, (.f 132 [] []), v4] h4) fun v5 h5 =>
 bnd (hO v5 h5) fun v6 h6 =>
 bnd (aR .gtr v6 (aJ 24) h6) fun v7 h7 =>
 cG v7 (
 some (.t [(.s []), (aJ 12)], h7)) (
 some (.t [v5, (aJ 0)], h7))
abbrev c108 : Code := cf Tryz.f108
abbrev r108 : K := bT CF Tryz.f108
def D108 (r : RT) (n : Nat) (c : Code) (X : Nat → K) (k : K) : K := aV CF r 16 n c X r108 k
theorem bRz : D108 r n c108 x0 r108 = (K1 (s108 r n) 0) :=
 (by kernel_rfl)
theorem bLs : aO CF r n 108 args h = s108 r n (bA args 0) h :=
 fL (bRz r n) args h (by kernel_rfl) (by kernel_rfl)
def s109 (r : RT) (n : Nat) (x0 : DV) (h0 : Hp) : aG :=
 bnd (r 106 [x0, (aJ 0)] h0) fun v1 h1 =>
 bnd (aR .neq v1 (.i .u8 (Int.ofNat 58)) h1) fun v2 h2 =>
 bnd (gD v2 false (some (x0, h2)) h2) fun v3 h3 =>
 bnd (gD v2 false (r 106 [v3, (aJ 1)] h3) h3) fun v4 h4 =>
 bnd (gD v2 false (aR .eql v4 (.i .u8 (Int.ofNat 61)) h4) h4) fun v5 h5 =>
 bnd (cN v2 (.b true) v5 h5) fun v6 h6 =>
 cG v6 (
 some ((.b false), h6)) (
 bnd (bK x0 h6) fun v7 h7 =>
 bnd (aA 1 v7 h7) fun v8 h8 =>
 bnd (aB v8 h8) fun v9 h9 =>
 bnd (aR .add v9 (aJ 1) h9) fun v10 h10 =>
 bnd (bK x0 h10) fun v11 h11 =>
 bnd (aA 1 v11 h11) fun v12 h12 =>
 bnd (aC 1 v12 v10 h12) fun _ h13 =>
 some ((.b true), h13))
abbrev c109 : Code := cf Tryz.f109
abbrev r109 : K := bT CF Tryz.f109
def D109 (r : RT) (n : Nat) (c : Code) (X : Nat → K) (k : K) : K := aV CF r 18 n c X r109 k
theorem bRp : D109 r n c109 x0 r109 = (K1 (s109 r n) 0) :=
 (by kernel_rfl)
theorem bKy : aO CF r n 109 args h = s109 r n (bA args 0) h :=
 fL (bRp r n) args h (by kernel_rfl) (by kernel_rfl)
def s110 (r : RT) (n : Nat) (x0 : DV) (h0 : Hp) : aG :=
 bnd (aR .geq x0 (.i .u8 (Int.ofNat 48)) h0) fun v1 h1 =>
 bnd (gD v1 true (some (x0, h1)) h1) fun v2 h2 =>
 bnd (gD v1 true (aR .leq v2 (.i .u8 (Int.ofNat 57)) h2) h2) fun v3 h3 =>
 bnd (cN v1 v3 (.b false) h3) fun v4 h4 =>
 some (v4, h4)
abbrev c110 : Code := cf Tryz.f110
abbrev r110 : K := bT CF Tryz.f110
def D110 (r : RT) (n : Nat) (c : Code) (X : Nat → K) (k : K) : K := aV CF r 9 n c X r110 k
theorem bPp : D110 r n c110 x0 r110 = (K1 (s110 r n) 0) :=
 (by kernel_rfl)
theorem bOa : aO CF r n 110 args h = s110 r n (bA args 0) h :=
 fL (bPp r n) args h (by kernel_rfl) (by kernel_rfl)
def eE (r : RT) (n : Nat) (x4 : DV) (h0 : Hp) : aG :=
 some (.t [x4, (aJ 0)], h0)
def mA (r : RT) (n : Nat) (kk5 : mN) (x4 x14 : DV) (h0 : Hp) : aG :=
 bnd (qG x14 h0) fun v1 h1 =>
 bnd (aL 0 v1 h1) fun v2 h2 =>
 cG v2 (
 bnd (aL 2 v1 h2) fun v3 h3 =>
 bnd (aR .gtr x4 (aJ 115292150460684697) h3) fun v4 h4 =>
 cG v4 (
 some (.t [(aJ 0), (aJ 2)], h4)) (
 bnd (aR .mul x4 (aJ 10) h4) fun v5 h5 =>
 bnd (aR .sub v3 (.i .i32 (Int.ofNat 48)) h5) fun v6 h6 =>
 bnd (qC .i64 v6 h6) fun v7 h7 =>
 bnd (aR .add v5 v7 h7) fun v8 h8 =>
 bnd (aR .gtr v8 (aJ 1152921504606846976) h8) fun v9 h9 =>
 cG v9 (
 some (.t [(aJ 0), (aJ 2)], h9)) (
  kk5 v8 x14 h9))) (
  eE r n x4 h2)
def iU (r : RT) (n : Nat) (m : Nat) : mN :=
 Nat.rec (motive := fun _ => mN) (fun _ _ _ => none) (fun _ ih => mA r n ih) m
def aGm (r : RT) (n : Nat) : mN := iU r n n
def aAo (r : RT) (n : Nat) (x4 x14 : DV) (h0 : Hp) : aG :=
 aGm r n x4 x14 h0
def xW (r : RT) (n : Nat) (x0 x4 : DV) (h0 : Hp) : aG :=
 bnd (bK x0 h0) fun v1 h1 =>
 bnd (aA 0 v1 h1) fun v2 h2 =>
 bnd (aB v2 h2) fun v3 h3 =>
 bnd (hO v3 h3) fun v4 h4 =>
 bnd (r 74 [x0, (.f 110 [] []), v4] h4) fun v5 h5 =>
 bnd (aAe v5 h5) fun v6 h6 =>
  aAo r n x4 v6 h6
def aAn (r : RT) (n : Nat) (x0 : DV) (h0 : Hp) : aG :=
 xW r n x0 (aJ 0) h0
def s111 (r : RT) (n : Nat) (x0 : DV) (h0 : Hp) : aG :=
 aAn r n x0 h0
abbrev c111 : Code := cf Tryz.f111
abbrev zU := cR c111
abbrev zX := cR zU
abbrev bJd := cR zX
abbrev sB := cL zX
abbrev aGo := cR sB
abbrev yX := cL aGo
abbrev nK := cL yX
abbrev aVa := cL sB
abbrev aTh := cL zU
abbrev aHv := cL c111
abbrev r111 : K := bT CF Tryz.f111
def D111 (r : RT) (n : Nat) (c : Code) (X : Nat → K) (k : K) : K := aV CF r 29 n c X r111 k
theorem aYs : D111 r n bJd x0 r111 = (K1 (eE r n) 4) := by kernel_rfl
theorem aQt (kk5 : mN) : D111 r n nK (xs x0 0 (K1 (eE r n) 4)) (K2 kk5 4 14) = (K2 (mA r n kk5) 4 14) := by kernel_rfl
theorem aUq (m : Nat) : aP (fun kk => D111 r n nK (xs x0 0 (K1 (eE r n) 4)) kk) m = (K2 (iU r n m) 4 14) := by
 induction m with
 | zero => exact (by kernel_rfl : aP (fun kk => D111 r n nK (xs x0 0 (K1 (eE r n) 4)) kk) 0 = (K2 (iU r n 0) 4 14))
 | succ m ih =>
  refine (by kernel_rfl : aP (fun kk => D111 r n nK (xs x0 0 (K1 (eE r n) 4)) kk) (m + 1) = D111 r n nK (xs x0 0 (K1 (eE r n) 4)) (aP (fun kk => D111 r n nK (xs x0 0 (K1 (eE r n) 4)) kk) m)).trans ?_
  rw [ih]
  exact (aQt r n (iU r n m)).trans (by kernel_rfl)
theorem bFc : D111 r n yX (xs x0 0 (K1 (eE r n) 4)) (K1 (eE r n) 4) = (K2 (aGm r n) 4 14) :=
 (by kernel_rfl : D111 r n yX (xs x0 0 (K1 (eE r n) 4)) (K1 (eE r n) 4) = aP (fun kk => D111 r n nK (xs x0 0 (K1 (eE r n) 4)) kk) n).trans ((aUq r n n).trans (by kernel_rfl))
theorem bBy : D111 r n aGo x0 (K1 (eE r n) 4) = (K2 (aAo r n) 4 14) :=
 (by kernel_rfl : D111 r n aGo x0 (K1 (eE r n) 4) = D111 r n yX (xs x0 0 (K1 (eE r n) 4)) (K1 (eE r n) 4)).trans
 ((bFc r n).trans (by kernel_rfl))
theorem aVy : D111 r n zX x0 r111 = D111 r n sB x0 (K1 (eE r n) 4) :=
 congrArg (fun k => D111 r n sB x0 k) (aYs r n)
theorem aVo : D111 r n sB x0 (K1 (eE r n) 4) = D111 r n aVa x0 (K2 (aAo r n) 4 14) :=
 congrArg (fun k => D111 r n aVa x0 k) (bBy r n)
theorem bDg : D111 r n zX x0 r111 = (K2 (xW r n) 0 4) :=
 (aVy r n).trans
 ((aVo r n).trans
 ((by kernel_rfl)))
theorem aUt : D111 r n zU x0 r111 = D111 r n aTh x0 (K2 (xW r n) 0 4) :=
 congrArg (fun k => D111 r n aTh x0 k) (bDg r n)
theorem bAx : D111 r n zU x0 r111 = (K1 (aAn r n) 0) :=
 (aUt r n).trans
 ((by kernel_rfl))
theorem bNs : D111 r n c111 x0 r111 = D111 r n aHv x0 (K1 (aAn r n) 0) :=
 congrArg (fun k => D111 r n aHv x0 k) (bAx r n)
theorem bPu : D111 r n c111 x0 r111 = (K1 (s111 r n) 0) :=
 (bNs r n).trans
 ((by kernel_rfl))
theorem bKn : aO CF r n 111 args h = s111 r n (bA args 0) h :=
 fL (bPu r n) args h (by kernel_rfl) (by kernel_rfl)
def rJ (r : RT) (n : Nat) (kk3 : mN) (x0 x4 : DV) (h0 : Hp) : aG :=
 bnd (bK x0 h0) fun v1 h1 =>
 bnd (aA 0 v1 h1) fun v2 h2 =>
 bnd (aB v2 h2) fun v3 h3 =>
 bnd (hO v3 h3) fun v4 h4 =>
 bnd (r 74 [x0, (.f 133 [] []), v4] h4) fun v5 h5 =>
 bnd (fZ .add x4 v5 h5) fun v6 h6 =>
 bnd (bK x0 h6) fun v7 h7 =>
 bnd (aA 1 v7 h7) fun v8 h8 =>
 bnd (aB v8 h8) fun v9 h9 =>
 bnd (bK x0 h9) fun v10 h10 =>
 bnd (aA 0 v10 h10) fun v11 h11 =>
 bnd (aB v11 h11) fun v12 h12 =>
 bnd (hO v12 h12) fun v13 h13 =>
 bnd (aR .geq v9 v13 h13) fun v14 h14 =>
 cG v14 (
 some (.t [(.s []), (aJ 11)], h14)) (
 bnd (bK x0 h14) fun v15 h15 =>
 bnd (aA 1 v15 h15) fun v16 h16 =>
 bnd (aB v16 h16) fun v17 h17 =>
 bnd (aR .add v17 (aJ 1) h17) fun v18 h18 =>
 bnd (bK x0 h18) fun v19 h19 =>
 bnd (aA 1 v19 h19) fun v20 h20 =>
 bnd (aC 1 v20 v18 h20) fun _ h21 =>
 bnd (r 106 [x0, (aJ 0)] h21) fun v22 h22 =>
 bnd (aR .neq v22 (.i .u8 (Int.ofNat 39)) h22) fun v23 h23 =>
 cG v23 (
 some (.t [v6, (aJ 0)], h23)) (
 bnd (fZ .add v6 (.s [39]) h23) fun v24 h24 =>
 bnd (bK x0 h24) fun v25 h25 =>
 bnd (aA 1 v25 h25) fun v26 h26 =>
 bnd (aB v26 h26) fun v27 h27 =>
 bnd (aR .add v27 (aJ 1) h27) fun v28 h28 =>
 bnd (bK x0 h28) fun v29 h29 =>
 bnd (aA 1 v29 h29) fun v30 h30 =>
 bnd (aC 1 v30 v28 h30) fun _ h31 =>
  kk3 x0 v24 h31))
def kM (r : RT) (n : Nat) (m : Nat) : mN :=
 Nat.rec (motive := fun _ => mN) (fun _ _ _ => none) (fun _ ih => rJ r n ih) m
def aEp (r : RT) (n : Nat) : mN := kM r n n
def yO (r : RT) (n : Nat) (x0 x4 : DV) (h0 : Hp) : aG :=
 aEp r n x0 x4 h0
def zH (r : RT) (n : Nat) (x0 : DV) (h0 : Hp) : aG :=
 yO r n x0 (.s []) h0
def s112 (r : RT) (n : Nat) (x0 : DV) (h0 : Hp) : aG :=
 zH r n x0 h0
abbrev c112 : Code := cf Tryz.f112
abbrev zF := cR c112
abbrev aGd := cR zF
abbrev zZ := cL aGd
abbrev nA := cL zZ
abbrev aOp := cL zF
abbrev aPe := cL c112
abbrev r112 : K := bT CF Tryz.f112
def D112 (r : RT) (n : Nat) (c : Code) (X : Nat → K) (k : K) : K := aV CF r 44 n c X r112 k
theorem aSy (kk3 : mN) : D112 r n nA (xs x0 0 r112) (K2 kk3 0 4) = (K2 (rJ r n kk3) 0 4) := by kernel_rfl
theorem aUm (m : Nat) : aP (fun kk => D112 r n nA (xs x0 0 r112) kk) m = (K2 (kM r n m) 0 4) := by
 induction m with
 | zero => exact (by kernel_rfl : aP (fun kk => D112 r n nA (xs x0 0 r112) kk) 0 = (K2 (kM r n 0) 0 4))
 | succ m ih =>
  refine (by kernel_rfl : aP (fun kk => D112 r n nA (xs x0 0 r112) kk) (m + 1) = D112 r n nA (xs x0 0 r112) (aP (fun kk => D112 r n nA (xs x0 0 r112) kk) m)).trans ?_
  rw [ih]
  exact (aSy r n (kM r n m)).trans (by kernel_rfl)
theorem bAa : D112 r n zZ (xs x0 0 r112) r112 = (K2 (aEp r n) 0 4) :=
 (by kernel_rfl : D112 r n zZ (xs x0 0 r112) r112 = aP (fun kk => D112 r n nA (xs x0 0 r112) kk) n).trans ((aUm r n n).trans (by kernel_rfl))
theorem bBw : D112 r n aGd x0 r112 = (K2 (yO r n) 0 4) :=
 (by kernel_rfl : D112 r n aGd x0 r112 = D112 r n zZ (xs x0 0 r112) r112).trans
 ((bAa r n).trans (by kernel_rfl))
theorem aVr : D112 r n zF x0 r112 = D112 r n aOp x0 (K2 (yO r n) 0 4) :=
 congrArg (fun k => D112 r n aOp x0 k) (bBw r n)
theorem bCq : D112 r n zF x0 r112 = (K1 (zH r n) 0) :=
 (aVr r n).trans
 ((by kernel_rfl))
theorem bMi : D112 r n c112 x0 r112 = D112 r n aPe x0 (K1 (zH r n) 0) :=
 congrArg (fun k => D112 r n aPe x0 k) (bCq r n)
theorem bSe : D112 r n c112 x0 r112 = (K1 (s112 r n) 0) :=
 (bMi r n).trans
 ((by kernel_rfl))
theorem bLp : aO CF r n 112 args h = s112 r n (bA args 0) h :=
 fL (bSe r n) args h (by kernel_rfl) (by kernel_rfl)
def eZ (r : RT) (n : Nat) (x5 : DV) (h0 : Hp) : aG :=
 some (.t [x5, (aJ 0)], h0)
def rB (r : RT) (n : Nat) (kk8 : mN) (x0 x5 : DV) (h0 : Hp) : aG :=
 bnd (r 106 [x0, (aJ 0)] h0) fun v1 h1 =>
 bnd (r 107 [v1] h1) fun v2 h2 =>
 cG v2 (
 bnd (bK x0 h2) fun v3 h3 =>
 bnd (aA 1 v3 h3) fun v4 h4 =>
 bnd (aB v4 h4) fun v5 h5 =>
 bnd (r 108 [x0] h5) fun v6 h6 =>
 bnd (aL 0 v6 h6) fun v7 h7 =>
 bnd (aL 1 v6 h7) fun v8 h8 =>
 bnd (r 109 [x0] h8) fun v9 h9 =>
 bnd (tQ .not v9 h9) fun v10 h10 =>
 cG v10 (
 bnd (bK x0 h10) fun v11 h11 =>
 bnd (aA 1 v11 h11) fun v12 h12 =>
 bnd (aC 1 v12 v5 h12) fun _ h13 =>
 some (.t [x5, (aJ 0)], h13)) (
 bnd (aR .neq v8 (aJ 0) h10) fun v14 h14 =>
 cG v14 (
 some (.t [(.s []), v8], h14)) (
 bnd (fZ .add v7 (.s [58]) h14) fun v15 h15 =>
 bnd (fZ .add x5 v15 h15) fun v16 h16 =>
  kk8 x0 v16 h16))) (
      eZ r n x5 h2)
def kT (r : RT) (n : Nat) (m : Nat) : mN :=
 Nat.rec (motive := fun _ => mN) (fun _ _ _ => none) (fun _ ih => rB r n ih) m
def aFk (r : RT) (n : Nat) : mN := kT r n n
def yN (r : RT) (n : Nat) (x0 x5 : DV) (h0 : Hp) : aG :=
 aFk r n x0 x5 h0
def aAp (r : RT) (n : Nat) (x0 x5 : DV) (h0 : Hp) : aG :=
 bnd (fZ .add x5 (.s [58]) h0) fun v1 h1 =>
  yN r n x0 v1 h1
def wX (r : RT) (n : Nat) (x0 x5 x6 : DV) (h0 : Hp) : aG :=
 bnd (aR .neq x6 (aJ 0) h0) fun v1 h1 =>
 bnd (gD v1 false (some (x0, h1)) h1) fun v2 h2 =>
 bnd (gD v1 false (r 109 [v2] h2) h2) fun v3 h3 =>
 bnd (gD v1 false (tQ .not v3 h3) h3) fun v4 h4 =>
 bnd (cN v1 (.b true) v4 h4) fun v5 h5 =>
 cG v5 (
 some (.t [x5, x6], h5)) (
  aAp r n x0 x5 h5)
def yG (r : RT) (n : Nat) (x0 : DV) (h0 : Hp) : aG :=
 bnd (r 108 [x0] h0) fun v1 h1 =>
 bnd (aL 0 v1 h1) fun v2 h2 =>
 bnd (aL 1 v1 h2) fun v3 h3 =>
  wX r n x0 v2 v3 h3
def xL (r : RT) (n : Nat) (x0 : DV) (h0 : Hp) : aG :=
 bnd (r 106 [x0, (aJ 0)] h0) fun v1 h1 =>
 bnd (r 107 [v1] h1) fun v2 h2 =>
 bnd (tQ .not v2 h2) fun v3 h3 =>
 cG v3 (
 some (.t [(.s []), (aJ 10)], h3)) (
  yG r n x0 h3)
def aAq (r : RT) (n : Nat) (x0 : DV) (h0 : Hp) : aG :=
 bnd (r 75 [(.s [43, 45, 42, 47, 60, 62, 61, 126, 44, 64, 38, 37])] h0) fun v1 h1 =>
 bnd (r 74 [x0, v1, (aJ 2)] h1) fun v2 h2 =>
 bnd (fZ .neq v2 (.s []) h2) fun v3 h3 =>
 cG v3 (
 some (.t [v2, (aJ 0)], h3)) (
  xL r n x0 h3)
def s113 (r : RT) (n : Nat) (x0 : DV) (h0 : Hp) : aG :=
 aAq r n x0 h0
abbrev c113 : Code := cf Tryz.f113
abbrev zD := cR c113
abbrev yI := cR zD
abbrev xU := cR yI
abbrev xC := cR xU
abbrev xK := cR xC
abbrev zI := cR xK
abbrev bIi := cR zI
abbrev zQ := cL zI
abbrev aAk := cL zQ
abbrev kN := cL aAk
abbrev aIo := cL xK
abbrev aLe := cL xC
abbrev aJk := cL xU
abbrev aJn := cL yI
abbrev aLp := cL zD
abbrev aIq := cL c113
abbrev r113 : K := bT CF Tryz.f113
def D113 (r : RT) (n : Nat) (c : Code) (X : Nat → K) (k : K) : K := aV CF r 64 n c X r113 k
theorem bDo : D113 r n bIi x0 r113 = (K1 (eZ r n) 5) := by kernel_rfl
theorem aPg (kk8 : mN) : D113 r n kN (xs x0 0 (K1 (eZ r n) 5)) (K2 kk8 0 5) = (K2 (rB r n kk8) 0 5) := by kernel_rfl
theorem aXf (m : Nat) : aP (fun kk => D113 r n kN (xs x0 0 (K1 (eZ r n) 5)) kk) m = (K2 (kT r n m) 0 5) := by
 induction m with
 | zero => exact (by kernel_rfl : aP (fun kk => D113 r n kN (xs x0 0 (K1 (eZ r n) 5)) kk) 0 = (K2 (kT r n 0) 0 5))
 | succ m ih =>
  refine (by kernel_rfl : aP (fun kk => D113 r n kN (xs x0 0 (K1 (eZ r n) 5)) kk) (m + 1) = D113 r n kN (xs x0 0 (K1 (eZ r n) 5)) (aP (fun kk => D113 r n kN (xs x0 0 (K1 (eZ r n) 5)) kk) m)).trans ?_
  rw [ih]
  exact (aPg r n (kT r n m)).trans (by kernel_rfl)
theorem bFb : D113 r n aAk (xs x0 0 (K1 (eZ r n) 5)) (K1 (eZ r n) 5) = (K2 (aFk r n) 0 5) :=
 (by kernel_rfl : D113 r n aAk (xs x0 0 (K1 (eZ r n) 5)) (K1 (eZ r n) 5) = aP (fun kk => D113 r n kN (xs x0 0 (K1 (eZ r n) 5)) kk) n).trans ((aXf r n n).trans (by kernel_rfl))
theorem aRt : D113 r n zI x0 r113 = D113 r n zQ x0 (K1 (eZ r n) 5) :=
 congrArg (fun k => D113 r n zQ x0 k) (bDo r n)
theorem bEa : D113 r n zI x0 r113 = (K2 (yN r n) 0 5) :=
 (aRt r n).trans
 ((by kernel_rfl : D113 r n zQ x0 (K1 (eZ r n) 5) = D113 r n aAk (xs x0 0 (K1 (eZ r n) 5)) (K1 (eZ r n) 5)).trans
 ((bFb r n).trans (by kernel_rfl)))
theorem aUg : D113 r n xK x0 r113 = D113 r n aIo x0 (K2 (yN r n) 0 5) :=
 congrArg (fun k => D113 r n aIo x0 k) (bEa r n)
theorem bAj : D113 r n xK x0 r113 = (K2 (aAp r n) 0 5) :=
 (aUg r n).trans
 ((by kernel_rfl))
theorem aSa : D113 r n xC x0 r113 = D113 r n aLe x0 (K2 (aAp r n) 0 5) :=
 congrArg (fun k => D113 r n aLe x0 k) (bAj r n)
theorem aZv : D113 r n xC x0 r113 = (K3 (wX r n) 0 5 6) :=
 (aSa r n).trans
 ((by kernel_rfl))
theorem aRh : D113 r n xU x0 r113 = D113 r n aJk x0 (K3 (wX r n) 0 5 6) :=
 congrArg (fun k => D113 r n aJk x0 k) (aZv r n)
theorem bAu : D113 r n xU x0 r113 = (K1 (yG r n) 0) :=
 (aRh r n).trans
 ((by kernel_rfl))
theorem aXr : D113 r n yI x0 r113 = D113 r n aJn x0 (K1 (yG r n) 0) :=
 congrArg (fun k => D113 r n aJn x0 k) (bAu r n)
theorem bEh : D113 r n yI x0 r113 = (K1 (xL r n) 0) :=
 (aXr r n).trans
 ((by kernel_rfl))
theorem aPn : D113 r n zD x0 r113 = D113 r n aLp x0 (K1 (xL r n) 0) :=
 congrArg (fun k => D113 r n aLp x0 k) (bEh r n)
theorem bBx : D113 r n zD x0 r113 = (K1 (aAq r n) 0) :=
 (aPn r n).trans
 ((by kernel_rfl))
theorem bIg : D113 r n c113 x0 r113 = D113 r n aIq x0 (K1 (aAq r n) 0) :=
 congrArg (fun k => D113 r n aIq x0 k) (bBx r n)
theorem bQc : D113 r n c113 x0 r113 = (K1 (s113 r n) 0) :=
 (bIg r n).trans
 ((by kernel_rfl))
theorem bKc : aO CF r n 113 args h = s113 r n (bA args 0) h :=
 fL (bQc r n) args h (by kernel_rfl) (by kernel_rfl)
def eU (r : RT) (n : Nat) (x2 x4 : DV) (h0 : Hp) : aG :=
 bnd (aD 6 x4 h0) fun v1 h1 =>
 bnd (aC 6 x2 v1 h1) fun _ h2 =>
 bnd (aD 6 x2 h2) fun v3 _ =>
 some (v3, h2)
def rN (r : RT) (n : Nat) (kk7 : jN) (x0 x2 x4 : DV) (h0 : Hp) : aG :=
 bnd (r 77 [x0, (aJ 10), (.s [59])] h0) fun v1 h1 =>
 cG v1 (
 bnd (r 78 [x0] h1) fun v2 h2 =>
 bnd (aA 5 x4 (gI 1 h2)) fun v3 h3 =>
 bnd (aB v3 h3) fun v4 h4 =>
 bnd (r 139 [x0] h4) fun v5 h5 =>
 cnd (bU (aB v3 h5) v4 && true) (
 bnd (r 138 [v5] h5) fun v6 h6 =>
 cnd (bU (aB v3 h6) v4 && true) (
 bnd (aX (dC 0 h2.next) fP 1 [(0, 6, v6)] h6) fun v7 h7 =>
 bnd (bH 6 104 v4 v7 h7) fun v8 h8 =>
 bnd (aA 5 x4 h8) fun v9 h9 =>
 bnd (aC 1 v9 v8 h9) fun v10 h10 =>
      kk7 x0 x2 x4 h10))) (
      eU r n x2 x4 h1)
def lA (r : RT) (n : Nat) (m : Nat) : jN :=
 Nat.rec (motive := fun _ => jN) (fun _ _ _ _ => none) (fun _ ih => rN r n ih) m
def aFu (r : RT) (n : Nat) : jN := lA r n n
def xR (r : RT) (n : Nat) (x0 x2 x4 : DV) (h0 : Hp) : aG :=
 aFu r n x0 x2 x4 h0
def zY (r : RT) (n : Nat) (x0 x2 x3 : DV) (h0 : Hp) : aG :=
 bnd (aA 5 x3 (gI 2 h0)) fun v1 h1 =>
 bnd (aB v1 h1) fun v2 h2 =>
 bnd (aY 6 v2 (aJ 0) h2) fun v3 h3 =>
 bnd (aD 6 v3 h3) fun v4 h4 =>
 bnd (aD 6 x3 h4) fun v5 h5 =>
 bnd (r 138 [v5] h5) fun v6 h6 =>
 cnd (bU (aD 6 v3 h6) v4 && (bU (aB v1 h6) v2 && true)) (
 bnd (aX (dC 0 h0.next) [(aJ 0), (.s []), (aJ 0), .l0, .l0, .l0, (aJ 0), (.s []), (aJ 0), .l0, .l0, .l0] 2 [(0, 6, v4), (6, 6, v6)] h6) fun v7 h7 =>
 bnd (cW fP [(0, 1, (aJ 8)), (5, 1, v7)] h7) fun v8 h8 =>
 bnd (pW (dC 1 h0.next) fP h8) fun v9 h9 =>
 bnd (aC 6 v9 v8 h9) fun v10 h10 =>
  xR r n x0 x2 v9 h10)
def yS (r : RT) (n : Nat) (x0 x2 x3 : DV) (h0 : Hp) : aG :=
 bnd (aA 0 x3 h0) fun v1 h1 =>
 bnd (aB v1 h1) fun v2 h2 =>
 bnd (aR .neq v2 (aJ 7) h2) fun v3 h3 =>
 cG v3 (
 bnd (r 81 [x0, (aJ 0)] h3) fun v4 h4 =>
 bnd (r 80 [x0, v4, (aJ 13)] h4) fun v5 h5 =>
 bnd (aD 6 x3 h5) fun v6 h6 =>
 bnd (aC 6 x2 v6 h6) fun _ h7 =>
 bnd (aD 6 x2 h7) fun v8 _ =>
 some (v8, h7)) (
  zY r n x0 x2 x3 h3)
def xT (r : RT) (n : Nat) (x0 x2 x3 : DV) (h0 : Hp) : aG :=
 bnd (r 77 [x0, (aJ 10), (.s [59])] h0) fun v1 h1 =>
 bnd (tQ .not v1 h1) fun v2 h2 =>
 cG v2 (
 bnd (aD 6 x3 h2) fun v3 h3 =>
 bnd (aC 6 x2 v3 h3) fun _ h4 =>
 bnd (aD 6 x2 h4) fun v5 _ =>
 some (v5, h4)) (
  yS r n x0 x2 x3 h2)
def oZ (r : RT) (n : Nat) (x0 x2 : DV) (h0 : Hp) : aG :=
 bnd (r 137 [x0] h0) fun v1 h1 =>
 bnd (r 136 [x0, v1] h1) fun v2 h2 =>
 bnd (r 135 [x0, v2] h2) fun v3 h3 =>
 bnd (r 134 [x0, v3] h3) fun v4 h4 =>
 bnd (cK fP h4) fun v5 h5 =>
 bnd (aC 6 v5 v4 h5) fun _ h6 =>
  xT r n x0 x2 v5 h6
def s114 (r : RT) (n : Nat) (x0 : DV) (h0 : Hp) : aG :=
 bnd (cK fP h0) fun v1 h1 =>
  oZ r n x0 v1 h1
abbrev c114 : Code := cf Tryz.f114
abbrev zS := cR c114
abbrev yP := cR zS
abbrev yF := cR yP
abbrev aAj := cR yF
abbrev aAy := cR aAj
abbrev bJr := cR aAy
abbrev zP := cL aAy
abbrev aAw := cL zP
abbrev nL := cL aAw
abbrev aLv := cL aAj
abbrev aKm := cL yF
abbrev aIb := cL yP
abbrev aJv := cL zS
abbrev yL := cL c114
abbrev r114 : K := bT CF Tryz.f114
def D114 (r : RT) (n : Nat) (c : Code) (X : Nat → K) (k : K) : K := aV CF r 46 n c X r114 k
theorem bEw : D114 r n bJr x0 r114 = (K2 (eU r n) 2 4) := by kernel_rfl
theorem aVz (kk7 : jN) : D114 r n nL (xs x0 0 (K2 (eU r n) 2 4)) (K3 kk7 0 2 4) = (K3 (rN r n kk7) 0 2 4) := by kernel_rfl
theorem aQz (m : Nat) : aP (fun kk => D114 r n nL (xs x0 0 (K2 (eU r n) 2 4)) kk) m = (K3 (lA r n m) 0 2 4) := by
 induction m with
 | zero => exact (by kernel_rfl : aP (fun kk => D114 r n nL (xs x0 0 (K2 (eU r n) 2 4)) kk) 0 = (K3 (lA r n 0) 0 2 4))
 | succ m ih =>
  refine (by kernel_rfl : aP (fun kk => D114 r n nL (xs x0 0 (K2 (eU r n) 2 4)) kk) (m + 1) = D114 r n nL (xs x0 0 (K2 (eU r n) 2 4)) (aP (fun kk => D114 r n nL (xs x0 0 (K2 (eU r n) 2 4)) kk) m)).trans ?_
  rw [ih]
  exact (aVz r n (lA r n m)).trans (by kernel_rfl)
theorem bCu : D114 r n aAw (xs x0 0 (K2 (eU r n) 2 4)) (K2 (eU r n) 2 4) = (K3 (aFu r n) 0 2 4) :=
 (by kernel_rfl : D114 r n aAw (xs x0 0 (K2 (eU r n) 2 4)) (K2 (eU r n) 2 4) = aP (fun kk => D114 r n nL (xs x0 0 (K2 (eU r n) 2 4)) kk) n).trans ((aQz r n n).trans (by kernel_rfl))
theorem aXo : D114 r n aAy x0 r114 = D114 r n zP x0 (K2 (eU r n) 2 4) :=
 congrArg (fun k => D114 r n zP x0 k) (bEw r n)
theorem aYp : D114 r n aAy x0 r114 = (K3 (xR r n) 0 2 4) :=
 (aXo r n).trans
 ((by kernel_rfl : D114 r n zP x0 (K2 (eU r n) 2 4) = D114 r n aAw (xs x0 0 (K2 (eU r n) 2 4)) (K2 (eU r n) 2 4)).trans
 ((bCu r n).trans (by kernel_rfl)))
theorem aNg : D114 r n aAj x0 r114 = D114 r n aLv x0 (K3 (xR r n) 0 2 4) :=
 congrArg (fun k => D114 r n aLv x0 k) (aYp r n)
theorem bEr : D114 r n aAj x0 r114 = (K3 (zY r n) 0 2 3) :=
 (aNg r n).trans
 ((by kernel_rfl))
theorem aXh : D114 r n yF x0 r114 = D114 r n aKm x0 (K3 (zY r n) 0 2 3) :=
 congrArg (fun k => D114 r n aKm x0 k) (bEr r n)
theorem bFm : D114 r n yF x0 r114 = (K3 (yS r n) 0 2 3) :=
 (aXh r n).trans
 ((by kernel_rfl))
theorem aWp : D114 r n yP x0 r114 = D114 r n aIb x0 (K3 (yS r n) 0 2 3) :=
 congrArg (fun k => D114 r n aIb x0 k) (bFm r n)
theorem bFn : D114 r n yP x0 r114 = (K3 (xT r n) 0 2 3) :=
 (aWp r n).trans
 ((by kernel_rfl))
theorem aRm : D114 r n zS x0 r114 = D114 r n aJv x0 (K3 (xT r n) 0 2 3) :=
 congrArg (fun k => D114 r n aJv x0 k) (bFn r n)
theorem aZn : D114 r n zS x0 r114 = (K2 (oZ r n) 0 2) :=
 (aRm r n).trans
 ((by kernel_rfl))
theorem bMg : D114 r n c114 x0 r114 = D114 r n yL x0 (K2 (oZ r n) 0 2) :=
 congrArg (fun k => D114 r n yL x0 k) (aZn r n)
theorem aYo (q0 : mN) : D114 r n yL x0 (K2 q0 0 2) = fun (env : fM) (h : Hp) =>
 bnd (cK fP h) fun v1 h1 =>
  q0 (env 0) v1 h1 := by kernel_rfl
theorem aOf : (fun (env : fM) (h : Hp) =>
 bnd (cK fP h) fun v1 h1 =>
  oZ r n (env 0) v1 h1) = (K1 (s114 r n) 0) := by kernel_rfl
theorem bRc : D114 r n c114 x0 r114 = (K1 (s114 r n) 0) :=
 (bMg r n).trans
 ((aYo r n (oZ r n)).trans (aOf r n))
theorem bIa : aO CF r n 114 args h = s114 r n (bA args 0) h :=
 fL (bRc r n) args h (by kernel_rfl) (by kernel_rfl)
def s126 (r : RT) (n : Nat) (x0 : DV) (h0 : Hp) : aG :=
 bnd (iH x0 h0) fun v1 h1 =>
 bnd (aA 0 v1 h1) fun v2 h2 =>
 bnd (aB v2 h2) fun v3 h3 =>
 bnd (aR .eql v3 (aJ 7) h3) fun v4 h4 =>
 cG v4 (
 bnd (aA 1 v1 h4) fun v5 h5 =>
 bnd (aB v5 h5) fun v6 h6 =>
 bnd (r 32 [v6] h6) fun v7 h7 =>
 some (v7, h7)) (
 bnd (aR .eql v3 (aJ 8) h4) fun v8 h8 =>
 cG v8 (
 some ((aJ 4), h8)) (
 bnd (aR .eql v3 (aJ 6) h8) fun v9 h9 =>
 cG v9 (
 some ((aJ 5), h9)) (
 some ((aJ 0), h9))))
abbrev c126 : Code := cf Tryz.f126
abbrev r126 : K := bT CF Tryz.f126
def D126 (r : RT) (n : Nat) (c : Code) (X : Nat → K) (k : K) : K := aV CF r 14 n c X r126 k
theorem bQx : D126 r n c126 x0 r126 = (K1 (s126 r n) 0) :=
 (by kernel_rfl)
theorem bJk : aO CF r n 126 args h = s126 r n (bA args 0) h :=
 fL (bQx r n) args h (by kernel_rfl) (by kernel_rfl)
end
end Go.Dd

namespace Go.Dd
open Go.Proofs
noncomputable section
variable (r : RT) (n : Nat) (args : List DV) (h : Hp)
def s132 (r : RT) (n : Nat) (x0 : DV) (h0 : Hp) : aG :=
 bnd (r 107 [x0] h0) fun v1 h1 =>
 bnd (gD v1 false (some (x0, h1)) h1) fun v2 h2 =>
 bnd (gD v1 false (r 110 [v2] h2) h2) fun v3 h3 =>
 bnd (cN v1 (.b true) v3 h3) fun v4 h4 =>
 some (v4, h4)
abbrev c132 : Code := cf Tryz.f132
abbrev r132 : K := bT CF Tryz.f132
def D132 (r : RT) (n : Nat) (c : Code) (X : Nat → K) (k : K) : K := aV CF r 9 n c X r132 k
theorem bPb : D132 r n c132 x0 r132 = (K1 (s132 r n) 0) :=
 (by kernel_rfl)
theorem bLe : aO CF r n 132 args h = s132 r n (bA args 0) h :=
 fL (bPb r n) args h (by kernel_rfl) (by kernel_rfl)
def s133 (r : RT) (n : Nat) (x0 : DV) (h0 : Hp) : aG :=
 bnd (aR .neq x0 (.i .u8 (Int.ofNat 39)) h0) fun v1 h1 =>
 some (v1, h1)
abbrev c133 : Code := cf Tryz.f133
abbrev r133 : K := bT CF Tryz.f133
def D133 (r : RT) (n : Nat) (c : Code) (X : Nat → K) (k : K) : K := aV CF r 5 n c X r133 k
theorem bRf : D133 r n c133 x0 r133 = (K1 (s133 r n) 0) :=
 (by kernel_rfl)
theorem bKh : aO CF r n 133 args h = s133 r n (bA args 0) h :=
 fL (bRf r n) args h (by kernel_rfl) (by kernel_rfl)
def eT (r : RT) (n : Nat) (x4 x5 : DV) (h0 : Hp) : aG :=
 bnd (aD 6 x5 h0) fun v1 h1 =>
 bnd (aC 6 x4 v1 h1) fun _ h2 =>
 bnd (aD 6 x4 h2) fun v3 _ =>
 some (v3, h2)
def rO (r : RT) (n : Nat) (kk5 : jN) (x0 x4 x5 : DV) (h0 : Hp) : aG :=
 bnd (r 77 [x0, (aJ 2), (.s [])] h0) fun v1 h1 =>
 cG v1 (
 bnd (aA 1 x5 h1) fun v2 h2 =>
 bnd (aB v2 h2) fun v3 h3 =>
 bnd (r 78 [x0] h3) fun v4 h4 =>
 cnd (bU (aB v2 h4) v3 && true) (
 bnd (eH 1 v4 h4) fun v5 h5 =>
 bnd (fZ .add v3 v5 h5) fun v6 h6 =>
 bnd (aA 1 x5 h6) fun v7 h7 =>
 bnd (aC 1 v7 v6 h7) fun v8 h8 =>
 bnd (aA 5 x5 (gI 1 h8)) fun v9 h9 =>
 bnd (aB v9 h9) fun v10 h10 =>
 bnd (r 137 [x0] h10) fun v11 h11 =>
 cnd (bU (aB v9 h11) v10 && true) (
 bnd (r 136 [x0, v11] h11) fun v12 h12 =>
 cnd (bU (aB v9 h12) v10 && true) (
 bnd (r 135 [x0, v12] h12) fun v13 h13 =>
 cnd (bU (aB v9 h13) v10 && true) (
 bnd (aX (dC 0 h8.next) fP 1 [(0, 6, v13)] h13) fun v14 h14 =>
 bnd (bH 6 104 v10 v14 h14) fun v15 h15 =>
 bnd (aA 5 x5 h15) fun v16 h16 =>
 bnd (aC 1 v16 v15 h16) fun v17 h17 =>
      kk5 x0 x4 x5 h17))))) (
      eT r n x4 x5 h1)
def kX (r : RT) (n : Nat) (m : Nat) : jN :=
 Nat.rec (motive := fun _ => jN) (fun _ _ _ _ => none) (fun _ ih => rO r n ih) m
def aFm (r : RT) (n : Nat) : jN := kX r n n
def xH (r : RT) (n : Nat) (x0 x4 x5 : DV) (h0 : Hp) : aG :=
 aFm r n x0 x4 x5 h0
def yJ (r : RT) (n : Nat) (x0 x3 x4 : DV) (h0 : Hp) : aG :=
 bnd (aD 6 x3 h0) fun v1 h1 =>
 bnd (aM fP 1 [(0, 6, v1)] h1) fun v2 h2 =>
 bnd (r 149 [(.s []), v2] h2) fun v3 h3 =>
 bnd (cK fP h3) fun v4 h4 =>
 bnd (aC 6 v4 v3 h4) fun _ h5 =>
  xH r n x0 x4 v4 h5
def yW (r : RT) (n : Nat) (x0 x3 x4 : DV) (h0 : Hp) : aG :=
 bnd (r 77 [x0, (aJ 2), (.s [])] h0) fun v1 h1 =>
 bnd (tQ .not v1 h1) fun v2 h2 =>
 cG v2 (
 bnd (aD 6 x3 h2) fun v3 h3 =>
 bnd (aC 6 x4 v3 h3) fun _ h4 =>
 bnd (aD 6 x4 h4) fun v5 _ =>
 some (v5, h4)) (
  yJ r n x0 x3 x4 h2)
def s134 (r : RT) (n : Nat) (x0 x1 : DV) (h0 : Hp) : aG :=
 bnd (iH x1 h0) fun v1 h1 =>
 bnd (cK fP h1) fun v2 h2 =>
  yW r n x0 v1 v2 h2
abbrev c134 : Code := cf Tryz.f134
abbrev aAz := cR c134
abbrev yV := cR aAz
abbrev yB := cR yV
abbrev bLu := cR yB
abbrev yZ := cL yB
abbrev zG := cL yZ
abbrev nO := cL zG
abbrev aRx := cL yV
abbrev aTp := cL aAz
abbrev aJz := cL c134
abbrev r134 : K := bT CF Tryz.f134
def D134 (r : RT) (n : Nat) (c : Code) (X : Nat → K) (k : K) : K := aV CF r 34 n c X r134 k
theorem bDu : D134 r n bLu x0 r134 = (K2 (eT r n) 4 5) := by kernel_rfl
theorem aTs (kk5 : jN) : D134 r n nO (xs x0 0 (K2 (eT r n) 4 5)) (K3 kk5 0 4 5) = (K3 (rO r n kk5) 0 4 5) := by kernel_rfl
theorem aSc (m : Nat) : aP (fun kk => D134 r n nO (xs x0 0 (K2 (eT r n) 4 5)) kk) m = (K3 (kX r n m) 0 4 5) := by
 induction m with
 | zero => exact (by kernel_rfl : aP (fun kk => D134 r n nO (xs x0 0 (K2 (eT r n) 4 5)) kk) 0 = (K3 (kX r n 0) 0 4 5))
 | succ m ih =>
  refine (by kernel_rfl : aP (fun kk => D134 r n nO (xs x0 0 (K2 (eT r n) 4 5)) kk) (m + 1) = D134 r n nO (xs x0 0 (K2 (eT r n) 4 5)) (aP (fun kk => D134 r n nO (xs x0 0 (K2 (eT r n) 4 5)) kk) m)).trans ?_
  rw [ih]
  exact (aTs r n (kX r n m)).trans (by kernel_rfl)
theorem bEj : D134 r n zG (xs x0 0 (K2 (eT r n) 4 5)) (K2 (eT r n) 4 5) = (K3 (aFm r n) 0 4 5) :=
 (by kernel_rfl : D134 r n zG (xs x0 0 (K2 (eT r n) 4 5)) (K2 (eT r n) 4 5) = aP (fun kk => D134 r n nO (xs x0 0 (K2 (eT r n) 4 5)) kk) n).trans ((aSc r n n).trans (by kernel_rfl))
theorem aRk : D134 r n yB x0 r134 = D134 r n yZ x0 (K2 (eT r n) 4 5) :=
 congrArg (fun k => D134 r n yZ x0 k) (bDu r n)
theorem aZd : D134 r n yB x0 r134 = (K3 (xH r n) 0 4 5) :=
 (aRk r n).trans
 ((by kernel_rfl : D134 r n yZ x0 (K2 (eT r n) 4 5) = D134 r n zG (xs x0 0 (K2 (eT r n) 4 5)) (K2 (eT r n) 4 5)).trans
 ((bEj r n).trans (by kernel_rfl)))
theorem aTx : D134 r n yV x0 r134 = D134 r n aRx x0 (K3 (xH r n) 0 4 5) :=
 congrArg (fun k => D134 r n aRx x0 k) (aZd r n)
theorem bAd : D134 r n yV x0 r134 = (K3 (yJ r n) 0 3 4) :=
 (aTx r n).trans
 ((by kernel_rfl))
theorem aUa : D134 r n aAz x0 r134 = D134 r n aTp x0 (K3 (yJ r n) 0 3 4) :=
 congrArg (fun k => D134 r n aTp x0 k) (bAd r n)
theorem bDi : D134 r n aAz x0 r134 = (K3 (yW r n) 0 3 4) :=
 (aUa r n).trans
 ((by kernel_rfl))
theorem bOk : D134 r n c134 x0 r134 = D134 r n aJz x0 (K3 (yW r n) 0 3 4) :=
 congrArg (fun k => D134 r n aJz x0 k) (bDi r n)
theorem bRu : D134 r n c134 x0 r134 = (K2 (s134 r n) 0 1) :=
 (bOk r n).trans
 ((by kernel_rfl))
theorem bLg : aO CF r n 134 args h = s134 r n (bA args 0) (bA args 1) h :=
 fL (bRu r n) args h (by kernel_rfl) (by kernel_rfl)
def eW (r : RT) (n : Nat) (x3 x4 : DV) (h0 : Hp) : aG :=
 bnd (aD 6 x3 h0) fun v1 h1 =>
 bnd (aC 6 x4 v1 h1) fun _ h2 =>
 bnd (aD 6 x4 h2) fun v3 _ =>
 some (v3, h2)
def qZ (r : RT) (n : Nat) (kk3 : jN) (x0 x3 x4 : DV) (h0 : Hp) : aG :=
 bnd (r 77 [x0, (aJ 3), (.s [])] h0) fun v1 h1 =>
 cG v1 (
 bnd (r 78 [x0] h1) fun v2 h2 =>
 bnd (cK [(aJ 0), (.s []), (aJ 0), (aJ 0)] h2) fun v3 h3 =>
 bnd (aC 4 v3 v2 h3) fun _ h4 =>
 bnd (aA 1 v3 (gI 1 h4)) fun v5 h5 =>
 bnd (aB v5 h5) fun v6 h6 =>
 bnd (aD 6 x3 h6) fun v7 h7 =>
 bnd (r 137 [x0] h7) fun v8 h8 =>
 cnd (bU (aD 6 x3 h8) v7 && (bU (aB v5 h8) v6 && true)) (
 bnd (r 136 [x0, v8] h8) fun v9 h9 =>
 cnd (bU (aD 6 x3 h9) v7 && (bU (aB v5 h9) v6 && true)) (
 bnd (aX (dC 0 h4.next) [(aJ 0), (.s []), (aJ 0), .l0, .l0, .l0, (aJ 0), (.s []), (aJ 0), .l0, .l0, .l0] 2 [(0, 6, v7), (6, 6, v9)] h9) fun v10 h10 =>
 bnd (r 149 [v6, v10] h10) fun v11 h11 =>
 bnd (aC 6 x3 v11 h11) fun v12 h12 =>
      kk3 x0 x3 x4 h12))) (
      eW r n x3 x4 h1)
def kP (r : RT) (n : Nat) (m : Nat) : jN :=
 Nat.rec (motive := fun _ => jN) (fun _ _ _ _ => none) (fun _ ih => qZ r n ih) m
def aFa (r : RT) (n : Nat) : jN := kP r n n
def xE (r : RT) (n : Nat) (x0 x3 x4 : DV) (h0 : Hp) : aG :=
 aFa r n x0 x3 x4 h0
def s135 (r : RT) (n : Nat) (x0 x1 : DV) (h0 : Hp) : aG :=
 bnd (iH x1 h0) fun v1 h1 =>
 bnd (cK fP h1) fun v2 h2 =>
  xE r n x0 v1 v2 h2
abbrev c135 : Code := cf Tryz.f135
abbrev yD := cR c135
abbrev bJw := cR yD
abbrev aAx := cL yD
abbrev zT := cL aAx
abbrev nI := cL zT
abbrev aRd := cL c135
abbrev r135 : K := bT CF Tryz.f135
def D135 (r : RT) (n : Nat) (c : Code) (X : Nat → K) (k : K) : K := aV CF r 20 n c X r135 k
theorem aZy : D135 r n bJw x0 r135 = (K2 (eW r n) 3 4) := by kernel_rfl
theorem aRs (kk3 : jN) : D135 r n nI (xs x0 0 (K2 (eW r n) 3 4)) (K3 kk3 0 3 4) = (K3 (qZ r n kk3) 0 3 4) := by kernel_rfl
theorem aSd (m : Nat) : aP (fun kk => D135 r n nI (xs x0 0 (K2 (eW r n) 3 4)) kk) m = (K3 (kP r n m) 0 3 4) := by
 induction m with
 | zero => exact (by kernel_rfl : aP (fun kk => D135 r n nI (xs x0 0 (K2 (eW r n) 3 4)) kk) 0 = (K3 (kP r n 0) 0 3 4))
 | succ m ih =>
  refine (by kernel_rfl : aP (fun kk => D135 r n nI (xs x0 0 (K2 (eW r n) 3 4)) kk) (m + 1) = D135 r n nI (xs x0 0 (K2 (eW r n) 3 4)) (aP (fun kk => D135 r n nI (xs x0 0 (K2 (eW r n) 3 4)) kk) m)).trans ?_
  rw [ih]
  exact (aRs r n (kP r n m)).trans (by kernel_rfl)
theorem bBp : D135 r n zT (xs x0 0 (K2 (eW r n) 3 4)) (K2 (eW r n) 3 4) = (K3 (aFa r n) 0 3 4) :=
 (by kernel_rfl : D135 r n zT (xs x0 0 (K2 (eW r n) 3 4)) (K2 (eW r n) 3 4) = aP (fun kk => D135 r n nI (xs x0 0 (K2 (eW r n) 3 4)) kk) n).trans ((aSd r n n).trans (by kernel_rfl))
theorem aSh : D135 r n yD x0 r135 = D135 r n aAx x0 (K2 (eW r n) 3 4) :=
 congrArg (fun k => D135 r n aAx x0 k) (aZy r n)
theorem bAw : D135 r n yD x0 r135 = (K3 (xE r n) 0 3 4) :=
 (aSh r n).trans
 ((by kernel_rfl : D135 r n aAx x0 (K2 (eW r n) 3 4) = D135 r n zT (xs x0 0 (K2 (eW r n) 3 4)) (K2 (eW r n) 3 4)).trans
 ((bBp r n).trans (by kernel_rfl)))
theorem bIx : D135 r n c135 x0 r135 = D135 r n aRd x0 (K3 (xE r n) 0 3 4) :=
 congrArg (fun k => D135 r n aRd x0 k) (bAw r n)
theorem bQu : D135 r n c135 x0 r135 = (K2 (s135 r n) 0 1) :=
 (bIx r n).trans
 ((by kernel_rfl))
theorem bKu : aO CF r n 135 args h = s135 r n (bA args 0) (bA args 1) h :=
 fL (bQu r n) args h (by kernel_rfl) (by kernel_rfl)
def eV (r : RT) (n : Nat) (x3 x4 : DV) (h0 : Hp) : aG :=
 bnd (aD 6 x3 h0) fun v1 h1 =>
 bnd (aC 6 x4 v1 h1) fun _ h2 =>
 bnd (aD 6 x4 h2) fun v3 _ =>
 some (v3, h2)
def rE (r : RT) (n : Nat) (kk3 : jN) (x0 x3 x4 : DV) (h0 : Hp) : aG :=
 bnd (r 77 [x0, (aJ 1), (.s [])] h0) fun v1 h1 =>
 cG v1 (
 bnd (r 78 [x0] (gI 1 h1)) fun v2 h2 =>
 bnd (eH 1 v2 h2) fun v3 h3 =>
 bnd (aD 6 x3 h3) fun v4 h4 =>
 cnd (bU (aD 6 x3 (gI 1 h1)) v4 && true) (
 bnd (aX (dC 0 h1.next) fP 1 [(0, 6, v4)] h4) fun v5 h5 =>
 bnd (r 149 [v3, v5] h5) fun v6 h6 =>
 bnd (aC 6 x3 v6 h6) fun v7 h7 =>
      kk3 x0 x3 x4 h7)) (
      eV r n x3 x4 h1)
def kV (r : RT) (n : Nat) (m : Nat) : jN :=
 Nat.rec (motive := fun _ => jN) (fun _ _ _ _ => none) (fun _ ih => rE r n ih) m
def aEj (r : RT) (n : Nat) : jN := kV r n n
def yQ (r : RT) (n : Nat) (x0 x3 x4 : DV) (h0 : Hp) : aG :=
 aEj r n x0 x3 x4 h0
def s136 (r : RT) (n : Nat) (x0 x1 : DV) (h0 : Hp) : aG :=
 bnd (iH x1 h0) fun v1 h1 =>
 bnd (cK fP h1) fun v2 h2 =>
  yQ r n x0 v1 v2 h2
abbrev c136 : Code := cf Tryz.f136
abbrev yY := cR c136
abbrev bKl := cR yY
abbrev aAr := cL yY
abbrev yR := cL aAr
abbrev nT := cL yR
abbrev aPh := cL c136
abbrev r136 : K := bT CF Tryz.f136
def D136 (r : RT) (n : Nat) (c : Code) (X : Nat → K) (k : K) : K := aV CF r 14 n c X r136 k
theorem bCb : D136 r n bKl x0 r136 = (K2 (eV r n) 3 4) := by kernel_rfl
theorem aQo (kk3 : jN) : D136 r n nT (xs x0 0 (K2 (eV r n) 3 4)) (K3 kk3 0 3 4) = (K3 (rE r n kk3) 0 3 4) := by kernel_rfl
theorem aVw (m : Nat) : aP (fun kk => D136 r n nT (xs x0 0 (K2 (eV r n) 3 4)) kk) m = (K3 (kV r n m) 0 3 4) := by
 induction m with
 | zero => exact (by kernel_rfl : aP (fun kk => D136 r n nT (xs x0 0 (K2 (eV r n) 3 4)) kk) 0 = (K3 (kV r n 0) 0 3 4))
 | succ m ih =>
  refine (by kernel_rfl : aP (fun kk => D136 r n nT (xs x0 0 (K2 (eV r n) 3 4)) kk) (m + 1) = D136 r n nT (xs x0 0 (K2 (eV r n) 3 4)) (aP (fun kk => D136 r n nT (xs x0 0 (K2 (eV r n) 3 4)) kk) m)).trans ?_
  rw [ih]
  exact (aQo r n (kV r n m)).trans (by kernel_rfl)
theorem bEf : D136 r n yR (xs x0 0 (K2 (eV r n) 3 4)) (K2 (eV r n) 3 4) = (K3 (aEj r n) 0 3 4) :=
 (by kernel_rfl : D136 r n yR (xs x0 0 (K2 (eV r n) 3 4)) (K2 (eV r n) 3 4) = aP (fun kk => D136 r n nT (xs x0 0 (K2 (eV r n) 3 4)) kk) n).trans ((aVw r n n).trans (by kernel_rfl))
theorem aWx : D136 r n yY x0 r136 = D136 r n aAr x0 (K2 (eV r n) 3 4) :=
 congrArg (fun k => D136 r n aAr x0 k) (bCb r n)
theorem bAs : D136 r n yY x0 r136 = (K3 (yQ r n) 0 3 4) :=
 (aWx r n).trans
 ((by kernel_rfl : D136 r n aAr x0 (K2 (eV r n) 3 4) = D136 r n yR (xs x0 0 (K2 (eV r n) 3 4)) (K2 (eV r n) 3 4)).trans
 ((bEf r n).trans (by kernel_rfl)))
theorem bKv : D136 r n c136 x0 r136 = D136 r n aPh x0 (K3 (yQ r n) 0 3 4) :=
 congrArg (fun k => D136 r n aPh x0 k) (bAs r n)
theorem bQr : D136 r n c136 x0 r136 = (K2 (s136 r n) 0 1) :=
 (bKv r n).trans
 ((by kernel_rfl))
theorem bNo : aO CF r n 136 args h = s136 r n (bA args 0) (bA args 1) h :=
 fL (bQr r n) args h (by kernel_rfl) (by kernel_rfl)
def aGl (r : RT) (n : Nat) (x2 : DV) (h0 : Hp) : aG :=
 bnd (cW fP [] h0) fun v1 h1 =>
 bnd (aC 6 x2 v1 h1) fun _ h2 =>
 bnd (aD 6 x2 h2) fun v3 _ =>
 some (v3, h2)
def aTb (r : RT) (n : Nat) (x0 x2 : DV) (h0 : Hp) : aG :=
 bnd (r 81 [x0, (aJ 0)] h0) fun v1 h1 =>
 bnd (cK [(aJ 0), (.s []), (aJ 0), (aJ 0)] h1) fun v2 h2 =>
 bnd (aC 4 v2 v1 h2) fun _ h3 =>
 bnd (bK x0 h3) fun v4 h4 =>
 bnd (aA 3 v4 h4) fun v5 h5 =>
 bnd (aB v5 h5) fun v6 h6 =>
 bnd (aR .neq v6 (aJ 0) h6) fun v7 h7 =>
 cG v7 (
  aGl r n x2 h7) (
 bnd (aA 0 v2 h7) fun v8 h8 =>
 bnd (aB v8 h8) fun v9 h9 =>
 bnd (aR .eql v9 (aJ 1) h9) fun v10 h10 =>
 cG v10 (
 bnd (r 78 [x0] h10) fun v11 h11 =>
 bnd (eH 1 v11 h11) fun v12 h12 =>
 bnd (cW fP [(0, 1, (aJ 5)), (1, 1, v12)] h12) fun v13 h13 =>
 bnd (aC 6 x2 v13 h13) fun _ h14 =>
 bnd (aD 6 x2 h14) fun v15 _ =>
 some (v15, h14)) (
 bnd (aA 0 v2 h10) fun v16 h16 =>
 bnd (aB v16 h16) fun v17 h17 =>
 bnd (aR .eql v17 (aJ 7) h17) fun v18 h18 =>
 cG v18 (
 bnd (r 151 [x0, (.f 152 [x0] [])] h18) fun v19 h19 =>
 bnd (aC 6 x2 v19 h19) fun _ h20 =>
 bnd (aD 6 x2 h20) fun v21 _ =>
 some (v21, h20)) (
 bnd (r 77 [x0, (aJ 10), (.s [40])] h18) fun v22 h22 =>
 cG v22 (
 bnd (r 151 [x0, (.f 153 [x0] [])] h22) fun v23 h23 =>
 bnd (aC 6 x2 v23 h23) fun _ h24 =>
 bnd (aD 6 x2 h24) fun v25 _ =>
 some (v25, h24)) (
 bnd (r 77 [x0, (aJ 10), (.s [91])] h22) fun v26 h26 =>
 cG v26 (
 bnd (r 151 [x0, (.f 154 [x0] [])] h26) fun v27 h27 =>
 bnd (aC 6 x2 v27 h27) fun _ h28 =>
 bnd (aD 6 x2 h28) fun v29 _ =>
 some (v29, h28)) (
 bnd (aD 4 v2 h26) fun v30 h30 =>
 bnd (r 80 [x0, v30, (aJ 13)] h30) fun v31 h31 =>
  aGl r n x2 h31)))))
def aXp (r : RT) (n : Nat) (x0 x2 : DV) (h0 : Hp) : aG :=
 bnd (r 150 [x0] h0) fun v1 h1 =>
 bnd (aL 0 v1 h1) fun v2 h2 =>
 bnd (aL 1 v1 h2) fun v3 h3 =>
 bnd (cK fP h3) fun v4 h4 =>
 bnd (aC 6 v4 v2 h4) fun _ h5 =>
 cG v3 (
 bnd (aD 6 v4 h5) fun v6 h6 =>
 bnd (aC 6 x2 v6 h6) fun _ h7 =>
 bnd (aD 6 x2 h7) fun v8 _ =>
 some (v8, h7)) (
  aTb r n x0 x2 h5)
def s137 (r : RT) (n : Nat) (x0 : DV) (h0 : Hp) : aG :=
 bnd (cK fP h0) fun v1 h1 =>
  aXp r n x0 v1 h1
abbrev c137 : Code := cf Tryz.f137
abbrev r137 : K := bT CF Tryz.f137
def D137 (r : RT) (n : Nat) (c : Code) (X : Nat → K) (k : K) : K := aV CF r 55 n c X r137 k
theorem bRx : D137 r n c137 x0 r137 = (K1 (s137 r n) 0) := by kernel_rfl
theorem bNi : aO CF r n 137 args h = s137 r n (bA args 0) h :=
 fL (bRx r n) args h (by kernel_rfl) (by kernel_rfl)
def s138 (r : RT) (n : Nat) (x0 : DV) (h0 : Hp) : aG :=
 bnd (iH x0 h0) fun v1 h1 =>
 bnd (cK fP h1) fun v2 h2 =>
 bnd (aA 5 v1 h2) fun v3 h3 =>
 bnd (aB v3 h3) fun v4 h4 =>
 bnd (hC v4 h4) fun v5 h5 =>
 bnd (aR .eql v5 (aJ 0) h5) fun v6 h6 =>
 cG v6 (
 bnd (aD 6 v1 h6) fun v7 h7 =>
 bnd (aC 6 v2 v7 h7) fun _ h8 =>
 bnd (aD 6 v2 h8) fun v9 _ =>
 some (v9, h8)) (
 bnd (aA 1 v1 h6) fun v10 h10 =>
 bnd (aB v10 h10) fun v11 h11 =>
 bnd (aA 5 v1 h11) fun v12 h12 =>
 bnd (aB v12 h12) fun v13 h13 =>
 bnd (dA 6 v13 (some (aJ 1)) none h13) fun v14 h14 =>
 bnd (r 155 [v14] h14) fun v15 h15 =>
 cnd (bU (aB v10 h15) v11 && true) (
 bnd (cW fP [(0, 1, (aJ 7)), (1, 1, v11), (5, 1, v15)] h15) fun v16 h16 =>
 bnd (aC 6 v2 v16 h16) fun v17 h17 =>
 bnd (aD 6 v2 h17) fun v18 _ =>
 some (v18, h17)))
abbrev c138 : Code := cf Tryz.f138
abbrev r138 : K := bT CF Tryz.f138
def D138 (r : RT) (n : Nat) (c : Code) (X : Nat → K) (k : K) : K := aV CF r 15 n c X r138 k
theorem bPr : D138 r n c138 x0 r138 = (K1 (s138 r n) 0) :=
 (by kernel_rfl)
theorem bJo : aO CF r n 138 args h = s138 r n (bA args 0) h :=
 fL (bPr r n) args h (by kernel_rfl) (by kernel_rfl)
def s139 (r : RT) (n : Nat) (x0 : DV) (h0 : Hp) : aG :=
 bnd (cK fP h0) fun v1 h1 =>
 bnd (cK fP h1) fun v2 h2 =>
 bnd (r 81 [x0, (aJ 0)] h2) fun v3 h3 =>
 bnd (cK [(aJ 0), (.s []), (aJ 0), (aJ 0)] h3) fun v4 h4 =>
 bnd (aC 4 v4 v3 h4) fun _ h5 =>
 bnd (aA 0 v4 h5) fun v6 h6 =>
 bnd (aB v6 h6) fun v7 h7 =>
 bnd (aR .eql v7 (aJ 1) h7) fun v8 h8 =>
 cG v8 (
 bnd (r 78 [x0] h8) fun v9 h9 =>
 bnd (aA 1 v4 h9) fun v10 h10 =>
 bnd (aB v10 h10) fun v11 h11 =>
 bnd (aD 6 v2 h11) fun v12 h12 =>
 bnd (aM fP 1 [(0, 6, v12)] h12) fun v13 h13 =>
 bnd (r 149 [v11, v13] h13) fun v14 h14 =>
 bnd (aC 6 v1 v14 h14) fun _ h15 =>
 bnd (aD 6 v1 h15) fun v16 _ =>
 some (v16, h15)) (
 bnd (aR .eql v7 (aJ 3) h8) fun v17 h17 =>
 cG v17 (
 bnd (r 78 [x0] h17) fun v18 h18 =>
 bnd (aA 1 v4 (gI 1 h18)) fun v19 h19 =>
 bnd (aB v19 h19) fun v20 h20 =>
 bnd (aD 6 v2 h20) fun v21 h21 =>
 bnd (r 137 [x0] h21) fun v22 h22 =>
 cnd (bU (aD 6 v2 h22) v21 && (bU (aB v19 h22) v20 && true)) (
 bnd (r 136 [x0, v22] h22) fun v23 h23 =>
 cnd (bU (aD 6 v2 h23) v21 && (bU (aB v19 h23) v20 && true)) (
 bnd (aX (dC 0 h18.next) [(aJ 0), (.s []), (aJ 0), .l0, .l0, .l0, (aJ 0), (.s []), (aJ 0), .l0, .l0, .l0] 2 [(0, 6, v21), (6, 6, v23)] h23) fun v24 h24 =>
 bnd (r 149 [v20, v24] h24) fun v25 h25 =>
 bnd (aC 6 v1 v25 h25) fun v26 h26 =>
 bnd (aD 6 v1 h26) fun v27 _ =>
 some (v27, h26)))) (
 bnd (aR .eql v7 (aJ 2) h17) fun v28 h28 =>
 cG v28 (
 bnd (aD 6 v2 h28) fun v29 h29 =>
 bnd (r 134 [x0, v29] h29) fun v30 h30 =>
 bnd (aC 6 v1 v30 h30) fun _ h31 =>
 bnd (aD 6 v1 h31) fun v32 _ =>
 some (v32, h31)) (
 bnd (aD 4 v4 h28) fun v33 h33 =>
 bnd (r 80 [x0, v33, (aJ 13)] h33) fun v34 h34 =>
 bnd (aD 6 v2 h34) fun v35 h35 =>
 bnd (aC 6 v1 v35 h35) fun _ h36 =>
 bnd (aD 6 v1 h36) fun v37 _ =>
 some (v37, h36))))
abbrev c139 : Code := cf Tryz.f139
abbrev r139 : K := bT CF Tryz.f139
def D139 (r : RT) (n : Nat) (c : Code) (X : Nat → K) (k : K) : K := aV CF r 40 n c X r139 k
theorem bRw : D139 r n c139 x0 r139 = (K1 (s139 r n) 0) :=
 (by kernel_rfl)
theorem bNu : aO CF r n 139 args h = s139 r n (bA args 0) h :=
 fL (bRw r n) args h (by kernel_rfl) (by kernel_rfl)
def s149 (r : RT) (n : Nat) (x0 x1 : DV) (h0 : Hp) : aG :=
 bnd (cK fP h0) fun v1 h1 =>
 bnd (cW fP [(0, 1, (aJ 7)), (1, 1, x0), (5, 1, x1)] h1) fun v2 h2 =>
 bnd (aC 6 v1 v2 h2) fun _ h3 =>
 bnd (aD 6 v1 h3) fun v4 _ =>
 some (v4, h3)
abbrev c149 : Code := cf Tryz.f149
abbrev r149 : K := bT CF Tryz.f149
def D149 (r : RT) (n : Nat) (c : Code) (X : Nat → K) (k : K) : K := aV CF r 8 n c X r149 k
theorem bSk : D149 r n c149 x0 r149 = (K2 (s149 r n) 0 1) :=
 (by kernel_rfl)
theorem bLt : aO CF r n 149 args h = s149 r n (bA args 0) (bA args 1) h :=
 fL (bSk r n) args h (by kernel_rfl) (by kernel_rfl)
def yU (r : RT) (n : Nat) (x0 x2 x5 : DV) (h0 : Hp) : aG :=
 bnd (r 78 [x0] h0) fun v1 h1 =>
 bnd (aD 6 x5 h1) fun v2 h2 =>
 bnd (aC 6 x2 v2 h2) fun _ h3 =>
 bnd (aD 6 x2 h3) fun v4 _ =>
 some (.t [v4, (.b true)], h3)
def aWe (r : RT) (n : Nat) (x0 x2 x4 x5 : DV) (h0 : Hp) : aG :=
 bnd (bK x0 h0) fun v1 h1 =>
 bnd (aA 3 v1 h1) fun v2 h2 =>
 bnd (aB v2 h2) fun v3 h3 =>
 bnd (aR .neq v3 (aJ 0) h3) fun v4 h4 =>
 cG v4 (
 bnd (aD 6 x5 h4) fun v5 h5 =>
 bnd (aC 6 x2 v5 h5) fun _ h6 =>
 bnd (aD 6 x2 h6) fun v7 _ =>
 some (.t [v7, (.b false)], h6)) (
 bnd (r 161 [x0] h4) fun v8 h8 =>
 cG v8 (
 bnd (r 78 [x0] h8) fun v9 h9 =>
 bnd (r 78 [x0] h9) fun v10 h10 =>
 bnd (eH 2 v10 h10) fun v11 h11 =>
 bnd (tQ .neg v11 h11) fun v12 h12 =>
 bnd (cW fP [(0, 1, (aJ 1)), (2, 1, v12)] h12) fun v13 h13 =>
 bnd (aC 6 x2 v13 h13) fun _ h14 =>
 bnd (aD 6 x2 h14) fun v15 _ =>
 some (.t [v15, (.b true)], h14)) (
 bnd (aA 0 x4 h8) fun v16 h16 =>
 bnd (aB v16 h16) fun v17 h17 =>
 bnd (aR .eql v17 (aJ 4) h17) fun v18 h18 =>
 cG v18 (
 bnd (aA 0 x5 h18) fun v19 h19 =>
 bnd (aC 1 v19 (aJ 1) h19) fun _ h20 =>
  yU r n x0 x2 x5 h20) (
 bnd (aA 0 x4 h18) fun v21 h21 =>
 bnd (aB v21 h21) fun v22 h22 =>
 bnd (aR .eql v22 (aJ 5) h22) fun v23 h23 =>
 cG v23 (
 bnd (aA 0 x5 h23) fun v24 h24 =>
 bnd (aC 1 v24 (aJ 2) h24) fun _ h25 =>
  yU r n x0 x2 x5 h25) (
 bnd (aA 0 x4 h23) fun v26 h26 =>
 bnd (aB v26 h26) fun v27 h27 =>
 bnd (aR .eql v27 (aJ 6) h27) fun v28 h28 =>
 cG v28 (
 bnd (aA 0 x5 h28) fun v29 h29 =>
 bnd (aC 1 v29 (aJ 3) h29) fun _ h30 =>
  yU r n x0 x2 x5 h30) (
 bnd (aD 6 x5 h28) fun v31 h31 =>
 bnd (aC 6 x2 v31 h31) fun _ h32 =>
 bnd (aD 6 x2 h32) fun v33 _ =>
 some (.t [v33, (.b false)], h32))))))
def aPc (r : RT) (n : Nat) (x0 x2 x4 : DV) (h0 : Hp) : aG :=
 bnd (aA 1 x4 h0) fun v1 h1 =>
 bnd (aB v1 h1) fun v2 h2 =>
 bnd (aA 2 x4 h2) fun v3 h3 =>
 bnd (aB v3 h3) fun v4 h4 =>
 bnd (cW fP [(1, 1, v2), (2, 1, v4)] h4) fun v5 h5 =>
 bnd (cK fP h5) fun v6 h6 =>
 bnd (aC 6 v6 v5 h6) fun _ h7 =>
  aWe r n x0 x2 x4 v6 h7
def aQr (r : RT) (n : Nat) (x0 x2 : DV) (h0 : Hp) : aG :=
 bnd (r 81 [x0, (aJ 0)] h0) fun v1 h1 =>
 bnd (cK [(aJ 0), (.s []), (aJ 0), (aJ 0)] h1) fun v2 h2 =>
 bnd (aC 4 v2 v1 h2) fun _ h3 =>
  aPc r n x0 x2 v2 h3
def s150 (r : RT) (n : Nat) (x0 : DV) (h0 : Hp) : aG :=
 bnd (cK fP h0) fun v1 h1 =>
  aQr r n x0 v1 h1
abbrev c150 : Code := cf Tryz.f150
abbrev r150 : K := bT CF Tryz.f150
def D150 (r : RT) (n : Nat) (c : Code) (X : Nat → K) (k : K) : K := aV CF r 49 n c X r150 k
theorem bQd : D150 r n c150 x0 r150 = (K1 (s150 r n) 0) := by kernel_rfl
theorem bIh : aO CF r n 150 args h = s150 r n (bA args 0) h :=
 fL (bQd r n) args h (by kernel_rfl) (by kernel_rfl)
def s151 (r : RT) (n : Nat) (x0 x1 : DV) (h0 : Hp) : aG :=
 bnd (cK fP h0) fun v1 h1 =>
 bnd (r 78 [x0] h1) fun v2 h2 =>
 bnd (cK [(aJ 0), (.s []), (aJ 0), (aJ 0)] h2) fun v3 h3 =>
 bnd (aC 4 v3 v2 h3) fun _ h4 =>
 bnd (bK x0 h4) fun v5 h5 =>
 bnd (aA 1 v5 h5) fun v6 h6 =>
 bnd (aB v6 h6) fun v7 h7 =>
 bnd (aR .eql v7 (aJ 20) h7) fun v8 h8 =>
 cG v8 (
 bnd (aD 4 v3 h8) fun v9 h9 =>
 bnd (r 80 [x0, v9, (aJ 14)] h9) fun v10 h10 =>
 bnd (cW fP [] h10) fun v11 h11 =>
 bnd (aC 6 v1 v11 h11) fun _ h12 =>
 bnd (aD 6 v1 h12) fun v13 _ =>
 some (v13, h12)) (
 bnd (bK x0 h8) fun v14 h14 =>
 bnd (aA 1 v14 h14) fun v15 h15 =>
 bnd (aB v15 h15) fun v16 h16 =>
 bnd (aR .add v16 (aJ 1) h16) fun v17 h17 =>
 bnd (bK x0 h17) fun v18 h18 =>
 bnd (aA 1 v18 h18) fun v19 h19 =>
 bnd (aC 1 v19 v17 h19) fun _ h20 =>
 bnd (dJ CF r x1 [] h20) fun v21 h21 =>
 bnd (cK fP h21) fun v22 h22 =>
 bnd (aC 6 v22 v21 h22) fun _ h23 =>
 bnd (bK x0 h23) fun v24 h24 =>
 bnd (aA 1 v24 h24) fun v25 h25 =>
 bnd (aB v25 h25) fun v26 h26 =>
 bnd (aR .sub v26 (aJ 1) h26) fun v27 h27 =>
 bnd (bK x0 h27) fun v28 h28 =>
 bnd (aA 1 v28 h28) fun v29 h29 =>
 bnd (aC 1 v29 v27 h29) fun _ h30 =>
 bnd (aD 6 v22 h30) fun v31 h31 =>
 bnd (aC 6 v1 v31 h31) fun _ h32 =>
 bnd (aD 6 v1 h32) fun v33 _ =>
 some (v33, h32))
abbrev c151 : Code := cf Tryz.f151
abbrev r151 : K := bT CF Tryz.f151
def D151 (r : RT) (n : Nat) (c : Code) (X : Nat → K) (k : K) : K := aV CF r 35 n c X r151 k
theorem bPx : D151 r n c151 x0 r151 = (K2 (s151 r n) 0 1) :=
 (by kernel_rfl)
theorem bLf : aO CF r n 151 args h = s151 r n (bA args 0) (bA args 1) h :=
 fL (bPx r n) args h (by kernel_rfl) (by kernel_rfl)
def eN (r : RT) (n : Nat) (x0 x2 x3 : DV) (h0 : Hp) : aG :=
 bnd (r 78 [x0] h0) fun v1 h1 =>
 bnd (aD 6 x3 h1) fun v2 h2 =>
 bnd (aC 6 x2 v2 h2) fun _ h3 =>
 bnd (aD 6 x2 h3) fun v4 _ =>
 some (v4, h3)
def nP (r : RT) (n : Nat) (kk4 : jN) (x0 x2 x3 x4 : DV) (h0 : Hp) : aG :=
 bnd (aA 5 x3 h0) fun v1 h1 =>
 bnd (aB v1 h1) fun v2 h2 =>
 bnd (aD 6 x4 h2) fun v3 h3 =>
 bnd (aM fP 1 [(0, 6, v3)] h3) fun v4 h4 =>
 bnd (bH 6 104 v2 v4 h4) fun v5 h5 =>
 bnd (aA 5 x3 h5) fun v6 h6 =>
 bnd (aC 1 v6 v5 h6) fun _ h7 =>
  kk4 x0 x2 x3 h7
def aVf (r : RT) (n : Nat) (kk4 : jN) (x0 x2 x3 x4 x5 : DV) (h0 : Hp) : aG :=
 cG x5 (
  nP r n kk4 x0 x2 x3 x4 h0) (
 bnd (r 77 [x0, (aJ 7), (.s [])] h0) fun v1 h1 =>
 bnd (gD v1 false (some (x0, h1)) h1) fun v2 h2 =>
 bnd (gD v1 false (r 77 [v2, (aJ 10), (.s [40])] h2) h2) fun v3 h3 =>
 bnd (cN v1 (.b true) v3 h3) fun v4 h4 =>
 cG v4 (
 bnd (r 151 [x0, (.f 152 [x0] [])] h4) fun v5 h5 =>
 bnd (aC 6 x4 v5 h5) fun _ h6 =>
      nP r n kk4 x0 x2 x3 x4 h6) (
 bnd (r 81 [x0, (aJ 0)] h4) fun v7 h7 =>
 bnd (r 80 [x0, v7, (aJ 13)] h7) fun v8 h8 =>
      nP r n kk4 x0 x2 x3 x4 h8))
def aQq (r : RT) (n : Nat) (kk4 : jN) (x0 x2 x3 : DV) (h0 : Hp) : aG :=
 bnd (r 150 [x0] h0) fun v1 h1 =>
 bnd (aL 0 v1 h1) fun v2 h2 =>
 bnd (aL 1 v1 h2) fun v3 h3 =>
 bnd (cK fP h3) fun v4 h4 =>
 bnd (aC 6 v4 v2 h4) fun _ h5 =>
  aVf r n kk4 x0 x2 x3 v4 v3 h5
def rG (r : RT) (n : Nat) (kk4 : jN) (x0 x2 x3 : DV) (h0 : Hp) : aG :=
 bnd (bK x0 h0) fun v1 h1 =>
 bnd (aA 3 v1 h1) fun v2 h2 =>
 bnd (aB v2 h2) fun v3 h3 =>
 bnd (aR .eql v3 (aJ 0) h3) fun v4 h4 =>
 bnd (gD v4 true (some (x0, h4)) h4) fun v5 h5 =>
 bnd (gD v4 true (r 77 [v5, (aJ 10), (.s [41])] h5) h5) fun v6 h6 =>
 bnd (gD v4 true (tQ .not v6 h6) h6) fun v7 h7 =>
 bnd (cN v4 v7 (.b false) h7) fun v8 h8 =>
 cG v8 (
  aQq r n kk4 x0 x2 x3 h8) (
  eN r n x0 x2 x3 h8)
def iF (r : RT) (n : Nat) (m : Nat) : jN :=
 Nat.rec (motive := fun _ => jN) (fun _ _ _ _ => none) (fun _ ih => rG r n ih) m
def aFx (r : RT) (n : Nat) : jN := iF r n n
def aBa (r : RT) (n : Nat) (x0 x2 x3 : DV) (h0 : Hp) : aG :=
 aFx r n x0 x2 x3 h0
def aAd (r : RT) (n : Nat) (x0 x2 : DV) (h0 : Hp) : aG :=
 bnd (cW fP [(0, 1, (aJ 4))] h0) fun v1 h1 =>
 bnd (cK fP h1) fun v2 h2 =>
 bnd (aC 6 v2 v1 h2) fun _ h3 =>
  aBa r n x0 x2 v2 h3
def s152 (r : RT) (n : Nat) (x0 : DV) (h0 : Hp) : aG :=
 bnd (cK fP h0) fun v1 h1 =>
  aAd r n x0 v1 h1
abbrev c152 : Code := cf Tryz.f152
abbrev xF := cR c152
abbrev zC := cR xF
abbrev bMm := cR zC
abbrev xD := cL zC
abbrev wZ := cL xD
abbrev nH := cL wZ
abbrev aHf := cL xF
abbrev aIw := cL c152
abbrev r152 : K := bT CF Tryz.f152
def D152 (r : RT) (n : Nat) (c : Code) (X : Nat → K) (k : K) : K := aV CF r 48 n c X r152 k
theorem aYk : D152 r n bMm x0 r152 = (K3 (eN r n) 0 2 3) := by kernel_rfl
theorem aPw (kk4 : jN) : D152 r n nH (xs x0 0 (K3 (eN r n) 0 2 3)) (K3 kk4 0 2 3) = (K3 (rG r n kk4) 0 2 3) := by kernel_rfl
theorem aUs (m : Nat) : aP (fun kk => D152 r n nH (xs x0 0 (K3 (eN r n) 0 2 3)) kk) m = (K3 (iF r n m) 0 2 3) := by
 induction m with
 | zero => exact (by kernel_rfl : aP (fun kk => D152 r n nH (xs x0 0 (K3 (eN r n) 0 2 3)) kk) 0 = (K3 (iF r n 0) 0 2 3))
 | succ m ih =>
  refine (by kernel_rfl : aP (fun kk => D152 r n nH (xs x0 0 (K3 (eN r n) 0 2 3)) kk) (m + 1) = D152 r n nH (xs x0 0 (K3 (eN r n) 0 2 3)) (aP (fun kk => D152 r n nH (xs x0 0 (K3 (eN r n) 0 2 3)) kk) m)).trans ?_
  rw [ih]
  exact (aPw r n (iF r n m)).trans (by kernel_rfl)
theorem bAf : D152 r n wZ (xs x0 0 (K3 (eN r n) 0 2 3)) (K3 (eN r n) 0 2 3) = (K3 (aFx r n) 0 2 3) :=
 (by kernel_rfl : D152 r n wZ (xs x0 0 (K3 (eN r n) 0 2 3)) (K3 (eN r n) 0 2 3) = aP (fun kk => D152 r n nH (xs x0 0 (K3 (eN r n) 0 2 3)) kk) n).trans ((aUs r n n).trans (by kernel_rfl))
theorem aOu : D152 r n zC x0 r152 = D152 r n xD x0 (K3 (eN r n) 0 2 3) :=
 congrArg (fun k => D152 r n xD x0 k) (aYk r n)
theorem bDm : D152 r n zC x0 r152 = (K3 (aBa r n) 0 2 3) :=
 (aOu r n).trans
 ((by kernel_rfl : D152 r n xD x0 (K3 (eN r n) 0 2 3) = D152 r n wZ (xs x0 0 (K3 (eN r n) 0 2 3)) (K3 (eN r n) 0 2 3)).trans
 ((bAf r n).trans (by kernel_rfl)))
theorem aNt : D152 r n xF x0 r152 = D152 r n aHf x0 (K3 (aBa r n) 0 2 3) :=
 congrArg (fun k => D152 r n aHf x0 k) (bDm r n)
theorem aZm : D152 r n xF x0 r152 = (K2 (aAd r n) 0 2) :=
 (aNt r n).trans
 ((by kernel_rfl))
theorem bJf : D152 r n c152 x0 r152 = D152 r n aIw x0 (K2 (aAd r n) 0 2) :=
 congrArg (fun k => D152 r n aIw x0 k) (aZm r n)
theorem bPt : D152 r n c152 x0 r152 = (K1 (s152 r n) 0) :=
 (bJf r n).trans
 ((by kernel_rfl))
theorem bMv : aO CF r n 152 args h = s152 r n (bA args 0) h :=
 fL (bPt r n) args h (by kernel_rfl) (by kernel_rfl)
def s153 (r : RT) (n : Nat) (x0 : DV) (h0 : Hp) : aG :=
 bnd (cK fP h0) fun v1 h1 =>
 bnd (r 79 [x0] h1) fun v2 h2 =>
 bnd (cK fP h2) fun v3 h3 =>
 bnd (aC 6 v3 v2 h3) fun _ h4 =>
 bnd (r 51 [x0, (aJ 10), (.s [41])] h4) fun v5 h5 =>
 bnd (aD 6 v3 h5) fun v6 h6 =>
 bnd (aC 6 v1 v6 h6) fun _ h7 =>
 bnd (aD 6 v1 h7) fun v8 _ =>
 some (v8, h7)
abbrev c153 : Code := cf Tryz.f153
abbrev r153 : K := bT CF Tryz.f153
def D153 (r : RT) (n : Nat) (c : Code) (X : Nat → K) (k : K) : K := aV CF r 9 n c X r153 k
theorem bRr : D153 r n c153 x0 r153 = (K1 (s153 r n) 0) :=
 (by kernel_rfl)
theorem bMd : aO CF r n 153 args h = s153 r n (bA args 0) h :=
 fL (bRr r n) args h (by kernel_rfl) (by kernel_rfl)
def aAu (r : RT) (n : Nat) (x0 x2 x3 : DV) (h0 : Hp) : aG :=
 bnd (r 49 [x0] h0) fun v1 h1 =>
 bnd (aA 4 x3 h1) fun v2 h2 =>
 bnd (aC 1 v2 v1 h2) fun _ h3 =>
 bnd (r 50 [x0] h3) fun v4 h4 =>
 bnd (aA 5 x3 h4) fun v5 h5 =>
 bnd (aC 1 v5 v4 h5) fun _ h6 =>
 bnd (r 51 [x0, (aJ 10), (.s [93])] h6) fun v7 h7 =>
 bnd (aD 6 x3 h7) fun v8 h8 =>
 bnd (aC 6 x2 v8 h8) fun _ h9 =>
 bnd (aD 6 x2 h9) fun v10 _ =>
 some (v10, h9)
def eO (r : RT) (n : Nat) (x0 x2 x3 : DV) (h0 : Hp) : aG :=
 bnd (aA 3 x3 h0) fun v1 h1 =>
 bnd (aB v1 h1) fun v2 h2 =>
 bnd (hC v2 h2) fun v3 h3 =>
 bnd (aR .gtr v3 (aJ 0) h3) fun v4 h4 =>
 bnd (gD v4 true (some (x0, h4)) h4) fun v5 h5 =>
 bnd (gD v4 true (r 77 [v5, (aJ 10), (.s [93])] h5) h5) fun v6 h6 =>
 bnd (gD v4 true (tQ .not v6 h6) h6) fun v7 h7 =>
 bnd (cN v4 v7 (.b false) h7) fun v8 h8 =>
 cG v8 (
 bnd (r 51 [x0, (aJ 10), (.s [124])] h8) fun v9 h9 =>
  aAu r n x0 x2 x3 h9) (
  aAu r n x0 x2 x3 h8)
def qY (r : RT) (n : Nat) (kk5 : jN) (x0 x2 x3 : DV) (h0 : Hp) : aG :=
 bnd (r 77 [x0, (aJ 8), (.s [])] h0) fun v1 h1 =>
 cG v1 (
 bnd (aA 3 x3 (gI 1 h1)) fun v2 h2 =>
 bnd (aB v2 h2) fun v3 h3 =>
 bnd (aA 3 x3 h3) fun v4 h4 =>
 bnd (aB v4 h4) fun v5 h5 =>
 bnd (r 82 [x0, (aJ 8), v5] h5) fun v6 h6 =>
 cnd (bU (aB v2 h6) v3 && true) (
 bnd (aX (dC 0 h1.next) [(.s [])] 1 [(0, 1, v6)] h6) fun v7 h7 =>
 bnd (bH 1 16 v3 v7 h7) fun v8 h8 =>
 bnd (aA 3 x3 h8) fun v9 h9 =>
 bnd (aC 1 v9 v8 h9) fun v10 h10 =>
      kk5 x0 x2 x3 h10)) (
      eO r n x0 x2 x3 h1)
def kZ (r : RT) (n : Nat) (m : Nat) : jN :=
 Nat.rec (motive := fun _ => jN) (fun _ _ _ _ => none) (fun _ ih => qY r n ih) m
def aEv (r : RT) (n : Nat) : jN := kZ r n n
def xZ (r : RT) (n : Nat) (x0 x2 x3 : DV) (h0 : Hp) : aG :=
 aEv r n x0 x2 x3 h0
def yH (r : RT) (n : Nat) (x0 x2 : DV) (h0 : Hp) : aG :=
 bnd (cW fP [(0, 1, (aJ 9))] h0) fun v1 h1 =>
 bnd (cK fP h1) fun v2 h2 =>
 bnd (aC 6 v2 v1 h2) fun _ h3 =>
  xZ r n x0 x2 v2 h3
def s154 (r : RT) (n : Nat) (x0 : DV) (h0 : Hp) : aG :=
 bnd (cK fP h0) fun v1 h1 =>
  yH r n x0 v1 h1
abbrev c154 : Code := cf Tryz.f154
abbrev aAf := cR c154
abbrev xY := cR aAf
abbrev bNk := cR xY
abbrev aAl := cL xY
abbrev xA := cL aAl
abbrev mV := cL xA
abbrev aXg := cL aAf
abbrev aKv := cL c154
abbrev r154 : K := bT CF Tryz.f154
def D154 (r : RT) (n : Nat) (c : Code) (X : Nat → K) (k : K) : K := aV CF r 36 n c X r154 k
theorem bBo : D154 r n bNk x0 r154 = (K3 (eO r n) 0 2 3) := by kernel_rfl
theorem aTw (kk5 : jN) : D154 r n mV (xs x0 0 (K3 (eO r n) 0 2 3)) (K3 kk5 0 2 3) = (K3 (qY r n kk5) 0 2 3) := by kernel_rfl
theorem aNx (m : Nat) : aP (fun kk => D154 r n mV (xs x0 0 (K3 (eO r n) 0 2 3)) kk) m = (K3 (kZ r n m) 0 2 3) := by
 induction m with
 | zero => exact (by kernel_rfl : aP (fun kk => D154 r n mV (xs x0 0 (K3 (eO r n) 0 2 3)) kk) 0 = (K3 (kZ r n 0) 0 2 3))
 | succ m ih =>
  refine (by kernel_rfl : aP (fun kk => D154 r n mV (xs x0 0 (K3 (eO r n) 0 2 3)) kk) (m + 1) = D154 r n mV (xs x0 0 (K3 (eO r n) 0 2 3)) (aP (fun kk => D154 r n mV (xs x0 0 (K3 (eO r n) 0 2 3)) kk) m)).trans ?_
  rw [ih]
  exact (aTw r n (kZ r n m)).trans (by kernel_rfl)
theorem bEq : D154 r n xA (xs x0 0 (K3 (eO r n) 0 2 3)) (K3 (eO r n) 0 2 3) = (K3 (aEv r n) 0 2 3) :=
 (by kernel_rfl : D154 r n xA (xs x0 0 (K3 (eO r n) 0 2 3)) (K3 (eO r n) 0 2 3) = aP (fun kk => D154 r n mV (xs x0 0 (K3 (eO r n) 0 2 3)) kk) n).trans ((aNx r n n).trans (by kernel_rfl))
theorem aWv : D154 r n xY x0 r154 = D154 r n aAl x0 (K3 (eO r n) 0 2 3) :=
 congrArg (fun k => D154 r n aAl x0 k) (bBo r n)
theorem aXy : D154 r n xY x0 r154 = (K3 (xZ r n) 0 2 3) :=
 (aWv r n).trans
 ((by kernel_rfl : D154 r n aAl x0 (K3 (eO r n) 0 2 3) = D154 r n xA (xs x0 0 (K3 (eO r n) 0 2 3)) (K3 (eO r n) 0 2 3)).trans
 ((bEq r n).trans (by kernel_rfl)))
theorem aTi : D154 r n aAf x0 r154 = D154 r n aXg x0 (K3 (xZ r n) 0 2 3) :=
 congrArg (fun k => D154 r n aXg x0 k) (aXy r n)
theorem aXv : D154 r n aAf x0 r154 = (K2 (yH r n) 0 2) :=
 (aTi r n).trans
 ((by kernel_rfl))
theorem bNw : D154 r n c154 x0 r154 = D154 r n aKv x0 (K2 (yH r n) 0 2) :=
 congrArg (fun k => D154 r n aKv x0 k) (aXv r n)
theorem bOv : D154 r n c154 x0 r154 = (K1 (s154 r n) 0) :=
 (bNw r n).trans
 ((by kernel_rfl))
theorem bNb : aO CF r n 154 args h = s154 r n (bA args 0) h :=
 fL (bOv r n) args h (by kernel_rfl) (by kernel_rfl)
def s155 (r : RT) (n : Nat) (x0 : DV) (h0 : Hp) : aG :=
 bnd (pEq (.slice 25) true x0 .l0 h0) fun v1 h1 =>
 cG v1 (
 some (.l0, h1)) (
 bnd (aM [] 0 [] h1) fun v2 h2 =>
 bnd (bH 6 104 v2 x0 h2) fun v3 h3 =>
 some (v3, h3))
abbrev c155 : Code := cf Tryz.f155
abbrev r155 : K := bT CF Tryz.f155
def D155 (r : RT) (n : Nat) (c : Code) (X : Nat → K) (k : K) : K := aV CF r 8 n c X r155 k
theorem bQo : D155 r n c155 x0 r155 = (K1 (s155 r n) 0) :=
 (by kernel_rfl)
theorem bNl : aO CF r n 155 args h = s155 r n (bA args 0) h :=
 fL (bQo r n) args h (by kernel_rfl) (by kernel_rfl)
def s161 (r : RT) (n : Nat) (x0 : DV) (h0 : Hp) : aG :=
 bnd (r 81 [x0, (aJ 1)] h0) fun v1 h1 =>
 bnd (cK [(aJ 0), (.s []), (aJ 0), (aJ 0)] h1) fun v2 h2 =>
 bnd (aC 4 v2 v1 h2) fun _ h3 =>
 bnd (r 77 [x0, (aJ 3), (.s [45])] h3) fun v4 h4 =>
 bnd (gD v4 true (aA 0 v2 h4) h4) fun v5 h5 =>
 bnd (gD v4 true (aB v5 h5) h5) fun v6 h6 =>
 bnd (gD v4 true (aR .eql v6 (aJ 4) h6) h6) fun v7 h7 =>
 bnd (cN v4 v7 (.b false) h7) fun v8 h8 =>
 bnd (gD v8 true (aA 3 v2 h8) h8) fun v9 h9 =>
 bnd (gD v8 true (aB v9 h9) h9) fun v10 h10 =>
 bnd (gD v8 true (some (x0, h10)) h10) fun v11 h11 =>
 bnd (gD v8 true (r 81 [v11, (aJ 0)] h11) h11) fun v12 h12 =>
 cnd (bU (gD v8 true (aB v9 h12) h12) v10 && true) (
 bnd (gD v8 true (eH 3 v12 h12) h12) fun v13 h13 =>
 bnd (gD v8 true (aR .add v13 (aJ 1) h13) h13) fun v14 h14 =>
 bnd (gD v8 true (aR .eql v10 v14 h14) h14) fun v15 h15 =>
 bnd (cN v8 v15 (.b false) h15) fun v16 h16 =>
 some (v16, h16))
abbrev c161 : Code := cf Tryz.f161
abbrev r161 : K := bT CF Tryz.f161
def D161 (r : RT) (n : Nat) (c : Code) (X : Nat → K) (k : K) : K := aV CF r 22 n c X r161 k
theorem bQw : D161 r n c161 x0 r161 = (K1 (s161 r n) 0) :=
 (by kernel_rfl)
theorem bJy : aO CF r n 161 args h = s161 r n (bA args 0) h :=
 fL (bQw r n) args h (by kernel_rfl) (by kernel_rfl)
end
end Go.Dd

namespace Go.Dd
open Go.Proofs
noncomputable section
section
variable (ih : RT) (m : Nat) (f : FuncId) (args : List DV) (h : Hp)
theorem fN {i : Nat} {s r : aG} (e1 : s = aO CF ih m i args h) (e2 : r = aO CF ih m f args h) : (bif Nat.beq f i then s else r) = aO CF ih m f args h := by
 cases e : Nat.beq f i with
 | false => exact e2
 | true => cases Nat.eq_of_beq_eq_true e; exact e1
theorem ndC {i : Nat} {a b : aG} (e1 : a = aO CF ih m f args h) (e2 : b = aO CF ih m f args h) : (bif Nat.blt f i then a else b) = aO CF ih m f args h := by
 cases Nat.blt f i with
 | false => exact e2
 | true => exact e1
def qg0 : aG := bif Nat.beq f 8 then s8 ih m (bA args 0) h else bif Nat.beq f 11 then s11 ih m (bA args 0) h else bif Nat.beq f 13 then s13 ih m (bA args 0) h else bif Nat.beq f 14 then s14 ih m (bA args 0) h else bif Nat.beq f 17 then s17 ih m (bA args 0) h else bif Nat.beq f 19 then s19 ih m (bA args 0) h else bif Nat.beq f 20 then s20 ih m (bA args 0) h else bif Nat.beq f 21 then s21 ih m (bA args 0) h else aO CF ih m f args h
theorem bVa : qg0 ih m f args h = aO CF ih m f args h := fN ih m f args h (bOw ih m args h).symm (fN ih m f args h (bPm ih m args h).symm (fN ih m f args h (bRb ih m args h).symm (fN ih m f args h (bPl ih m args h).symm (fN ih m f args h (bPy ih m args h).symm (fN ih m f args h (bOr ih m args h).symm (fN ih m f args h (bRg ih m args h).symm (fN ih m f args h (bPs ih m args h).symm rfl)))))))
def qg1 : aG := bif Nat.beq f 22 then s22 ih m (bA args 0) (bA args 1) (bA args 2) (bA args 3) h else bif Nat.beq f 26 then s26 ih m (bA args 0) (bA args 1) h else bif Nat.beq f 27 then s27 ih m (bA args 0) h else bif Nat.beq f 29 then s29 ih m (bA args 0) h else bif Nat.beq f 31 then s31 ih m (bA args 0) (bA args 1) h else bif Nat.beq f 32 then s32 ih m (bA args 0) h else bif Nat.beq f 33 then s33 ih m (bA args 0) h else bif Nat.beq f 35 then s35 ih m (bA args 0) (bA args 1) (bA args 2) h else aO CF ih m f args h
theorem bUn : qg1 ih m f args h = aO CF ih m f args h := fN ih m f args h (bSm ih m args h).symm (fN ih m f args h (bPv ih m args h).symm (fN ih m f args h (bPn ih m args h).symm (fN ih m f args h (bPk ih m args h).symm (fN ih m f args h (bRm ih m args h).symm (fN ih m f args h (bOz ih m args h).symm (fN ih m f args h (bSn ih m args h).symm (fN ih m f args h (bRl ih m args h).symm rfl)))))))
def qg2 : aG := bif Nat.beq f 36 then s36 ih m (bA args 0) h else bif Nat.beq f 37 then s37 ih m (bA args 0) (bA args 1) h else bif Nat.beq f 48 then s48 ih m (bA args 0) h else bif Nat.beq f 49 then s49 ih m (bA args 0) h else bif Nat.beq f 50 then s50 ih m (bA args 0) h else bif Nat.beq f 51 then s51 ih m (bA args 0) (bA args 1) (bA args 2) h else bif Nat.beq f 52 then s52 ih m (bA args 0) (bA args 1) h else bif Nat.beq f 53 then s53 ih m (bA args 0) h else aO CF ih m f args h
theorem bUy : qg2 ih m f args h = aO CF ih m f args h := fN ih m f args h (bQj ih m args h).symm (fN ih m f args h (bOs ih m args h).symm (fN ih m f args h (bQp ih m args h).symm (fN ih m f args h (bQi ih m args h).symm (fN ih m f args h (bPg ih m args h).symm (fN ih m f args h (bPo ih m args h).symm (fN ih m f args h (bRt ih m args h).symm (fN ih m f args h (bQs ih m args h).symm rfl)))))))
def qg3 : aG := bif Nat.beq f 57 then s57 ih m (bA args 0) (bA args 1) h else bif Nat.beq f 58 then s58 ih m (bA args 0) (bA args 1) h else bif Nat.beq f 61 then s61 ih m (bA args 0) (bA args 1) h else bif Nat.beq f 62 then s62 ih m (bA args 0) h else bif Nat.beq f 63 then s63 ih m (bA args 0) (bA args 1) h else bif Nat.beq f 64 then s64 ih m (bA args 0) (bA args 1) (bA args 2) h else bif Nat.beq f 74 then s74 ih m (bA args 0) (bA args 1) (bA args 2) h else bif Nat.beq f 75 then s75 ih m (bA args 0) h else aO CF ih m f args h
theorem bSo : qg3 ih m f args h = aO CF ih m f args h := fN ih m f args h (bQn ih m args h).symm (fN ih m f args h (bRa ih m args h).symm (fN ih m f args h (bRq ih m args h).symm (fN ih m f args h (bQv ih m args h).symm (fN ih m f args h (bSj ih m args h).symm (fN ih m f args h (bPw ih m args h).symm (fN ih m f args h (bRk ih m args h).symm (fN ih m f args h (bRe ih m args h).symm rfl)))))))
def qg4 : aG := bif Nat.beq f 76 then s76 ih m (bA args 0) h else bif Nat.beq f 77 then s77 ih m (bA args 0) (bA args 1) (bA args 2) h else bif Nat.beq f 78 then s78 ih m (bA args 0) h else bif Nat.beq f 79 then s79 ih m (bA args 0) h else bif Nat.beq f 80 then s80 ih m (bA args 0) (bA args 1) (bA args 2) h else bif Nat.beq f 81 then s81 ih m (bA args 0) (bA args 1) h else bif Nat.beq f 82 then s82 ih m (bA args 0) (bA args 1) (bA args 2) h else bif Nat.beq f 85 then s85 ih m (bA args 0) (bA args 1) h else aO CF ih m f args h
theorem bTg : qg4 ih m f args h = aO CF ih m f args h := fN ih m f args h (bRs ih m args h).symm (fN ih m f args h (bOq ih m args h).symm (fN ih m f args h (bOy ih m args h).symm (fN ih m f args h (bSh ih m args h).symm (fN ih m f args h (bQe ih m args h).symm (fN ih m f args h (bRh ih m args h).symm (fN ih m f args h (bQy ih m args h).symm (fN ih m f args h (bPa ih m args h).symm rfl)))))))
def qg5 : aG := bif Nat.beq f 89 then s89 ih m (bA args 0) (bA args 1) (bA args 2) h else bif Nat.beq f 90 then s90 ih m (bA args 0) (bA args 1) h else bif Nat.beq f 91 then s91 ih m (bA args 0) h else bif Nat.beq f 105 then s105 ih m (bA args 0) (bA args 1) h else bif Nat.beq f 106 then s106 ih m (bA args 0) (bA args 1) h else bif Nat.beq f 107 then s107 ih m (bA args 0) h else bif Nat.beq f 108 then s108 ih m (bA args 0) h else bif Nat.beq f 109 then s109 ih m (bA args 0) h else aO CF ih m f args h
theorem bSz : qg5 ih m f args h = aO CF ih m f args h := fN ih m f args h (bQb ih m args h).symm (fN ih m f args h (bRd ih m args h).symm (fN ih m f args h (bRo ih m args h).symm (fN ih m f args h (bJm ih m args h).symm (fN ih m f args h (bNm ih m args h).symm (fN ih m f args h (bJa ih m args h).symm (fN ih m f args h (bLs ih m args h).symm (fN ih m f args h (bKy ih m args h).symm rfl)))))))
def qg6 : aG := bif Nat.beq f 110 then s110 ih m (bA args 0) h else bif Nat.beq f 111 then s111 ih m (bA args 0) h else bif Nat.beq f 112 then s112 ih m (bA args 0) h else bif Nat.beq f 113 then s113 ih m (bA args 0) h else bif Nat.beq f 114 then s114 ih m (bA args 0) h else bif Nat.beq f 126 then s126 ih m (bA args 0) h else bif Nat.beq f 132 then s132 ih m (bA args 0) h else bif Nat.beq f 133 then s133 ih m (bA args 0) h else aO CF ih m f args h
theorem bUm : qg6 ih m f args h = aO CF ih m f args h := fN ih m f args h (bOa ih m args h).symm (fN ih m f args h (bKn ih m args h).symm (fN ih m f args h (bLp ih m args h).symm (fN ih m f args h (bKc ih m args h).symm (fN ih m f args h (bIa ih m args h).symm (fN ih m f args h (bJk ih m args h).symm (fN ih m f args h (bLe ih m args h).symm (fN ih m f args h (bKh ih m args h).symm rfl)))))))
def qg7 : aG := bif Nat.beq f 134 then s134 ih m (bA args 0) (bA args 1) h else bif Nat.beq f 135 then s135 ih m (bA args 0) (bA args 1) h else bif Nat.beq f 136 then s136 ih m (bA args 0) (bA args 1) h else bif Nat.beq f 137 then s137 ih m (bA args 0) h else bif Nat.beq f 138 then s138 ih m (bA args 0) h else bif Nat.beq f 139 then s139 ih m (bA args 0) h else bif Nat.beq f 149 then s149 ih m (bA args 0) (bA args 1) h else bif Nat.beq f 150 then s150 ih m (bA args 0) h else aO CF ih m f args h
theorem bTo : qg7 ih m f args h = aO CF ih m f args h := fN ih m f args h (bLg ih m args h).symm (fN ih m f args h (bKu ih m args h).symm (fN ih m f args h (bNo ih m args h).symm (fN ih m f args h (bNi ih m args h).symm (fN ih m f args h (bJo ih m args h).symm (fN ih m f args h (bNu ih m args h).symm (fN ih m f args h (bLt ih m args h).symm (fN ih m f args h (bIh ih m args h).symm rfl)))))))
def qg8 : aG := bif Nat.beq f 151 then s151 ih m (bA args 0) (bA args 1) h else bif Nat.beq f 152 then s152 ih m (bA args 0) h else bif Nat.beq f 153 then s153 ih m (bA args 0) h else bif Nat.beq f 154 then s154 ih m (bA args 0) h else bif Nat.beq f 155 then s155 ih m (bA args 0) h else bif Nat.beq f 161 then s161 ih m (bA args 0) h else aO CF ih m f args h
theorem bTc : qg8 ih m f args h = aO CF ih m f args h := fN ih m f args h (bLf ih m args h).symm (fN ih m f args h (bMv ih m args h).symm (fN ih m f args h (bMd ih m args h).symm (fN ih m f args h (bNb ih m args h).symm (fN ih m f args h (bNl ih m args h).symm (fN ih m f args h (bJy ih m args h).symm rfl)))))
def qd0 : aG := bif Nat.blt f 22 then qg0 ih m f args h else qg1 ih m f args h
theorem bUu : qd0 ih m f args h = aO CF ih m f args h := ndC ih m f args h (bVa ih m f args h) (bUn ih m f args h)
def qd1 : aG := bif Nat.blt f 57 then qg2 ih m f args h else qg3 ih m f args h
theorem bTx : qd1 ih m f args h = aO CF ih m f args h := ndC ih m f args h (bUy ih m f args h) (bSo ih m f args h)
def qd2 : aG := bif Nat.blt f 36 then qd0 ih m f args h else qd1 ih m f args h
theorem bSp : qd2 ih m f args h = aO CF ih m f args h := ndC ih m f args h (bUu ih m f args h) (bTx ih m f args h)
def qd3 : aG := bif Nat.blt f 89 then qg4 ih m f args h else qg5 ih m f args h
theorem bTt : qd3 ih m f args h = aO CF ih m f args h := ndC ih m f args h (bTg ih m f args h) (bSz ih m f args h)
def qd4 : aG := bif Nat.blt f 151 then qg7 ih m f args h else qg8 ih m f args h
theorem bVc : qd4 ih m f args h = aO CF ih m f args h := ndC ih m f args h (bTo ih m f args h) (bTc ih m f args h)
def qd5 : aG := bif Nat.blt f 134 then qg6 ih m f args h else qd4 ih m f args h
theorem bSt : qd5 ih m f args h = aO CF ih m f args h := ndC ih m f args h (bUm ih m f args h) (bVc ih m f args h)
def qd6 : aG := bif Nat.blt f 110 then qd3 ih m f args h else qd5 ih m f args h
theorem bTn : qd6 ih m f args h = aO CF ih m f args h := ndC ih m f args h (bTt ih m f args h) (bSt ih m f args h)
def qd7 : aG := bif Nat.blt f 76 then qd2 ih m f args h else qd6 ih m f args h
theorem bVb : qd7 ih m f args h = aO CF ih m f args h := ndC ih m f args h (bSp ih m f args h) (bTn ih m f args h)
end
def shB (ih : RT) (m : Nat) (f : FuncId) (args : List DV) (h : Hp) : aG := qd7 ih m f args h
theorem bOc (ih : RT) (m : Nat) (f : FuncId) (args : List DV) (h : Hp) : shB ih m f args h = aO CF ih m f args h := bVb ih m f args h
def aK (n : Nat) : FuncId → List DV → Hp → aG :=
 Nat.rec (motive := fun _ => FuncId → List DV → Hp → aG) (fun _ _ _ => none) (fun m ih => shB ih m) n
theorem aEs : ∀ n, aK n = fnD CF n
 | 0 => rfl
 | n + 1 => by
  have e : aK (n + 1) = shB (aK n) n := rfl
  have e' : fnD CF (n + 1) = aO CF (fnD CF n) n := rfl
  rw [e, e', ← aEs n]
  funext f args h
  exact bOc _ _ _ _ _
end
end Go.Dd

namespace Go.Proofs
open Go.Shelf
def Tryz.lays156_ren : Go.Shelf.Ren := ⟨fun | 156 => 30 | 165 => 54 | 166 => 55 | 169 => 56 | 240 => 83 | 241 => 84 | 276 => 115 | 277 => 116 | n => n, fun | 31 => 22 | 9 => 9 | 3 => 3 | 4 => 4 | 0 => 0 | 20 => 20 | 72 => 73 | 76 => 77 | 70 => 70 | 37 => 71 | 75 => 76 | 127 => 104 | 164 => 118 | 5 => 5 | 80 => 79 | n => n, fun | n => n⟩
theorem Tryz.lays156 : Go.Proofs.Lays.n156 Tryz.prog Tryz.lays156_ren := {
 mixed := by kernel_rfl
 f156 := Tryz.func30.trans (congrArg some (by kernel_rfl))
 f165 := Tryz.func54.trans (congrArg some (by kernel_rfl))
 f166 := Tryz.func55.trans (congrArg some (by kernel_rfl))
 f169 := Tryz.func56.trans (congrArg some (by kernel_rfl))
 f240 := Tryz.func83.trans (congrArg some (by kernel_rfl))
 f241 := Tryz.func84.trans (congrArg some (by kernel_rfl))
 f276 := Tryz.func115.trans (congrArg some (by kernel_rfl))
 f277 := Tryz.func116.trans (congrArg some (by kernel_rfl))
 t0 := Tryz.underlying0
 a0 := Tryz.isAgg0
 z0 := Tryz.sizeOf0
 v0 := Tryz.zeroValue0
 t3 := Tryz.underlying3
 a3 := Tryz.isAgg3
 z3 := Tryz.sizeOf3
 v3 := Tryz.zeroValue3
 t4 := Tryz.underlying4
 a4 := Tryz.isAgg4
 z4 := Tryz.sizeOf4
 v4 := Tryz.zeroValue4
 t9 := Tryz.underlying9
 a9 := Tryz.isAgg9
 z9 := Tryz.sizeOf9
 v9 := Tryz.zeroValue9
 t20 := Tryz.underlying20
 a20 := Tryz.isAgg20
 z20 := Tryz.sizeOf20
 v20 := Tryz.zeroValue20
 t31 := Tryz.underlying22
 a31 := Tryz.isAgg22
 z31 := Tryz.sizeOf22
 v31 := Tryz.zeroValue22
 t37 := Tryz.underlying71
 a37 := Tryz.isAgg71
 z37 := Tryz.sizeOf71
 v37 := Tryz.zeroValue71
 t70 := Tryz.underlying70
 a70 := Tryz.isAgg70
 z70 := Tryz.sizeOf70
 v70 := Tryz.zeroValue70
 t72 := Tryz.underlying73
 a72 := Tryz.isAgg73
 z72 := Tryz.sizeOf73
 v72 := Tryz.zeroValue73
 t75 := Tryz.underlying76
 a75 := Tryz.isAgg76
 z75 := Tryz.sizeOf76
 v75 := Tryz.zeroValue76
 t76 := Tryz.underlying77
 a76 := Tryz.isAgg77
 z76 := Tryz.sizeOf77
 v76 := Tryz.zeroValue77
 t127 := Tryz.underlying104
 a127 := Tryz.isAgg104
 z127 := Tryz.sizeOf104
 v127 := Tryz.zeroValue104
 t164 := Tryz.underlying118
 a164 := Tryz.isAgg118
 z164 := Tryz.sizeOf118
 v164 := Tryz.zeroValue118 }
theorem Tryz.Builder_Extra_156 : Builder.Extra Tryz.prog Tryz.lays156_ren := {
 sizeBuilder := by kernel_rfl
 liesBuilder := by kernel_rfl
 t5 := Tryz.underlying5
 a5 := Tryz.isAgg5
 z5 := Tryz.sizeOf5
 v5 := Tryz.zeroValue5
 infoByte := by kernel_rfl
 cellsByte := by kernel_rfl
 sizeByte := by kernel_rfl
 neB5 := by decide }
open Go.RowKit in
theorem Tryz.strings_Join_none (a : Option Addr) (c : Nat) (sep : ByteArray) (w : World) :
 Calls Tryz.prog 30 #[.slice a 0 c, .string sep] w fun e w' => e = .returned (.string ⟨#[]⟩) ∧ w' = w := Any.strings_Join_none Tryz.lays156 Tryz.Builder_Extra_156 a c sep w
open Go.RowKit in
theorem Tryz.strings_Join (bk o c : Nat) (xs : List ByteArray) (sep : ByteArray) (w : World) (hcells : ∀ (j : Nat) x, xs[j]? = some x → w.cell? ⟨bk, o + j, none⟩ = some (.string x)) (hbk : bk < w.heap.size) (hN : xs.length ≤ 140737488355328) (hcap : xs.length ≤ c) (hlen : (Lib.join (xs.map (·.data.toList)) sep.data.toList).length ≤ 140737488355328) :
 Calls Tryz.prog 30 #[.slice (some ⟨bk, o, none⟩) xs.length c, .string sep] w fun e w' => e = .returned (.string ⟨(Lib.join (xs.map (·.data.toList)) sep.data.toList).toArray⟩) ∧ Below w.heap.size w w' := Any.strings_Join Tryz.lays156 Tryz.Builder_Extra_156 bk o c xs sep w hcells hbk hN hcap hlen
def Tryz.laysM246_ren : Go.Shelf.Ren := ⟨fun | 246 => 87 | 283 => 121 | 284 => 122 | 285 => 123 | 286 => 124 | 129 => 144 | 317 => 143 | 318 => 145 | 319 => 146 | 320 => 147 | 337 => 159 | 338 => 160 | n => n, fun | 2 => 2 | 3 => 3 | 9 => 9 | 4 => 4 | 171 => 123 | 0 => 0 | 53 => 124 | 37 => 71 | 5 => 5 | 173 => 127 | 212 => 136 | 51 => 137 | 20 => 20 | 213 => 138 | 46 => 140 | 232 => 152 | 233 => 153 | n => n, fun | 17 => 1 | 18 => 4 | 19 => 5 | n => n⟩
def Tryz.laysM243_ren : Go.Shelf.Ren := ⟨fun | 243 => 59 | 246 => 87 | 283 => 121 | 284 => 122 | 285 => 123 | 286 => 124 | 129 => 144 | 317 => 143 | 318 => 145 | 319 => 146 | 320 => 147 | 337 => 159 | 338 => 160 | n => n, fun | 3 => 3 | 9 => 9 | 2 => 2 | 4 => 4 | 171 => 123 | 0 => 0 | 53 => 124 | 37 => 71 | 5 => 5 | 173 => 127 | 212 => 136 | 51 => 137 | 20 => 20 | 213 => 138 | 46 => 140 | 232 => 152 | 233 => 153 | n => n, fun | 17 => 1 | 18 => 4 | 19 => 5 | n => n⟩
def Tryz.laysM171_ren : Go.Shelf.Ren := ⟨fun | 171 => 34 | 243 => 59 | 246 => 87 | 283 => 121 | 284 => 122 | 285 => 123 | 286 => 124 | 129 => 144 | 317 => 143 | 318 => 145 | 319 => 146 | 320 => 147 | 337 => 159 | 338 => 160 | n => n, fun | 3 => 3 | 9 => 9 | 2 => 2 | 4 => 4 | 171 => 123 | 0 => 0 | 53 => 124 | 37 => 71 | 5 => 5 | 173 => 127 | 212 => 136 | 51 => 137 | 20 => 20 | 213 => 138 | 46 => 140 | 232 => 152 | 233 => 153 | n => n, fun | 17 => 1 | 18 => 4 | 19 => 5 | n => n⟩
theorem Tryz.laysM171 : Go.Proofs.LaysM.n171 Tryz.prog Tryz.laysM171_ren := {
 mixed := by kernel_rfl
 f129 := Tryz.func144.trans (congrArg some (by kernel_rfl))
 f171 := Tryz.func34.trans (congrArg some (by kernel_rfl))
 f243 := Tryz.func59.trans (congrArg some (by kernel_rfl))
 f246 := Tryz.func87.trans (congrArg some (by kernel_rfl))
 f283 := Tryz.func121.trans (congrArg some (by kernel_rfl))
 f284 := Tryz.func122.trans (congrArg some (by kernel_rfl))
 f285 := Tryz.func123.trans (congrArg some (by kernel_rfl))
 f286 := Tryz.func124.trans (congrArg some (by kernel_rfl))
 f317 := Tryz.func143.trans (congrArg some (by kernel_rfl))
 f318 := Tryz.func145.trans (congrArg some (by kernel_rfl))
 f319 := Tryz.func146.trans (congrArg some (by kernel_rfl))
 f320 := Tryz.func147.trans (congrArg some (by kernel_rfl))
 f337 := Tryz.func159.trans (congrArg some (by kernel_rfl))
 f338 := Tryz.func160.trans (congrArg some (by kernel_rfl))
 t0 := Tryz.underlying0
 a0 := Tryz.isAgg0
 z0 := Tryz.sizeOf0
 v0 := Tryz.zeroValue0
 t2 := Tryz.underlying2
 a2 := Tryz.isAgg2
 z2 := Tryz.sizeOf2
 v2 := Tryz.zeroValue2
 t3 := Tryz.underlying3
 a3 := Tryz.isAgg3
 z3 := Tryz.sizeOf3
 v3 := Tryz.zeroValue3
 t4 := Tryz.underlying4
 a4 := Tryz.isAgg4
 z4 := Tryz.sizeOf4
 v4 := Tryz.zeroValue4
 t5 := Tryz.underlying5
 a5 := Tryz.isAgg5
 z5 := Tryz.sizeOf5
 v5 := Tryz.zeroValue5
 t9 := Tryz.underlying9
 a9 := Tryz.isAgg9
 z9 := Tryz.sizeOf9
 v9 := Tryz.zeroValue9
 t20 := Tryz.underlying20
 a20 := Tryz.isAgg20
 z20 := Tryz.sizeOf20
 v20 := Tryz.zeroValue20
 t37 := Tryz.underlying71
 a37 := Tryz.isAgg71
 z37 := Tryz.sizeOf71
 v37 := Tryz.zeroValue71
 t46 := Tryz.underlying140
 a46 := Tryz.isAgg140
 z46 := Tryz.sizeOf140
 v46 := Tryz.zeroValue140
 t51 := Tryz.underlying137
 a51 := Tryz.isAgg137
 z51 := Tryz.sizeOf137
 v51 := Tryz.zeroValue137
 t53 := Tryz.underlying124
 a53 := Tryz.isAgg124
 z53 := Tryz.sizeOf124
 v53 := Tryz.zeroValue124
 t171 := Tryz.underlying123
 a171 := Tryz.isAgg123
 z171 := Tryz.sizeOf123
 v171 := Tryz.zeroValue123
 t173 := Tryz.underlying127
 a173 := Tryz.isAgg127
 z173 := Tryz.sizeOf127
 v173 := Tryz.zeroValue127
 t212 := Tryz.underlying136
 a212 := Tryz.isAgg136
 z212 := Tryz.sizeOf136
 v212 := Tryz.zeroValue136
 t213 := Tryz.underlying138
 a213 := Tryz.isAgg138
 z213 := Tryz.sizeOf138
 t232 := Tryz.underlying152
 a232 := Tryz.isAgg152
 z232 := Tryz.sizeOf152
 v232 := Tryz.zeroValue152
 t233 := Tryz.underlying153
 a233 := Tryz.isAgg153
 z233 := Tryz.sizeOf153
 v233 := Tryz.zeroValue153
 g17 := by kernel_rfl
 g18 := by kernel_rfl
 g19 := by kernel_rfl
 i0 := by kernel_rfl
 i2 := by kernel_rfl
 i3 := by kernel_rfl
 i4 := by kernel_rfl
 i5 := by kernel_rfl
 i9 := by kernel_rfl
 i20 := by kernel_rfl
 i37 := by kernel_rfl
 i46 := by kernel_rfl
 i51 := by kernel_rfl
 i53 := by kernel_rfl
 i171 := by kernel_rfl
 i173 := by kernel_rfl
 i212 := by kernel_rfl
 i232 := by kernel_rfl
 i233 := by kernel_rfl
 m17 := by kernel_rfl
 m18 := by kernel_rfl
 m19 := by kernel_rfl }
open Go.RowKit Go.Sort Go.Lib in
theorem Tryz.strconv_Itoa (n : Int) (h0 : -9223372036854775808 ≤ n) (h1 : n ≤ 9223372036854775807) (w : World) (htab : Lib.TabIs Tryz.prog w "internal/strconv.uint64pow10" .u64 Lib.pow10Tab) :
 Calls Tryz.prog 34 #[.int .i64 n] w fun e w' => e = .returned (.string ⟨(Lib.itoa n).toArray⟩) ∧ ∃ k os, w' = grow (w.drewN k) os := Any.strconv_Itoa Tryz.laysM171 n h0 h1 w htab
def Tryz.lays219_ren : Go.Shelf.Ren := ⟨fun | 219 => 142 | 217 => 85 | 225 => 156 | 224 => 157 | 267 => 158 | 266 => 117 | 314 => 162 | n => n, fun | 9 => 9 | 3 => 3 | 4 => 4 | 5 => 5 | 46 => 140 | 146 => 150 | 51 => 137 | n => n, fun | 1 => 0 | n => n⟩
def Tryz.lays143_ren : Go.Shelf.Ren := ⟨fun | 143 => 120 | 219 => 142 | 217 => 85 | 225 => 156 | 224 => 157 | 267 => 158 | 266 => 117 | 314 => 162 | n => n, fun | 9 => 9 | 3 => 3 | 4 => 4 | 5 => 5 | 46 => 140 | 146 => 150 | 51 => 137 | n => n, fun | 1 => 0 | n => n⟩
def Tryz.laysM143_ren : Go.Shelf.Ren := ⟨fun | 143 => 120 | 219 => 142 | 217 => 85 | 225 => 156 | 224 => 157 | 267 => 158 | 266 => 117 | 314 => 162 | n => n, fun | 9 => 9 | 3 => 3 | 4 => 4 | 5 => 5 | 46 => 140 | 146 => 150 | 51 => 137 | n => n, fun | 1 => 0 | n => n⟩
theorem Tryz.laysM143 : Go.Proofs.LaysM.n143 Tryz.prog Tryz.laysM143_ren := {
 mixed := by kernel_rfl
 f143 := Tryz.func120.trans (congrArg some (by kernel_rfl))
 f217 := Tryz.func85.trans (congrArg some (by kernel_rfl))
 f219 := Tryz.func142.trans (congrArg some (by kernel_rfl))
 f224 := Tryz.func157.trans (congrArg some (by kernel_rfl))
 f225 := Tryz.func156.trans (congrArg some (by kernel_rfl))
 f266 := Tryz.func117.trans (congrArg some (by kernel_rfl))
 f267 := Tryz.func158.trans (congrArg some (by kernel_rfl))
 f314 := Tryz.func162.trans (congrArg some (by kernel_rfl))
 t3 := Tryz.underlying3
 a3 := Tryz.isAgg3
 z3 := Tryz.sizeOf3
 v3 := Tryz.zeroValue3
 t4 := Tryz.underlying4
 a4 := Tryz.isAgg4
 z4 := Tryz.sizeOf4
 v4 := Tryz.zeroValue4
 t5 := Tryz.underlying5
 a5 := Tryz.isAgg5
 z5 := Tryz.sizeOf5
 v5 := Tryz.zeroValue5
 t9 := Tryz.underlying9
 a9 := Tryz.isAgg9
 z9 := Tryz.sizeOf9
 v9 := Tryz.zeroValue9
 t46 := Tryz.underlying140
 a46 := Tryz.isAgg140
 z46 := Tryz.sizeOf140
 v46 := Tryz.zeroValue140
 t51 := Tryz.underlying137
 a51 := Tryz.isAgg137
 z51 := Tryz.sizeOf137
 v51 := Tryz.zeroValue137
 t146 := Tryz.underlying150
 a146 := Tryz.isAgg150
 z146 := Tryz.sizeOf150
 v146 := Tryz.zeroValue150
 g1 := by kernel_rfl
 i3 := by kernel_rfl
 i4 := by kernel_rfl
 i5 := by kernel_rfl
 i9 := by kernel_rfl
 i46 := by kernel_rfl
 i51 := by kernel_rfl
 i146 := by kernel_rfl
 m1 := by kernel_rfl
 s1_3 := fun w h => Go.Proofs.cell_of_shapedOpen_int (zero := #[.int .i64 0]) (t := 3) h (of_decide_eq_true (by kernel_rfl)) (by kernel_rfl) rfl (by kernel_rfl) (by kernel_rfl) Tryz.underlying3 }
def Tryz.lays221_ren : Go.Shelf.Ren := ⟨fun | 221 => 86 | 268 => 118 | 138 => 119 | 143 => 120 | 195 => 140 | 197 => 125 | 218 => 141 | 219 => 142 | 260 => 148 | 217 => 85 | 225 => 156 | 224 => 157 | 267 => 158 | 266 => 117 | 314 => 162 | n => n, fun | 9 => 9 | 3 => 3 | 31 => 22 | 4 => 4 | 0 => 0 | 105 => 129 | 21 => 21 | 5 => 5 | 46 => 140 | 119 => 146 | 139 => 149 | 138 => 148 | 146 => 150 | 51 => 137 | n => n, fun | 1 => 0 | 3 => 2 | 4 => 3 | n => n⟩
theorem Tryz.lays221 : Go.Proofs.Lays.n221 Tryz.prog Tryz.lays221_ren := {
 mixed := by kernel_rfl
 f138 := Tryz.func119.trans (congrArg some (by kernel_rfl))
 f143 := Tryz.func120.trans (congrArg some (by kernel_rfl))
 f195 := Tryz.func140.trans (congrArg some (by kernel_rfl))
 f197 := Tryz.func125.trans (congrArg some (by kernel_rfl))
 f217 := Tryz.func85.trans (congrArg some (by kernel_rfl))
 f218 := Tryz.func141.trans (congrArg some (by kernel_rfl))
 f219 := Tryz.func142.trans (congrArg some (by kernel_rfl))
 f221 := Tryz.func86.trans (congrArg some (by kernel_rfl))
 f224 := Tryz.func157.trans (congrArg some (by kernel_rfl))
 f225 := Tryz.func156.trans (congrArg some (by kernel_rfl))
 f260 := Tryz.func148.trans (congrArg some (by kernel_rfl))
 f266 := Tryz.func117.trans (congrArg some (by kernel_rfl))
 f267 := Tryz.func158.trans (congrArg some (by kernel_rfl))
 f268 := Tryz.func118.trans (congrArg some (by kernel_rfl))
 f314 := Tryz.func162.trans (congrArg some (by kernel_rfl))
 t0 := Tryz.underlying0
 a0 := Tryz.isAgg0
 z0 := Tryz.sizeOf0
 v0 := Tryz.zeroValue0
 t3 := Tryz.underlying3
 a3 := Tryz.isAgg3
 z3 := Tryz.sizeOf3
 v3 := Tryz.zeroValue3
 t4 := Tryz.underlying4
 a4 := Tryz.isAgg4
 z4 := Tryz.sizeOf4
 v4 := Tryz.zeroValue4
 t5 := Tryz.underlying5
 a5 := Tryz.isAgg5
 z5 := Tryz.sizeOf5
 v5 := Tryz.zeroValue5
 t9 := Tryz.underlying9
 a9 := Tryz.isAgg9
 z9 := Tryz.sizeOf9
 v9 := Tryz.zeroValue9
 t21 := Tryz.underlying21
 a21 := Tryz.isAgg21
 z21 := Tryz.sizeOf21
 v21 := Tryz.zeroValue21
 t31 := Tryz.underlying22
 a31 := Tryz.isAgg22
 z31 := Tryz.sizeOf22
 v31 := Tryz.zeroValue22
 t46 := Tryz.underlying140
 a46 := Tryz.isAgg140
 z46 := Tryz.sizeOf140
 v46 := Tryz.zeroValue140
 t51 := Tryz.underlying137
 a51 := Tryz.isAgg137
 z51 := Tryz.sizeOf137
 v51 := Tryz.zeroValue137
 t105 := Tryz.underlying129
 a105 := Tryz.isAgg129
 z105 := Tryz.sizeOf129
 v105 := Tryz.zeroValue129
 t119 := Tryz.underlying146
 a119 := Tryz.isAgg146
 z119 := Tryz.sizeOf146
 t138 := Tryz.underlying148
 a138 := Tryz.isAgg148
 z138 := Tryz.sizeOf148
 v138 := Tryz.zeroValue148
 t139 := Tryz.underlying149
 a139 := Tryz.isAgg149
 z139 := Tryz.sizeOf149
 v139 := Tryz.zeroValue149
 t146 := Tryz.underlying150
 a146 := Tryz.isAgg150
 z146 := Tryz.sizeOf150
 v146 := Tryz.zeroValue150
 g1 := by kernel_rfl
 g3 := by kernel_rfl
 g4 := by kernel_rfl }
open Go.RowKit Go.Lib in
theorem Tryz.strings_genSplit (s sep : ByteArray) (sv : Nat) (n : Int) (N : Nat) (m : Int) (w : World) (hs : s.size < 4294967281) (hm : w.cell? ⟨0, 0, none⟩ = some (.int .i64 m)) (h1 : 1 ≤ sep.size) (hsv : sv ≤ sep.size) (hn0 : n ≠ 0) (hn63 : n ≤ 9223372036854775807) (hN : (N : Int) = min (if n < 0 then (Lib.countB s sep : Int) + 1 else n) ((s.size : Int) + 1)) :
 Calls Tryz.prog 86 #[.string s, .string sep, .int .i64 sv, .int .i64 n] w fun e w' =>
  e = .returned (.slice (some ⟨w.heap.size, 0, none⟩) (Lib.splitB sep sv (N - 1) s).length N) ∧ w' = w.alloc (.cells (Lib.cellsOf (Lib.splitB sep sv (N - 1) s) N) 9) := Any.strings_genSplit Tryz.lays221 (by kernel_rfl) s sep sv n N m w hs hm h1 hsv hn0 hn63 hN
def Tryz.lays154_ren : Go.Shelf.Ren := ⟨fun | 154 => 88 | 138 => 119 | 165 => 54 | 143 => 120 | 166 => 55 | 197 => 125 | 169 => 56 | 195 => 140 | 218 => 141 | 240 => 83 | 241 => 84 | 219 => 142 | 260 => 148 | 276 => 115 | 277 => 116 | 217 => 85 | 225 => 156 | 224 => 157 | 267 => 158 | 266 => 117 | 314 => 162 | n => n, fun | 9 => 9 | 3 => 3 | 4 => 4 | 72 => 73 | 0 => 0 | 76 => 77 | 105 => 129 | 21 => 21 | 5 => 5 | 70 => 70 | 20 => 20 | 37 => 71 | 75 => 76 | 127 => 104 | 164 => 118 | 46 => 140 | 119 => 146 | 139 => 149 | 138 => 148 | 146 => 150 | 51 => 137 | 80 => 79 | n => n, fun | 1 => 0 | 3 => 2 | 4 => 3 | n => n⟩
def Tryz.lays155_ren : Go.Shelf.Ren := ⟨fun | 155 => 60 | 154 => 88 | 138 => 119 | 165 => 54 | 143 => 120 | 166 => 55 | 197 => 125 | 169 => 56 | 195 => 140 | 218 => 141 | 240 => 83 | 241 => 84 | 219 => 142 | 260 => 148 | 276 => 115 | 277 => 116 | 217 => 85 | 225 => 156 | 224 => 157 | 267 => 158 | 266 => 117 | 314 => 162 | n => n, fun | 9 => 9 | 3 => 3 | 4 => 4 | 72 => 73 | 0 => 0 | 76 => 77 | 105 => 129 | 21 => 21 | 5 => 5 | 70 => 70 | 20 => 20 | 37 => 71 | 75 => 76 | 127 => 104 | 164 => 118 | 46 => 140 | 119 => 146 | 139 => 149 | 138 => 148 | 146 => 150 | 51 => 137 | 80 => 79 | n => n, fun | 1 => 0 | 3 => 2 | 4 => 3 | n => n⟩
theorem Tryz.lays155 : Go.Proofs.Lays.n155 Tryz.prog Tryz.lays155_ren := {
 mixed := by kernel_rfl
 f138 := Tryz.func119.trans (congrArg some (by kernel_rfl))
 f143 := Tryz.func120.trans (congrArg some (by kernel_rfl))
 f154 := Tryz.func88.trans (congrArg some (by kernel_rfl))
 f155 := Tryz.func60.trans (congrArg some (by kernel_rfl))
 f165 := Tryz.func54.trans (congrArg some (by kernel_rfl))
 f166 := Tryz.func55.trans (congrArg some (by kernel_rfl))
 f169 := Tryz.func56.trans (congrArg some (by kernel_rfl))
 f195 := Tryz.func140.trans (congrArg some (by kernel_rfl))
 f197 := Tryz.func125.trans (congrArg some (by kernel_rfl))
 f217 := Tryz.func85.trans (congrArg some (by kernel_rfl))
 f218 := Tryz.func141.trans (congrArg some (by kernel_rfl))
 f219 := Tryz.func142.trans (congrArg some (by kernel_rfl))
 f224 := Tryz.func157.trans (congrArg some (by kernel_rfl))
 f225 := Tryz.func156.trans (congrArg some (by kernel_rfl))
 f240 := Tryz.func83.trans (congrArg some (by kernel_rfl))
 f241 := Tryz.func84.trans (congrArg some (by kernel_rfl))
 f260 := Tryz.func148.trans (congrArg some (by kernel_rfl))
 f266 := Tryz.func117.trans (congrArg some (by kernel_rfl))
 f267 := Tryz.func158.trans (congrArg some (by kernel_rfl))
 f276 := Tryz.func115.trans (congrArg some (by kernel_rfl))
 f277 := Tryz.func116.trans (congrArg some (by kernel_rfl))
 f314 := Tryz.func162.trans (congrArg some (by kernel_rfl))
 t0 := Tryz.underlying0
 a0 := Tryz.isAgg0
 z0 := Tryz.sizeOf0
 v0 := Tryz.zeroValue0
 t3 := Tryz.underlying3
 a3 := Tryz.isAgg3
 z3 := Tryz.sizeOf3
 v3 := Tryz.zeroValue3
 t4 := Tryz.underlying4
 a4 := Tryz.isAgg4
 z4 := Tryz.sizeOf4
 v4 := Tryz.zeroValue4
 t5 := Tryz.underlying5
 a5 := Tryz.isAgg5
 z5 := Tryz.sizeOf5
 v5 := Tryz.zeroValue5
 t9 := Tryz.underlying9
 a9 := Tryz.isAgg9
 z9 := Tryz.sizeOf9
 v9 := Tryz.zeroValue9
 t20 := Tryz.underlying20
 a20 := Tryz.isAgg20
 z20 := Tryz.sizeOf20
 v20 := Tryz.zeroValue20
 t21 := Tryz.underlying21
 a21 := Tryz.isAgg21
 z21 := Tryz.sizeOf21
 v21 := Tryz.zeroValue21
 t37 := Tryz.underlying71
 a37 := Tryz.isAgg71
 z37 := Tryz.sizeOf71
 v37 := Tryz.zeroValue71
 t46 := Tryz.underlying140
 a46 := Tryz.isAgg140
 z46 := Tryz.sizeOf140
 v46 := Tryz.zeroValue140
 t51 := Tryz.underlying137
 a51 := Tryz.isAgg137
 z51 := Tryz.sizeOf137
 v51 := Tryz.zeroValue137
 t70 := Tryz.underlying70
 a70 := Tryz.isAgg70
 z70 := Tryz.sizeOf70
 v70 := Tryz.zeroValue70
 t72 := Tryz.underlying73
 a72 := Tryz.isAgg73
 z72 := Tryz.sizeOf73
 v72 := Tryz.zeroValue73
 t75 := Tryz.underlying76
 a75 := Tryz.isAgg76
 z75 := Tryz.sizeOf76
 v75 := Tryz.zeroValue76
 t76 := Tryz.underlying77
 a76 := Tryz.isAgg77
 z76 := Tryz.sizeOf77
 v76 := Tryz.zeroValue77
 t105 := Tryz.underlying129
 a105 := Tryz.isAgg129
 z105 := Tryz.sizeOf129
 v105 := Tryz.zeroValue129
 t119 := Tryz.underlying146
 a119 := Tryz.isAgg146
 z119 := Tryz.sizeOf146
 t127 := Tryz.underlying104
 a127 := Tryz.isAgg104
 z127 := Tryz.sizeOf104
 v127 := Tryz.zeroValue104
 t138 := Tryz.underlying148
 a138 := Tryz.isAgg148
 z138 := Tryz.sizeOf148
 v138 := Tryz.zeroValue148
 t139 := Tryz.underlying149
 a139 := Tryz.isAgg149
 z139 := Tryz.sizeOf149
 v139 := Tryz.zeroValue149
 t146 := Tryz.underlying150
 a146 := Tryz.isAgg150
 z146 := Tryz.sizeOf150
 v146 := Tryz.zeroValue150
 t164 := Tryz.underlying118
 a164 := Tryz.isAgg118
 z164 := Tryz.sizeOf118
 v164 := Tryz.zeroValue118
 g1 := by kernel_rfl
 g3 := by kernel_rfl
 g4 := by kernel_rfl }
theorem Tryz.Builder_Extra_155 : Builder.Extra Tryz.prog Tryz.lays155_ren := {
 sizeBuilder := by kernel_rfl
 liesBuilder := by kernel_rfl
 t5 := Tryz.underlying5
 a5 := Tryz.isAgg5
 z5 := Tryz.sizeOf5
 v5 := Tryz.zeroValue5
 infoByte := by kernel_rfl
 cellsByte := by kernel_rfl
 sizeByte := by kernel_rfl
 neB5 := by decide }
open Go.RowKit Go.Lib in
theorem Tryz.strings_ReplaceAll (s old new : ByteArray) (m : Int) (w : World) (hs : s.size < 4294967281) (hm : w.cell? ⟨0, 0, none⟩ = some (.int .i64 m)) (h1 : 1 ≤ old.size) (hlen : s.size + Lib.countB s old * new.size ≤ 140737488355328) :
 Calls Tryz.prog 60 #[.string s, .string old, .string new] w fun e w' =>
  e = .returned (.string ⟨(Lib.replaceAll s.data.toList old.data.toList new.data.toList).toArray⟩) ∧ Below w.heap.size w w' := Any.strings_ReplaceAll Tryz.lays155 Tryz.Builder_Extra_155 s old new m w hs hm h1 hlen
end Go.Proofs

namespace Go.Dd
open Go.Proofs Go.RowKit
theorem aMq : (Tryz.prog.funcs.toList.all fun fn => !(fn.name == "runtime.NumGoroutine")) = true := by kernel_rfl
theorem Try_ok : POk CF.P where
 mixed := by kernel_rfl
 names := by
  intro f fn hf
  have h := List.all_eq_true.1 aMq fn (by
   have : Tryz.prog.funcs[f]? = some fn := hf
   obtain ⟨hlt, rfl⟩ := Array.getElem?_eq_some_iff.1 this
   simp)
  simpa using h
theorem HR.later {G : Gd} {ρ : Ren} {h : Hp} {w w' : World} (H : HR G ρ h w) (e : Below w.heap.size w w') : HR G ρ h w' where
 gl := fun k hk => (e.block k (Nat.lt_of_lt_of_le hk H.sz.1)).trans (H.gl k hk)
 sz := ⟨Nat.le_trans H.sz.1 e.size, fun k hk => Nat.lt_of_lt_of_le (H.sz.2 k hk) e.size⟩
 nx := H.nx
 ro := H.ro
 dom := H.dom
 lt := H.lt
 cell := fun b k l L i v h1 h2 h3 h4 => by
  obtain ⟨v', h5, h6⟩ := H.cell b k l L i v h1 h2 h3 h4
  exact ⟨v', by rw [e.cell (fE h5)]; exact h5, h6⟩
 spare := fun b l L es j h1 h2 h3 => by
  obtain ⟨v', h5⟩ := H.spare b l L es j h1 h2 h3
  exact ⟨v', by rw [e.cell (fE h5)]; exact h5⟩
 free := fun b a h1 h2 => by
  obtain ⟨v, hv⟩ := H.lt_cell h1
  rw [e.frozen (fE hv)]
  exact H.free b a h1 h2
 inj := H.inj
 ex := H.ex
 grone := H.grone
 itr := fun b s pos L h1 h2 => by
  obtain ⟨a, b, bs, c, d⟩ := H.itr b s pos L h1 h2
  refine ⟨a, b, bs, ?_, d⟩
  rw [e.block _ (Array.getElem?_eq_some_iff.1 c).1]
  exact c
 itj := H.itj
theorem Kp.later {G : Gd} {ρ : Ren} {h : Hp} {w w' : World} (H : HR G ρ h w) (e : Below w.heap.size w w') : Kp G w w' :=
 ⟨e.mono H.sz.1, fun k hk => e.block k (H.sz.2 k hk)⟩
theorem CallFn.of {G : Gd} {ρ : Ren} {w : World} {v : DV} {h1 : Hp} {g : FuncId} {args' : Array Value} (fn : Func) (hf : Tryz.prog.funcs[g]? = some fn) (hb : fn.body.isSome = true)
 (hc : Calls Tryz.prog g args' w (aOv G ρ w v h1)) : CallFn CF.P G ρ w v h1 g args' := by
 refine .inl ⟨?_, hc⟩
 have hf' : CF.P.funcs[g]? = some fn := hf
 have hn : ¬ fn.name = "runtime.NumGoroutine" := by simpa using Try_ok.names g fn hf'
 have hbn : fn.body ≠ none := by intro e; rw [e] at hb; cases hb
 unfold callFunc
 simp [hf', hn, hbn]
theorem rP (sep : List UInt8) : ∀ xs : List (List UInt8), aF (sep.map (·.toNat)) (xs.map (·.map (·.toNat))) = (Lib.join xs sep).map (·.toNat)
 | [] => rfl
 | [x] => by simp [aF, Lib.join, List.intercalate]
 | x :: y :: l => by
  have ih := rP sep (y :: l)
  simp only [List.map_cons] at ih ⊢
  rw [aF, ih]
  simp [Lib.join, List.intercalate, List.map_append]
theorem aCw {ρ : Ren} : ∀ {cells : List DV} {vs : List Value} {l : List (List Nat)}, VRs ρ cells vs → lW cells = some l → ∃ xs : List ByteArray, vs = xs.map Value.string ∧ l = xs.map fun x => x.data.toList.map (·.toNat)
 | [], _, _, .nil, e => by
  simp only [lW, aZ] at e
  exact ⟨[], rfl, e.symm⟩
 | x :: c, _, _, .cons _ x' _ vs hx hs, e => by
  cases hx <;> try (simp [lW] at e; done)
  rename_i t bs hb
  simp only [lW, Option.map_eq_some_iff] at e
  obtain ⟨l0, e0, rfl⟩ := e
  obtain ⟨xs, rfl, rfl⟩ := aCw hs e0
  exact ⟨bs :: xs, rfl, by simp [hb]⟩
theorem aQh {w : World} {L : Loc} {i : Nat} {v : Value} (h : w.cell? (fG L i) = some v) : fG L i = ⟨L.bl, L.of + i, none⟩ := by
 unfold fG at *
 by_cases e : i = 0
 ·subst e
  simp only [if_true] at h ⊢
  cases hs : L.spot with
  | none => rfl
  | some s =>
   rw [hs] at h
   unfold World.cell? at h
   split at h <;> simp at h
 ·simp [e]
theorem tM (xs : List ByteArray) : (xs.map fun x => x.data.toList.map (·.toNat)) = (xs.map (·.data.toList)).map (·.map (·.toNat)) := by simp
theorem bEt (G : Gd) : oY CF.P G 30 kF := by
 intro args h v h1 hr ρ w args' H hargs
 unfold kF at hr
 split at hr <;> (try (cases hr; done))
 rename_i x sep hno
 split at hr <;> (try (cases hr; done))
 rename_i n cells hsrc
 split at hr <;> (try (cases hr; done))
 rename_i l hl
 cases hc : Nat.ble (aF sep l).length 100000000000 with
 | false => rw [hc] at hr; cases hr
 | true =>
 rw [hc] at hr
 cases hc2 : (Nat.ble n 100000000000 && aRj x) with
 | false => rw [hc2] at hr; cases hr
 | true =>
 rw [hc2] at hr
 have hc' := Nat.le_of_ble_eq_true hc
 rw [Bool.and_eq_true] at hc2
 obtain ⟨hc2, hcap⟩ := hc2
 have hn' := Nat.le_of_ble_eq_true hc2
 simp only [cond_true, aZ, bS] at hr
 obtain ⟨rfl, rfl⟩ := hr
 obtain ⟨a⟩ := args'
 cases hargs with
 | cons _ x' l1 l1' hx hxs =>
 cases hxs with
 | cons y y' l2 l2' hy hys =>
 cases hys
 cases hy with
 | s _ bs hbs =>
 refine CallFn.of Tryz.f30 (by kernel_rfl) (by kernel_rfl) ?_
 have hnone : ∀ (a : Option Addr) (c : Nat), l = [] → Calls Tryz.prog 30 #[.slice a 0 c, .string bs] w (aOv G ρ w (.s (aF sep l)) h) := by
  intro a c e
  subst e
  refine (Tryz.strings_Join_none a c bs w).mono ?_
  rintro e w' ⟨rfl, rfl⟩
  exact ⟨ρ, _, rfl, Ex.refl _ _, .s _ _ rfl, H, Kp.refl _ _⟩
 unfold mQ at hsrc
 cases hx with
 | l0 =>
  simp only [aZ, bS] at hsrc
  obtain ⟨rfl, rfl⟩ := hsrc
  simp only [lW, aZ] at hl
  exact hnone _ _ hl.symm
 | le a c =>
  simp only [aZ, bS] at hsrc
  obtain ⟨rfl, rfl⟩ := hsrc
  simp only [lW, aZ] at hl
  exact hnone _ _ hl.symm
 | l b o m cap L hL =>
  simp only at hsrc
  split at hsrc <;> (try (cases hsrc; done))
  rename_i cs hcs
  simp only [aZ, bS] at hsrc
  obtain ⟨rfl, rfl⟩ := hsrc
  obtain ⟨e1, e2, e3, vs, e4, e5, e6⟩ := fQ H hcs hL
  obtain ⟨xs, rfl, rfl⟩ := aCw e4 hl
  simp only [List.length_map, Nat.mul_one] at e5
  subst e5
  cases xs with
  | nil => exact hnone _ _ rfl
  | cons x0 xs0 =>
   have h0 := e6 0 (.string x0) rfl
   have ha : fG L o = ⟨L.bl, L.of + o, none⟩ := aQh h0
   rw [ha]
   have hsep := hbs
   refine (Tryz.strings_Join L.bl (L.of + o) (cap + L.sp) (x0 :: xs0) bs w ?_ (fE h0) (by omega) ?_ ?_).mono ?_
   ·intro j y hj
    have h5 := e6 j (.string y) (by rw [List.getElem?_map, hj]; rfl)
    rw [aQh h5] at h5
    rw [show L.of + o + j = L.of + (o + j) by omega]
    exact h5
   ·exact Nat.le_trans (Nat.le_of_ble_eq_true hcap) (Nat.le_add_right _ _)
   ·have := hc'
    rw [← hbs, tM, rP, List.length_map] at this
    omega
   ·rintro e w' ⟨rfl, hbel⟩
    refine ⟨ρ, _, rfl, Ex.refl _ _, .s _ _ ?_, H.later hbel, Kp.later H hbel⟩
    rw [← hbs, tM, rP]
 | u => simp at hsrc
 | s => exact (hno _ rfl).elim
 | _ => simp at hsrc
theorem sQ : ∀ (f n : Nat) (acc : List Nat), n < 10 ^ f → 0 < f → eQ f n acc = (Lib.decDigits n).map (·.toNat) ++ acc
 | 0, n, acc, h, h0 => by omega
 | f + 1, n, acc, h, _ => by
  have hd : ∀ d, d < 10 → (UInt8.ofNat (48 + d)).toNat = 48 + d := fun d hd => by simp; omega
  unfold eQ
  rw [Lib.decDigits]
  cases e : Nat.ble 10 n with
  | false =>
   have hn : n < 10 := by
    rcases Nat.lt_or_ge n 10 with h | h
    ·exact h
    ·rw [Nat.ble_eq_true_of_le h] at e; cases e
   simp only [cond_false]
   rw [dif_pos hn]
   show (48 + n) :: acc = _
   simp [hd n hn]
   omega
  | true =>
   have hn := Nat.le_of_ble_eq_true e
   simp only [cond_true]
   rw [dif_neg (by omega)]
   have hf : 0 < f := by
    rcases Nat.eq_zero_or_pos f with h1 | h1
    ·subst h1; simp at h; omega
    ·exact h1
   show eQ f (n / 10) ((48 + n % 10) :: acc) = _
   rw [sQ f (n / 10) _ (by rw [Nat.pow_succ] at h; omega) hf]
   simp [hd (n % 10) (by omega)]
   omega
theorem aTo (n : Int) (h0 : -9223372036854775808 ≤ n) (h1 : n ≤ 9223372036854775807) : fK n = (Lib.itoa n).map (·.toNat) := by
 unfold Lib.itoa fK
 cases n with
 | ofNat n =>
  rw [if_neg (by simp)]
  simp only
  rw [sQ 20 n [] (by simp at h1; omega) (by omega)]
  simp
 | negSucc n =>
  rw [if_pos (by omega)]
  simp only
  rw [sQ 20 _ [] (by show n + 1 < _; omega) (by omega)]
  simp
theorem bEn (G : Gd) : oY CF.P G 34 tW := by
 intro args h v h1 hr ρ w args' H hargs
 unfold tW at hr
 split at hr <;> (try (cases hr; done))
 rename_i n
 cases hc : (decide (-9223372036854775808 ≤ n) && decide (n ≤ 9223372036854775807)) with
 | false => rw [hc] at hr; cases hr
 | true =>
 rw [hc] at hr
 simp only [Bool.and_eq_true, decide_eq_true_eq] at hc
 simp only [cond_true, aZ, bS] at hr
 obtain ⟨rfl, rfl⟩ := hr
 obtain ⟨a⟩ := args'
 cases hargs with
 | cons _ x' l1 l1' hx hxs =>
 cases hxs
 cases hx
 refine CallFn.of Tryz.f34 (by kernel_rfl) (by kernel_rfl) ?_
 have F := G.ok w H.gl
 have htab : Lib.TabIs Tryz.prog w "internal/strconv.uint64pow10" .u64 Lib.pow10Tab := by
  obtain ⟨_, t, z, ht⟩ := F
  have hg : Tryz.prog.globalNamed "internal/strconv.uint64pow10" = some 1 := by kernel_rfl
  unfold Lib.TabIs World.var?
  rw [hg]
  simp only [Option.bind_some, ht]
 refine (Tryz.strconv_Itoa n hc.1 hc.2 w htab).mono ?_
 rintro e w' ⟨rfl, k, os, rfl⟩
 have hbel : Below w.heap.size w (Sort.grow (w.drewN k) os) := ⟨rfl, rfl, rfl, by simp [Sort.grow, World.drewN], fun i hi => by
  show (w.heap ++ os)[i]? = _
  rw [Array.getElem?_append_left hi]⟩
 exact ⟨ρ, _, rfl, Ex.refl _ _, .s _ _ (aTo n hc.1 hc.2).symm, H.later hbel, Kp.later H hbel⟩
end Go.Dd

namespace Go.Dd
open Go.Proofs Go.Lib Go.RowKit
theorem aTe (b c : UInt8) : Nat.beq b.toNat c.toNat = (b == c) := by
 rw [Bool.eq_iff_iff]
 constructor
 ·intro h
  have := Nat.eq_of_beq_eq_true h
  simpa using UInt8.toNat_inj.1 this
 ·intro h
  have h2 : b = c := by simpa using h
  rw [h2]; simp
theorem aQa {bs : ByteArray} {c : Nat} (h : bs.data.toList.map (·.toNat) = [c]) : ∃ u : UInt8, bs = ⟨#[u]⟩ ∧ u.toNat = c := by
 obtain ⟨⟨l⟩⟩ := bs
 match l, h with
 | [u], h => exact ⟨u, rfl, by simpa using h⟩
def mS (c : UInt8) (new : List UInt8) : List UInt8 → List UInt8
 | [] => []
 | x :: l => if x = c then new ++ mS c new l else x :: mS c new l
theorem aDn {b c : UInt8} {l : List UInt8} (h : b ≠ c) {i : Nat} (hi : index l [c] = i) : index (b :: l) [c] = ((i + 1 : Nat) : Int) := by
 have hp : ([c] : List UInt8).isPrefixOf (b :: l) = false := by simp [List.isPrefixOf, Ne.symm h]
 rw [index, hp, hi]
 simp
theorem aBe {c : UInt8} {l : List UInt8} : index (c :: l) [c] = ((0 : Nat) : Int) := by
 rw [index]; simp [List.isPrefixOf]
theorem aCr (c : UInt8) (new : List UInt8) : ∀ s : List UInt8, replaceK [c] new (count s [c]) s = mS c new s
 | [] => by rw [count_one]; rfl
 | b :: l => by
  have ih := aCr c new l
  by_cases h : b = c
  ·subst h
   rw [count_cons_eq, Nat.add_comm, replaceK_hit _ _ _ _ 0 aBe]
   simp [mS, ih]
  ·rw [count_cons_ne _ _ _ h]
   simp only [mS, if_neg h]
   cases hk : count l [c] with
   | zero =>
    rw [hk] at ih
    simp only [replaceK] at ih ⊢
    rw [← ih]
   | succ k =>
    rw [hk] at ih
    obtain ⟨i, hi⟩ := index_of_count (s := l) (old := [c]) (by omega)
    rw [replaceK_hit _ _ _ _ i hi] at ih
    rw [replaceK_hit _ _ _ _ (i + 1) (aDn h hi), ← ih]
    simp [Nat.add_right_comm]
theorem sF (c : UInt8) : ∀ s : List UInt8, mS c [c] s = s
 | [] => rfl
 | x :: l => by
  simp only [mS, sF c l]
  split
  ·rename_i h; subst h; rfl
  ·rfl
theorem aTn (s : List UInt8) (c : UInt8) (new : List UInt8) : replaceAll s [c] new = mS c new s := by
 unfold replaceAll replace
 split
 ·rename_i h
  have : [c] = new := by simpa using h
  subst this
  rw [sF]
 ·unfold replaceNum
  rw [if_pos (.inl (by decide))]
  exact aCr c new s
theorem aCf (c : UInt8) (new : List UInt8) : ∀ s : List UInt8, dD c.toNat (new.map (·.toNat)) (s.map (·.toNat)) = (mS c new s).map (·.toNat)
 | [] => rfl
 | x :: l => by
  simp only [List.map_cons, dD, mS, aCf c new l, aTe]
  by_cases h : x = c
  ·subst h; simp
  ·rw [if_neg h, show (x == c) = false by simpa using h]; simp
theorem bCf (G : Gd) : oY CF.P G 60 vM := by
 intro args h v h1 hr ρ w args' H hargs
 unfold vM at hr
 split at hr <;> (try (cases hr; done))
 rename_i s c new
 cases hc : Nat.blt c 256 with
 | false => rw [hc] at hr; cases hr
 | true =>
 rw [hc] at hr
 cases hc2 : Nat.ble s.length 4000000000 with
 | false => rw [hc2] at hr; cases hr
 | true =>
 rw [hc2] at hr
 cases hc3 : Nat.ble new.length 1000 with
 | false => rw [hc3] at hr; cases hr
 | true =>
 rw [hc3] at hr
 have hs' := Nat.le_of_ble_eq_true hc2
 have hn' := Nat.le_of_ble_eq_true hc3
 simp only [cond_true, aZ, bS] at hr
 obtain ⟨rfl, rfl⟩ := hr
 obtain ⟨a⟩ := args'
 cases hargs with
 | cons _ x' l1 l1' hx hxs =>
 cases hxs with
 | cons _ y' l2 l2' hy hys =>
 cases hys with
 | cons _ z' l3 l3' hz hzs =>
 cases hzs
 cases hx with
 | s _ bs hbs =>
 cases hy with
 | s _ bc hbc =>
 cases hz with
 | s _ bn hbn =>
 obtain ⟨u, rfl, rfl⟩ := aQa hbc
 subst hbs hbn
 have e1 : bs.size ≤ 4000000000 := by rw [List.length_map, Array.length_toList] at hs'; exact hs'
 have e2 : bn.size ≤ 1000 := by rw [List.length_map, Array.length_toList] at hn'; exact hn'
 refine CallFn.of Tryz.f60 (by kernel_rfl) (by kernel_rfl) ?_
 obtain ⟨⟨m, hm⟩, _⟩ := G.ok w H.gl
 have hcnt : countB bs ⟨#[u]⟩ ≤ bs.size := countB_le _ (by simp [ByteArray.size]) _ _ (Nat.le_refl _)
 have hmul : countB bs ⟨#[u]⟩ * bn.size ≤ 4000000000 * 1000 := Nat.mul_le_mul (by omega) e2
 refine (Tryz.strings_ReplaceAll bs ⟨#[u]⟩ bn m w (by omega) hm (by simp [ByteArray.size]) (by omega)).mono ?_
 rintro e w' ⟨rfl, hbel⟩
 refine ⟨ρ, _, rfl, Ex.refl _ _, .s _ _ ?_, H.later hbel, Kp.later H hbel⟩
 rw [aCf, ← aTn]
def gR (acc : List UInt8) : List (List UInt8) → List (List UInt8)
 | [] => []
 | p :: ps => (acc ++ p) :: ps
theorem pV (c : UInt8) : ∀ (s acc : List UInt8), cE c.toNat (acc.map (·.toNat)) (s.map (·.toNat)) = (gR acc (splitK [c] 1 (count s [c]) s)).map (·.map (·.toNat))
 | [], acc => by rw [count_one]; simp [cE, splitK, gR]
 | b :: l, acc => by
  simp only [List.map_cons, cE, aTe]
  by_cases h : b = c
  ·subst h
   have ih := pV b l []
   rw [count_cons_eq, Nat.add_comm]
   simp only [splitK, aBe]
   simp only [List.map_nil] at ih
   rw [show (b == b) = true by simp, cond_true, ih]
   have hd : gR [] (splitK [b] 1 (count l [b]) l) = splitK [b] 1 (count l [b]) l := by cases splitK [b] 1 (count l [b]) l <;> simp [gR]
   rw [hd]
   simp [gR]
  ·have ih := pV c l (acc ++ [b])
   rw [show (b == c) = false by simpa using h, cond_false, count_cons_ne _ _ _ h]
   simp only [List.map_append, List.map_cons, List.map_nil] at ih
   rw [ih]
   cases hk : count l [c] with
   | zero => simp [splitK, gR]
   | succ k =>
    obtain ⟨i, hi⟩ := index_of_count (s := l) (old := [c]) (by omega)
    have hi2 := aDn h hi
    simp only [splitK, hi, hi2]
    rw [if_neg (by first | (simp; done) | (simp; omega)), if_neg (by first | (simp; done) | (simp; omega))]
    simp [gR]
theorem aNh (G : Gd) : oY CF.P G 86 qB := by
 intro args h v h1 hr ρ w args' H hargs
 unfold qB at hr
 split at hr <;> (try (cases hr; done))
 rename_i s c
 cases hc : Nat.blt c 256 with
 | false => rw [hc] at hr; cases hr
 | true =>
 rw [hc] at hr
 cases hc2 : Nat.ble s.length 4000000000 with
 | false => rw [hc2] at hr; cases hr
 | true =>
 rw [hc2] at hr
 have hs' := Nat.le_of_ble_eq_true hc2
 simp only [cond_true, aZ, bS] at hr
 obtain ⟨rfl, rfl⟩ := hr
 obtain ⟨a⟩ := args'
 cases hargs with
 | cons _ x' l1 l1' hx hxs =>
 cases hxs with
 | cons _ y' l2 l2' hy hys =>
 cases hys with
 | cons _ z' l3 l3' hz hzs =>
 cases hzs with
 | cons _ z4 l4 l4' hz4 hzs4 =>
 cases hzs4
 cases hz
 cases hz4
 cases hx with
 | s _ bs hbs =>
 cases hy with
 | s _ bc hbc =>
 obtain ⟨u, rfl, rfl⟩ := aQa hbc
 subst hbs
 have e1 : bs.size ≤ 4000000000 := by rw [List.length_map, Array.length_toList] at hs'; exact hs'
 have hsz : (⟨#[u]⟩ : ByteArray).size = 1 := rfl
 have hcnt : countB bs ⟨#[u]⟩ ≤ bs.size := countB_le _ (by omega) _ _ (Nat.le_refl _)
 have hp : cE u.toNat [] (bs.data.toList.map (·.toNat)) = ((splitB ⟨#[u]⟩ 1 (countB bs ⟨#[u]⟩) bs).map (·.data.toList)).map (·.map (·.toNat)) := by
  have := pV u bs.data.toList []
  simp only [List.map_nil] at this
  rw [this, splitB_data]
  show (gR [] (splitK [u] 1 (count bs.data.toList [u]) bs.data.toList)).map _ = (splitK [u] 1 (count bs.data.toList [u]) bs.data.toList).map _
  cases splitK [u] 1 (count bs.data.toList [u]) bs.data.toList <;> simp [gR]
 have hlen := splitB_all ⟨#[u]⟩ (by omega) 1 _ bs rfl
 refine CallFn.of Tryz.f86 (by kernel_rfl) (by kernel_rfl) ?_
 obtain ⟨⟨m, hm⟩, _⟩ := G.ok w H.gl
 have hN : ((countB bs ⟨#[u]⟩ + 1 : Nat) : Int) = min (if (Int.negSucc 0) < 0 then (countB bs ⟨#[u]⟩ : Int) + 1 else Int.negSucc 0) ((bs.size : Int) + 1) := by
  rw [if_pos (by decide)]
  omega
 refine (Tryz.strings_genSplit bs ⟨#[u]⟩ 1 (Int.negSucc 0) (countB bs ⟨#[u]⟩ + 1) m w (by omega) hm (by omega) (by omega) (by decide) (by decide) hN).mono ?_
 rintro e w' ⟨rfl, rfl⟩
 simp only [Nat.add_sub_cancel] at *
 generalize hps : splitB ⟨#[u]⟩ 1 (countB bs ⟨#[u]⟩) bs = ps at *
 rw [hp]
 have hcell : cellsOf ps (countB bs ⟨#[u]⟩ + 1) = (ps.map Value.string).toArray := by rw [← hlen]; exact cellsOf_full ps
 rw [hcell]
 have hvs : ∀ qs : List ByteArray, VRs ρ (((qs.map (·.data.toList)).map (·.map (·.toNat))).map DV.s) (qs.map Value.string) := by
  intro qs
  induction qs with
  | nil => exact .nil
  | cons q qs ih => exact .cons _ _ _ _ (.s _ _ rfl) ih
 have H2 := H.newRow .ex _ (ps.map Value.string) (ps.map Value.string).toArray 9 0 (hvs ps) (fun i v hv => by simpa using hv) (.inl ⟨rfl, rfl⟩)
 refine ⟨_, _, rfl, H.exx ⟨w.heap.size, 0, 0, none⟩, ?_, H2, gC H.sz _⟩
 have := VR.l (ρ := mT ρ h.next ⟨w.heap.size, 0, 0, none⟩) h.next 0 ps.length ps.length ⟨w.heap.size, 0, 0, none⟩ (bO _ _ _)
 simpa [fG, hlen] using this
end Go.Dd

namespace Go.Dd
open Go.Proofs Go.Lib Go.RowKit
theorem aEe (c : Nat) (hc : c < 256) : ∀ (l : List UInt8) (i : Nat), cZ c (l.map (·.toNat)) i = if indexByte l c.toUInt8 = -1 then -1 else indexByte l c.toUInt8 + i
 | [], i => rfl
 | b :: l, i => by
  have hb : Nat.beq b.toNat c = (b == c.toUInt8) := by
   rw [Bool.eq_iff_iff]
   constructor
   ·intro h
    have := Nat.eq_of_beq_eq_true h
    simp [← this]
   ·intro h
    have h2 : b = c.toUInt8 := by simpa using h
    rw [h2]
    have : (c.toUInt8).toNat = c := by simp [Nat.toUInt8]; omega
    rw [this]; simp
  show (bif Nat.beq b.toNat c then Int.ofNat i else cZ c (l.map (·.toNat)) (i + 1)) = _
  rw [hb]
  unfold indexByte
  cases h : (b == c.toUInt8) with
  | true => simp
  | false =>
   have ih := aEe c hc l (i + 1)
   have hge := indexByte_ge l c.toUInt8
   simp only [cond_false, Bool.false_eq_true, if_false]
   rw [ih]
   by_cases h1 : indexByte l c.toUInt8 = -1
   ·simp [h1]
   ·simp only [h1, if_false, beq_iff_eq]
    rw [if_neg (by omega)]
    omega
theorem bKd (G : Gd) : oY CF.P G 117 aMl := by
 intro args h v h1 hr ρ w args' H hargs
 unfold aMl at hr
 split at hr <;> (try (cases hr; done))
 rename_i l c
 cases hc : Nat.blt c 256 with
 | false => rw [hc] at hr; cases hr
 | true =>
  rw [hc] at hr
  have hc' : c < 256 := by simpa using hc
  simp only [cond_true, aZ, bS] at hr
  obtain ⟨rfl, rfl⟩ := hr
  obtain ⟨a⟩ := args'
  cases hargs with
  | cons x x' l1 l1' hx hxs =>
  cases hxs with
  | cons y y' l2 l2' hy hys =>
  cases hys
  cases hx with
  | s l bs hbs =>
  cases hy with
  | i k n =>
  refine .inr ⟨ρ, w, .int .i64 (indexByte bs.data.toList c.toUInt8), ?_, Ex.refl _ _, ?_, H, Kp.refl _ _⟩
  ·rw [run_callFunc_extern (fn := Tryz.f117) (e := Extern.BytealgIndexByte.indexByte) (by kernel_rfl) (by kernel_rfl) (by kernel_rfl) (by kernel_rfl) (by kernel_rfl)]
   rw [run_indexByteString bs (Int.ofNat c) w]
   rfl
  ·have e := aEe c hc' bs.data.toList 0
   rw [hbs] at e
   have e2 : cZ c l 0 = indexByte bs.data.toList c.toUInt8 := by
    rw [e]
    split
    ·rename_i h; exact h.symm
    ·simp
   rw [e2]
   exact .i _ _
theorem aEt (G : Gd) (g : FuncId) (F : List DV → Hp → aG) (h : CF.I g = some F) : oY CF.P G g F := by
 have e : CF.I g = bif Nat.beq g 117 then some aMl else bif Nat.beq g 30 then some kF else bif Nat.beq g 86 then some qB else bif Nat.beq g 60 then some vM else bif Nat.beq g 34 then some tW else none := rfl
 rw [e] at h
 cases hg : Nat.beq g 117 with
 | true => rw [hg] at h; cases h; cases Nat.eq_of_beq_eq_true hg; exact bKd G
 | false =>
 rw [hg, cond_false] at h
 cases hg : Nat.beq g 30 with
 | true => rw [hg] at h; cases h; cases Nat.eq_of_beq_eq_true hg; exact bEt G
 | false =>
 rw [hg, cond_false] at h
 cases hg : Nat.beq g 86 with
 | true => rw [hg] at h; cases h; cases Nat.eq_of_beq_eq_true hg; exact aNh G
 | false =>
 rw [hg, cond_false] at h
 cases hg : Nat.beq g 60 with
 | true => rw [hg] at h; cases h; cases Nat.eq_of_beq_eq_true hg; exact bCf G
 | false =>
 rw [hg, cond_false] at h
 cases hg : Nat.beq g 34 with
 | true => rw [hg] at h; cases h; cases Nat.eq_of_beq_eq_true hg; exact bEn G
 | false => rw [hg] at h; cases h
def bMa (w : World) (F : Facts w) : Gd := ⟨w.heap.size, fun _ => False, 0, w.heap, fun w' h => F.keep fun k hk => h k (Nat.lt_of_lt_of_le hk F.two)⟩
def h00 : Hp := ⟨.h, .e⟩
theorem top {n : Nat} {f : FuncId} {args : List DV} {v : DV} {h1 : Hp} (hr : aK n f args h00 = some (v, h1)) (fn : Func) (hf : Tryz.prog.funcs[f]? = some fn) (hb : fn.body.isSome = true)
 (w : World) (F : Facts w) (args' : Array Value) (hargs : VRs (fun _ => none) args args'.toList) :
 Calls Tryz.prog f args' w fun e w' => ∃ ρ' v', e = .returned v' ∧ VR ρ' v v' ∧ HR (bMa w F) ρ' h1 w' ∧ Below w.heap.size w w' := by
 rw [aEs] at hr
 have H : HR (bMa w F) (fun _ => none) h00 w := by
  constructor
  ·exact fun _ _ => rfl
  ·exact ⟨Nat.le_refl _, fun _ h => h.elim⟩
  ·exact Nat.zero_le _
  ·rintro b a ⟨k, l, L, _, h2, _⟩; cases h2
  ·intro b o h; cases b <;> cases h
  ·intro b L h; cases h
  ·intro b k l L i v h h2; cases h2
  ·intro b l L es j h h2; cases h2
  ·rintro b a ⟨k, l, L, _, h2, _⟩; cases h2
  ·rintro b b' a ⟨k, l, L, _, h2, _⟩; cases h2
  ·intro b l L h h2; cases h2
  ·intro b es l i v h; cases b <;> cases h
  ·intro b s pos L h h2; cases h2
  ·intro b s pos b' s' pos' L L' h h' h2; cases h2
 rcases aEy (C := CF) Try_ok aEt n _ f args h00 v h1 hr _ w args' H hargs with ⟨_, h⟩ | ⟨ρ', w', v', h, _⟩
 ·refine h.mono ?_
  rintro e w' ⟨ρ', v', h1, h2, h3, h4, h5⟩
  exact ⟨ρ', v', h1, h3, h4, h5.low⟩
 ·exfalso
  have hf' : CF.P.funcs[f]? = some fn := hf
  have hn : ¬ fn.name = "runtime.NumGoroutine" := by simpa using Try_ok.names f fn hf'
  have hbn : fn.body ≠ none := by intro e; rw [e] at hb; cases hb
  unfold callFunc at h
  simp [hf', hn, hbn] at h
end Go.Dd

namespace Go.Dd
noncomputable def val (r : aG) : DV := Option.rec (motive := fun _ => DV) .u (fun p => p.1) r
theorem bSf {r : aG} {b : Bool} (h : val r = .b b) : ∃ h1, r = some (.b b, h1) := by
 cases r with
 | none => cases h
 | some p =>
  obtain ⟨v, h1⟩ := p
  have : v = .b b := h
  exact ⟨h1, by rw [this]⟩
end Go.Dd

namespace Go.Dd
open Go.Proofs
def Wf (h : Hp) : Prop := ∀ b o, h.bl.get b = some o → b.toNat < h.next.toNat
noncomputable def nw (o : Ob) (h : Hp) : Hp := ⟨h.next.succ, Tr.set o h.next h.bl⟩
theorem bNf (h : Hp) (o : Ob) : (nw o h).bl.get h.next = some o := bVr o _ _
theorem bSd (cs : List DV) (h : Hp) : cK cs h = some (.p h.next 0, nw (.row .ex cs) h) := rfl
theorem aOs (x y : List Nat) (h : Hp) : fZ .eql (.s x) (.s y) h = some (.b (sK x y), h) := rfl
theorem bHt (x y : List Nat) (h : Hp) : fZ .neq (.s x) (.s y) h = some (.b (!sK x y), h) := rfl
theorem gV (n : Int) (h1 : -9223372036854775808 ≤ n) (h2 : n ≤ 9223372036854775807) : IntKind.i64.wrap n = n := by
 unfold IntKind.wrap
 simp [IntKind.bits, IntKind.signed, IntKind.min, IntKind.max]
 omega
theorem ld1 {h : Hp} {b : Pos} {k : Kind} {l : List DV} {o : Nat} {v : DV} (e : h.bl.get b = some (.row k l)) (ho : l[o]? = some v) (hv : v.one = true) : aB (.p b o) h = some (v, h) := by
 simp [aB, aDi, lE, e, ho, hv]
theorem ldA {h : Hp} {b : Pos} {k : Kind} {l : List DV} {o n : Nat} {cs : List DV} (e : h.bl.get b = some (.row k l)) (ho : iR n (l.drop o) = some cs) : aD n (.p b o) h = some (.a cs, h) := by
 simp [aD, eD, lE, e, ho]
theorem iZ {α : Type} {l : List α} {i : Nat} {x : α} (hi : l[i]? = some x) : l.drop i = x :: l.drop (i + 1) := by
 obtain ⟨h1, h2⟩ := List.getElem?_eq_some_iff.1 hi
 rw [← h2]
 exact List.drop_eq_getElem_cons h1
theorem aHo (x y : List Nat) : sK x y = decide (x = y) := by
 rw [Bool.eq_iff_iff, jL]; simp
end Go.Dd

namespace Go.Dd
open Go.Proofs
theorem aBy : ∀ (l vs : List DV), l.length = vs.length → (∀ v ∈ l, v.one = true) → (∀ v ∈ vs, v.one = true) → pX l vs = some vs
 | [], [], _, _, _ => rfl
 | x :: l, v :: vs, h, h1, h2 => by
  have := aBy l vs (by simpa using h) (fun y hy => h1 y (by simp [hy])) (fun y hy => h2 y (by simp [hy]))
  simp [pX, this, h1 x (by simp), h2 v (by simp)]
 | [], _ :: _, h, _, _ => by simp at h
 | _ :: _, [], h, _, _ => by simp at h
theorem wN : ∀ (x : List DV), (∀ v ∈ x, v.one = true) → iR x.length x = some x
 | [], _ => rfl
 | v :: x, h => by simp [iR, h v (by simp), wN x (fun y hy => h y (by simp [hy]))]
end Go.Dd

namespace Go.Dd
open Go.Proofs
end Go.Dd

namespace Go.Dd
open Go.Proofs
end Go.Dd

namespace Go.Dd
open Go.Proofs
end Go.Dd

namespace Go.Dd
open Go.Proofs
end Go.Dd

namespace Go.Dd
open Go.Proofs
end Go.Dd

namespace Go.Dd
open Go.Proofs Go.RowKit
theorem aMu {n : Nat} {f : FuncId} {r : Bool} {h1 : Hp} (hr : aK n f [] h00 = some (.b r, h1)) (fn : Func) (hf : Tryz.prog.funcs[f]? = some fn) (hb : fn.body.isSome = true) (G : Gd) :
 oY CF.P G f (fun args h => match args with
  | [] => some (.b r, h)
  | _ => none) := by
 intro args h v h2 he ρ w args' H hargs
 cases args with
 | cons _ _ => cases he
 | nil =>
  simp only [aZ, bS] at he
  obtain ⟨rfl, rfl⟩ := he
  have e0 : args' = #[] := by
   obtain ⟨a⟩ := args'
   cases hargs
   rfl
  subst e0
  refine .inl ⟨?_, ?_⟩
  ·have hf' : CF.P.funcs[f]? = some fn := hf
   have hn : ¬ fn.name = "runtime.NumGoroutine" := by simpa using Try_ok.names f fn hf'
   have hbn : fn.body ≠ none := by intro e; rw [e] at hb; cases hb
   unfold callFunc
   simp [hf', hn, hbn]
  ·refine (top hr fn hf hb w (G.ok w H.gl) #[] .nil).mono ?_
   rintro e w' ⟨ρ', v', rfl, hv, _, hbel⟩
   cases hv
   exact ⟨ρ, _, rfl, Ex.refl _ _, .b _, H.later hbel, Kp.later H hbel⟩
noncomputable def qX (l : FuncId) (r : Bool) (n : Nat) : FuncId → List DV → Hp → aG := fun g =>
 bif Nat.beq g l then (fun args h => match args with
  | [] => some (.b r, h)
  | _ => none) else aK n g
theorem bBl {n m : Nat} {f : FuncId} {r : Bool} {h1 : Hp} (hr : aK m f [] h00 = some (.b r, h1)) (fn : Func) (hf : Tryz.prog.funcs[f]? = some fn) (hb : fn.body.isSome = true) : OkC CF (qX f r n) := by
 refine ⟨aEt, fun G g => ?_⟩
 unfold qX
 cases hg : Nat.beq g f with
 | true =>
  cases Nat.eq_of_beq_eq_true hg
  exact aMu hr fn hf hb G
 | false =>
  show oY CF.P G g (aK n g)
  rw [aEs]
  exact aEy Try_ok aEt n G g
theorem aMt (l : FuncId) (r : Bool) (n : Nat) (h : Hp) : qX l r n l [] h = some (.b r, h) := by
 unfold qX
 rw [show Nat.beq l l = true from by simp]
 rfl
theorem nB {l g : FuncId} (r : Bool) (n : Nat) (e : Nat.beq g l = false) : qX l r n g = aK n g := by
 unfold qX
 rw [e]
 rfl
end Go.Dd

namespace Go.Dd
open Go.Proofs Go.RowKit
structure Ro (w : World) (ρ : Ren) (h : Hp) : Prop where
 dom : ∀ b o, h.bl.get b = some o → ∃ L, ρ b = some L
 lt : ∀ b L, ρ b = some L → b.toNat < h.next.toNat
 row : ∀ b o, h.bl.get b = some o → ∃ l, o = .row .ro l
 cell : ∀ b l L i v, h.bl.get b = some (.row .ro l) → ρ b = some L → l[i]? = some v → ∃ v', w.cell? (fG L i) = some v' ∧ VR ρ v v'
 sp : ∀ b o L, h.bl.get b = some o → ρ b = some L → L.sp = 0
theorem Ro.isRo {w : World} {ρ : Ren} {h : Hp} (R : Ro w ρ h) {b : Pos} {a : Addr} (c : Claims ρ h b a) : isRo h b := by
 obtain ⟨k, l, L, h1, h2, _⟩ := c
 obtain ⟨l', e⟩ := R.row b _ h1
 exact ⟨l', by rw [h1, e]⟩
theorem Ro.hr {w : World} {ρ : Ren} {h : Hp} (R : Ro w ρ h) (F : Facts w) : HR (bMa w F) ρ h w where
 gl := fun _ _ => rfl
 sz := ⟨Nat.le_refl _, fun _ hh => hh.elim⟩
 nx := Nat.zero_le _
 ro := fun b a c _ => by
  obtain ⟨k, l, L, h1, h2, h3⟩ := c
  obtain ⟨l', e⟩ := R.row b _ h1
  cases e
  rcases h3 with ⟨i, v, h4, h5, rfl⟩ | ⟨es, j, h4, _⟩
  ·obtain ⟨v', h6, _⟩ := R.cell b _ L i v h1 h2 h4
   exact fE h6
  ·cases h4
 dom := R.dom
 lt := R.lt
 cell := fun b k l L i v h1 h2 h3 h4 => by
  obtain ⟨l', e⟩ := R.row b _ h1
  cases e
  exact R.cell b _ L i v h1 h2 h3
 spare := fun b l L es j h1 => by
  obtain ⟨l', e⟩ := R.row b _ h1
  cases e
 free := fun b a c hn => absurd (R.isRo c) hn
 inj := fun b b' a c c' hn => absurd (R.isRo c) hn
 ex := fun b l L h1 h2 => by
  rcases h1 with h1 | h1
  ·exact R.sp b _ L h1 h2
  ·exact R.sp b _ L h1 h2
 grone := fun b es l i v h1 => by
  obtain ⟨l', e⟩ := R.row b _ h1
  cases e
 itr := fun b s pos L h1 => by
  obtain ⟨l', e⟩ := R.row b _ h1
  cases e
 itj := fun b s pos b' s' pos' L L' h1 => by
  obtain ⟨l', e⟩ := R.row b _ h1
  cases e
theorem Ro.none (w : World) : Ro w (fun _ => none) h00 where
 dom := fun b o h => by cases b <;> cases h
 lt := fun b L h => by cases h
 row := fun b o h => by cases b <;> cases h
 cell := fun b l L i v h => by cases b <;> cases h
 sp := fun b o L h => by cases b <;> cases h
section
variable {H : Type} {enc : TypeId × Value → H} {w : World}
end
end Go.Dd

namespace Go.Dd
theorem aYg : ∃ h1, aK 900 10 [] h00 = some (.b true, h1) := bSf (by kernel_rfl)
end Go.Dd

namespace Go.Dd
open Go.Proofs
def Ev (F : Nat → aG) (P : DV → Hp → Prop) : Prop := ∃ v h N, P v h ∧ ∀ n, N ≤ n → F n = some (v, h)
theorem bVs {v : DV} {h : Hp} {P : DV → Hp → Prop} (H : P v h) : Ev (fun _ => some (v, h)) P := ⟨v, h, 0, H, fun _ _ => rfl⟩
theorem Ev.mono {F : Nat → aG} {P Q : DV → Hp → Prop} (H : Ev F P) (k : ∀ v h, P v h → Q v h) : Ev F Q := by
 obtain ⟨v, h, N, a, b⟩ := H
 exact ⟨v, h, N, k v h a, b⟩
theorem Ev.op {r : aG} {v : DV} {h : Hp} {k : Nat → DV → Hp → aG} {P : DV → Hp → Prop} (e : r = some (v, h)) (H : Ev (fun n => k n v h) P) : Ev (fun n => bnd r (k n)) P := by
 rw [e]; exact H
theorem bVq {F : Nat → aG} {Q P : DV → Hp → Prop} {k : Nat → DV → Hp → aG} (H : Ev F Q) (K : ∀ v h, Q v h → Ev (fun n => k n v h) P) : Ev (fun n => bnd (F n) (k n)) P := by
 obtain ⟨v, h, N, a, b⟩ := H
 obtain ⟨v', h', N', a', b'⟩ := K v h a
 refine ⟨v', h', max N N', a', fun n hn => ?_⟩
 show Dd.bnd (F n) (k n) = _
 rw [b n (by omega)]
 exact b' n (by omega)
theorem Ev.enter {G : Nat → aG} {F : Nat → aG} {P : DV → Hp → Prop} (e : ∀ n, F (n + 1) = G n) (H : Ev G P) : Ev F P := by
 obtain ⟨v, h, N, a, b⟩ := H
 refine ⟨v, h, N + 1, a, fun n hn => ?_⟩
 obtain ⟨n, rfl⟩ : ∃ m, n = m + 1 := ⟨n - 1, by omega⟩
 rw [e]
 exact b n (by omega)
theorem bVx (j : Nat) {ll bb : Nat → Nat → aG} {P : DV → Hp → Prop} (e : ∀ n m, ll n (m + 1) = bb n m) (H : Ev (fun n => bb n (n - (j + 1))) P) : Ev (fun n => ll n (n - j)) P := by
 obtain ⟨v, h, N, a, b⟩ := H
 refine ⟨v, h, N + j + 1, a, fun n hn => ?_⟩
 have : n - j = (n - (j + 1)) + 1 := by omega
 show ll n (n - j) = _
 rw [this, e]
 exact b n (by omega)
theorem bXd {F G : Nat → aG} {P : DV → Hp → Prop} (H : Ev F P) : Ev (fun n => cG (.b true) (F n) (G n)) P := H
theorem bWp {F G : Nat → aG} {P : DV → Hp → Prop} (H : Ev G P) : Ev (fun n => cG (.b false) (F n) (G n)) P := H
theorem Ev.cnd {b : Bool} {F : Nat → aG} {P : DV → Hp → Prop} (e : b = true) (H : Ev F P) : Ev (fun n => cnd b (F n)) P := by
 subst e; exact H
section
variable {k : Nat → DV → Hp → aG} {P : DV → Hp → Prop} {h : Hp} {q : IntKind} {x y : Int} {s t : List Nat}
theorem iD (o : BinOp) (z : DV) (e : aEr o q x y = some z) : aR o (.i q x) (.i q y) h = some (z, h) := by simp [aR, e]
theorem bVv (H : x = y → Ev (fun n => k n (.b true) h) P) (H' : x ≠ y → Ev (fun n => k n (.b false) h) P) : Ev (fun n => bnd (aR .eql (.i q x) (.i q y) h) (k n)) P := by
 refine Ev.op (iD .eql (.b (x == y)) rfl) ?_
 by_cases e : x = y
 ·rw [show (x == y) = true by simpa using e]; exact H e
 ·rw [show (x == y) = false by simpa using e]; exact H' e
theorem bWu (H : x ≠ y → Ev (fun n => k n (.b true) h) P) (H' : x = y → Ev (fun n => k n (.b false) h) P) : Ev (fun n => bnd (aR .neq (.i q x) (.i q y) h) (k n)) P := by
 refine Ev.op (iD .neq (.b (x != y)) rfl) ?_
 by_cases e : x = y
 ·rw [show (x != y) = false by simpa using e]; exact H' e
 ·rw [show (x != y) = true by simpa using e]; exact H e
theorem bWr (H : x < y → Ev (fun n => k n (.b true) h) P) (H' : ¬ x < y → Ev (fun n => k n (.b false) h) P) : Ev (fun n => bnd (aR .lss (.i q x) (.i q y) h) (k n)) P := by
 refine Ev.op (iD .lss (.b (decide (x < y))) rfl) ?_
 by_cases e : x < y
 ·rw [decide_eq_true e]; exact H e
 ·rw [decide_eq_false e]; exact H' e
theorem bXr (H : x ≤ y → Ev (fun n => k n (.b true) h) P) (H' : ¬ x ≤ y → Ev (fun n => k n (.b false) h) P) : Ev (fun n => bnd (aR .leq (.i q x) (.i q y) h) (k n)) P := by
 refine Ev.op (iD .leq (.b (decide (x ≤ y))) rfl) ?_
 by_cases e : x ≤ y
 ·rw [decide_eq_true e]; exact H e
 ·rw [decide_eq_false e]; exact H' e
theorem bXi (H : y < x → Ev (fun n => k n (.b true) h) P) (H' : ¬ y < x → Ev (fun n => k n (.b false) h) P) : Ev (fun n => bnd (aR .gtr (.i q x) (.i q y) h) (k n)) P := by
 refine Ev.op (iD .gtr (.b (decide (x > y))) rfl) ?_
 by_cases e : y < x
 ·rw [decide_eq_true e]; exact H e
 ·rw [decide_eq_false e]; exact H' e
theorem bWz (H : y ≤ x → Ev (fun n => k n (.b true) h) P) (H' : ¬ y ≤ x → Ev (fun n => k n (.b false) h) P) : Ev (fun n => bnd (aR .geq (.i q x) (.i q y) h) (k n)) P := by
 refine Ev.op (iD .geq (.b (decide (x ≥ y))) rfl) ?_
 by_cases e : y ≤ x
 ·rw [decide_eq_true e]; exact H e
 ·rw [decide_eq_false e]; exact H' e
theorem bYt (H : s = t → Ev (fun n => k n (.b true) h) P) (H' : s ≠ t → Ev (fun n => k n (.b false) h) P) : Ev (fun n => bnd (fZ .eql (.s s) (.s t) h) (k n)) P := by
 refine Ev.op (aOs s t h) ?_
 by_cases e : s = t
 ·rw [show sK s t = true by rw [jL]; exact e]; exact H e
 ·rw [show sK s t = false by rw [aHo]; simp [e]]; exact H' e
theorem bYu (H : s ≠ t → Ev (fun n => k n (.b true) h) P) (H' : s = t → Ev (fun n => k n (.b false) h) P) : Ev (fun n => bnd (fZ .neq (.s s) (.s t) h) (k n)) P := by
 refine Ev.op (bHt s t h) ?_
 by_cases e : s = t
 ·rw [show sK s t = true by rw [jL]; exact e]; exact H' e
 ·rw [show sK s t = false by rw [aHo]; simp [e]]; exact H e
theorem bWa (H : Ev (fun n => k n (.i q (q.wrap (x + y))) h) P) : Ev (fun n => bnd (aR .add (.i q x) (.i q y) h) (k n)) P := Ev.op (iD .add _ rfl) H
theorem bXm (H : Ev (fun n => k n (.i q (q.wrap (x - y))) h) P) : Ev (fun n => bnd (aR .sub (.i q x) (.i q y) h) (k n)) P := Ev.op (iD .sub _ rfl) H
theorem bZf (H : Ev (fun n => k n (.i q (q.wrap (x * y))) h) P) : Ev (fun n => bnd (aR .mul (.i q x) (.i q y) h) (k n)) P := Ev.op (iD .mul _ rfl) H
theorem bXa (hl : s.length + t.length ≤ 9223372036854775807) (H : Ev (fun n => k n (.s (s ++ t)) h) P) : Ev (fun n => bnd (fZ .add (.s s) (.s t) h) (k n)) P := by
 refine Ev.op (v := .s (s ++ t)) (h := h) ?_ H
 have e : ¬ (((s.length + t.length : Nat) : Int) > IntKind.i64.max) := by
  have : IntKind.i64.max = 9223372036854775807 := by rfl
  omega
 show (match xS .add s t with
  | some v => some (v, h)
  | none => none) = _
 unfold xS
 simp only [if_neg e]
end
abbrev Im := Pos → Option Ob
def ILe (I J : Im) : Prop := ∀ b o, I b = some o → J b = some o
theorem ILe.refl (I : Im) : ILe I I := fun _ _ h => h
theorem ILe.trans {I J K : Im} (a : ILe I J) (b : ILe J K) : ILe I K := fun x o h => b x o (a x o h)
abbrev Ls := List (Pos × Option Ob)
structure Sy (I : Im) (A Q L : Ls) (h : Hp) : Prop where
 wf : Wf h
 im : ∀ b o, I b = some o → h.bl.get b = some o
 loc : ∀ b o, (b, o) ∈ A ++ Q ++ L → h.bl.get b = o
 lt : ∀ b o, (b, o) ∈ A ++ Q ++ L → b.toNat < h.next.toNat
 nd : ((A ++ Q ++ L).map (·.1)).Nodup
 dj : ∀ b o, (b, o) ∈ A ++ Q ++ L → I b = none
theorem aEa {I : Im} {A Q L A' Q' L' : Ls} {h : Hp} (p : List.Perm (A ++ Q ++ L) (A' ++ Q' ++ L')) (S : Sy I A Q L h) : Sy I A' Q' L' h where
 wf := S.wf
 im := S.im
 loc := fun b o m => S.loc b o (p.mem_iff.2 m)
 lt := fun b o m => S.lt b o (p.mem_iff.2 m)
 nd := (p.map _).nodup_iff.1 S.nd
 dj := fun b o m => S.dj b o (p.mem_iff.2 m)
theorem bJc {I : Im} {A Q L A' Q' L' : Ls} {h : Hp} (p : List.Sublist (A' ++ Q' ++ L') (A ++ Q ++ L)) (S : Sy I A Q L h) : Sy I A' Q' L' h where
 wf := S.wf
 im := S.im
 loc := fun b o m => S.loc b o (p.subset m)
 lt := fun b o m => S.lt b o (p.subset m)
 nd := (p.map _).nodup S.nd
 dj := fun b o m => S.dj b o (p.subset m)
theorem Sy.dropL {I : Im} {A Q L : Ls} {e : Pos × Option Ob} {h : Hp} (S : Sy I A Q (e :: L) h) : Sy I A Q L h :=
 bJc (by rw [List.append_assoc, List.append_assoc]; exact (List.Sublist.refl _).append ((List.Sublist.refl _).append (List.sublist_cons_self _ _))) S
theorem bZk {I : Im} {A Q L : Ls} {e : Pos × Option Ob} {h : Hp} (S : Sy I A Q (e :: L) h) : Sy I A (Q ++ [e]) L h :=
 aEa (by simp) S
theorem bZl {I : Im} {A Q L : Ls} {e : Pos × Option Ob} {h : Hp} (S : Sy I A (Q ++ [e]) L h) : Sy I A Q (e :: L) h :=
 aEa (by simp) S
theorem Sy.add {I : Im} {A Q L : Ls} {h : Hp} (S : Sy I A Q L h) {h' : Hp} (o : Option Ob) (e1 : h'.next = h.next.succ) (e2 : ∀ b, h'.bl.get b = if b = h.next then o else h.bl.get b) : Sy I A Q ((h.next, o) :: L) h' := by
 have ne : ∀ b x, (b, x) ∈ A ++ Q ++ L → b ≠ h.next := fun b x m e => by
  have := S.lt b x m
  rw [e] at this
  omega
 have fresh : h.bl.get h.next = none := by
  cases e : h.bl.get h.next with
  | none => rfl
  | some o => exact absurd (S.wf _ _ e) (Nat.lt_irrefl _)
 have mem : ∀ b x, (b, x) ∈ A ++ Q ++ (h.next, o) :: L → (b = h.next ∧ x = o) ∨ (b, x) ∈ A ++ Q ++ L := fun b x m => by
  simp only [List.mem_append, List.mem_cons, bS] at m ⊢
  rcases m with (m | m) | (m | m)
  ·exact .inr (.inl (.inl m))
  ·exact .inr (.inl (.inr m))
  ·exact .inl m
  ·exact .inr (.inr m)
 have inone : I h.next = none := by
  cases e : I h.next with
  | none => rfl
  | some o => rw [S.im _ _ e] at fresh; cases fresh
 refine ⟨?_, ?_, ?_, ?_, ?_, ?_⟩
 ·intro b x e
  rw [e1, bVy]
  rw [e2] at e
  split at e
  ·rename_i hb; rw [hb]; omega
  ·have := S.wf b x e; omega
 ·intro b x e
  have hb : b ≠ h.next := fun e3 => by rw [e3, inone] at e; cases e
  rw [e2, if_neg hb]
  exact S.im b x e
 ·intro b x m
  rw [e2]
  rcases mem b x m with ⟨rfl, rfl⟩ | m
  ·rw [if_pos rfl]
  ·rw [if_neg (ne b x m)]; exact S.loc b x m
 ·intro b x m
  rw [e1, bVy]
  rcases mem b x m with ⟨rfl, rfl⟩ | m
  ·omega
  ·have := S.lt b x m; omega
 ·have p : List.Perm ((A ++ Q ++ (h.next, o) :: L).map (·.1)) (h.next :: (A ++ Q ++ L).map (·.1)) := by
   have : List.Perm (A ++ Q ++ (h.next, o) :: L) ((h.next, o) :: (A ++ Q ++ L)) := List.perm_middle
   exact this.map _
  rw [p.nodup_iff, List.nodup_cons]
  refine ⟨fun m => ?_, S.nd⟩
  obtain ⟨⟨b, x⟩, m, e⟩ := List.mem_map.1 m
  exact ne b x m e
 ·intro b x m
  rcases mem b x m with ⟨rfl, rfl⟩ | m
  ·exact inone
  ·exact S.dj b x m
theorem Sy.new {I : Im} {A Q L : Ls} {h : Hp} (S : Sy I A Q L h) (o : Ob) : Sy I A Q ((h.next, some o) :: L) (nw o h) :=
 S.add (some o) rfl (fun b => bWc o h.next b h.bl)
theorem Sy.res {I : Im} {A Q L : Ls} {h : Hp} (S : Sy I A Q L h) : Sy I A Q ((h.next, none) :: L) (gI 1 h) := by
 refine S.add none rfl (fun b => ?_)
 show h.bl.get b = _
 split
 ·rename_i hb
  rw [hb]
  cases e : h.bl.get h.next with
  | none => rfl
  | some o => exact absurd (S.wf _ _ e) (Nat.lt_irrefl _)
 ·rfl
inductive Rpl (b : Pos) (o o' : Option Ob) : Ls → Ls → Prop
 | head (L : Ls) : Rpl b o o' ((b, o) :: L) ((b, o') :: L)
 | tail (e : Pos × Option Ob) {L L' : Ls} : Rpl b o o' L L' → Rpl b o o' (e :: L) (e :: L')
theorem Rpl.keys {b : Pos} {o o' : Option Ob} {L L' : Ls} (r : Rpl b o o' L L') : L'.map (·.1) = L.map (·.1) := by
 induction r with
 | head L => rfl
 | tail e _ ih => simp [ih]
theorem Rpl.at {b : Pos} {o o' : Option Ob} {L L' : Ls} (r : Rpl b o o' L L') : (b, o) ∈ L ∧ (b, o') ∈ L' := by
 induction r with
 | head L => simp
 | tail e _ ih => simp [ih]
theorem Rpl.mem {b : Pos} {o o' : Option Ob} {L L' : Ls} (r : Rpl b o o' L L') (nd : (L.map (·.1)).Nodup) : ∀ c x, (c, x) ∈ L' → (c = b ∧ x = o') ∨ (c ≠ b ∧ (c, x) ∈ L) := by
 induction r with
 | head L =>
  intro c x m
  rcases List.mem_cons.1 m with m2 | m2
  ·cases m2; exact .inl ⟨rfl, rfl⟩
  ·refine .inr ⟨fun e => ?_, List.mem_cons_of_mem _ m2⟩
   subst e
   rw [List.map_cons, List.nodup_cons] at nd
   exact nd.1 (List.mem_map.2 ⟨_, m2, rfl⟩)
 | tail e r ih =>
  intro c x m
  rw [List.map_cons, List.nodup_cons] at nd
  rcases List.mem_cons.1 m with m | m
  ·subst m
   refine .inr ⟨fun e => ?_, by simp⟩
   subst e
   exact nd.1 (List.mem_map.2 ⟨_, r.at.1, rfl⟩)
  ·rcases ih nd.2 c x m with h | ⟨h1, h2⟩
   ·exact .inl h
   ·exact .inr ⟨h1, by simp [h2]⟩
theorem Sy.setAll {I : Im} {A Q L A' Q' L' : Ls} {h h' : Hp} {b : Pos} {o : Option Ob} {o' : Ob} (S : Sy I A Q L h) (r : Rpl b o (some o') (A ++ Q ++ L) (A' ++ Q' ++ L'))
 (e1 : h'.next = h.next) (e2 : ∀ c, h'.bl.get c = if c = b then some o' else h.bl.get c) : Sy I A' Q' L' h' := by
 have mem := r.mem S.nd
 have hb := S.lt b o r.at.1
 refine ⟨?_, ?_, ?_, ?_, ?_, ?_⟩
 ·intro c x e
  rw [e1]
  rw [e2] at e
  split at e
  ·rename_i hc; rw [hc]; exact hb
  ·exact S.wf c x e
 ·intro c x e
  have hc : c ≠ b := fun e3 => by rw [e3, S.dj b o r.at.1] at e; cases e
  rw [e2, if_neg hc]
  exact S.im c x e
 ·intro c x m
  rw [e2]
  rcases mem c x m with ⟨rfl, rfl⟩ | ⟨hc, m⟩
  ·rw [if_pos rfl]
  ·rw [if_neg hc]; exact S.loc c x m
 ·intro c x m
  rw [e1]
  rcases mem c x m with ⟨rfl, rfl⟩ | ⟨hc, m⟩
  ·exact hb
  ·exact S.lt c x m
 ·rw [r.keys]; exact S.nd
 ·intro c x m
  rcases mem c x m with ⟨rfl, rfl⟩ | ⟨hc, m⟩
  ·exact S.dj c o r.at.1
  ·exact S.dj c x m
theorem Rpl.left (A : Ls) {b : Pos} {o o' : Option Ob} {L L' : Ls} (r : Rpl b o o' L L') : Rpl b o o' (A ++ L) (A ++ L') := by
 induction A with
 | nil => exact r
 | cons e A ih => exact .tail e ih
theorem Rpl.right (A : Ls) {b : Pos} {o o' : Option Ob} {L L' : Ls} (r : Rpl b o o' L L') : Rpl b o o' (L ++ A) (L' ++ A) := by
 induction r with
 | head L => exact .head _
 | tail e _ ih => exact .tail e ih
theorem Sy.setL {I : Im} {A Q L L' : Ls} {h h' : Hp} {b : Pos} {o : Option Ob} {o' : Ob} (S : Sy I A Q L h) (r : Rpl b o (some o') L L')
 (e1 : h'.next = h.next) (e2 : ∀ c, h'.bl.get c = if c = b then some o' else h.bl.get c) : Sy I A Q L' h' := S.setAll (r.left _) e1 e2
theorem Sy.setQ {I : Im} {A Q Q' L : Ls} {h h' : Hp} {b : Pos} {o : Option Ob} {o' : Ob} (S : Sy I A Q L h) (r : Rpl b o (some o') Q Q')
 (e1 : h'.next = h.next) (e2 : ∀ c, h'.bl.get c = if c = b then some o' else h.bl.get c) : Sy I A Q' L h' := S.setAll ((r.left A).right L) e1 e2
theorem Sy.setA {I : Im} {A A' Q L : Ls} {h h' : Hp} {b : Pos} {o : Option Ob} {o' : Ob} (S : Sy I A Q L h) (r : Rpl b o (some o') A A')
 (e1 : h'.next = h.next) (e2 : ∀ c, h'.bl.get c = if c = b then some o' else h.bl.get c) : Sy I A' Q L h' := S.setAll ((r.right Q).right L) e1 e2
noncomputable def Im.put (I : Im) (b : Pos) (o : Ob) : Im := fun c => if c = b then some o else I c
theorem Sy.freeze {I : Im} {A Q L : Ls} {h : Hp} {b : Pos} {o : Ob} (S : Sy I A Q ((b, some o) :: L) h) : Sy (I.put b o) A Q L h ∧ ILe I (I.put b o) := by
 have hb : (b, some o) ∈ A ++ Q ++ (b, some o) :: L := by simp
 have S' := S.dropL
 have nb : ∀ c x, (c, x) ∈ A ++ Q ++ L → c ≠ b := by
  intro c x m e
  subst e
  have p : List.Perm ((A ++ Q ++ (c, some o) :: L).map (·.1)) (c :: (A ++ Q ++ L).map (·.1)) := (List.perm_middle (a := (c, some o)) (l₁ := A ++ Q) (l₂ := L)).map _
  have := p.nodup_iff.1 S.nd
  rw [List.nodup_cons] at this
  exact this.1 (List.mem_map.2 ⟨_, m, rfl⟩)
 refine ⟨⟨S.wf, ?_, S'.loc, S'.lt, S'.nd, ?_⟩, ?_⟩
 ·intro c x e
  unfold Im.put at e
  split at e
  ·rename_i hc; subst hc; cases e; exact S.loc _ _ hb
  ·exact S.im c x e
 ·intro c x m
  unfold Im.put
  rw [if_neg (nb c x m)]
  exact S'.dj c x m
 ·intro c x e
  have : c ≠ b := fun e2 => by rw [e2, S.dj b _ hb] at e; cases e
  unfold Im.put
  rw [if_neg this]
  exact e
theorem bWv (I : Im) (b : Pos) (o : Ob) : I.put b o b = some o := by simp [Im.put]
theorem Sy.memL {I : Im} {A Q L : Ls} {h : Hp} {b : Pos} {o : Ob} (S : Sy I A Q L h) (m : (b, some o) ∈ L) : h.bl.get b = some o := S.loc b _ (by simp [m])
theorem Sy.memQ {I : Im} {A Q L : Ls} {h : Hp} {b : Pos} {o : Ob} (S : Sy I A Q L h) (m : (b, some o) ∈ Q) : h.bl.get b = some o := S.loc b _ (by simp [m])
theorem Sy.memA {I : Im} {A Q L : Ls} {h : Hp} {b : Pos} {o : Ob} (S : Sy I A Q L h) (m : (b, some o) ∈ A) : h.bl.get b = some o := S.loc b _ (by simp [m])
section
variable {I : Im} {A Q L L' Q' : Ls} {h : Hp} {k : Nat → DV → Hp → aG} {P : DV → Hp → Prop} {b : Pos} {kd : Kind} {l l' cs : List DV} {o n : Nat} {v : DV}
theorem Ev.new (S : Sy I A Q L h) (H : ∀ b h', Sy I A Q ((b, some (.row .ex cs)) :: L) h' → Ev (fun n => k n (.p b 0) h') P) : Ev (fun n => bnd (cK cs h) (k n)) P :=
 Ev.op (bSd cs h) (H _ _ (S.new _))
theorem Ev.box (S : Sy I A Q L h) (e : cD v = some cs) (H : ∀ b h', Sy I A Q ((b, some (.row .ex cs)) :: L) h' → Ev (fun n => k n (.p b 0) h') P) : Ev (fun n => bnd (iH v h) (k n)) P := by
 have e2 : iH v h = cK cs h := by unfold iH; rw [e]
 rw [e2]
 exact Ev.new S H
theorem bYv (hg : h.bl.get b = some (.row kd l)) (e : l[o]? = some v) (hv : v.one = true) (H : Ev (fun n => k n v h) P) : Ev (fun n => bnd (aB (.p b o) h) (k n)) P := Ev.op (ld1 hg e hv) H
theorem bXj (S : Sy I A Q L h) (m : (b, some (.row kd l)) ∈ L) (e : l[o]? = some v) (hv : v.one = true) (H : Ev (fun n => k n v h) P) : Ev (fun n => bnd (aB (.p b o) h) (k n)) P := bYv (S.memL m) e hv H
theorem bZm (S : Sy I A Q L h) (m : (b, some (.row kd l)) ∈ Q) (e : l[o]? = some v) (hv : v.one = true) (H : Ev (fun n => k n v h) P) : Ev (fun n => bnd (aB (.p b o) h) (k n)) P := bYv (S.memQ m) e hv H
theorem bZn (hg : h.bl.get b = some (.row kd l)) (e : iR n (l.drop o) = some cs) (H : Ev (fun n => k n (.a cs) h) P) : Ev (fun m => bnd (aD n (.p b o) h) (k m)) P := Ev.op (ldA hg e) H
theorem sG (h1 : l.length = n) (h2 : ∀ v ∈ l, v.one = true) : iR n (l.drop 0) = some l := by
 subst h1; simpa using wN l h2
theorem bXs (S : Sy I A Q L h) (m : (b, some (.row kd l)) ∈ L) (h1 : l.length = n) (h2 : ∀ v ∈ l, v.one = true) (H : Ev (fun n => k n (.a l) h) P) : Ev (fun m => bnd (aD n (.p b 0) h) (k m)) P := bZn (S.memL m) (sG h1 h2) H
theorem aLy {kw : Kind} (hk : kw.writable = true) (hg : h.bl.get b = some (.row kw l)) (h1 : l.length = n) (h2 : ∀ v ∈ l, v.one = true) (h3 : l'.length = n) (h4 : ∀ v ∈ l', v.one = true) :
 aC n (.p b 0) (.a l') h = some (dI, ⟨h.next, Tr.set (.row kw l') b h.bl⟩) := by
 have hp : jJ 0 l l' = some l' := aBy l l' (by omega) h2 h4
 simp [aC, cD, h3, gP, hg, hk, hp]
theorem bZg (S : Sy I A Q L h) (r : Rpl b (some (.row .ex l)) (some (.row .ex l')) L L') (h1 : l.length = n) (h2 : ∀ v ∈ l, v.one = true) (h3 : l'.length = n) (h4 : ∀ v ∈ l', v.one = true)
 (H : ∀ h', Sy I A Q L' h' → Ev (fun n => k n dI h') P) : Ev (fun m => bnd (aC n (.p b 0) (.a l') h) (k m)) P :=
 Ev.op (aLy rfl (S.memL r.at.1) h1 h2 h3 h4) (H _ (S.setL r rfl (fun c => bWc _ _ _ _)))
theorem vT (hv : v.one = true) : cD v = some [v] := by
 cases v <;> first | rfl | cases hv
theorem aCb : ∀ (o : Nat) (l : List DV), (∃ x, l[o]? = some x ∧ x.one = true) → v.one = true → jJ o l [v] = some (l.set o v)
 | 0, [], h, _ => by obtain ⟨x, h, _⟩ := h; simp at h
 | 0, x :: l, h, hv => by
  obtain ⟨y, h1, h2⟩ := h
  simp at h1
  subst h1
  simp [jJ, pX, hv, h2]
 | o + 1, [], h, _ => by obtain ⟨x, h, _⟩ := h; simp at h
 | o + 1, x :: l, h, hv => by
  have := aCb o l (by simpa using h) hv
  simp [jJ, this]
theorem wS {kw : Kind} (hk : kw.writable = true) (hg : h.bl.get b = some (.row kw l)) (h1 : ∃ x, l[o]? = some x ∧ x.one = true) (hv : v.one = true) :
 aC 1 (.p b o) v h = some (dI, ⟨h.next, Tr.set (.row kw (l.set o v)) b h.bl⟩) := by
 simp [aC, vT hv, gP, hg, hk, aCb o l h1 hv]
theorem bZo (S : Sy I A Q L h) (r : Rpl b (some (.row .ex l)) (some (.row .ex l')) L L') (e : l.set o v = l') (h1 : ∃ x, l[o]? = some x ∧ x.one = true) (hv : v.one = true)
 (H : ∀ h', Sy I A Q L' h' → Ev (fun n => k n dI h') P) : Ev (fun m => bnd (aC 1 (.p b o) v h) (k m)) P := by
 subst e
 exact Ev.op (wS rfl (S.memL r.at.1) h1 hv) (H _ (S.setL r rfl (fun c => bWc _ _ _ _)))
theorem bZp (S : Sy I A Q L h) (r : Rpl b (some (.row .ex l)) (some (.row .ex l')) Q Q') (e : l.set o v = l') (h1 : ∃ x, l[o]? = some x ∧ x.one = true) (hv : v.one = true)
 (H : ∀ h', Sy I A Q' L h' → Ev (fun n => k n dI h') P) : Ev (fun m => bnd (aC 1 (.p b o) v h) (k m)) P := by
 subst e
 exact Ev.op (wS rfl (S.memQ r.at.1) h1 hv) (H _ (S.setQ r rfl (fun c => bWc _ _ _ _)))
theorem bWl (S : Sy I A Q L h) {z : List DV} {ps : List (Nat × Nat × DV)} (e : cI z ps = some cs) (H : ∀ b h', Sy I A Q ((b, some (.row .ex cs)) :: L) h' → Ev (fun m => k m (.l b 0 n n) h') P) : Ev (fun m => bnd (aM z n ps h) (k m)) P := by
 refine Ev.op (v := .l h.next 0 n n) (h := nw (.row .ex cs) h) ?_ (H _ _ (S.new _))
 unfold aM
 rw [e]
 rfl
theorem bZh (S : Sy I A Q L h) {z : List DV} {ps : List (Nat × Nat × DV)} (r : Rpl b none (some (.row .ex cs)) L L') (e : cI z ps = some cs)
 (H : ∀ h', Sy I A Q L' h' → Ev (fun m => k m (.l b 0 n n) h') P) : Ev (fun m => bnd (aX b z n ps h) (k m)) P := by
 refine Ev.op (v := .l b 0 n n) (h := ⟨h.next, Tr.set (.row .ex cs) b h.bl⟩) ?_ (H _ (S.setL r rfl (fun c => bWc _ _ _ _)))
 unfold aX
 rw [e]
theorem bZq {z : List DV} {ps : List (Nat × Nat × DV)} (e : cI z ps = some cs) (H : Ev (fun n => k n (.a cs) h) P) : Ev (fun n => bnd (cW z ps h) (k n)) P := by
 refine Ev.op (v := .a cs) (h := h) ?_ H
 unfold cW
 rw [e]
theorem bGw {S : Sy I A Q L h} (m : (b, some (.row kd l)) ∈ L) (e : l[o]? = some v) (hv : v.one = true) (hb : DV.beq v v = true) : bU (aB (.p b o) h) v = true := by
 rw [ld1 (S.memL m) e hv]; exact hb
end
end Go.Dd

namespace Go.Dd
open Go.Proofs Go.RowKit
theorem bZa : Sy (fun _ => none) [] [] [] h00 where
 wf := fun b o e => by cases b <;> cases e
 im := fun b o e => by cases e
 loc := fun b o m => by simp at m
 lt := fun b o m => by simp at m
 nd := by simp
 dj := fun b o m => by simp at m
theorem aUz {f : FuncId} {s : ByteArray} {F : Nat → aG} (e : ∀ n, aO CF (qX 10 true n) n f [.s (s.data.toList.map (·.toNat))] h00 = F n) (H : Ev F (fun v _ => v = .b true)) (fn : Func) (hf : Tryz.prog.funcs[f]? = some fn) (hb : fn.body.isSome = true) (w : World) (W : Facts w) :
 Calls Tryz.prog f #[.string s] w fun e w' => e = .returned (.bool true) ∧ Below w.heap.size w w' := by
 obtain ⟨v, h1, N, rfl, hN⟩ := H
 have hr := (e N).trans (hN N (Nat.le_refl _))
 obtain ⟨hl, el⟩ := aYg
 rcases aLd (bBl el Tryz.f10 Tryz.func10 (by kernel_rfl)) Try_ok N f _ h00 _ h1 hr _ w #[.string s] ((Ro.none w).hr W) (.cons _ _ _ _ (.s _ s rfl) .nil) with ⟨_, h⟩ | ⟨ρ', w', v', h, _⟩
 ·refine h.mono ?_
  rintro e w' ⟨ρ', v', rfl, h2, h3, h4, h5⟩
  cases h3
  exact ⟨rfl, h5.low⟩
 ·exfalso
  have hf' : CF.P.funcs[f]? = some fn := hf
  have hn : ¬ fn.name = "runtime.NumGoroutine" := by simpa using Try_ok.names f fn hf'
  have hbn : fn.body ≠ none := by intro e; rw [e] at hb; cases hb
  unfold callFunc at h
  simp [hf', hn, hbn] at h
theorem aRp (s : ByteArray) : ∀ c ∈ s.data.toList.map (·.toNat), c < 256 := by
 intro c hc
 obtain ⟨b, _, rfl⟩ := List.mem_map.1 hc
 exact b.toNat_lt
end Go.Dd

namespace Go.Dd
open Go.Proofs
def bV : Nat := 100000000000
structure Tok where
 kind : Int
 text : List Nat
 num : Int
 pos : Int
def tc (t : Tok) : List DV := [.i .i64 t.kind, .s t.text, .i .i64 t.num, .i .i64 t.pos]
inductive Node where
 | mk (kind : Int) (text : List Nat) (num : Int) (names temps : List (List Nat)) (kids : List Node)
def Fz (I : Im) (sz : Nat) (s : DV) (len : Nat) (cells : List DV) : Prop :=
 ((s = .l0 ∨ s = .le) ∧ len = 0 ∧ cells = []) ∨
   ∃ (b : Pos) (o cap : Nat) (k : Kind) (row rest : List DV), s = .l b o len cap ∧ len ≤ cap ∧ I b = some (.row k row) ∧ row.drop o = cells ++ rest ∧ cells.length = len * sz ∧ ∀ v ∈ cells, v.one = true
theorem Fz.mono {I J : Im} (g : ILe I J) {sz : Nat} {s : DV} {len : Nat} {cells : List DV} (H : Fz I sz s len cells) : Fz J sz s len cells := by
 rcases H with H | ⟨b, o, cap, k, row, rest, h1, h2, h3, h4⟩
 ·exact .inl H
 ·exact .inr ⟨b, o, cap, k, row, rest, h1, h2, g _ _ h3, h4⟩
theorem Fz.one {I : Im} {sz : Nat} {s : DV} {len : Nat} {cells : List DV} (H : Fz I sz s len cells) : s.one = true := by
 rcases H with ⟨rfl | rfl, _⟩ | ⟨b, o, cap, k, row, rest, rfl, _⟩ <;> rfl
theorem Fz.beq {I : Im} {sz : Nat} {s : DV} {len : Nat} {cells : List DV} (H : Fz I sz s len cells) : DV.beq s s = true := by
 rcases H with ⟨rfl | rfl, _⟩ | ⟨b, o, cap, k, row, rest, rfl, _⟩
 ·rfl
 ·rfl
 ·simp [DV.beq]
theorem Fz.len {I : Im} {sz : Nat} {s : DV} {len : Nat} {cells : List DV} (H : Fz I sz s len cells) (h : Hp) : hC s h = some (.i .i64 (len : Int), h) := by
 rcases H with ⟨rfl | rfl, rfl, _⟩ | ⟨b, o, cap, k, row, rest, rfl, _⟩ <;> rfl
theorem Fz.at {I : Im} {sz : Nat} {s : DV} {len : Nat} {cells : List DV} (H : Fz I sz s len cells) {A Q L : Ls} {h : Hp} (S : Sy I A Q L h) {i : Nat} (hi : i < len) :
 ∃ b o, (∀ h', aY sz s (.i .i64 (i : Int)) h' = some (.p b o, h')) ∧ ∃ k row, h.bl.get b = some (.row k row) ∧ ∃ rest, row.drop o = cells.drop (i * sz) ++ rest := by
 rcases H with ⟨_, rfl, _⟩ | ⟨b, o, cap, k, row, rest, rfl, h2, h3, h4, h5, h6⟩
 ·omega
 ·refine ⟨b, o + i * sz, fun h' => ?_, k, row, S.im _ _ h3, rest, ?_⟩
  ·show (if 0 ≤ (i : Int) ∧ (i : Int) < (len : Int) then some (DV.p b (o + (i : Int).toNat * sz), h') else none) = _
   rw [if_pos ⟨by omega, by omega⟩]
   rfl
  ·have : i * sz ≤ cells.length := by rw [h5]; exact Nat.mul_le_mul_right _ (by omega)
   rw [← List.drop_drop, h4, List.drop_append_of_le_length this]
theorem Fz.tail {I : Im} {sz : Nat} {s : DV} {len : Nat} {cells : List DV} (H : Fz I sz s len cells) {A Q L : Ls} {h : Hp} (S : Sy I A Q L h) {i : Nat} (hi : i < len) :
 ∃ s', dA sz s (some (.i .i64 (Int.ofNat i))) none h = some (s', h) ∧ Fz I sz s' (len - i) (cells.drop (i * sz)) := by
 rcases H with ⟨_, rfl, _⟩ | ⟨b, o, cap, k, row, rest, rfl, h2, h3, h4, h5, h6⟩
 ·omega
 ·have hle : i * sz ≤ cells.length := by rw [h5]; exact Nat.mul_le_mul_right _ (by omega)
  have hd : row.drop (o + i * sz) = cells.drop (i * sz) ++ rest := by
   rw [← List.drop_drop, h4, List.drop_append_of_le_length hle]
  refine ⟨.l b (o + i * sz) (len - i) (cap - i), ?_, .inr ⟨b, o + i * sz, cap - i, k, row, rest, rfl, by omega, h3, hd, ?_, fun v hv => h6 v (List.mem_of_mem_drop hv)⟩⟩
  ·have e1 : hiD none len cap = some len := by simp [hiD, h2]
   have e2 : loD (some (.i .i64 (Int.ofNat i))) len = some i := by
    show (if 0 ≤ (Int.ofNat i) ∧ (Int.ofNat i) ≤ (len : Int) then some (Int.ofNat i).toNat else none) = _
    have hi' : (Int.ofNat i) = (i : Int) := rfl
    rw [if_pos ⟨by omega, by omega⟩]
    rfl
   have hne : ¬ cap = i := by omega
   unfold dA
   simp only [e1, e2, S.im _ _ h3]
   cases k <;> simp [hne]
  ·rw [List.length_drop, h5, Nat.sub_mul]
def Gr (I : Im) (sz : Nat) (A : Ls) (s : DV) (len : Nat) (cells : List DV) : Prop :=
 cells.length = len * sz ∧ (∀ v ∈ cells, v.one = true) ∧
  ((A = [] ∧ s = .l0 ∧ len = 0) ∨ (A = [] ∧ ∃ b, s = .l b 0 len len ∧ I b = some (.row .ex cells)) ∨ ∃ b, A = [(b, some (.row (.gr sz) cells))] ∧ s = .l b 0 len len)
theorem Gr.nil (I : Im) (sz : Nat) : Gr I sz [] .l0 0 [] := ⟨by simp, by simp, .inl ⟨rfl, rfl, rfl⟩⟩
theorem Gr.one {I : Im} {sz : Nat} {A : Ls} {s : DV} {len : Nat} {cells : List DV} (H : Gr I sz A s len cells) : s.one = true := by
 obtain ⟨_, _, ⟨_, rfl, _⟩ | ⟨_, b, rfl, _⟩ | ⟨b, _, rfl⟩⟩ := H <;> rfl
theorem Gr.beq {I : Im} {sz : Nat} {A : Ls} {s : DV} {len : Nat} {cells : List DV} (H : Gr I sz A s len cells) : DV.beq s s = true := by
 obtain ⟨_, _, ⟨_, rfl, _⟩ | ⟨_, b, rfl, _⟩ | ⟨b, _, rfl⟩⟩ := H
 ·rfl
 ·simp [DV.beq]
 ·simp [DV.beq]
theorem Gr.len {I : Im} {sz : Nat} {A : Ls} {s : DV} {len : Nat} {cells : List DV} (H : Gr I sz A s len cells) (h : Hp) : hC s h = some (.i .i64 (len : Int), h) := by
 obtain ⟨_, _, ⟨_, rfl, rfl⟩ | ⟨_, b, rfl, _⟩ | ⟨b, _, rfl⟩⟩ := H <;> rfl
theorem Gr.mono {I J : Im} (g : ILe I J) {sz : Nat} {A : Ls} {s : DV} {len : Nat} {cells : List DV} (H : Gr I sz A s len cells) : Gr J sz A s len cells := by
 obtain ⟨h1, h2, h3 | ⟨h3, b, h4, h5⟩ | h3⟩ := H
 ·exact ⟨h1, h2, .inl h3⟩
 ·exact ⟨h1, h2, .inr (.inl ⟨h3, b, h4, g _ _ h5⟩)⟩
 ·exact ⟨h1, h2, .inr (.inr h3)⟩
theorem iA (x rest : List DV) (n : Nat) (hn : x.length = n) (ho : ∀ v ∈ x, v.one = true) : iR n (x ++ rest) = some x := by
 subst hn
 induction x with
 | nil => simp [iR]
 | cons y x ih => simp [iR, ho y (by simp), ih (fun v hv => ho v (by simp [hv]))]
theorem Gr.app {I : Im} {sz bytes : Nat} {A A0 Q L : Ls} {s : DV} {len : Nat} {cells : List DV} (H : Gr I sz A s len cells) {h : Hp} (S : Sy I (A ++ A0) Q L h) {x : DV} {n : Nat} {new : List DV} (hs : mQ sz x h = some (n, new))
 (h1 : new.length = n * sz) (h2 : ∀ v ∈ new, v.one = true) (hn : n ≠ 0) (hb : (len + n) * bytes ≤ gZ) :
 ∃ s' h' A', bH sz bytes s x h = some (s', h') ∧ Sy I (A' ++ A0) Q L h' ∧ Gr I sz A' s' (len + n) (cells ++ new) := by
 obtain ⟨g1, g2, g3⟩ := H
 have l' : (cells ++ new).length = (len + n) * sz := by rw [List.length_append, g1, h1, Nat.add_mul]
 have o' : ∀ v ∈ cells ++ new, v.one = true := fun v hv => by
  rcases List.mem_append.1 hv with hv | hv
  ·exact g2 v hv
  ·exact h2 v hv
 have mv : ∀ {e : Pos × Option Ob} {h' : Hp}, Sy I A0 Q (e :: L) h' → Sy I ([e] ++ A0) Q L h' := @fun e h' S => aEa (by
  have : List.Perm (A0 ++ Q ++ e :: L) (e :: (A0 ++ Q ++ L)) := List.perm_middle
  simpa [aJ] using this) S
 rcases g3 with ⟨rfl, rfl, rfl⟩ | ⟨rfl, b, rfl, hI⟩ | ⟨b, rfl, rfl⟩
 ·have hc : cells = [] := by simpa using g1
  subst hc
  refine ⟨.l h.next 0 n n, nw (.row (.gr sz) new) h, [(h.next, some (.row (.gr sz) new))], ?_, mv (Sy.new (by simpa using S) _), ?_⟩
  ·unfold bH
   simp only [hs, if_neg hn]
   rw [Nat.zero_add] at hb
   rw [if_pos hb]
   rfl
  ·simp only [Nat.zero_add, List.nil_append]
   exact ⟨by simpa using l', by simpa using o', .inr (.inr ⟨_, rfl, rfl⟩)⟩
 ·have hg := S.im _ _ hI
  have hc : eD b 0 (len * sz) h = some cells := by
   simp only [eD, lE, hg, List.drop_zero]
   have := iA cells [] (len * sz) g1 g2
   simpa [aJ] using this
  refine ⟨.l h.next 0 (len + n) (len + n), nw (.row (.gr sz) (cells ++ new)) h, [(h.next, some (.row (.gr sz) (cells ++ new)))], ?_, mv (Sy.new (by simpa using S) _), l', o', .inr (.inr ⟨_, rfl, rfl⟩)⟩
  unfold bH
  simp only [hs]
  rw [if_neg (by omega)]
  simp only [hg, hc]
  rw [if_pos hb]
  rfl
 ·have hg := S.memA (b := b) (o := .row (.gr sz) cells) (by simp)
  have hc : eD b 0 (len * sz) h = some cells := by
   simp only [eD, lE, hg, List.drop_zero]
   have := iA cells [] (len * sz) g1 g2
   simpa [aJ] using this
  let h1 : Hp := ⟨h.next, Tr.set (.row .sp (bZ 0 cells)) b h.bl⟩
  have S1 : Sy I ((b, some (.row .sp (bZ 0 cells))) :: A0) Q L h1 := S.setA (Rpl.head A0) rfl (fun c => bWc _ _ _ _)
  have S2 := S1.new (.row (.gr sz) (cells ++ new))
  have S3 : Sy I ([(h.next, some (.row (.gr sz) (cells ++ new)))] ++ A0) Q L (nw (.row (.gr sz) (cells ++ new)) h1) := by
   have S4 : Sy I A0 Q ((h1.next, some (.row (.gr sz) (cells ++ new))) :: L) (nw (.row (.gr sz) (cells ++ new)) h1) :=
    bJc (by simp) S2
   exact mv S4
  refine ⟨.l h.next 0 (len + n) (len + n), _, _, ?_, S3, l', o', .inr (.inr ⟨_, rfl, rfl⟩)⟩
  unfold bH
  simp only [hs]
  rw [if_neg (by omega)]
  simp only [hg, hc]
  rw [if_pos hb]
  have e3 : 0 + len * sz = cells.length := by rw [g1]; omega
  simp only [e3, and_self, if_true]
  rfl
theorem Gr.freeze {I : Im} {sz : Nat} {A A0 Q L : Ls} {s : DV} {len : Nat} {cells : List DV} (H : Gr I sz A s len cells) {h : Hp} (S : Sy I (A ++ A0) Q L h) : ∃ J, ILe I J ∧ Sy J A0 Q L h ∧ Fz J sz s len cells := by
 obtain ⟨g1, g2, g3⟩ := H
 rcases g3 with ⟨rfl, rfl, rfl⟩ | ⟨rfl, b, rfl, hI⟩ | ⟨b, rfl, rfl⟩
 ·have hc : cells = [] := by simpa using g1
  exact ⟨I, ILe.refl _, by simpa using S, .inl ⟨.inl rfl, rfl, hc⟩⟩
 ·exact ⟨I, ILe.refl _, by simpa using S, .inr ⟨b, 0, len, .ex, cells, [], rfl, Nat.le_refl _, hI, by simp, g1, g2⟩⟩
 ·have S1 : Sy I A0 Q ((b, some (.row (.gr sz) cells)) :: L) h := aEa (by
   have : List.Perm (A0 ++ Q ++ (b, some (Ob.row (.gr sz) cells)) :: L) ((b, some (Ob.row (.gr sz) cells)) :: (A0 ++ Q ++ L)) := List.perm_middle
   simpa [aJ] using this.symm) S
  obtain ⟨S2, g⟩ := S1.freeze
  exact ⟨_, g, S2, .inr ⟨b, 0, len, .gr sz, cells, [], rfl, Nat.le_refl _, bWv _ _ _, by simp, g1, g2⟩⟩
theorem Fz.built {I : Im} {sz : Nat} {A Q L : Ls} {b : Pos} {n : Nat} {cells : List DV} {h : Hp} (S : Sy I A Q ((b, some (.row .ex cells)) :: L) h) (h1 : cells.length = n * sz) (h2 : ∀ v ∈ cells, v.one = true) :
 ∃ J, ILe I J ∧ Sy J A Q L h ∧ Fz J sz (.l b 0 n n) n cells ∧ Gr J sz [] (.l b 0 n n) n cells := by
 obtain ⟨S2, g⟩ := S.freeze
 exact ⟨_, g, S2, .inr ⟨b, 0, n, .ex, cells, [], rfl, Nat.le_refl _, bWv _ _ _, by simp, h1, h2⟩, h1, h2, .inr (.inl ⟨rfl, b, rfl, bWv _ _ _⟩)⟩
theorem Fz.src {I : Im} {sz : Nat} {s : DV} {len : Nat} {cells : List DV} (H : Fz I sz s len cells) {A Q L : Ls} {h : Hp} (S : Sy I A Q L h) : mQ sz s h = some (len, cells) := by
 rcases H with ⟨rfl | rfl, rfl, rfl⟩ | ⟨b, o, cap, k, row, rest, rfl, h2, h3, h4, h5, h6⟩
 ·rfl
 ·rfl
 ·have : eD b o (len * sz) h = some cells := by
   simp only [eD, lE, S.im _ _ h3, h4]
   exact iA cells rest (len * sz) h5 h6
  simp [mQ, this]
theorem oS {I : Im} {sz : Nat} {A Q L : Ls} {h : Hp} (S : Sy I A Q L h) {b : Pos} {n : Nat} {cells : List DV} (m : (b, some (.row .ex cells)) ∈ L) (h1 : cells.length = n * sz) (h2 : ∀ v ∈ cells, v.one = true) : mQ sz (.l b 0 n n) h = some (n, cells) := by
 have : eD b 0 (n * sz) h = some cells := by
  simp only [eD, lE, S.memL m, List.drop_zero]
  have := iA cells [] (n * sz) h1 h2
  simpa [aJ] using this
 simp [mQ, this]
def SS (I : Im) (s : DV) (l : List (List Nat)) : Prop := l.length ≤ bV ∧ Fz I 1 s l.length (l.map .s)
def TS' (I : Im) (s : DV) (l : List Tok) : Prop := l.length ≤ bV ∧ Fz I 4 s l.length (l.map tc).flatten
mutual
def NV (I : Im) : Node → List DV → Prop
 | .mk k t m ns ts ks, cs => ∃ s1 s2 s3, cs = [.i .i64 k, .s t, .i .i64 m, s1, s2, s3] ∧ SS I s1 ns ∧ SS I s2 ts ∧ ks.length ≤ bV ∧ ∃ cells, Fz I 6 s3 ks.length cells ∧ NVL I ks cells
def NVL (I : Im) : List Node → List DV → Prop
 | [], cells => cells = []
 | x :: l, cells => ∃ c rest, cells = c ++ rest ∧ NV I x c ∧ NVL I l rest
end
def NS (I : Im) (s : DV) (ks : List Node) : Prop := ks.length ≤ bV ∧ ∃ cells, Fz I 6 s ks.length cells ∧ NVL I ks cells
theorem SS.mono {I J : Im} (g : ILe I J) {s : DV} {l : List (List Nat)} (H : SS I s l) : SS J s l := ⟨H.1, H.2.mono g⟩
theorem TS'.mono {I J : Im} (g : ILe I J) {s : DV} {l : List Tok} (H : TS' I s l) : TS' J s l := ⟨H.1, H.2.mono g⟩
mutual
theorem NV.mono {I J : Im} (g : ILe I J) : ∀ {x : Node} {cs : List DV}, NV I x cs → NV J x cs
 | .mk k t m ns ts ks, cs, ⟨s1, s2, s3, e, a, b, c, cells, f, n⟩ => ⟨s1, s2, s3, e, a.mono g, b.mono g, c, cells, f.mono g, NVL.mono g n⟩
theorem NVL.mono {I J : Im} (g : ILe I J) : ∀ {l : List Node} {cells : List DV}, NVL I l cells → NVL J l cells
 | [], _, e => e
 | x :: l, _, ⟨c, rest, e, a, b⟩ => ⟨c, rest, e, NV.mono g a, NVL.mono g b⟩
end
theorem NS.mono {I J : Im} (g : ILe I J) {s : DV} {l : List Node} (H : NS I s l) : NS J s l := by
 obtain ⟨a, cells, b, c⟩ := H
 exact ⟨a, cells, b.mono g, c.mono g⟩
theorem NV.shape {I : Im} {x : Node} {cs : List DV} (H : NV I x cs) : cs.length = 6 ∧ (∀ v ∈ cs, v.one = true) ∧ DV.beq (.a cs) (.a cs) = true := by
 cases x with
 | mk k t m ns ts ks =>
  obtain ⟨s1, s2, s3, rfl, a, b, c, cells, f, n⟩ := H
  have o1 := a.2.one
  have o2 := b.2.one
  have o3 := f.one
  refine ⟨rfl, ?_, ?_⟩
  ·intro v hv
   simp only [List.mem_cons, List.not_mem_nil, or_false] at hv
   rcases hv with rfl | rfl | rfl | rfl | rfl | rfl
   ·rfl
   ·rfl
   ·rfl
   ·exact o1
   ·exact o2
   ·exact o3
  ·have e : sK t t = true := by rw [jL]
   simp [DV.beq, bWx, e, a.2.beq, b.2.beq, f.beq]
theorem NVL.shape {I : Im} : ∀ {l : List Node} {cells : List DV}, NVL I l cells → cells.length = l.length * 6 ∧ ∀ v ∈ cells, v.one = true
 | [], _, e => by
  have e : _ = [] := e
  subst e; simp
 | x :: l, _, ⟨c, rest, e, a, b⟩ => by
  obtain ⟨h1, h2⟩ := NVL.shape b
  obtain ⟨h3, h4, _⟩ := a.shape
  subst e
  refine ⟨by rw [List.length_append, h1, h3, List.length_cons]; omega, fun v hv => ?_⟩
  rcases List.mem_append.1 hv with hv | hv
  ·exact h4 v hv
  ·exact h2 v hv
theorem NVL.app {I : Im} : ∀ {l l' : List Node} {c c' : List DV}, NVL I l c → NVL I l' c' → NVL I (l ++ l') (c ++ c')
 | [], l', c, c', e, H => by
  have e : c = [] := e
  subst e; simpa using H
 | x :: l, l', _, c', ⟨c, rest, e, a, b⟩, H => by
  subst e
  exact ⟨c, rest ++ c', by simp, a, NVL.app b H⟩
theorem bVz {I : Im} {x : Node} {c : List DV} (H : NV I x c) : NVL I [x] c := ⟨c, [], by simp, H, rfl⟩
theorem NVL.drop {I : Im} : ∀ {l : List Node} {c : List DV} (i : Nat), NVL I l c → NVL I (l.drop i) (c.drop (i * 6))
 | l, c, 0, H => by simpa using H
 | [], c, i + 1, e => by
  have e : c = [] := e
  subst e; simp; rfl
 | x :: l, _, i + 1, ⟨c, rest, e, a, b⟩ => by
  subst e
  have := NVL.drop i b
  rw [List.drop_succ_cons, show (i + 1) * 6 = c.length + i * 6 by rw [a.shape.1]; omega, ← List.drop_drop, List.drop_left]
  exact this
theorem zB : ∀ (l : List Tok) (i : Nat), (l.map tc).flatten.drop (i * 4) = ((l.drop i).map tc).flatten
 | l, 0 => by simp
 | [], i + 1 => by simp
 | t :: l, i + 1 => by
  have := zB l i
  rw [List.map_cons, List.flatten_cons, List.drop_succ_cons, show (i + 1) * 4 = (tc t).length + i * 4 by simp [tc]; omega, ← List.drop_drop, List.drop_left]
  exact this
theorem TS'.tail {I : Im} {s : DV} {l : List Tok} (H : TS' I s l) {A Q L : Ls} {h : Hp} (S : Sy I A Q L h) {i : Nat} (hi : i < l.length) :
 ∃ s', dA 4 s (some (.i .i64 (Int.ofNat i))) none h = some (s', h) ∧ TS' I s' (l.drop i) := by
 obtain ⟨s', e, f⟩ := H.2.tail S hi
 refine ⟨s', e, ?_, ?_⟩
 ·have := H.1
  simp; omega
 ·rw [zB] at f
  simpa using f
theorem TS'.at {I : Im} {s : DV} {l : List Tok} (H : TS' I s l) {A Q L : Ls} {h : Hp} (S : Sy I A Q L h) {i : Nat} {t : Tok} (hi : l[i]? = some t) :
 ∃ b o, (∀ h', aY 4 s (.i .i64 (i : Int)) h' = some (.p b o, h')) ∧ aD 4 (.p b o) h = some (.a (tc t), h) := by
 obtain ⟨hlt, hg⟩ := List.getElem?_eq_some_iff.1 hi
 obtain ⟨b, o, e, k, row, g, rest, d⟩ := H.2.at S hlt
 refine ⟨b, o, e, ldA g ?_⟩
 rw [d, zB, iZ hi, List.map_cons, List.flatten_cons, List.append_assoc]
 refine iA (tc t) _ 4 rfl ?_
 intro v hv
 simp only [tc, List.mem_cons, List.not_mem_nil, or_false] at hv
 rcases hv with rfl | rfl | rfl | rfl <;> rfl
end Go.Dd

