/- A part of the proof: Q0 Q1 Q2 Q3 Q4: each text has a comment of its own. -/
import Derived.Test.YtliejomdaookoaaGreatDoorSd0
set_option linter.unusedVariables false
set_option linter.unusedSimpArgs false
set_option linter.constructorNameAsVariable false
set_option maxRecDepth 100000
namespace Go.Dd
open Go.Proofs
noncomputable section
variable (rec : RT) (n : Nat)
def s3 (rec : RT) (n : Nat) (x0 : DV) (h0 : Hp) : aH :=
 bnd (dW x0 h0) fun v1 h1 =>
 bnd (aE 6 v1 h1) fun v2 h2 =>
 bnd (rec 9 [v2] h2) fun v3 h3 =>
 bnd (jZ .not v3 h3) fun v4 h4 =>
 aU v4 (
 bnd (rec 10 [] h4) fun v5 h5 =>
 some (v5, h5)) (
 bnd (aE 6 v1 h4) fun v6 h6 =>
 bnd (rec 11 [v6] h6) fun v7 h7 =>
 bnd (aK 0 v7 h7) fun v8 h8 =>
 bnd (aK 1 v7 h8) fun v9 h9 =>
 bnd (aE 6 v1 h9) fun v10 h10 =>
 bnd (rec 12 [v10, (.b true)] h10) fun v11 h11 =>
 bnd (aK 0 v11 h11) fun v12 h12 =>
 bnd (aK 1 v11 h12) fun v13 h13 =>
 bnd (bY .eql v8 v12 h13) fun v14 h14 =>
 bnd (gD v14 true (some (v9, h14)) h14) fun v15 h15 =>
 bnd (gD v14 true (some (v13, h15)) h15) fun v16 h16 =>
 bnd (gD v14 true (aF .eql v15 v16 h16) h16) fun v17 h17 =>
 bnd (aV v14 v17 (.b false) h17) fun v18 h18 =>
 bnd (gD v18 true (rec 10 [] h18) h18) fun v19 h19 =>
 bnd (aV v18 v19 (.b false) h19) fun v20 h20 =>
 some (v20, h20))
abbrev c3 : Code := cf Tryz.f3
abbrev r3 : K := bD CF Tryz.f3
def D3 (rec : RT) (n : Nat) (c : Code) (X : Nat → K) (k : K) : K := aR CF rec 34 n c X r3 k
theorem s3m : D3 rec n c3 x0 r3 = (K1 (s3 rec n) 0) :=
 (by kernel_rfl)
theorem dPb (args : List DV) (h : Hp) : aL CF rec n 3 args h = s3 rec n (args.getD 0 aA) h :=
 cZ (s3m rec n) args h (by kernel_rfl) (by kernel_rfl)
def s4 (rec : RT) (n : Nat) (x0 : DV) (h0 : Hp) : aH :=
 bnd (dW x0 h0) fun v1 h1 =>
 bnd (aE 6 v1 h1) fun v2 h2 =>
 bnd (rec 9 [v2] h2) fun v3 h3 =>
 bnd (jZ .not v3 h3) fun v4 h4 =>
 aU v4 (
 bnd (rec 10 [] h4) fun v5 h5 =>
 some (v5, h5)) (
 bnd (aE 6 v1 h4) fun v6 h6 =>
 bnd (rec 13 [v6] h6) fun v7 h7 =>
 bnd (aK 0 v7 h7) fun v8 h8 =>
 bnd (aK 1 v7 h8) fun v9 h9 =>
 bnd (aE 6 v1 h9) fun v10 h10 =>
 bnd (rec 12 [v10, (.b false)] h10) fun v11 h11 =>
 bnd (aK 0 v11 h11) fun v12 h12 =>
 bnd (aK 1 v11 h12) fun v13 h13 =>
 bnd (bY .eql v8 v12 h13) fun v14 h14 =>
 bnd (gD v14 true (some (v9, h14)) h14) fun v15 h15 =>
 bnd (gD v14 true (some (v13, h15)) h15) fun v16 h16 =>
 bnd (gD v14 true (aF .eql v15 v16 h16) h16) fun v17 h17 =>
 bnd (aV v14 v17 (.b false) h17) fun v18 h18 =>
 bnd (gD v18 true (rec 10 [] h18) h18) fun v19 h19 =>
 bnd (aV v18 v19 (.b false) h19) fun v20 h20 =>
 some (v20, h20))
abbrev c4 : Code := cf Tryz.f4
abbrev r4 : K := bD CF Tryz.f4
def D4 (rec : RT) (n : Nat) (c : Code) (X : Nat → K) (k : K) : K := aR CF rec 34 n c X r4 k
theorem s4m : D4 rec n c4 x0 r4 = (K1 (s4 rec n) 0) :=
 (by kernel_rfl)
theorem dKx (args : List DV) (h : Hp) : aL CF rec n 4 args h = s4 rec n (args.getD 0 aA) h :=
 cZ (s4m rec n) args h (by kernel_rfl) (by kernel_rfl)
def dHp (rec : RT) (n : Nat) (h0 : Hp) : aH :=
 bnd (rec 10 [] h0) fun v1 h1 =>
 some (v1, h1)
def dOy (rec : RT) (n : Nat) (x12 x14 : DV) (h0 : Hp) : aH :=
 bnd (aF .eql x14 (.i .i64 (Int.ofNat 0)) h0) fun v1 h1 =>
 aU v1 (
 bnd (aE 6 x12 h1) fun v2 h2 =>
 bnd (rec 11 [v2] h2) fun v3 h3 =>
 bnd (aK 0 v3 h3) fun v4 h4 =>
 bnd (aK 1 v3 h4) fun v5 h5 =>
 bnd (rec 17 [v4] h5) fun v6 h6 =>
 bnd (aK 0 v6 h6) fun v7 h7 =>
 bnd (aK 1 v6 h7) fun v8 h8 =>
 bnd (aK 2 v6 h8) fun v9 h9 =>
 bnd (bG [(.i .i64 (Int.ofNat 0)), (.s []), (.i .i64 (Int.ofNat 0)), .l0, .l0, .l0] h9) fun v10 h10 =>
 bnd (aC 6 v10 v7 h10) fun _ h11 =>
 bnd (aE 6 x12 h11) fun v12 h12 =>
 bnd (aE 6 v10 h12) fun v13 h13 =>
 bnd (rec 16 [v12, v13] h13) fun v14 h14 =>
 bnd (aF .neq v5 (.i .i64 (Int.ofNat 0)) h14) fun v15 h15 =>
 bnd (gD v15 false (some (v9, h15)) h15) fun v16 h16 =>
 bnd (gD v15 false (aF .neq v16 (.i .i64 (Int.ofNat 0)) h16) h16) fun v17 h17 =>
 bnd (aV v15 (.b true) v17 h17) fun v18 h18 =>
 bnd (gD v18 false (some (v14, h18)) h18) fun v19 h19 =>
 bnd (gD v18 false (jZ .not v19 h19) h19) fun v20 h20 =>
 bnd (aV v18 (.b true) v20 h20) fun v21 h21 =>
 aU v21 (
 some ((.b false), h21)) (
  dHp rec n h21)) (
  dHp rec n h1)
def dKg (rec : RT) (n : Nat) (x0 : DV) (h0 : Hp) : aH :=
 bnd (rec 15 [x0] h0) fun v1 h1 =>
 bnd (rec 17 [v1] h1) fun v2 h2 =>
 bnd (aK 0 v2 h2) fun v3 h3 =>
 bnd (aK 1 v2 h3) fun v4 h4 =>
 bnd (aK 2 v2 h4) fun v5 h5 =>
 bnd (bG [(.i .i64 (Int.ofNat 0)), (.s []), (.i .i64 (Int.ofNat 0)), .l0, .l0, .l0] h5) fun v6 h6 =>
 bnd (aC 6 v6 v3 h6) fun _ h7 =>
  dOy rec n v6 v5 h7
def dNp (rec : RT) (n : Nat) (x0 x3 x5 : DV) (h0 : Hp) : aH :=
 bnd (aF .eql x5 (.i .i64 (Int.ofNat 0)) h0) fun v1 h1 =>
 aU v1 (
 bnd (aE 6 x3 h1) fun v2 h2 =>
 bnd (rec 13 [v2] h2) fun v3 h3 =>
 bnd (aK 0 v3 h3) fun v4 h4 =>
 bnd (aK 1 v3 h4) fun v5 h5 =>
 bnd (rec 14 [v4] h5) fun v6 h6 =>
 bnd (aK 0 v6 h6) fun v7 h7 =>
 bnd (aK 1 v6 h7) fun v8 h8 =>
 bnd (aK 2 v6 h8) fun v9 h9 =>
 bnd (bG [(.i .i64 (Int.ofNat 0)), (.s []), (.i .i64 (Int.ofNat 0)), .l0, .l0, .l0] h9) fun v10 h10 =>
 bnd (aC 6 v10 v7 h10) fun _ h11 =>
 bnd (aE 6 x3 h11) fun v12 h12 =>
 bnd (aE 6 v10 h12) fun v13 h13 =>
 bnd (rec 16 [v12, v13] h13) fun v14 h14 =>
 bnd (aF .neq v5 (.i .i64 (Int.ofNat 0)) h14) fun v15 h15 =>
 bnd (gD v15 false (some (v9, h15)) h15) fun v16 h16 =>
 bnd (gD v15 false (aF .neq v16 (.i .i64 (Int.ofNat 0)) h16) h16) fun v17 h17 =>
 bnd (aV v15 (.b true) v17 h17) fun v18 h18 =>
 bnd (gD v18 false (some (v14, h18)) h18) fun v19 h19 =>
 bnd (gD v18 false (jZ .not v19 h19) h19) fun v20 h20 =>
 bnd (aV v18 (.b true) v20 h20) fun v21 h21 =>
 aU v21 (
 some ((.b false), h21)) (
  dKg rec n x0 h21)) (
  dKg rec n x0 h1)
def dNt (rec : RT) (n : Nat) (x0 : DV) (h0 : Hp) : aH :=
 bnd (rec 15 [x0] h0) fun v1 h1 =>
 bnd (rec 14 [v1] h1) fun v2 h2 =>
 bnd (aK 0 v2 h2) fun v3 h3 =>
 bnd (aK 1 v2 h3) fun v4 h4 =>
 bnd (aK 2 v2 h4) fun v5 h5 =>
 bnd (bG [(.i .i64 (Int.ofNat 0)), (.s []), (.i .i64 (Int.ofNat 0)), .l0, .l0, .l0] h5) fun v6 h6 =>
 bnd (aC 6 v6 v3 h6) fun _ h7 =>
  dNp rec n x0 v6 v5 h7
def s5 (rec : RT) (n : Nat) (x0 : DV) (h0 : Hp) : aH :=
 dNt rec n x0 h0
abbrev c5 : Code := cf Tryz.f5
abbrev r5 : K := bD CF Tryz.f5
def D5 (rec : RT) (n : Nat) (c : Code) (X : Nat → K) (k : K) : K := aR CF rec 88 n c X r5 k
theorem s5m : D5 rec n c5 x0 r5 = (K1 (s5 rec n) 0) := by kernel_rfl
theorem dMh (args : List DV) (h : Hp) : aL CF rec n 5 args h = s5 rec n (args.getD 0 aA) h :=
 cZ (s5m rec n) args h (by kernel_rfl) (by kernel_rfl)
def s6 (rec : RT) (n : Nat) (x0 : DV) (h0 : Hp) : aH :=
 bnd (rec 15 [x0] h0) fun v1 h1 =>
 bnd (rec 14 [v1] h1) fun v2 h2 =>
 bnd (aK 0 v2 h2) fun v3 h3 =>
 bnd (aK 1 v2 h3) fun v4 h4 =>
 bnd (aK 2 v2 h4) fun v5 h5 =>
 bnd (bG [(.i .i64 (Int.ofNat 0)), (.s []), (.i .i64 (Int.ofNat 0)), .l0, .l0, .l0] h5) fun v6 h6 =>
 bnd (aC 6 v6 v3 h6) fun _ h7 =>
 bnd (aF .neq v5 (.i .i64 (Int.ofNat 0)) h7) fun v8 h8 =>
 aU v8 (
 bnd (rec 10 [] h8) fun v9 h9 =>
 some (v9, h9)) (
 bnd (aE 6 v6 h8) fun v10 h10 =>
 bnd (rec 13 [v10] h10) fun v11 h11 =>
 bnd (aK 0 v11 h11) fun v12 h12 =>
 bnd (aK 1 v11 h12) fun v13 h13 =>
 bnd (rec 14 [v12] h13) fun v14 h14 =>
 bnd (aK 0 v14 h14) fun v15 h15 =>
 bnd (aK 1 v14 h15) fun v16 h16 =>
 bnd (aK 2 v14 h16) fun v17 h17 =>
 bnd (bG [(.i .i64 (Int.ofNat 0)), (.s []), (.i .i64 (Int.ofNat 0)), .l0, .l0, .l0] h17) fun v18 h18 =>
 bnd (aC 6 v18 v15 h18) fun _ h19 =>
 bnd (aE 6 v18 h19) fun v20 h20 =>
 bnd (rec 13 [v20] h20) fun v21 h21 =>
 bnd (aK 0 v21 h21) fun v22 h22 =>
 bnd (aK 1 v21 h22) fun v23 h23 =>
 bnd (bY .eql v12 v22 h23) fun v24 h24 =>
 bnd (gD v24 true (some (v13, h24)) h24) fun v25 h25 =>
 bnd (gD v24 true (aF .eql v25 (.i .i64 (Int.ofNat 0)) h25) h25) fun v26 h26 =>
 bnd (aV v24 v26 (.b false) h26) fun v27 h27 =>
 bnd (gD v27 true (some (v17, h27)) h27) fun v28 h28 =>
 bnd (gD v27 true (aF .eql v28 (.i .i64 (Int.ofNat 0)) h28) h28) fun v29 h29 =>
 bnd (aV v27 v29 (.b false) h29) fun v30 h30 =>
 bnd (gD v30 true (some (v23, h30)) h30) fun v31 h31 =>
 bnd (gD v30 true (aF .eql v31 (.i .i64 (Int.ofNat 0)) h31) h31) fun v32 h32 =>
 bnd (aV v30 v32 (.b false) h32) fun v33 h33 =>
 bnd (gD v33 true (rec 10 [] h33) h33) fun v34 h34 =>
 bnd (aV v33 v34 (.b false) h34) fun v35 h35 =>
 some (v35, h35))
abbrev c6 : Code := cf Tryz.f6
abbrev r6 : K := bD CF Tryz.f6
def D6 (rec : RT) (n : Nat) (c : Code) (X : Nat → K) (k : K) : K := aR CF rec 57 n c X r6 k
theorem s6m : D6 rec n c6 x0 r6 = (K1 (s6 rec n) 0) :=
 (by kernel_rfl)
theorem dOg (args : List DV) (h : Hp) : aL CF rec n 6 args h = s6 rec n (args.getD 0 aA) h :=
 cZ (s6m rec n) args h (by kernel_rfl) (by kernel_rfl)
def s7 (rec : RT) (n : Nat) (x0 x1 : DV) (h0 : Hp) : aH :=
 bnd (dW x0 h0) fun v1 h1 =>
 bnd (dW x1 h1) fun v2 h2 =>
 bnd (aE 6 v1 h2) fun v3 h3 =>
 bnd (rec 9 [v3] h3) fun v4 h4 =>
 bnd (aE 6 v2 h4) fun v5 h5 =>
 bnd (rec 9 [v5] h5) fun v6 h6 =>
 bnd (jZ .not v4 h6) fun v7 h7 =>
 bnd (gD v7 false (some (v6, h7)) h7) fun v8 h8 =>
 bnd (gD v7 false (jZ .not v8 h8) h8) fun v9 h9 =>
 bnd (aV v7 (.b true) v9 h9) fun v10 h10 =>
 aU v10 (
 bnd (rec 10 [] h10) fun v11 h11 =>
 some (v11, h11)) (
 bnd (aE 6 v1 h10) fun v12 h12 =>
 bnd (rec 13 [v12] h12) fun v13 h13 =>
 bnd (aK 0 v13 h13) fun v14 h14 =>
 bnd (aK 1 v13 h14) fun v15 h15 =>
 bnd (aE 6 v2 h15) fun v16 h16 =>
 bnd (rec 13 [v16] h16) fun v17 h17 =>
 bnd (aK 0 v17 h17) fun v18 h18 =>
 bnd (aK 1 v17 h18) fun v19 h19 =>
 bnd (aF .neq v15 (.i .i64 (Int.ofNat 0)) h19) fun v20 h20 =>
 bnd (gD v20 false (some (v19, h20)) h20) fun v21 h21 =>
 bnd (gD v20 false (aF .neq v21 (.i .i64 (Int.ofNat 0)) h21) h21) fun v22 h22 =>
 bnd (aV v20 (.b true) v22 h22) fun v23 h23 =>
 aU v23 (
 bnd (rec 10 [] h23) fun v24 h24 =>
 some (v24, h24)) (
 bnd (aE 6 v1 h23) fun v25 h25 =>
 bnd (aE 6 v2 h25) fun v26 h26 =>
 bnd (rec 16 [v25, v26] h26) fun v27 h27 =>
 bnd (bY .eql v14 v18 h27) fun v28 h28 =>
 bnd (pEq .bool true v28 v27 h28) fun v29 h29 =>
 bnd (gD v29 true (rec 10 [] h29) h29) fun v30 h30 =>
 bnd (aV v29 v30 (.b false) h30) fun v31 h31 =>
 some (v31, h31)))
abbrev c7 : Code := cf Tryz.f7
abbrev r7 : K := bD CF Tryz.f7
def D7 (rec : RT) (n : Nat) (c : Code) (X : Nat → K) (k : K) : K := aR CF rec 51 n c X r7 k
theorem s7m : D7 rec n c7 x0 r7 = (K2 (s7 rec n) 0 1) :=
 (by kernel_rfl)
theorem dPg (args : List DV) (h : Hp) : aL CF rec n 7 args h = s7 rec n (args.getD 0 aA) (args.getD 1 aA) h :=
 cZ (s7m rec n) args h (by kernel_rfl) (by kernel_rfl)
def lS (rec : RT) (n : Nat) (h0 : Hp) : aH :=
 some ((.b true), h0)
def aCz (rec : RT) (n : Nat) (kk8 : dE) (x1 x5 : DV) (h0 : Hp) : aH :=
 bnd (aB 5 x1 h0) fun v1 h1 =>
 bnd (aD v1 h1) fun v2 h2 =>
 bnd (dB v2 h2) fun v3 h3 =>
 bnd (aF .lss x5 v3 h3) fun v4 h4 =>
 aU v4 (
 bnd (aB 5 x1 h4) fun v5 h5 =>
 bnd (aD v5 h5) fun v6 h6 =>
 bnd (aP 6 v6 x5 h6) fun v7 h7 =>
 bnd (aE 6 v7 h7) fun v8 h8 =>
 bnd (rec 9 [v8] h8) fun v9 h9 =>
 bnd (jZ .not v9 h9) fun v10 h10 =>
 aU v10 (
 some ((.b false), h10)) (
 bnd (aF .add x5 (.i .i64 (Int.ofNat 1)) h10) fun v11 h11 =>
  kk8 x1 v11 h11)) (
      lS rec n h4)
def sK (rec : RT) (n : Nat) (m : Nat) : dE :=
 Nat.rec (motive := fun _ => dE) (fun _ _ _ => none) (fun _ ih => aCz rec n ih) m
def cXc (rec : RT) (n : Nat) : dE := sK rec n n
def cDs (rec : RT) (n : Nat) (x1 x5 : DV) (h0 : Hp) : aH :=
 cXc rec n x1 x5 h0
def lE (rec : RT) (n : Nat) (x1 : DV) (h0 : Hp) : aH :=
 cDs rec n x1 (.i .i64 (Int.ofNat 0)) h0
def tD (rec : RT) (n : Nat) (kk10 : dE) (x1 x4 : DV) (h0 : Hp) : aH :=
 bnd (aB 4 x1 h0) fun v1 h1 =>
 bnd (aD v1 h1) fun v2 h2 =>
 bnd (dB v2 h2) fun v3 h3 =>
 bnd (aF .lss x4 v3 h3) fun v4 h4 =>
 aU v4 (
 bnd (aB 4 x1 h4) fun v5 h5 =>
 bnd (aD v5 h5) fun v6 h6 =>
 bnd (aP 1 v6 x4 h6) fun v7 h7 =>
 bnd (aD v7 h7) fun v8 h8 =>
 bnd (cS v8 h8) fun v9 h9 =>
 bnd (aF .gtr v9 (.i .i64 (Int.ofNat 40)) h9) fun v10 h10 =>
 aU v10 (
 some ((.b false), h10)) (
 bnd (aF .add x4 (.i .i64 (Int.ofNat 1)) h10) fun v11 h11 =>
  kk10 x1 v11 h11)) (
      lE rec n x1 h4)
def lZ (rec : RT) (n : Nat) (m : Nat) : dE :=
 Nat.rec (motive := fun _ => dE) (fun _ _ _ => none) (fun _ ih => tD rec n ih) m
def bGu (rec : RT) (n : Nat) : dE := lZ rec n n
def cMs (rec : RT) (n : Nat) (x1 x4 : DV) (h0 : Hp) : aH :=
 bGu rec n x1 x4 h0
def lA (rec : RT) (n : Nat) (x1 : DV) (h0 : Hp) : aH :=
 cMs rec n x1 (.i .i64 (Int.ofNat 0)) h0
def uD (rec : RT) (n : Nat) (kk12 : dE) (x1 x3 : DV) (h0 : Hp) : aH :=
 bnd (aB 3 x1 h0) fun v1 h1 =>
 bnd (aD v1 h1) fun v2 h2 =>
 bnd (dB v2 h2) fun v3 h3 =>
 bnd (aF .lss x3 v3 h3) fun v4 h4 =>
 aU v4 (
 bnd (aB 3 x1 h4) fun v5 h5 =>
 bnd (aD v5 h5) fun v6 h6 =>
 bnd (aP 1 v6 x3 h6) fun v7 h7 =>
 bnd (aD v7 h7) fun v8 h8 =>
 bnd (cS v8 h8) fun v9 h9 =>
 bnd (aF .gtr v9 (.i .i64 (Int.ofNat 40)) h9) fun v10 h10 =>
 aU v10 (
 some ((.b false), h10)) (
 bnd (aF .add x3 (.i .i64 (Int.ofNat 1)) h10) fun v11 h11 =>
  kk12 x1 v11 h11)) (
      lA rec n x1 h4)
def mR (rec : RT) (n : Nat) (m : Nat) : dE :=
 Nat.rec (motive := fun _ => dE) (fun _ _ _ => none) (fun _ ih => uD rec n ih) m
def bMs (rec : RT) (n : Nat) : dE := mR rec n n
def aZg (rec : RT) (n : Nat) (x1 x3 : DV) (h0 : Hp) : aH :=
 bMs rec n x1 x3 h0
def bHo (rec : RT) (n : Nat) (x1 : DV) (h0 : Hp) : aH :=
 aZg rec n x1 (.i .i64 (Int.ofNat 0)) h0
def cMd (rec : RT) (n : Nat) (x1 : DV) (h0 : Hp) : aH :=
 bnd (aB 1 x1 h0) fun v1 h1 =>
 bnd (aD v1 h1) fun v2 h2 =>
 bnd (cS v2 h2) fun v3 h3 =>
 bnd (aF .gtr v3 (.i .i64 (Int.ofNat 40)) h3) fun v4 h4 =>
 bnd (gD v4 false (aB 3 x1 h4) h4) fun v5 h5 =>
 bnd (gD v4 false (aD v5 h5) h5) fun v6 h6 =>
 bnd (gD v4 false (dB v6 h6) h6) fun v7 h7 =>
 bnd (gD v4 false (aF .gtr v7 (.i .i64 (Int.ofNat 10)) h7) h7) fun v8 h8 =>
 bnd (aV v4 (.b true) v8 h8) fun v9 h9 =>
 bnd (gD v9 false (aB 4 x1 h9) h9) fun v10 h10 =>
 bnd (gD v9 false (aD v10 h10) h10) fun v11 h11 =>
 bnd (gD v9 false (dB v11 h11) h11) fun v12 h12 =>
 bnd (gD v9 false (aF .gtr v12 (.i .i64 (Int.ofNat 10)) h12) h12) fun v13 h13 =>
 bnd (aV v9 (.b true) v13 h13) fun v14 h14 =>
 aU v14 (
 some ((.b false), h14)) (
  bHo rec n x1 h14)
def cMj (rec : RT) (n : Nat) (x1 : DV) (h0 : Hp) : aH :=
 bnd (aE 6 x1 h0) fun v1 h1 =>
 bnd (rec 18 [v1, (.i .i64 (Int.ofNat 100))] h1) fun v2 h2 =>
 bnd (aF .lss v2 (.i .i64 (Int.ofNat 0)) h2) fun v3 h3 =>
 aU v3 (
 some ((.b false), h3)) (
  cMd rec n x1 h3)
def s9 (rec : RT) (n : Nat) (x0 : DV) (h0 : Hp) : aH :=
 bnd (dW x0 h0) fun v1 h1 =>
  cMj rec n v1 h1
abbrev c9 : Code := cf Tryz.f9
abbrev cIo := cR c9
abbrev cIv := cR cIo
abbrev cBz := cR cIv
abbrev cNj := cR cBz
abbrev cHg := cR cNj
abbrev dLq := cR cHg
abbrev bPo := cL cHg
abbrev cSy := cR bPo
abbrev cMx := cL cSy
abbrev zW := cL cMx
abbrev cQj := cL bPo
abbrev aNy := cL cNj
abbrev bRe := cR aNy
abbrev aWn := cL bRe
abbrev wT := cL aWn
abbrev cPp := cL aNy
abbrev aOn := cL cBz
abbrev bOa := cR aOn
abbrev aTc := cL bOa
abbrev aAj := cL aTc
abbrev cQp := cL aOn
abbrev cOt := cL cIv
abbrev cQw := cL cIo
abbrev cOa := cL c9
abbrev r9 : K := bD CF Tryz.f9
def D9 (rec : RT) (n : Nat) (c : Code) (X : Nat → K) (k : K) : K := aR CF rec 69 n c X r9 k
theorem dIp : D9 rec n dLq x0 r9 = (K0 (lS rec n)) := by kernel_rfl
theorem dDo (kk8 : dE) : D9 rec n zW (xs x0 4 (K0 (lS rec n))) (K2 kk8 1 5) = (K2 (aCz rec n kk8) 1 5) := by kernel_rfl
theorem dDq (m : Nat) : aG (fun kk => D9 rec n zW (xs x0 4 (K0 (lS rec n))) kk) m = (K2 (sK rec n m) 1 5) := by
 induction m with
 | zero => exact (by kernel_rfl : aG (fun kk => D9 rec n zW (xs x0 4 (K0 (lS rec n))) kk) 0 = (K2 (sK rec n 0) 1 5))
 | succ m ih =>
  refine (by kernel_rfl : aG (fun kk => D9 rec n zW (xs x0 4 (K0 (lS rec n))) kk) (m + 1) = D9 rec n zW (xs x0 4 (K0 (lS rec n))) (aG (fun kk => D9 rec n zW (xs x0 4 (K0 (lS rec n))) kk) m)).trans ?_
  rw [ih]
  exact (dDo rec n (sK rec n m)).trans (by kernel_rfl)
theorem dFn : D9 rec n cMx (xs x0 4 (K0 (lS rec n))) (K0 (lS rec n)) = (K2 (cXc rec n) 1 5) :=
 (by kernel_rfl : D9 rec n cMx (xs x0 4 (K0 (lS rec n))) (K0 (lS rec n)) = aG (fun kk => D9 rec n zW (xs x0 4 (K0 (lS rec n))) kk) n).trans ((dDq rec n n).trans (by kernel_rfl))
theorem dFv : D9 rec n cSy x0 (K0 (lS rec n)) = (K2 (cDs rec n) 1 5) :=
 (by kernel_rfl : D9 rec n cSy x0 (K0 (lS rec n)) = D9 rec n cMx (xs x0 4 (K0 (lS rec n))) (K0 (lS rec n))).trans
 ((dFn rec n).trans (by kernel_rfl))
theorem cTq : D9 rec n cHg x0 r9 = D9 rec n bPo x0 (K0 (lS rec n)) :=
 congrArg (fun k => D9 rec n bPo x0 k) (dIp rec n)
theorem cUx : D9 rec n bPo x0 (K0 (lS rec n)) = D9 rec n cQj x0 (K2 (cDs rec n) 1 5) :=
 congrArg (fun k => D9 rec n cQj x0 k) (dFv rec n)
theorem dLd : D9 rec n cHg x0 r9 = (K1 (lE rec n) 1) :=
 (cTq rec n).trans
 ((cUx rec n).trans
 ((by kernel_rfl)))
theorem cEu (kk10 : dE) : D9 rec n wT (xs x0 2 (K1 (lE rec n) 1)) (K2 kk10 1 4) = (K2 (tD rec n kk10) 1 4) := by kernel_rfl
theorem cDl (m : Nat) : aG (fun kk => D9 rec n wT (xs x0 2 (K1 (lE rec n) 1)) kk) m = (K2 (lZ rec n m) 1 4) := by
 induction m with
 | zero => exact (by kernel_rfl : aG (fun kk => D9 rec n wT (xs x0 2 (K1 (lE rec n) 1)) kk) 0 = (K2 (lZ rec n 0) 1 4))
 | succ m ih =>
  refine (by kernel_rfl : aG (fun kk => D9 rec n wT (xs x0 2 (K1 (lE rec n) 1)) kk) (m + 1) = D9 rec n wT (xs x0 2 (K1 (lE rec n) 1)) (aG (fun kk => D9 rec n wT (xs x0 2 (K1 (lE rec n) 1)) kk) m)).trans ?_
  rw [ih]
  exact (cEu rec n (lZ rec n m)).trans (by kernel_rfl)
theorem dAg : D9 rec n aWn (xs x0 2 (K1 (lE rec n) 1)) (K1 (lE rec n) 1) = (K2 (bGu rec n) 1 4) :=
 (by kernel_rfl : D9 rec n aWn (xs x0 2 (K1 (lE rec n) 1)) (K1 (lE rec n) 1) = aG (fun kk => D9 rec n wT (xs x0 2 (K1 (lE rec n) 1)) kk) n).trans ((cDl rec n n).trans (by kernel_rfl))
theorem dLg : D9 rec n bRe x0 (K1 (lE rec n) 1) = (K2 (cMs rec n) 1 4) :=
 (by kernel_rfl : D9 rec n bRe x0 (K1 (lE rec n) 1) = D9 rec n aWn (xs x0 2 (K1 (lE rec n) 1)) (K1 (lE rec n) 1)).trans
 ((dAg rec n).trans (by kernel_rfl))
theorem cSi : D9 rec n cNj x0 r9 = D9 rec n aNy x0 (K1 (lE rec n) 1) :=
 congrArg (fun k => D9 rec n aNy x0 k) (dLd rec n)
theorem dBz : D9 rec n aNy x0 (K1 (lE rec n) 1) = D9 rec n cPp x0 (K2 (cMs rec n) 1 4) :=
 congrArg (fun k => D9 rec n cPp x0 k) (dLg rec n)
theorem dFl : D9 rec n cNj x0 r9 = (K1 (lA rec n) 1) :=
 (cSi rec n).trans
 ((dBz rec n).trans
 ((by kernel_rfl)))
theorem cMq (kk12 : dE) : D9 rec n aAj (xs x0 0 (K1 (lA rec n) 1)) (K2 kk12 1 3) = (K2 (uD rec n kk12) 1 3) := by kernel_rfl
theorem cBo (m : Nat) : aG (fun kk => D9 rec n aAj (xs x0 0 (K1 (lA rec n) 1)) kk) m = (K2 (mR rec n m) 1 3) := by
 induction m with
 | zero => exact (by kernel_rfl : aG (fun kk => D9 rec n aAj (xs x0 0 (K1 (lA rec n) 1)) kk) 0 = (K2 (mR rec n 0) 1 3))
 | succ m ih =>
  refine (by kernel_rfl : aG (fun kk => D9 rec n aAj (xs x0 0 (K1 (lA rec n) 1)) kk) (m + 1) = D9 rec n aAj (xs x0 0 (K1 (lA rec n) 1)) (aG (fun kk => D9 rec n aAj (xs x0 0 (K1 (lA rec n) 1)) kk) m)).trans ?_
  rw [ih]
  exact (cMq rec n (mR rec n m)).trans (by kernel_rfl)
theorem dCo : D9 rec n aTc (xs x0 0 (K1 (lA rec n) 1)) (K1 (lA rec n) 1) = (K2 (bMs rec n) 1 3) :=
 (by kernel_rfl : D9 rec n aTc (xs x0 0 (K1 (lA rec n) 1)) (K1 (lA rec n) 1) = aG (fun kk => D9 rec n aAj (xs x0 0 (K1 (lA rec n) 1)) kk) n).trans ((cBo rec n n).trans (by kernel_rfl))
theorem cSe : D9 rec n bOa x0 (K1 (lA rec n) 1) = (K2 (aZg rec n) 1 3) :=
 (by kernel_rfl : D9 rec n bOa x0 (K1 (lA rec n) 1) = D9 rec n aTc (xs x0 0 (K1 (lA rec n) 1)) (K1 (lA rec n) 1)).trans
 ((dCo rec n).trans (by kernel_rfl))
theorem dCb : D9 rec n cBz x0 r9 = D9 rec n aOn x0 (K1 (lA rec n) 1) :=
 congrArg (fun k => D9 rec n aOn x0 k) (dFl rec n)
theorem cSu : D9 rec n aOn x0 (K1 (lA rec n) 1) = D9 rec n cQp x0 (K2 (aZg rec n) 1 3) :=
 congrArg (fun k => D9 rec n cQp x0 k) (cSe rec n)
theorem dJl : D9 rec n cBz x0 r9 = (K1 (bHo rec n) 1) :=
 (dCb rec n).trans
 ((cSu rec n).trans
 ((by kernel_rfl)))
theorem cZz : D9 rec n cIv x0 r9 = D9 rec n cOt x0 (K1 (bHo rec n) 1) :=
 congrArg (fun k => D9 rec n cOt x0 k) (dJl rec n)
theorem dFf : D9 rec n cIv x0 r9 = (K1 (cMd rec n) 1) :=
 (cZz rec n).trans
 ((by kernel_rfl))
theorem cRg : D9 rec n cIo x0 r9 = D9 rec n cQw x0 (K1 (cMd rec n) 1) :=
 congrArg (fun k => D9 rec n cQw x0 k) (dFf rec n)
theorem dIe : D9 rec n cIo x0 r9 = (K1 (cMj rec n) 1) :=
 (cRg rec n).trans
 ((by kernel_rfl))
theorem dOd : D9 rec n c9 x0 r9 = D9 rec n cOa x0 (K1 (cMj rec n) 1) :=
 congrArg (fun k => D9 rec n cOa x0 k) (dIe rec n)
theorem s9m : D9 rec n c9 x0 r9 = (K1 (s9 rec n) 0) :=
 (dOd rec n).trans
 ((by kernel_rfl))
theorem dNl (args : List DV) (h : Hp) : aL CF rec n 9 args h = s9 rec n (args.getD 0 aA) h :=
 cZ (s9m rec n) args h (by kernel_rfl) (by kernel_rfl)
def aWl (rec : RT) (n : Nat) (x1 x2 x6 : DV) (h0 : Hp) : aH :=
 bnd (rec 25 [x6, x1] h0) fun v1 h1 =>
 bnd (aK 0 v1 h1) fun v2 h2 =>
 bnd (aK 1 v1 h2) fun v3 h3 =>
 bnd (aK 2 v1 h3) fun v4 h4 =>
 bnd (bG [(.i .i64 (Int.ofNat 0)), (.s []), (.i .i64 (Int.ofNat 0)), .l0, .l0, .l0] h4) fun v5 h5 =>
 bnd (aC 6 v5 v2 h5) fun _ h6 =>
 bnd (aE 6 x2 h6) fun v7 h7 =>
 bnd (aE 6 v5 h7) fun v8 h8 =>
 bnd (rec 16 [v7, v8] h8) fun v9 h9 =>
 bnd (aF .neq v4 (.i .i64 (Int.ofNat 0)) h9) fun v10 h10 =>
 bnd (gD v10 false (some (v9, h10)) h10) fun v11 h11 =>
 bnd (gD v10 false (jZ .not v11 h11) h11) fun v12 h12 =>
 bnd (aV v10 (.b true) v12 h12) fun v13 h13 =>
 aU v13 (
 some (.t [(.s []), (.i .i64 (Int.ofNat 1))], h13)) (
 some (.t [x6, (.i .i64 (Int.ofNat 0))], h13))
def cQu (rec : RT) (n : Nat) (x1 x2 x6 : DV) (h0 : Hp) : aH :=
 aU x1 (
 bnd (aE 6 x2 h0) fun v1 h1 =>
 bnd (rec 24 [v1] h1) fun v2 h2 =>
 bnd (bY .add v2 x6 h2) fun v3 h3 =>
  aWl rec n x1 x2 v3 h3) (
  aWl rec n x1 x2 x6 h0)
def cQr (rec : RT) (n : Nat) (x1 x2 : DV) (h0 : Hp) : aH :=
 bnd (aE 6 x2 h0) fun v1 h1 =>
 bnd (rec 23 [v1] h1) fun v2 h2 =>
  cQu rec n x1 x2 v2 h2
def s12 (rec : RT) (n : Nat) (x0 x1 : DV) (h0 : Hp) : aH :=
 bnd (dW x0 h0) fun v1 h1 =>
  cQr rec n x1 v1 h1
abbrev c12 : Code := cf Tryz.f12
abbrev r12 : K := bD CF Tryz.f12
def D12 (rec : RT) (n : Nat) (c : Code) (X : Nat → K) (k : K) : K := aR CF rec 35 n c X r12 k
theorem dMt : D12 rec n c12 x0 r12 = (K2 (s12 rec n) 0 1) := by kernel_rfl
theorem dHe (args : List DV) (h : Hp) : aL CF rec n 12 args h = s12 rec n (args.getD 0 aA) (args.getD 1 aA) h :=
 cZ (dMt rec n) args h (by kernel_rfl) (by kernel_rfl)
def s13 (rec : RT) (n : Nat) (x0 : DV) (h0 : Hp) : aH :=
 bnd (dW x0 h0) fun v1 h1 =>
 bnd (aE 6 v1 h1) fun v2 h2 =>
 bnd (rec 21 [v2] h2) fun v3 h3 =>
 bnd (rec 14 [v3] h3) fun v4 h4 =>
 bnd (aK 0 v4 h4) fun v5 h5 =>
 bnd (aK 1 v4 h5) fun v6 h6 =>
 bnd (aK 2 v4 h6) fun v7 h7 =>
 bnd (bG [(.i .i64 (Int.ofNat 0)), (.s []), (.i .i64 (Int.ofNat 0)), .l0, .l0, .l0] h7) fun v8 h8 =>
 bnd (aC 6 v8 v5 h8) fun _ h9 =>
 bnd (aE 6 v1 h9) fun v10 h10 =>
 bnd (aE 6 v8 h10) fun v11 h11 =>
 bnd (rec 22 [v3, v10, v11, v7] h11) fun v12 h12 =>
 bnd (aK 0 v12 h12) fun v13 h13 =>
 bnd (aK 1 v12 h13) fun v14 h14 =>
 some (.t [v13, v14], h14)
abbrev c13 : Code := cf Tryz.f13
abbrev r13 : K := bD CF Tryz.f13
def D13 (rec : RT) (n : Nat) (c : Code) (X : Nat → K) (k : K) : K := aR CF rec 23 n c X r13 k
theorem dNw : D13 rec n c13 x0 r13 = (K1 (s13 rec n) 0) :=
 (by kernel_rfl)
theorem dHc (args : List DV) (h : Hp) : aL CF rec n 13 args h = s13 rec n (args.getD 0 aA) h :=
 cZ (dNw rec n) args h (by kernel_rfl) (by kernel_rfl)
def s14 (rec : RT) (n : Nat) (x0 : DV) (h0 : Hp) : aH :=
 bnd (bG [(.i .i64 (Int.ofNat 0)), (.s []), (.i .i64 (Int.ofNat 0)), .l0, .l0, .l0] h0) fun v1 h1 =>
 bnd (rec 26 [x0, (.f 27 [] [])] h1) fun v2 h2 =>
 bnd (aK 0 v2 h2) fun v3 h3 =>
 bnd (aK 1 v2 h3) fun v4 h4 =>
 bnd (aK 2 v2 h4) fun v5 h5 =>
 bnd (aC 6 v1 v3 h5) fun _ h6 =>
 bnd (aE 6 v1 h6) fun v7 _ =>
 some (.t [v7, v4, v5], h6)
abbrev c14 : Code := cf Tryz.f14
abbrev r14 : K := bD CF Tryz.f14
def D14 (rec : RT) (n : Nat) (c : Code) (X : Nat → K) (k : K) : K := aR CF rec 10 n c X r14 k
theorem dMf : D14 rec n c14 x0 r14 = (K1 (s14 rec n) 0) :=
 (by kernel_rfl)
theorem dKp (args : List DV) (h : Hp) : aL CF rec n 14 args h = s14 rec n (args.getD 0 aA) h :=
 cZ (dMf rec n) args h (by kernel_rfl) (by kernel_rfl)
def gT (rec : RT) (n : Nat) (h0 : Hp) : aH :=
 some ((.b true), h0)
def uG (rec : RT) (n : Nat) (kk7 : cQ) (x2 x3 x7 : DV) (h0 : Hp) : aH :=
 bnd (aB 5 x2 h0) fun v1 h1 =>
 bnd (aD v1 h1) fun v2 h2 =>
 bnd (dB v2 h2) fun v3 h3 =>
 bnd (aF .lss x7 v3 h3) fun v4 h4 =>
 aU v4 (
 bnd (aB 5 x2 h4) fun v5 h5 =>
 bnd (aD v5 h5) fun v6 h6 =>
 bnd (aP 6 v6 x7 h6) fun v7 h7 =>
 bnd (aE 6 v7 h7) fun v8 h8 =>
 bnd (aB 5 x3 h8) fun v9 h9 =>
 bnd (aD v9 h9) fun v10 h10 =>
 bnd (aP 6 v10 x7 h10) fun v11 h11 =>
 bnd (aE 6 v11 h11) fun v12 h12 =>
 bnd (rec 16 [v8, v12] h12) fun v13 h13 =>
 bnd (jZ .not v13 h13) fun v14 h14 =>
 aU v14 (
 some ((.b false), h14)) (
 bnd (aF .add x7 (.i .i64 (Int.ofNat 1)) h14) fun v15 h15 =>
  kk7 x2 x3 v15 h15)) (
      gT rec n h4)
def lB (rec : RT) (n : Nat) (m : Nat) : cQ :=
 Nat.rec (motive := fun _ => cQ) (fun _ _ _ _ => none) (fun _ ih => uG rec n ih) m
def cQm (rec : RT) (n : Nat) : cQ := lB rec n n
def aUq (rec : RT) (n : Nat) (x2 x3 x7 : DV) (h0 : Hp) : aH :=
 cQm rec n x2 x3 x7 h0
def aTo (rec : RT) (n : Nat) (x2 x3 : DV) (h0 : Hp) : aH :=
 aUq rec n x2 x3 (.i .i64 (Int.ofNat 0)) h0
def aLi (rec : RT) (n : Nat) (x2 x3 x5 x6 : DV) (h0 : Hp) : aH :=
 bnd (jZ .not x5 h0) fun v1 h1 =>
 bnd (gD v1 false (some (x6, h1)) h1) fun v2 h2 =>
 bnd (gD v1 false (jZ .not v2 h2) h2) fun v3 h3 =>
 bnd (aV v1 (.b true) v3 h3) fun v4 h4 =>
 bnd (gD v4 false (aB 0 x2 h4) h4) fun v5 h5 =>
 bnd (gD v4 false (aD v5 h5) h5) fun v6 h6 =>
 bnd (gD v4 false (aB 0 x3 h6) h6) fun v7 h7 =>
 bnd (gD v4 false (aD v7 h7) h7) fun v8 h8 =>
 bnd (gD v4 false (aF .neq v6 v8 h8) h8) fun v9 h9 =>
 bnd (aV v4 (.b true) v9 h9) fun v10 h10 =>
 bnd (gD v10 false (aB 1 x2 h10) h10) fun v11 h11 =>
 bnd (gD v10 false (aD v11 h11) h11) fun v12 h12 =>
 bnd (gD v10 false (aB 1 x3 h12) h12) fun v13 h13 =>
 bnd (gD v10 false (aD v13 h13) h13) fun v14 h14 =>
 bnd (gD v10 false (bY .neq v12 v14 h14) h14) fun v15 h15 =>
 bnd (aV v10 (.b true) v15 h15) fun v16 h16 =>
 bnd (gD v16 false (aB 2 x2 h16) h16) fun v17 h17 =>
 bnd (gD v16 false (aD v17 h17) h17) fun v18 h18 =>
 bnd (gD v16 false (aB 2 x3 h18) h18) fun v19 h19 =>
 bnd (gD v16 false (aD v19 h19) h19) fun v20 h20 =>
 bnd (gD v16 false (aF .neq v18 v20 h20) h20) fun v21 h21 =>
 bnd (aV v16 (.b true) v21 h21) fun v22 h22 =>
 bnd (gD v22 false (aB 5 x2 h22) h22) fun v23 h23 =>
 bnd (gD v22 false (aD v23 h23) h23) fun v24 h24 =>
 bnd (gD v22 false (dB v24 h24) h24) fun v25 h25 =>
 bnd (gD v22 false (aB 5 x3 h25) h25) fun v26 h26 =>
 bnd (gD v22 false (aD v26 h26) h26) fun v27 h27 =>
 bnd (gD v22 false (dB v27 h27) h27) fun v28 h28 =>
 bnd (gD v22 false (aF .neq v25 v28 h28) h28) fun v29 h29 =>
 bnd (aV v22 (.b true) v29 h29) fun v30 h30 =>
 aU v30 (
 some ((.b false), h30)) (
  aTo rec n x2 x3 h30)
def aWy (rec : RT) (n : Nat) (x2 x3 x5 : DV) (h0 : Hp) : aH :=
 bnd (aB 4 x2 h0) fun v1 h1 =>
 bnd (aD v1 h1) fun v2 h2 =>
 bnd (aB 4 x3 h2) fun v3 h3 =>
 bnd (aD v3 h3) fun v4 h4 =>
 bnd (rec 28 [v2, v4] h4) fun v5 h5 =>
  aLi rec n x2 x3 x5 v5 h5
def aTk (rec : RT) (n : Nat) (x2 x3 : DV) (h0 : Hp) : aH :=
 bnd (aB 3 x2 h0) fun v1 h1 =>
 bnd (aD v1 h1) fun v2 h2 =>
 bnd (aB 3 x3 h2) fun v3 h3 =>
 bnd (aD v3 h3) fun v4 h4 =>
 bnd (rec 28 [v2, v4] h4) fun v5 h5 =>
  aWy rec n x2 x3 v5 h5
def s16 (rec : RT) (n : Nat) (x0 x1 : DV) (h0 : Hp) : aH :=
 bnd (dW x0 h0) fun v1 h1 =>
 bnd (dW x1 h1) fun v2 h2 =>
  aTk rec n v1 v2 h2
abbrev c16 : Code := cf Tryz.f16
abbrev aTu := cR c16
abbrev aUa := cR aTu
abbrev aSv := cR aUa
abbrev aXi := cR aSv
abbrev dEs := cR aXi
abbrev aMc := cL aXi
abbrev bLc := cR aMc
abbrev bAu := cL bLc
abbrev aAw := cL bAu
abbrev bWd := cL aMc
abbrev bQx := cL aSv
abbrev bIy := cL aUa
abbrev bVg := cL aTu
abbrev bVj := cL c16
abbrev r16 : K := bD CF Tryz.f16
def D16 (rec : RT) (n : Nat) (c : Code) (X : Nat → K) (k : K) : K := aR CF rec 75 n c X r16 k
theorem cUi : D16 rec n dEs x0 r16 = (K0 (gT rec n)) := by kernel_rfl
theorem cAs (kk7 : cQ) : D16 rec n aAw (xs x0 0 (K0 (gT rec n))) (K3 kk7 2 3 7) = (K3 (uG rec n kk7) 2 3 7) := by kernel_rfl
theorem cFu (m : Nat) : aG (fun kk => D16 rec n aAw (xs x0 0 (K0 (gT rec n))) kk) m = (K3 (lB rec n m) 2 3 7) := by
 induction m with
 | zero => exact (by kernel_rfl : aG (fun kk => D16 rec n aAw (xs x0 0 (K0 (gT rec n))) kk) 0 = (K3 (lB rec n 0) 2 3 7))
 | succ m ih =>
  refine (by kernel_rfl : aG (fun kk => D16 rec n aAw (xs x0 0 (K0 (gT rec n))) kk) (m + 1) = D16 rec n aAw (xs x0 0 (K0 (gT rec n))) (aG (fun kk => D16 rec n aAw (xs x0 0 (K0 (gT rec n))) kk) m)).trans ?_
  rw [ih]
  exact (cAs rec n (lB rec n m)).trans (by kernel_rfl)
theorem dBf : D16 rec n bAu (xs x0 0 (K0 (gT rec n))) (K0 (gT rec n)) = (K3 (cQm rec n) 2 3 7) :=
 (by kernel_rfl : D16 rec n bAu (xs x0 0 (K0 (gT rec n))) (K0 (gT rec n)) = aG (fun kk => D16 rec n aAw (xs x0 0 (K0 (gT rec n))) kk) n).trans ((cFu rec n n).trans (by kernel_rfl))
theorem cYz : D16 rec n bLc x0 (K0 (gT rec n)) = (K3 (aUq rec n) 2 3 7) :=
 (by kernel_rfl : D16 rec n bLc x0 (K0 (gT rec n)) = D16 rec n bAu (xs x0 0 (K0 (gT rec n))) (K0 (gT rec n))).trans
 ((dBf rec n).trans (by kernel_rfl))
theorem cJu : D16 rec n aXi x0 r16 = D16 rec n aMc x0 (K0 (gT rec n)) :=
 congrArg (fun k => D16 rec n aMc x0 k) (cUi rec n)
theorem cIl : D16 rec n aMc x0 (K0 (gT rec n)) = D16 rec n bWd x0 (K3 (aUq rec n) 2 3 7) :=
 congrArg (fun k => D16 rec n bWd x0 k) (cYz rec n)
theorem cXf : D16 rec n aXi x0 r16 = (K2 (aTo rec n) 2 3) :=
 (cJu rec n).trans
 ((cIl rec n).trans
 ((by kernel_rfl)))
theorem cCq : D16 rec n aSv x0 r16 = D16 rec n bQx x0 (K2 (aTo rec n) 2 3) :=
 congrArg (fun k => D16 rec n bQx x0 k) (cXf rec n)
theorem cWt : D16 rec n aSv x0 r16 = (K4 (aLi rec n) 2 3 5 6) :=
 (cCq rec n).trans
 ((by kernel_rfl))
theorem cAq : D16 rec n aUa x0 r16 = D16 rec n bIy x0 (K4 (aLi rec n) 2 3 5 6) :=
 congrArg (fun k => D16 rec n bIy x0 k) (cWt rec n)
theorem cVa : D16 rec n aUa x0 r16 = (K3 (aWy rec n) 2 3 5) :=
 (cAq rec n).trans
 ((by kernel_rfl))
theorem cHk : D16 rec n aTu x0 r16 = D16 rec n bVg x0 (K3 (aWy rec n) 2 3 5) :=
 congrArg (fun k => D16 rec n bVg x0 k) (cVa rec n)
theorem dCm : D16 rec n aTu x0 r16 = (K2 (aTk rec n) 2 3) :=
 (cHk rec n).trans
 ((by kernel_rfl))
theorem dJd : D16 rec n c16 x0 r16 = D16 rec n bVj x0 (K2 (aTk rec n) 2 3) :=
 congrArg (fun k => D16 rec n bVj x0 k) (dCm rec n)
theorem dOc : D16 rec n c16 x0 r16 = (K2 (s16 rec n) 0 1) :=
 (dJd rec n).trans
 ((by kernel_rfl))
theorem dFq (args : List DV) (h : Hp) : aL CF rec n 16 args h = s16 rec n (args.getD 0 aA) (args.getD 1 aA) h :=
 cZ (dOc rec n) args h (by kernel_rfl) (by kernel_rfl)
def gV (rec : RT) (n : Nat) (x1 x5 : DV) (h0 : Hp) : aH :=
 bnd (aF .gtr x5 x1 h0) fun v1 h1 =>
 aU v1 (
 some ((.i .i64 (Int.negSucc 0)), h1)) (
 some (x5, h1))
def tS (rec : RT) (n : Nat) (kk5 : iG) (x1 x2 x5 x6 : DV) (h0 : Hp) : aH :=
 bnd (aB 5 x2 h0) fun v1 h1 =>
 bnd (aD v1 h1) fun v2 h2 =>
 bnd (dB v2 h2) fun v3 h3 =>
 bnd (aF .lss x6 v3 h3) fun v4 h4 =>
 aU v4 (
 bnd (aF .geq x5 x1 h4) fun v5 h5 =>
 aU v5 (
 some ((.i .i64 (Int.negSucc 0)), h5)) (
 bnd (aB 5 x2 h5) fun v6 h6 =>
 bnd (aD v6 h6) fun v7 h7 =>
 bnd (aP 6 v7 x6 h7) fun v8 h8 =>
 bnd (aE 6 v8 h8) fun v9 h9 =>
 bnd (aF .sub x1 x5 h9) fun v10 h10 =>
 bnd (rec 18 [v9, v10] h10) fun v11 h11 =>
 bnd (aF .lss v11 (.i .i64 (Int.ofNat 0)) h11) fun v12 h12 =>
 aU v12 (
 some ((.i .i64 (Int.negSucc 0)), h12)) (
 bnd (aF .add x5 v11 h12) fun v13 h13 =>
 bnd (aF .add x6 (.i .i64 (Int.ofNat 1)) h13) fun v14 h14 =>
  kk5 x1 x2 v13 v14 h14))) (
      gV rec n x1 x5 h4)
def mS (rec : RT) (n : Nat) (m : Nat) : iG :=
 Nat.rec (motive := fun _ => iG) (fun _ _ _ _ _ => none) (fun _ ih => tS rec n ih) m
def bVx (rec : RT) (n : Nat) : iG := mS rec n n
def aTw (rec : RT) (n : Nat) (x1 x2 x5 x6 : DV) (h0 : Hp) : aH :=
 bVx rec n x1 x2 x5 x6 h0
def aTl (rec : RT) (n : Nat) (x1 x2 x5 : DV) (h0 : Hp) : aH :=
 aTw rec n x1 x2 x5 (.i .i64 (Int.ofNat 0)) h0
def aUd (rec : RT) (n : Nat) (x1 x2 : DV) (h0 : Hp) : aH :=
 aTl rec n x1 x2 (.i .i64 (Int.ofNat 1)) h0
def s18 (rec : RT) (n : Nat) (x0 x1 : DV) (h0 : Hp) : aH :=
 bnd (dW x0 h0) fun v1 h1 =>
  aUd rec n x1 v1 h1
abbrev c18 : Code := cf Tryz.f18
abbrev aXx := cR c18
abbrev aWe := cR aXx
abbrev dIb := cR aWe
abbrev aOd := cL aWe
abbrev bTq := cR aOd
abbrev bCf := cL bTq
abbrev aAi := cL bCf
abbrev cQc := cL aOd
abbrev cQn := cL aXx
abbrev bTf := cL c18
abbrev r18 : K := bD CF Tryz.f18
def D18 (rec : RT) (n : Nat) (c : Code) (X : Nat → K) (k : K) : K := aR CF rec 36 n c X r18 k
theorem cZq : D18 rec n dIb x0 r18 = (K2 (gV rec n) 1 5) := by kernel_rfl
theorem cDu (kk5 : iG) : D18 rec n aAi (xs x0 0 (K2 (gV rec n) 1 5)) (K4 kk5 1 2 5 6) = (K4 (tS rec n kk5) 1 2 5 6) := by kernel_rfl
theorem cIu (m : Nat) : aG (fun kk => D18 rec n aAi (xs x0 0 (K2 (gV rec n) 1 5)) kk) m = (K4 (mS rec n m) 1 2 5 6) := by
 induction m with
 | zero => exact (by kernel_rfl : aG (fun kk => D18 rec n aAi (xs x0 0 (K2 (gV rec n) 1 5)) kk) 0 = (K4 (mS rec n 0) 1 2 5 6))
 | succ m ih =>
  refine (by kernel_rfl : aG (fun kk => D18 rec n aAi (xs x0 0 (K2 (gV rec n) 1 5)) kk) (m + 1) = D18 rec n aAi (xs x0 0 (K2 (gV rec n) 1 5)) (aG (fun kk => D18 rec n aAi (xs x0 0 (K2 (gV rec n) 1 5)) kk) m)).trans ?_
  rw [ih]
  exact (cDu rec n (mS rec n m)).trans (by kernel_rfl)
theorem cUn : D18 rec n bCf (xs x0 0 (K2 (gV rec n) 1 5)) (K2 (gV rec n) 1 5) = (K4 (bVx rec n) 1 2 5 6) :=
 (by kernel_rfl : D18 rec n bCf (xs x0 0 (K2 (gV rec n) 1 5)) (K2 (gV rec n) 1 5) = aG (fun kk => D18 rec n aAi (xs x0 0 (K2 (gV rec n) 1 5)) kk) n).trans ((cIu rec n n).trans (by kernel_rfl))
theorem cWc : D18 rec n bTq x0 (K2 (gV rec n) 1 5) = (K4 (aTw rec n) 1 2 5 6) :=
 (by kernel_rfl : D18 rec n bTq x0 (K2 (gV rec n) 1 5) = D18 rec n bCf (xs x0 0 (K2 (gV rec n) 1 5)) (K2 (gV rec n) 1 5)).trans
 ((cUn rec n).trans (by kernel_rfl))
theorem cJg : D18 rec n aWe x0 r18 = D18 rec n aOd x0 (K2 (gV rec n) 1 5) :=
 congrArg (fun k => D18 rec n aOd x0 k) (cZq rec n)
theorem cFn : D18 rec n aOd x0 (K2 (gV rec n) 1 5) = D18 rec n cQc x0 (K4 (aTw rec n) 1 2 5 6) :=
 congrArg (fun k => D18 rec n cQc x0 k) (cWc rec n)
theorem cZv : D18 rec n aWe x0 r18 = (K3 (aTl rec n) 1 2 5) :=
 (cJg rec n).trans
 ((cFn rec n).trans
 ((by kernel_rfl)))
theorem cBg : D18 rec n aXx x0 r18 = D18 rec n cQn x0 (K3 (aTl rec n) 1 2 5) :=
 congrArg (fun k => D18 rec n cQn x0 k) (cZv rec n)
theorem dBs : D18 rec n aXx x0 r18 = (K2 (aUd rec n) 1 2) :=
 (cBg rec n).trans
 ((by kernel_rfl))
theorem dEq : D18 rec n c18 x0 r18 = D18 rec n bTf x0 (K2 (aUd rec n) 1 2) :=
 congrArg (fun k => D18 rec n bTf x0 k) (dBs rec n)
theorem dMb : D18 rec n c18 x0 r18 = (K2 (s18 rec n) 0 1) :=
 (dEq rec n).trans
 ((by kernel_rfl))
theorem dIm (args : List DV) (h : Hp) : aL CF rec n 18 args h = s18 rec n (args.getD 0 aA) (args.getD 1 aA) h :=
 cZ (dMb rec n) args h (by kernel_rfl) (by kernel_rfl)
def s19 (rec : RT) (n : Nat) (x0 : DV) (h0 : Hp) : aH :=
 bnd (nJ [x0, (.s [])] h0) fun v1 h1 =>
 some (v1, h1)
abbrev c19 : Code := cf Tryz.f19
abbrev r19 : K := bD CF Tryz.f19
def D19 (rec : RT) (n : Nat) (c : Code) (X : Nat → K) (k : K) : K := aR CF rec 5 n c X r19 k
theorem dPj : D19 rec n c19 x0 r19 = (K1 (s19 rec n) 0) :=
 (by kernel_rfl)
theorem dIy (args : List DV) (h : Hp) : aL CF rec n 19 args h = s19 rec n (args.getD 0 aA) h :=
 cZ (dPj rec n) args h (by kernel_rfl) (by kernel_rfl)
def bCn (rec : RT) (n : Nat) (x1 x3 : DV) (h0 : Hp) : aH :=
 bnd (aB 5 x1 h0) fun v1 h1 =>
 bnd (aD v1 h1) fun v2 h2 =>
 bnd (rec 35 [v2, (.s [46, 32]), (.f 36 [] [])] h2) fun v3 h3 =>
 bnd (aO [(.s []), (.s [])] 2 [(0, 1, x3), (1, 1, v3)] h3) fun v4 h4 =>
 bnd (rec 19 [v4] h4) fun v5 h5 =>
 some (v5, h5)
def cNy (rec : RT) (n : Nat) (x1 x3 : DV) (h0 : Hp) : aH :=
 bnd (aB 4 x1 h0) fun v1 h1 =>
 bnd (aD v1 h1) fun v2 h2 =>
 bnd (dB v2 h2) fun v3 h3 =>
 bnd (aF .gtr v3 (.i .i64 (Int.ofNat 0)) h3) fun v4 h4 =>
 aU v4 (
 bnd (aB 4 x1 h4) fun v5 h5 =>
 bnd (aD v5 h5) fun v6 h6 =>
 bnd (nJ [v6, (.s [32])] h6) fun v7 h7 =>
 bnd (aO [(.s []), (.s []), (.s [])] 3 [(0, 1, (.s [124, 32])), (1, 1, v7), (2, 1, (.s [32, 124, 32]))] h7) fun v8 h8 =>
 bnd (rec 19 [v8] h8) fun v9 h9 =>
  bCn rec n x1 v9 h9) (
  bCn rec n x1 x3 h4)
def cPc (rec : RT) (n : Nat) (x1 : DV) (h0 : Hp) : aH :=
 cNy rec n x1 (.s []) h0
def s21 (rec : RT) (n : Nat) (x0 : DV) (h0 : Hp) : aH :=
 bnd (dW x0 h0) fun v1 h1 =>
  cPc rec n v1 h1
abbrev c21 : Code := cf Tryz.f21
abbrev r21 : K := bD CF Tryz.f21
def D21 (rec : RT) (n : Nat) (c : Code) (X : Nat → K) (k : K) : K := aR CF rec 19 n c X r21 k
theorem dMv : D21 rec n c21 x0 r21 = (K1 (s21 rec n) 0) := by kernel_rfl
theorem dJn (args : List DV) (h : Hp) : aL CF rec n 21 args h = s21 rec n (args.getD 0 aA) h :=
 cZ (dMv rec n) args h (by kernel_rfl) (by kernel_rfl)
def s22 (rec : RT) (n : Nat) (x0 x1 x2 x3 : DV) (h0 : Hp) : aH :=
 bnd (dW x1 h0) fun v1 h1 =>
 bnd (dW x2 h1) fun v2 h2 =>
 bnd (aF .neq x3 (.i .i64 (Int.ofNat 0)) h2) fun v3 h3 =>
 bnd (gD v3 false (aE 6 v1 h3) h3) fun v4 h4 =>
 bnd (gD v3 false (aE 6 v2 h4) h4) fun v5 h5 =>
 bnd (gD v3 false (rec 37 [v4, v5] h5) h5) fun v6 h6 =>
 bnd (gD v3 false (jZ .not v6 h6) h6) fun v7 h7 =>
 bnd (aV v3 (.b true) v7 h7) fun v8 h8 =>
 aU v8 (
 some (.t [(.s []), (.i .i64 (Int.ofNat 1))], h8)) (
 some (.t [x0, (.i .i64 (Int.ofNat 0))], h8))
abbrev c22 : Code := cf Tryz.f22
abbrev r22 : K := bD CF Tryz.f22
def D22 (rec : RT) (n : Nat) (c : Code) (X : Nat → K) (k : K) : K := aR CF rec 19 n c X r22 k
theorem dOa : D22 rec n c22 x0 r22 = (K4 (s22 rec n) 0 1 2 3) :=
 (by kernel_rfl)
theorem dJp (args : List DV) (h : Hp) : aL CF rec n 22 args h = s22 rec n (args.getD 0 aA) (args.getD 1 aA) (args.getD 2 aA) (args.getD 3 aA) h :=
 cZ (dOa rec n) args h (by kernel_rfl) (by kernel_rfl)
def jH (rec : RT) (n : Nat) (x1 x3 : DV) (h0 : Hp) : aH :=
 bnd (aB 5 x1 h0) fun v1 h1 =>
 bnd (aD v1 h1) fun v2 h2 =>
 bnd (rec 38 [v2, (.s [46, 32])] h2) fun v3 h3 =>
 bnd (bY .add x3 v3 h3) fun v4 h4 =>
 some (v4, h4)
def fS (rec : RT) (n : Nat) (x1 x3 : DV) (h0 : Hp) : aH :=
 bnd (bY .add x3 (.s [124, 32]) h0) fun v1 h1 =>
  jH rec n x1 v1 h1
def tO (rec : RT) (n : Nat) (kk9 : cQ) (x1 x3 x4 : DV) (h0 : Hp) : aH :=
 bnd (aB 4 x1 h0) fun v1 h1 =>
 bnd (aD v1 h1) fun v2 h2 =>
 bnd (dB v2 h2) fun v3 h3 =>
 bnd (aF .lss x4 v3 h3) fun v4 h4 =>
 aU v4 (
 bnd (aB 4 x1 h4) fun v5 h5 =>
 bnd (aD v5 h5) fun v6 h6 =>
 bnd (aP 1 v6 x4 h6) fun v7 h7 =>
 bnd (aD v7 h7) fun v8 h8 =>
 bnd (bY .add x3 v8 h8) fun v9 h9 =>
 bnd (bY .add v9 (.s [32]) h9) fun v10 h10 =>
 bnd (aF .add x4 (.i .i64 (Int.ofNat 1)) h10) fun v11 h11 =>
      kk9 x1 v10 v11 h11) (
      fS rec n x1 x3 h4)
def mL (rec : RT) (n : Nat) (m : Nat) : cQ :=
 Nat.rec (motive := fun _ => cQ) (fun _ _ _ _ => none) (fun _ ih => tO rec n ih) m
def bXe (rec : RT) (n : Nat) : cQ := mL rec n n
def aYp (rec : RT) (n : Nat) (x1 x3 x4 : DV) (h0 : Hp) : aH :=
 bXe rec n x1 x3 x4 h0
def aXe (rec : RT) (n : Nat) (x1 x3 : DV) (h0 : Hp) : aH :=
 aYp rec n x1 x3 (.i .i64 (Int.ofNat 0)) h0
def bJr (rec : RT) (n : Nat) (x1 : DV) (h0 : Hp) : aH :=
 aXe rec n x1 (.s [124, 32]) h0
def aTe (rec : RT) (n : Nat) (x1 x3 x8 : DV) (h0 : Hp) : aH :=
 aU x8 (
  bJr rec n x1 h0) (
  jH rec n x1 x3 h0)
def bAo (rec : RT) (n : Nat) (x1 x3 : DV) (h0 : Hp) : aH :=
 bnd (aB 4 x1 h0) fun v1 h1 =>
 bnd (aD v1 h1) fun v2 h2 =>
 bnd (dB v2 h2) fun v3 h3 =>
 bnd (aF .gtr v3 (.i .i64 (Int.ofNat 0)) h3) fun v4 h4 =>
  aTe rec n x1 x3 v4 h4
def bBy (rec : RT) (n : Nat) (x1 : DV) (h0 : Hp) : aH :=
 bAo rec n x1 (.s []) h0
def s23 (rec : RT) (n : Nat) (x0 : DV) (h0 : Hp) : aH :=
 bnd (dW x0 h0) fun v1 h1 =>
  bBy rec n v1 h1
abbrev c23 : Code := cf Tryz.f23
abbrev bDv := cR c23
abbrev aUf := cR bDv
abbrev dEe := cR aUf
abbrev aOg := cL aUf
abbrev aNa := cR aOg
abbrev aNf := cL aNa
abbrev aZt := cR aNf
abbrev dJc := cR aZt
abbrev aPg := cL aZt
abbrev aRr := cR aPg
abbrev aId := cL aRr
abbrev qV := cL aId
abbrev bKe := cL aPg
abbrev bHn := cL aNf
abbrev cZb := cR aNa
abbrev bPb := cL aOg
abbrev bJl := cL bDv
abbrev bNb := cL c23
abbrev r23 : K := bD CF Tryz.f23
def D23 (rec : RT) (n : Nat) (c : Code) (X : Nat → K) (k : K) : K := aR CF rec 31 n c X r23 k
theorem cYl : D23 rec n dEe x0 r23 = (K2 (jH rec n) 1 3) := by kernel_rfl
theorem cSj : D23 rec n dJc x0 (K2 (jH rec n) 1 3) = (K2 (fS rec n) 1 3) := by kernel_rfl
theorem cAg (kk9 : cQ) : D23 rec n qV (xs x0 0 (K2 (fS rec n) 1 3)) (K3 kk9 1 3 4) = (K3 (tO rec n kk9) 1 3 4) := by kernel_rfl
theorem cNm (m : Nat) : aG (fun kk => D23 rec n qV (xs x0 0 (K2 (fS rec n) 1 3)) kk) m = (K3 (mL rec n m) 1 3 4) := by
 induction m with
 | zero => exact (by kernel_rfl : aG (fun kk => D23 rec n qV (xs x0 0 (K2 (fS rec n) 1 3)) kk) 0 = (K3 (mL rec n 0) 1 3 4))
 | succ m ih =>
  refine (by kernel_rfl : aG (fun kk => D23 rec n qV (xs x0 0 (K2 (fS rec n) 1 3)) kk) (m + 1) = D23 rec n qV (xs x0 0 (K2 (fS rec n) 1 3)) (aG (fun kk => D23 rec n qV (xs x0 0 (K2 (fS rec n) 1 3)) kk) m)).trans ?_
  rw [ih]
  exact (cAg rec n (mL rec n m)).trans (by kernel_rfl)
theorem cUu : D23 rec n aId (xs x0 0 (K2 (fS rec n) 1 3)) (K2 (fS rec n) 1 3) = (K3 (bXe rec n) 1 3 4) :=
 (by kernel_rfl : D23 rec n aId (xs x0 0 (K2 (fS rec n) 1 3)) (K2 (fS rec n) 1 3) = aG (fun kk => D23 rec n qV (xs x0 0 (K2 (fS rec n) 1 3)) kk) n).trans ((cNm rec n n).trans (by kernel_rfl))
theorem cSg : D23 rec n aRr x0 (K2 (fS rec n) 1 3) = (K3 (aYp rec n) 1 3 4) :=
 (by kernel_rfl : D23 rec n aRr x0 (K2 (fS rec n) 1 3) = D23 rec n aId (xs x0 0 (K2 (fS rec n) 1 3)) (K2 (fS rec n) 1 3)).trans
 ((cUu rec n).trans (by kernel_rfl))
theorem cIk : D23 rec n aZt x0 (K2 (jH rec n) 1 3) = D23 rec n aPg x0 (K2 (fS rec n) 1 3) :=
 congrArg (fun k => D23 rec n aPg x0 k) (cSj rec n)
theorem cAr : D23 rec n aPg x0 (K2 (fS rec n) 1 3) = D23 rec n bKe x0 (K3 (aYp rec n) 1 3 4) :=
 congrArg (fun k => D23 rec n bKe x0 k) (cSg rec n)
theorem cUt : D23 rec n aZt x0 (K2 (jH rec n) 1 3) = (K2 (aXe rec n) 1 3) :=
 (cIk rec n).trans
 ((cAr rec n).trans
 ((by kernel_rfl)))
theorem cMn : D23 rec n aNf x0 (K2 (jH rec n) 1 3) = D23 rec n bHn x0 (K2 (aXe rec n) 1 3) :=
 congrArg (fun k => D23 rec n bHn x0 k) (cUt rec n)
theorem cZg : D23 rec n aNf x0 (K2 (jH rec n) 1 3) = (K1 (bJr rec n) 1) :=
 (cMn rec n).trans
 ((by kernel_rfl))
theorem cZj : D23 rec n aNa x0 (K2 (jH rec n) 1 3) = (K3 (aTe rec n) 1 3 8) :=
 (by kernel_rfl : D23 rec n aNa x0 (K2 (jH rec n) 1 3) = (fun (env : eE) (h : Hp) => aU (opr env (cC aNa)) (D23 rec n aNf x0 (K2 (jH rec n) 1 3) env h) (D23 rec n cZb x0 (K2 (jH rec n) 1 3) env h))).trans (by rw [cZg rec n]; kernel_rfl)
theorem cMw : D23 rec n aUf x0 r23 = D23 rec n aOg x0 (K2 (jH rec n) 1 3) :=
 congrArg (fun k => D23 rec n aOg x0 k) (cYl rec n)
theorem cJt : D23 rec n aOg x0 (K2 (jH rec n) 1 3) = D23 rec n bPb x0 (K3 (aTe rec n) 1 3 8) :=
 congrArg (fun k => D23 rec n bPb x0 k) (cZj rec n)
theorem cUl : D23 rec n aUf x0 r23 = (K2 (bAo rec n) 1 3) :=
 (cMw rec n).trans
 ((cJt rec n).trans
 ((by kernel_rfl)))
theorem cKe : D23 rec n bDv x0 r23 = D23 rec n bJl x0 (K2 (bAo rec n) 1 3) :=
 congrArg (fun k => D23 rec n bJl x0 k) (cUl rec n)
theorem dDf : D23 rec n bDv x0 r23 = (K1 (bBy rec n) 1) :=
 (cKe rec n).trans
 ((by kernel_rfl))
theorem dKe : D23 rec n c23 x0 r23 = D23 rec n bNb x0 (K1 (bBy rec n) 1) :=
 congrArg (fun k => D23 rec n bNb x0 k) (dDf rec n)
theorem dPl : D23 rec n c23 x0 r23 = (K1 (s23 rec n) 0) :=
 (dKe rec n).trans
 ((by kernel_rfl))
theorem dEg (args : List DV) (h : Hp) : aL CF rec n 23 args h = s23 rec n (args.getD 0 aA) h :=
 cZ (dPl rec n) args h (by kernel_rfl) (by kernel_rfl)
end
end Go.Dd

namespace Go.Dd
open Go.Proofs
noncomputable section
variable (rec : RT) (n : Nat)
def aVq (rec : RT) (n : Nat) (x4 x10 x11 : DV) (h0 : Hp) : aH :=
 bnd (rec 45 [x10] h0) fun v1 h1 =>
 bnd (aB 4 x11 h1) fun v2 h2 =>
 bnd (aC 1 v2 v1 h2) fun _ h3 =>
 bnd (rec 46 [x10] h3) fun v4 h4 =>
 bnd (aB 5 x11 h4) fun v5 h5 =>
 bnd (aC 1 v5 v4 h5) fun _ h6 =>
 bnd (rec 47 [x10, (.i .i64 (Int.ofNat 0)), (.s [])] h6) fun v7 h7 =>
 bnd (bM x10 h7) fun v8 h8 =>
 bnd (aB 3 v8 h8) fun v9 h9 =>
 bnd (aD v9 h9) fun v10 h10 =>
 bnd (aF .neq v10 (.i .i64 (Int.ofNat 0)) h10) fun v11 h11 =>
 aU v11 (
 bnd (bB [(.i .i64 (Int.ofNat 0)), (.s []), (.i .i64 (Int.ofNat 0)), .l0, .l0, .l0] [] h11) fun v12 h12 =>
 bnd (bM x10 h12) fun v13 h13 =>
 bnd (aB 4 v13 h13) fun v14 h14 =>
 bnd (aD v14 h14) fun v15 h15 =>
 bnd (bM x10 h15) fun v16 h16 =>
 bnd (aB 3 v16 h16) fun v17 h17 =>
 bnd (aD v17 h17) fun v18 h18 =>
 bnd (aC 6 x4 v12 h18) fun v19 h19 =>
 cnd (bP (aD v17 h19) v18 && (bP (aD v14 h19) v15 && true)) (
 bnd (aE 6 x4 h19) fun v20 _ =>
 some (.t [v20, v15, v18], h19))) (
 bnd (aE 6 x11 h11) fun v21 h21 =>
 bnd (aC 6 x4 v21 h21) fun _ h22 =>
 bnd (aE 6 x4 h22) fun v23 _ =>
 some (.t [v23, (.i .i64 (Int.ofNat 0)), (.i .i64 (Int.ofNat 0))], h22))
def cPi (rec : RT) (n : Nat) (x1 x4 x10 x11 : DV) (h0 : Hp) : aH :=
 aU x1 (
 bnd (rec 44 [x10] h0) fun v1 h1 =>
 bnd (aC 6 x11 v1 h1) fun _ h2 =>
  aVq rec n x4 x10 x11 h2) (
  aVq rec n x4 x10 x11 h0)
def cQe (rec : RT) (n : Nat) (x1 x4 x10 : DV) (h0 : Hp) : aH :=
 bnd (bB [(.i .i64 (Int.ofNat 0)), (.s []), (.i .i64 (Int.ofNat 0)), .l0, .l0, .l0] [(0, 1, (.i .i64 (Int.ofNat 11))), (1, 1, (.s [100, 111, 73, 116]))] h0) fun v1 h1 =>
 bnd (bG [(.i .i64 (Int.ofNat 0)), (.s []), (.i .i64 (Int.ofNat 0)), .l0, .l0, .l0] h1) fun v2 h2 =>
 bnd (aC 6 v2 v1 h2) fun _ h3 =>
  cPi rec n x1 x4 x10 v2 h3
def cPg (rec : RT) (n : Nat) (x1 x4 x7 : DV) (h0 : Hp) : aH :=
 bnd (bB [.l0, (.i .i64 (Int.ofNat 0)), (.i .i64 (Int.ofNat 0)), (.i .i64 (Int.ofNat 0)), (.i .i64 (Int.ofNat 0))] [(0, 1, x7)] h0) fun v1 h1 =>
 bnd (dW v1 h1) fun v2 h2 =>
  cQe rec n x1 x4 v2 h2
def cQg (rec : RT) (n : Nat) (x1 x4 x7 x8 x9 : DV) (h0 : Hp) : aH :=
 bnd (aF .neq x9 (.i .i64 (Int.ofNat 0)) h0) fun v1 h1 =>
 aU v1 (
 bnd (bB [(.i .i64 (Int.ofNat 0)), (.s []), (.i .i64 (Int.ofNat 0)), .l0, .l0, .l0] [] h1) fun v2 h2 =>
 bnd (aC 6 x4 v2 h2) fun _ h3 =>
 bnd (aE 6 x4 h3) fun v4 _ =>
 some (.t [v4, x8, x9], h3)) (
  cPg rec n x1 x4 x7 h1)
def cNr (rec : RT) (n : Nat) (x0 x1 x4 : DV) (h0 : Hp) : aH :=
 bnd (rec 43 [x0] h0) fun v1 h1 =>
 bnd (aK 0 v1 h1) fun v2 h2 =>
 bnd (aK 1 v1 h2) fun v3 h3 =>
 bnd (aK 2 v1 h3) fun v4 h4 =>
  cQg rec n x1 x4 v2 v3 v4 h4
def s25 (rec : RT) (n : Nat) (x0 x1 : DV) (h0 : Hp) : aH :=
 bnd (bG [(.i .i64 (Int.ofNat 0)), (.s []), (.i .i64 (Int.ofNat 0)), .l0, .l0, .l0] h0) fun v1 h1 =>
  cNr rec n x0 x1 v1 h1
abbrev c25 : Code := cf Tryz.f25
abbrev r25 : K := bD CF Tryz.f25
def D25 (rec : RT) (n : Nat) (c : Code) (X : Nat → K) (k : K) : K := aR CF rec 53 n c X r25 k
theorem dOs : D25 rec n c25 x0 r25 = (K2 (s25 rec n) 0 1) := by kernel_rfl
theorem dGa (args : List DV) (h : Hp) : aL CF rec n 25 args h = s25 rec n (args.getD 0 aA) (args.getD 1 aA) h :=
 cZ (dOs rec n) args h (by kernel_rfl) (by kernel_rfl)
def s26 (rec : RT) (n : Nat) (x0 x1 : DV) (h0 : Hp) : aH :=
 bnd (bG [(.i .i64 (Int.ofNat 0)), (.s []), (.i .i64 (Int.ofNat 0)), .l0, .l0, .l0] h0) fun v1 h1 =>
 bnd (rec 48 [x0] h1) fun v2 h2 =>
 bnd (aK 0 v2 h2) fun v3 h3 =>
 bnd (aK 1 v2 h3) fun v4 h4 =>
 bnd (aK 2 v2 h4) fun v5 h5 =>
 bnd (aF .neq v5 (.i .i64 (Int.ofNat 0)) h5) fun v6 h6 =>
 aU v6 (
 bnd (bB [(.i .i64 (Int.ofNat 0)), (.s []), (.i .i64 (Int.ofNat 0)), .l0, .l0, .l0] [] h6) fun v7 h7 =>
 bnd (aC 6 v1 v7 h7) fun _ h8 =>
 bnd (aE 6 v1 h8) fun v9 _ =>
 some (.t [v9, v4, v5], h8)) (
 bnd (bB [.l0, (.i .i64 (Int.ofNat 0)), (.i .i64 (Int.ofNat 0)), (.i .i64 (Int.ofNat 0))] [(0, 1, v3)] h6) fun v10 h10 =>
 bnd (dW v10 h10) fun v11 h11 =>
 bnd (dS CF rec x1 [v11] h11) fun v12 h12 =>
 bnd (bG [(.i .i64 (Int.ofNat 0)), (.s []), (.i .i64 (Int.ofNat 0)), .l0, .l0, .l0] h12) fun v13 h13 =>
 bnd (aC 6 v13 v12 h13) fun _ h14 =>
 bnd (rec 49 [v11] h14) fun v15 h15 =>
 bnd (aB 4 v13 h15) fun v16 h16 =>
 bnd (aC 1 v16 v15 h16) fun _ h17 =>
 bnd (rec 50 [v11] h17) fun v18 h18 =>
 bnd (aB 5 v13 h18) fun v19 h19 =>
 bnd (aC 1 v19 v18 h19) fun _ h20 =>
 bnd (rec 51 [v11, (.i .i64 (Int.ofNat 0)), (.s [])] h20) fun v21 h21 =>
 bnd (bM v11 h21) fun v22 h22 =>
 bnd (aB 3 v22 h22) fun v23 h23 =>
 bnd (aD v23 h23) fun v24 h24 =>
 bnd (aF .neq v24 (.i .i64 (Int.ofNat 0)) h24) fun v25 h25 =>
 aU v25 (
 bnd (bB [(.i .i64 (Int.ofNat 0)), (.s []), (.i .i64 (Int.ofNat 0)), .l0, .l0, .l0] [] h25) fun v26 h26 =>
 bnd (bM v11 h26) fun v27 h27 =>
 bnd (aB 2 v27 h27) fun v28 h28 =>
 bnd (aD v28 h28) fun v29 h29 =>
 bnd (bM v11 h29) fun v30 h30 =>
 bnd (aB 3 v30 h30) fun v31 h31 =>
 bnd (aD v31 h31) fun v32 h32 =>
 bnd (aC 6 v1 v26 h32) fun v33 h33 =>
 cnd (bP (aD v31 h33) v32 && (bP (aD v28 h33) v29 && true)) (
 bnd (aE 6 v1 h33) fun v34 _ =>
 some (.t [v34, v29, v32], h33))) (
 bnd (aE 6 v13 h25) fun v35 h35 =>
 bnd (aC 6 v1 v35 h35) fun _ h36 =>
 bnd (aE 6 v1 h36) fun v37 _ =>
 some (.t [v37, (.i .i64 (Int.ofNat 0)), (.i .i64 (Int.ofNat 0))], h36)))
abbrev c26 : Code := cf Tryz.f26
abbrev r26 : K := bD CF Tryz.f26
def D26 (rec : RT) (n : Nat) (c : Code) (X : Nat → K) (k : K) : K := aR CF rec 52 n c X r26 k
theorem dLp : D26 rec n c26 x0 r26 = (K2 (s26 rec n) 0 1) :=
 (by kernel_rfl)
theorem dKc (args : List DV) (h : Hp) : aL CF rec n 26 args h = s26 rec n (args.getD 0 aA) (args.getD 1 aA) h :=
 cZ (dLp rec n) args h (by kernel_rfl) (by kernel_rfl)
def s27 (rec : RT) (n : Nat) (x0 : DV) (h0 : Hp) : aH :=
 bnd (bG [(.i .i64 (Int.ofNat 0)), (.s []), (.i .i64 (Int.ofNat 0)), .l0, .l0, .l0] h0) fun v1 h1 =>
 bnd (bB [(.i .i64 (Int.ofNat 0)), (.s []), (.i .i64 (Int.ofNat 0)), .l0, .l0, .l0] [(0, 1, (.i .i64 (Int.ofNat 11))), (1, 1, (.s [100, 111, 73, 116]))] h1) fun v2 h2 =>
 bnd (aC 6 v1 v2 h2) fun _ h3 =>
 bnd (aE 6 v1 h3) fun v4 _ =>
 some (v4, h3)
abbrev c27 : Code := cf Tryz.f27
abbrev r27 : K := bD CF Tryz.f27
def D27 (rec : RT) (n : Nat) (c : Code) (X : Nat → K) (k : K) : K := aR CF rec 4 n c X r27 k
theorem dMm : D27 rec n c27 x0 r27 = (K1 (s27 rec n) 0) :=
 (by kernel_rfl)
theorem dHq (args : List DV) (h : Hp) : aL CF rec n 27 args h = s27 rec n (args.getD 0 aA) h :=
 cZ (dMm rec n) args h (by kernel_rfl) (by kernel_rfl)
def gI (rec : RT) (n : Nat) (h0 : Hp) : aH :=
 some ((.b true), h0)
def tT (rec : RT) (n : Nat) (kk5 : cQ) (x0 x1 x5 : DV) (h0 : Hp) : aH :=
 bnd (dB x0 h0) fun v1 h1 =>
 bnd (aF .lss x5 v1 h1) fun v2 h2 =>
 aU v2 (
 bnd (aP 1 x0 x5 h2) fun v3 h3 =>
 bnd (aD v3 h3) fun v4 h4 =>
 bnd (aP 1 x1 x5 h4) fun v5 h5 =>
 bnd (aD v5 h5) fun v6 h6 =>
 bnd (bY .neq v4 v6 h6) fun v7 h7 =>
 aU v7 (
 some ((.b false), h7)) (
 bnd (aF .add x5 (.i .i64 (Int.ofNat 1)) h7) fun v8 h8 =>
  kk5 x0 x1 v8 h8)) (
      gI rec n h2)
def mA (rec : RT) (n : Nat) (m : Nat) : cQ :=
 Nat.rec (motive := fun _ => cQ) (fun _ _ _ _ => none) (fun _ ih => tT rec n ih) m
def cNp (rec : RT) (n : Nat) : cQ := mA rec n n
def bAw (rec : RT) (n : Nat) (x0 x1 x5 : DV) (h0 : Hp) : aH :=
 cNp rec n x0 x1 x5 h0
def aXl (rec : RT) (n : Nat) (x0 x1 : DV) (h0 : Hp) : aH :=
 bAw rec n x0 x1 (.i .i64 (Int.ofNat 0)) h0
def bAj (rec : RT) (n : Nat) (x0 x1 : DV) (h0 : Hp) : aH :=
 bnd (dB x0 h0) fun v1 h1 =>
 bnd (dB x1 h1) fun v2 h2 =>
 bnd (aF .neq v1 v2 h2) fun v3 h3 =>
 aU v3 (
 some ((.b false), h3)) (
  aXl rec n x0 x1 h3)
def s28 (rec : RT) (n : Nat) (x0 x1 : DV) (h0 : Hp) : aH :=
 bAj rec n x0 x1 h0
abbrev c28 : Code := cf Tryz.f28
abbrev bAh := cR c28
abbrev aTt := cR bAh
abbrev dGb := cR aTt
abbrev aOf := cL aTt
abbrev bUt := cR aOf
abbrev aUo := cL bUt
abbrev wV := cL aUo
abbrev cOj := cL aOf
abbrev cOl := cL bAh
abbrev bOg := cL c28
abbrev r28 : K := bD CF Tryz.f28
def D28 (rec : RT) (n : Nat) (c : Code) (X : Nat → K) (k : K) : K := aR CF rec 26 n c X r28 k
theorem cWq : D28 rec n dGb x0 r28 = (K0 (gI rec n)) := by kernel_rfl
theorem cJq (kk5 : cQ) : D28 rec n wV (xs x0 0 (K0 (gI rec n))) (K3 kk5 0 1 5) = (K3 (tT rec n kk5) 0 1 5) := by kernel_rfl
theorem cAx (m : Nat) : aG (fun kk => D28 rec n wV (xs x0 0 (K0 (gI rec n))) kk) m = (K3 (mA rec n m) 0 1 5) := by
 induction m with
 | zero => exact (by kernel_rfl : aG (fun kk => D28 rec n wV (xs x0 0 (K0 (gI rec n))) kk) 0 = (K3 (mA rec n 0) 0 1 5))
 | succ m ih =>
  refine (by kernel_rfl : aG (fun kk => D28 rec n wV (xs x0 0 (K0 (gI rec n))) kk) (m + 1) = D28 rec n wV (xs x0 0 (K0 (gI rec n))) (aG (fun kk => D28 rec n wV (xs x0 0 (K0 (gI rec n))) kk) m)).trans ?_
  rw [ih]
  exact (cJq rec n (mA rec n m)).trans (by kernel_rfl)
theorem cYv : D28 rec n aUo (xs x0 0 (K0 (gI rec n))) (K0 (gI rec n)) = (K3 (cNp rec n) 0 1 5) :=
 (by kernel_rfl : D28 rec n aUo (xs x0 0 (K0 (gI rec n))) (K0 (gI rec n)) = aG (fun kk => D28 rec n wV (xs x0 0 (K0 (gI rec n))) kk) n).trans ((cAx rec n n).trans (by kernel_rfl))
theorem cVf : D28 rec n bUt x0 (K0 (gI rec n)) = (K3 (bAw rec n) 0 1 5) :=
 (by kernel_rfl : D28 rec n bUt x0 (K0 (gI rec n)) = D28 rec n aUo (xs x0 0 (K0 (gI rec n))) (K0 (gI rec n))).trans
 ((cYv rec n).trans (by kernel_rfl))
theorem cEg : D28 rec n aTt x0 r28 = D28 rec n aOf x0 (K0 (gI rec n)) :=
 congrArg (fun k => D28 rec n aOf x0 k) (cWq rec n)
theorem cLh : D28 rec n aOf x0 (K0 (gI rec n)) = D28 rec n cOj x0 (K3 (bAw rec n) 0 1 5) :=
 congrArg (fun k => D28 rec n cOj x0 k) (cVf rec n)
theorem dBj : D28 rec n aTt x0 r28 = (K2 (aXl rec n) 0 1) :=
 (cEg rec n).trans
 ((cLh rec n).trans
 ((by kernel_rfl)))
theorem cJr : D28 rec n bAh x0 r28 = D28 rec n cOl x0 (K2 (aXl rec n) 0 1) :=
 congrArg (fun k => D28 rec n cOl x0 k) (dBj rec n)
theorem cTf : D28 rec n bAh x0 r28 = (K2 (bAj rec n) 0 1) :=
 (cJr rec n).trans
 ((by kernel_rfl))
theorem dEu : D28 rec n c28 x0 r28 = D28 rec n bOg x0 (K2 (bAj rec n) 0 1) :=
 congrArg (fun k => D28 rec n bOg x0 k) (cTf rec n)
theorem dPe : D28 rec n c28 x0 r28 = (K2 (s28 rec n) 0 1) :=
 (dEu rec n).trans
 ((by kernel_rfl))
theorem dJi (args : List DV) (h : Hp) : aL CF rec n 28 args h = s28 rec n (args.getD 0 aA) (args.getD 1 aA) h :=
 cZ (dPe rec n) args h (by kernel_rfl) (by kernel_rfl)
def s32 (rec : RT) (n : Nat) (x0 : DV) (h0 : Hp) : aH :=
 bnd (rec 57 [x0, (.i .u8 (Int.ofNat 58))] h0) fun v1 h1 =>
 bnd (aF .geq v1 (.i .i64 (Int.ofNat 0)) h1) fun v2 h2 =>
 aU v2 (
 some ((.i .i64 (Int.ofNat 3)), h2)) (
 bnd (bY .neq x0 (.s []) h2) fun v3 h3 =>
 bnd (gD v3 true (some (x0, h3)) h3) fun v4 h4 =>
 bnd (gD v3 true (bF v4 (.i .i64 (Int.ofNat 0)) h4) h4) fun v5 h5 =>
 bnd (gD v3 true (aF .geq v5 (.i .u8 (Int.ofNat 97)) h5) h5) fun v6 h6 =>
 bnd (gD v3 true (some (v6, h6)) h6) fun v7 h7 =>
 bnd (gD v7 true (some (x0, h7)) h7) fun v8 h8 =>
 bnd (gD v7 true (bF v8 (.i .i64 (Int.ofNat 0)) h8) h8) fun v9 h9 =>
 bnd (gD v7 true (aF .leq v9 (.i .u8 (Int.ofNat 122)) h9) h9) fun v10 h10 =>
 bnd (gD v3 true (aV v7 v10 (.b false) h10) h10) fun v11 h11 =>
 bnd (gD v3 true (some (v11, h11)) h11) fun v12 h12 =>
 bnd (gD v12 false (some (x0, h12)) h12) fun v13 h13 =>
 bnd (gD v12 false (bF v13 (.i .i64 (Int.ofNat 0)) h13) h13) fun v14 h14 =>
 bnd (gD v12 false (aF .geq v14 (.i .u8 (Int.ofNat 65)) h14) h14) fun v15 h15 =>
 bnd (gD v12 false (some (v15, h15)) h15) fun v16 h16 =>
 bnd (gD v16 true (some (x0, h16)) h16) fun v17 h17 =>
 bnd (gD v16 true (bF v17 (.i .i64 (Int.ofNat 0)) h17) h17) fun v18 h18 =>
 bnd (gD v16 true (aF .leq v18 (.i .u8 (Int.ofNat 90)) h18) h18) fun v19 h19 =>
 bnd (gD v12 false (aV v16 v19 (.b false) h19) h19) fun v20 h20 =>
 bnd (gD v3 true (aV v12 (.b true) v20 h20) h20) fun v21 h21 =>
 bnd (aV v3 v21 (.b false) h21) fun v22 h22 =>
 aU v22 (
 some ((.i .i64 (Int.ofNat 1)), h22)) (
 some ((.i .i64 (Int.ofNat 2)), h22)))
abbrev c32 : Code := cf Tryz.f32
abbrev r32 : K := bD CF Tryz.f32
def D32 (rec : RT) (n : Nat) (c : Code) (X : Nat → K) (k : K) : K := aR CF rec 30 n c X r32 k
theorem dOp : D32 rec n c32 x0 r32 = (K1 (s32 rec n) 0) :=
 (by kernel_rfl)
theorem dKl (args : List DV) (h : Hp) : aL CF rec n 32 args h = s32 rec n (args.getD 0 aA) h :=
 cZ (dOp rec n) args h (by kernel_rfl) (by kernel_rfl)
def s33 (rec : RT) (n : Nat) (x0 : DV) (h0 : Hp) : aH :=
 bnd (rec 58 [x0, (.s [58])] h0) fun v1 h1 =>
 bnd (dB v1 h1) fun v2 h2 =>
 bnd (aF .sub v2 (.i .i64 (Int.ofNat 1)) h2) fun v3 h3 =>
 bnd (cK 1 v1 none (some v3) h3) fun v4 h4 =>
 some (v4, h4)
abbrev c33 : Code := cf Tryz.f33
abbrev r33 : K := bD CF Tryz.f33
def D33 (rec : RT) (n : Nat) (c : Code) (X : Nat → K) (k : K) : K := aR CF rec 11 n c X r33 k
theorem dMr : D33 rec n c33 x0 r33 = (K1 (s33 rec n) 0) :=
 (by kernel_rfl)
theorem dGh (args : List DV) (h : Hp) : aL CF rec n 33 args h = s33 rec n (args.getD 0 aA) h :=
 cZ (dMr rec n) args h (by kernel_rfl) (by kernel_rfl)
def gH (rec : RT) (n : Nat) (x1 x7 : DV) (h0 : Hp) : aH :=
 bnd (nJ [x7, x1] h0) fun v1 h1 =>
 some (v1, h1)
def tK (rec : RT) (n : Nat) (kk5 : TT6) (x1 x2 x7 x10 x11 x12 : DV) (h0 : Hp) : aH :=
 bnd (aF .lss x12 x11 h0) fun v1 h1 =>
 aU v1 (
 bnd (aP 6 x10 x12 h1) fun v2 h2 =>
 bnd (aE 6 v2 h2) fun v3 h3 =>
 bnd (bG [(.i .i64 (Int.ofNat 0)), (.s []), (.i .i64 (Int.ofNat 0)), .l0, .l0, .l0] h3) fun v4 h4 =>
 bnd (aC 6 v4 v3 h4) fun _ h5 =>
 bnd (aE 6 v4 h5) fun v6 h6 =>
 bnd (dS CF rec x2 [v6] h6) fun v7 h7 =>
 bnd (aO [(.s [])] 1 [(0, 1, v7)] h7) fun v8 h8 =>
 bnd (aX 1 16 x7 v8 h8) fun v9 h9 =>
 bnd (aF .add x12 (.i .i64 (Int.ofNat 1)) h9) fun v10 h10 =>
      kk5 x1 x2 v9 x10 x11 v10 h10) (
      gH rec n x1 x7 h1)
def nD (rec : RT) (n : Nat) (m : Nat) : TT6 :=
 Nat.rec (motive := fun _ => TT6) (fun _ _ _ _ _ _ _ => none) (fun _ ih => tK rec n ih) m
def bTx (rec : RT) (n : Nat) : TT6 := nD rec n n
def aZu (rec : RT) (n : Nat) (x1 x2 x7 x10 x11 x12 : DV) (h0 : Hp) : aH :=
 bTx rec n x1 x2 x7 x10 x11 x12 h0
def aWq (rec : RT) (n : Nat) (x0 x1 x2 x7 : DV) (h0 : Hp) : aH :=
 bnd (dB x0 h0) fun v1 h1 =>
  aZu rec n x1 x2 x7 x0 v1 (.i .i64 (Int.ofNat 0)) h1
def bBe (rec : RT) (n : Nat) (x0 x1 x2 : DV) (h0 : Hp) : aH :=
 aWq rec n x0 x1 x2 .l0 h0
def s35 (rec : RT) (n : Nat) (x0 x1 x2 : DV) (h0 : Hp) : aH :=
 bBe rec n x0 x1 x2 h0
abbrev c35 : Code := cf Tryz.f35
abbrev aVw := cR c35
abbrev bCc := cR aVw
abbrev dJh := cR bCc
abbrev aLn := cL bCc
abbrev bJy := cR aLn
abbrev bAp := cL bJy
abbrev xG := cL bAp
abbrev cOn := cL aLn
abbrev cOv := cL aVw
abbrev bOi := cL c35
abbrev r35 : K := bD CF Tryz.f35
def D35 (rec : RT) (n : Nat) (c : Code) (X : Nat → K) (k : K) : K := aR CF rec 26 n c X r35 k
theorem cVy : D35 rec n dJh x0 r35 = (K2 (gH rec n) 1 7) := by kernel_rfl
theorem cKn (kk5 : TT6) : D35 rec n xG (xs x0 0 (K2 (gH rec n) 1 7)) (K6 kk5 1 2 7 10 11 12) = (K6 (tK rec n kk5) 1 2 7 10 11 12) := by kernel_rfl
theorem bZi (m : Nat) : aG (fun kk => D35 rec n xG (xs x0 0 (K2 (gH rec n) 1 7)) kk) m = (K6 (nD rec n m) 1 2 7 10 11 12) := by
 induction m with
 | zero => exact (by kernel_rfl : aG (fun kk => D35 rec n xG (xs x0 0 (K2 (gH rec n) 1 7)) kk) 0 = (K6 (nD rec n 0) 1 2 7 10 11 12))
 | succ m ih =>
  refine (by kernel_rfl : aG (fun kk => D35 rec n xG (xs x0 0 (K2 (gH rec n) 1 7)) kk) (m + 1) = D35 rec n xG (xs x0 0 (K2 (gH rec n) 1 7)) (aG (fun kk => D35 rec n xG (xs x0 0 (K2 (gH rec n) 1 7)) kk) m)).trans ?_
  rw [ih]
  exact (cKn rec n (nD rec n m)).trans (by kernel_rfl)
theorem cTv : D35 rec n bAp (xs x0 0 (K2 (gH rec n) 1 7)) (K2 (gH rec n) 1 7) = (K6 (bTx rec n) 1 2 7 10 11 12) :=
 (by kernel_rfl : D35 rec n bAp (xs x0 0 (K2 (gH rec n) 1 7)) (K2 (gH rec n) 1 7) = aG (fun kk => D35 rec n xG (xs x0 0 (K2 (gH rec n) 1 7)) kk) n).trans ((bZi rec n n).trans (by kernel_rfl))
theorem cZl : D35 rec n bJy x0 (K2 (gH rec n) 1 7) = (K6 (aZu rec n) 1 2 7 10 11 12) :=
 (by kernel_rfl : D35 rec n bJy x0 (K2 (gH rec n) 1 7) = D35 rec n bAp (xs x0 0 (K2 (gH rec n) 1 7)) (K2 (gH rec n) 1 7)).trans
 ((cTv rec n).trans (by kernel_rfl))
theorem cGa : D35 rec n bCc x0 r35 = D35 rec n aLn x0 (K2 (gH rec n) 1 7) :=
 congrArg (fun k => D35 rec n aLn x0 k) (cVy rec n)
theorem cCa : D35 rec n aLn x0 (K2 (gH rec n) 1 7) = D35 rec n cOn x0 (K6 (aZu rec n) 1 2 7 10 11 12) :=
 congrArg (fun k => D35 rec n cOn x0 k) (cZl rec n)
theorem cWh : D35 rec n bCc x0 r35 = (K4 (aWq rec n) 0 1 2 7) :=
 (cGa rec n).trans
 ((cCa rec n).trans
 ((by kernel_rfl)))
theorem cJs : D35 rec n aVw x0 r35 = D35 rec n cOv x0 (K4 (aWq rec n) 0 1 2 7) :=
 congrArg (fun k => D35 rec n cOv x0 k) (cWh rec n)
theorem cUm : D35 rec n aVw x0 r35 = (K3 (bBe rec n) 0 1 2) :=
 (cJs rec n).trans
 ((by kernel_rfl))
theorem dJa : D35 rec n c35 x0 r35 = D35 rec n bOi x0 (K3 (bBe rec n) 0 1 2) :=
 congrArg (fun k => D35 rec n bOi x0 k) (cUm rec n)
theorem dMl : D35 rec n c35 x0 r35 = (K3 (s35 rec n) 0 1 2) :=
 (dJa rec n).trans
 ((by kernel_rfl))
theorem dJk (args : List DV) (h : Hp) : aL CF rec n 35 args h = s35 rec n (args.getD 0 aA) (args.getD 1 aA) (args.getD 2 aA) h :=
 cZ (dMl rec n) args h (by kernel_rfl) (by kernel_rfl)
def aM (rec : RT) (n : Nat) (x1 : DV) (h0 : Hp) : aH :=
 bnd (aB 1 x1 h0) fun v1 h1 =>
 bnd (aD v1 h1) fun v2 h2 =>
 some (v2, h2)
def aLa (rec : RT) (n : Nat) (x1 x3 : DV) (h0 : Hp) : aH :=
 bnd (aE 6 x1 h0) fun v1 h1 =>
 bnd (rec 21 [v1] h1) fun v2 h2 =>
 bnd (aO [(.s []), (.s []), (.s []), (.s [])] 4 [(0, 1, (.s [91])), (1, 1, x3), (2, 1, v2), (3, 1, (.s [93]))] h2) fun v3 h3 =>
 bnd (rec 19 [v3] h3) fun v4 h4 =>
 some (v4, h4)
def dR (rec : RT) (n : Nat) (x1 x3 : DV) (h0 : Hp) : aH :=
 bnd (bY .neq x3 (.s []) h0) fun v1 h1 =>
 aU v1 (
 bnd (aO [(.s []), (.s [])] 2 [(0, 1, x3), (1, 1, (.s [124, 32]))] h1) fun v2 h2 =>
 bnd (rec 19 [v2] h2) fun v3 h3 =>
  aLa rec n x1 v3 h3) (
  aLa rec n x1 x3 h1)
def oJ (rec : RT) (n : Nat) (kk26 : TT5) (x1 x3 x64 x65 x66 : DV) (h0 : Hp) : aH :=
 bnd (aF .lss x66 x65 h0) fun v1 h1 =>
 aU v1 (
 bnd (aP 1 x64 x66 h1) fun v2 h2 =>
 bnd (aD v2 h2) fun v3 h3 =>
 bnd (aO [(.s []), (.s []), (.s []), (.s [])] 4 [(0, 1, x3), (1, 1, (.s [58])), (2, 1, v3), (3, 1, (.s [32]))] h3) fun v4 h4 =>
 bnd (rec 19 [v4] h4) fun v5 h5 =>
 bnd (aF .add x66 (.i .i64 (Int.ofNat 1)) h5) fun v6 h6 =>
      kk26 x1 v5 x64 x65 v6 h6) (
      dR rec n x1 x3 h1)
def jS (rec : RT) (n : Nat) (m : Nat) : TT5 :=
 Nat.rec (motive := fun _ => TT5) (fun _ _ _ _ _ _ => none) (fun _ ih => oJ rec n ih) m
def aRt (rec : RT) (n : Nat) : TT5 := jS rec n n
def aJs (rec : RT) (n : Nat) (x1 x3 x64 x65 x66 : DV) (h0 : Hp) : aH :=
 aRt rec n x1 x3 x64 x65 x66 h0
def aGn (rec : RT) (n : Nat) (x1 x3 : DV) (h0 : Hp) : aH :=
 bnd (aB 3 x1 h0) fun v1 h1 =>
 bnd (aD v1 h1) fun v2 h2 =>
 bnd (dB v2 h2) fun v3 h3 =>
  aJs rec n x1 x3 v2 v3 (.i .i64 (Int.ofNat 0)) h3
def aPm (rec : RT) (n : Nat) (x1 : DV) (h0 : Hp) : aH :=
 aGn rec n x1 (.s []) h0
def aAg (rec : RT) (n : Nat) (x1 x61 : DV) (h0 : Hp) : aH :=
 aU x61 (
  aPm rec n x1 h0) (
  aM rec n x1 h0)
def aQc (rec : RT) (n : Nat) (x1 x7 : DV) (h0 : Hp) : aH :=
 bnd (aF .eql x7 (.i .i64 (Int.ofNat 9)) h0) fun v1 h1 =>
  aAg rec n x1 v1 h1
def aAu (rec : RT) (n : Nat) (x1 x7 x56 : DV) (h0 : Hp) : aH :=
 aU x56 (
 bnd (aB 5 x1 h0) fun v1 h1 =>
 bnd (aD v1 h1) fun v2 h2 =>
 bnd (rec 62 [v2] h2) fun v3 h3 =>
 some (v3, h3)) (
  aQc rec n x1 x7 h0)
def aQq (rec : RT) (n : Nat) (x1 x7 : DV) (h0 : Hp) : aH :=
 bnd (aF .eql x7 (.i .i64 (Int.ofNat 8)) h0) fun v1 h1 =>
  aAu rec n x1 x7 v1 h1
def aBg (rec : RT) (n : Nat) (x1 x7 x49 : DV) (h0 : Hp) : aH :=
 aU x49 (
 bnd (aB 1 x1 h0) fun v1 h1 =>
 bnd (aD v1 h1) fun v2 h2 =>
 bnd (aB 5 x1 h2) fun v3 h3 =>
 bnd (aD v3 h3) fun v4 h4 =>
 bnd (rec 61 [v2, v4] h4) fun v5 h5 =>
 some (v5, h5)) (
  aQq rec n x1 x7 h0)
def aPv (rec : RT) (n : Nat) (x1 x7 : DV) (h0 : Hp) : aH :=
 bnd (aF .eql x7 (.i .i64 (Int.ofNat 7)) h0) fun v1 h1 =>
  aBg rec n x1 x7 v1 h1
def xP (rec : RT) (n : Nat) (x1 x7 x42 : DV) (h0 : Hp) : aH :=
 aU x42 (
 bnd (aB 5 x1 h0) fun v1 h1 =>
 bnd (aD v1 h1) fun v2 h2 =>
 bnd (rec 35 [v2, (.s []), (.f 36 [] [])] h2) fun v3 h3 =>
 bnd (aO [(.s []), (.s [])] 2 [(0, 1, (.s [94])), (1, 1, v3)] h3) fun v4 h4 =>
 bnd (rec 19 [v4] h4) fun v5 h5 =>
 some (v5, h5)) (
  aPv rec n x1 x7 h0)
def aRq (rec : RT) (n : Nat) (x1 x7 : DV) (h0 : Hp) : aH :=
 bnd (aF .eql x7 (.i .i64 (Int.ofNat 10)) h0) fun v1 h1 =>
  xP rec n x1 x7 v1 h1
def xM (rec : RT) (n : Nat) (x1 x7 x33 : DV) (h0 : Hp) : aH :=
 aU x33 (
 bnd (aB 1 x1 (hC 1 h0)) fun v1 h1 =>
 bnd (aD v1 h1) fun v2 h2 =>
 bnd (aB 5 x1 h2) fun v3 h3 =>
 bnd (aD v3 h3) fun v4 h4 =>
 bnd (rec 35 [v4, (.s []), (.f 36 [] [])] h4) fun v5 h5 =>
 cnd (bP (aD v1 h5) v2 && true) (
 bnd (aZ (cT 0 h0.next) [(.s []), (.s []), (.s [])] 3 [(0, 1, v2), (1, 1, (.s [32, 58, 61, 32])), (2, 1, v5)] h5) fun v6 h6 =>
 bnd (rec 19 [v6] h6) fun v7 h7 =>
 some (v7, h7))) (
  aRq rec n x1 x7 h0)
def aSr (rec : RT) (n : Nat) (x1 x7 : DV) (h0 : Hp) : aH :=
 bnd (aF .eql x7 (.i .i64 (Int.ofNat 6)) h0) fun v1 h1 =>
  xM rec n x1 x7 v1 h1
def zY (rec : RT) (n : Nat) (x1 x7 x26 : DV) (h0 : Hp) : aH :=
 aU x26 (
 bnd (aB 5 x1 h0) fun v1 h1 =>
 bnd (aD v1 h1) fun v2 h2 =>
 bnd (rec 35 [v2, (.s [32]), (.f 36 [] [])] h2) fun v3 h3 =>
 bnd (aO [(.s []), (.s []), (.s [])] 3 [(0, 1, (.s [35, 40])), (1, 1, v3), (2, 1, (.s [41]))] h3) fun v4 h4 =>
 bnd (rec 19 [v4] h4) fun v5 h5 =>
 some (v5, h5)) (
  aSr rec n x1 x7 h0)
def bGk (rec : RT) (n : Nat) (x1 x7 : DV) (h0 : Hp) : aH :=
 bnd (aF .eql x7 (.i .i64 (Int.ofNat 4)) h0) fun v1 h1 =>
  zY rec n x1 x7 v1 h1
def aOm (rec : RT) (n : Nat) (x1 x7 x20 : DV) (h0 : Hp) : aH :=
 aU x20 (
 bnd (aB 1 x1 h0) fun v1 h1 =>
 bnd (aD v1 h1) fun v2 h2 =>
 bnd (aO [(.s []), (.s [])] 2 [(0, 1, (.s [35])), (1, 1, v2)] h2) fun v3 h3 =>
 bnd (rec 19 [v3] h3) fun v4 h4 =>
 some (v4, h4)) (
  bGk rec n x1 x7 h0)
def bSm (rec : RT) (n : Nat) (x1 x7 : DV) (h0 : Hp) : aH :=
 bnd (aF .eql x7 (.i .i64 (Int.ofNat 3)) h0) fun v1 h1 =>
  aOm rec n x1 x7 v1 h1
def aLg (rec : RT) (n : Nat) (x1 x7 x13 : DV) (h0 : Hp) : aH :=
 aU x13 (
 bnd (aB 1 x1 h0) fun v1 h1 =>
 bnd (aD v1 h1) fun v2 h2 =>
 bnd (aCn [v2, (.s [39]), (.s [39, 39])] h2) fun v3 h3 =>
 bnd (aO [(.s []), (.s []), (.s [])] 3 [(0, 1, (.s [39])), (1, 1, v3), (2, 1, (.s [39]))] h3) fun v4 h4 =>
 bnd (rec 19 [v4] h4) fun v5 h5 =>
 some (v5, h5)) (
  bSm rec n x1 x7 h0)
def bNv (rec : RT) (n : Nat) (x1 x7 : DV) (h0 : Hp) : aH :=
 bnd (aF .eql x7 (.i .i64 (Int.ofNat 2)) h0) fun v1 h1 =>
  aLg rec n x1 x7 v1 h1
def aOi (rec : RT) (n : Nat) (x1 x7 x8 : DV) (h0 : Hp) : aH :=
 aU x8 (
 bnd (aB 2 x1 h0) fun v1 h1 =>
 bnd (aD v1 h1) fun v2 h2 =>
 bnd (aCv [v2] h2) fun v3 h3 =>
 some (v3, h3)) (
  bNv rec n x1 x7 h0)
def bDn (rec : RT) (n : Nat) (x1 x7 : DV) (h0 : Hp) : aH :=
 bnd (aF .eql x7 (.i .i64 (Int.ofNat 1)) h0) fun v1 h1 =>
  aOi rec n x1 x7 v1 h1
def aUe (rec : RT) (n : Nat) (x1 : DV) (h0 : Hp) : aH :=
 bnd (aB 0 x1 h0) fun v1 h1 =>
 bnd (aD v1 h1) fun v2 h2 =>
  bDn rec n x1 v2 h2
def s36 (rec : RT) (n : Nat) (x0 : DV) (h0 : Hp) : aH :=
 bnd (dW x0 h0) fun v1 h1 =>
  aUe rec n v1 h1
abbrev c36 : Code := cf Tryz.f36
abbrev aUx := cR c36
abbrev dIl := cR aUx
abbrev aMj := cL aUx
abbrev bRh := cR aMj
abbrev aWc := cL bRh
abbrev aMu := cR aWc
abbrev aPh := cR aMu
abbrev aMy := cR aPh
abbrev aNv := cR aMy
abbrev wO := cR aNv
abbrev aBa := cR wO
abbrev aBf := cR aBa
abbrev wN := cR aBf
abbrev wW := cR wN
abbrev aBe := cR wW
abbrev yM := cR aBe
abbrev xA := cR yM
abbrev xV := cR xA
abbrev aAz := cR xV
abbrev yT := cR aAz
abbrev xN := cR yT
abbrev yH := cR xN
abbrev wL := cL yH
abbrev aIl := cR wL
abbrev dBr := cR aIl
abbrev yU := cL aIl
abbrev aSt := cR yU
abbrev aEn := cL aSt
abbrev rE := cL aEn
abbrev bTm := cL yU
abbrev bVy := cL wL
abbrev cVp := cR yH
abbrev bRi := cL xN
abbrev cXz := cL yT
abbrev bPj := cL aAz
abbrev cZe := cL xV
abbrev bRu := cL xA
abbrev dDc := cL yM
abbrev bRs := cL aBe
abbrev cXa := cL wW
abbrev bUz := cL wN
abbrev cYr := cL aBf
abbrev bTw := cL aBa
abbrev dBk := cL wO
abbrev bXt := cL aNv
abbrev dAn := cL aMy
abbrev bGm := cL aPh
abbrev cZx := cL aMu
abbrev bYc := cL aWc
abbrev bPh := cL aMj
abbrev bOp := cL c36
abbrev r36 : K := bD CF Tryz.f36
def D36 (rec : RT) (n : Nat) (c : Code) (X : Nat → K) (k : K) : K := aR CF rec 87 n c X r36 k
theorem cZa : D36 rec n dIl x0 r36 = (K1 (aM rec n) 1) := by kernel_rfl
theorem cEx : D36 rec n dBr (xs x0 0 (K1 (aM rec n) 1)) (K1 (aM rec n) 1) = (K2 (dR rec n) 1 3) := by kernel_rfl
theorem bWb (kk26 : TT5) : D36 rec n rE (xs (xs x0 0 (K1 (aM rec n) 1)) 1 (K2 (dR rec n) 1 3)) (K5 kk26 1 3 64 65 66) = (K5 (oJ rec n kk26) 1 3 64 65 66) := by kernel_rfl
theorem bKh (m : Nat) : aG (fun kk => D36 rec n rE (xs (xs x0 0 (K1 (aM rec n) 1)) 1 (K2 (dR rec n) 1 3)) kk) m = (K5 (jS rec n m) 1 3 64 65 66) := by
 induction m with
 | zero => exact (by kernel_rfl : aG (fun kk => D36 rec n rE (xs (xs x0 0 (K1 (aM rec n) 1)) 1 (K2 (dR rec n) 1 3)) kk) 0 = (K5 (jS rec n 0) 1 3 64 65 66))
 | succ m ih =>
  refine (by kernel_rfl : aG (fun kk => D36 rec n rE (xs (xs x0 0 (K1 (aM rec n) 1)) 1 (K2 (dR rec n) 1 3)) kk) (m + 1) = D36 rec n rE (xs (xs x0 0 (K1 (aM rec n) 1)) 1 (K2 (dR rec n) 1 3)) (aG (fun kk => D36 rec n rE (xs (xs x0 0 (K1 (aM rec n) 1)) 1 (K2 (dR rec n) 1 3)) kk) m)).trans ?_
  rw [ih]
  exact (bWb rec n (jS rec n m)).trans (by kernel_rfl)
theorem bZc : D36 rec n aEn (xs (xs x0 0 (K1 (aM rec n) 1)) 1 (K2 (dR rec n) 1 3)) (K2 (dR rec n) 1 3) = (K5 (aRt rec n) 1 3 64 65 66) :=
 (by kernel_rfl : D36 rec n aEn (xs (xs x0 0 (K1 (aM rec n) 1)) 1 (K2 (dR rec n) 1 3)) (K2 (dR rec n) 1 3) = aG (fun kk => D36 rec n rE (xs (xs x0 0 (K1 (aM rec n) 1)) 1 (K2 (dR rec n) 1 3)) kk) n).trans ((bKh rec n n).trans (by kernel_rfl))
theorem cDw : D36 rec n aSt (xs x0 0 (K1 (aM rec n) 1)) (K2 (dR rec n) 1 3) = (K5 (aJs rec n) 1 3 64 65 66) :=
 (by kernel_rfl : D36 rec n aSt (xs x0 0 (K1 (aM rec n) 1)) (K2 (dR rec n) 1 3) = D36 rec n aEn (xs (xs x0 0 (K1 (aM rec n) 1)) 1 (K2 (dR rec n) 1 3)) (K2 (dR rec n) 1 3)).trans
 ((bZc rec n).trans (by kernel_rfl))
theorem bIh : D36 rec n aIl (xs x0 0 (K1 (aM rec n) 1)) (K1 (aM rec n) 1) = D36 rec n yU (xs x0 0 (K1 (aM rec n) 1)) (K2 (dR rec n) 1 3) :=
 congrArg (fun k => D36 rec n yU (xs x0 0 (K1 (aM rec n) 1)) k) (cEx rec n)
theorem bOy : D36 rec n yU (xs x0 0 (K1 (aM rec n) 1)) (K2 (dR rec n) 1 3) = D36 rec n bTm (xs x0 0 (K1 (aM rec n) 1)) (K5 (aJs rec n) 1 3 64 65 66) :=
 congrArg (fun k => D36 rec n bTm (xs x0 0 (K1 (aM rec n) 1)) k) (cDw rec n)
theorem cHq : D36 rec n aIl (xs x0 0 (K1 (aM rec n) 1)) (K1 (aM rec n) 1) = (K2 (aGn rec n) 1 3) :=
 (bIh rec n).trans
 ((bOy rec n).trans
 ((by kernel_rfl)))
theorem bHm : D36 rec n wL (xs x0 0 (K1 (aM rec n) 1)) (K1 (aM rec n) 1) = D36 rec n bVy (xs x0 0 (K1 (aM rec n) 1)) (K2 (aGn rec n) 1 3) :=
 congrArg (fun k => D36 rec n bVy (xs x0 0 (K1 (aM rec n) 1)) k) (cHq rec n)
theorem cEt : D36 rec n wL (xs x0 0 (K1 (aM rec n) 1)) (K1 (aM rec n) 1) = (K1 (aPm rec n) 1) :=
 (bHm rec n).trans
 ((by kernel_rfl))
theorem bZd : D36 rec n yH (xs x0 0 (K1 (aM rec n) 1)) (K1 (aM rec n) 1) = (K2 (aAg rec n) 1 61) :=
 (by kernel_rfl : D36 rec n yH (xs x0 0 (K1 (aM rec n) 1)) (K1 (aM rec n) 1) = (fun (env : eE) (h : Hp) => aU (opr env (cC yH)) (D36 rec n wL (xs x0 0 (K1 (aM rec n) 1)) (K1 (aM rec n) 1) env h) (D36 rec n cVp (xs x0 0 (K1 (aM rec n) 1)) (K1 (aM rec n) 1) env h))).trans (by rw [cEt rec n]; kernel_rfl)
theorem bRk : D36 rec n xN (xs x0 0 (K1 (aM rec n) 1)) (K1 (aM rec n) 1) = D36 rec n bRi (xs x0 0 (K1 (aM rec n) 1)) (K2 (aAg rec n) 1 61) :=
 congrArg (fun k => D36 rec n bRi (xs x0 0 (K1 (aM rec n) 1)) k) (bZd rec n)
theorem cFf : D36 rec n xN (xs x0 0 (K1 (aM rec n) 1)) (K1 (aM rec n) 1) = (K2 (aQc rec n) 1 7) :=
 (bRk rec n).trans
 ((by kernel_rfl))
theorem cHl : D36 rec n yT (xs x0 0 (K1 (aM rec n) 1)) (K1 (aM rec n) 1) = (K3 (aAu rec n) 1 7 56) :=
 (by kernel_rfl : D36 rec n yT (xs x0 0 (K1 (aM rec n) 1)) (K1 (aM rec n) 1) = (fun (env : eE) (h : Hp) => aU (opr env (cC yT)) (D36 rec n cXz (xs x0 0 (K1 (aM rec n) 1)) (K1 (aM rec n) 1) env h) (D36 rec n xN (xs x0 0 (K1 (aM rec n) 1)) (K1 (aM rec n) 1) env h))).trans (by rw [cFf rec n]; kernel_rfl)
theorem bPp : D36 rec n aAz (xs x0 0 (K1 (aM rec n) 1)) (K1 (aM rec n) 1) = D36 rec n bPj (xs x0 0 (K1 (aM rec n) 1)) (K3 (aAu rec n) 1 7 56) :=
 congrArg (fun k => D36 rec n bPj (xs x0 0 (K1 (aM rec n) 1)) k) (cHl rec n)
theorem cDd : D36 rec n aAz (xs x0 0 (K1 (aM rec n) 1)) (K1 (aM rec n) 1) = (K2 (aQq rec n) 1 7) :=
 (bPp rec n).trans
 ((by kernel_rfl))
theorem cJe : D36 rec n xV (xs x0 0 (K1 (aM rec n) 1)) (K1 (aM rec n) 1) = (K3 (aBg rec n) 1 7 49) :=
 (by kernel_rfl : D36 rec n xV (xs x0 0 (K1 (aM rec n) 1)) (K1 (aM rec n) 1) = (fun (env : eE) (h : Hp) => aU (opr env (cC xV)) (D36 rec n cZe (xs x0 0 (K1 (aM rec n) 1)) (K1 (aM rec n) 1) env h) (D36 rec n aAz (xs x0 0 (K1 (aM rec n) 1)) (K1 (aM rec n) 1) env h))).trans (by rw [cDd rec n]; kernel_rfl)
theorem bFl : D36 rec n xA (xs x0 0 (K1 (aM rec n) 1)) (K1 (aM rec n) 1) = D36 rec n bRu (xs x0 0 (K1 (aM rec n) 1)) (K3 (aBg rec n) 1 7 49) :=
 congrArg (fun k => D36 rec n bRu (xs x0 0 (K1 (aM rec n) 1)) k) (cJe rec n)
theorem cJw : D36 rec n xA (xs x0 0 (K1 (aM rec n) 1)) (K1 (aM rec n) 1) = (K2 (aPv rec n) 1 7) :=
 (bFl rec n).trans
 ((by kernel_rfl))
theorem cFp : D36 rec n yM (xs x0 0 (K1 (aM rec n) 1)) (K1 (aM rec n) 1) = (K3 (xP rec n) 1 7 42) :=
 (by kernel_rfl : D36 rec n yM (xs x0 0 (K1 (aM rec n) 1)) (K1 (aM rec n) 1) = (fun (env : eE) (h : Hp) => aU (opr env (cC yM)) (D36 rec n dDc (xs x0 0 (K1 (aM rec n) 1)) (K1 (aM rec n) 1) env h) (D36 rec n xA (xs x0 0 (K1 (aM rec n) 1)) (K1 (aM rec n) 1) env h))).trans (by rw [cJw rec n]; kernel_rfl)
theorem bFh : D36 rec n aBe (xs x0 0 (K1 (aM rec n) 1)) (K1 (aM rec n) 1) = D36 rec n bRs (xs x0 0 (K1 (aM rec n) 1)) (K3 (xP rec n) 1 7 42) :=
 congrArg (fun k => D36 rec n bRs (xs x0 0 (K1 (aM rec n) 1)) k) (cFp rec n)
theorem cGp : D36 rec n aBe (xs x0 0 (K1 (aM rec n) 1)) (K1 (aM rec n) 1) = (K2 (aRq rec n) 1 7) :=
 (bFh rec n).trans
 ((by kernel_rfl))
theorem cFr : D36 rec n wW (xs x0 0 (K1 (aM rec n) 1)) (K1 (aM rec n) 1) = (K3 (xM rec n) 1 7 33) :=
 (by kernel_rfl : D36 rec n wW (xs x0 0 (K1 (aM rec n) 1)) (K1 (aM rec n) 1) = (fun (env : eE) (h : Hp) => aU (opr env (cC wW)) (D36 rec n cXa (xs x0 0 (K1 (aM rec n) 1)) (K1 (aM rec n) 1) env h) (D36 rec n aBe (xs x0 0 (K1 (aM rec n) 1)) (K1 (aM rec n) 1) env h))).trans (by rw [cGp rec n]; kernel_rfl)
theorem bEh : D36 rec n wN (xs x0 0 (K1 (aM rec n) 1)) (K1 (aM rec n) 1) = D36 rec n bUz (xs x0 0 (K1 (aM rec n) 1)) (K3 (xM rec n) 1 7 33) :=
 congrArg (fun k => D36 rec n bUz (xs x0 0 (K1 (aM rec n) 1)) k) (cFr rec n)
theorem cEh : D36 rec n wN (xs x0 0 (K1 (aM rec n) 1)) (K1 (aM rec n) 1) = (K2 (aSr rec n) 1 7) :=
 (bEh rec n).trans
 ((by kernel_rfl))
theorem cDi : D36 rec n aBf (xs x0 0 (K1 (aM rec n) 1)) (K1 (aM rec n) 1) = (K3 (zY rec n) 1 7 26) :=
 (by kernel_rfl : D36 rec n aBf (xs x0 0 (K1 (aM rec n) 1)) (K1 (aM rec n) 1) = (fun (env : eE) (h : Hp) => aU (opr env (cC aBf)) (D36 rec n cYr (xs x0 0 (K1 (aM rec n) 1)) (K1 (aM rec n) 1) env h) (D36 rec n wN (xs x0 0 (K1 (aM rec n) 1)) (K1 (aM rec n) 1) env h))).trans (by rw [cEh rec n]; kernel_rfl)
theorem bVm : D36 rec n aBa (xs x0 0 (K1 (aM rec n) 1)) (K1 (aM rec n) 1) = D36 rec n bTw (xs x0 0 (K1 (aM rec n) 1)) (K3 (zY rec n) 1 7 26) :=
 congrArg (fun k => D36 rec n bTw (xs x0 0 (K1 (aM rec n) 1)) k) (cDi rec n)
theorem cRb : D36 rec n aBa (xs x0 0 (K1 (aM rec n) 1)) (K1 (aM rec n) 1) = (K2 (bGk rec n) 1 7) :=
 (bVm rec n).trans
 ((by kernel_rfl))
theorem cTp : D36 rec n wO (xs x0 0 (K1 (aM rec n) 1)) (K1 (aM rec n) 1) = (K3 (aOm rec n) 1 7 20) :=
 (by kernel_rfl : D36 rec n wO (xs x0 0 (K1 (aM rec n) 1)) (K1 (aM rec n) 1) = (fun (env : eE) (h : Hp) => aU (opr env (cC wO)) (D36 rec n dBk (xs x0 0 (K1 (aM rec n) 1)) (K1 (aM rec n) 1) env h) (D36 rec n aBa (xs x0 0 (K1 (aM rec n) 1)) (K1 (aM rec n) 1) env h))).trans (by rw [cRb rec n]; kernel_rfl)
theorem bVo : D36 rec n aNv (xs x0 0 (K1 (aM rec n) 1)) (K1 (aM rec n) 1) = D36 rec n bXt (xs x0 0 (K1 (aM rec n) 1)) (K3 (aOm rec n) 1 7 20) :=
 congrArg (fun k => D36 rec n bXt (xs x0 0 (K1 (aM rec n) 1)) k) (cTp rec n)
theorem cXk : D36 rec n aNv (xs x0 0 (K1 (aM rec n) 1)) (K1 (aM rec n) 1) = (K2 (bSm rec n) 1 7) :=
 (bVo rec n).trans
 ((by kernel_rfl))
theorem cXe : D36 rec n aMy (xs x0 0 (K1 (aM rec n) 1)) (K1 (aM rec n) 1) = (K3 (aLg rec n) 1 7 13) :=
 (by kernel_rfl : D36 rec n aMy (xs x0 0 (K1 (aM rec n) 1)) (K1 (aM rec n) 1) = (fun (env : eE) (h : Hp) => aU (opr env (cC aMy)) (D36 rec n dAn (xs x0 0 (K1 (aM rec n) 1)) (K1 (aM rec n) 1) env h) (D36 rec n aNv (xs x0 0 (K1 (aM rec n) 1)) (K1 (aM rec n) 1) env h))).trans (by rw [cXk rec n]; kernel_rfl)
theorem bRf : D36 rec n aPh (xs x0 0 (K1 (aM rec n) 1)) (K1 (aM rec n) 1) = D36 rec n bGm (xs x0 0 (K1 (aM rec n) 1)) (K3 (aLg rec n) 1 7 13) :=
 congrArg (fun k => D36 rec n bGm (xs x0 0 (K1 (aM rec n) 1)) k) (cXe rec n)
theorem cRi : D36 rec n aPh (xs x0 0 (K1 (aM rec n) 1)) (K1 (aM rec n) 1) = (K2 (bNv rec n) 1 7) :=
 (bRf rec n).trans
 ((by kernel_rfl))
theorem cTh : D36 rec n aMu (xs x0 0 (K1 (aM rec n) 1)) (K1 (aM rec n) 1) = (K3 (aOi rec n) 1 7 8) :=
 (by kernel_rfl : D36 rec n aMu (xs x0 0 (K1 (aM rec n) 1)) (K1 (aM rec n) 1) = (fun (env : eE) (h : Hp) => aU (opr env (cC aMu)) (D36 rec n cZx (xs x0 0 (K1 (aM rec n) 1)) (K1 (aM rec n) 1) env h) (D36 rec n aPh (xs x0 0 (K1 (aM rec n) 1)) (K1 (aM rec n) 1) env h))).trans (by rw [cRi rec n]; kernel_rfl)
theorem bVh : D36 rec n aWc (xs x0 0 (K1 (aM rec n) 1)) (K1 (aM rec n) 1) = D36 rec n bYc (xs x0 0 (K1 (aM rec n) 1)) (K3 (aOi rec n) 1 7 8) :=
 congrArg (fun k => D36 rec n bYc (xs x0 0 (K1 (aM rec n) 1)) k) (cTh rec n)
theorem dCd : D36 rec n bRh x0 (K1 (aM rec n) 1) = (K2 (bDn rec n) 1 7) :=
 (by kernel_rfl : D36 rec n bRh x0 (K1 (aM rec n) 1) = D36 rec n aWc (xs x0 0 (K1 (aM rec n) 1)) (K1 (aM rec n) 1)).trans
 ((bVh rec n).trans
 ((by kernel_rfl)))
theorem bMb : D36 rec n aUx x0 r36 = D36 rec n aMj x0 (K1 (aM rec n) 1) :=
 congrArg (fun k => D36 rec n aMj x0 k) (cZa rec n)
theorem bHj : D36 rec n aMj x0 (K1 (aM rec n) 1) = D36 rec n bPh x0 (K2 (bDn rec n) 1 7) :=
 congrArg (fun k => D36 rec n bPh x0 k) (dCd rec n)
theorem cVk : D36 rec n aUx x0 r36 = (K1 (aUe rec n) 1) :=
 (bMb rec n).trans
 ((bHj rec n).trans
 ((by kernel_rfl)))
theorem cUp : D36 rec n c36 x0 r36 = D36 rec n bOp x0 (K1 (aUe rec n) 1) :=
 congrArg (fun k => D36 rec n bOp x0 k) (cVk rec n)
theorem dPr : D36 rec n c36 x0 r36 = (K1 (s36 rec n) 0) :=
 (cUp rec n).trans
 ((by kernel_rfl))
theorem dLk (args : List DV) (h : Hp) : aL CF rec n 36 args h = s36 rec n (args.getD 0 aA) h :=
 cZ (dPr rec n) args h (by kernel_rfl) (by kernel_rfl)
def s37 (rec : RT) (n : Nat) (x0 x1 : DV) (h0 : Hp) : aH :=
 bnd (dW x0 h0) fun v1 h1 =>
 bnd (dW x1 h1) fun v2 h2 =>
 bnd (aB 0 v1 h2) fun v3 h3 =>
 bnd (aD v3 h3) fun v4 h4 =>
 bnd (aB 0 v2 h4) fun v5 h5 =>
 bnd (aD v5 h5) fun v6 h6 =>
 bnd (aF .eql v4 v6 h6) fun v7 h7 =>
 bnd (gD v7 true (aB 1 v1 h7) h7) fun v8 h8 =>
 bnd (gD v7 true (aD v8 h8) h8) fun v9 h9 =>
 bnd (gD v7 true (aB 1 v2 h9) h9) fun v10 h10 =>
 bnd (gD v7 true (aD v10 h10) h10) fun v11 h11 =>
 bnd (gD v7 true (bY .eql v9 v11 h11) h11) fun v12 h12 =>
 bnd (aV v7 v12 (.b false) h12) fun v13 h13 =>
 bnd (gD v13 true (aB 2 v1 h13) h13) fun v14 h14 =>
 bnd (gD v13 true (aD v14 h14) h14) fun v15 h15 =>
 bnd (gD v13 true (aB 2 v2 h15) h15) fun v16 h16 =>
 bnd (gD v13 true (aD v16 h16) h16) fun v17 h17 =>
 bnd (gD v13 true (aF .eql v15 v17 h17) h17) fun v18 h18 =>
 bnd (aV v13 v18 (.b false) h18) fun v19 h19 =>
 bnd (gD v19 true (aB 3 v1 h19) h19) fun v20 h20 =>
 bnd (gD v19 true (aD v20 h20) h20) fun v21 h21 =>
 bnd (gD v19 true (aB 3 v2 h21) h21) fun v22 h22 =>
 bnd (gD v19 true (aD v22 h22) h22) fun v23 h23 =>
 bnd (gD v19 true (rec 63 [v21, v23] h23) h23) fun v24 h24 =>
 bnd (aV v19 v24 (.b false) h24) fun v25 h25 =>
 bnd (gD v25 true (aB 4 v1 h25) h25) fun v26 h26 =>
 bnd (gD v25 true (aD v26 h26) h26) fun v27 h27 =>
 bnd (gD v25 true (aB 4 v2 h27) h27) fun v28 h28 =>
 bnd (gD v25 true (aD v28 h28) h28) fun v29 h29 =>
 bnd (gD v25 true (rec 63 [v27, v29] h29) h29) fun v30 h30 =>
 bnd (aV v25 v30 (.b false) h30) fun v31 h31 =>
 bnd (gD v31 true (aB 5 v1 h31) h31) fun v32 h32 =>
 bnd (gD v31 true (aD v32 h32) h32) fun v33 h33 =>
 bnd (gD v31 true (aB 5 v2 h33) h33) fun v34 h34 =>
 bnd (gD v31 true (aD v34 h34) h34) fun v35 h35 =>
 bnd (gD v31 true (rec 64 [v33, v35, (.f 37 [] [])] h35) h35) fun v36 h36 =>
 bnd (aV v31 v36 (.b false) h36) fun v37 h37 =>
 some (v37, h37)
abbrev c37 : Code := cf Tryz.f37
abbrev r37 : K := bD CF Tryz.f37
def D37 (rec : RT) (n : Nat) (c : Code) (X : Nat → K) (k : K) : K := aR CF rec 47 n c X r37 k
theorem dMx : D37 rec n c37 x0 r37 = (K2 (s37 rec n) 0 1) :=
 (by kernel_rfl)
theorem dIh (args : List DV) (h : Hp) : aL CF rec n 37 args h = s37 rec n (args.getD 0 aA) (args.getD 1 aA) h :=
 cZ (dMx rec n) args h (by kernel_rfl) (by kernel_rfl)
def gE (rec : RT) (n : Nat) (x5 : DV) (h0 : Hp) : aH :=
 some (x5, h0)
def cNq (rec : RT) (n : Nat) (kk5 : iG) (x0 x1 x5 x6 : DV) (h0 : Hp) : aH :=
 bnd (aF .add x6 (.i .i64 (Int.ofNat 1)) h0) fun v1 h1 =>
  kk5 x0 x1 x5 v1 h1
def bCp (rec : RT) (n : Nat) (kk5 : iG) (x0 x1 x5 x6 : DV) (h0 : Hp) : aH :=
 bnd (aP 6 x0 x6 h0) fun v1 h1 =>
 bnd (aE 6 v1 h1) fun v2 h2 =>
 bnd (rec 65 [v2] h2) fun v3 h3 =>
 bnd (bY .add x5 v3 h3) fun v4 h4 =>
  cNq rec n kk5 x0 x1 v4 x6 h4
def cQd (rec : RT) (n : Nat) (kk5 : iG) (x0 x1 x5 x6 : DV) (h0 : Hp) : aH :=
 bnd (aF .gtr x6 (.i .i64 (Int.ofNat 0)) h0) fun v1 h1 =>
 aU v1 (
 bnd (bY .add x5 x1 h1) fun v2 h2 =>
  bCp rec n kk5 x0 x1 v2 x6 h2) (
  bCp rec n kk5 x0 x1 x5 x6 h1)
def sU (rec : RT) (n : Nat) (kk5 : iG) (x0 x1 x5 x6 : DV) (h0 : Hp) : aH :=
 bnd (dB x0 h0) fun v1 h1 =>
 bnd (aF .lss x6 v1 h1) fun v2 h2 =>
 aU v2 (
  cQd rec n kk5 x0 x1 x5 x6 h2) (
  gE rec n x5 h2)
def kX (rec : RT) (n : Nat) (m : Nat) : iG :=
 Nat.rec (motive := fun _ => iG) (fun _ _ _ _ _ => none) (fun _ ih => sU rec n ih) m
def bSq (rec : RT) (n : Nat) : iG := kX rec n n
def aUn (rec : RT) (n : Nat) (x0 x1 x5 x6 : DV) (h0 : Hp) : aH :=
 bSq rec n x0 x1 x5 x6 h0
def aZl (rec : RT) (n : Nat) (x0 x1 x5 : DV) (h0 : Hp) : aH :=
 aUn rec n x0 x1 x5 (.i .i64 (Int.ofNat 0)) h0
def aWz (rec : RT) (n : Nat) (x0 x1 : DV) (h0 : Hp) : aH :=
 aZl rec n x0 x1 (.s []) h0
def s38 (rec : RT) (n : Nat) (x0 x1 : DV) (h0 : Hp) : aH :=
 aWz rec n x0 x1 h0
abbrev c38 : Code := cf Tryz.f38
abbrev aZp := cR c38
abbrev bDu := cR aZp
abbrev dLl := cR bDu
abbrev aPc := cL bDu
abbrev bSr := cR aPc
abbrev aYy := cL bSr
abbrev yP := cL aYy
abbrev bPz := cL aPc
abbrev bJv := cL aZp
abbrev bLx := cL c38
abbrev r38 : K := bD CF Tryz.f38
def D38 (rec : RT) (n : Nat) (c : Code) (X : Nat → K) (k : K) : K := aR CF rec 26 n c X r38 k
theorem cWr : D38 rec n dLl x0 r38 = (K1 (gE rec n) 5) := by kernel_rfl
theorem cId (kk5 : iG) : D38 rec n yP (xs x0 0 (K1 (gE rec n) 5)) (K4 kk5 0 1 5 6) = (K4 (sU rec n kk5) 0 1 5 6) := by kernel_rfl
theorem cJb (m : Nat) : aG (fun kk => D38 rec n yP (xs x0 0 (K1 (gE rec n) 5)) kk) m = (K4 (kX rec n m) 0 1 5 6) := by
 induction m with
 | zero => exact (by kernel_rfl : aG (fun kk => D38 rec n yP (xs x0 0 (K1 (gE rec n) 5)) kk) 0 = (K4 (kX rec n 0) 0 1 5 6))
 | succ m ih =>
  refine (by kernel_rfl : aG (fun kk => D38 rec n yP (xs x0 0 (K1 (gE rec n) 5)) kk) (m + 1) = D38 rec n yP (xs x0 0 (K1 (gE rec n) 5)) (aG (fun kk => D38 rec n yP (xs x0 0 (K1 (gE rec n) 5)) kk) m)).trans ?_
  rw [ih]
  exact (cId rec n (kX rec n m)).trans (by kernel_rfl)
theorem cUz : D38 rec n aYy (xs x0 0 (K1 (gE rec n) 5)) (K1 (gE rec n) 5) = (K4 (bSq rec n) 0 1 5 6) :=
 (by kernel_rfl : D38 rec n aYy (xs x0 0 (K1 (gE rec n) 5)) (K1 (gE rec n) 5) = aG (fun kk => D38 rec n yP (xs x0 0 (K1 (gE rec n) 5)) kk) n).trans ((cJb rec n n).trans (by kernel_rfl))
theorem cTt : D38 rec n bSr x0 (K1 (gE rec n) 5) = (K4 (aUn rec n) 0 1 5 6) :=
 (by kernel_rfl : D38 rec n bSr x0 (K1 (gE rec n) 5) = D38 rec n aYy (xs x0 0 (K1 (gE rec n) 5)) (K1 (gE rec n) 5)).trans
 ((cUz rec n).trans (by kernel_rfl))
theorem cEv : D38 rec n bDu x0 r38 = D38 rec n aPc x0 (K1 (gE rec n) 5) :=
 congrArg (fun k => D38 rec n aPc x0 k) (cWr rec n)
theorem cLt : D38 rec n aPc x0 (K1 (gE rec n) 5) = D38 rec n bPz x0 (K4 (aUn rec n) 0 1 5 6) :=
 congrArg (fun k => D38 rec n bPz x0 k) (cTt rec n)
theorem cVg : D38 rec n bDu x0 r38 = (K3 (aZl rec n) 0 1 5) :=
 (cEv rec n).trans
 ((cLt rec n).trans
 ((by kernel_rfl)))
theorem cGo : D38 rec n aZp x0 r38 = D38 rec n bJv x0 (K3 (aZl rec n) 0 1 5) :=
 congrArg (fun k => D38 rec n bJv x0 k) (cVg rec n)
theorem cWj : D38 rec n aZp x0 r38 = (K2 (aWz rec n) 0 1) :=
 (cGo rec n).trans
 ((by kernel_rfl))
theorem dEm : D38 rec n c38 x0 r38 = D38 rec n bLx x0 (K2 (aWz rec n) 0 1) :=
 congrArg (fun k => D38 rec n bLx x0 k) (cWj rec n)
theorem dNv : D38 rec n c38 x0 r38 = (K2 (s38 rec n) 0 1) :=
 (dEm rec n).trans
 ((by kernel_rfl))
theorem dKd (args : List DV) (h : Hp) : aL CF rec n 38 args h = s38 rec n (args.getD 0 aA) (args.getD 1 aA) h :=
 cZ (dNv rec n) args h (by kernel_rfl) (by kernel_rfl)
def fY (rec : RT) (n : Nat) (x0 : DV) (h0 : Hp) : aH :=
 bnd (cS x0 h0) fun v1 h1 =>
 bnd (aF .gtr v1 (.i .i64 (Int.ofNat 0)) h1) fun v2 h2 =>
 bnd (gD v2 true (some (x0, h2)) h2) fun v3 h3 =>
 bnd (gD v2 true (bF v3 (.i .i64 (Int.ofNat 0)) h3) h3) fun v4 h4 =>
 bnd (gD v2 true (aF .geq v4 (.i .u8 (Int.ofNat 97)) h4) h4) fun v5 h5 =>
 bnd (gD v2 true (some (v5, h5)) h5) fun v6 h6 =>
 bnd (gD v6 true (some (x0, h6)) h6) fun v7 h7 =>
 bnd (gD v6 true (bF v7 (.i .i64 (Int.ofNat 0)) h7) h7) fun v8 h8 =>
 bnd (gD v6 true (aF .leq v8 (.i .u8 (Int.ofNat 122)) h8) h8) fun v9 h9 =>
 bnd (gD v2 true (aV v6 v9 (.b false) h9) h9) fun v10 h10 =>
 bnd (gD v2 true (some (v10, h10)) h10) fun v11 h11 =>
 bnd (gD v11 false (some (x0, h11)) h11) fun v12 h12 =>
 bnd (gD v11 false (bF v12 (.i .i64 (Int.ofNat 0)) h12) h12) fun v13 h13 =>
 bnd (gD v11 false (aF .geq v13 (.i .u8 (Int.ofNat 65)) h13) h13) fun v14 h14 =>
 bnd (gD v11 false (some (v14, h14)) h14) fun v15 h15 =>
 bnd (gD v15 true (some (x0, h15)) h15) fun v16 h16 =>
 bnd (gD v15 true (bF v16 (.i .i64 (Int.ofNat 0)) h16) h16) fun v17 h17 =>
 bnd (gD v15 true (aF .leq v17 (.i .u8 (Int.ofNat 90)) h17) h17) fun v18 h18 =>
 bnd (gD v11 false (aV v15 v18 (.b false) h18) h18) fun v19 h19 =>
 bnd (gD v2 true (aV v11 (.b true) v19 h19) h19) fun v20 h20 =>
 bnd (aV v2 v20 (.b false) h20) fun v21 h21 =>
 aU v21 (
 some ((.i .i64 (Int.ofNat 1)), h21)) (
 some ((.i .i64 (Int.ofNat 2)), h21))
def tU (rec : RT) (n : Nat) (kk4 : dE) (x0 x3 : DV) (h0 : Hp) : aH :=
 bnd (cS x0 h0) fun v1 h1 =>
 bnd (aF .lss x3 v1 h1) fun v2 h2 =>
 aU v2 (
 bnd (bF x0 x3 h2) fun v3 h3 =>
 bnd (aF .eql v3 (.i .u8 (Int.ofNat 58)) h3) fun v4 h4 =>
 aU v4 (
 some ((.i .i64 (Int.ofNat 3)), h4)) (
 bnd (aF .add x3 (.i .i64 (Int.ofNat 1)) h4) fun v5 h5 =>
  kk4 x0 v5 h5)) (
      fY rec n x0 h2)
def mZ (rec : RT) (n : Nat) (m : Nat) : dE :=
 Nat.rec (motive := fun _ => dE) (fun _ _ _ => none) (fun _ ih => tU rec n ih) m
def bRp (rec : RT) (n : Nat) : dE := mZ rec n n
def aUz (rec : RT) (n : Nat) (x0 x3 : DV) (h0 : Hp) : aH :=
 bRp rec n x0 x3 h0
def bBf (rec : RT) (n : Nat) (x0 : DV) (h0 : Hp) : aH :=
 aUz rec n x0 (.i .i64 (Int.ofNat 0)) h0
def s39 (rec : RT) (n : Nat) (x0 : DV) (h0 : Hp) : aH :=
 bBf rec n x0 h0
abbrev c39 : Code := cf Tryz.f39
abbrev aUb := cR c39
abbrev dJm := cR aUb
abbrev aMl := cL aUb
abbrev bGl := cR aMl
abbrev bCb := cL bGl
abbrev aBd := cL bCb
abbrev cPz := cL aMl
abbrev cNx := cL c39
abbrev r39 : K := bD CF Tryz.f39
def D39 (rec : RT) (n : Nat) (c : Code) (X : Nat → K) (k : K) : K := aR CF rec 37 n c X r39 k
theorem cXw : D39 rec n dJm x0 r39 = (K1 (fY rec n) 0) := by kernel_rfl
theorem cMg (kk4 : dE) : D39 rec n aBd (xs x0 0 (K1 (fY rec n) 0)) (K2 kk4 0 3) = (K2 (tU rec n kk4) 0 3) := by kernel_rfl
theorem bZu (m : Nat) : aG (fun kk => D39 rec n aBd (xs x0 0 (K1 (fY rec n) 0)) kk) m = (K2 (mZ rec n m) 0 3) := by
 induction m with
 | zero => exact (by kernel_rfl : aG (fun kk => D39 rec n aBd (xs x0 0 (K1 (fY rec n) 0)) kk) 0 = (K2 (mZ rec n 0) 0 3))
 | succ m ih =>
  refine (by kernel_rfl : aG (fun kk => D39 rec n aBd (xs x0 0 (K1 (fY rec n) 0)) kk) (m + 1) = D39 rec n aBd (xs x0 0 (K1 (fY rec n) 0)) (aG (fun kk => D39 rec n aBd (xs x0 0 (K1 (fY rec n) 0)) kk) m)).trans ?_
  rw [ih]
  exact (cMg rec n (mZ rec n m)).trans (by kernel_rfl)
theorem dAe : D39 rec n bCb (xs x0 0 (K1 (fY rec n) 0)) (K1 (fY rec n) 0) = (K2 (bRp rec n) 0 3) :=
 (by kernel_rfl : D39 rec n bCb (xs x0 0 (K1 (fY rec n) 0)) (K1 (fY rec n) 0) = aG (fun kk => D39 rec n aBd (xs x0 0 (K1 (fY rec n) 0)) kk) n).trans ((bZu rec n n).trans (by kernel_rfl))
theorem cTw : D39 rec n bGl x0 (K1 (fY rec n) 0) = (K2 (aUz rec n) 0 3) :=
 (by kernel_rfl : D39 rec n bGl x0 (K1 (fY rec n) 0) = D39 rec n bCb (xs x0 0 (K1 (fY rec n) 0)) (K1 (fY rec n) 0)).trans
 ((dAe rec n).trans (by kernel_rfl))
theorem cMr : D39 rec n aUb x0 r39 = D39 rec n aMl x0 (K1 (fY rec n) 0) :=
 congrArg (fun k => D39 rec n aMl x0 k) (cXw rec n)
theorem cBb : D39 rec n aMl x0 (K1 (fY rec n) 0) = D39 rec n cPz x0 (K2 (aUz rec n) 0 3) :=
 congrArg (fun k => D39 rec n cPz x0 k) (cTw rec n)
theorem cSh : D39 rec n aUb x0 r39 = (K1 (bBf rec n) 0) :=
 (cMr rec n).trans
 ((cBb rec n).trans
 ((by kernel_rfl)))
theorem dFk : D39 rec n c39 x0 r39 = D39 rec n cNx x0 (K1 (bBf rec n) 0) :=
 congrArg (fun k => D39 rec n cNx x0 k) (cSh rec n)
theorem dLo : D39 rec n c39 x0 r39 = (K1 (s39 rec n) 0) :=
 (dFk rec n).trans
 ((by kernel_rfl))
theorem dHf (args : List DV) (h : Hp) : aL CF rec n 39 args h = s39 rec n (args.getD 0 aA) h :=
 cZ (dLo rec n) args h (by kernel_rfl) (by kernel_rfl)
def gY (rec : RT) (n : Nat) (x3 : DV) (h0 : Hp) : aH :=
 some (x3, h0)
def aTs (rec : RT) (n : Nat) (kk6 : iG) (x0 x3 x4 x5 : DV) (h0 : Hp) : aH :=
 bnd (aF .add x5 (.i .i64 (Int.ofNat 1)) h0) fun v1 h1 =>
  kk6 x0 x3 x4 v1 h1
def cPj (rec : RT) (n : Nat) (kk6 : iG) (x0 x3 x4 x5 : DV) (h0 : Hp) : aH :=
 bnd (bF x0 x5 h0) fun v1 h1 =>
 bnd (aF .eql v1 (.i .u8 (Int.ofNat 58)) h1) fun v2 h2 =>
 aU v2 (
 bnd (aF .add x5 (.i .i64 (Int.ofNat 1)) h2) fun v3 h3 =>
 bnd (cP x0 (some x4) (some v3) h3) fun v4 h4 =>
 bnd (aO [(.s [])] 1 [(0, 1, v4)] h4) fun v5 h5 =>
 bnd (aX 1 16 x3 v5 h5) fun v6 h6 =>
 bnd (aF .add x5 (.i .i64 (Int.ofNat 1)) h6) fun v7 h7 =>
  aTs rec n kk6 x0 v6 v7 x5 h7) (
  aTs rec n kk6 x0 x3 x4 x5 h2)
def tE (rec : RT) (n : Nat) (kk6 : iG) (x0 x3 x4 x5 : DV) (h0 : Hp) : aH :=
 bnd (cS x0 h0) fun v1 h1 =>
 bnd (aF .lss x5 v1 h1) fun v2 h2 =>
 aU v2 (
  cPj rec n kk6 x0 x3 x4 x5 h2) (
  gY rec n x3 h2)
def nH (rec : RT) (n : Nat) (m : Nat) : iG :=
 Nat.rec (motive := fun _ => iG) (fun _ _ _ _ _ => none) (fun _ ih => tE rec n ih) m
def bMc (rec : RT) (n : Nat) : iG := nH rec n n
def aVa (rec : RT) (n : Nat) (x0 x3 x4 x5 : DV) (h0 : Hp) : aH :=
 bMc rec n x0 x3 x4 x5 h0
def aVo (rec : RT) (n : Nat) (x0 x3 x4 : DV) (h0 : Hp) : aH :=
 aVa rec n x0 x3 x4 (.i .i64 (Int.ofNat 0)) h0
def bAc (rec : RT) (n : Nat) (x0 x3 : DV) (h0 : Hp) : aH :=
 aVo rec n x0 x3 (.i .i64 (Int.ofNat 0)) h0
def aUl (rec : RT) (n : Nat) (x0 : DV) (h0 : Hp) : aH :=
 bAc rec n x0 .l0 h0
def s41 (rec : RT) (n : Nat) (x0 : DV) (h0 : Hp) : aH :=
 aUl rec n x0 h0
abbrev c41 : Code := cf Tryz.f41
abbrev aWu := cR c41
abbrev aZr := cR aWu
abbrev aYx := cR aZr
abbrev dEn := cR aYx
abbrev aLl := cL aYx
abbrev bWi := cR aLl
abbrev bAv := cL bWi
abbrev zE := cL bAv
abbrev bSd := cL aLl
abbrev bRv := cL aZr
abbrev bRx := cL aWu
abbrev bIs := cL c41
abbrev r41 : K := bD CF Tryz.f41
def D41 (rec : RT) (n : Nat) (c : Code) (X : Nat → K) (k : K) : K := aR CF rec 27 n c X r41 k
theorem cSd : D41 rec n dEn x0 r41 = (K1 (gY rec n) 3) := by kernel_rfl
theorem cMz (kk6 : iG) : D41 rec n zE (xs x0 0 (K1 (gY rec n) 3)) (K4 kk6 0 3 4 5) = (K4 (tE rec n kk6) 0 3 4 5) := by kernel_rfl
theorem cCc (m : Nat) : aG (fun kk => D41 rec n zE (xs x0 0 (K1 (gY rec n) 3)) kk) m = (K4 (nH rec n m) 0 3 4 5) := by
 induction m with
 | zero => exact (by kernel_rfl : aG (fun kk => D41 rec n zE (xs x0 0 (K1 (gY rec n) 3)) kk) 0 = (K4 (nH rec n 0) 0 3 4 5))
 | succ m ih =>
  refine (by kernel_rfl : aG (fun kk => D41 rec n zE (xs x0 0 (K1 (gY rec n) 3)) kk) (m + 1) = D41 rec n zE (xs x0 0 (K1 (gY rec n) 3)) (aG (fun kk => D41 rec n zE (xs x0 0 (K1 (gY rec n) 3)) kk) m)).trans ?_
  rw [ih]
  exact (cMz rec n (nH rec n m)).trans (by kernel_rfl)
theorem cUw : D41 rec n bAv (xs x0 0 (K1 (gY rec n) 3)) (K1 (gY rec n) 3) = (K4 (bMc rec n) 0 3 4 5) :=
 (by kernel_rfl : D41 rec n bAv (xs x0 0 (K1 (gY rec n) 3)) (K1 (gY rec n) 3) = aG (fun kk => D41 rec n zE (xs x0 0 (K1 (gY rec n) 3)) kk) n).trans ((cCc rec n n).trans (by kernel_rfl))
theorem cTe : D41 rec n bWi x0 (K1 (gY rec n) 3) = (K4 (aVa rec n) 0 3 4 5) :=
 (by kernel_rfl : D41 rec n bWi x0 (K1 (gY rec n) 3) = D41 rec n bAv (xs x0 0 (K1 (gY rec n) 3)) (K1 (gY rec n) 3)).trans
 ((cUw rec n).trans (by kernel_rfl))
theorem cAk : D41 rec n aYx x0 r41 = D41 rec n aLl x0 (K1 (gY rec n) 3) :=
 congrArg (fun k => D41 rec n aLl x0 k) (cSd rec n)
theorem cCx : D41 rec n aLl x0 (K1 (gY rec n) 3) = D41 rec n bSd x0 (K4 (aVa rec n) 0 3 4 5) :=
 congrArg (fun k => D41 rec n bSd x0 k) (cTe rec n)
theorem dDd : D41 rec n aYx x0 r41 = (K3 (aVo rec n) 0 3 4) :=
 (cAk rec n).trans
 ((cCx rec n).trans
 ((by kernel_rfl)))
theorem cFv : D41 rec n aZr x0 r41 = D41 rec n bRv x0 (K3 (aVo rec n) 0 3 4) :=
 congrArg (fun k => D41 rec n bRv x0 k) (dDd rec n)
theorem cVw : D41 rec n aZr x0 r41 = (K2 (bAc rec n) 0 3) :=
 (cFv rec n).trans
 ((by kernel_rfl))
theorem cNa : D41 rec n aWu x0 r41 = D41 rec n bRx x0 (K2 (bAc rec n) 0 3) :=
 congrArg (fun k => D41 rec n bRx x0 k) (cVw rec n)
theorem cZu : D41 rec n aWu x0 r41 = (K1 (aUl rec n) 0) :=
 (cNa rec n).trans
 ((by kernel_rfl))
theorem dFs : D41 rec n c41 x0 r41 = D41 rec n bIs x0 (K1 (aUl rec n) 0) :=
 congrArg (fun k => D41 rec n bIs x0 k) (cZu rec n)
theorem dOl : D41 rec n c41 x0 r41 = (K1 (s41 rec n) 0) :=
 (dFs rec n).trans
 ((by kernel_rfl))
theorem dHx (args : List DV) (h : Hp) : aL CF rec n 41 args h = s41 rec n (args.getD 0 aA) h :=
 cZ (dOl rec n) args h (by kernel_rfl) (by kernel_rfl)
def iI (rec : RT) (n : Nat) (x3 : DV) (h0 : Hp) : aH :=
 bnd (bY .add (.s [45]) x3 h0) fun v1 h1 =>
 some (v1, h1)
def tN (rec : RT) (n : Nat) (kk6 : dE) (x0 x3 : DV) (h0 : Hp) : aH :=
 bnd (aF .lss x0 (.i .i64 (Int.ofNat 0)) h0) fun v1 h1 =>
 aU v1 (
 bnd (aF .rem x0 (.i .i64 (Int.ofNat 10)) h1) fun v2 h2 =>
 bnd (aF .sub (.i .i64 (Int.ofNat 48)) v2 h2) fun v3 h3 =>
 bnd (kJ .u8 v3 h3) fun v4 h4 =>
 bnd (aO [(.i .u8 (Int.ofNat 0))] 1 [(0, 1, v4)] h4) fun v5 h5 =>
 bnd (nX v5 h5) fun v6 h6 =>
 bnd (bY .add v6 x3 h6) fun v7 h7 =>
 bnd (aF .quo x0 (.i .i64 (Int.ofNat 10)) h7) fun v8 h8 =>
      kk6 v8 v7 h8) (
      iI rec n x3 h1)
def mD (rec : RT) (n : Nat) (m : Nat) : dE :=
 Nat.rec (motive := fun _ => dE) (fun _ _ _ => none) (fun _ ih => tN rec n ih) m
def bMq (rec : RT) (n : Nat) : dE := mD rec n n
def bBh (rec : RT) (n : Nat) (x0 x3 : DV) (h0 : Hp) : aH :=
 bMq rec n x0 x3 h0
def aUh (rec : RT) (n : Nat) (x0 : DV) (h0 : Hp) : aH :=
 bBh rec n x0 (.s []) h0
def aMa (rec : RT) (n : Nat) (x0 : DV) (h0 : Hp) : aH :=
 bnd (aF .gtr x0 (.i .i64 (Int.ofNat 0)) h0) fun v1 h1 =>
 aU v1 (
 bnd (aF .quo x0 (.i .i64 (Int.ofNat 10)) h1) fun v2 h2 =>
 bnd (rec 42 [v2] h2) fun v3 h3 =>
 bnd (aF .rem x0 (.i .i64 (Int.ofNat 10)) h3) fun v4 h4 =>
 bnd (rec 42 [v4] h4) fun v5 h5 =>
 bnd (bY .add v3 v5 h5) fun v6 h6 =>
 some (v6, h6)) (
  aUh rec n x0 h1)
def aCx (rec : RT) (n : Nat) (x0 : DV) (h0 : Hp) : aH :=
 bnd (aF .geq x0 (.i .i64 (Int.ofNat 0)) h0) fun v1 h1 =>
 bnd (gD v1 true (some (x0, h1)) h1) fun v2 h2 =>
 bnd (gD v1 true (aF .lss v2 (.i .i64 (Int.ofNat 10)) h2) h2) fun v3 h3 =>
 bnd (aV v1 v3 (.b false) h3) fun v4 h4 =>
 aU v4 (
 bnd (aF .add (.i .i64 (Int.ofNat 48)) x0 h4) fun v5 h5 =>
 bnd (kJ .u8 v5 h5) fun v6 h6 =>
 bnd (aO [(.i .u8 (Int.ofNat 0))] 1 [(0, 1, v6)] h6) fun v7 h7 =>
 bnd (nX v7 h7) fun v8 h8 =>
 some (v8, h8)) (
  aMa rec n x0 h4)
def s42 (rec : RT) (n : Nat) (x0 : DV) (h0 : Hp) : aH :=
 aCx rec n x0 h0
abbrev c42 : Code := cf Tryz.f42
abbrev aYl := cR c42
abbrev aWw := cR aYl
abbrev aZc := cR aWw
abbrev aYk := cR aZc
abbrev dFr := cR aYk
abbrev bBd := cL aYk
abbrev bAs := cL bBd
abbrev xX := cL bAs
abbrev cQa := cL aZc
abbrev bJb := cL aWw
abbrev bJp := cL aYl
abbrev bGo := cL c42
abbrev r42 : K := bD CF Tryz.f42
def D42 (rec : RT) (n : Nat) (c : Code) (X : Nat → K) (k : K) : K := aR CF rec 38 n c X r42 k
theorem cTb : D42 rec n dFr x0 r42 = (K1 (iI rec n) 3) := by kernel_rfl
theorem cAp (kk6 : dE) : D42 rec n xX (xs x0 0 (K1 (iI rec n) 3)) (K2 kk6 0 3) = (K2 (tN rec n kk6) 0 3) := by kernel_rfl
theorem bZa (m : Nat) : aG (fun kk => D42 rec n xX (xs x0 0 (K1 (iI rec n) 3)) kk) m = (K2 (mD rec n m) 0 3) := by
 induction m with
 | zero => exact (by kernel_rfl : aG (fun kk => D42 rec n xX (xs x0 0 (K1 (iI rec n) 3)) kk) 0 = (K2 (mD rec n 0) 0 3))
 | succ m ih =>
  refine (by kernel_rfl : aG (fun kk => D42 rec n xX (xs x0 0 (K1 (iI rec n) 3)) kk) (m + 1) = D42 rec n xX (xs x0 0 (K1 (iI rec n) 3)) (aG (fun kk => D42 rec n xX (xs x0 0 (K1 (iI rec n) 3)) kk) m)).trans ?_
  rw [ih]
  exact (cAp rec n (mD rec n m)).trans (by kernel_rfl)
theorem cVx : D42 rec n bAs (xs x0 0 (K1 (iI rec n) 3)) (K1 (iI rec n) 3) = (K2 (bMq rec n) 0 3) :=
 (by kernel_rfl : D42 rec n bAs (xs x0 0 (K1 (iI rec n) 3)) (K1 (iI rec n) 3) = aG (fun kk => D42 rec n xX (xs x0 0 (K1 (iI rec n) 3)) kk) n).trans ((bZa rec n n).trans (by kernel_rfl))
theorem cMc : D42 rec n aYk x0 r42 = D42 rec n bBd x0 (K1 (iI rec n) 3) :=
 congrArg (fun k => D42 rec n bBd x0 k) (cTb rec n)
theorem cRm : D42 rec n aYk x0 r42 = (K2 (bBh rec n) 0 3) :=
 (cMc rec n).trans
 ((by kernel_rfl : D42 rec n bBd x0 (K1 (iI rec n) 3) = D42 rec n bAs (xs x0 0 (K1 (iI rec n) 3)) (K1 (iI rec n) 3)).trans
 ((cVx rec n).trans (by kernel_rfl)))
theorem cBs : D42 rec n aZc x0 r42 = D42 rec n cQa x0 (K2 (bBh rec n) 0 3) :=
 congrArg (fun k => D42 rec n cQa x0 k) (cRm rec n)
theorem cVc : D42 rec n aZc x0 r42 = (K1 (aUh rec n) 0) :=
 (cBs rec n).trans
 ((by kernel_rfl))
theorem cGi : D42 rec n aWw x0 r42 = D42 rec n bJb x0 (K1 (aUh rec n) 0) :=
 congrArg (fun k => D42 rec n bJb x0 k) (cVc rec n)
theorem cVr : D42 rec n aWw x0 r42 = (K1 (aMa rec n) 0) :=
 (cGi rec n).trans
 ((by kernel_rfl))
theorem cFt : D42 rec n aYl x0 r42 = D42 rec n bJp x0 (K1 (aMa rec n) 0) :=
 congrArg (fun k => D42 rec n bJp x0 k) (cVr rec n)
theorem dBu : D42 rec n aYl x0 r42 = (K1 (aCx rec n) 0) :=
 (cFt rec n).trans
 ((by kernel_rfl))
theorem dJj : D42 rec n c42 x0 r42 = D42 rec n bGo x0 (K1 (aCx rec n) 0) :=
 congrArg (fun k => D42 rec n bGo x0 k) (dBu rec n)
theorem dPk : D42 rec n c42 x0 r42 = (K1 (s42 rec n) 0) :=
 (dJj rec n).trans
 ((by kernel_rfl))
theorem dFm (args : List DV) (h : Hp) : aL CF rec n 42 args h = s42 rec n (args.getD 0 aA) h :=
 cZ (dPk rec n) args h (by kernel_rfl) (by kernel_rfl)
def aIf (rec : RT) (n : Nat) (kk5 : cQ) (x0 x5 x6 : DV) (h0 : Hp) : aH :=
 bnd (rec 66 [x0, x6] h0) fun v1 h1 =>
 bnd (aK 0 v1 h1) fun v2 h2 =>
 bnd (aK 1 v1 h2) fun v3 h3 =>
 aU v3 (
 some (.t [.l0, v2, (.i .i64 (Int.ofNat 11))], h3)) (
 bnd (cS x0 h3) fun v4 h4 =>
 bnd (aF .eql v2 v4 h4) fun v5 h5 =>
 aU v5 (
 bnd (bB [(.i .i64 (Int.ofNat 0)), (.s []), (.i .i64 (Int.ofNat 0)), (.i .i64 (Int.ofNat 0))] [(3, 1, v2)] h5) fun v6 h6 =>
 bnd (aO [(.i .i64 (Int.ofNat 0)), (.s []), (.i .i64 (Int.ofNat 0)), (.i .i64 (Int.ofNat 0))] 1 [(0, 4, v6)] h6) fun v7 h7 =>
 bnd (aX 4 40 x5 v7 h7) fun v8 h8 =>
 some (.t [v8, (.i .i64 (Int.ofNat 0)), (.i .i64 (Int.ofNat 0))], h8)) (
 bnd (rec 67 [x0, v2] h5) fun v9 h9 =>
 bnd (aK 0 v9 h9) fun v10 h10 =>
 bnd (aK 1 v9 h10) fun v11 h11 =>
 bnd (aK 2 v9 h11) fun v12 h12 =>
 bnd (bG [(.i .i64 (Int.ofNat 0)), (.s []), (.i .i64 (Int.ofNat 0)), (.i .i64 (Int.ofNat 0))] h12) fun v13 h13 =>
 bnd (aC 4 v13 v10 h13) fun _ h14 =>
 bnd (aF .neq v12 (.i .i64 (Int.ofNat 0)) h14) fun v15 h15 =>
 aU v15 (
 some (.t [.l0, v2, v12], h15)) (
 bnd (aE 4 v13 h15) fun v16 h16 =>
 bnd (aO [(.i .i64 (Int.ofNat 0)), (.s []), (.i .i64 (Int.ofNat 0)), (.i .i64 (Int.ofNat 0))] 1 [(0, 4, v16)] h16) fun v17 h17 =>
 bnd (aX 4 40 x5 v17 h17) fun v18 h18 =>
  kk5 x0 v18 v11 h18)))
def pQ (rec : RT) (n : Nat) (m : Nat) : cQ :=
 Nat.rec (motive := fun _ => cQ) (fun _ _ _ _ => none) (fun _ ih => aIf rec n ih) m
def bQs (rec : RT) (n : Nat) : cQ := pQ rec n n
def bCj (rec : RT) (n : Nat) (x0 x5 x6 : DV) (h0 : Hp) : aH :=
 bQs rec n x0 x5 x6 h0
def bDi (rec : RT) (n : Nat) (x0 x5 : DV) (h0 : Hp) : aH :=
 bCj rec n x0 x5 (.i .i64 (Int.ofNat 0)) h0
def aVb (rec : RT) (n : Nat) (x0 : DV) (h0 : Hp) : aH :=
 bDi rec n x0 .l0 h0
def aZe (rec : RT) (n : Nat) (x0 : DV) (h0 : Hp) : aH :=
 bnd (cS x0 h0) fun v1 h1 =>
 bnd (aF .gtr v1 (.i .i64 (Int.ofNat 2000)) h1) fun v2 h2 =>
 aU v2 (
 some (.t [.l0, (.i .i64 (Int.ofNat 0)), (.i .i64 (Int.ofNat 12))], h2)) (
  aVb rec n x0 h2)
def s43 (rec : RT) (n : Nat) (x0 : DV) (h0 : Hp) : aH :=
 aZe rec n x0 h0
abbrev c43 : Code := cf Tryz.f43
abbrev bCz := cR c43
abbrev aWf := cR bCz
abbrev aVc := cR aWf
abbrev bOe := cR aVc
abbrev aVj := cL bOe
abbrev wU := cL aVj
abbrev cOz := cL aVc
abbrev cPq := cL aWf
abbrev cNo := cL bCz
abbrev bMx := cL c43
abbrev r43 : K := bD CF Tryz.f43
def D43 (rec : RT) (n : Nat) (c : Code) (X : Nat → K) (k : K) : K := aR CF rec 48 n c X r43 k
theorem cCj (kk5 : cQ) : D43 rec n wU (xs x0 0 r43) (K3 kk5 0 5 6) = (K3 (aIf rec n kk5) 0 5 6) := by kernel_rfl
theorem bZt (m : Nat) : aG (fun kk => D43 rec n wU (xs x0 0 r43) kk) m = (K3 (pQ rec n m) 0 5 6) := by
 induction m with
 | zero => exact (by kernel_rfl : aG (fun kk => D43 rec n wU (xs x0 0 r43) kk) 0 = (K3 (pQ rec n 0) 0 5 6))
 | succ m ih =>
  refine (by kernel_rfl : aG (fun kk => D43 rec n wU (xs x0 0 r43) kk) (m + 1) = D43 rec n wU (xs x0 0 r43) (aG (fun kk => D43 rec n wU (xs x0 0 r43) kk) m)).trans ?_
  rw [ih]
  exact (cCj rec n (pQ rec n m)).trans (by kernel_rfl)
theorem dCu : D43 rec n aVj (xs x0 0 r43) r43 = (K3 (bQs rec n) 0 5 6) :=
 (by kernel_rfl : D43 rec n aVj (xs x0 0 r43) r43 = aG (fun kk => D43 rec n wU (xs x0 0 r43) kk) n).trans ((bZt rec n n).trans (by kernel_rfl))
theorem dBx : D43 rec n bOe x0 r43 = (K3 (bCj rec n) 0 5 6) :=
 (by kernel_rfl : D43 rec n bOe x0 r43 = D43 rec n aVj (xs x0 0 r43) r43).trans
 ((dCu rec n).trans (by kernel_rfl))
theorem cHu : D43 rec n aVc x0 r43 = D43 rec n cOz x0 (K3 (bCj rec n) 0 5 6) :=
 congrArg (fun k => D43 rec n cOz x0 k) (dBx rec n)
theorem dDj : D43 rec n aVc x0 r43 = (K2 (bDi rec n) 0 5) :=
 (cHu rec n).trans
 ((by kernel_rfl))
theorem cIe : D43 rec n aWf x0 r43 = D43 rec n cPq x0 (K2 (bDi rec n) 0 5) :=
 congrArg (fun k => D43 rec n cPq x0 k) (dDj rec n)
theorem cYy : D43 rec n aWf x0 r43 = (K1 (aVb rec n) 0) :=
 (cIe rec n).trans
 ((by kernel_rfl))
theorem cIi : D43 rec n bCz x0 r43 = D43 rec n cNo x0 (K1 (aVb rec n) 0) :=
 congrArg (fun k => D43 rec n cNo x0 k) (cYy rec n)
theorem dDb : D43 rec n bCz x0 r43 = (K1 (aZe rec n) 0) :=
 (cIi rec n).trans
 ((by kernel_rfl))
theorem dKi : D43 rec n c43 x0 r43 = D43 rec n bMx x0 (K1 (aZe rec n) 0) :=
 congrArg (fun k => D43 rec n bMx x0 k) (dDb rec n)
theorem dOm : D43 rec n c43 x0 r43 = (K1 (s43 rec n) 0) :=
 (dKi rec n).trans
 ((by kernel_rfl))
theorem dIa (args : List DV) (h : Hp) : aL CF rec n 43 args h = s43 rec n (args.getD 0 aA) h :=
 cZ (dOm rec n) args h (by kernel_rfl) (by kernel_rfl)
end
end Go.Dd

namespace Go.Dd
open Go.Proofs
noncomputable section
variable (rec : RT) (n : Nat)
def jI (rec : RT) (n : Nat) (x3 : DV) (h0 : Hp) : aH :=
 some (x3, h0)
def iK (rec : RT) (n : Nat) (x0 x3 : DV) (h0 : Hp) : aH :=
 bnd (rec 47 [x0, (.i .i64 (Int.ofNat 10)), (.s [124])] h0) fun v1 h1 =>
  jI rec n x3 h1
def aGd (rec : RT) (n : Nat) (kk8 : dE) (x0 x3 : DV) (h0 : Hp) : aH :=
 bnd (rec 68 [x0, (.i .i64 (Int.ofNat 1)), (.s [])] h0) fun v1 h1 =>
 aU v1 (
 bnd (rec 69 [x0] h1) fun v2 h2 =>
 bnd (cB 1 v2 h2) fun v3 h3 =>
 bnd (aO [(.s [])] 1 [(0, 1, v3)] h3) fun v4 h4 =>
 bnd (aX 1 16 x3 v4 h4) fun v5 h5 =>
      kk8 x0 v5 h5) (
      iK rec n x0 x3 h1)
def pM (rec : RT) (n : Nat) (m : Nat) : dE :=
 Nat.rec (motive := fun _ => dE) (fun _ _ _ => none) (fun _ ih => aGd rec n ih) m
def bQf (rec : RT) (n : Nat) : dE := pM rec n n
def aTb (rec : RT) (n : Nat) (x0 x3 : DV) (h0 : Hp) : aH :=
 bQf rec n x0 x3 h0
def bYe (rec : RT) (n : Nat) (x0 x3 : DV) (h0 : Hp) : aH :=
 bnd (rec 69 [x0] h0) fun v1 h1 =>
  aTb rec n x0 x3 h1
def aXy (rec : RT) (n : Nat) (x0 x3 x5 : DV) (h0 : Hp) : aH :=
 aU x5 (
  bYe rec n x0 x3 h0) (
  jI rec n x3 h0)
def bBm (rec : RT) (n : Nat) (x0 x3 : DV) (h0 : Hp) : aH :=
 bnd (rec 68 [x0, (.i .i64 (Int.ofNat 10)), (.s [124])] h0) fun v1 h1 =>
  aXy rec n x0 x3 v1 h1
def aYq (rec : RT) (n : Nat) (x0 : DV) (h0 : Hp) : aH :=
 bBm rec n x0 .l0 h0
def s45 (rec : RT) (n : Nat) (x0 : DV) (h0 : Hp) : aH :=
 aYq rec n x0 h0
abbrev c45 : Code := cf Tryz.f45
abbrev aZw := cR c45
abbrev aVe := cR aZw
abbrev dIo := cR aVe
abbrev aLe := cL aVe
abbrev aPi := cR aLe
abbrev aMn := cL aPi
abbrev aWa := cR aMn
abbrev dHo := cR aWa
abbrev bDs := cL aWa
abbrev aIr := cL bDs
abbrev pN := cL aIr
abbrev bUy := cL aMn
abbrev cWb := cR aPi
abbrev bLf := cL aLe
abbrev bXv := cL aZw
abbrev bKz := cL c45
abbrev r45 : K := bD CF Tryz.f45
def D45 (rec : RT) (n : Nat) (c : Code) (X : Nat → K) (k : K) : K := aR CF rec 19 n c X r45 k
theorem cTl : D45 rec n dIo x0 r45 = (K1 (jI rec n) 3) := by kernel_rfl
theorem dCh : D45 rec n dHo x0 (K1 (jI rec n) 3) = (K2 (iK rec n) 0 3) := by kernel_rfl
theorem cHh (kk8 : dE) : D45 rec n pN (xs x0 0 (K2 (iK rec n) 0 3)) (K2 kk8 0 3) = (K2 (aGd rec n kk8) 0 3) := by kernel_rfl
theorem cGq (m : Nat) : aG (fun kk => D45 rec n pN (xs x0 0 (K2 (iK rec n) 0 3)) kk) m = (K2 (pM rec n m) 0 3) := by
 induction m with
 | zero => exact (by kernel_rfl : aG (fun kk => D45 rec n pN (xs x0 0 (K2 (iK rec n) 0 3)) kk) 0 = (K2 (pM rec n 0) 0 3))
 | succ m ih =>
  refine (by kernel_rfl : aG (fun kk => D45 rec n pN (xs x0 0 (K2 (iK rec n) 0 3)) kk) (m + 1) = D45 rec n pN (xs x0 0 (K2 (iK rec n) 0 3)) (aG (fun kk => D45 rec n pN (xs x0 0 (K2 (iK rec n) 0 3)) kk) m)).trans ?_
  rw [ih]
  exact (cHh rec n (pM rec n m)).trans (by kernel_rfl)
theorem dCl : D45 rec n aIr (xs x0 0 (K2 (iK rec n) 0 3)) (K2 (iK rec n) 0 3) = (K2 (bQf rec n) 0 3) :=
 (by kernel_rfl : D45 rec n aIr (xs x0 0 (K2 (iK rec n) 0 3)) (K2 (iK rec n) 0 3) = aG (fun kk => D45 rec n pN (xs x0 0 (K2 (iK rec n) 0 3)) kk) n).trans ((cGq rec n n).trans (by kernel_rfl))
theorem cDe : D45 rec n aWa x0 (K1 (jI rec n) 3) = D45 rec n bDs x0 (K2 (iK rec n) 0 3) :=
 congrArg (fun k => D45 rec n bDs x0 k) (dCh rec n)
theorem dBt : D45 rec n aWa x0 (K1 (jI rec n) 3) = (K2 (aTb rec n) 0 3) :=
 (cDe rec n).trans
 ((by kernel_rfl : D45 rec n bDs x0 (K2 (iK rec n) 0 3) = D45 rec n aIr (xs x0 0 (K2 (iK rec n) 0 3)) (K2 (iK rec n) 0 3)).trans
 ((dCl rec n).trans (by kernel_rfl)))
theorem cMe : D45 rec n aMn x0 (K1 (jI rec n) 3) = D45 rec n bUy x0 (K2 (aTb rec n) 0 3) :=
 congrArg (fun k => D45 rec n bUy x0 k) (dBt rec n)
theorem cYo : D45 rec n aMn x0 (K1 (jI rec n) 3) = (K2 (bYe rec n) 0 3) :=
 (cMe rec n).trans
 ((by kernel_rfl))
theorem cYk : D45 rec n aPi x0 (K1 (jI rec n) 3) = (K3 (aXy rec n) 0 3 5) :=
 (by kernel_rfl : D45 rec n aPi x0 (K1 (jI rec n) 3) = (fun (env : eE) (h : Hp) => aU (opr env (cC aPi)) (D45 rec n aMn x0 (K1 (jI rec n) 3) env h) (D45 rec n cWb x0 (K1 (jI rec n) 3) env h))).trans (by rw [cYo rec n]; kernel_rfl)
theorem cFe : D45 rec n aVe x0 r45 = D45 rec n aLe x0 (K1 (jI rec n) 3) :=
 congrArg (fun k => D45 rec n aLe x0 k) (cTl rec n)
theorem cKk : D45 rec n aLe x0 (K1 (jI rec n) 3) = D45 rec n bLf x0 (K3 (aXy rec n) 0 3 5) :=
 congrArg (fun k => D45 rec n bLf x0 k) (cYk rec n)
theorem dDh : D45 rec n aVe x0 r45 = (K2 (bBm rec n) 0 3) :=
 (cFe rec n).trans
 ((cKk rec n).trans
 ((by kernel_rfl)))
theorem cJk : D45 rec n aZw x0 r45 = D45 rec n bXv x0 (K2 (bBm rec n) 0 3) :=
 congrArg (fun k => D45 rec n bXv x0 k) (dDh rec n)
theorem cRe : D45 rec n aZw x0 r45 = (K1 (aYq rec n) 0) :=
 (cJk rec n).trans
 ((by kernel_rfl))
theorem dGf : D45 rec n c45 x0 r45 = D45 rec n bKz x0 (K1 (aYq rec n) 0) :=
 congrArg (fun k => D45 rec n bKz x0 k) (cRe rec n)
theorem dMy : D45 rec n c45 x0 r45 = (K1 (s45 rec n) 0) :=
 (dGf rec n).trans
 ((by kernel_rfl))
theorem dKa (args : List DV) (h : Hp) : aL CF rec n 45 args h = s45 rec n (args.getD 0 aA) h :=
 cZ (dMy rec n) args h (by kernel_rfl) (by kernel_rfl)
def fW (rec : RT) (n : Nat) (x3 : DV) (h0 : Hp) : aH :=
 some (x3, h0)
def aEu (rec : RT) (n : Nat) (kk4 : dE) (x0 x3 : DV) (h0 : Hp) : aH :=
 bnd (bM x0 h0) fun v1 h1 =>
 bnd (aB 3 v1 h1) fun v2 h2 =>
 bnd (aD v2 h2) fun v3 h3 =>
 bnd (aF .eql v3 (.i .i64 (Int.ofNat 0)) h3) fun v4 h4 =>
 bnd (gD v4 true (some (x0, h4)) h4) fun v5 h5 =>
 bnd (gD v4 true (rec 68 [v5, (.i .i64 (Int.ofNat 0)), (.s [])] h5) h5) fun v6 h6 =>
 bnd (gD v4 true (jZ .not v6 h6) h6) fun v7 h7 =>
 bnd (aV v4 v7 (.b false) h7) fun v8 h8 =>
 bnd (gD v8 true (some (x0, h8)) h8) fun v9 h9 =>
 bnd (gD v8 true (rec 68 [v9, (.i .i64 (Int.ofNat 10)), (.s [93])] h9) h9) fun v10 h10 =>
 bnd (gD v8 true (jZ .not v10 h10) h10) fun v11 h11 =>
 bnd (aV v8 v11 (.b false) h11) fun v12 h12 =>
 aU v12 (
 bnd (rec 68 [x0, (.i .i64 (Int.ofNat 10)), (.s [94])] h12) fun v13 h13 =>
 aU v13 (
 bnd (rec 69 [x0] h13) fun v14 h14 =>
 bnd (rec 72 [x0] h14) fun v15 h15 =>
 bnd (bG [(.i .i64 (Int.ofNat 0)), (.s []), (.i .i64 (Int.ofNat 0)), .l0, .l0, .l0] h15) fun v16 h16 =>
 bnd (aC 6 v16 v15 h16) fun _ h17 =>
 bnd (aE 6 v16 h17) fun v18 h18 =>
 bnd (aO [(.i .i64 (Int.ofNat 0)), (.s []), (.i .i64 (Int.ofNat 0)), .l0, .l0, .l0] 1 [(0, 6, v18)] h18) fun v19 h19 =>
 bnd (bB [(.i .i64 (Int.ofNat 0)), (.s []), (.i .i64 (Int.ofNat 0)), .l0, .l0, .l0] [(0, 1, (.i .i64 (Int.ofNat 10))), (5, 1, v19)] h19) fun v20 h20 =>
 bnd (aO [(.i .i64 (Int.ofNat 0)), (.s []), (.i .i64 (Int.ofNat 0)), .l0, .l0, .l0] 1 [(0, 6, v20)] h20) fun v21 h21 =>
 bnd (aX 6 104 x3 v21 h21) fun v22 h22 =>
 bnd (rec 68 [x0, (.i .i64 (Int.ofNat 10)), (.s [46])] h22) fun v23 h23 =>
 aU v23 (
 bnd (rec 69 [x0] h23) fun v24 h24 =>
  fW rec n v22 h24) (
  fW rec n v22 h23)) (
 bnd (rec 72 [x0] h13) fun v25 h25 =>
 bnd (aO [(.i .i64 (Int.ofNat 0)), (.s []), (.i .i64 (Int.ofNat 0)), .l0, .l0, .l0] 1 [(0, 6, v25)] h25) fun v26 h26 =>
 bnd (aX 6 104 x3 v26 h26) fun v27 h27 =>
 bnd (rec 68 [x0, (.i .i64 (Int.ofNat 10)), (.s [46])] h27) fun v28 h28 =>
 bnd (jZ .not v28 h28) fun v29 h29 =>
 aU v29 (
  fW rec n v27 h29) (
 bnd (rec 69 [x0] h29) fun v30 h30 =>
  kk4 x0 v27 h30))) (
      fW rec n x3 h12)
def rP (rec : RT) (n : Nat) (m : Nat) : dE :=
 Nat.rec (motive := fun _ => dE) (fun _ _ _ => none) (fun _ ih => aEu rec n ih) m
def bLb (rec : RT) (n : Nat) : dE := rP rec n n
def aYm (rec : RT) (n : Nat) (x0 x3 : DV) (h0 : Hp) : aH :=
 bLb rec n x0 x3 h0
def bBg (rec : RT) (n : Nat) (x0 : DV) (h0 : Hp) : aH :=
 aYm rec n x0 .l0 h0
def s46 (rec : RT) (n : Nat) (x0 : DV) (h0 : Hp) : aH :=
 bBg rec n x0 h0
abbrev c46 : Code := cf Tryz.f46
abbrev aVs := cR c46
abbrev aWt := cR aVs
abbrev dFe := cR aWt
abbrev aZh := cL aWt
abbrev aYc := cL aZh
abbrev yW := cL aYc
abbrev cOd := cL aVs
abbrev cPe := cL c46
abbrev r46 : K := bD CF Tryz.f46
def D46 (rec : RT) (n : Nat) (c : Code) (X : Nat → K) (k : K) : K := aR CF rec 47 n c X r46 k
theorem cWs : D46 rec n dFe x0 r46 = (K1 (fW rec n) 3) := by kernel_rfl
theorem cBw (kk4 : dE) : D46 rec n yW (xs x0 0 (K1 (fW rec n) 3)) (K2 kk4 0 3) = (K2 (aEu rec n kk4) 0 3) := by kernel_rfl
theorem cNk (m : Nat) : aG (fun kk => D46 rec n yW (xs x0 0 (K1 (fW rec n) 3)) kk) m = (K2 (rP rec n m) 0 3) := by
 induction m with
 | zero => exact (by kernel_rfl : aG (fun kk => D46 rec n yW (xs x0 0 (K1 (fW rec n) 3)) kk) 0 = (K2 (rP rec n 0) 0 3))
 | succ m ih =>
  refine (by kernel_rfl : aG (fun kk => D46 rec n yW (xs x0 0 (K1 (fW rec n) 3)) kk) (m + 1) = D46 rec n yW (xs x0 0 (K1 (fW rec n) 3)) (aG (fun kk => D46 rec n yW (xs x0 0 (K1 (fW rec n) 3)) kk) m)).trans ?_
  rw [ih]
  exact (cBw rec n (rP rec n m)).trans (by kernel_rfl)
theorem cVq : D46 rec n aYc (xs x0 0 (K1 (fW rec n) 3)) (K1 (fW rec n) 3) = (K2 (bLb rec n) 0 3) :=
 (by kernel_rfl : D46 rec n aYc (xs x0 0 (K1 (fW rec n) 3)) (K1 (fW rec n) 3) = aG (fun kk => D46 rec n yW (xs x0 0 (K1 (fW rec n) 3)) kk) n).trans ((cNk rec n n).trans (by kernel_rfl))
theorem cKl : D46 rec n aWt x0 r46 = D46 rec n aZh x0 (K1 (fW rec n) 3) :=
 congrArg (fun k => D46 rec n aZh x0 k) (cWs rec n)
theorem dBw : D46 rec n aWt x0 r46 = (K2 (aYm rec n) 0 3) :=
 (cKl rec n).trans
 ((by kernel_rfl : D46 rec n aZh x0 (K1 (fW rec n) 3) = D46 rec n aYc (xs x0 0 (K1 (fW rec n) 3)) (K1 (fW rec n) 3)).trans
 ((cVq rec n).trans (by kernel_rfl)))
theorem cEk : D46 rec n aVs x0 r46 = D46 rec n cOd x0 (K2 (aYm rec n) 0 3) :=
 congrArg (fun k => D46 rec n cOd x0 k) (dBw rec n)
theorem cRu : D46 rec n aVs x0 r46 = (K1 (bBg rec n) 0) :=
 (cEk rec n).trans
 ((by kernel_rfl))
theorem dGx : D46 rec n c46 x0 r46 = D46 rec n cPe x0 (K1 (bBg rec n) 0) :=
 congrArg (fun k => D46 rec n cPe x0 k) (cRu rec n)
theorem dMz : D46 rec n c46 x0 r46 = (K1 (s46 rec n) 0) :=
 (dGx rec n).trans
 ((by kernel_rfl))
theorem dGt (args : List DV) (h : Hp) : aL CF rec n 46 args h = s46 rec n (args.getD 0 aA) h :=
 cZ (dMz rec n) args h (by kernel_rfl) (by kernel_rfl)
def s47 (rec : RT) (n : Nat) (x0 x1 x2 : DV) (h0 : Hp) : aH :=
 bnd (bG [(.i .i64 (Int.ofNat 0)), (.s []), (.i .i64 (Int.ofNat 0)), (.i .i64 (Int.ofNat 0))] h0) fun v1 h1 =>
 bnd (rec 68 [x0, x1, x2] h1) fun v2 h2 =>
 bnd (jZ .not v2 h2) fun v3 h3 =>
 aU v3 (
 bnd (rec 73 [x0, (.i .i64 (Int.ofNat 0))] h3) fun v4 h4 =>
 bnd (rec 71 [x0, v4, (.i .i64 (Int.ofNat 13))] h4) fun v5 h5 =>
 bnd (bB [(.i .i64 (Int.ofNat 0)), (.s []), (.i .i64 (Int.ofNat 0)), (.i .i64 (Int.ofNat 0))] [] h5) fun v6 h6 =>
 bnd (aC 4 v1 v6 h6) fun _ h7 =>
 bnd (aE 4 v1 h7) fun v8 _ =>
 some (v8, h7)) (
 bnd (rec 69 [x0] h3) fun v9 h9 =>
 bnd (aC 4 v1 v9 h9) fun _ h10 =>
 bnd (aE 4 v1 h10) fun v11 _ =>
 some (v11, h10))
abbrev c47 : Code := cf Tryz.f47
abbrev r47 : K := bD CF Tryz.f47
def D47 (rec : RT) (n : Nat) (c : Code) (X : Nat → K) (k : K) : K := aR CF rec 21 n c X r47 k
theorem dPt : D47 rec n c47 x0 r47 = (K3 (s47 rec n) 0 1 2) :=
 (by kernel_rfl)
theorem dFw (args : List DV) (h : Hp) : aL CF rec n 47 args h = s47 rec n (args.getD 0 aA) (args.getD 1 aA) (args.getD 2 aA) h :=
 cZ (dPt rec n) args h (by kernel_rfl) (by kernel_rfl)
def iM (rec : RT) (n : Nat) (x0 x6 : DV) (h0 : Hp) : aH :=
 bnd (cS x0 h0) fun v1 h1 =>
 bnd (bB [(.i .i64 (Int.ofNat 0)), (.s []), (.i .i64 (Int.ofNat 0)), (.i .i64 (Int.ofNat 0))] [(3, 1, v1)] h1) fun v2 h2 =>
 bnd (aO [(.i .i64 (Int.ofNat 0)), (.s []), (.i .i64 (Int.ofNat 0)), (.i .i64 (Int.ofNat 0))] 1 [(0, 4, v2)] h2) fun v3 h3 =>
 bnd (aX 4 40 x6 v3 h3) fun v4 h4 =>
 some (.t [v4, (.i .i64 (Int.ofNat 0)), (.i .i64 (Int.ofNat 0))], h4)
def aKh (rec : RT) (n : Nat) (kk7 : cQ) (x0 x5 x6 : DV) (h0 : Hp) : aH :=
 bnd (rec 75 [(.s [9, 10, 13, 32])] h0) fun v1 h1 =>
 bnd (cS x0 h1) fun v2 h2 =>
 bnd (rec 74 [x5, v1, v2] h2) fun v3 h3 =>
 bnd (bM x5 h3) fun v4 h4 =>
 bnd (aB 1 v4 h4) fun v5 h5 =>
 bnd (aD v5 h5) fun v6 h6 =>
 bnd (cS x0 h6) fun v7 h7 =>
 bnd (aF .geq v6 v7 h7) fun v8 h8 =>
 aU v8 (
  iM rec n x0 x6 h8) (
 bnd (bM x5 h8) fun v9 h9 =>
 bnd (aB 1 v9 h9) fun v10 h10 =>
 bnd (aD v10 h10) fun v11 h11 =>
 bnd (bF x0 v11 h11) fun v12 h12 =>
 bnd (aF .eql v12 (.i .u8 (Int.ofNat 34)) h12) fun v13 h13 =>
 aU v13 (
 bnd (bM x5 h13) fun v14 h14 =>
 bnd (aB 1 v14 h14) fun v15 h15 =>
 bnd (aD v15 h15) fun v16 h16 =>
 bnd (aF .add v16 (.i .i64 (Int.ofNat 1)) h16) fun v17 h17 =>
 bnd (cP x0 (some v17) none h17) fun v18 h18 =>
 bnd (rec 57 [v18, (.i .u8 (Int.ofNat 34))] h18) fun v19 h19 =>
 bnd (aF .lss v19 (.i .i64 (Int.ofNat 0)) h19) fun v20 h20 =>
 aU v20 (
 bnd (bM x5 h20) fun v21 h21 =>
 bnd (aB 1 v21 h21) fun v22 h22 =>
 bnd (aD v22 h22) fun v23 h23 =>
 some (.t [.l0, v23, (.i .i64 (Int.ofNat 11))], h23)) (
 bnd (bM x5 h20) fun v24 h24 =>
 bnd (aB 1 v24 h24) fun v25 h25 =>
 bnd (aD v25 h25) fun v26 h26 =>
 bnd (aF .add v19 (.i .i64 (Int.ofNat 2)) h26) fun v27 h27 =>
 bnd (aF .add v26 v27 h27) fun v28 h28 =>
 bnd (bM x5 h28) fun v29 h29 =>
 bnd (aB 1 v29 h29) fun v30 h30 =>
 bnd (aC 1 v30 v28 h30) fun _ h31 =>
  kk7 x0 x5 x6 h31)) (
 bnd (rec 76 [x5] h13) fun v32 h32 =>
 bnd (aK 0 v32 h32) fun v33 h33 =>
 bnd (aK 1 v32 h33) fun v34 h34 =>
 bnd (bG [(.i .i64 (Int.ofNat 0)), (.s []), (.i .i64 (Int.ofNat 0)), (.i .i64 (Int.ofNat 0))] h34) fun v35 h35 =>
 bnd (aC 4 v35 v33 h35) fun _ h36 =>
 bnd (aF .neq v34 (.i .i64 (Int.ofNat 0)) h36) fun v37 h37 =>
 aU v37 (
 bnd (aB 3 v35 h37) fun v38 h38 =>
 bnd (aD v38 h38) fun v39 h39 =>
 some (.t [.l0, v39, v34], h39)) (
 bnd (aE 4 v35 h37) fun v40 h40 =>
 bnd (aO [(.i .i64 (Int.ofNat 0)), (.s []), (.i .i64 (Int.ofNat 0)), (.i .i64 (Int.ofNat 0))] 1 [(0, 4, v40)] h40) fun v41 h41 =>
 bnd (aX 4 40 x6 v41 h41) fun v42 h42 =>
  kk7 x0 x5 v42 h42)))
def qJ (rec : RT) (n : Nat) (m : Nat) : cQ :=
 Nat.rec (motive := fun _ => cQ) (fun _ _ _ _ => none) (fun _ ih => aKh rec n ih) m
def bMd (rec : RT) (n : Nat) : cQ := qJ rec n n
def aXg (rec : RT) (n : Nat) (x0 x5 x6 : DV) (h0 : Hp) : aH :=
 bMd rec n x0 x5 x6 h0
def aYe (rec : RT) (n : Nat) (x0 x5 x6 : DV) (h0 : Hp) : aH :=
 aXg rec n x0 x5 x6 h0
def bBr (rec : RT) (n : Nat) (x0 x5 : DV) (h0 : Hp) : aH :=
 aYe rec n x0 x5 .l0 h0
def bCs (rec : RT) (n : Nat) (x0 : DV) (h0 : Hp) : aH :=
 bnd (bB [(.s []), (.i .i64 (Int.ofNat 0))] [(0, 1, x0)] h0) fun v1 h1 =>
 bnd (dW v1 h1) fun v2 h2 =>
  bBr rec n x0 v2 h2
def aWs (rec : RT) (n : Nat) (x0 : DV) (h0 : Hp) : aH :=
 bnd (cS x0 h0) fun v1 h1 =>
 bnd (aF .gtr v1 (.i .i64 (Int.ofNat 2000)) h1) fun v2 h2 =>
 aU v2 (
 some (.t [.l0, (.i .i64 (Int.ofNat 0)), (.i .i64 (Int.ofNat 12))], h2)) (
  bCs rec n x0 h2)
def s48 (rec : RT) (n : Nat) (x0 : DV) (h0 : Hp) : aH :=
 aWs rec n x0 h0
abbrev c48 : Code := cf Tryz.f48
abbrev bPv := cR c48
abbrev aZd := cL bPv
abbrev aUi := cR aZd
abbrev bCg := cR aUi
abbrev aVd := cR bCg
abbrev aZm := cR aVd
abbrev dGs := cR aZm
abbrev aWh := cL aZm
abbrev aUw := cL aWh
abbrev qC := cL aUw
abbrev bIi := cL aVd
abbrev bHy := cL bCg
abbrev bSa := cL aUi
abbrev bJg := cL aZd
abbrev bGr := cL c48
abbrev r48 : K := bD CF Tryz.f48
def D48 (rec : RT) (n : Nat) (c : Code) (X : Nat → K) (k : K) : K := aR CF rec 80 n c X r48 k
theorem cSo : D48 rec n dGs x0 r48 = (K2 (iM rec n) 0 6) := by kernel_rfl
theorem cMa (kk7 : cQ) : D48 rec n qC (xs x0 0 (K2 (iM rec n) 0 6)) (K3 kk7 0 5 6) = (K3 (aKh rec n kk7) 0 5 6) := by kernel_rfl
theorem cGx (m : Nat) : aG (fun kk => D48 rec n qC (xs x0 0 (K2 (iM rec n) 0 6)) kk) m = (K3 (qJ rec n m) 0 5 6) := by
 induction m with
 | zero => exact (by kernel_rfl : aG (fun kk => D48 rec n qC (xs x0 0 (K2 (iM rec n) 0 6)) kk) 0 = (K3 (qJ rec n 0) 0 5 6))
 | succ m ih =>
  refine (by kernel_rfl : aG (fun kk => D48 rec n qC (xs x0 0 (K2 (iM rec n) 0 6)) kk) (m + 1) = D48 rec n qC (xs x0 0 (K2 (iM rec n) 0 6)) (aG (fun kk => D48 rec n qC (xs x0 0 (K2 (iM rec n) 0 6)) kk) m)).trans ?_
  rw [ih]
  exact (cMa rec n (qJ rec n m)).trans (by kernel_rfl)
theorem cXs : D48 rec n aUw (xs x0 0 (K2 (iM rec n) 0 6)) (K2 (iM rec n) 0 6) = (K3 (bMd rec n) 0 5 6) :=
 (by kernel_rfl : D48 rec n aUw (xs x0 0 (K2 (iM rec n) 0 6)) (K2 (iM rec n) 0 6) = aG (fun kk => D48 rec n qC (xs x0 0 (K2 (iM rec n) 0 6)) kk) n).trans ((cGx rec n n).trans (by kernel_rfl))
theorem cHr : D48 rec n aZm x0 r48 = D48 rec n aWh x0 (K2 (iM rec n) 0 6) :=
 congrArg (fun k => D48 rec n aWh x0 k) (cSo rec n)
theorem cWu : D48 rec n aZm x0 r48 = (K3 (aXg rec n) 0 5 6) :=
 (cHr rec n).trans
 ((by kernel_rfl : D48 rec n aWh x0 (K2 (iM rec n) 0 6) = D48 rec n aUw (xs x0 0 (K2 (iM rec n) 0 6)) (K2 (iM rec n) 0 6)).trans
 ((cXs rec n).trans (by kernel_rfl)))
theorem cCt : D48 rec n aVd x0 r48 = D48 rec n bIi x0 (K3 (aXg rec n) 0 5 6) :=
 congrArg (fun k => D48 rec n bIi x0 k) (cWu rec n)
theorem dBp : D48 rec n aVd x0 r48 = (K3 (aYe rec n) 0 5 6) :=
 (cCt rec n).trans
 ((by kernel_rfl))
theorem cHv : D48 rec n bCg x0 r48 = D48 rec n bHy x0 (K3 (aYe rec n) 0 5 6) :=
 congrArg (fun k => D48 rec n bHy x0 k) (dBp rec n)
theorem dDl : D48 rec n bCg x0 r48 = (K2 (bBr rec n) 0 5) :=
 (cHv rec n).trans
 ((by kernel_rfl))
theorem cCn : D48 rec n aUi x0 r48 = D48 rec n bSa x0 (K2 (bBr rec n) 0 5) :=
 congrArg (fun k => D48 rec n bSa x0 k) (dDl rec n)
theorem cVm : D48 rec n aUi x0 r48 = (K1 (bCs rec n) 0) :=
 (cCn rec n).trans
 ((by kernel_rfl))
theorem cLj : D48 rec n aZd x0 r48 = D48 rec n bJg x0 (K1 (bCs rec n) 0) :=
 congrArg (fun k => D48 rec n bJg x0 k) (cVm rec n)
theorem cWl : D48 rec n bPv x0 r48 = (K1 (aWs rec n) 0) :=
 (by kernel_rfl : D48 rec n bPv x0 r48 = D48 rec n aZd x0 r48).trans
 ((cLj rec n).trans
 ((by kernel_rfl)))
theorem dEx : D48 rec n c48 x0 r48 = D48 rec n bGr x0 (K1 (aWs rec n) 0) :=
 congrArg (fun k => D48 rec n bGr x0 k) (cWl rec n)
theorem dNd : D48 rec n c48 x0 r48 = (K1 (s48 rec n) 0) :=
 (dEx rec n).trans
 ((by kernel_rfl))
theorem dEt (args : List DV) (h : Hp) : aL CF rec n 48 args h = s48 rec n (args.getD 0 aA) h :=
 cZ (dNd rec n) args h (by kernel_rfl) (by kernel_rfl)
def iH (rec : RT) (n : Nat) (x0 x3 : DV) (h0 : Hp) : aH :=
 bnd (rec 51 [x0, (.i .i64 (Int.ofNat 10)), (.s [124])] h0) fun v1 h1 =>
 some (x3, h1)
def aIe (rec : RT) (n : Nat) (kk6 : dE) (x0 x3 : DV) (h0 : Hp) : aH :=
 bnd (rec 77 [x0, (.i .i64 (Int.ofNat 1)), (.s [])] h0) fun v1 h1 =>
 aU v1 (
 bnd (rec 78 [x0] h1) fun v2 h2 =>
 bnd (cB 1 v2 h2) fun v3 h3 =>
 bnd (aO [(.s [])] 1 [(0, 1, v3)] h3) fun v4 h4 =>
 bnd (aX 1 16 x3 v4 h4) fun v5 h5 =>
      kk6 x0 v5 h5) (
      iH rec n x0 x3 h1)
def pR (rec : RT) (n : Nat) (m : Nat) : dE :=
 Nat.rec (motive := fun _ => dE) (fun _ _ _ => none) (fun _ ih => aIe rec n ih) m
def bId (rec : RT) (n : Nat) : dE := pR rec n n
def aTx (rec : RT) (n : Nat) (x0 x3 : DV) (h0 : Hp) : aH :=
 bId rec n x0 x3 h0
def bDj (rec : RT) (n : Nat) (x0 x3 : DV) (h0 : Hp) : aH :=
 bnd (rec 78 [x0] h0) fun v1 h1 =>
  aTx rec n x0 x3 h1
def bCl (rec : RT) (n : Nat) (x0 x3 : DV) (h0 : Hp) : aH :=
 bnd (rec 77 [x0, (.i .i64 (Int.ofNat 10)), (.s [124])] h0) fun v1 h1 =>
 bnd (jZ .not v1 h1) fun v2 h2 =>
 aU v2 (
 some (.l0, h2)) (
  bDj rec n x0 x3 h2)
def bCd (rec : RT) (n : Nat) (x0 : DV) (h0 : Hp) : aH :=
 bCl rec n x0 .l0 h0
def s49 (rec : RT) (n : Nat) (x0 : DV) (h0 : Hp) : aH :=
 bCd rec n x0 h0
abbrev c49 : Code := cf Tryz.f49
abbrev aUs := cR c49
abbrev aZq := cR aUs
abbrev aWb := cR aZq
abbrev aTv := cR aWb
abbrev dDy := cR aTv
abbrev bBi := cL aTv
abbrev bCk := cL bBi
abbrev aBb := cL bCk
abbrev cOx := cL aWb
abbrev bGz := cL aZq
abbrev bJa := cL aUs
abbrev bVi := cL c49
abbrev r49 : K := bD CF Tryz.f49
def D49 (rec : RT) (n : Nat) (c : Code) (X : Nat → K) (k : K) : K := aR CF rec 20 n c X r49 k
theorem dDg : D49 rec n dDy x0 r49 = (K2 (iH rec n) 0 3) := by kernel_rfl
theorem cHn (kk6 : dE) : D49 rec n aBb (xs x0 0 (K2 (iH rec n) 0 3)) (K2 kk6 0 3) = (K2 (aIe rec n kk6) 0 3) := by kernel_rfl
theorem cKa (m : Nat) : aG (fun kk => D49 rec n aBb (xs x0 0 (K2 (iH rec n) 0 3)) kk) m = (K2 (pR rec n m) 0 3) := by
 induction m with
 | zero => exact (by kernel_rfl : aG (fun kk => D49 rec n aBb (xs x0 0 (K2 (iH rec n) 0 3)) kk) 0 = (K2 (pR rec n 0) 0 3))
 | succ m ih =>
  refine (by kernel_rfl : aG (fun kk => D49 rec n aBb (xs x0 0 (K2 (iH rec n) 0 3)) kk) (m + 1) = D49 rec n aBb (xs x0 0 (K2 (iH rec n) 0 3)) (aG (fun kk => D49 rec n aBb (xs x0 0 (K2 (iH rec n) 0 3)) kk) m)).trans ?_
  rw [ih]
  exact (cHn rec n (pR rec n m)).trans (by kernel_rfl)
theorem cZy : D49 rec n bCk (xs x0 0 (K2 (iH rec n) 0 3)) (K2 (iH rec n) 0 3) = (K2 (bId rec n) 0 3) :=
 (by kernel_rfl : D49 rec n bCk (xs x0 0 (K2 (iH rec n) 0 3)) (K2 (iH rec n) 0 3) = aG (fun kk => D49 rec n aBb (xs x0 0 (K2 (iH rec n) 0 3)) kk) n).trans ((cKa rec n n).trans (by kernel_rfl))
theorem cLr : D49 rec n aTv x0 r49 = D49 rec n bBi x0 (K2 (iH rec n) 0 3) :=
 congrArg (fun k => D49 rec n bBi x0 k) (dDg rec n)
theorem cTz : D49 rec n aTv x0 r49 = (K2 (aTx rec n) 0 3) :=
 (cLr rec n).trans
 ((by kernel_rfl : D49 rec n bBi x0 (K2 (iH rec n) 0 3) = D49 rec n bCk (xs x0 0 (K2 (iH rec n) 0 3)) (K2 (iH rec n) 0 3)).trans
 ((cZy rec n).trans (by kernel_rfl)))
theorem cAj : D49 rec n aWb x0 r49 = D49 rec n cOx x0 (K2 (aTx rec n) 0 3) :=
 congrArg (fun k => D49 rec n cOx x0 k) (cTz rec n)
theorem dCy : D49 rec n aWb x0 r49 = (K2 (bDj rec n) 0 3) :=
 (cAj rec n).trans
 ((by kernel_rfl))
theorem cCk : D49 rec n aZq x0 r49 = D49 rec n bGz x0 (K2 (bDj rec n) 0 3) :=
 congrArg (fun k => D49 rec n bGz x0 k) (dCy rec n)
theorem cZo : D49 rec n aZq x0 r49 = (K2 (bCl rec n) 0 3) :=
 (cCk rec n).trans
 ((by kernel_rfl))
theorem cNl : D49 rec n aUs x0 r49 = D49 rec n bJa x0 (K2 (bCl rec n) 0 3) :=
 congrArg (fun k => D49 rec n bJa x0 k) (cZo rec n)
theorem cVj : D49 rec n aUs x0 r49 = (K1 (bCd rec n) 0) :=
 (cNl rec n).trans
 ((by kernel_rfl))
theorem dFj : D49 rec n c49 x0 r49 = D49 rec n bVi x0 (K1 (bCd rec n) 0) :=
 congrArg (fun k => D49 rec n bVi x0 k) (cVj rec n)
theorem dNb : D49 rec n c49 x0 r49 = (K1 (s49 rec n) 0) :=
 (dFj rec n).trans
 ((by kernel_rfl))
theorem dJv (args : List DV) (h : Hp) : aL CF rec n 49 args h = s49 rec n (args.getD 0 aA) h :=
 cZ (dNb rec n) args h (by kernel_rfl) (by kernel_rfl)
def iN (rec : RT) (n : Nat) (x3 : DV) (h0 : Hp) : aH :=
 some (x3, h0)
def cPy (rec : RT) (n : Nat) (kk4 : dE) (x0 x3 : DV) (h0 : Hp) : aH :=
 bnd (rec 79 [x0] h0) fun v1 h1 =>
 bnd (aO [(.i .i64 (Int.ofNat 0)), (.s []), (.i .i64 (Int.ofNat 0)), .l0, .l0, .l0] 1 [(0, 6, v1)] h1) fun v2 h2 =>
 bnd (aX 6 104 x3 v2 h2) fun v3 h3 =>
 bnd (rec 77 [x0, (.i .i64 (Int.ofNat 10)), (.s [46])] h3) fun v4 h4 =>
 bnd (jZ .not v4 h4) fun v5 h5 =>
 aU v5 (
 some (v3, h5)) (
 bnd (rec 78 [x0] h5) fun v6 h6 =>
  kk4 x0 v3 h6)
def aQo (rec : RT) (n : Nat) (kk4 : dE) (x3 : DV) (h0 : Hp) : aH :=
 some (x3, h0)
def bQn (rec : RT) (n : Nat) (kk4 : dE) (x0 x3 : DV) (h0 : Hp) : aH :=
 bnd (rec 77 [x0, (.i .i64 (Int.ofNat 10)), (.s [46])] h0) fun v1 h1 =>
 aU v1 (
 bnd (rec 78 [x0] h1) fun v2 h2 =>
  aQo rec n kk4 x3 h2) (
  aQo rec n kk4 x3 h1)
def cPr (rec : RT) (n : Nat) (kk4 : dE) (x0 x3 : DV) (h0 : Hp) : aH :=
 bnd (rec 79 [x0] h0) fun v1 h1 =>
 bnd (aO [(.i .i64 (Int.ofNat 0)), (.s []), (.i .i64 (Int.ofNat 0)), .l0, .l0, .l0] 1 [(0, 6, v1)] h1) fun v2 h2 =>
 bnd (bB [(.i .i64 (Int.ofNat 0)), (.s []), (.i .i64 (Int.ofNat 0)), .l0, .l0, .l0] [(0, 1, (.i .i64 (Int.ofNat 10))), (5, 1, v2)] h2) fun v3 h3 =>
 bnd (aO [(.i .i64 (Int.ofNat 0)), (.s []), (.i .i64 (Int.ofNat 0)), .l0, .l0, .l0] 1 [(0, 6, v3)] h3) fun v4 h4 =>
 bnd (aX 6 104 x3 v4 h4) fun v5 h5 =>
  bQn rec n kk4 x0 v5 h5
def cOg (rec : RT) (n : Nat) (kk4 : dE) (x0 x3 : DV) (h0 : Hp) : aH :=
 bnd (rec 78 [x0] h0) fun v1 h1 =>
  cPr rec n kk4 x0 x3 h1
def cOw (rec : RT) (n : Nat) (kk4 : dE) (x0 x3 x20 : DV) (h0 : Hp) : aH :=
 aU x20 (
  cOg rec n kk4 x0 x3 h0) (
  cPy rec n kk4 x0 x3 h0)
def cQb (rec : RT) (n : Nat) (kk4 : dE) (x0 x3 : DV) (h0 : Hp) : aH :=
 bnd (rec 77 [x0, (.i .i64 (Int.ofNat 10)), (.s [94])] h0) fun v1 h1 =>
  cOw rec n kk4 x0 x3 v1 h1
def aEd (rec : RT) (n : Nat) (kk4 : dE) (x0 x3 : DV) (h0 : Hp) : aH :=
 bnd (bM x0 h0) fun v1 h1 =>
 bnd (aB 3 v1 h1) fun v2 h2 =>
 bnd (aD v2 h2) fun v3 h3 =>
 bnd (aF .eql v3 (.i .i64 (Int.ofNat 0)) h3) fun v4 h4 =>
 bnd (gD v4 true (some (x0, h4)) h4) fun v5 h5 =>
 bnd (gD v4 true (rec 77 [v5, (.i .i64 (Int.ofNat 0)), (.s [])] h5) h5) fun v6 h6 =>
 bnd (gD v4 true (jZ .not v6 h6) h6) fun v7 h7 =>
 bnd (aV v4 v7 (.b false) h7) fun v8 h8 =>
 bnd (gD v8 true (some (x0, h8)) h8) fun v9 h9 =>
 bnd (gD v8 true (rec 77 [v9, (.i .i64 (Int.ofNat 10)), (.s [93])] h9) h9) fun v10 h10 =>
 bnd (gD v8 true (jZ .not v10 h10) h10) fun v11 h11 =>
 bnd (aV v8 v11 (.b false) h11) fun v12 h12 =>
 aU v12 (
  cQb rec n kk4 x0 x3 h12) (
  iN rec n x3 h12)
def qN (rec : RT) (n : Nat) (m : Nat) : dE :=
 Nat.rec (motive := fun _ => dE) (fun _ _ _ => none) (fun _ ih => aEd rec n ih) m
def bLq (rec : RT) (n : Nat) : dE := qN rec n n
def aXw (rec : RT) (n : Nat) (x0 x3 : DV) (h0 : Hp) : aH :=
 bLq rec n x0 x3 h0
def bCt (rec : RT) (n : Nat) (x0 : DV) (h0 : Hp) : aH :=
 aXw rec n x0 .l0 h0
def s50 (rec : RT) (n : Nat) (x0 : DV) (h0 : Hp) : aH :=
 bCt rec n x0 h0
abbrev c50 : Code := cf Tryz.f50
abbrev aTz := cR c50
abbrev aUk := cR aTz
abbrev dGi := cR aUk
abbrev aXd := cL aUk
abbrev aVf := cL aXd
abbrev aAq := cL aVf
abbrev bUx := cL aTz
abbrev bXk := cL c50
abbrev r50 : K := bD CF Tryz.f50
def D50 (rec : RT) (n : Nat) (c : Code) (X : Nat → K) (k : K) : K := aR CF rec 47 n c X r50 k
theorem dCf : D50 rec n dGi x0 r50 = (K1 (iN rec n) 3) := by kernel_rfl
theorem cKq (kk4 : dE) : D50 rec n aAq (xs x0 0 (K1 (iN rec n) 3)) (K2 kk4 0 3) = (K2 (aEd rec n kk4) 0 3) := by kernel_rfl
theorem cEw (m : Nat) : aG (fun kk => D50 rec n aAq (xs x0 0 (K1 (iN rec n) 3)) kk) m = (K2 (qN rec n m) 0 3) := by
 induction m with
 | zero => exact (by kernel_rfl : aG (fun kk => D50 rec n aAq (xs x0 0 (K1 (iN rec n) 3)) kk) 0 = (K2 (qN rec n 0) 0 3))
 | succ m ih =>
  refine (by kernel_rfl : aG (fun kk => D50 rec n aAq (xs x0 0 (K1 (iN rec n) 3)) kk) (m + 1) = D50 rec n aAq (xs x0 0 (K1 (iN rec n) 3)) (aG (fun kk => D50 rec n aAq (xs x0 0 (K1 (iN rec n) 3)) kk) m)).trans ?_
  rw [ih]
  exact (cKq rec n (qN rec n m)).trans (by kernel_rfl)
theorem cWv : D50 rec n aVf (xs x0 0 (K1 (iN rec n) 3)) (K1 (iN rec n) 3) = (K2 (bLq rec n) 0 3) :=
 (by kernel_rfl : D50 rec n aVf (xs x0 0 (K1 (iN rec n) 3)) (K1 (iN rec n) 3) = aG (fun kk => D50 rec n aAq (xs x0 0 (K1 (iN rec n) 3)) kk) n).trans ((cEw rec n n).trans (by kernel_rfl))
theorem cHy : D50 rec n aUk x0 r50 = D50 rec n aXd x0 (K1 (iN rec n) 3) :=
 congrArg (fun k => D50 rec n aXd x0 k) (dCf rec n)
theorem cWg : D50 rec n aUk x0 r50 = (K2 (aXw rec n) 0 3) :=
 (cHy rec n).trans
 ((by kernel_rfl : D50 rec n aXd x0 (K1 (iN rec n) 3) = D50 rec n aVf (xs x0 0 (K1 (iN rec n) 3)) (K1 (iN rec n) 3)).trans
 ((cWv rec n).trans (by kernel_rfl)))
theorem bOu : D50 rec n aTz x0 r50 = D50 rec n bUx x0 (K2 (aXw rec n) 0 3) :=
 congrArg (fun k => D50 rec n bUx x0 k) (cWg rec n)
theorem cSc : D50 rec n aTz x0 r50 = (K1 (bCt rec n) 0) :=
 (bOu rec n).trans
 ((by kernel_rfl))
theorem dAf : D50 rec n c50 x0 r50 = D50 rec n bXk x0 (K1 (bCt rec n) 0) :=
 congrArg (fun k => D50 rec n bXk x0 k) (cSc rec n)
theorem dOf : D50 rec n c50 x0 r50 = (K1 (s50 rec n) 0) :=
 (dAf rec n).trans
 ((by kernel_rfl))
theorem dHb (args : List DV) (h : Hp) : aL CF rec n 50 args h = s50 rec n (args.getD 0 aA) h :=
 cZ (dOf rec n) args h (by kernel_rfl) (by kernel_rfl)
def s51 (rec : RT) (n : Nat) (x0 x1 x2 : DV) (h0 : Hp) : aH :=
 bnd (bG [(.i .i64 (Int.ofNat 0)), (.s []), (.i .i64 (Int.ofNat 0)), (.i .i64 (Int.ofNat 0))] h0) fun v1 h1 =>
 bnd (rec 77 [x0, x1, x2] h1) fun v2 h2 =>
 bnd (jZ .not v2 h2) fun v3 h3 =>
 aU v3 (
 bnd (rec 81 [x0, (.i .i64 (Int.ofNat 0))] h3) fun v4 h4 =>
 bnd (rec 80 [x0, v4, (.i .i64 (Int.ofNat 13))] h4) fun v5 h5 =>
 bnd (bB [(.i .i64 (Int.ofNat 0)), (.s []), (.i .i64 (Int.ofNat 0)), (.i .i64 (Int.ofNat 0))] [] h5) fun v6 h6 =>
 bnd (aC 4 v1 v6 h6) fun _ h7 =>
 bnd (aE 4 v1 h7) fun v8 _ =>
 some (v8, h7)) (
 bnd (rec 78 [x0] h3) fun v9 h9 =>
 bnd (aC 4 v1 v9 h9) fun _ h10 =>
 bnd (aE 4 v1 h10) fun v11 _ =>
 some (v11, h10))
abbrev c51 : Code := cf Tryz.f51
abbrev r51 : K := bD CF Tryz.f51
def D51 (rec : RT) (n : Nat) (c : Code) (X : Nat → K) (k : K) : K := aR CF rec 19 n c X r51 k
theorem dPo : D51 rec n c51 x0 r51 = (K3 (s51 rec n) 0 1 2) :=
 (by kernel_rfl)
theorem dFz (args : List DV) (h : Hp) : aL CF rec n 51 args h = s51 rec n (args.getD 0 aA) (args.getD 1 aA) (args.getD 2 aA) h :=
 cZ (dPo rec n) args h (by kernel_rfl) (by kernel_rfl)
def s57 (rec : RT) (n : Nat) (x0 x1 : DV) (h0 : Hp) : aH :=
 bnd (rec 85 [x0, x1] h0) fun v1 h1 =>
 some (v1, h1)
abbrev c57 : Code := cf Tryz.f57
abbrev r57 : K := bD CF Tryz.f57
def D57 (rec : RT) (n : Nat) (c : Code) (X : Nat → K) (k : K) : K := aR CF rec 8 n c X r57 k
theorem dMn : D57 rec n c57 x0 r57 = (K2 (s57 rec n) 0 1) :=
 (by kernel_rfl)
theorem dLa (args : List DV) (h : Hp) : aL CF rec n 57 args h = s57 rec n (args.getD 0 aA) (args.getD 1 aA) h :=
 cZ (dMn rec n) args h (by kernel_rfl) (by kernel_rfl)
def s58 (rec : RT) (n : Nat) (x0 x1 : DV) (h0 : Hp) : aH :=
 bnd (cS x1 h0) fun v1 h1 =>
 bnd (uJ [x0, x1, v1, (.i .i64 (Int.negSucc 0))] h1) fun v2 h2 =>
 some (v2, h2)
abbrev c58 : Code := cf Tryz.f58
abbrev r58 : K := bD CF Tryz.f58
def D58 (rec : RT) (n : Nat) (c : Code) (X : Nat → K) (k : K) : K := aR CF rec 10 n c X r58 k
theorem dNf : D58 rec n c58 x0 r58 = (K2 (s58 rec n) 0 1) :=
 (by kernel_rfl)
theorem dGe (args : List DV) (h : Hp) : aL CF rec n 58 args h = s58 rec n (args.getD 0 aA) (args.getD 1 aA) h :=
 cZ (dNf rec n) args h (by kernel_rfl) (by kernel_rfl)
def aXr (rec : RT) (n : Nat) (x0 x1 x5 : DV) (h0 : Hp) : aH :=
 bnd (rec 89 [x1, (.i .i64 (Int.ofNat 0)), x5] (hC 1 h0)) fun v1 h1 =>
 bnd (cK 6 x1 (some (.i .i64 (Int.ofNat 1))) none h1) fun v2 h2 =>
 cnd (bP (cK 6 x1 (some (.i .i64 (Int.ofNat 1))) none (hC 1 h0)) v2 && true) (
 bnd (rec 90 [x0, v2] h2) fun v3 h3 =>
 bnd (aZ (cT 0 h0.next) [(.s []), (.s []), (.s [])] 3 [(0, 1, v1), (1, 1, (.s [32])), (2, 1, v3)] h3) fun v4 h4 =>
 bnd (rec 19 [v4] h4) fun v5 h5 =>
 some (v5, h5))
def cOf (rec : RT) (n : Nat) (x0 x1 x5 : DV) (h0 : Hp) : aH :=
 bnd (rec 32 [x0] h0) fun v1 h1 =>
 bnd (aF .eql v1 (.i .i64 (Int.ofNat 1)) h1) fun v2 h2 =>
 aU v2 (
  aXr rec n x0 x1 (.i .i64 (Int.ofNat 1)) h2) (
  aXr rec n x0 x1 x5 h2)
def cNs (rec : RT) (n : Nat) (x0 x1 : DV) (h0 : Hp) : aH :=
 cOf rec n x0 x1 (.i .i64 (Int.ofNat 2)) h0
def cOi (rec : RT) (n : Nat) (x0 x1 : DV) (h0 : Hp) : aH :=
 bnd (dB x1 h0) fun v1 h1 =>
 bnd (aF .eql v1 (.i .i64 (Int.ofNat 0)) h1) fun v2 h2 =>
 aU v2 (
 some ((.s []), h2)) (
  cNs rec n x0 x1 h2)
def s61 (rec : RT) (n : Nat) (x0 x1 : DV) (h0 : Hp) : aH :=
 cOi rec n x0 x1 h0
abbrev c61 : Code := cf Tryz.f61
abbrev r61 : K := bD CF Tryz.f61
def D61 (rec : RT) (n : Nat) (c : Code) (X : Nat → K) (k : K) : K := aR CF rec 21 n c X r61 k
theorem dNm : D61 rec n c61 x0 r61 = (K2 (s61 rec n) 0 1) := by kernel_rfl
theorem dKu (args : List DV) (h : Hp) : aL CF rec n 61 args h = s61 rec n (args.getD 0 aA) (args.getD 1 aA) h :=
 cZ (dNm rec n) args h (by kernel_rfl) (by kernel_rfl)
def s62 (rec : RT) (n : Nat) (x0 : DV) (h0 : Hp) : aH :=
 bnd (dB x0 h0) fun v1 h1 =>
 bnd (aF .lss v1 (.i .i64 (Int.ofNat 2)) h1) fun v2 h2 =>
 aU v2 (
 some ((.s []), h2)) (
 bnd (aP 6 x0 (.i .i64 (Int.ofNat 0)) (hC 1 h2)) fun v3 h3 =>
 bnd (aE 6 v3 h3) fun v4 h4 =>
 bnd (aZ (cT 0 h2.next) [(.i .i64 (Int.ofNat 0)), (.s []), (.i .i64 (Int.ofNat 0)), .l0, .l0, .l0] 1 [(0, 6, v4)] h4) fun v5 h5 =>
 bnd (aP 6 x0 (.i .i64 (Int.ofNat 1)) h5) fun v6 h6 =>
 bnd (aB 5 v6 h6) fun v7 h7 =>
 bnd (aD v7 h7) fun v8 h8 =>
 cnd (bP (aD v7 (hC 1 h2)) v8 && true) (
 bnd (aX 6 104 v5 v8 h8) fun v9 h9 =>
 bnd (cK 6 x0 (some (.i .i64 (Int.ofNat 2))) none h9) fun v10 h10 =>
 bnd (rec 35 [v10, (.s []), (.f 91 [] [])] h10) fun v11 h11 =>
 bnd (aP 6 x0 (.i .i64 (Int.ofNat 1)) h11) fun v12 h12 =>
 bnd (aB 1 v12 h12) fun v13 h13 =>
 bnd (aD v13 h13) fun v14 h14 =>
 bnd (rec 61 [v14, v9] h14) fun v15 h15 =>
 bnd (aO [(.s []), (.s [])] 2 [(0, 1, v15), (1, 1, v11)] h15) fun v16 h16 =>
 bnd (rec 19 [v16] h16) fun v17 h17 =>
 some (v17, h17)))
abbrev c62 : Code := cf Tryz.f62
abbrev r62 : K := bD CF Tryz.f62
def D62 (rec : RT) (n : Nat) (c : Code) (X : Nat → K) (k : K) : K := aR CF rec 29 n c X r62 k
theorem dMs : D62 rec n c62 x0 r62 = (K1 (s62 rec n) 0) :=
 (by kernel_rfl)
theorem dHn (args : List DV) (h : Hp) : aL CF rec n 62 args h = s62 rec n (args.getD 0 aA) h :=
 cZ (dMs rec n) args h (by kernel_rfl) (by kernel_rfl)
def gO (rec : RT) (n : Nat) (h0 : Hp) : aH :=
 some ((.b true), h0)
def sV (rec : RT) (n : Nat) (kk5 : iG) (x0 x1 x12 x13 : DV) (h0 : Hp) : aH :=
 bnd (aF .lss x13 x12 h0) fun v1 h1 =>
 aU v1 (
 bnd (aP 1 x0 x13 h1) fun v2 h2 =>
 bnd (aD v2 h2) fun v3 h3 =>
 bnd (aP 1 x1 x13 h3) fun v4 h4 =>
 bnd (aD v4 h4) fun v5 h5 =>
 bnd (bY .neq v3 v5 h5) fun v6 h6 =>
 aU v6 (
 some ((.b false), h6)) (
 bnd (aF .add x13 (.i .i64 (Int.ofNat 1)) h6) fun v7 h7 =>
  kk5 x0 x1 x12 v7 h7)) (
      gO rec n h1)
def mO (rec : RT) (n : Nat) (m : Nat) : iG :=
 Nat.rec (motive := fun _ => iG) (fun _ _ _ _ _ => none) (fun _ ih => sV rec n ih) m
def bKu (rec : RT) (n : Nat) : iG := mO rec n n
def aXc (rec : RT) (n : Nat) (x0 x1 x12 x13 : DV) (h0 : Hp) : aH :=
 bKu rec n x0 x1 x12 x13 h0
def bBs (rec : RT) (n : Nat) (x0 x1 : DV) (h0 : Hp) : aH :=
 bnd (dB x0 h0) fun v1 h1 =>
  aXc rec n x0 x1 v1 (.i .i64 (Int.ofNat 0)) h1
def aZv (rec : RT) (n : Nat) (x0 x1 : DV) (h0 : Hp) : aH :=
 bnd (dB x0 h0) fun v1 h1 =>
 bnd (dB x1 h1) fun v2 h2 =>
 bnd (aF .neq v1 v2 h2) fun v3 h3 =>
 aU v3 (
 some ((.b false), h3)) (
  bBs rec n x0 x1 h3)
def s63 (rec : RT) (n : Nat) (x0 x1 : DV) (h0 : Hp) : aH :=
 aZv rec n x0 x1 h0
abbrev c63 : Code := cf Tryz.f63
abbrev bDg := cR c63
abbrev aVk := cR bDg
abbrev dKb := cR aVk
abbrev aLd := cL aVk
abbrev bTj := cR aLd
abbrev aUp := cL bTj
abbrev xD := cL aUp
abbrev cNz := cL aLd
abbrev cOr := cL bDg
abbrev bTe := cL c63
abbrev r63 : K := bD CF Tryz.f63
def D63 (rec : RT) (n : Nat) (c : Code) (X : Nat → K) (k : K) : K := aR CF rec 26 n c X r63 k
theorem dCt : D63 rec n dKb x0 r63 = (K0 (gO rec n)) := by kernel_rfl
theorem cEa (kk5 : iG) : D63 rec n xD (xs x0 0 (K0 (gO rec n))) (K4 kk5 0 1 12 13) = (K4 (sV rec n kk5) 0 1 12 13) := by kernel_rfl
theorem cMy (m : Nat) : aG (fun kk => D63 rec n xD (xs x0 0 (K0 (gO rec n))) kk) m = (K4 (mO rec n m) 0 1 12 13) := by
 induction m with
 | zero => exact (by kernel_rfl : aG (fun kk => D63 rec n xD (xs x0 0 (K0 (gO rec n))) kk) 0 = (K4 (mO rec n 0) 0 1 12 13))
 | succ m ih =>
  refine (by kernel_rfl : aG (fun kk => D63 rec n xD (xs x0 0 (K0 (gO rec n))) kk) (m + 1) = D63 rec n xD (xs x0 0 (K0 (gO rec n))) (aG (fun kk => D63 rec n xD (xs x0 0 (K0 (gO rec n))) kk) m)).trans ?_
  rw [ih]
  exact (cEa rec n (mO rec n m)).trans (by kernel_rfl)
theorem dAc : D63 rec n aUp (xs x0 0 (K0 (gO rec n))) (K0 (gO rec n)) = (K4 (bKu rec n) 0 1 12 13) :=
 (by kernel_rfl : D63 rec n aUp (xs x0 0 (K0 (gO rec n))) (K0 (gO rec n)) = aG (fun kk => D63 rec n xD (xs x0 0 (K0 (gO rec n))) kk) n).trans ((cMy rec n n).trans (by kernel_rfl))
theorem dDm : D63 rec n bTj x0 (K0 (gO rec n)) = (K4 (aXc rec n) 0 1 12 13) :=
 (by kernel_rfl : D63 rec n bTj x0 (K0 (gO rec n)) = D63 rec n aUp (xs x0 0 (K0 (gO rec n))) (K0 (gO rec n))).trans
 ((dAc rec n).trans (by kernel_rfl))
theorem cJl : D63 rec n aVk x0 r63 = D63 rec n aLd x0 (K0 (gO rec n)) :=
 congrArg (fun k => D63 rec n aLd x0 k) (dCt rec n)
theorem cBl : D63 rec n aLd x0 (K0 (gO rec n)) = D63 rec n cNz x0 (K4 (aXc rec n) 0 1 12 13) :=
 congrArg (fun k => D63 rec n cNz x0 k) (dDm rec n)
theorem cRw : D63 rec n aVk x0 r63 = (K2 (bBs rec n) 0 1) :=
 (cJl rec n).trans
 ((cBl rec n).trans
 ((by kernel_rfl)))
theorem cFy : D63 rec n bDg x0 r63 = D63 rec n cOr x0 (K2 (bBs rec n) 0 1) :=
 congrArg (fun k => D63 rec n cOr x0 k) (cRw rec n)
theorem dBi : D63 rec n bDg x0 r63 = (K2 (aZv rec n) 0 1) :=
 (cFy rec n).trans
 ((by kernel_rfl))
theorem dIn : D63 rec n c63 x0 r63 = D63 rec n bTe x0 (K2 (aZv rec n) 0 1) :=
 congrArg (fun k => D63 rec n bTe x0 k) (dBi rec n)
theorem dLy : D63 rec n c63 x0 r63 = (K2 (s63 rec n) 0 1) :=
 (dIn rec n).trans
 ((by kernel_rfl))
theorem dKr (args : List DV) (h : Hp) : aL CF rec n 63 args h = s63 rec n (args.getD 0 aA) (args.getD 1 aA) h :=
 cZ (dLy rec n) args h (by kernel_rfl) (by kernel_rfl)
def gR (rec : RT) (n : Nat) (h0 : Hp) : aH :=
 some ((.b true), h0)
def uF (rec : RT) (n : Nat) (kk5 : TT5) (x1 x2 x15 x16 x17 : DV) (h0 : Hp) : aH :=
 bnd (aF .lss x17 x16 h0) fun v1 h1 =>
 aU v1 (
 bnd (aP 6 x15 x17 h1) fun v2 h2 =>
 bnd (aE 6 v2 h2) fun v3 h3 =>
 bnd (bG [(.i .i64 (Int.ofNat 0)), (.s []), (.i .i64 (Int.ofNat 0)), .l0, .l0, .l0] h3) fun v4 h4 =>
 bnd (aC 6 v4 v3 h4) fun _ h5 =>
 bnd (aP 6 x1 x17 h5) fun v6 h6 =>
 bnd (aE 6 v6 h6) fun v7 h7 =>
 bnd (bG [(.i .i64 (Int.ofNat 0)), (.s []), (.i .i64 (Int.ofNat 0)), .l0, .l0, .l0] h7) fun v8 h8 =>
 bnd (aC 6 v8 v7 h8) fun _ h9 =>
 bnd (aE 6 v4 h9) fun v10 h10 =>
 bnd (aE 6 v8 h10) fun v11 h11 =>
 bnd (dS CF rec x2 [v10, v11] h11) fun v12 h12 =>
 bnd (jZ .not v12 h12) fun v13 h13 =>
 aU v13 (
 some ((.b false), h13)) (
 bnd (aF .add x17 (.i .i64 (Int.ofNat 1)) h13) fun v14 h14 =>
  kk5 x1 x2 x15 x16 v14 h14)) (
      gR rec n h1)
def kV (rec : RT) (n : Nat) (m : Nat) : TT5 :=
 Nat.rec (motive := fun _ => TT5) (fun _ _ _ _ _ _ => none) (fun _ ih => uF rec n ih) m
def bSl (rec : RT) (n : Nat) : TT5 := kV rec n n
def aTh (rec : RT) (n : Nat) (x1 x2 x15 x16 x17 : DV) (h0 : Hp) : aH :=
 bSl rec n x1 x2 x15 x16 x17 h0
def bCi (rec : RT) (n : Nat) (x0 x1 x2 : DV) (h0 : Hp) : aH :=
 bnd (dB x0 h0) fun v1 h1 =>
  aTh rec n x1 x2 x0 v1 (.i .i64 (Int.ofNat 0)) h1
def aVt (rec : RT) (n : Nat) (x0 x1 x2 : DV) (h0 : Hp) : aH :=
 bnd (dB x0 h0) fun v1 h1 =>
 bnd (dB x1 h1) fun v2 h2 =>
 bnd (aF .neq v1 v2 h2) fun v3 h3 =>
 aU v3 (
 some ((.b false), h3)) (
  bCi rec n x0 x1 x2 h3)
def s64 (rec : RT) (n : Nat) (x0 x1 x2 : DV) (h0 : Hp) : aH :=
 aVt rec n x0 x1 x2 h0
abbrev c64 : Code := cf Tryz.f64
abbrev bAr := cR c64
abbrev bBb := cR bAr
abbrev dHu := cR bBb
abbrev aNe := cL bBb
abbrev bIa := cR aNe
abbrev aXo := cL bIa
abbrev xT := cL aXo
abbrev cQi := cL aNe
abbrev cQv := cL bAr
abbrev bNu := cL c64
abbrev r64 : K := bD CF Tryz.f64
def D64 (rec : RT) (n : Nat) (c : Code) (X : Nat → K) (k : K) : K := aR CF rec 32 n c X r64 k
theorem dBn : D64 rec n dHu x0 r64 = (K0 (gR rec n)) := by kernel_rfl
theorem cIj (kk5 : TT5) : D64 rec n xT (xs x0 0 (K0 (gR rec n))) (K5 kk5 1 2 15 16 17) = (K5 (uF rec n kk5) 1 2 15 16 17) := by kernel_rfl
theorem cHz (m : Nat) : aG (fun kk => D64 rec n xT (xs x0 0 (K0 (gR rec n))) kk) m = (K5 (kV rec n m) 1 2 15 16 17) := by
 induction m with
 | zero => exact (by kernel_rfl : aG (fun kk => D64 rec n xT (xs x0 0 (K0 (gR rec n))) kk) 0 = (K5 (kV rec n 0) 1 2 15 16 17))
 | succ m ih =>
  refine (by kernel_rfl : aG (fun kk => D64 rec n xT (xs x0 0 (K0 (gR rec n))) kk) (m + 1) = D64 rec n xT (xs x0 0 (K0 (gR rec n))) (aG (fun kk => D64 rec n xT (xs x0 0 (K0 (gR rec n))) kk) m)).trans ?_
  rw [ih]
  exact (cIj rec n (kV rec n m)).trans (by kernel_rfl)
theorem cXo : D64 rec n aXo (xs x0 0 (K0 (gR rec n))) (K0 (gR rec n)) = (K5 (bSl rec n) 1 2 15 16 17) :=
 (by kernel_rfl : D64 rec n aXo (xs x0 0 (K0 (gR rec n))) (K0 (gR rec n)) = aG (fun kk => D64 rec n xT (xs x0 0 (K0 (gR rec n))) kk) n).trans ((cHz rec n n).trans (by kernel_rfl))
theorem cXl : D64 rec n bIa x0 (K0 (gR rec n)) = (K5 (aTh rec n) 1 2 15 16 17) :=
 (by kernel_rfl : D64 rec n bIa x0 (K0 (gR rec n)) = D64 rec n aXo (xs x0 0 (K0 (gR rec n))) (K0 (gR rec n))).trans
 ((cXo rec n).trans (by kernel_rfl))
theorem cDx : D64 rec n bBb x0 r64 = D64 rec n aNe x0 (K0 (gR rec n)) :=
 congrArg (fun k => D64 rec n aNe x0 k) (dBn rec n)
theorem cDo : D64 rec n aNe x0 (K0 (gR rec n)) = D64 rec n cQi x0 (K5 (aTh rec n) 1 2 15 16 17) :=
 congrArg (fun k => D64 rec n cQi x0 k) (cXl rec n)
theorem dAw : D64 rec n bBb x0 r64 = (K3 (bCi rec n) 0 1 2) :=
 (cDx rec n).trans
 ((cDo rec n).trans
 ((by kernel_rfl)))
theorem cKo : D64 rec n bAr x0 r64 = D64 rec n cQv x0 (K3 (bCi rec n) 0 1 2) :=
 congrArg (fun k => D64 rec n cQv x0 k) (dAw rec n)
theorem dCq : D64 rec n bAr x0 r64 = (K3 (aVt rec n) 0 1 2) :=
 (cKo rec n).trans
 ((by kernel_rfl))
theorem dFu : D64 rec n c64 x0 r64 = D64 rec n bNu x0 (K3 (aVt rec n) 0 1 2) :=
 congrArg (fun k => D64 rec n bNu x0 k) (dCq rec n)
theorem dOk : D64 rec n c64 x0 r64 = (K3 (s64 rec n) 0 1 2) :=
 (dFu rec n).trans
 ((by kernel_rfl))
theorem dEj (args : List DV) (h : Hp) : aL CF rec n 64 args h = s64 rec n (args.getD 0 aA) (args.getD 1 aA) (args.getD 2 aA) h :=
 cZ (dOk rec n) args h (by kernel_rfl) (by kernel_rfl)
end
end Go.Dd

namespace Go.Dd
open Go.Proofs
noncomputable section
variable (rec : RT) (n : Nat)
def aI (rec : RT) (n : Nat) (x1 : DV) (h0 : Hp) : aH :=
 bnd (aB 1 x1 h0) fun v1 h1 =>
 bnd (aD v1 h1) fun v2 h2 =>
 some (v2, h2)
def gN (rec : RT) (n : Nat) (x3 : DV) (h0 : Hp) : aH :=
 bnd (bY .add x3 (.s [39]) h0) fun v1 h1 =>
 some (v1, h1)
def bOw (rec : RT) (n : Nat) (kk11 : cQ) (x1 x3 x4 : DV) (h0 : Hp) : aH :=
 bnd (aF .add x4 (.i .i64 (Int.ofNat 1)) h0) fun v1 h1 =>
  kk11 x1 x3 v1 h1
def aHc (rec : RT) (n : Nat) (kk11 : cQ) (x1 x3 x4 : DV) (h0 : Hp) : aH :=
 bnd (aB 1 x1 h0) fun v1 h1 =>
 bnd (aD v1 h1) fun v2 h2 =>
 bnd (aF .add x4 (.i .i64 (Int.ofNat 1)) h2) fun v3 h3 =>
 bnd (cP v2 (some x4) (some v3) h3) fun v4 h4 =>
 bnd (bY .add x3 v4 h4) fun v5 h5 =>
  bOw rec n kk11 x1 v5 x4 h5
def bPe (rec : RT) (n : Nat) (kk11 : cQ) (x1 x3 x4 : DV) (h0 : Hp) : aH :=
 bnd (aB 1 x1 h0) fun v1 h1 =>
 bnd (aD v1 h1) fun v2 h2 =>
 bnd (bF v2 x4 h2) fun v3 h3 =>
 bnd (aF .eql v3 (.i .u8 (Int.ofNat 39)) h3) fun v4 h4 =>
 aU v4 (
 bnd (bY .add x3 (.s [39]) h4) fun v5 h5 =>
  aHc rec n kk11 x1 v5 x4 h5) (
  aHc rec n kk11 x1 x3 x4 h4)
def oU (rec : RT) (n : Nat) (kk11 : cQ) (x1 x3 x4 : DV) (h0 : Hp) : aH :=
 bnd (aB 1 x1 h0) fun v1 h1 =>
 bnd (aD v1 h1) fun v2 h2 =>
 bnd (cS v2 h2) fun v3 h3 =>
 bnd (aF .lss x4 v3 h3) fun v4 h4 =>
 aU v4 (
  bPe rec n kk11 x1 x3 x4 h4) (
  gN rec n x3 h4)
def iR (rec : RT) (n : Nat) (m : Nat) : cQ :=
 Nat.rec (motive := fun _ => cQ) (fun _ _ _ _ => none) (fun _ ih => oU rec n ih) m
def aQg (rec : RT) (n : Nat) : cQ := iR rec n n
def aKj (rec : RT) (n : Nat) (x1 x3 x4 : DV) (h0 : Hp) : aH :=
 aQg rec n x1 x3 x4 h0
def aVv (rec : RT) (n : Nat) (x1 x3 : DV) (h0 : Hp) : aH :=
 aKj rec n x1 x3 (.i .i64 (Int.ofNat 0)) h0
def bQe (rec : RT) (n : Nat) (x1 : DV) (h0 : Hp) : aH :=
 aVv rec n x1 (.s [39]) h0
def dX (rec : RT) (n : Nat) (x6 : DV) (h0 : Hp) : aH :=
 some (x6, h0)
def oK (rec : RT) (n : Nat) (kk34 : cQ) (x1 x6 x7 : DV) (h0 : Hp) : aH :=
 bnd (aB 5 x1 h0) fun v1 h1 =>
 bnd (aD v1 h1) fun v2 h2 =>
 bnd (dB v2 h2) fun v3 h3 =>
 bnd (aF .lss x7 v3 h3) fun v4 h4 =>
 aU v4 (
 bnd (bY .add x6 (.s [59, 32]) h4) fun v5 h5 =>
 bnd (aB 5 x1 h5) fun v6 h6 =>
 bnd (aD v6 h6) fun v7 h7 =>
 bnd (aP 6 v7 x7 h7) fun v8 h8 =>
 bnd (aB 1 v8 h8) fun v9 h9 =>
 bnd (aD v9 h9) fun v10 h10 =>
 bnd (aB 5 x1 h10) fun v11 h11 =>
 bnd (aD v11 h11) fun v12 h12 =>
 bnd (aP 6 v12 x7 h12) fun v13 h13 =>
 bnd (aB 5 v13 h13) fun v14 h14 =>
 bnd (aD v14 h14) fun v15 h15 =>
 bnd (rec 93 [v10, v15] h15) fun v16 h16 =>
 bnd (bY .add v5 v16 h16) fun v17 h17 =>
 bnd (aF .add x7 (.i .i64 (Int.ofNat 1)) h17) fun v18 h18 =>
      kk34 x1 v17 v18 h18) (
      dX rec n x6 h4)
def jV (rec : RT) (n : Nat) (m : Nat) : cQ :=
 Nat.rec (motive := fun _ => cQ) (fun _ _ _ _ => none) (fun _ ih => oK rec n ih) m
def aSd (rec : RT) (n : Nat) : cQ := jV rec n n
def aDr (rec : RT) (n : Nat) (x1 x6 x7 : DV) (h0 : Hp) : aH :=
 aSd rec n x1 x6 x7 h0
def aFs (rec : RT) (n : Nat) (x1 x6 : DV) (h0 : Hp) : aH :=
 aDr rec n x1 x6 (.i .i64 (Int.ofNat 2)) h0
def aKg (rec : RT) (n : Nat) (x1 x5 : DV) (h0 : Hp) : aH :=
 bnd (aB 5 x1 h0) fun v1 h1 =>
 bnd (aD v1 h1) fun v2 h2 =>
 bnd (aP 6 v2 (.i .i64 (Int.ofNat 1)) h2) fun v3 h3 =>
 bnd (aB 1 v3 h3) fun v4 h4 =>
 bnd (aD v4 h4) fun v5 h5 =>
 bnd (rec 92 [v5, x5] h5) fun v6 h6 =>
  aFs rec n x1 v6 h6
def aFh (rec : RT) (n : Nat) (x1 x5 : DV) (h0 : Hp) : aH :=
 bnd (aB 5 x1 h0) fun v1 h1 =>
 bnd (aD v1 h1) fun v2 h2 =>
 bnd (aP 6 v2 (.i .i64 (Int.ofNat 1)) h2) fun v3 h3 =>
 bnd (aB 5 v3 h3) fun v4 h4 =>
 bnd (aD v4 h4) fun v5 h5 =>
 bnd (aX 6 104 x5 v5 h5) fun v6 h6 =>
  aKg rec n x1 v6 h6
def aDz (rec : RT) (n : Nat) (x1 : DV) (h0 : Hp) : aH :=
 bnd (aB 5 x1 h0) fun v1 h1 =>
 bnd (aD v1 h1) fun v2 h2 =>
 bnd (aP 6 v2 (.i .i64 (Int.ofNat 0)) h2) fun v3 h3 =>
 bnd (aE 6 v3 h3) fun v4 h4 =>
 bnd (aO [(.i .i64 (Int.ofNat 0)), (.s []), (.i .i64 (Int.ofNat 0)), .l0, .l0, .l0] 1 [(0, 6, v4)] h4) fun v5 h5 =>
  aFh rec n x1 v5 h5
def aPx (rec : RT) (n : Nat) (x1 : DV) (h0 : Hp) : aH :=
 bnd (aB 5 x1 h0) fun v1 h1 =>
 bnd (aD v1 h1) fun v2 h2 =>
 bnd (dB v2 h2) fun v3 h3 =>
 bnd (aF .lss v3 (.i .i64 (Int.ofNat 2)) h3) fun v4 h4 =>
 aU v4 (
 some ((.s []), h4)) (
  aDz rec n x1 h4)
def aHv (rec : RT) (n : Nat) (x1 x8 : DV) (h0 : Hp) : aH :=
 bnd (aE 6 x1 h0) fun v1 h1 =>
 bnd (rec 23 [v1] h1) fun v2 h2 =>
 bnd (bY .add x8 v2 h2) fun v3 h3 =>
 bnd (bY .add v3 (.s [93]) h3) fun v4 h4 =>
 some (v4, h4)
def dP (rec : RT) (n : Nat) (x1 x8 : DV) (h0 : Hp) : aH :=
 bnd (aB 3 x1 h0) fun v1 h1 =>
 bnd (aD v1 h1) fun v2 h2 =>
 bnd (dB v2 h2) fun v3 h3 =>
 bnd (aF .gtr v3 (.i .i64 (Int.ofNat 0)) h3) fun v4 h4 =>
 aU v4 (
 bnd (bY .add x8 (.s [124, 32]) h4) fun v5 h5 =>
  aHv rec n x1 v5 h5) (
  aHv rec n x1 x8 h4)
def oQ (rec : RT) (n : Nat) (kk42 : cQ) (x1 x8 x9 : DV) (h0 : Hp) : aH :=
 bnd (aB 3 x1 h0) fun v1 h1 =>
 bnd (aD v1 h1) fun v2 h2 =>
 bnd (dB v2 h2) fun v3 h3 =>
 bnd (aF .lss x9 v3 h3) fun v4 h4 =>
 aU v4 (
 bnd (bY .add x8 (.s [58]) h4) fun v5 h5 =>
 bnd (aB 3 x1 h5) fun v6 h6 =>
 bnd (aD v6 h6) fun v7 h7 =>
 bnd (aP 1 v7 x9 h7) fun v8 h8 =>
 bnd (aD v8 h8) fun v9 h9 =>
 bnd (bY .add v5 v9 h9) fun v10 h10 =>
 bnd (bY .add v10 (.s [32]) h10) fun v11 h11 =>
 bnd (aF .add x9 (.i .i64 (Int.ofNat 1)) h11) fun v12 h12 =>
      kk42 x1 v11 v12 h12) (
      dP rec n x1 x8 h4)
def jW (rec : RT) (n : Nat) (m : Nat) : cQ :=
 Nat.rec (motive := fun _ => cQ) (fun _ _ _ _ => none) (fun _ ih => oQ rec n ih) m
def aQf (rec : RT) (n : Nat) : cQ := jW rec n n
def aIz (rec : RT) (n : Nat) (x1 x8 x9 : DV) (h0 : Hp) : aH :=
 aQf rec n x1 x8 x9 h0
def aEx (rec : RT) (n : Nat) (x1 x8 : DV) (h0 : Hp) : aH :=
 aIz rec n x1 x8 (.i .i64 (Int.ofNat 0)) h0
def aSc (rec : RT) (n : Nat) (x1 : DV) (h0 : Hp) : aH :=
 aEx rec n x1 (.s [91]) h0
def yN (rec : RT) (n : Nat) (x1 x126 : DV) (h0 : Hp) : aH :=
 aU x126 (
  aSc rec n x1 h0) (
  aI rec n x1 h0)
def aSj (rec : RT) (n : Nat) (x1 x11 : DV) (h0 : Hp) : aH :=
 bnd (aF .eql x11 (.i .i64 (Int.ofNat 9)) h0) fun v1 h1 =>
  yN rec n x1 v1 h1
def zZ (rec : RT) (n : Nat) (x1 x11 x77 : DV) (h0 : Hp) : aH :=
 aU x77 (
  aPx rec n x1 h0) (
  aSj rec n x1 x11 h0)
def aSb (rec : RT) (n : Nat) (x1 x11 : DV) (h0 : Hp) : aH :=
 bnd (aF .eql x11 (.i .i64 (Int.ofNat 8)) h0) fun v1 h1 =>
  zZ rec n x1 x11 v1 h1
def yS (rec : RT) (n : Nat) (x1 x11 x70 : DV) (h0 : Hp) : aH :=
 aU x70 (
 bnd (aB 1 x1 h0) fun v1 h1 =>
 bnd (aD v1 h1) fun v2 h2 =>
 bnd (aB 5 x1 h2) fun v3 h3 =>
 bnd (aD v3 h3) fun v4 h4 =>
 bnd (rec 92 [v2, v4] h4) fun v5 h5 =>
 some (v5, h5)) (
  aSb rec n x1 x11 h0)
def aQh (rec : RT) (n : Nat) (x1 x11 : DV) (h0 : Hp) : aH :=
 bnd (aF .eql x11 (.i .i64 (Int.ofNat 7)) h0) fun v1 h1 =>
  yS rec n x1 x11 v1 h1
def aBh (rec : RT) (n : Nat) (x1 x11 x64 : DV) (h0 : Hp) : aH :=
 aU x64 (
 bnd (aB 5 x1 h0) fun v1 h1 =>
 bnd (aD v1 h1) fun v2 h2 =>
 bnd (rec 38 [v2, (.s [])] h2) fun v3 h3 =>
 bnd (bY .add (.s [94]) v3 h3) fun v4 h4 =>
 some (v4, h4)) (
  aQh rec n x1 x11 h0)
def aRi (rec : RT) (n : Nat) (x1 x11 : DV) (h0 : Hp) : aH :=
 bnd (aF .eql x11 (.i .i64 (Int.ofNat 10)) h0) fun v1 h1 =>
  aBh rec n x1 x11 v1 h1
def aAm (rec : RT) (n : Nat) (x1 x11 x55 : DV) (h0 : Hp) : aH :=
 aU x55 (
 bnd (aB 1 x1 h0) fun v1 h1 =>
 bnd (aD v1 h1) fun v2 h2 =>
 bnd (bY .add v2 (.s [32, 58, 61, 32]) h2) fun v3 h3 =>
 bnd (aB 5 x1 h3) fun v4 h4 =>
 bnd (aD v4 h4) fun v5 h5 =>
 bnd (rec 38 [v5, (.s [])] h5) fun v6 h6 =>
 cnd (bP (aD v1 h6) v2 && true) (
 bnd (bY .add v3 v6 h6) fun v7 h7 =>
 some (v7, h7))) (
  aRi rec n x1 x11 h0)
def aQt (rec : RT) (n : Nat) (x1 x11 : DV) (h0 : Hp) : aH :=
 bnd (aF .eql x11 (.i .i64 (Int.ofNat 6)) h0) fun v1 h1 =>
  aAm rec n x1 x11 v1 h1
def aAf (rec : RT) (n : Nat) (x1 x11 x48 : DV) (h0 : Hp) : aH :=
 aU x48 (
 bnd (aB 5 x1 h0) fun v1 h1 =>
 bnd (aD v1 h1) fun v2 h2 =>
 bnd (rec 38 [v2, (.s [32])] h2) fun v3 h3 =>
 bnd (bY .add (.s [35, 40]) v3 h3) fun v4 h4 =>
 bnd (bY .add v4 (.s [41]) h4) fun v5 h5 =>
 some (v5, h5)) (
  aQt rec n x1 x11 h0)
def aRh (rec : RT) (n : Nat) (x1 x11 : DV) (h0 : Hp) : aH :=
 bnd (aF .eql x11 (.i .i64 (Int.ofNat 4)) h0) fun v1 h1 =>
  aAf rec n x1 x11 v1 h1
def zH (rec : RT) (n : Nat) (x1 x11 x43 : DV) (h0 : Hp) : aH :=
 aU x43 (
 bnd (aB 1 x1 h0) fun v1 h1 =>
 bnd (aD v1 h1) fun v2 h2 =>
 bnd (bY .add (.s [35]) v2 h2) fun v3 h3 =>
 some (v3, h3)) (
  aRh rec n x1 x11 h0)
def aPw (rec : RT) (n : Nat) (x1 x11 : DV) (h0 : Hp) : aH :=
 bnd (aF .eql x11 (.i .i64 (Int.ofNat 3)) h0) fun v1 h1 =>
  zH rec n x1 x11 v1 h1
def aMz (rec : RT) (n : Nat) (x1 x11 x17 : DV) (h0 : Hp) : aH :=
 aU x17 (
  bQe rec n x1 h0) (
  aPw rec n x1 x11 h0)
def bVv (rec : RT) (n : Nat) (x1 x11 : DV) (h0 : Hp) : aH :=
 bnd (aF .eql x11 (.i .i64 (Int.ofNat 2)) h0) fun v1 h1 =>
  aMz rec n x1 x11 v1 h1
def aMx (rec : RT) (n : Nat) (x1 x11 x12 : DV) (h0 : Hp) : aH :=
 aU x12 (
 bnd (aB 2 x1 h0) fun v1 h1 =>
 bnd (aD v1 h1) fun v2 h2 =>
 bnd (rec 42 [v2] h2) fun v3 h3 =>
 some (v3, h3)) (
  bVv rec n x1 x11 h0)
def aTn (rec : RT) (n : Nat) (x1 x11 : DV) (h0 : Hp) : aH :=
 bnd (aF .eql x11 (.i .i64 (Int.ofNat 1)) h0) fun v1 h1 =>
  aMx rec n x1 x11 v1 h1
def aZa (rec : RT) (n : Nat) (x1 : DV) (h0 : Hp) : aH :=
 bnd (aB 0 x1 h0) fun v1 h1 =>
 bnd (aD v1 h1) fun v2 h2 =>
  aTn rec n x1 v2 h2
def s65 (rec : RT) (n : Nat) (x0 : DV) (h0 : Hp) : aH :=
 bnd (dW x0 h0) fun v1 h1 =>
  aZa rec n v1 h1
abbrev c65 : Code := cf Tryz.f65
abbrev bAi := cR c65
abbrev dJt := cR bAi
abbrev aOa := cL bAi
abbrev bYb := cR aOa
abbrev aYg := cL bYb
abbrev aOe := cR aYg
abbrev aOt := cR aOe
abbrev aLo := cR aOt
abbrev aMo := cL aLo
abbrev aFj := cR aMo
abbrev cXg := cR aFj
abbrev xR := cL aFj
abbrev aRl := cR xR
abbrev aGc := cL aRl
abbrev pS := cL aGc
abbrev bIk := cL xR
abbrev bWp := cL aMo
abbrev yL := cR aLo
abbrev aAr := cR yL
abbrev wQ := cR aAr
abbrev zG := cR wQ
abbrev aAc := cR zG
abbrev zR := cR aAc
abbrev aAn := cR zR
abbrev aAk := cR aAn
abbrev wY := cR aAk
abbrev aAo := cR wY
abbrev xL := cR aAo
abbrev xQ := cR xL
abbrev wZ := cL xQ
abbrev aEt := cR wZ
abbrev aKe := cR aEt
abbrev aEi := cR aKe
abbrev aFg := cR aEi
abbrev cTs := cR aFg
abbrev zJ := cL aFg
abbrev aQd := cR zJ
abbrev aIh := cL aQd
abbrev qH := cL aIh
abbrev bKx := cL zJ
abbrev bMt := cL aEi
abbrev bWj := cL aKe
abbrev bTt := cL aEt
abbrev bOd := cL wZ
abbrev aAx := cR xQ
abbrev yQ := cR aAx
abbrev zI := cL yQ
abbrev aJa := cR zI
abbrev dAp := cR aJa
abbrev zS := cL aJa
abbrev aRg := cR zS
abbrev aGe := cL aRg
abbrev qK := cL aGe
abbrev bNh := cL zS
abbrev bMa := cL zI
abbrev dBd := cR yQ
abbrev bGs := cL aAx
abbrev bMf := cL xL
abbrev cSp := cL aAo
abbrev bSu := cL wY
abbrev dCe := cL aAk
abbrev bNk := cL aAn
abbrev cYw := cL zR
abbrev bUr := cL aAc
abbrev dCz := cL zG
abbrev bLs := cL wQ
abbrev dBa := cL aAr
abbrev bMj := cL yL
abbrev bSz := cL aOt
abbrev cRs := cL aOe
abbrev bRg := cL aYg
abbrev bVs := cL aOa
abbrev bPw := cL c65
abbrev r65 : K := bD CF Tryz.f65
def D65 (rec : RT) (n : Nat) (c : Code) (X : Nat → K) (k : K) : K := aR CF rec 157 n c X r65 k
theorem dCk : D65 rec n dJt x0 r65 = (K1 (aI rec n) 1) := by kernel_rfl
theorem cZt : D65 rec n cXg (xs x0 0 (K1 (aI rec n) 1)) (K1 (aI rec n) 1) = (K1 (gN rec n) 3) := by kernel_rfl
theorem bUn (kk11 : cQ) : D65 rec n pS (xs (xs x0 0 (K1 (aI rec n) 1)) 1 (K1 (gN rec n) 3)) (K3 kk11 1 3 4) = (K3 (oU rec n kk11) 1 3 4) := by kernel_rfl
theorem bSv (m : Nat) : aG (fun kk => D65 rec n pS (xs (xs x0 0 (K1 (aI rec n) 1)) 1 (K1 (gN rec n) 3)) kk) m = (K3 (iR rec n m) 1 3 4) := by
 induction m with
 | zero => exact (by kernel_rfl : aG (fun kk => D65 rec n pS (xs (xs x0 0 (K1 (aI rec n) 1)) 1 (K1 (gN rec n) 3)) kk) 0 = (K3 (iR rec n 0) 1 3 4))
 | succ m ih =>
  refine (by kernel_rfl : aG (fun kk => D65 rec n pS (xs (xs x0 0 (K1 (aI rec n) 1)) 1 (K1 (gN rec n) 3)) kk) (m + 1) = D65 rec n pS (xs (xs x0 0 (K1 (aI rec n) 1)) 1 (K1 (gN rec n) 3)) (aG (fun kk => D65 rec n pS (xs (xs x0 0 (K1 (aI rec n) 1)) 1 (K1 (gN rec n) 3)) kk) m)).trans ?_
  rw [ih]
  exact (bUn rec n (iR rec n m)).trans (by kernel_rfl)
theorem cEd : D65 rec n aGc (xs (xs x0 0 (K1 (aI rec n) 1)) 1 (K1 (gN rec n) 3)) (K1 (gN rec n) 3) = (K3 (aQg rec n) 1 3 4) :=
 (by kernel_rfl : D65 rec n aGc (xs (xs x0 0 (K1 (aI rec n) 1)) 1 (K1 (gN rec n) 3)) (K1 (gN rec n) 3) = aG (fun kk => D65 rec n pS (xs (xs x0 0 (K1 (aI rec n) 1)) 1 (K1 (gN rec n) 3)) kk) n).trans ((bSv rec n n).trans (by kernel_rfl))
theorem bZw : D65 rec n aRl (xs x0 0 (K1 (aI rec n) 1)) (K1 (gN rec n) 3) = (K3 (aKj rec n) 1 3 4) :=
 (by kernel_rfl : D65 rec n aRl (xs x0 0 (K1 (aI rec n) 1)) (K1 (gN rec n) 3) = D65 rec n aGc (xs (xs x0 0 (K1 (aI rec n) 1)) 1 (K1 (gN rec n) 3)) (K1 (gN rec n) 3)).trans
 ((cEd rec n).trans (by kernel_rfl))
theorem cLv : D65 rec n aFj (xs x0 0 (K1 (aI rec n) 1)) (K1 (aI rec n) 1) = D65 rec n xR (xs x0 0 (K1 (aI rec n) 1)) (K1 (gN rec n) 3) :=
 congrArg (fun k => D65 rec n xR (xs x0 0 (K1 (aI rec n) 1)) k) (cZt rec n)
theorem cNi : D65 rec n xR (xs x0 0 (K1 (aI rec n) 1)) (K1 (gN rec n) 3) = D65 rec n bIk (xs x0 0 (K1 (aI rec n) 1)) (K3 (aKj rec n) 1 3 4) :=
 congrArg (fun k => D65 rec n bIk (xs x0 0 (K1 (aI rec n) 1)) k) (bZw rec n)
theorem dAm : D65 rec n aFj (xs x0 0 (K1 (aI rec n) 1)) (K1 (aI rec n) 1) = (K2 (aVv rec n) 1 3) :=
 (cLv rec n).trans
 ((cNi rec n).trans
 ((by kernel_rfl)))
theorem cEn : D65 rec n aMo (xs x0 0 (K1 (aI rec n) 1)) (K1 (aI rec n) 1) = D65 rec n bWp (xs x0 0 (K1 (aI rec n) 1)) (K2 (aVv rec n) 1 3) :=
 congrArg (fun k => D65 rec n bWp (xs x0 0 (K1 (aI rec n) 1)) k) (dAm rec n)
theorem cZf : D65 rec n aMo (xs x0 0 (K1 (aI rec n) 1)) (K1 (aI rec n) 1) = (K1 (bQe rec n) 1) :=
 (cEn rec n).trans
 ((by kernel_rfl))
theorem cEp : D65 rec n cTs (xs x0 0 (K1 (aI rec n) 1)) (K1 (aI rec n) 1) = (K1 (dX rec n) 6) := by kernel_rfl
theorem bVr (kk34 : cQ) : D65 rec n qH (xs (xs x0 0 (K1 (aI rec n) 1)) 3 (K1 (dX rec n) 6)) (K3 kk34 1 6 7) = (K3 (oK rec n kk34) 1 6 7) := by kernel_rfl
theorem bQm (m : Nat) : aG (fun kk => D65 rec n qH (xs (xs x0 0 (K1 (aI rec n) 1)) 3 (K1 (dX rec n) 6)) kk) m = (K3 (jV rec n m) 1 6 7) := by
 induction m with
 | zero => exact (by kernel_rfl : aG (fun kk => D65 rec n qH (xs (xs x0 0 (K1 (aI rec n) 1)) 3 (K1 (dX rec n) 6)) kk) 0 = (K3 (jV rec n 0) 1 6 7))
 | succ m ih =>
  refine (by kernel_rfl : aG (fun kk => D65 rec n qH (xs (xs x0 0 (K1 (aI rec n) 1)) 3 (K1 (dX rec n) 6)) kk) (m + 1) = D65 rec n qH (xs (xs x0 0 (K1 (aI rec n) 1)) 3 (K1 (dX rec n) 6)) (aG (fun kk => D65 rec n qH (xs (xs x0 0 (K1 (aI rec n) 1)) 3 (K1 (dX rec n) 6)) kk) m)).trans ?_
  rw [ih]
  exact (bVr rec n (jV rec n m)).trans (by kernel_rfl)
theorem cFk : D65 rec n aIh (xs (xs x0 0 (K1 (aI rec n) 1)) 3 (K1 (dX rec n) 6)) (K1 (dX rec n) 6) = (K3 (aSd rec n) 1 6 7) :=
 (by kernel_rfl : D65 rec n aIh (xs (xs x0 0 (K1 (aI rec n) 1)) 3 (K1 (dX rec n) 6)) (K1 (dX rec n) 6) = aG (fun kk => D65 rec n qH (xs (xs x0 0 (K1 (aI rec n) 1)) 3 (K1 (dX rec n) 6)) kk) n).trans ((bQm rec n n).trans (by kernel_rfl))
theorem cIx : D65 rec n aQd (xs x0 0 (K1 (aI rec n) 1)) (K1 (dX rec n) 6) = (K3 (aDr rec n) 1 6 7) :=
 (by kernel_rfl : D65 rec n aQd (xs x0 0 (K1 (aI rec n) 1)) (K1 (dX rec n) 6) = D65 rec n aIh (xs (xs x0 0 (K1 (aI rec n) 1)) 3 (K1 (dX rec n) 6)) (K1 (dX rec n) 6)).trans
 ((cFk rec n).trans (by kernel_rfl))
theorem bTs : D65 rec n aFg (xs x0 0 (K1 (aI rec n) 1)) (K1 (aI rec n) 1) = D65 rec n zJ (xs x0 0 (K1 (aI rec n) 1)) (K1 (dX rec n) 6) :=
 congrArg (fun k => D65 rec n zJ (xs x0 0 (K1 (aI rec n) 1)) k) (cEp rec n)
theorem bMo : D65 rec n zJ (xs x0 0 (K1 (aI rec n) 1)) (K1 (dX rec n) 6) = D65 rec n bKx (xs x0 0 (K1 (aI rec n) 1)) (K3 (aDr rec n) 1 6 7) :=
 congrArg (fun k => D65 rec n bKx (xs x0 0 (K1 (aI rec n) 1)) k) (cIx rec n)
theorem cBi : D65 rec n aFg (xs x0 0 (K1 (aI rec n) 1)) (K1 (aI rec n) 1) = (K2 (aFs rec n) 1 6) :=
 (bTs rec n).trans
 ((bMo rec n).trans
 ((by kernel_rfl)))
theorem bIx : D65 rec n aEi (xs x0 0 (K1 (aI rec n) 1)) (K1 (aI rec n) 1) = D65 rec n bMt (xs x0 0 (K1 (aI rec n) 1)) (K2 (aFs rec n) 1 6) :=
 congrArg (fun k => D65 rec n bMt (xs x0 0 (K1 (aI rec n) 1)) k) (cBi rec n)
theorem cKf : D65 rec n aEi (xs x0 0 (K1 (aI rec n) 1)) (K1 (aI rec n) 1) = (K2 (aKg rec n) 1 5) :=
 (bIx rec n).trans
 ((by kernel_rfl))
theorem bEo : D65 rec n aKe (xs x0 0 (K1 (aI rec n) 1)) (K1 (aI rec n) 1) = D65 rec n bWj (xs x0 0 (K1 (aI rec n) 1)) (K2 (aKg rec n) 1 5) :=
 congrArg (fun k => D65 rec n bWj (xs x0 0 (K1 (aI rec n) 1)) k) (cKf rec n)
theorem cAl : D65 rec n aKe (xs x0 0 (K1 (aI rec n) 1)) (K1 (aI rec n) 1) = (K2 (aFh rec n) 1 5) :=
 (bEo rec n).trans
 ((by kernel_rfl))
theorem bFu : D65 rec n aEt (xs x0 0 (K1 (aI rec n) 1)) (K1 (aI rec n) 1) = D65 rec n bTt (xs x0 0 (K1 (aI rec n) 1)) (K2 (aFh rec n) 1 5) :=
 congrArg (fun k => D65 rec n bTt (xs x0 0 (K1 (aI rec n) 1)) k) (cAl rec n)
theorem cEm : D65 rec n aEt (xs x0 0 (K1 (aI rec n) 1)) (K1 (aI rec n) 1) = (K1 (aDz rec n) 1) :=
 (bFu rec n).trans
 ((by kernel_rfl))
theorem bEz : D65 rec n wZ (xs x0 0 (K1 (aI rec n) 1)) (K1 (aI rec n) 1) = D65 rec n bOd (xs x0 0 (K1 (aI rec n) 1)) (K1 (aDz rec n) 1) :=
 congrArg (fun k => D65 rec n bOd (xs x0 0 (K1 (aI rec n) 1)) k) (cEm rec n)
theorem cLk : D65 rec n wZ (xs x0 0 (K1 (aI rec n) 1)) (K1 (aI rec n) 1) = (K1 (aPx rec n) 1) :=
 (bEz rec n).trans
 ((by kernel_rfl))
theorem cBr : D65 rec n dAp (xs x0 0 (K1 (aI rec n) 1)) (K1 (aI rec n) 1) = (K2 (dP rec n) 1 8) := by kernel_rfl
theorem bHc (kk42 : cQ) : D65 rec n qK (xs (xs x0 0 (K1 (aI rec n) 1)) 5 (K2 (dP rec n) 1 8)) (K3 kk42 1 8 9) = (K3 (oQ rec n kk42) 1 8 9) := by kernel_rfl
theorem bMm (m : Nat) : aG (fun kk => D65 rec n qK (xs (xs x0 0 (K1 (aI rec n) 1)) 5 (K2 (dP rec n) 1 8)) kk) m = (K3 (jW rec n m) 1 8 9) := by
 induction m with
 | zero => exact (by kernel_rfl : aG (fun kk => D65 rec n qK (xs (xs x0 0 (K1 (aI rec n) 1)) 5 (K2 (dP rec n) 1 8)) kk) 0 = (K3 (jW rec n 0) 1 8 9))
 | succ m ih =>
  refine (by kernel_rfl : aG (fun kk => D65 rec n qK (xs (xs x0 0 (K1 (aI rec n) 1)) 5 (K2 (dP rec n) 1 8)) kk) (m + 1) = D65 rec n qK (xs (xs x0 0 (K1 (aI rec n) 1)) 5 (K2 (dP rec n) 1 8)) (aG (fun kk => D65 rec n qK (xs (xs x0 0 (K1 (aI rec n) 1)) 5 (K2 (dP rec n) 1 8)) kk) m)).trans ?_
  rw [ih]
  exact (bHc rec n (jW rec n m)).trans (by kernel_rfl)
theorem bZj : D65 rec n aGe (xs (xs x0 0 (K1 (aI rec n) 1)) 5 (K2 (dP rec n) 1 8)) (K2 (dP rec n) 1 8) = (K3 (aQf rec n) 1 8 9) :=
 (by kernel_rfl : D65 rec n aGe (xs (xs x0 0 (K1 (aI rec n) 1)) 5 (K2 (dP rec n) 1 8)) (K2 (dP rec n) 1 8) = aG (fun kk => D65 rec n qK (xs (xs x0 0 (K1 (aI rec n) 1)) 5 (K2 (dP rec n) 1 8)) kk) n).trans ((bMm rec n n).trans (by kernel_rfl))
theorem cAf : D65 rec n aRg (xs x0 0 (K1 (aI rec n) 1)) (K2 (dP rec n) 1 8) = (K3 (aIz rec n) 1 8 9) :=
 (by kernel_rfl : D65 rec n aRg (xs x0 0 (K1 (aI rec n) 1)) (K2 (dP rec n) 1 8) = D65 rec n aGe (xs (xs x0 0 (K1 (aI rec n) 1)) 5 (K2 (dP rec n) 1 8)) (K2 (dP rec n) 1 8)).trans
 ((bZj rec n).trans (by kernel_rfl))
theorem bEp : D65 rec n aJa (xs x0 0 (K1 (aI rec n) 1)) (K1 (aI rec n) 1) = D65 rec n zS (xs x0 0 (K1 (aI rec n) 1)) (K2 (dP rec n) 1 8) :=
 congrArg (fun k => D65 rec n zS (xs x0 0 (K1 (aI rec n) 1)) k) (cBr rec n)
theorem bEg : D65 rec n zS (xs x0 0 (K1 (aI rec n) 1)) (K2 (dP rec n) 1 8) = D65 rec n bNh (xs x0 0 (K1 (aI rec n) 1)) (K3 (aIz rec n) 1 8 9) :=
 congrArg (fun k => D65 rec n bNh (xs x0 0 (K1 (aI rec n) 1)) k) (cAf rec n)
theorem cCz : D65 rec n aJa (xs x0 0 (K1 (aI rec n) 1)) (K1 (aI rec n) 1) = (K2 (aEx rec n) 1 8) :=
 (bEp rec n).trans
 ((bEg rec n).trans
 ((by kernel_rfl)))
theorem bGh : D65 rec n zI (xs x0 0 (K1 (aI rec n) 1)) (K1 (aI rec n) 1) = D65 rec n bMa (xs x0 0 (K1 (aI rec n) 1)) (K2 (aEx rec n) 1 8) :=
 congrArg (fun k => D65 rec n bMa (xs x0 0 (K1 (aI rec n) 1)) k) (cCz rec n)
theorem cDc : D65 rec n zI (xs x0 0 (K1 (aI rec n) 1)) (K1 (aI rec n) 1) = (K1 (aSc rec n) 1) :=
 (bGh rec n).trans
 ((by kernel_rfl))
theorem cFl : D65 rec n yQ (xs x0 0 (K1 (aI rec n) 1)) (K1 (aI rec n) 1) = (K2 (yN rec n) 1 126) :=
 (by kernel_rfl : D65 rec n yQ (xs x0 0 (K1 (aI rec n) 1)) (K1 (aI rec n) 1) = (fun (env : eE) (h : Hp) => aU (opr env (cC yQ)) (D65 rec n zI (xs x0 0 (K1 (aI rec n) 1)) (K1 (aI rec n) 1) env h) (D65 rec n dBd (xs x0 0 (K1 (aI rec n) 1)) (K1 (aI rec n) 1) env h))).trans (by rw [cDc rec n]; kernel_rfl)
theorem bGb : D65 rec n aAx (xs x0 0 (K1 (aI rec n) 1)) (K1 (aI rec n) 1) = D65 rec n bGs (xs x0 0 (K1 (aI rec n) 1)) (K2 (yN rec n) 1 126) :=
 congrArg (fun k => D65 rec n bGs (xs x0 0 (K1 (aI rec n) 1)) k) (cFl rec n)
theorem cCu : D65 rec n aAx (xs x0 0 (K1 (aI rec n) 1)) (K1 (aI rec n) 1) = (K2 (aSj rec n) 1 11) :=
 (bGb rec n).trans
 ((by kernel_rfl))
theorem cIh : D65 rec n xQ (xs x0 0 (K1 (aI rec n) 1)) (K1 (aI rec n) 1) = (K3 (zZ rec n) 1 11 77) :=
 (by kernel_rfl : D65 rec n xQ (xs x0 0 (K1 (aI rec n) 1)) (K1 (aI rec n) 1) = (fun (env : eE) (h : Hp) => aU (opr env (cC xQ)) (D65 rec n wZ (xs x0 0 (K1 (aI rec n) 1)) (K1 (aI rec n) 1) env h) (D65 rec n aAx (xs x0 0 (K1 (aI rec n) 1)) (K1 (aI rec n) 1) env h))).trans (by rw [cLk rec n, cCu rec n]; kernel_rfl)
theorem bEb : D65 rec n xL (xs x0 0 (K1 (aI rec n) 1)) (K1 (aI rec n) 1) = D65 rec n bMf (xs x0 0 (K1 (aI rec n) 1)) (K3 (zZ rec n) 1 11 77) :=
 congrArg (fun k => D65 rec n bMf (xs x0 0 (K1 (aI rec n) 1)) k) (cIh rec n)
theorem bZr : D65 rec n xL (xs x0 0 (K1 (aI rec n) 1)) (K1 (aI rec n) 1) = (K2 (aSb rec n) 1 11) :=
 (bEb rec n).trans
 ((by kernel_rfl))
theorem bZx : D65 rec n aAo (xs x0 0 (K1 (aI rec n) 1)) (K1 (aI rec n) 1) = (K3 (yS rec n) 1 11 70) :=
 (by kernel_rfl : D65 rec n aAo (xs x0 0 (K1 (aI rec n) 1)) (K1 (aI rec n) 1) = (fun (env : eE) (h : Hp) => aU (opr env (cC aAo)) (D65 rec n cSp (xs x0 0 (K1 (aI rec n) 1)) (K1 (aI rec n) 1) env h) (D65 rec n xL (xs x0 0 (K1 (aI rec n) 1)) (K1 (aI rec n) 1) env h))).trans (by rw [bZr rec n]; kernel_rfl)
theorem bFv : D65 rec n wY (xs x0 0 (K1 (aI rec n) 1)) (K1 (aI rec n) 1) = D65 rec n bSu (xs x0 0 (K1 (aI rec n) 1)) (K3 (yS rec n) 1 11 70) :=
 congrArg (fun k => D65 rec n bSu (xs x0 0 (K1 (aI rec n) 1)) k) (bZx rec n)
theorem cBj : D65 rec n wY (xs x0 0 (K1 (aI rec n) 1)) (K1 (aI rec n) 1) = (K2 (aQh rec n) 1 11) :=
 (bFv rec n).trans
 ((by kernel_rfl))
theorem cCv : D65 rec n aAk (xs x0 0 (K1 (aI rec n) 1)) (K1 (aI rec n) 1) = (K3 (aBh rec n) 1 11 64) :=
 (by kernel_rfl : D65 rec n aAk (xs x0 0 (K1 (aI rec n) 1)) (K1 (aI rec n) 1) = (fun (env : eE) (h : Hp) => aU (opr env (cC aAk)) (D65 rec n dCe (xs x0 0 (K1 (aI rec n) 1)) (K1 (aI rec n) 1) env h) (D65 rec n wY (xs x0 0 (K1 (aI rec n) 1)) (K1 (aI rec n) 1) env h))).trans (by rw [cBj rec n]; kernel_rfl)
theorem bEc : D65 rec n aAn (xs x0 0 (K1 (aI rec n) 1)) (K1 (aI rec n) 1) = D65 rec n bNk (xs x0 0 (K1 (aI rec n) 1)) (K3 (aBh rec n) 1 11 64) :=
 congrArg (fun k => D65 rec n bNk (xs x0 0 (K1 (aI rec n) 1)) k) (cCv rec n)
theorem cCd : D65 rec n aAn (xs x0 0 (K1 (aI rec n) 1)) (K1 (aI rec n) 1) = (K2 (aRi rec n) 1 11) :=
 (bEc rec n).trans
 ((by kernel_rfl))
theorem bYx : D65 rec n zR (xs x0 0 (K1 (aI rec n) 1)) (K1 (aI rec n) 1) = (K3 (aAm rec n) 1 11 55) :=
 (by kernel_rfl : D65 rec n zR (xs x0 0 (K1 (aI rec n) 1)) (K1 (aI rec n) 1) = (fun (env : eE) (h : Hp) => aU (opr env (cC zR)) (D65 rec n cYw (xs x0 0 (K1 (aI rec n) 1)) (K1 (aI rec n) 1) env h) (D65 rec n aAn (xs x0 0 (K1 (aI rec n) 1)) (K1 (aI rec n) 1) env h))).trans (by rw [cCd rec n]; kernel_rfl)
theorem bFj : D65 rec n aAc (xs x0 0 (K1 (aI rec n) 1)) (K1 (aI rec n) 1) = D65 rec n bUr (xs x0 0 (K1 (aI rec n) 1)) (K3 (aAm rec n) 1 11 55) :=
 congrArg (fun k => D65 rec n bUr (xs x0 0 (K1 (aI rec n) 1)) k) (bYx rec n)
theorem cDt : D65 rec n aAc (xs x0 0 (K1 (aI rec n) 1)) (K1 (aI rec n) 1) = (K2 (aQt rec n) 1 11) :=
 (bFj rec n).trans
 ((by kernel_rfl))
theorem cDa : D65 rec n zG (xs x0 0 (K1 (aI rec n) 1)) (K1 (aI rec n) 1) = (K3 (aAf rec n) 1 11 48) :=
 (by kernel_rfl : D65 rec n zG (xs x0 0 (K1 (aI rec n) 1)) (K1 (aI rec n) 1) = (fun (env : eE) (h : Hp) => aU (opr env (cC zG)) (D65 rec n dCz (xs x0 0 (K1 (aI rec n) 1)) (K1 (aI rec n) 1) env h) (D65 rec n aAc (xs x0 0 (K1 (aI rec n) 1)) (K1 (aI rec n) 1) env h))).trans (by rw [cDt rec n]; kernel_rfl)
theorem bEi : D65 rec n wQ (xs x0 0 (K1 (aI rec n) 1)) (K1 (aI rec n) 1) = D65 rec n bLs (xs x0 0 (K1 (aI rec n) 1)) (K3 (aAf rec n) 1 11 48) :=
 congrArg (fun k => D65 rec n bLs (xs x0 0 (K1 (aI rec n) 1)) k) (cDa rec n)
theorem cDr : D65 rec n wQ (xs x0 0 (K1 (aI rec n) 1)) (K1 (aI rec n) 1) = (K2 (aRh rec n) 1 11) :=
 (bEi rec n).trans
 ((by kernel_rfl))
theorem cFq : D65 rec n aAr (xs x0 0 (K1 (aI rec n) 1)) (K1 (aI rec n) 1) = (K3 (zH rec n) 1 11 43) :=
 (by kernel_rfl : D65 rec n aAr (xs x0 0 (K1 (aI rec n) 1)) (K1 (aI rec n) 1) = (fun (env : eE) (h : Hp) => aU (opr env (cC aAr)) (D65 rec n dBa (xs x0 0 (K1 (aI rec n) 1)) (K1 (aI rec n) 1) env h) (D65 rec n wQ (xs x0 0 (K1 (aI rec n) 1)) (K1 (aI rec n) 1) env h))).trans (by rw [cDr rec n]; kernel_rfl)
theorem bFp : D65 rec n yL (xs x0 0 (K1 (aI rec n) 1)) (K1 (aI rec n) 1) = D65 rec n bMj (xs x0 0 (K1 (aI rec n) 1)) (K3 (zH rec n) 1 11 43) :=
 congrArg (fun k => D65 rec n bMj (xs x0 0 (K1 (aI rec n) 1)) k) (cFq rec n)
theorem cCl : D65 rec n yL (xs x0 0 (K1 (aI rec n) 1)) (K1 (aI rec n) 1) = (K2 (aPw rec n) 1 11) :=
 (bFp rec n).trans
 ((by kernel_rfl))
theorem cZm : D65 rec n aLo (xs x0 0 (K1 (aI rec n) 1)) (K1 (aI rec n) 1) = (K3 (aMz rec n) 1 11 17) :=
 (by kernel_rfl : D65 rec n aLo (xs x0 0 (K1 (aI rec n) 1)) (K1 (aI rec n) 1) = (fun (env : eE) (h : Hp) => aU (opr env (cC aLo)) (D65 rec n aMo (xs x0 0 (K1 (aI rec n) 1)) (K1 (aI rec n) 1) env h) (D65 rec n yL (xs x0 0 (K1 (aI rec n) 1)) (K1 (aI rec n) 1) env h))).trans (by rw [cZf rec n, cCl rec n]; kernel_rfl)
theorem bUk : D65 rec n aOt (xs x0 0 (K1 (aI rec n) 1)) (K1 (aI rec n) 1) = D65 rec n bSz (xs x0 0 (K1 (aI rec n) 1)) (K3 (aMz rec n) 1 11 17) :=
 congrArg (fun k => D65 rec n bSz (xs x0 0 (K1 (aI rec n) 1)) k) (cZm rec n)
theorem cRz : D65 rec n aOt (xs x0 0 (K1 (aI rec n) 1)) (K1 (aI rec n) 1) = (K2 (bVv rec n) 1 11) :=
 (bUk rec n).trans
 ((by kernel_rfl))
theorem cXv : D65 rec n aOe (xs x0 0 (K1 (aI rec n) 1)) (K1 (aI rec n) 1) = (K3 (aMx rec n) 1 11 12) :=
 (by kernel_rfl : D65 rec n aOe (xs x0 0 (K1 (aI rec n) 1)) (K1 (aI rec n) 1) = (fun (env : eE) (h : Hp) => aU (opr env (cC aOe)) (D65 rec n cRs (xs x0 0 (K1 (aI rec n) 1)) (K1 (aI rec n) 1) env h) (D65 rec n aOt (xs x0 0 (K1 (aI rec n) 1)) (K1 (aI rec n) 1) env h))).trans (by rw [cRz rec n]; kernel_rfl)
theorem bKf : D65 rec n aYg (xs x0 0 (K1 (aI rec n) 1)) (K1 (aI rec n) 1) = D65 rec n bRg (xs x0 0 (K1 (aI rec n) 1)) (K3 (aMx rec n) 1 11 12) :=
 congrArg (fun k => D65 rec n bRg (xs x0 0 (K1 (aI rec n) 1)) k) (cXv rec n)
theorem cYt : D65 rec n bYb x0 (K1 (aI rec n) 1) = (K2 (aTn rec n) 1 11) :=
 (by kernel_rfl : D65 rec n bYb x0 (K1 (aI rec n) 1) = D65 rec n aYg (xs x0 0 (K1 (aI rec n) 1)) (K1 (aI rec n) 1)).trans
 ((bKf rec n).trans
 ((by kernel_rfl)))
theorem bRm : D65 rec n bAi x0 r65 = D65 rec n aOa x0 (K1 (aI rec n) 1) :=
 congrArg (fun k => D65 rec n aOa x0 k) (dCk rec n)
theorem bSt : D65 rec n aOa x0 (K1 (aI rec n) 1) = D65 rec n bVs x0 (K2 (aTn rec n) 1 11) :=
 congrArg (fun k => D65 rec n bVs x0 k) (cYt rec n)
theorem dCj : D65 rec n bAi x0 r65 = (K1 (aZa rec n) 1) :=
 (bRm rec n).trans
 ((bSt rec n).trans
 ((by kernel_rfl)))
theorem dDp : D65 rec n c65 x0 r65 = D65 rec n bPw x0 (K1 (aZa rec n) 1) :=
 congrArg (fun k => D65 rec n bPw x0 k) (dCj rec n)
theorem dOz : D65 rec n c65 x0 r65 = (K1 (s65 rec n) 0) :=
 (dDp rec n).trans
 ((by kernel_rfl))
theorem dHi (args : List DV) (h : Hp) : aL CF rec n 65 args h = s65 rec n (args.getD 0 aA) h :=
 cZ (dOz rec n) args h (by kernel_rfl) (by kernel_rfl)
def bO (rec : RT) (n : Nat) (x1 : DV) (h0 : Hp) : aH :=
 some (.t [x1, (.b false)], h0)
def hO (rec : RT) (n : Nat) (kk3 : dE) (x0 x1 x6 : DV) (h0 : Hp) : aH :=
 bnd (cS x0 h0) fun v1 h1 =>
 bnd (aF .eql x6 v1 h1) fun v2 h2 =>
 aU v2 (
 some (.t [x1, (.b true)], h2)) (
 bnd (aF .add x6 (.i .i64 (Int.ofNat 1)) h2) fun v3 h3 =>
  kk3 x0 v3 h3)
def uH (rec : RT) (n : Nat) (kk3 : dE) (kk9 : cQ) (x0 x1 x6 : DV) (h0 : Hp) : aH :=
 bnd (cS x0 h0) fun v1 h1 =>
 bnd (aF .lss x6 v1 h1) fun v2 h2 =>
 bnd (gD v2 true (some (x0, h2)) h2) fun v3 h3 =>
 bnd (gD v2 true (some (x6, h3)) h3) fun v4 h4 =>
 bnd (gD v2 true (bF v3 v4 h4) h4) fun v5 h5 =>
 bnd (gD v2 true (aF .neq v5 (.i .u8 (Int.ofNat 34)) h5) h5) fun v6 h6 =>
 bnd (aV v2 v6 (.b false) h6) fun v7 h7 =>
 aU v7 (
 bnd (aF .add x6 (.i .i64 (Int.ofNat 1)) h7) fun v8 h8 =>
      kk9 x0 x1 v8 h8) (
      hO rec n kk3 x0 x1 x6 h7)
def mY (rec : RT) (n : Nat) (kk3 : dE) (m : Nat) : cQ :=
 Nat.rec (motive := fun _ => cQ) (fun _ _ _ _ => none) (fun _ ih => uH rec n kk3 ih) m
def aXt (rec : RT) (n : Nat) (kk3 : dE) : cQ := mY rec n kk3 n
def aOw (rec : RT) (n : Nat) (kk3 : dE) (x0 x1 x6 : DV) (h0 : Hp) : aH :=
 aXt rec n kk3 x0 x1 x6 h0
def aNo (rec : RT) (n : Nat) (kk3 : dE) (x0 x1 : DV) (h0 : Hp) : aH :=
 bnd (aF .add x1 (.i .i64 (Int.ofNat 1)) h0) fun v1 h1 =>
  aOw rec n kk3 x0 x1 v1 h1
def aDm (rec : RT) (n : Nat) (kk3 : dE) (x0 x1 : DV) (h0 : Hp) : aH :=
 bnd (bF x0 x1 h0) fun v1 h1 =>
 bnd (aF .neq v1 (.i .u8 (Int.ofNat 34)) h1) fun v2 h2 =>
 aU v2 (
  bO rec n x1 h2) (
  aNo rec n kk3 x0 x1 h2)
def aAa (rec : RT) (n : Nat) (kk3 : dE) (x0 x1 : DV) (h0 : Hp) : aH :=
 bnd (bF x0 x1 h0) fun v1 h1 =>
 bnd (rec 94 [v1] h1) fun v2 h2 =>
 bnd (aF .eql v2 (.i .i64 (Int.ofNat 5)) h2) fun v3 h3 =>
 aU v3 (
 bnd (aF .add x1 (.i .i64 (Int.ofNat 1)) h3) fun v4 h4 =>
  kk3 x0 v4 h4) (
  aDm rec n kk3 x0 x1 h3)
def jF (rec : RT) (n : Nat) (kk3 : dE) (x0 x1 : DV) (h0 : Hp) : aH :=
 bnd (cS x0 h0) fun v1 h1 =>
 bnd (aF .lss x1 v1 h1) fun v2 h2 =>
 aU v2 (
  aAa rec n kk3 x0 x1 h2) (
  bO rec n x1 h2)
def fF (rec : RT) (n : Nat) (m : Nat) : dE :=
 Nat.rec (motive := fun _ => dE) (fun _ _ _ => none) (fun _ ih => jF rec n ih) m
def bUa (rec : RT) (n : Nat) : dE := fF rec n n
def bDp (rec : RT) (n : Nat) (x0 x1 : DV) (h0 : Hp) : aH :=
 bUa rec n x0 x1 h0
def s66 (rec : RT) (n : Nat) (x0 x1 : DV) (h0 : Hp) : aH :=
 bDp rec n x0 x1 h0
abbrev c66 : Code := cf Tryz.f66
abbrev aZk := cR c66
abbrev dKh := cR aZk
abbrev bAd := cL aZk
abbrev aVp := cL bAd
abbrev pF := cL aVp
abbrev bNa := cR pF
abbrev bDl := cL bNa
abbrev bDd := cR bDl
abbrev bCw := cR bDd
abbrev aFa := cR bCw
abbrev cRj := cR aFa
abbrev aFp := cL aFa
abbrev aEk := cL aFp
abbrev qG := cL aEk
abbrev bLk := cL bCw
abbrev bWu := cL bDd
abbrev bOx := cL bDl
abbrev bIm := cL pF
abbrev bLy := cL c66
abbrev r66 : K := bD CF Tryz.f66
def D66 (rec : RT) (n : Nat) (c : Code) (X : Nat → K) (k : K) : K := aR CF rec 44 n c X r66 k
theorem cSq : D66 rec n dKh x0 r66 = (K1 (bO rec n) 1) := by kernel_rfl
theorem cXy (kk3 : dE) : D66 rec n cRj (xs (xs x0 0 (K1 (bO rec n) 1)) 1 (K2 kk3 0 1)) (K2 kk3 0 1) = (K3 (hO rec n kk3) 0 1 6) := by kernel_rfl
theorem cEy (kk3 : dE) (kk9 : cQ) : D66 rec n qG (xs (xs (xs x0 0 (K1 (bO rec n) 1)) 1 (K2 kk3 0 1)) 2 (K3 (hO rec n kk3) 0 1 6)) (K3 kk9 0 1 6) = (K3 (uH rec n kk3 kk9) 0 1 6) := by kernel_rfl
theorem cIy (kk3 : dE) (m : Nat) : aG (fun kk => D66 rec n qG (xs (xs (xs x0 0 (K1 (bO rec n) 1)) 1 (K2 kk3 0 1)) 2 (K3 (hO rec n kk3) 0 1 6)) kk) m = (K3 (mY rec n kk3 m) 0 1 6) := by
 induction m with
 | zero => exact (by kernel_rfl : aG (fun kk => D66 rec n qG (xs (xs (xs x0 0 (K1 (bO rec n) 1)) 1 (K2 kk3 0 1)) 2 (K3 (hO rec n kk3) 0 1 6)) kk) 0 = (K3 (mY rec n kk3 0) 0 1 6))
 | succ m ih =>
  refine (by kernel_rfl : aG (fun kk => D66 rec n qG (xs (xs (xs x0 0 (K1 (bO rec n) 1)) 1 (K2 kk3 0 1)) 2 (K3 (hO rec n kk3) 0 1 6)) kk) (m + 1) = D66 rec n qG (xs (xs (xs x0 0 (K1 (bO rec n) 1)) 1 (K2 kk3 0 1)) 2 (K3 (hO rec n kk3) 0 1 6)) (aG (fun kk => D66 rec n qG (xs (xs (xs x0 0 (K1 (bO rec n) 1)) 1 (K2 kk3 0 1)) 2 (K3 (hO rec n kk3) 0 1 6)) kk) m)).trans ?_
  rw [ih]
  exact (cEy rec n kk3 (mY rec n kk3 m)).trans (by kernel_rfl)
theorem dDi (kk3 : dE) : D66 rec n aEk (xs (xs (xs x0 0 (K1 (bO rec n) 1)) 1 (K2 kk3 0 1)) 2 (K3 (hO rec n kk3) 0 1 6)) (K3 (hO rec n kk3) 0 1 6) = (K3 (aXt rec n kk3) 0 1 6) :=
 (by kernel_rfl : D66 rec n aEk (xs (xs (xs x0 0 (K1 (bO rec n) 1)) 1 (K2 kk3 0 1)) 2 (K3 (hO rec n kk3) 0 1 6)) (K3 (hO rec n kk3) 0 1 6) = aG (fun kk => D66 rec n qG (xs (xs (xs x0 0 (K1 (bO rec n) 1)) 1 (K2 kk3 0 1)) 2 (K3 (hO rec n kk3) 0 1 6)) kk) n).trans ((cIy rec n kk3 n).trans (by kernel_rfl))
theorem cKs (kk3 : dE) : D66 rec n aFa (xs (xs x0 0 (K1 (bO rec n) 1)) 1 (K2 kk3 0 1)) (K2 kk3 0 1) = D66 rec n aFp (xs (xs x0 0 (K1 (bO rec n) 1)) 1 (K2 kk3 0 1)) (K3 (hO rec n kk3) 0 1 6) :=
 congrArg (fun k => D66 rec n aFp (xs (xs x0 0 (K1 (bO rec n) 1)) 1 (K2 kk3 0 1)) k) (cXy rec n kk3)
theorem dCa (kk3 : dE) : D66 rec n aFa (xs (xs x0 0 (K1 (bO rec n) 1)) 1 (K2 kk3 0 1)) (K2 kk3 0 1) = (K3 (aOw rec n kk3) 0 1 6) :=
 (cKs rec n kk3).trans
 ((by kernel_rfl : D66 rec n aFp (xs (xs x0 0 (K1 (bO rec n) 1)) 1 (K2 kk3 0 1)) (K3 (hO rec n kk3) 0 1 6) = D66 rec n aEk (xs (xs (xs x0 0 (K1 (bO rec n) 1)) 1 (K2 kk3 0 1)) 2 (K3 (hO rec n kk3) 0 1 6)) (K3 (hO rec n kk3) 0 1 6)).trans
 ((dDi rec n kk3).trans (by kernel_rfl)))
theorem cJd (kk3 : dE) : D66 rec n bCw (xs (xs x0 0 (K1 (bO rec n) 1)) 1 (K2 kk3 0 1)) (K2 kk3 0 1) = D66 rec n bLk (xs (xs x0 0 (K1 (bO rec n) 1)) 1 (K2 kk3 0 1)) (K3 (aOw rec n kk3) 0 1 6) :=
 congrArg (fun k => D66 rec n bLk (xs (xs x0 0 (K1 (bO rec n) 1)) 1 (K2 kk3 0 1)) k) (dCa rec n kk3)
theorem dAy (kk3 : dE) : D66 rec n bCw (xs (xs x0 0 (K1 (bO rec n) 1)) 1 (K2 kk3 0 1)) (K2 kk3 0 1) = (K2 (aNo rec n kk3) 0 1) :=
 (cJd rec n kk3).trans
 ((by kernel_rfl))
theorem cKw (kk3 : dE) : D66 rec n bDd (xs (xs x0 0 (K1 (bO rec n) 1)) 1 (K2 kk3 0 1)) (K2 kk3 0 1) = D66 rec n bWu (xs (xs x0 0 (K1 (bO rec n) 1)) 1 (K2 kk3 0 1)) (K2 (aNo rec n kk3) 0 1) :=
 congrArg (fun k => D66 rec n bWu (xs (xs x0 0 (K1 (bO rec n) 1)) 1 (K2 kk3 0 1)) k) (dAy rec n kk3)
theorem cWi (kk3 : dE) : D66 rec n bDd (xs (xs x0 0 (K1 (bO rec n) 1)) 1 (K2 kk3 0 1)) (K2 kk3 0 1) = (K2 (aDm rec n kk3) 0 1) :=
 (cKw rec n kk3).trans
 ((by kernel_rfl))
theorem cCr (kk3 : dE) : D66 rec n bDl (xs (xs x0 0 (K1 (bO rec n) 1)) 1 (K2 kk3 0 1)) (K2 kk3 0 1) = D66 rec n bOx (xs (xs x0 0 (K1 (bO rec n) 1)) 1 (K2 kk3 0 1)) (K2 (aDm rec n kk3) 0 1) :=
 congrArg (fun k => D66 rec n bOx (xs (xs x0 0 (K1 (bO rec n) 1)) 1 (K2 kk3 0 1)) k) (cWi rec n kk3)
theorem cZr (kk3 : dE) : D66 rec n bNa (xs x0 0 (K1 (bO rec n) 1)) (K2 kk3 0 1) = (K2 (aAa rec n kk3) 0 1) :=
 (by kernel_rfl : D66 rec n bNa (xs x0 0 (K1 (bO rec n) 1)) (K2 kk3 0 1) = D66 rec n bDl (xs (xs x0 0 (K1 (bO rec n) 1)) 1 (K2 kk3 0 1)) (K2 kk3 0 1)).trans
 ((cCr rec n kk3).trans
 ((by kernel_rfl)))
theorem bZy (kk3 : dE) : D66 rec n pF (xs x0 0 (K1 (bO rec n) 1)) (K2 kk3 0 1) = D66 rec n bIm (xs x0 0 (K1 (bO rec n) 1)) (K2 (aAa rec n kk3) 0 1) :=
 congrArg (fun k => D66 rec n bIm (xs x0 0 (K1 (bO rec n) 1)) k) (cZr rec n kk3)
theorem cLx (kk3 : dE) : D66 rec n pF (xs x0 0 (K1 (bO rec n) 1)) (K2 kk3 0 1) = (K2 (jF rec n kk3) 0 1) :=
 (bZy rec n kk3).trans
 ((by kernel_rfl))
theorem cBh (m : Nat) : aG (fun kk => D66 rec n pF (xs x0 0 (K1 (bO rec n) 1)) kk) m = (K2 (fF rec n m) 0 1) := by
 induction m with
 | zero => exact (by kernel_rfl : aG (fun kk => D66 rec n pF (xs x0 0 (K1 (bO rec n) 1)) kk) 0 = (K2 (fF rec n 0) 0 1))
 | succ m ih =>
  refine (by kernel_rfl : aG (fun kk => D66 rec n pF (xs x0 0 (K1 (bO rec n) 1)) kk) (m + 1) = D66 rec n pF (xs x0 0 (K1 (bO rec n) 1)) (aG (fun kk => D66 rec n pF (xs x0 0 (K1 (bO rec n) 1)) kk) m)).trans ?_
  rw [ih]
  exact (cLx rec n (fF rec n m)).trans (by kernel_rfl)
theorem cTi : D66 rec n aVp (xs x0 0 (K1 (bO rec n) 1)) (K1 (bO rec n) 1) = (K2 (bUa rec n) 0 1) :=
 (by kernel_rfl : D66 rec n aVp (xs x0 0 (K1 (bO rec n) 1)) (K1 (bO rec n) 1) = aG (fun kk => D66 rec n pF (xs x0 0 (K1 (bO rec n) 1)) kk) n).trans ((cBh rec n n).trans (by kernel_rfl))
theorem cGe : D66 rec n aZk x0 r66 = D66 rec n bAd x0 (K1 (bO rec n) 1) :=
 congrArg (fun k => D66 rec n bAd x0 k) (cSq rec n)
theorem dAz : D66 rec n aZk x0 r66 = (K2 (bDp rec n) 0 1) :=
 (cGe rec n).trans
 ((by kernel_rfl : D66 rec n bAd x0 (K1 (bO rec n) 1) = D66 rec n aVp (xs x0 0 (K1 (bO rec n) 1)) (K1 (bO rec n) 1)).trans
 ((cTi rec n).trans (by kernel_rfl)))
theorem dHs : D66 rec n c66 x0 r66 = D66 rec n bLy x0 (K2 (bDp rec n) 0 1) :=
 congrArg (fun k => D66 rec n bLy x0 k) (dAz rec n)
theorem dMq : D66 rec n c66 x0 r66 = (K2 (s66 rec n) 0 1) :=
 (dHs rec n).trans
 ((by kernel_rfl))
theorem dKw (args : List DV) (h : Hp) : aL CF rec n 66 args h = s66 rec n (args.getD 0 aA) (args.getD 1 aA) h :=
 cZ (dMq rec n) args h (by kernel_rfl) (by kernel_rfl)
def cPd (rec : RT) (n : Nat) (x0 x1 x4 x7 x8 : DV) (h0 : Hp) : aH :=
 bnd (aF .eql x8 (.i .i64 (Int.ofNat 4)) h0) fun v1 h1 =>
 aU v1 (
 bnd (aB 0 x7 h1) fun v2 h2 =>
 bnd (aC 1 v2 (.i .i64 (Int.ofNat 10)) h2) fun _ h3 =>
 bnd (aF .add x1 (.i .i64 (Int.ofNat 1)) h3) fun v4 h4 =>
 bnd (cP x0 (some x1) (some v4) h4) fun v5 h5 =>
 bnd (aB 1 x7 h5) fun v6 h6 =>
 bnd (aC 1 v6 v5 h6) fun _ h7 =>
 bnd (aE 4 x7 h7) fun v8 h8 =>
 bnd (aF .add x1 (.i .i64 (Int.ofNat 1)) h8) fun v9 h9 =>
 bnd (aC 4 x4 v8 h9) fun _ h10 =>
 bnd (aE 4 x4 h10) fun v11 _ =>
 some (.t [v11, v9, (.i .i64 (Int.ofNat 0))], h10)) (
 bnd (bF x0 x1 h1) fun v12 h12 =>
 bnd (aF .eql v12 (.i .u8 (Int.ofNat 39)) h12) fun v13 h13 =>
 aU v13 (
 bnd (aB 0 x7 h13) fun v14 h14 =>
 bnd (aC 1 v14 (.i .i64 (Int.ofNat 5)) h14) fun _ h15 =>
 bnd (aE 4 x7 h15) fun v16 h16 =>
 bnd (rec 98 [x0, v16] h16) fun v17 h17 =>
 bnd (aK 0 v17 h17) fun v18 h18 =>
 bnd (aK 1 v17 h18) fun v19 h19 =>
 bnd (aK 2 v17 h19) fun v20 h20 =>
 bnd (aC 4 x4 v18 h20) fun _ h21 =>
 bnd (aE 4 x4 h21) fun v22 _ =>
 some (.t [v22, v19, v20], h21)) (
 bnd (bF x0 x1 h13) fun v23 h23 =>
 bnd (aF .eql v23 (.i .u8 (Int.ofNat 35)) h23) fun v24 h24 =>
 aU v24 (
 bnd (aE 4 x7 h24) fun v25 h25 =>
 bnd (rec 99 [x0, v25] h25) fun v26 h26 =>
 bnd (aK 0 v26 h26) fun v27 h27 =>
 bnd (aK 1 v26 h27) fun v28 h28 =>
 bnd (aK 2 v26 h28) fun v29 h29 =>
 bnd (aC 4 x4 v27 h29) fun _ h30 =>
 bnd (aE 4 x4 h30) fun v31 _ =>
 some (.t [v31, v28, v29], h30)) (
 bnd (bF x0 x1 h24) fun v32 h32 =>
 bnd (aF .eql v32 (.i .u8 (Int.ofNat 58)) h32) fun v33 h33 =>
 bnd (gD v33 true (some (x1, h33)) h33) fun v34 h34 =>
 bnd (gD v33 true (aF .add v34 (.i .i64 (Int.ofNat 1)) h34) h34) fun v35 h35 =>
 bnd (gD v33 true (some (x0, h35)) h35) fun v36 h36 =>
 bnd (gD v33 true (cS v36 h36) h36) fun v37 h37 =>
 bnd (gD v33 true (aF .lss v35 v37 h37) h37) fun v38 h38 =>
 bnd (aV v33 v38 (.b false) h38) fun v39 h39 =>
 bnd (gD v39 true (some (x0, h39)) h39) fun v40 h40 =>
 bnd (gD v39 true (some (x1, h40)) h40) fun v41 h41 =>
 bnd (gD v39 true (aF .add v41 (.i .i64 (Int.ofNat 1)) h41) h41) fun v42 h42 =>
 bnd (gD v39 true (bF v40 v42 h42) h42) fun v43 h43 =>
 bnd (gD v39 true (aF .eql v43 (.i .u8 (Int.ofNat 61)) h43) h43) fun v44 h44 =>
 bnd (aV v39 v44 (.b false) h44) fun v45 h45 =>
 aU v45 (
 bnd (aB 0 x7 h45) fun v46 h46 =>
 bnd (aC 1 v46 (.i .i64 (Int.ofNat 9)) h46) fun _ h47 =>
 bnd (aE 4 x7 h47) fun v48 h48 =>
 bnd (aF .add x1 (.i .i64 (Int.ofNat 2)) h48) fun v49 h49 =>
 bnd (aC 4 x4 v48 h49) fun _ h50 =>
 bnd (aE 4 x4 h50) fun v51 _ =>
 some (.t [v51, v49, (.i .i64 (Int.ofNat 0))], h50)) (
 bnd (bF x0 x1 h45) fun v52 h52 =>
 bnd (aF .eql v52 (.i .u8 (Int.ofNat 58)) h52) fun v53 h53 =>
 bnd (gD v53 true (some (x0, h53)) h53) fun v54 h54 =>
 bnd (gD v53 true (some (x1, h54)) h54) fun v55 h55 =>
 bnd (gD v53 true (aF .add v55 (.i .i64 (Int.ofNat 1)) h55) h55) fun v56 h56 =>
 bnd (gD v53 true (rec 95 [v54, v56] h56) h56) fun v57 h57 =>
 bnd (gD v53 true (aF .eql v57 (.i .i64 (Int.ofNat 1)) h57) h57) fun v58 h58 =>
 bnd (aV v53 v58 (.b false) h58) fun v59 h59 =>
 aU v59 (
 bnd (aF .add x1 (.i .i64 (Int.ofNat 1)) h59) fun v60 h60 =>
 bnd (rec 96 [x0, v60] h60) fun v61 h61 =>
 bnd (aF .sub v61 x1 h61) fun v62 h62 =>
 bnd (aF .sub v62 (.i .i64 (Int.ofNat 1)) h62) fun v63 h63 =>
 bnd (aF .gtr v63 (.i .i64 (Int.ofNat 24)) h63) fun v64 h64 =>
 aU v64 (
 bnd (aE 4 x7 h64) fun v65 h65 =>
 bnd (aC 4 x4 v65 h65) fun _ h66 =>
 bnd (aE 4 x4 h66) fun v67 _ =>
 some (.t [v67, (.i .i64 (Int.ofNat 0)), (.i .i64 (Int.ofNat 12))], h66)) (
 bnd (aB 0 x7 h64) fun v68 h68 =>
 bnd (aC 1 v68 (.i .i64 (Int.ofNat 8)) h68) fun _ h69 =>
 bnd (aF .add x1 (.i .i64 (Int.ofNat 1)) h69) fun v70 h70 =>
 bnd (cP x0 (some v70) (some v61) h70) fun v71 h71 =>
 bnd (aB 1 x7 h71) fun v72 h72 =>
 bnd (aC 1 v72 v71 h72) fun _ h73 =>
 bnd (aE 4 x7 h73) fun v74 h74 =>
 bnd (aC 4 x4 v74 h74) fun _ h75 =>
 bnd (aE 4 x4 h75) fun v76 _ =>
 some (.t [v76, v61, (.i .i64 (Int.ofNat 0))], h75))) (
 bnd (aE 4 x7 h59) fun v77 h77 =>
 bnd (aC 4 x4 v77 h77) fun _ h78 =>
 bnd (aE 4 x4 h78) fun v79 _ =>
 some (.t [v79, (.i .i64 (Int.ofNat 0)), (.i .i64 (Int.ofNat 10))], h78))))))
def aIy (rec : RT) (n : Nat) (x0 x1 x4 x7 x11 : DV) (h0 : Hp) : aH :=
 bnd (cP x0 (some x1) (some x11) h0) fun v1 h1 =>
 bnd (aB 1 x7 h1) fun v2 h2 =>
 bnd (aC 1 v2 v1 h2) fun _ h3 =>
 bnd (aE 4 x7 h3) fun v4 h4 =>
 bnd (aC 4 x4 v4 h4) fun _ h5 =>
 bnd (aE 4 x4 h5) fun v6 _ =>
 some (.t [v6, x11, (.i .i64 (Int.ofNat 0))], h5)
def bVl (rec : RT) (n : Nat) (x0 x1 x4 x7 x11 : DV) (h0 : Hp) : aH :=
 bnd (rec 95 [x0, x11] h0) fun v1 h1 =>
 bnd (aF .eql v1 (.i .i64 (Int.ofNat 3)) h1) fun v2 h2 =>
 aU v2 (
 bnd (aF .add x11 (.i .i64 (Int.ofNat 1)) h2) fun v3 h3 =>
  aIy rec n x0 x1 x4 x7 v3 h3) (
  aIy rec n x0 x1 x4 x7 x11 h2)
def cOk (rec : RT) (n : Nat) (x0 x1 x4 x7 : DV) (h0 : Hp) : aH :=
 bnd (aF .add x1 (.i .i64 (Int.ofNat 1)) h0) fun v1 h1 =>
  bVl rec n x0 x1 x4 x7 v1 h1
def cPn (rec : RT) (n : Nat) (x0 x1 x4 x7 : DV) (h0 : Hp) : aH :=
 bnd (aB 0 x7 h0) fun v1 h1 =>
 bnd (aC 1 v1 (.i .i64 (Int.ofNat 3)) h1) fun _ h2 =>
  cOk rec n x0 x1 x4 x7 h2
def bPy (rec : RT) (n : Nat) (x0 x1 x4 x7 x8 x72 : DV) (h0 : Hp) : aH :=
 aU x72 (
  cPn rec n x0 x1 x4 x7 h0) (
  cPd rec n x0 x1 x4 x7 x8 h0)
def kT (rec : RT) (n : Nat) (x0 x1 x4 x7 x8 : DV) (h0 : Hp) : aH :=
 bnd (aF .eql x8 (.i .i64 (Int.ofNat 3)) h0) fun v1 h1 =>
  bPy rec n x0 x1 x4 x7 x8 v1 h1
def eI (rec : RT) (n : Nat) (x1 x4 x7 : DV) (h0 : Hp) : aH :=
 bnd (aE 4 x7 h0) fun v1 h1 =>
 bnd (aC 4 x4 v1 h1) fun _ h2 =>
 bnd (aE 4 x4 h2) fun v3 _ =>
 some (.t [v3, x1, (.i .i64 (Int.ofNat 0))], h2)
def pA (rec : RT) (n : Nat) (kk16 : iG) (x0 x1 x4 x7 : DV) (h0 : Hp) : aH :=
 bnd (rec 95 [x0, x1] h0) fun v1 h1 =>
 bnd (aF .eql v1 (.i .i64 (Int.ofNat 2)) h1) fun v2 h2 =>
 aU v2 (
 bnd (bF x0 x1 h2) fun v3 h3 =>
 bnd (aF .sub v3 (.i .u8 (Int.ofNat 48)) h3) fun v4 h4 =>
 bnd (kJ .i64 v4 h4) fun v5 h5 =>
 bnd (aB 2 x7 h5) fun v6 h6 =>
 bnd (aD v6 h6) fun v7 h7 =>
 bnd (aF .sub (.i .i64 (Int.ofNat 1152921504606846976)) v5 h7) fun v8 h8 =>
 bnd (aF .quo v8 (.i .i64 (Int.ofNat 10)) h8) fun v9 h9 =>
 bnd (aF .gtr v7 v9 h9) fun v10 h10 =>
 aU v10 (
 bnd (aE 4 x7 h10) fun v11 h11 =>
 bnd (aC 4 x4 v11 h11) fun _ h12 =>
 bnd (aE 4 x4 h12) fun v13 _ =>
 some (.t [v13, (.i .i64 (Int.ofNat 0)), (.i .i64 (Int.ofNat 2))], h12)) (
 bnd (aB 2 x7 h10) fun v14 h14 =>
 bnd (aD v14 h14) fun v15 h15 =>
 bnd (aF .mul (.i .i64 (Int.ofNat 10)) v15 h15) fun v16 h16 =>
 bnd (aF .add v16 v5 h16) fun v17 h17 =>
 bnd (aB 2 x7 h17) fun v18 h18 =>
 bnd (aC 1 v18 v17 h18) fun _ h19 =>
 bnd (aF .add x1 (.i .i64 (Int.ofNat 1)) h19) fun v20 h20 =>
  kk16 x0 v20 x4 x7 h20)) (
      eI rec n x1 x4 x7 h2)
def jK (rec : RT) (n : Nat) (m : Nat) : iG :=
 Nat.rec (motive := fun _ => iG) (fun _ _ _ _ _ => none) (fun _ ih => pA rec n ih) m
def aPo (rec : RT) (n : Nat) : iG := jK rec n n
def aDp (rec : RT) (n : Nat) (x0 x1 x4 x7 : DV) (h0 : Hp) : aH :=
 aPo rec n x0 x1 x4 x7 h0
def aRj (rec : RT) (n : Nat) (x0 x1 x4 x7 : DV) (h0 : Hp) : aH :=
 bnd (aB 0 x7 h0) fun v1 h1 =>
 bnd (aC 1 v1 (.i .i64 (Int.ofNat 4)) h1) fun _ h2 =>
  aDp rec n x0 x1 x4 x7 h2
def zP (rec : RT) (n : Nat) (x0 x1 x4 x7 x8 x43 : DV) (h0 : Hp) : aH :=
 aU x43 (
  aRj rec n x0 x1 x4 x7 h0) (
  kT rec n x0 x1 x4 x7 x8 h0)
def aBw (rec : RT) (n : Nat) (x0 x1 x4 x7 x8 : DV) (h0 : Hp) : aH :=
 bnd (aF .eql x8 (.i .i64 (Int.ofNat 2)) h0) fun v1 h1 =>
  zP rec n x0 x1 x4 x7 x8 v1 h1
def aJm (rec : RT) (n : Nat) (x0 x1 x4 x7 x9 : DV) (h0 : Hp) : aH :=
 bnd (cP x0 (some x1) (some x9) h0) fun v1 h1 =>
 bnd (aB 1 x7 h1) fun v2 h2 =>
 bnd (aC 1 v2 v1 h2) fun _ h3 =>
 bnd (aE 4 x7 h3) fun v4 h4 =>
 bnd (aC 4 x4 v4 h4) fun _ h5 =>
 bnd (aE 4 x4 h5) fun v6 _ =>
 some (.t [v6, x9, (.i .i64 (Int.ofNat 0))], h5)
def bRa (rec : RT) (n : Nat) (x0 x1 x4 x7 x9 : DV) (h0 : Hp) : aH :=
 bnd (rec 97 [x0, x9] h0) fun v1 h1 =>
 aU v1 (
 bnd (aB 0 x7 h1) fun v2 h2 =>
 bnd (aC 1 v2 (.i .i64 (Int.ofNat 2)) h2) fun _ h3 =>
 bnd (aF .add x9 (.i .i64 (Int.ofNat 1)) h3) fun v4 h4 =>
  aJm rec n x0 x1 x4 x7 v4 h4) (
  aJm rec n x0 x1 x4 x7 x9 h1)
def bMh (rec : RT) (n : Nat) (x0 x1 x4 x7 x9 : DV) (h0 : Hp) : aH :=
 bnd (aB 0 x7 h0) fun v1 h1 =>
 bnd (aC 1 v1 (.i .i64 (Int.ofNat 1)) h1) fun _ h2 =>
  bRa rec n x0 x1 x4 x7 x9 h2
def bPc (rec : RT) (n : Nat) (x0 x1 x4 x7 x9 : DV) (h0 : Hp) : aH :=
 bnd (aF .sub x9 x1 h0) fun v1 h1 =>
 bnd (aF .gtr v1 (.i .i64 (Int.ofNat 24)) h1) fun v2 h2 =>
 aU v2 (
 bnd (aE 4 x7 h2) fun v3 h3 =>
 bnd (aC 4 x4 v3 h3) fun _ h4 =>
 bnd (aE 4 x4 h4) fun v5 _ =>
 some (.t [v5, (.i .i64 (Int.ofNat 0)), (.i .i64 (Int.ofNat 12))], h4)) (
  bMh rec n x0 x1 x4 x7 x9 h2)
def bRn (rec : RT) (n : Nat) (x0 x1 x4 x7 : DV) (h0 : Hp) : aH :=
 bnd (rec 96 [x0, x1] h0) fun v1 h1 =>
  bPc rec n x0 x1 x4 x7 v1 h1
def aAl (rec : RT) (n : Nat) (x0 x1 x4 x7 x8 x19 : DV) (h0 : Hp) : aH :=
 aU x19 (
  bRn rec n x0 x1 x4 x7 h0) (
  aBw rec n x0 x1 x4 x7 x8 h0)
def bDc (rec : RT) (n : Nat) (x0 x1 x4 x7 x8 : DV) (h0 : Hp) : aH :=
 bnd (aF .eql x8 (.i .i64 (Int.ofNat 1)) h0) fun v1 h1 =>
  aAl rec n x0 x1 x4 x7 x8 v1 h1
def bDm (rec : RT) (n : Nat) (x0 x1 x4 x7 : DV) (h0 : Hp) : aH :=
 bnd (rec 95 [x0, x1] h0) fun v1 h1 =>
  bDc rec n x0 x1 x4 x7 v1 h1
def aYz (rec : RT) (n : Nat) (x0 x1 x4 : DV) (h0 : Hp) : aH :=
 bnd (bB [(.i .i64 (Int.ofNat 0)), (.s []), (.i .i64 (Int.ofNat 0)), (.i .i64 (Int.ofNat 0))] [(3, 1, x1)] h0) fun v1 h1 =>
 bnd (bG [(.i .i64 (Int.ofNat 0)), (.s []), (.i .i64 (Int.ofNat 0)), (.i .i64 (Int.ofNat 0))] h1) fun v2 h2 =>
 bnd (aC 4 v2 v1 h2) fun _ h3 =>
  bDm rec n x0 x1 x4 v2 h3
def s67 (rec : RT) (n : Nat) (x0 x1 : DV) (h0 : Hp) : aH :=
 bnd (bG [(.i .i64 (Int.ofNat 0)), (.s []), (.i .i64 (Int.ofNat 0)), (.i .i64 (Int.ofNat 0))] h0) fun v1 h1 =>
  aYz rec n x0 x1 v1 h1
abbrev c67 : Code := cf Tryz.f67
abbrev bAa := cR c67
abbrev aWo := cR bAa
abbrev aTy := cR aWo
abbrev aTf := cR aTy
abbrev dGu := cR aTf
abbrev aAt := cL aTf
abbrev zQ := cR aAt
abbrev aAv := cL zQ
abbrev aHo := cR aAv
abbrev cQz := cR aHo
abbrev aJo := cL aHo
abbrev aIo := cL aJo
abbrev qE := cL aIo
abbrev bXg := cL aAv
abbrev cVu := cR zQ
abbrev bUw := cL aAt
abbrev yY := cL aTy
abbrev dCv := cR yY
abbrev bHp := cL yY
abbrev bNs := cL aWo
abbrev bLh := cL bAa
abbrev bTn := cL c67
abbrev r67 : K := bD CF Tryz.f67
def D67 (rec : RT) (n : Nat) (c : Code) (X : Nat → K) (k : K) : K := aR CF rec 175 n c X r67 k
theorem cSx : D67 rec n dGu x0 r67 = (K5 (kT rec n) 0 1 4 7 8) := by kernel_rfl
theorem cCe : D67 rec n cQz x0 (K5 (kT rec n) 0 1 4 7 8) = (K3 (eI rec n) 1 4 7) := by kernel_rfl
theorem bRd (kk16 : iG) : D67 rec n qE (xs x0 0 (K3 (eI rec n) 1 4 7)) (K4 kk16 0 1 4 7) = (K4 (pA rec n kk16) 0 1 4 7) := by kernel_rfl
theorem bNt (m : Nat) : aG (fun kk => D67 rec n qE (xs x0 0 (K3 (eI rec n) 1 4 7)) kk) m = (K4 (jK rec n m) 0 1 4 7) := by
 induction m with
 | zero => exact (by kernel_rfl : aG (fun kk => D67 rec n qE (xs x0 0 (K3 (eI rec n) 1 4 7)) kk) 0 = (K4 (jK rec n 0) 0 1 4 7))
 | succ m ih =>
  refine (by kernel_rfl : aG (fun kk => D67 rec n qE (xs x0 0 (K3 (eI rec n) 1 4 7)) kk) (m + 1) = D67 rec n qE (xs x0 0 (K3 (eI rec n) 1 4 7)) (aG (fun kk => D67 rec n qE (xs x0 0 (K3 (eI rec n) 1 4 7)) kk) m)).trans ?_
  rw [ih]
  exact (bRd rec n (jK rec n m)).trans (by kernel_rfl)
theorem cFi : D67 rec n aIo (xs x0 0 (K3 (eI rec n) 1 4 7)) (K3 (eI rec n) 1 4 7) = (K4 (aPo rec n) 0 1 4 7) :=
 (by kernel_rfl : D67 rec n aIo (xs x0 0 (K3 (eI rec n) 1 4 7)) (K3 (eI rec n) 1 4 7) = aG (fun kk => D67 rec n qE (xs x0 0 (K3 (eI rec n) 1 4 7)) kk) n).trans ((bNt rec n n).trans (by kernel_rfl))
theorem bGt : D67 rec n aHo x0 (K5 (kT rec n) 0 1 4 7 8) = D67 rec n aJo x0 (K3 (eI rec n) 1 4 7) :=
 congrArg (fun k => D67 rec n aJo x0 k) (cCe rec n)
theorem cGk : D67 rec n aHo x0 (K5 (kT rec n) 0 1 4 7 8) = (K4 (aDp rec n) 0 1 4 7) :=
 (bGt rec n).trans
 ((by kernel_rfl : D67 rec n aJo x0 (K3 (eI rec n) 1 4 7) = D67 rec n aIo (xs x0 0 (K3 (eI rec n) 1 4 7)) (K3 (eI rec n) 1 4 7)).trans
 ((cFi rec n).trans (by kernel_rfl)))
theorem bUd : D67 rec n aAv x0 (K5 (kT rec n) 0 1 4 7 8) = D67 rec n bXg x0 (K4 (aDp rec n) 0 1 4 7) :=
 congrArg (fun k => D67 rec n bXg x0 k) (cGk rec n)
theorem cKz : D67 rec n aAv x0 (K5 (kT rec n) 0 1 4 7 8) = (K4 (aRj rec n) 0 1 4 7) :=
 (bUd rec n).trans
 ((by kernel_rfl))
theorem cDj : D67 rec n zQ x0 (K5 (kT rec n) 0 1 4 7 8) = (K6 (zP rec n) 0 1 4 7 8 43) :=
 (by kernel_rfl : D67 rec n zQ x0 (K5 (kT rec n) 0 1 4 7 8) = (fun (env : eE) (h : Hp) => aU (opr env (cC zQ)) (D67 rec n aAv x0 (K5 (kT rec n) 0 1 4 7 8) env h) (D67 rec n cVu x0 (K5 (kT rec n) 0 1 4 7 8) env h))).trans (by rw [cKz rec n]; kernel_rfl)
theorem cGs : D67 rec n aTf x0 r67 = D67 rec n aAt x0 (K5 (kT rec n) 0 1 4 7 8) :=
 congrArg (fun k => D67 rec n aAt x0 k) (cSx rec n)
theorem cDm : D67 rec n aAt x0 (K5 (kT rec n) 0 1 4 7 8) = D67 rec n bUw x0 (K6 (zP rec n) 0 1 4 7 8 43) :=
 congrArg (fun k => D67 rec n bUw x0 k) (cDj rec n)
theorem cSs : D67 rec n aTf x0 r67 = (K5 (aBw rec n) 0 1 4 7 8) :=
 (cGs rec n).trans
 ((cDm rec n).trans
 ((by kernel_rfl)))
theorem cJy : D67 rec n dCv x0 (K5 (aBw rec n) 0 1 4 7 8) = (K6 (aAl rec n) 0 1 4 7 8 19) := by kernel_rfl
theorem bXy : D67 rec n aTy x0 r67 = D67 rec n yY x0 (K5 (aBw rec n) 0 1 4 7 8) :=
 congrArg (fun k => D67 rec n yY x0 k) (cSs rec n)
theorem bPx : D67 rec n yY x0 (K5 (aBw rec n) 0 1 4 7 8) = D67 rec n bHp x0 (K6 (aAl rec n) 0 1 4 7 8 19) :=
 congrArg (fun k => D67 rec n bHp x0 k) (cJy rec n)
theorem cXb : D67 rec n aTy x0 r67 = (K5 (bDc rec n) 0 1 4 7 8) :=
 (bXy rec n).trans
 ((bPx rec n).trans
 ((by kernel_rfl)))
theorem bLd : D67 rec n aWo x0 r67 = D67 rec n bNs x0 (K5 (bDc rec n) 0 1 4 7 8) :=
 congrArg (fun k => D67 rec n bNs x0 k) (cXb rec n)
theorem cYx : D67 rec n aWo x0 r67 = (K4 (bDm rec n) 0 1 4 7) :=
 (bLd rec n).trans
 ((by kernel_rfl))
theorem bPl : D67 rec n bAa x0 r67 = D67 rec n bLh x0 (K4 (bDm rec n) 0 1 4 7) :=
 congrArg (fun k => D67 rec n bLh x0 k) (cYx rec n)
theorem cUy : D67 rec n bAa x0 r67 = (K3 (aYz rec n) 0 1 4) :=
 (bPl rec n).trans
 ((by kernel_rfl))
theorem cSf : D67 rec n c67 x0 r67 = D67 rec n bTn x0 (K3 (aYz rec n) 0 1 4) :=
 congrArg (fun k => D67 rec n bTn x0 k) (cUy rec n)
theorem dNc : D67 rec n c67 x0 r67 = (K2 (s67 rec n) 0 1) :=
 (cSf rec n).trans
 ((by kernel_rfl))
theorem dIt (args : List DV) (h : Hp) : aL CF rec n 67 args h = s67 rec n (args.getD 0 aA) (args.getD 1 aA) h :=
 cZ (dNc rec n) args h (by kernel_rfl) (by kernel_rfl)
def s68 (rec : RT) (n : Nat) (x0 x1 x2 : DV) (h0 : Hp) : aH :=
 bnd (rec 73 [x0, (.i .i64 (Int.ofNat 0))] h0) fun v1 h1 =>
 bnd (bG [(.i .i64 (Int.ofNat 0)), (.s []), (.i .i64 (Int.ofNat 0)), (.i .i64 (Int.ofNat 0))] h1) fun v2 h2 =>
 bnd (aC 4 v2 v1 h2) fun _ h3 =>
 bnd (bM x0 h3) fun v4 h4 =>
 bnd (aB 3 v4 h4) fun v5 h5 =>
 bnd (aD v5 h5) fun v6 h6 =>
 bnd (aF .eql v6 (.i .i64 (Int.ofNat 0)) h6) fun v7 h7 =>
 bnd (gD v7 true (aB 0 v2 h7) h7) fun v8 h8 =>
 bnd (gD v7 true (aD v8 h8) h8) fun v9 h9 =>
 bnd (gD v7 true (some (x1, h9)) h9) fun v10 h10 =>
 bnd (gD v7 true (aF .eql v9 v10 h10) h10) fun v11 h11 =>
 bnd (aV v7 v11 (.b false) h11) fun v12 h12 =>
 bnd (gD v12 true (some (x2, h12)) h12) fun v13 h13 =>
 bnd (gD v12 true (bY .eql v13 (.s []) h13) h13) fun v14 h14 =>
 bnd (gD v12 true (some (v14, h14)) h14) fun v15 h15 =>
 bnd (gD v15 false (aB 1 v2 h15) h15) fun v16 h16 =>
 bnd (gD v15 false (aD v16 h16) h16) fun v17 h17 =>
 bnd (gD v15 false (some (x2, h17)) h17) fun v18 h18 =>
 bnd (gD v15 false (bY .eql v17 v18 h18) h18) fun v19 h19 =>
 bnd (gD v12 true (aV v15 (.b true) v19 h19) h19) fun v20 h20 =>
 bnd (aV v12 v20 (.b false) h20) fun v21 h21 =>
 some (v21, h21)
abbrev c68 : Code := cf Tryz.f68
abbrev r68 : K := bD CF Tryz.f68
def D68 (rec : RT) (n : Nat) (c : Code) (X : Nat → K) (k : K) : K := aR CF rec 31 n c X r68 k
theorem dNn : D68 rec n c68 x0 r68 = (K3 (s68 rec n) 0 1 2) :=
 (by kernel_rfl)
theorem dLb (args : List DV) (h : Hp) : aL CF rec n 68 args h = s68 rec n (args.getD 0 aA) (args.getD 1 aA) (args.getD 2 aA) h :=
 cZ (dNn rec n) args h (by kernel_rfl) (by kernel_rfl)
def s69 (rec : RT) (n : Nat) (x0 : DV) (h0 : Hp) : aH :=
 bnd (bG [(.i .i64 (Int.ofNat 0)), (.s []), (.i .i64 (Int.ofNat 0)), (.i .i64 (Int.ofNat 0))] h0) fun v1 h1 =>
 bnd (rec 73 [x0, (.i .i64 (Int.ofNat 0))] h1) fun v2 h2 =>
 bnd (bG [(.i .i64 (Int.ofNat 0)), (.s []), (.i .i64 (Int.ofNat 0)), (.i .i64 (Int.ofNat 0))] h2) fun v3 h3 =>
 bnd (aC 4 v3 v2 h3) fun _ h4 =>
 bnd (bM x0 h4) fun v5 h5 =>
 bnd (aB 1 v5 h5) fun v6 h6 =>
 bnd (aD v6 h6) fun v7 h7 =>
 bnd (aF .add v7 (.i .i64 (Int.ofNat 1)) h7) fun v8 h8 =>
 bnd (bM x0 h8) fun v9 h9 =>
 bnd (aB 1 v9 h9) fun v10 h10 =>
 bnd (aC 1 v10 v8 h10) fun _ h11 =>
 bnd (aE 4 v3 h11) fun v12 h12 =>
 bnd (aC 4 v1 v12 h12) fun _ h13 =>
 bnd (aE 4 v1 h13) fun v14 _ =>
 some (v14, h13)
abbrev c69 : Code := cf Tryz.f69
abbrev r69 : K := bD CF Tryz.f69
def D69 (rec : RT) (n : Nat) (c : Code) (X : Nat → K) (k : K) : K := aR CF rec 14 n c X r69 k
theorem dNx : D69 rec n c69 x0 r69 = (K1 (s69 rec n) 0) :=
 (by kernel_rfl)
theorem dGz (args : List DV) (h : Hp) : aL CF rec n 69 args h = s69 rec n (args.getD 0 aA) h :=
 cZ (dNx rec n) args h (by kernel_rfl) (by kernel_rfl)
def bDh (rec : RT) (n : Nat) (x2 x7 : DV) (h0 : Hp) : aH :=
 bnd (aX 1 16 .l0 x2 h0) fun v1 h1 =>
 bnd (aB 1 x7 h1) fun v2 h2 =>
 bnd (aD v2 h2) fun v3 h3 =>
 bnd (aO [(.s [])] 1 [(0, 1, v3)] h3) fun v4 h4 =>
 bnd (aX 1 16 v1 v4 h4) fun v5 h5 =>
 some (v5, h5)
def cNv (rec : RT) (n : Nat) (x0 x2 x7 : DV) (h0 : Hp) : aH :=
 bnd (bM x0 h0) fun v1 h1 =>
 bnd (aB 3 v1 h1) fun v2 h2 =>
 bnd (aD v2 h2) fun v3 h3 =>
 bnd (aF .eql v3 (.i .i64 (Int.ofNat 0)) h3) fun v4 h4 =>
 bnd (gD v4 true (some (x2, h4)) h4) fun v5 h5 =>
 bnd (gD v4 true (dB v5 h5) h5) fun v6 h6 =>
 bnd (gD v4 true (aF .eql v6 (.i .i64 (Int.ofNat 4)) h6) h6) fun v7 h7 =>
 bnd (aV v4 v7 (.b false) h7) fun v8 h8 =>
 aU v8 (
 bnd (aE 4 x7 h8) fun v9 h9 =>
 bnd (rec 71 [x0, v9, (.i .i64 (Int.ofNat 18))] h9) fun v10 h10 =>
  bDh rec n x2 x7 h10) (
  bDh rec n x2 x7 h8)
def cPl (rec : RT) (n : Nat) (x0 x1 x2 : DV) (h0 : Hp) : aH :=
 bnd (rec 47 [x0, x1, (.s [])] h0) fun v1 h1 =>
 bnd (bG [(.i .i64 (Int.ofNat 0)), (.s []), (.i .i64 (Int.ofNat 0)), (.i .i64 (Int.ofNat 0))] h1) fun v2 h2 =>
 bnd (aC 4 v2 v1 h2) fun _ h3 =>
  cNv rec n x0 x2 v2 h3
def s70 (rec : RT) (n : Nat) (x0 x1 x2 : DV) (h0 : Hp) : aH :=
 cPl rec n x0 x1 x2 h0
abbrev c70 : Code := cf Tryz.f70
abbrev r70 : K := bD CF Tryz.f70
def D70 (rec : RT) (n : Nat) (c : Code) (X : Nat → K) (k : K) : K := aR CF rec 33 n c X r70 k
theorem dMc : D70 rec n c70 x0 r70 = (K3 (s70 rec n) 0 1 2) := by kernel_rfl
theorem dHr (args : List DV) (h : Hp) : aL CF rec n 70 args h = s70 rec n (args.getD 0 aA) (args.getD 1 aA) (args.getD 2 aA) h :=
 cZ (dMc rec n) args h (by kernel_rfl) (by kernel_rfl)
def s71 (rec : RT) (n : Nat) (x0 x1 x2 : DV) (h0 : Hp) : aH :=
 bnd (dW x1 h0) fun v1 h1 =>
 bnd (bM x0 h1) fun v2 h2 =>
 bnd (aB 3 v2 h2) fun v3 h3 =>
 bnd (aD v3 h3) fun v4 h4 =>
 bnd (aF .eql v4 (.i .i64 (Int.ofNat 0)) h4) fun v5 h5 =>
 aU v5 (
 bnd (bM x0 h5) fun v6 h6 =>
 bnd (aB 3 v6 h6) fun v7 h7 =>
 bnd (aC 1 v7 x2 h7) fun _ h8 =>
 bnd (aB 3 v1 h8) fun v9 h9 =>
 bnd (aD v9 h9) fun v10 h10 =>
 bnd (bM x0 h10) fun v11 h11 =>
 bnd (aB 4 v11 h11) fun v12 h12 =>
 bnd (aC 1 v12 v10 h12) fun _ h13 =>
 some (.t [], h13)) (
 some (.t [], h5))
abbrev c71 : Code := cf Tryz.f71
abbrev r71 : K := bD CF Tryz.f71
def D71 (rec : RT) (n : Nat) (c : Code) (X : Nat → K) (k : K) : K := aR CF rec 20 n c X r71 k
theorem dNr : D71 rec n c71 x0 r71 = (K3 (s71 rec n) 0 1 2) :=
 (by kernel_rfl)
theorem dDz (args : List DV) (h : Hp) : aL CF rec n 71 args h = s71 rec n (args.getD 0 aA) (args.getD 1 aA) (args.getD 2 aA) h :=
 cZ (dNr rec n) args h (by kernel_rfl) (by kernel_rfl)
end
end Go.Dd

namespace Go.Dd
open Go.Proofs
noncomputable section
variable (rec : RT) (n : Nat)
def eW (rec : RT) (n : Nat) (x2 x6 : DV) (h0 : Hp) : aH :=
 bnd (aE 6 x6 h0) fun v1 h1 =>
 bnd (aC 6 x2 v1 h1) fun _ h2 =>
 bnd (aE 6 x2 h2) fun v3 _ =>
 some (v3, h2)
def wG (rec : RT) (n : Nat) (kk13 : cQ) (x0 x2 x6 : DV) (h0 : Hp) : aH :=
 bnd (rec 68 [x0, (.i .i64 (Int.ofNat 10)), (.s [59])] h0) fun v1 h1 =>
 aU v1 (
 bnd (rec 69 [x0] h1) fun v2 h2 =>
 bnd (aB 5 x6 (hC 1 h2)) fun v3 h3 =>
 bnd (aD v3 h3) fun v4 h4 =>
 bnd (rec 104 [x0] h4) fun v5 h5 =>
 cnd (bP (aD v3 h5) v4 && true) (
 bnd (aZ (cT 0 h2.next) [(.i .i64 (Int.ofNat 0)), (.s []), (.i .i64 (Int.ofNat 0)), .l0, .l0, .l0] 1 [(0, 6, v5)] h5) fun v6 h6 =>
 bnd (aX 6 104 v4 v6 h6) fun v7 h7 =>
 bnd (aB 5 x6 h7) fun v8 h8 =>
 bnd (aC 1 v8 v7 h8) fun v9 h9 =>
      kk13 x0 x2 x6 h9)) (
      eW rec n x2 x6 h1)
def mH (rec : RT) (n : Nat) (m : Nat) : cQ :=
 Nat.rec (motive := fun _ => cQ) (fun _ _ _ _ => none) (fun _ ih => wG rec n ih) m
def aPy (rec : RT) (n : Nat) : cQ := mH rec n n
def aHj (rec : RT) (n : Nat) (x0 x2 x6 : DV) (h0 : Hp) : aH :=
 aPy rec n x0 x2 x6 h0
def aHm (rec : RT) (n : Nat) (x0 x2 x5 x6 : DV) (h0 : Hp) : aH :=
 bnd (aB 5 x6 (hC 1 h0)) fun v1 h1 =>
 bnd (aD v1 h1) fun v2 h2 =>
 bnd (aB 1 x5 h2) fun v3 h3 =>
 bnd (aD v3 h3) fun v4 h4 =>
 bnd (aB 5 x5 h4) fun v5 h5 =>
 bnd (aD v5 h5) fun v6 h6 =>
 bnd (cK 6 v6 (some (.i .i64 (Int.ofNat 1))) none h6) fun v7 h7 =>
 bnd (bB [(.i .i64 (Int.ofNat 0)), (.s []), (.i .i64 (Int.ofNat 0)), .l0, .l0, .l0] [(0, 1, (.i .i64 (Int.ofNat 7))), (1, 1, v4), (5, 1, v7)] h7) fun v8 h8 =>
 bnd (aZ (cT 0 h0.next) [(.i .i64 (Int.ofNat 0)), (.s []), (.i .i64 (Int.ofNat 0)), .l0, .l0, .l0] 1 [(0, 6, v8)] h8) fun v9 h9 =>
 bnd (aX 6 104 v2 v9 h9) fun v10 h10 =>
 bnd (aB 5 x6 h10) fun v11 h11 =>
 bnd (aC 1 v11 v10 h11) fun v12 h12 =>
  aHj rec n x0 x2 x6 h12
def aDj (rec : RT) (n : Nat) (x0 x2 x5 x6 : DV) (h0 : Hp) : aH :=
 bnd (aB 5 x6 (hC 1 h0)) fun v1 h1 =>
 bnd (aD v1 h1) fun v2 h2 =>
 bnd (aB 5 x5 h2) fun v3 h3 =>
 bnd (aD v3 h3) fun v4 h4 =>
 bnd (aP 6 v4 (.i .i64 (Int.ofNat 0)) h4) fun v5 h5 =>
 bnd (aE 6 v5 h5) fun v6 h6 =>
 bnd (aZ (cT 0 h0.next) [(.i .i64 (Int.ofNat 0)), (.s []), (.i .i64 (Int.ofNat 0)), .l0, .l0, .l0] 1 [(0, 6, v6)] h6) fun v7 h7 =>
 bnd (aX 6 104 v2 v7 h7) fun v8 h8 =>
 bnd (aB 5 x6 h8) fun v9 h9 =>
 bnd (aC 1 v9 v8 h9) fun v10 h10 =>
  aHm rec n x0 x2 x5 x6 h10
def aNl (rec : RT) (n : Nat) (x0 x2 x5 : DV) (h0 : Hp) : aH :=
 bnd (bB [(.i .i64 (Int.ofNat 0)), (.s []), (.i .i64 (Int.ofNat 0)), .l0, .l0, .l0] [(0, 1, (.i .i64 (Int.ofNat 8)))] h0) fun v1 h1 =>
 bnd (bG [(.i .i64 (Int.ofNat 0)), (.s []), (.i .i64 (Int.ofNat 0)), .l0, .l0, .l0] h1) fun v2 h2 =>
 bnd (aC 6 v2 v1 h2) fun _ h3 =>
  aDj rec n x0 x2 x5 v2 h3
def bAm (rec : RT) (n : Nat) (x0 x2 x5 : DV) (h0 : Hp) : aH :=
 bnd (aB 0 x5 h0) fun v1 h1 =>
 bnd (aD v1 h1) fun v2 h2 =>
 bnd (aF .neq v2 (.i .i64 (Int.ofNat 7)) h2) fun v3 h3 =>
 aU v3 (
 bnd (rec 73 [x0, (.i .i64 (Int.ofNat 0))] h3) fun v4 h4 =>
 bnd (rec 71 [x0, v4, (.i .i64 (Int.ofNat 13))] h4) fun v5 h5 =>
 bnd (aE 6 x5 h5) fun v6 h6 =>
 bnd (aC 6 x2 v6 h6) fun _ h7 =>
 bnd (aE 6 x2 h7) fun v8 _ =>
 some (v8, h7)) (
  aNl rec n x0 x2 x5 h3)
def bDa (rec : RT) (n : Nat) (x0 x2 x5 : DV) (h0 : Hp) : aH :=
 bnd (rec 68 [x0, (.i .i64 (Int.ofNat 10)), (.s [59])] h0) fun v1 h1 =>
 bnd (jZ .not v1 h1) fun v2 h2 =>
 aU v2 (
 bnd (aE 6 x5 h2) fun v3 h3 =>
 bnd (aC 6 x2 v3 h3) fun _ h4 =>
 bnd (aE 6 x2 h4) fun v5 _ =>
 some (v5, h4)) (
  bAm rec n x0 x2 x5 h2)
def bAf (rec : RT) (n : Nat) (x0 x2 x5 : DV) (h0 : Hp) : aH :=
 bnd (aE 6 x5 h0) fun v1 h1 =>
 bnd (rec 103 [x0, v1] h1) fun v2 h2 =>
 bnd (aC 6 x5 v2 h2) fun _ h3 =>
  bDa rec n x0 x2 x5 h3
def aXu (rec : RT) (n : Nat) (x0 x2 x5 : DV) (h0 : Hp) : aH :=
 bnd (aE 6 x5 h0) fun v1 h1 =>
 bnd (rec 102 [x0, v1] h1) fun v2 h2 =>
 bnd (aC 6 x5 v2 h2) fun _ h3 =>
  bAf rec n x0 x2 x5 h3
def bAx (rec : RT) (n : Nat) (x0 x2 x5 : DV) (h0 : Hp) : aH :=
 bnd (aE 6 x5 h0) fun v1 h1 =>
 bnd (rec 101 [x0, v1] h1) fun v2 h2 =>
 bnd (aC 6 x5 v2 h2) fun _ h3 =>
  aXu rec n x0 x2 x5 h3
def aNn (rec : RT) (n : Nat) (x0 x2 : DV) (h0 : Hp) : aH :=
 bnd (rec 100 [x0] h0) fun v1 h1 =>
 bnd (bG [(.i .i64 (Int.ofNat 0)), (.s []), (.i .i64 (Int.ofNat 0)), .l0, .l0, .l0] h1) fun v2 h2 =>
 bnd (aC 6 v2 v1 h2) fun _ h3 =>
  bAx rec n x0 x2 v2 h3
def bDe (rec : RT) (n : Nat) (x0 x2 : DV) (h0 : Hp) : aH :=
 bnd (rec 68 [x0, (.i .i64 (Int.ofNat 1)), (.s [])] h0) fun v1 h1 =>
 bnd (gD v1 true (some (x0, h1)) h1) fun v2 h2 =>
 bnd (gD v1 true (rec 73 [v2, (.i .i64 (Int.ofNat 1))] h2) h2) fun v3 h3 =>
 bnd (gD v1 true (cB 0 v3 h3) h3) fun v4 h4 =>
 bnd (gD v1 true (aF .eql v4 (.i .i64 (Int.ofNat 9)) h4) h4) fun v5 h5 =>
 bnd (aV v1 v5 (.b false) h5) fun v6 h6 =>
 aU v6 (
 bnd (rec 69 [x0] h6) fun v7 h7 =>
 bnd (cB 1 v7 h7) fun v8 h8 =>
 bnd (rec 69 [x0] h8) fun v9 h9 =>
 bnd (rec 72 [x0] h9) fun v10 h10 =>
 bnd (bG [(.i .i64 (Int.ofNat 0)), (.s []), (.i .i64 (Int.ofNat 0)), .l0, .l0, .l0] h10) fun v11 h11 =>
 bnd (aC 6 v11 v10 h11) fun _ h12 =>
 bnd (aE 6 v11 h12) fun v13 h13 =>
 bnd (aO [(.i .i64 (Int.ofNat 0)), (.s []), (.i .i64 (Int.ofNat 0)), .l0, .l0, .l0] 1 [(0, 6, v13)] h13) fun v14 h14 =>
 bnd (bB [(.i .i64 (Int.ofNat 0)), (.s []), (.i .i64 (Int.ofNat 0)), .l0, .l0, .l0] [(0, 1, (.i .i64 (Int.ofNat 6))), (1, 1, v8), (5, 1, v14)] h14) fun v15 h15 =>
 bnd (aC 6 x2 v15 h15) fun _ h16 =>
 bnd (aE 6 x2 h16) fun v17 _ =>
 some (v17, h16)) (
  aNn rec n x0 x2 h6)
def s72 (rec : RT) (n : Nat) (x0 : DV) (h0 : Hp) : aH :=
 bnd (bG [(.i .i64 (Int.ofNat 0)), (.s []), (.i .i64 (Int.ofNat 0)), .l0, .l0, .l0] h0) fun v1 h1 =>
  bDe rec n x0 v1 h1
abbrev c72 : Code := cf Tryz.f72
abbrev aVr := cR c72
abbrev bAg := cR aVr
abbrev aYf := cR bAg
abbrev aXq := cR aYf
abbrev aZz := cR aXq
abbrev bBl := cR aZz
abbrev bCe := cR bBl
abbrev bCv := cR bCe
abbrev aWr := cR bCv
abbrev aJb := cR aWr
abbrev aKw := cR aJb
abbrev cRp := cR aKw
abbrev aDu := cL aKw
abbrev aKd := cL aDu
abbrev pK := cL aKd
abbrev bIc := cL aJb
abbrev bLl := cL aWr
abbrev aSu := cL bCv
abbrev bHk := cL bCe
abbrev bUf := cL bBl
abbrev bRj := cL aZz
abbrev bVq := cL aXq
abbrev bUm := cL aYf
abbrev bXm := cL bAg
abbrev bOo := cL aVr
abbrev bKp := cL c72
abbrev r72 : K := bD CF Tryz.f72
def D72 (rec : RT) (n : Nat) (c : Code) (X : Nat → K) (k : K) : K := aR CF rec 82 n c X r72 k
theorem bYy : D72 rec n cRp x0 r72 = (K2 (eW rec n) 2 6) := by kernel_rfl
theorem bIv (kk13 : cQ) : D72 rec n pK (xs x0 0 (K2 (eW rec n) 2 6)) (K3 kk13 0 2 6) = (K3 (wG rec n kk13) 0 2 6) := by kernel_rfl
theorem bKi (m : Nat) : aG (fun kk => D72 rec n pK (xs x0 0 (K2 (eW rec n) 2 6)) kk) m = (K3 (mH rec n m) 0 2 6) := by
 induction m with
 | zero => exact (by kernel_rfl : aG (fun kk => D72 rec n pK (xs x0 0 (K2 (eW rec n) 2 6)) kk) 0 = (K3 (mH rec n 0) 0 2 6))
 | succ m ih =>
  refine (by kernel_rfl : aG (fun kk => D72 rec n pK (xs x0 0 (K2 (eW rec n) 2 6)) kk) (m + 1) = D72 rec n pK (xs x0 0 (K2 (eW rec n) 2 6)) (aG (fun kk => D72 rec n pK (xs x0 0 (K2 (eW rec n) 2 6)) kk) m)).trans ?_
  rw [ih]
  exact (bIv rec n (mH rec n m)).trans (by kernel_rfl)
theorem bYq : D72 rec n aKd (xs x0 0 (K2 (eW rec n) 2 6)) (K2 (eW rec n) 2 6) = (K3 (aPy rec n) 0 2 6) :=
 (by kernel_rfl : D72 rec n aKd (xs x0 0 (K2 (eW rec n) 2 6)) (K2 (eW rec n) 2 6) = aG (fun kk => D72 rec n pK (xs x0 0 (K2 (eW rec n) 2 6)) kk) n).trans ((bKi rec n n).trans (by kernel_rfl))
theorem bWe : D72 rec n aKw x0 r72 = D72 rec n aDu x0 (K2 (eW rec n) 2 6) :=
 congrArg (fun k => D72 rec n aDu x0 k) (bYy rec n)
theorem cLp : D72 rec n aKw x0 r72 = (K3 (aHj rec n) 0 2 6) :=
 (bWe rec n).trans
 ((by kernel_rfl : D72 rec n aDu x0 (K2 (eW rec n) 2 6) = D72 rec n aKd (xs x0 0 (K2 (eW rec n) 2 6)) (K2 (eW rec n) 2 6)).trans
 ((bYq rec n).trans (by kernel_rfl)))
theorem bPm : D72 rec n aJb x0 r72 = D72 rec n bIc x0 (K3 (aHj rec n) 0 2 6) :=
 congrArg (fun k => D72 rec n bIc x0 k) (cLp rec n)
theorem cLf : D72 rec n aJb x0 r72 = (K4 (aHm rec n) 0 2 5 6) :=
 (bPm rec n).trans
 ((by kernel_rfl))
theorem cFa : D72 rec n aWr x0 r72 = D72 rec n bLl x0 (K4 (aHm rec n) 0 2 5 6) :=
 congrArg (fun k => D72 rec n bLl x0 k) (cLf rec n)
theorem cVs : D72 rec n aWr x0 r72 = (K4 (aDj rec n) 0 2 5 6) :=
 (cFa rec n).trans
 ((by kernel_rfl))
theorem cAc : D72 rec n bCv x0 r72 = D72 rec n aSu x0 (K4 (aDj rec n) 0 2 5 6) :=
 congrArg (fun k => D72 rec n aSu x0 k) (cVs rec n)
theorem cAn (q0 : iG) : D72 rec n aSu x0 (K4 q0 0 2 5 6) = fun (env : eE) (h : Hp) =>
 bnd (bB [(.i .i64 (Int.ofNat 0)), (.s []), (.i .i64 (Int.ofNat 0)), .l0, .l0, .l0] [(0, 1, (.i .i64 (Int.ofNat 8)))] h) fun v1 h1 =>
 bnd (bG [(.i .i64 (Int.ofNat 0)), (.s []), (.i .i64 (Int.ofNat 0)), .l0, .l0, .l0] h1) fun v2 h2 =>
 bnd (aC 6 v2 v1 h2) fun _ h3 =>
  q0 (env 0) (env 2) (env 5) v2 h3 := by kernel_rfl
theorem bPn : (fun (env : eE) (h : Hp) =>
 bnd (bB [(.i .i64 (Int.ofNat 0)), (.s []), (.i .i64 (Int.ofNat 0)), .l0, .l0, .l0] [(0, 1, (.i .i64 (Int.ofNat 8)))] h) fun v1 h1 =>
 bnd (bG [(.i .i64 (Int.ofNat 0)), (.s []), (.i .i64 (Int.ofNat 0)), .l0, .l0, .l0] h1) fun v2 h2 =>
 bnd (aC 6 v2 v1 h2) fun _ h3 =>
  aDj rec n (env 0) (env 2) (env 5) v2 h3) = (K3 (aNl rec n) 0 2 5) := by kernel_rfl
theorem cXn : D72 rec n bCv x0 r72 = (K3 (aNl rec n) 0 2 5) :=
 (cAc rec n).trans
 ((cAn rec n (aDj rec n)).trans (bPn rec n))
theorem cKg : D72 rec n bCe x0 r72 = D72 rec n bHk x0 (K3 (aNl rec n) 0 2 5) :=
 congrArg (fun k => D72 rec n bHk x0 k) (cXn rec n)
theorem cTx : D72 rec n bCe x0 r72 = (K3 (bAm rec n) 0 2 5) :=
 (cKg rec n).trans
 ((by kernel_rfl))
theorem bWk : D72 rec n bBl x0 r72 = D72 rec n bUf x0 (K3 (bAm rec n) 0 2 5) :=
 congrArg (fun k => D72 rec n bUf x0 k) (cTx rec n)
theorem cYc : D72 rec n bBl x0 r72 = (K3 (bDa rec n) 0 2 5) :=
 (bWk rec n).trans
 ((by kernel_rfl))
theorem bOf : D72 rec n aZz x0 r72 = D72 rec n bRj x0 (K3 (bDa rec n) 0 2 5) :=
 congrArg (fun k => D72 rec n bRj x0 k) (cYc rec n)
theorem cSw : D72 rec n aZz x0 r72 = (K3 (bAf rec n) 0 2 5) :=
 (bOf rec n).trans
 ((by kernel_rfl))
theorem bTo : D72 rec n aXq x0 r72 = D72 rec n bVq x0 (K3 (bAf rec n) 0 2 5) :=
 congrArg (fun k => D72 rec n bVq x0 k) (cSw rec n)
theorem dBb : D72 rec n aXq x0 r72 = (K3 (aXu rec n) 0 2 5) :=
 (bTo rec n).trans
 ((by kernel_rfl))
theorem bIl : D72 rec n aYf x0 r72 = D72 rec n bUm x0 (K3 (aXu rec n) 0 2 5) :=
 congrArg (fun k => D72 rec n bUm x0 k) (dBb rec n)
theorem dCs : D72 rec n aYf x0 r72 = (K3 (bAx rec n) 0 2 5) :=
 (bIl rec n).trans
 ((by kernel_rfl))
theorem bMp : D72 rec n bAg x0 r72 = D72 rec n bXm x0 (K3 (bAx rec n) 0 2 5) :=
 congrArg (fun k => D72 rec n bXm x0 k) (dCs rec n)
theorem cSb : D72 rec n bAg x0 r72 = (K2 (aNn rec n) 0 2) :=
 (bMp rec n).trans
 ((by kernel_rfl))
theorem bTp : D72 rec n aVr x0 r72 = D72 rec n bOo x0 (K2 (aNn rec n) 0 2) :=
 congrArg (fun k => D72 rec n bOo x0 k) (cSb rec n)
theorem dAk : D72 rec n aVr x0 r72 = (K2 (bDe rec n) 0 2) :=
 (bTp rec n).trans
 ((by kernel_rfl))
theorem cXi : D72 rec n c72 x0 r72 = D72 rec n bKp x0 (K2 (bDe rec n) 0 2) :=
 congrArg (fun k => D72 rec n bKp x0 k) (dAk rec n)
theorem dMi : D72 rec n c72 x0 r72 = (K1 (s72 rec n) 0) :=
 (cXi rec n).trans
 ((by kernel_rfl))
theorem dIi (args : List DV) (h : Hp) : aL CF rec n 72 args h = s72 rec n (args.getD 0 aA) h :=
 cZ (dMi rec n) args h (by kernel_rfl) (by kernel_rfl)
def s73 (rec : RT) (n : Nat) (x0 x1 : DV) (h0 : Hp) : aH :=
 bnd (bG [(.i .i64 (Int.ofNat 0)), (.s []), (.i .i64 (Int.ofNat 0)), (.i .i64 (Int.ofNat 0))] h0) fun v1 h1 =>
 bnd (bM x0 h1) fun v2 h2 =>
 bnd (aB 1 v2 h2) fun v3 h3 =>
 bnd (aD v3 h3) fun v4 h4 =>
 bnd (aF .add v4 x1 h4) fun v5 h5 =>
 bnd (bM x0 h5) fun v6 h6 =>
 bnd (aB 0 v6 h6) fun v7 h7 =>
 bnd (aD v7 h7) fun v8 h8 =>
 bnd (dB v8 h8) fun v9 h9 =>
 bnd (aF .geq v5 v9 h9) fun v10 h10 =>
 aU v10 (
 bnd (bM x0 h10) fun v11 h11 =>
 bnd (aB 0 v11 h11) fun v12 h12 =>
 bnd (aD v12 h12) fun v13 h13 =>
 bnd (bM x0 h13) fun v14 h14 =>
 bnd (aB 0 v14 h14) fun v15 h15 =>
 bnd (aD v15 h15) fun v16 h16 =>
 bnd (dB v16 h16) fun v17 h17 =>
 bnd (aF .sub v17 (.i .i64 (Int.ofNat 1)) h17) fun v18 h18 =>
 bnd (aP 4 v13 v18 h18) fun v19 h19 =>
 bnd (aE 4 v19 h19) fun v20 h20 =>
 bnd (aC 4 v1 v20 h20) fun v21 h21 =>
 bnd (aE 4 v1 h21) fun v22 _ =>
 some (v22, h21)) (
 bnd (bM x0 h10) fun v23 h23 =>
 bnd (aB 0 v23 h23) fun v24 h24 =>
 bnd (aD v24 h24) fun v25 h25 =>
 bnd (bM x0 h25) fun v26 h26 =>
 bnd (aB 1 v26 h26) fun v27 h27 =>
 bnd (aD v27 h27) fun v28 h28 =>
 bnd (aF .add v28 x1 h28) fun v29 h29 =>
 bnd (aP 4 v25 v29 h29) fun v30 h30 =>
 bnd (aE 4 v30 h30) fun v31 h31 =>
 bnd (aC 4 v1 v31 h31) fun v32 h32 =>
 bnd (aE 4 v1 h32) fun v33 _ =>
 some (v33, h32))
abbrev c73 : Code := cf Tryz.f73
abbrev r73 : K := bD CF Tryz.f73
def D73 (rec : RT) (n : Nat) (c : Code) (X : Nat → K) (k : K) : K := aR CF rec 41 n c X r73 k
theorem dMw : D73 rec n c73 x0 r73 = (K2 (s73 rec n) 0 1) :=
 (by kernel_rfl)
theorem dFp (args : List DV) (h : Hp) : aL CF rec n 73 args h = s73 rec n (args.getD 0 aA) (args.getD 1 aA) h :=
 cZ (dMw rec n) args h (by kernel_rfl) (by kernel_rfl)
def iE (rec : RT) (n : Nat) (x0 x7 : DV) (h0 : Hp) : aH :=
 bnd (bM x0 h0) fun v1 h1 =>
 bnd (aB 0 v1 h1) fun v2 h2 =>
 bnd (aD v2 h2) fun v3 h3 =>
 bnd (bM x0 h3) fun v4 h4 =>
 bnd (aB 1 v4 h4) fun v5 h5 =>
 bnd (aD v5 h5) fun v6 h6 =>
 bnd (cP v3 (some x7) (some v6) h6) fun v7 h7 =>
 some (v7, h7)
def tA (rec : RT) (n : Nat) (kk4 : iG) (x0 x1 x2 x7 : DV) (h0 : Hp) : aH :=
 bnd (bM x0 h0) fun v1 h1 =>
 bnd (aB 1 v1 h1) fun v2 h2 =>
 bnd (aD v2 h2) fun v3 h3 =>
 bnd (bM x0 h3) fun v4 h4 =>
 bnd (aB 0 v4 h4) fun v5 h5 =>
 bnd (aD v5 h5) fun v6 h6 =>
 bnd (cS v6 h6) fun v7 h7 =>
 bnd (aF .lss v3 v7 h7) fun v8 h8 =>
 bnd (gD v8 true (some (x0, h8)) h8) fun v9 h9 =>
 bnd (gD v8 true (bM v9 h9) h9) fun v10 h10 =>
 bnd (gD v8 true (aB 1 v10 h10) h10) fun v11 h11 =>
 bnd (gD v8 true (aD v11 h11) h11) fun v12 h12 =>
 bnd (gD v8 true (some (x7, h12)) h12) fun v13 h13 =>
 bnd (gD v8 true (aF .sub v12 v13 h13) h13) fun v14 h14 =>
 bnd (gD v8 true (some (x2, h14)) h14) fun v15 h15 =>
 bnd (gD v8 true (aF .lss v14 v15 h15) h15) fun v16 h16 =>
 bnd (aV v8 v16 (.b false) h16) fun v17 h17 =>
 bnd (gD v17 true (some (x1, h17)) h17) fun v18 h18 =>
 bnd (gD v17 true (some (x0, h18)) h18) fun v19 h19 =>
 bnd (gD v17 true (bM v19 h19) h19) fun v20 h20 =>
 bnd (gD v17 true (aB 0 v20 h20) h20) fun v21 h21 =>
 bnd (gD v17 true (aD v21 h21) h21) fun v22 h22 =>
 bnd (gD v17 true (some (x0, h22)) h22) fun v23 h23 =>
 bnd (gD v17 true (bM v23 h23) h23) fun v24 h24 =>
 bnd (gD v17 true (aB 1 v24 h24) h24) fun v25 h25 =>
 bnd (gD v17 true (aD v25 h25) h25) fun v26 h26 =>
 bnd (gD v17 true (bF v22 v26 h26) h26) fun v27 h27 =>
 bnd (gD v17 true (dS CF rec v18 [v27] h27) h27) fun v28 h28 =>
 bnd (aV v17 v28 (.b false) h28) fun v29 h29 =>
 aU v29 (
 bnd (bM x0 h29) fun v30 h30 =>
 bnd (aB 1 v30 h30) fun v31 h31 =>
 bnd (aD v31 h31) fun v32 h32 =>
 bnd (aF .add v32 (.i .i64 (Int.ofNat 1)) h32) fun v33 h33 =>
 bnd (bM x0 h33) fun v34 h34 =>
 bnd (aB 1 v34 h34) fun v35 h35 =>
 bnd (aC 1 v35 v33 h35) fun _ h36 =>
      kk4 x0 x1 x2 x7 h36) (
      iE rec n x0 x7 h29)
def mW (rec : RT) (n : Nat) (m : Nat) : iG :=
 Nat.rec (motive := fun _ => iG) (fun _ _ _ _ _ => none) (fun _ ih => tA rec n ih) m
def bNm (rec : RT) (n : Nat) : iG := mW rec n n
def bAy (rec : RT) (n : Nat) (x0 x1 x2 x7 : DV) (h0 : Hp) : aH :=
 bNm rec n x0 x1 x2 x7 h0
def bBq (rec : RT) (n : Nat) (x0 x1 x2 : DV) (h0 : Hp) : aH :=
 bnd (bM x0 h0) fun v1 h1 =>
 bnd (aB 1 v1 h1) fun v2 h2 =>
 bnd (aD v2 h2) fun v3 h3 =>
  bAy rec n x0 x1 x2 v3 h3
def s74 (rec : RT) (n : Nat) (x0 x1 x2 : DV) (h0 : Hp) : aH :=
 bBq rec n x0 x1 x2 h0
abbrev c74 : Code := cf Tryz.f74
abbrev aZj := cR c74
abbrev aXa := cR aZj
abbrev dGo := cR aXa
abbrev bCo := cL aXa
abbrev aTa := cL bCo
abbrev yB := cL aTa
abbrev cOq := cL aZj
abbrev cQf := cL c74
abbrev r74 : K := bD CF Tryz.f74
def D74 (rec : RT) (n : Nat) (c : Code) (X : Nat → K) (k : K) : K := aR CF rec 62 n c X r74 k
theorem cWo : D74 rec n dGo x0 r74 = (K2 (iE rec n) 0 7) := by kernel_rfl
theorem cAy (kk4 : iG) : D74 rec n yB (xs x0 0 (K2 (iE rec n) 0 7)) (K4 kk4 0 1 2 7) = (K4 (tA rec n kk4) 0 1 2 7) := by kernel_rfl
theorem cFh (m : Nat) : aG (fun kk => D74 rec n yB (xs x0 0 (K2 (iE rec n) 0 7)) kk) m = (K4 (mW rec n m) 0 1 2 7) := by
 induction m with
 | zero => exact (by kernel_rfl : aG (fun kk => D74 rec n yB (xs x0 0 (K2 (iE rec n) 0 7)) kk) 0 = (K4 (mW rec n 0) 0 1 2 7))
 | succ m ih =>
  refine (by kernel_rfl : aG (fun kk => D74 rec n yB (xs x0 0 (K2 (iE rec n) 0 7)) kk) (m + 1) = D74 rec n yB (xs x0 0 (K2 (iE rec n) 0 7)) (aG (fun kk => D74 rec n yB (xs x0 0 (K2 (iE rec n) 0 7)) kk) m)).trans ?_
  rw [ih]
  exact (cAy rec n (mW rec n m)).trans (by kernel_rfl)
theorem cTr : D74 rec n aTa (xs x0 0 (K2 (iE rec n) 0 7)) (K2 (iE rec n) 0 7) = (K4 (bNm rec n) 0 1 2 7) :=
 (by kernel_rfl : D74 rec n aTa (xs x0 0 (K2 (iE rec n) 0 7)) (K2 (iE rec n) 0 7) = aG (fun kk => D74 rec n yB (xs x0 0 (K2 (iE rec n) 0 7)) kk) n).trans ((cFh rec n n).trans (by kernel_rfl))
theorem cLo : D74 rec n aXa x0 r74 = D74 rec n bCo x0 (K2 (iE rec n) 0 7) :=
 congrArg (fun k => D74 rec n bCo x0 k) (cWo rec n)
theorem cXu : D74 rec n aXa x0 r74 = (K4 (bAy rec n) 0 1 2 7) :=
 (cLo rec n).trans
 ((by kernel_rfl : D74 rec n bCo x0 (K2 (iE rec n) 0 7) = D74 rec n aTa (xs x0 0 (K2 (iE rec n) 0 7)) (K2 (iE rec n) 0 7)).trans
 ((cTr rec n).trans (by kernel_rfl)))
theorem cKy : D74 rec n aZj x0 r74 = D74 rec n cOq x0 (K4 (bAy rec n) 0 1 2 7) :=
 congrArg (fun k => D74 rec n cOq x0 k) (cXu rec n)
theorem cRl : D74 rec n aZj x0 r74 = (K3 (bBq rec n) 0 1 2) :=
 (cKy rec n).trans
 ((by kernel_rfl))
theorem dGp : D74 rec n c74 x0 r74 = D74 rec n cQf x0 (K3 (bBq rec n) 0 1 2) :=
 congrArg (fun k => D74 rec n cQf x0 k) (cRl rec n)
theorem dLs : D74 rec n c74 x0 r74 = (K3 (s74 rec n) 0 1 2) :=
 (dGp rec n).trans
 ((by kernel_rfl))
theorem dKt (args : List DV) (h : Hp) : aL CF rec n 74 args h = s74 rec n (args.getD 0 aA) (args.getD 1 aA) (args.getD 2 aA) h :=
 cZ (dLs rec n) args h (by kernel_rfl) (by kernel_rfl)
def s75 (rec : RT) (n : Nat) (x0 : DV) (h0 : Hp) : aH :=
 bnd (dW x0 h0) fun v1 h1 =>
 some ((.f 105 [] [v1]), h1)
abbrev c75 : Code := cf Tryz.f75
abbrev r75 : K := bD CF Tryz.f75
def D75 (rec : RT) (n : Nat) (c : Code) (X : Nat → K) (k : K) : K := aR CF rec 4 n c X r75 k
theorem dOw : D75 rec n c75 x0 r75 = (K1 (s75 rec n) 0) :=
 (by kernel_rfl)
theorem dJy (args : List DV) (h : Hp) : aL CF rec n 75 args h = s75 rec n (args.getD 0 aA) h :=
 cZ (dOw rec n) args h (by kernel_rfl) (by kernel_rfl)
def eY (rec : RT) (n : Nat) (x2 x4 x5 : DV) (h0 : Hp) : aH :=
 bnd (aE 4 x4 h0) fun v1 h1 =>
 bnd (aC 4 x2 v1 h1) fun _ h2 =>
 bnd (aE 4 x2 h2) fun v3 _ =>
 some (.t [v3, x5], h2)
def cPh (rec : RT) (n : Nat) (x0 x2 x4 x5 x6 : DV) (h0 : Hp) : aH :=
 bnd (rec 107 [x6] h0) fun v1 h1 =>
 aU v1 (
 bnd (aB 0 x4 h1) fun v2 h2 =>
 bnd (aC 1 v2 (.i .i64 (Int.ofNat 1)) h2) fun _ h3 =>
 bnd (rec 108 [x0] h3) fun v4 h4 =>
 bnd (aK 0 v4 h4) fun v5 h5 =>
 bnd (aK 1 v4 h5) fun v6 h6 =>
 bnd (aB 1 x4 h6) fun v7 h7 =>
 bnd (aC 1 v7 v5 h7) fun _ h8 =>
 bnd (aF .eql v6 (.i .i64 (Int.ofNat 0)) h8) fun v9 h9 =>
 bnd (gD v9 true (some (x0, h9)) h9) fun v10 h10 =>
 bnd (gD v9 true (rec 109 [v10] h10) h10) fun v11 h11 =>
 bnd (aV v9 v11 (.b false) h11) fun v12 h12 =>
 aU v12 (
 bnd (aB 1 x4 h12) fun v13 h13 =>
 bnd (aD v13 h13) fun v14 h14 =>
 bnd (bY .add v14 (.s [58]) h14) fun v15 h15 =>
 bnd (aB 0 x4 h15) fun v16 h16 =>
 bnd (aC 1 v16 (.i .i64 (Int.ofNat 2)) h16) fun _ h17 =>
 bnd (aB 1 x4 h17) fun v18 h18 =>
 bnd (aC 1 v18 v15 h18) fun _ h19 =>
      eY rec n x2 x4 v6 h19) (
      eY rec n x2 x4 v6 h12)) (
 bnd (rec 110 [x6] h1) fun v20 h20 =>
 aU v20 (
 bnd (aB 0 x4 h20) fun v21 h21 =>
 bnd (aC 1 v21 (.i .i64 (Int.ofNat 4)) h21) fun _ h22 =>
 bnd (rec 111 [x0] h22) fun v23 h23 =>
 bnd (aK 0 v23 h23) fun v24 h24 =>
 bnd (aK 1 v23 h24) fun v25 h25 =>
 bnd (aB 2 x4 h25) fun v26 h26 =>
 bnd (aC 1 v26 v24 h26) fun _ h27 =>
      eY rec n x2 x4 v25 h27) (
 bnd (aF .eql x6 (.i .u8 (Int.ofNat 39)) h20) fun v28 h28 =>
 aU v28 (
 bnd (bM x0 h28) fun v29 h29 =>
 bnd (aB 1 v29 h29) fun v30 h30 =>
 bnd (aD v30 h30) fun v31 h31 =>
 bnd (aF .add v31 (.i .i64 (Int.ofNat 1)) h31) fun v32 h32 =>
 bnd (bM x0 h32) fun v33 h33 =>
 bnd (aB 1 v33 h33) fun v34 h34 =>
 bnd (aC 1 v34 v32 h34) fun _ h35 =>
 bnd (aB 0 x4 h35) fun v36 h36 =>
 bnd (aC 1 v36 (.i .i64 (Int.ofNat 5)) h36) fun _ h37 =>
 bnd (rec 112 [x0] h37) fun v38 h38 =>
 bnd (aK 0 v38 h38) fun v39 h39 =>
 bnd (aK 1 v38 h39) fun v40 h40 =>
 bnd (aB 1 x4 h40) fun v41 h41 =>
 bnd (aC 1 v41 v39 h41) fun _ h42 =>
  eY rec n x2 x4 v40 h42) (
 bnd (aF .eql x6 (.i .u8 (Int.ofNat 35)) h28) fun v43 h43 =>
 bnd (gD v43 true (some (x0, h43)) h43) fun v44 h44 =>
 bnd (gD v43 true (rec 106 [v44, (.i .i64 (Int.ofNat 1))] h44) h44) fun v45 h45 =>
 bnd (gD v43 true (aF .eql v45 (.i .u8 (Int.ofNat 40)) h45) h45) fun v46 h46 =>
 bnd (aV v43 v46 (.b false) h46) fun v47 h47 =>
 aU v47 (
 bnd (bM x0 h47) fun v48 h48 =>
 bnd (aB 1 v48 h48) fun v49 h49 =>
 bnd (aD v49 h49) fun v50 h50 =>
 bnd (aF .add v50 (.i .i64 (Int.ofNat 2)) h50) fun v51 h51 =>
 bnd (bM x0 h51) fun v52 h52 =>
 bnd (aB 1 v52 h52) fun v53 h53 =>
 bnd (aC 1 v53 v51 h53) fun _ h54 =>
 bnd (aB 0 x4 h54) fun v55 h55 =>
 bnd (aC 1 v55 (.i .i64 (Int.ofNat 7)) h55) fun _ h56 =>
  eY rec n x2 x4 x5 h56) (
 bnd (aF .eql x6 (.i .u8 (Int.ofNat 35)) h47) fun v57 h57 =>
 aU v57 (
 bnd (bM x0 h57) fun v58 h58 =>
 bnd (aB 1 v58 h58) fun v59 h59 =>
 bnd (aD v59 h59) fun v60 h60 =>
 bnd (aF .add v60 (.i .i64 (Int.ofNat 1)) h60) fun v61 h61 =>
 bnd (bM x0 h61) fun v62 h62 =>
 bnd (aB 1 v62 h62) fun v63 h63 =>
 bnd (aC 1 v63 v61 h63) fun _ h64 =>
 bnd (aB 0 x4 h64) fun v65 h65 =>
 bnd (aC 1 v65 (.i .i64 (Int.ofNat 6)) h65) fun _ h66 =>
 bnd (rec 113 [x0] h66) fun v67 h67 =>
 bnd (aK 0 v67 h67) fun v68 h68 =>
 bnd (aK 1 v67 h68) fun v69 h69 =>
 bnd (aB 1 x4 h69) fun v70 h70 =>
 bnd (aC 1 v70 v68 h70) fun _ h71 =>
  eY rec n x2 x4 v69 h71) (
 bnd (aF .eql x6 (.i .u8 (Int.ofNat 58)) h57) fun v72 h72 =>
 bnd (gD v72 true (some (x0, h72)) h72) fun v73 h73 =>
 bnd (gD v72 true (rec 106 [v73, (.i .i64 (Int.ofNat 1))] h73) h73) fun v74 h74 =>
 bnd (gD v72 true (aF .eql v74 (.i .u8 (Int.ofNat 61)) h74) h74) fun v75 h75 =>
 bnd (aV v72 v75 (.b false) h75) fun v76 h76 =>
 aU v76 (
 bnd (bM x0 h76) fun v77 h77 =>
 bnd (aB 1 v77 h77) fun v78 h78 =>
 bnd (aD v78 h78) fun v79 h79 =>
 bnd (aF .add v79 (.i .i64 (Int.ofNat 2)) h79) fun v80 h80 =>
 bnd (bM x0 h80) fun v81 h81 =>
 bnd (aB 1 v81 h81) fun v82 h82 =>
 bnd (aC 1 v82 v80 h82) fun _ h83 =>
 bnd (aB 0 x4 h83) fun v84 h84 =>
 bnd (aC 1 v84 (.i .i64 (Int.ofNat 9)) h84) fun _ h85 =>
  eY rec n x2 x4 x5 h85) (
 bnd (aF .eql x6 (.i .u8 (Int.ofNat 58)) h76) fun v86 h86 =>
 bnd (gD v86 true (some (x0, h86)) h86) fun v87 h87 =>
 bnd (gD v86 true (rec 106 [v87, (.i .i64 (Int.ofNat 1))] h87) h87) fun v88 h88 =>
 bnd (gD v86 true (rec 107 [v88] h88) h88) fun v89 h89 =>
 bnd (aV v86 v89 (.b false) h89) fun v90 h90 =>
 aU v90 (
 bnd (bM x0 h90) fun v91 h91 =>
 bnd (aB 1 v91 h91) fun v92 h92 =>
 bnd (aD v92 h92) fun v93 h93 =>
 bnd (aF .add v93 (.i .i64 (Int.ofNat 1)) h93) fun v94 h94 =>
 bnd (bM x0 h94) fun v95 h95 =>
 bnd (aB 1 v95 h95) fun v96 h96 =>
 bnd (aC 1 v96 v94 h96) fun _ h97 =>
 bnd (aB 0 x4 h97) fun v98 h98 =>
 bnd (aC 1 v98 (.i .i64 (Int.ofNat 8)) h98) fun _ h99 =>
 bnd (rec 108 [x0] h99) fun v100 h100 =>
 bnd (aK 0 v100 h100) fun v101 h101 =>
 bnd (aK 1 v100 h101) fun v102 h102 =>
 bnd (aB 1 x4 h102) fun v103 h103 =>
 bnd (aC 1 v103 v101 h103) fun _ h104 =>
  eY rec n x2 x4 v102 h104) (
 bnd (rec 75 [(.s [43, 45, 42, 47, 60, 62, 61, 126, 44, 64, 38, 37])] h90) fun v105 h105 =>
 bnd (dS CF rec v105 [x6] h105) fun v106 h106 =>
 aU v106 (
 bnd (rec 75 [(.s [43, 45, 42, 47, 60, 62, 61, 126, 44, 64, 38, 37])] h106) fun v107 h107 =>
 bnd (rec 74 [x0, v107, (.i .i64 (Int.ofNat 2))] h107) fun v108 h108 =>
 bnd (aB 0 x4 h108) fun v109 h109 =>
 bnd (aC 1 v109 (.i .i64 (Int.ofNat 3)) h109) fun _ h110 =>
 bnd (aB 1 x4 h110) fun v111 h111 =>
 bnd (aC 1 v111 v108 h111) fun _ h112 =>
  eY rec n x2 x4 x5 h112) (
 bnd (rec 75 [(.s [94, 46, 59, 40, 41, 91, 93, 124])] h106) fun v113 h113 =>
 bnd (dS CF rec v113 [x6] h113) fun v114 h114 =>
 aU v114 (
 bnd (rec 75 [(.s [94, 46, 59, 40, 41, 91, 93, 124])] h114) fun v115 h115 =>
 bnd (rec 74 [x0, v115, (.i .i64 (Int.ofNat 1))] h115) fun v116 h116 =>
 bnd (aB 0 x4 h116) fun v117 h117 =>
 bnd (aC 1 v117 (.i .i64 (Int.ofNat 10)) h117) fun _ h118 =>
 bnd (aB 1 x4 h118) fun v119 h119 =>
 bnd (aC 1 v119 v116 h119) fun _ h120 =>
  eY rec n x2 x4 x5 h120) (
  eY rec n x2 x4 (.i .i64 (Int.ofNat 10)) h114)))))))))
def cQs (rec : RT) (n : Nat) (x0 x2 x4 x5 : DV) (h0 : Hp) : aH :=
 bnd (rec 106 [x0, (.i .i64 (Int.ofNat 0))] h0) fun v1 h1 =>
  cPh rec n x0 x2 x4 x5 v1 h1
def cOp (rec : RT) (n : Nat) (x0 x2 x4 : DV) (h0 : Hp) : aH :=
 cQs rec n x0 x2 x4 (.i .i64 (Int.ofNat 0)) h0
def cQq (rec : RT) (n : Nat) (x0 x2 : DV) (h0 : Hp) : aH :=
 bnd (bM x0 h0) fun v1 h1 =>
 bnd (aB 1 v1 h1) fun v2 h2 =>
 bnd (aD v2 h2) fun v3 h3 =>
 bnd (bB [(.i .i64 (Int.ofNat 0)), (.s []), (.i .i64 (Int.ofNat 0)), (.i .i64 (Int.ofNat 0))] [(3, 1, v3)] h3) fun v4 h4 =>
 bnd (bG [(.i .i64 (Int.ofNat 0)), (.s []), (.i .i64 (Int.ofNat 0)), (.i .i64 (Int.ofNat 0))] h4) fun v5 h5 =>
 bnd (aC 4 v5 v4 h5) fun _ h6 =>
  cOp rec n x0 x2 v5 h6
def s76 (rec : RT) (n : Nat) (x0 : DV) (h0 : Hp) : aH :=
 bnd (bG [(.i .i64 (Int.ofNat 0)), (.s []), (.i .i64 (Int.ofNat 0)), (.i .i64 (Int.ofNat 0))] h0) fun v1 h1 =>
  cQq rec n x0 v1 h1
abbrev c76 : Code := cf Tryz.f76
abbrev r76 : K := bD CF Tryz.f76
def D76 (rec : RT) (n : Nat) (c : Code) (X : Nat → K) (k : K) : K := aR CF rec 153 n c X r76 k
theorem dNs : D76 rec n c76 x0 r76 = (K1 (s76 rec n) 0) := by kernel_rfl
theorem dFa (args : List DV) (h : Hp) : aL CF rec n 76 args h = s76 rec n (args.getD 0 aA) h :=
 cZ (dNs rec n) args h (by kernel_rfl) (by kernel_rfl)
def s77 (rec : RT) (n : Nat) (x0 x1 x2 : DV) (h0 : Hp) : aH :=
 bnd (rec 81 [x0, (.i .i64 (Int.ofNat 0))] h0) fun v1 h1 =>
 bnd (bG [(.i .i64 (Int.ofNat 0)), (.s []), (.i .i64 (Int.ofNat 0)), (.i .i64 (Int.ofNat 0))] h1) fun v2 h2 =>
 bnd (aC 4 v2 v1 h2) fun _ h3 =>
 bnd (bM x0 h3) fun v4 h4 =>
 bnd (aB 3 v4 h4) fun v5 h5 =>
 bnd (aD v5 h5) fun v6 h6 =>
 bnd (aF .eql v6 (.i .i64 (Int.ofNat 0)) h6) fun v7 h7 =>
 bnd (gD v7 true (aB 0 v2 h7) h7) fun v8 h8 =>
 bnd (gD v7 true (aD v8 h8) h8) fun v9 h9 =>
 bnd (gD v7 true (some (x1, h9)) h9) fun v10 h10 =>
 bnd (gD v7 true (aF .eql v9 v10 h10) h10) fun v11 h11 =>
 bnd (aV v7 v11 (.b false) h11) fun v12 h12 =>
 bnd (gD v12 true (some (x2, h12)) h12) fun v13 h13 =>
 bnd (gD v12 true (bY .eql v13 (.s []) h13) h13) fun v14 h14 =>
 bnd (gD v12 true (some (v14, h14)) h14) fun v15 h15 =>
 bnd (gD v15 false (aB 1 v2 h15) h15) fun v16 h16 =>
 bnd (gD v15 false (aD v16 h16) h16) fun v17 h17 =>
 bnd (gD v15 false (some (x2, h17)) h17) fun v18 h18 =>
 bnd (gD v15 false (bY .eql v17 v18 h18) h18) fun v19 h19 =>
 bnd (gD v12 true (aV v15 (.b true) v19 h19) h19) fun v20 h20 =>
 bnd (aV v12 v20 (.b false) h20) fun v21 h21 =>
 some (v21, h21)
abbrev c77 : Code := cf Tryz.f77
abbrev r77 : K := bD CF Tryz.f77
def D77 (rec : RT) (n : Nat) (c : Code) (X : Nat → K) (k : K) : K := aR CF rec 31 n c X r77 k
theorem dMa : D77 rec n c77 x0 r77 = (K3 (s77 rec n) 0 1 2) :=
 (by kernel_rfl)
theorem dGd (args : List DV) (h : Hp) : aL CF rec n 77 args h = s77 rec n (args.getD 0 aA) (args.getD 1 aA) (args.getD 2 aA) h :=
 cZ (dMa rec n) args h (by kernel_rfl) (by kernel_rfl)
def bXd (rec : RT) (n : Nat) (x2 x3 : DV) (h0 : Hp) : aH :=
 bnd (aE 4 x3 h0) fun v1 h1 =>
 bnd (aC 4 x2 v1 h1) fun _ h2 =>
 bnd (aE 4 x2 h2) fun v3 _ =>
 some (v3, h2)
def cQh (rec : RT) (n : Nat) (x0 x2 x3 : DV) (h0 : Hp) : aH :=
 bnd (aB 0 x3 h0) fun v1 h1 =>
 bnd (aD v1 h1) fun v2 h2 =>
 bnd (aF .neq v2 (.i .i64 (Int.ofNat 0)) h2) fun v3 h3 =>
 aU v3 (
 bnd (bM x0 h3) fun v4 h4 =>
 bnd (aB 0 v4 h4) fun v5 h5 =>
 bnd (aD v5 h5) fun v6 h6 =>
 bnd (cK 4 v6 (some (.i .i64 (Int.ofNat 1))) none h6) fun v7 h7 =>
 bnd (bM x0 h7) fun v8 h8 =>
 bnd (aB 0 v8 h8) fun v9 h9 =>
 bnd (aC 1 v9 v7 h9) fun _ h10 =>
  bXd rec n x2 x3 h10) (
  bXd rec n x2 x3 h3)
def cOo (rec : RT) (n : Nat) (x0 x2 : DV) (h0 : Hp) : aH :=
 bnd (rec 81 [x0, (.i .i64 (Int.ofNat 0))] h0) fun v1 h1 =>
 bnd (bG [(.i .i64 (Int.ofNat 0)), (.s []), (.i .i64 (Int.ofNat 0)), (.i .i64 (Int.ofNat 0))] h1) fun v2 h2 =>
 bnd (aC 4 v2 v1 h2) fun _ h3 =>
  cQh rec n x0 x2 v2 h3
def s78 (rec : RT) (n : Nat) (x0 : DV) (h0 : Hp) : aH :=
 bnd (bG [(.i .i64 (Int.ofNat 0)), (.s []), (.i .i64 (Int.ofNat 0)), (.i .i64 (Int.ofNat 0))] h0) fun v1 h1 =>
  cOo rec n x0 v1 h1
abbrev c78 : Code := cf Tryz.f78
abbrev r78 : K := bD CF Tryz.f78
def D78 (rec : RT) (n : Nat) (c : Code) (X : Nat → K) (k : K) : K := aR CF rec 18 n c X r78 k
theorem dOv : D78 rec n c78 x0 r78 = (K1 (s78 rec n) 0) := by kernel_rfl
theorem dHh (args : List DV) (h : Hp) : aL CF rec n 78 args h = s78 rec n (args.getD 0 aA) h :=
 cZ (dOv rec n) args h (by kernel_rfl) (by kernel_rfl)
def s79 (rec : RT) (n : Nat) (x0 : DV) (h0 : Hp) : aH :=
 bnd (bG [(.i .i64 (Int.ofNat 0)), (.s []), (.i .i64 (Int.ofNat 0)), .l0, .l0, .l0] h0) fun v1 h1 =>
 bnd (rec 77 [x0, (.i .i64 (Int.ofNat 1)), (.s [])] h1) fun v2 h2 =>
 bnd (gD v2 true (some (x0, h2)) h2) fun v3 h3 =>
 bnd (gD v2 true (rec 81 [v3, (.i .i64 (Int.ofNat 1))] h3) h3) fun v4 h4 =>
 bnd (gD v2 true (cB 0 v4 h4) h4) fun v5 h5 =>
 bnd (gD v2 true (aF .eql v5 (.i .i64 (Int.ofNat 9)) h5) h5) fun v6 h6 =>
 bnd (aV v2 v6 (.b false) h6) fun v7 h7 =>
 aU v7 (
 bnd (rec 78 [x0] h7) fun v8 h8 =>
 bnd (cB 1 v8 h8) fun v9 h9 =>
 bnd (bB [(.i .i64 (Int.ofNat 0)), (.s []), (.i .i64 (Int.ofNat 0)), .l0, .l0, .l0] [(0, 1, (.i .i64 (Int.ofNat 6))), (1, 1, v9)] h9) fun v10 h10 =>
 bnd (bG [(.i .i64 (Int.ofNat 0)), (.s []), (.i .i64 (Int.ofNat 0)), .l0, .l0, .l0] h10) fun v11 h11 =>
 bnd (aC 6 v11 v10 h11) fun _ h12 =>
 bnd (rec 78 [x0] h12) fun v13 h13 =>
 bnd (rec 79 [x0] h13) fun v14 h14 =>
 bnd (aO [(.i .i64 (Int.ofNat 0)), (.s []), (.i .i64 (Int.ofNat 0)), .l0, .l0, .l0] 1 [(0, 6, v14)] h14) fun v15 h15 =>
 bnd (aB 5 v11 h15) fun v16 h16 =>
 bnd (aC 1 v16 v15 h16) fun _ h17 =>
 bnd (aE 6 v11 h17) fun v18 h18 =>
 bnd (aC 6 v1 v18 h18) fun _ h19 =>
 bnd (aE 6 v1 h19) fun v20 _ =>
 some (v20, h19)) (
 bnd (rec 114 [x0] h7) fun v21 h21 =>
 bnd (aC 6 v1 v21 h21) fun _ h22 =>
 bnd (aE 6 v1 h22) fun v23 _ =>
 some (v23, h22))
abbrev c79 : Code := cf Tryz.f79
abbrev r79 : K := bD CF Tryz.f79
def D79 (rec : RT) (n : Nat) (c : Code) (X : Nat → K) (k : K) : K := aR CF rec 25 n c X r79 k
theorem dOo : D79 rec n c79 x0 r79 = (K1 (s79 rec n) 0) :=
 (by kernel_rfl)
theorem dEc (args : List DV) (h : Hp) : aL CF rec n 79 args h = s79 rec n (args.getD 0 aA) h :=
 cZ (dOo rec n) args h (by kernel_rfl) (by kernel_rfl)
def s80 (rec : RT) (n : Nat) (x0 x1 x2 : DV) (h0 : Hp) : aH :=
 bnd (dW x1 h0) fun v1 h1 =>
 bnd (bM x0 h1) fun v2 h2 =>
 bnd (aB 3 v2 h2) fun v3 h3 =>
 bnd (aD v3 h3) fun v4 h4 =>
 bnd (aF .eql v4 (.i .i64 (Int.ofNat 0)) h4) fun v5 h5 =>
 aU v5 (
 bnd (aB 3 v1 h5) fun v6 h6 =>
 bnd (aD v6 h6) fun v7 h7 =>
 bnd (bM x0 h7) fun v8 h8 =>
 bnd (aB 2 v8 h8) fun v9 h9 =>
 bnd (aC 1 v9 v7 h9) fun _ h10 =>
 bnd (bM x0 h10) fun v11 h11 =>
 bnd (aB 3 v11 h11) fun v12 h12 =>
 bnd (aC 1 v12 x2 h12) fun _ h13 =>
 some (.t [], h13)) (
 some (.t [], h5))
abbrev c80 : Code := cf Tryz.f80
abbrev r80 : K := bD CF Tryz.f80
def D80 (rec : RT) (n : Nat) (c : Code) (X : Nat → K) (k : K) : K := aR CF rec 20 n c X r80 k
theorem dOr : D80 rec n c80 x0 r80 = (K3 (s80 rec n) 0 1 2) :=
 (by kernel_rfl)
theorem dHw (args : List DV) (h : Hp) : aL CF rec n 80 args h = s80 rec n (args.getD 0 aA) (args.getD 1 aA) (args.getD 2 aA) h :=
 cZ (dOr rec n) args h (by kernel_rfl) (by kernel_rfl)
def s81 (rec : RT) (n : Nat) (x0 x1 : DV) (h0 : Hp) : aH :=
 bnd (bG [(.i .i64 (Int.ofNat 0)), (.s []), (.i .i64 (Int.ofNat 0)), (.i .i64 (Int.ofNat 0))] h0) fun v1 h1 =>
 bnd (bM x0 h1) fun v2 h2 =>
 bnd (aB 0 v2 h2) fun v3 h3 =>
 bnd (aD v3 h3) fun v4 h4 =>
 bnd (bM x0 h4) fun v5 h5 =>
 bnd (aB 0 v5 h5) fun v6 h6 =>
 bnd (aD v6 h6) fun v7 h7 =>
 bnd (dB v7 h7) fun v8 h8 =>
 bnd (aF .sub v8 (.i .i64 (Int.ofNat 1)) h8) fun v9 h9 =>
 bnd (bFc x1 v9 h9) fun v10 h10 =>
 bnd (aP 4 v4 v10 h10) fun v11 h11 =>
 bnd (aE 4 v11 h11) fun v12 h12 =>
 bnd (aC 4 v1 v12 h12) fun v13 h13 =>
 bnd (aE 4 v1 h13) fun v14 _ =>
 some (v14, h13)
abbrev c81 : Code := cf Tryz.f81
abbrev r81 : K := bD CF Tryz.f81
def D81 (rec : RT) (n : Nat) (c : Code) (X : Nat → K) (k : K) : K := aR CF rec 19 n c X r81 k
theorem dPi : D81 rec n c81 x0 r81 = (K2 (s81 rec n) 0 1) :=
 (by kernel_rfl)
theorem dFt (args : List DV) (h : Hp) : aL CF rec n 81 args h = s81 rec n (args.getD 0 aA) (args.getD 1 aA) h :=
 cZ (dPi rec n) args h (by kernel_rfl) (by kernel_rfl)
def bKs (rec : RT) (n : Nat) (x7 : DV) (h0 : Hp) : aH :=
 bnd (aB 1 x7 h0) fun v1 h1 =>
 bnd (aD v1 h1) fun v2 h2 =>
 some (v2, h2)
def cNt (rec : RT) (n : Nat) (x0 x2 x7 : DV) (h0 : Hp) : aH :=
 bnd (dB x2 h0) fun v1 h1 =>
 bnd (aF .eql v1 (.i .i64 (Int.ofNat 4)) h1) fun v2 h2 =>
 aU v2 (
 bnd (aE 4 x7 h2) fun v3 h3 =>
 bnd (rec 80 [x0, v3, (.i .i64 (Int.ofNat 18))] h3) fun v4 h4 =>
  bKs rec n x7 h4) (
  bKs rec n x7 h2)
def cPa (rec : RT) (n : Nat) (x0 x1 x2 : DV) (h0 : Hp) : aH :=
 bnd (rec 51 [x0, x1, (.s [])] h0) fun v1 h1 =>
 bnd (bG [(.i .i64 (Int.ofNat 0)), (.s []), (.i .i64 (Int.ofNat 0)), (.i .i64 (Int.ofNat 0))] h1) fun v2 h2 =>
 bnd (aC 4 v2 v1 h2) fun _ h3 =>
  cNt rec n x0 x2 v2 h3
def s82 (rec : RT) (n : Nat) (x0 x1 x2 : DV) (h0 : Hp) : aH :=
 cPa rec n x0 x1 x2 h0
abbrev c82 : Code := cf Tryz.f82
abbrev r82 : K := bD CF Tryz.f82
def D82 (rec : RT) (n : Nat) (c : Code) (X : Nat → K) (k : K) : K := aR CF rec 19 n c X r82 k
theorem dNa : D82 rec n c82 x0 r82 = (K3 (s82 rec n) 0 1 2) := by kernel_rfl
theorem dFh (args : List DV) (h : Hp) : aL CF rec n 82 args h = s82 rec n (args.getD 0 aA) (args.getD 1 aA) (args.getD 2 aA) h :=
 cZ (dNa rec n) args h (by kernel_rfl) (by kernel_rfl)
def s85 (rec : RT) (n : Nat) (x0 x1 : DV) (h0 : Hp) : aH :=
 bnd (bFf [x0, x1] h0) fun v1 h1 =>
 some (v1, h1)
abbrev c85 : Code := cf Tryz.f85
abbrev r85 : K := bD CF Tryz.f85
def D85 (rec : RT) (n : Nat) (c : Code) (X : Nat → K) (k : K) : K := aR CF rec 8 n c X r85 k
theorem dMk : D85 rec n c85 x0 r85 = (K2 (s85 rec n) 0 1) :=
 (by kernel_rfl)
theorem dJq (args : List DV) (h : Hp) : aL CF rec n 85 args h = s85 rec n (args.getD 0 aA) (args.getD 1 aA) h :=
 cZ (dMk rec n) args h (by kernel_rfl) (by kernel_rfl)
def s89 (rec : RT) (n : Nat) (x0 x1 x2 : DV) (h0 : Hp) : aH :=
 bnd (dB x0 h0) fun v1 h1 =>
 bnd (aF .geq x1 v1 h1) fun v2 h2 =>
 aU v2 (
 some ((.s []), h2)) (
 bnd (aP 6 x0 x1 h2) fun v3 h3 =>
 bnd (aE 6 v3 h3) fun v4 h4 =>
 bnd (rec 126 [v4] h4) fun v5 h5 =>
 bnd (aF .gtr v5 x2 h5) fun v6 h6 =>
 aU v6 (
 bnd (aP 6 x0 x1 h6) fun v7 h7 =>
 bnd (aE 6 v7 h7) fun v8 h8 =>
 bnd (rec 36 [v8] h8) fun v9 h9 =>
 bnd (aO [(.s []), (.s []), (.s [])] 3 [(0, 1, (.s [40])), (1, 1, v9), (2, 1, (.s [41]))] h9) fun v10 h10 =>
 bnd (rec 19 [v10] h10) fun v11 h11 =>
 some (v11, h11)) (
 bnd (aP 6 x0 x1 h6) fun v12 h12 =>
 bnd (aE 6 v12 h12) fun v13 h13 =>
 bnd (rec 36 [v13] h13) fun v14 h14 =>
 some (v14, h14)))
abbrev c89 : Code := cf Tryz.f89
abbrev r89 : K := bD CF Tryz.f89
def D89 (rec : RT) (n : Nat) (c : Code) (X : Nat → K) (k : K) : K := aR CF rec 32 n c X r89 k
theorem dMd : D89 rec n c89 x0 r89 = (K3 (s89 rec n) 0 1 2) :=
 (by kernel_rfl)
theorem dLj (args : List DV) (h : Hp) : aL CF rec n 89 args h = s89 rec n (args.getD 0 aA) (args.getD 1 aA) (args.getD 2 aA) h :=
 cZ (dMd rec n) args h (by kernel_rfl) (by kernel_rfl)
def gS (rec : RT) (n : Nat) (x5 : DV) (h0 : Hp) : aH :=
 bnd (nJ [x5, (.s [32])] h0) fun v1 h1 =>
 some (v1, h1)
def tY (rec : RT) (n : Nat) (kk6 : TT5) (x1 x5 x21 x22 x23 : DV) (h0 : Hp) : aH :=
 bnd (aF .lss x23 x22 h0) fun v1 h1 =>
 aU v1 (
 bnd (aP 1 x21 x23 h1) fun v2 h2 =>
 bnd (aD v2 h2) fun v3 h3 =>
 bnd (rec 89 [x1, x23, (.i .i64 (Int.ofNat 2))] h3) fun v4 h4 =>
 bnd (aO [(.s []), (.s []), (.s [])] 3 [(0, 1, v3), (1, 1, (.s [32])), (2, 1, v4)] h4) fun v5 h5 =>
 bnd (rec 19 [v5] h5) fun v6 h6 =>
 bnd (aO [(.s [])] 1 [(0, 1, v6)] h6) fun v7 h7 =>
 bnd (aX 1 16 x5 v7 h7) fun v8 h8 =>
 bnd (aF .add x23 (.i .i64 (Int.ofNat 1)) h8) fun v9 h9 =>
      kk6 x1 v8 x21 x22 v9 h9) (
      gS rec n x5 h1)
def nA (rec : RT) (n : Nat) (m : Nat) : TT5 :=
 Nat.rec (motive := fun _ => TT5) (fun _ _ _ _ _ _ => none) (fun _ ih => tY rec n ih) m
def bHg (rec : RT) (n : Nat) : TT5 := nA rec n n
def bAb (rec : RT) (n : Nat) (x1 x5 x21 x22 x23 : DV) (h0 : Hp) : aH :=
 bHg rec n x1 x5 x21 x22 x23 h0
def bCx (rec : RT) (n : Nat) (x0 x1 x5 : DV) (h0 : Hp) : aH :=
 bnd (rec 33 [x0] h0) fun v1 h1 =>
 bnd (dB v1 h1) fun v2 h2 =>
  bAb rec n x1 x5 v1 v2 (.i .i64 (Int.ofNat 0)) h2
def aYb (rec : RT) (n : Nat) (x0 x1 : DV) (h0 : Hp) : aH :=
 bCx rec n x0 x1 .l0 h0
def aXz (rec : RT) (n : Nat) (x0 x1 : DV) (h0 : Hp) : aH :=
 bnd (rec 32 [x0] h0) fun v1 h1 =>
 bnd (aF .eql v1 (.i .i64 (Int.ofNat 1)) h1) fun v2 h2 =>
 aU v2 (
 some (x0, h2)) (
 bnd (aF .eql v1 (.i .i64 (Int.ofNat 2)) h2) fun v3 h3 =>
 aU v3 (
 bnd (rec 89 [x1, (.i .i64 (Int.ofNat 0)), (.i .i64 (Int.ofNat 1))] h3) fun v4 h4 =>
 bnd (aO [(.s []), (.s []), (.s [])] 3 [(0, 1, x0), (1, 1, (.s [32])), (2, 1, v4)] h4) fun v5 h5 =>
 bnd (rec 19 [v5] h5) fun v6 h6 =>
 some (v6, h6)) (
  aYb rec n x0 x1 h3))
def s90 (rec : RT) (n : Nat) (x0 x1 : DV) (h0 : Hp) : aH :=
 aXz rec n x0 x1 h0
abbrev c90 : Code := cf Tryz.f90
abbrev bBp := cR c90
abbrev aUr := cR bBp
abbrev aWg := cR aUr
abbrev dHm := cR aWg
abbrev aOs := cL aWg
abbrev bYd := cR aOs
abbrev aYn := cL bYd
abbrev xY := cL aYn
abbrev cOb := cL aOs
abbrev bNz := cL aUr
abbrev bJz := cL bBp
abbrev bMz := cL c90
abbrev r90 : K := bD CF Tryz.f90
def D90 (rec : RT) (n : Nat) (c : Code) (X : Nat → K) (k : K) : K := aR CF rec 40 n c X r90 k
theorem dAj : D90 rec n dHm x0 r90 = (K1 (gS rec n) 5) := by kernel_rfl
theorem cGz (kk6 : TT5) : D90 rec n xY (xs x0 1 (K1 (gS rec n) 5)) (K5 kk6 1 5 21 22 23) = (K5 (tY rec n kk6) 1 5 21 22 23) := by kernel_rfl
theorem bZl (m : Nat) : aG (fun kk => D90 rec n xY (xs x0 1 (K1 (gS rec n) 5)) kk) m = (K5 (nA rec n m) 1 5 21 22 23) := by
 induction m with
 | zero => exact (by kernel_rfl : aG (fun kk => D90 rec n xY (xs x0 1 (K1 (gS rec n) 5)) kk) 0 = (K5 (nA rec n 0) 1 5 21 22 23))
 | succ m ih =>
  refine (by kernel_rfl : aG (fun kk => D90 rec n xY (xs x0 1 (K1 (gS rec n) 5)) kk) (m + 1) = D90 rec n xY (xs x0 1 (K1 (gS rec n) 5)) (aG (fun kk => D90 rec n xY (xs x0 1 (K1 (gS rec n) 5)) kk) m)).trans ?_
  rw [ih]
  exact (cGz rec n (nA rec n m)).trans (by kernel_rfl)
theorem cYp : D90 rec n aYn (xs x0 1 (K1 (gS rec n) 5)) (K1 (gS rec n) 5) = (K5 (bHg rec n) 1 5 21 22 23) :=
 (by kernel_rfl : D90 rec n aYn (xs x0 1 (K1 (gS rec n) 5)) (K1 (gS rec n) 5) = aG (fun kk => D90 rec n xY (xs x0 1 (K1 (gS rec n) 5)) kk) n).trans ((bZl rec n n).trans (by kernel_rfl))
theorem cZh : D90 rec n bYd x0 (K1 (gS rec n) 5) = (K5 (bAb rec n) 1 5 21 22 23) :=
 (by kernel_rfl : D90 rec n bYd x0 (K1 (gS rec n) 5) = D90 rec n aYn (xs x0 1 (K1 (gS rec n) 5)) (K1 (gS rec n) 5)).trans
 ((cYp rec n).trans (by kernel_rfl))
theorem cFz : D90 rec n aWg x0 r90 = D90 rec n aOs x0 (K1 (gS rec n) 5) :=
 congrArg (fun k => D90 rec n aOs x0 k) (dAj rec n)
theorem cKv : D90 rec n aOs x0 (K1 (gS rec n) 5) = D90 rec n cOb x0 (K5 (bAb rec n) 1 5 21 22 23) :=
 congrArg (fun k => D90 rec n cOb x0 k) (cZh rec n)
theorem cRr : D90 rec n aWg x0 r90 = (K3 (bCx rec n) 0 1 5) :=
 (cFz rec n).trans
 ((cKv rec n).trans
 ((by kernel_rfl)))
theorem cFm : D90 rec n aUr x0 r90 = D90 rec n bNz x0 (K3 (bCx rec n) 0 1 5) :=
 congrArg (fun k => D90 rec n bNz x0 k) (cRr rec n)
theorem cVv : D90 rec n aUr x0 r90 = (K2 (aYb rec n) 0 1) :=
 (cFm rec n).trans
 ((by kernel_rfl))
theorem cAt : D90 rec n bBp x0 r90 = D90 rec n bJz x0 (K2 (aYb rec n) 0 1) :=
 congrArg (fun k => D90 rec n bJz x0 k) (cVv rec n)
theorem cVb : D90 rec n bBp x0 r90 = (K2 (aXz rec n) 0 1) :=
 (cAt rec n).trans
 ((by kernel_rfl))
theorem dKv : D90 rec n c90 x0 r90 = D90 rec n bMz x0 (K2 (aXz rec n) 0 1) :=
 congrArg (fun k => D90 rec n bMz x0 k) (cVb rec n)
theorem dNi : D90 rec n c90 x0 r90 = (K2 (s90 rec n) 0 1) :=
 (dKv rec n).trans
 ((by kernel_rfl))
theorem dFd (args : List DV) (h : Hp) : aL CF rec n 90 args h = s90 rec n (args.getD 0 aA) (args.getD 1 aA) h :=
 cZ (dNi rec n) args h (by kernel_rfl) (by kernel_rfl)
def s91 (rec : RT) (n : Nat) (x0 : DV) (h0 : Hp) : aH :=
 bnd (dW x0 h0) fun v1 h1 =>
 bnd (aB 1 v1 h1) fun v2 h2 =>
 bnd (aD v2 h2) fun v3 h3 =>
 bnd (aB 5 v1 h3) fun v4 h4 =>
 bnd (aD v4 h4) fun v5 h5 =>
 bnd (rec 90 [v3, v5] h5) fun v6 h6 =>
 bnd (aO [(.s []), (.s [])] 2 [(0, 1, (.s [59, 32])), (1, 1, v6)] h6) fun v7 h7 =>
 bnd (rec 19 [v7] h7) fun v8 h8 =>
 some (v8, h8)
abbrev c91 : Code := cf Tryz.f91
abbrev r91 : K := bD CF Tryz.f91
def D91 (rec : RT) (n : Nat) (c : Code) (X : Nat → K) (k : K) : K := aR CF rec 10 n c X r91 k
theorem dLm : D91 rec n c91 x0 r91 = (K1 (s91 rec n) 0) :=
 (by kernel_rfl)
theorem dEl (args : List DV) (h : Hp) : aL CF rec n 91 args h = s91 rec n (args.getD 0 aA) h :=
 cZ (dLm rec n) args h (by kernel_rfl) (by kernel_rfl)
def aWd (rec : RT) (n : Nat) (x0 x1 x5 : DV) (h0 : Hp) : aH :=
 bnd (rec 127 [x1, (.i .i64 (Int.ofNat 0)), x5] h0) fun v1 h1 =>
 bnd (bY .add v1 (.s [32]) h1) fun v2 h2 =>
 bnd (cK 6 x1 (some (.i .i64 (Int.ofNat 1))) none h2) fun v3 h3 =>
 cnd (bP (cK 6 x1 (some (.i .i64 (Int.ofNat 1))) none h0) v3 && true) (
 bnd (rec 93 [x0, v3] h3) fun v4 h4 =>
 bnd (bY .add v2 v4 h4) fun v5 h5 =>
 some (v5, h5))
def cNw (rec : RT) (n : Nat) (x0 x1 x5 : DV) (h0 : Hp) : aH :=
 bnd (rec 39 [x0] h0) fun v1 h1 =>
 bnd (aF .eql v1 (.i .i64 (Int.ofNat 1)) h1) fun v2 h2 =>
 aU v2 (
  aWd rec n x0 x1 (.i .i64 (Int.ofNat 1)) h2) (
  aWd rec n x0 x1 x5 h2)
def cQo (rec : RT) (n : Nat) (x0 x1 : DV) (h0 : Hp) : aH :=
 cNw rec n x0 x1 (.i .i64 (Int.ofNat 2)) h0
def cQt (rec : RT) (n : Nat) (x0 x1 : DV) (h0 : Hp) : aH :=
 bnd (dB x1 h0) fun v1 h1 =>
 bnd (aF .eql v1 (.i .i64 (Int.ofNat 0)) h1) fun v2 h2 =>
 aU v2 (
 some ((.s []), h2)) (
  cQo rec n x0 x1 h2)
def s92 (rec : RT) (n : Nat) (x0 x1 : DV) (h0 : Hp) : aH :=
 cQt rec n x0 x1 h0
abbrev c92 : Code := cf Tryz.f92
abbrev r92 : K := bD CF Tryz.f92
def D92 (rec : RT) (n : Nat) (c : Code) (X : Nat → K) (k : K) : K := aR CF rec 21 n c X r92 k
theorem dLw : D92 rec n c92 x0 r92 = (K2 (s92 rec n) 0 1) := by kernel_rfl
theorem dIk (args : List DV) (h : Hp) : aL CF rec n 92 args h = s92 rec n (args.getD 0 aA) (args.getD 1 aA) h :=
 cZ (dLw rec n) args h (by kernel_rfl) (by kernel_rfl)
def gL (rec : RT) (n : Nat) (x6 : DV) (h0 : Hp) : aH :=
 some (x6, h0)
def bXb (rec : RT) (n : Nat) (kk9 : iG) (x1 x6 x7 x8 : DV) (h0 : Hp) : aH :=
 bnd (aF .add x8 (.i .i64 (Int.ofNat 1)) h0) fun v1 h1 =>
  kk9 x1 x6 x7 v1 h1
def aKc (rec : RT) (n : Nat) (kk9 : iG) (x1 x6 x7 x8 : DV) (h0 : Hp) : aH :=
 bnd (aP 1 x7 x8 h0) fun v1 h1 =>
 bnd (aD v1 h1) fun v2 h2 =>
 bnd (bY .add x6 v2 h2) fun v3 h3 =>
 bnd (bY .add v3 (.s [32]) h3) fun v4 h4 =>
 bnd (rec 127 [x1, x8, (.i .i64 (Int.ofNat 2))] h4) fun v5 h5 =>
 cnd (bP (aD v1 h5) v2 && true) (
 bnd (bY .add v4 v5 h5) fun v6 h6 =>
  bXb rec n kk9 x1 v6 x7 x8 h6)
def bLj (rec : RT) (n : Nat) (kk9 : iG) (x1 x6 x7 x8 : DV) (h0 : Hp) : aH :=
 bnd (aF .gtr x8 (.i .i64 (Int.ofNat 0)) h0) fun v1 h1 =>
 aU v1 (
 bnd (bY .add x6 (.s [32]) h1) fun v2 h2 =>
  aKc rec n kk9 x1 v2 x7 x8 h2) (
  aKc rec n kk9 x1 x6 x7 x8 h1)
def tL (rec : RT) (n : Nat) (kk9 : iG) (x1 x6 x7 x8 : DV) (h0 : Hp) : aH :=
 bnd (dB x7 h0) fun v1 h1 =>
 bnd (aF .lss x8 v1 h1) fun v2 h2 =>
 aU v2 (
  bLj rec n kk9 x1 x6 x7 x8 h2) (
  gL rec n x6 h2)
def kZ (rec : RT) (n : Nat) (m : Nat) : iG :=
 Nat.rec (motive := fun _ => iG) (fun _ _ _ _ _ => none) (fun _ ih => tL rec n ih) m
def bGp (rec : RT) (n : Nat) : iG := kZ rec n n
def aYj (rec : RT) (n : Nat) (x1 x6 x7 x8 : DV) (h0 : Hp) : aH :=
 bGp rec n x1 x6 x7 x8 h0
def aYh (rec : RT) (n : Nat) (x1 x6 x7 : DV) (h0 : Hp) : aH :=
 aYj rec n x1 x6 x7 (.i .i64 (Int.ofNat 0)) h0
def aYa (rec : RT) (n : Nat) (x0 x1 x6 : DV) (h0 : Hp) : aH :=
 bnd (rec 41 [x0] h0) fun v1 h1 =>
  aYh rec n x1 x6 v1 h1
def aZx (rec : RT) (n : Nat) (x0 x1 : DV) (h0 : Hp) : aH :=
 aYa rec n x0 x1 (.s []) h0
def aVz (rec : RT) (n : Nat) (x0 x1 x5 : DV) (h0 : Hp) : aH :=
 bnd (aF .eql x5 (.i .i64 (Int.ofNat 2)) h0) fun v1 h1 =>
 aU v1 (
 bnd (bY .add x0 (.s [32]) h1) fun v2 h2 =>
 bnd (rec 127 [x1, (.i .i64 (Int.ofNat 0)), (.i .i64 (Int.ofNat 1))] h2) fun v3 h3 =>
 bnd (bY .add v2 v3 h3) fun v4 h4 =>
 some (v4, h4)) (
  aZx rec n x0 x1 h1)
def aYd (rec : RT) (n : Nat) (x0 x1 x5 : DV) (h0 : Hp) : aH :=
 bnd (aF .eql x5 (.i .i64 (Int.ofNat 1)) h0) fun v1 h1 =>
 aU v1 (
 some (x0, h1)) (
  aVz rec n x0 x1 x5 h1)
def aXf (rec : RT) (n : Nat) (x0 x1 : DV) (h0 : Hp) : aH :=
 bnd (rec 39 [x0] h0) fun v1 h1 =>
  aYd rec n x0 x1 v1 h1
def s93 (rec : RT) (n : Nat) (x0 x1 : DV) (h0 : Hp) : aH :=
 aXf rec n x0 x1 h0
abbrev c93 : Code := cf Tryz.f93
abbrev bCq := cR c93
abbrev aZi := cR bCq
abbrev bDq := cR aZi
abbrev bAz := cR bDq
abbrev aTd := cR bAz
abbrev aXs := cR aTd
abbrev dGc := cR aXs
abbrev aNs := cL aXs
abbrev bXh := cR aNs
abbrev aEf := cL bXh
abbrev qM := cL aEf
abbrev bJq := cL aNs
abbrev bTv := cL aTd
abbrev bHl := cL bAz
abbrev bPf := cL bDq
abbrev bSs := cL aZi
abbrev bKa := cL bCq
abbrev bWm := cL c93
abbrev r93 : K := bD CF Tryz.f93
def D93 (rec : RT) (n : Nat) (c : Code) (X : Nat → K) (k : K) : K := aR CF rec 45 n c X r93 k
theorem cWf : D93 rec n dGc x0 r93 = (K1 (gL rec n) 6) := by kernel_rfl
theorem cIz (kk9 : iG) : D93 rec n qM (xs x0 0 (K1 (gL rec n) 6)) (K4 kk9 1 6 7 8) = (K4 (tL rec n kk9) 1 6 7 8) := by kernel_rfl
theorem cBm (m : Nat) : aG (fun kk => D93 rec n qM (xs x0 0 (K1 (gL rec n) 6)) kk) m = (K4 (kZ rec n m) 1 6 7 8) := by
 induction m with
 | zero => exact (by kernel_rfl : aG (fun kk => D93 rec n qM (xs x0 0 (K1 (gL rec n) 6)) kk) 0 = (K4 (kZ rec n 0) 1 6 7 8))
 | succ m ih =>
  refine (by kernel_rfl : aG (fun kk => D93 rec n qM (xs x0 0 (K1 (gL rec n) 6)) kk) (m + 1) = D93 rec n qM (xs x0 0 (K1 (gL rec n) 6)) (aG (fun kk => D93 rec n qM (xs x0 0 (K1 (gL rec n) 6)) kk) m)).trans ?_
  rw [ih]
  exact (cIz rec n (kZ rec n m)).trans (by kernel_rfl)
theorem dBy : D93 rec n aEf (xs x0 0 (K1 (gL rec n) 6)) (K1 (gL rec n) 6) = (K4 (bGp rec n) 1 6 7 8) :=
 (by kernel_rfl : D93 rec n aEf (xs x0 0 (K1 (gL rec n) 6)) (K1 (gL rec n) 6) = aG (fun kk => D93 rec n qM (xs x0 0 (K1 (gL rec n) 6)) kk) n).trans ((cBm rec n n).trans (by kernel_rfl))
theorem cZs : D93 rec n bXh x0 (K1 (gL rec n) 6) = (K4 (aYj rec n) 1 6 7 8) :=
 (by kernel_rfl : D93 rec n bXh x0 (K1 (gL rec n) 6) = D93 rec n aEf (xs x0 0 (K1 (gL rec n) 6)) (K1 (gL rec n) 6)).trans
 ((dBy rec n).trans (by kernel_rfl))
theorem cIt : D93 rec n aXs x0 r93 = D93 rec n aNs x0 (K1 (gL rec n) 6) :=
 congrArg (fun k => D93 rec n aNs x0 k) (cWf rec n)
theorem bYr : D93 rec n aNs x0 (K1 (gL rec n) 6) = D93 rec n bJq x0 (K4 (aYj rec n) 1 6 7 8) :=
 congrArg (fun k => D93 rec n bJq x0 k) (cZs rec n)
theorem cRt : D93 rec n aXs x0 r93 = (K3 (aYh rec n) 1 6 7) :=
 (cIt rec n).trans
 ((bYr rec n).trans
 ((by kernel_rfl)))
theorem cFd : D93 rec n aTd x0 r93 = D93 rec n bTv x0 (K3 (aYh rec n) 1 6 7) :=
 congrArg (fun k => D93 rec n bTv x0 k) (cRt rec n)
theorem dDv : D93 rec n aTd x0 r93 = (K3 (aYa rec n) 0 1 6) :=
 (cFd rec n).trans
 ((by kernel_rfl))
theorem cMu : D93 rec n bAz x0 r93 = D93 rec n bHl x0 (K3 (aYa rec n) 0 1 6) :=
 congrArg (fun k => D93 rec n bHl x0 k) (dDv rec n)
theorem cTm : D93 rec n bAz x0 r93 = (K2 (aZx rec n) 0 1) :=
 (cMu rec n).trans
 ((by kernel_rfl))
theorem cBe : D93 rec n bDq x0 r93 = D93 rec n bPf x0 (K2 (aZx rec n) 0 1) :=
 congrArg (fun k => D93 rec n bPf x0 k) (cTm rec n)
theorem cVd : D93 rec n bDq x0 r93 = (K3 (aVz rec n) 0 1 5) :=
 (cBe rec n).trans
 ((by kernel_rfl))
theorem cNn : D93 rec n aZi x0 r93 = D93 rec n bSs x0 (K3 (aVz rec n) 0 1 5) :=
 congrArg (fun k => D93 rec n bSs x0 k) (cVd rec n)
theorem cUe : D93 rec n aZi x0 r93 = (K3 (aYd rec n) 0 1 5) :=
 (cNn rec n).trans
 ((by kernel_rfl))
theorem bKt : D93 rec n bCq x0 r93 = D93 rec n bKa x0 (K3 (aYd rec n) 0 1 5) :=
 congrArg (fun k => D93 rec n bKa x0 k) (cUe rec n)
theorem dAd : D93 rec n bCq x0 r93 = (K2 (aXf rec n) 0 1) :=
 (bKt rec n).trans
 ((by kernel_rfl))
theorem dAx : D93 rec n c93 x0 r93 = D93 rec n bWm x0 (K2 (aXf rec n) 0 1) :=
 congrArg (fun k => D93 rec n bWm x0 k) (dAd rec n)
theorem dNg : D93 rec n c93 x0 r93 = (K2 (s93 rec n) 0 1) :=
 (dAx rec n).trans
 ((by kernel_rfl))
theorem dKj (args : List DV) (h : Hp) : aL CF rec n 93 args h = s93 rec n (args.getD 0 aA) (args.getD 1 aA) h :=
 cZ (dNg rec n) args h (by kernel_rfl) (by kernel_rfl)
def gU (rec : RT) (n : Nat) (h0 : Hp) : aH :=
 some ((.i .i64 (Int.ofNat 0)), h0)
def oS (rec : RT) (n : Nat) (kk10 : cQ) (x0 x5 x6 : DV) (h0 : Hp) : aH :=
 bnd (cS x5 h0) fun v1 h1 =>
 bnd (aF .lss x6 v1 h1) fun v2 h2 =>
 aU v2 (
 bnd (bF x5 x6 h2) fun v3 h3 =>
 bnd (aF .eql v3 x0 h3) fun v4 h4 =>
 aU v4 (
 some ((.i .i64 (Int.ofNat 4)), h4)) (
 bnd (aF .add x6 (.i .i64 (Int.ofNat 1)) h4) fun v5 h5 =>
  kk10 x0 x5 v5 h5)) (
      gU rec n h2)
def jM (rec : RT) (n : Nat) (m : Nat) : cQ :=
 Nat.rec (motive := fun _ => cQ) (fun _ _ _ _ => none) (fun _ ih => oS rec n ih) m
def aRd (rec : RT) (n : Nat) : cQ := jM rec n n
def bAl (rec : RT) (n : Nat) (x0 x5 x6 : DV) (h0 : Hp) : aH :=
 aRd rec n x0 x5 x6 h0
def aTm (rec : RT) (n : Nat) (x0 x5 : DV) (h0 : Hp) : aH :=
 bAl rec n x0 x5 (.i .i64 (Int.ofNat 0)) h0
def gG (rec : RT) (n : Nat) (x0 : DV) (h0 : Hp) : aH :=
 aTm rec n x0 (.s [94, 46, 59, 40, 41, 91, 93, 124]) h0
def oW (rec : RT) (n : Nat) (kk12 : cQ) (x0 x3 x4 : DV) (h0 : Hp) : aH :=
 bnd (cS x3 h0) fun v1 h1 =>
 bnd (aF .lss x4 v1 h1) fun v2 h2 =>
 aU v2 (
 bnd (bF x3 x4 h2) fun v3 h3 =>
 bnd (aF .eql v3 x0 h3) fun v4 h4 =>
 aU v4 (
 some ((.i .i64 (Int.ofNat 3)), h4)) (
 bnd (aF .add x4 (.i .i64 (Int.ofNat 1)) h4) fun v5 h5 =>
  kk12 x0 x3 v5 h5)) (
      gG rec n x0 h2)
def jJ (rec : RT) (n : Nat) (m : Nat) : cQ :=
 Nat.rec (motive := fun _ => cQ) (fun _ _ _ _ => none) (fun _ ih => oW rec n ih) m
def aSp (rec : RT) (n : Nat) : cQ := jJ rec n n
def aFr (rec : RT) (n : Nat) (x0 x3 x4 : DV) (h0 : Hp) : aH :=
 aSp rec n x0 x3 x4 h0
def aXm (rec : RT) (n : Nat) (x0 x3 : DV) (h0 : Hp) : aH :=
 aFr rec n x0 x3 (.i .i64 (Int.ofNat 0)) h0
def aTq (rec : RT) (n : Nat) (x0 : DV) (h0 : Hp) : aH :=
 aXm rec n x0 (.s [43, 45, 42, 47, 60, 62, 61, 126, 44, 64, 38, 37]) h0
def aNm (rec : RT) (n : Nat) (x0 : DV) (h0 : Hp) : aH :=
 bnd (aF .eql x0 (.i .u8 (Int.ofNat 9)) h0) fun v1 h1 =>
 bnd (gD v1 false (some (x0, h1)) h1) fun v2 h2 =>
 bnd (gD v1 false (aF .eql v2 (.i .u8 (Int.ofNat 10)) h2) h2) fun v3 h3 =>
 bnd (aV v1 (.b true) v3 h3) fun v4 h4 =>
 bnd (gD v4 false (some (x0, h4)) h4) fun v5 h5 =>
 bnd (gD v4 false (aF .eql v5 (.i .u8 (Int.ofNat 13)) h5) h5) fun v6 h6 =>
 bnd (aV v4 (.b true) v6 h6) fun v7 h7 =>
 bnd (gD v7 false (some (x0, h7)) h7) fun v8 h8 =>
 bnd (gD v7 false (aF .eql v8 (.i .u8 (Int.ofNat 32)) h8) h8) fun v9 h9 =>
 bnd (aV v7 (.b true) v9 h9) fun v10 h10 =>
 aU v10 (
 some ((.i .i64 (Int.ofNat 5)), h10)) (
  aTq rec n x0 h10)
def aOc (rec : RT) (n : Nat) (x0 : DV) (h0 : Hp) : aH :=
 bnd (aF .geq x0 (.i .u8 (Int.ofNat 48)) h0) fun v1 h1 =>
 bnd (gD v1 true (some (x0, h1)) h1) fun v2 h2 =>
 bnd (gD v1 true (aF .leq v2 (.i .u8 (Int.ofNat 57)) h2) h2) fun v3 h3 =>
 bnd (aV v1 v3 (.b false) h3) fun v4 h4 =>
 aU v4 (
 some ((.i .i64 (Int.ofNat 2)), h4)) (
  aNm rec n x0 h4)
def bBv (rec : RT) (n : Nat) (x0 : DV) (h0 : Hp) : aH :=
 bnd (aF .geq x0 (.i .u8 (Int.ofNat 97)) h0) fun v1 h1 =>
 bnd (gD v1 true (some (x0, h1)) h1) fun v2 h2 =>
 bnd (gD v1 true (aF .leq v2 (.i .u8 (Int.ofNat 122)) h2) h2) fun v3 h3 =>
 bnd (aV v1 v3 (.b false) h3) fun v4 h4 =>
 bnd (gD v4 false (some (x0, h4)) h4) fun v5 h5 =>
 bnd (gD v4 false (aF .geq v5 (.i .u8 (Int.ofNat 65)) h5) h5) fun v6 h6 =>
 bnd (gD v4 false (some (v6, h6)) h6) fun v7 h7 =>
 bnd (gD v7 true (some (x0, h7)) h7) fun v8 h8 =>
 bnd (gD v7 true (aF .leq v8 (.i .u8 (Int.ofNat 90)) h8) h8) fun v9 h9 =>
 bnd (gD v4 false (aV v7 v9 (.b false) h9) h9) fun v10 h10 =>
 bnd (aV v4 (.b true) v10 h10) fun v11 h11 =>
 aU v11 (
 some ((.i .i64 (Int.ofNat 1)), h11)) (
  aOc rec n x0 h11)
def s94 (rec : RT) (n : Nat) (x0 : DV) (h0 : Hp) : aH :=
 bBv rec n x0 h0
abbrev c94 : Code := cf Tryz.f94
abbrev bDf := cR c94
abbrev aSz := cR bDf
abbrev aVg := cR aSz
abbrev bAn := cR aVg
abbrev bAq := cR bAn
abbrev bBj := cR bAq
abbrev aUg := cR bBj
abbrev dIx := cR aUg
abbrev aLr := cL aUg
abbrev aRz := cR aLr
abbrev aHi := cL aRz
abbrev qB := cL aHi
abbrev bLt := cL aLr
abbrev bXw := cL bBj
abbrev xW := cL bAq
abbrev aPz := cR xW
abbrev aJq := cL aPz
abbrev pZ := cL aJq
abbrev bTi := cL xW
abbrev bXi := cL bAn
abbrev bNx := cL aVg
abbrev bWf := cL aSz
abbrev bQj := cL bDf
abbrev bPi := cL c94
abbrev r94 : K := bD CF Tryz.f94
def D94 (rec : RT) (n : Nat) (c : Code) (X : Nat → K) (k : K) : K := aR CF rec 63 n c X r94 k
theorem dDu : D94 rec n dIx x0 r94 = (K0 (gU rec n)) := by kernel_rfl
theorem bKm (kk10 : cQ) : D94 rec n qB (xs x0 2 (K0 (gU rec n))) (K3 kk10 0 5 6) = (K3 (oS rec n kk10) 0 5 6) := by kernel_rfl
theorem bNp (m : Nat) : aG (fun kk => D94 rec n qB (xs x0 2 (K0 (gU rec n))) kk) m = (K3 (jM rec n m) 0 5 6) := by
 induction m with
 | zero => exact (by kernel_rfl : aG (fun kk => D94 rec n qB (xs x0 2 (K0 (gU rec n))) kk) 0 = (K3 (jM rec n 0) 0 5 6))
 | succ m ih =>
  refine (by kernel_rfl : aG (fun kk => D94 rec n qB (xs x0 2 (K0 (gU rec n))) kk) (m + 1) = D94 rec n qB (xs x0 2 (K0 (gU rec n))) (aG (fun kk => D94 rec n qB (xs x0 2 (K0 (gU rec n))) kk) m)).trans ?_
  rw [ih]
  exact (bKm rec n (jM rec n m)).trans (by kernel_rfl)
theorem cNb : D94 rec n aHi (xs x0 2 (K0 (gU rec n))) (K0 (gU rec n)) = (K3 (aRd rec n) 0 5 6) :=
 (by kernel_rfl : D94 rec n aHi (xs x0 2 (K0 (gU rec n))) (K0 (gU rec n)) = aG (fun kk => D94 rec n qB (xs x0 2 (K0 (gU rec n))) kk) n).trans ((bNp rec n n).trans (by kernel_rfl))
theorem cWa : D94 rec n aRz x0 (K0 (gU rec n)) = (K3 (bAl rec n) 0 5 6) :=
 (by kernel_rfl : D94 rec n aRz x0 (K0 (gU rec n)) = D94 rec n aHi (xs x0 2 (K0 (gU rec n))) (K0 (gU rec n))).trans
 ((cNb rec n).trans (by kernel_rfl))
theorem cEz : D94 rec n aUg x0 r94 = D94 rec n aLr x0 (K0 (gU rec n)) :=
 congrArg (fun k => D94 rec n aLr x0 k) (dDu rec n)
theorem cGt : D94 rec n aLr x0 (K0 (gU rec n)) = D94 rec n bLt x0 (K3 (bAl rec n) 0 5 6) :=
 congrArg (fun k => D94 rec n bLt x0 k) (cWa rec n)
theorem dAr : D94 rec n aUg x0 r94 = (K2 (aTm rec n) 0 5) :=
 (cEz rec n).trans
 ((cGt rec n).trans
 ((by kernel_rfl)))
theorem cHc : D94 rec n bBj x0 r94 = D94 rec n bXw x0 (K2 (aTm rec n) 0 5) :=
 congrArg (fun k => D94 rec n bXw x0 k) (dAr rec n)
theorem dAo : D94 rec n bBj x0 r94 = (K1 (gG rec n) 0) :=
 (cHc rec n).trans
 ((by kernel_rfl))
theorem bGn (kk12 : cQ) : D94 rec n pZ (xs x0 0 (K1 (gG rec n) 0)) (K3 kk12 0 3 4) = (K3 (oW rec n kk12) 0 3 4) := by kernel_rfl
theorem bLa (m : Nat) : aG (fun kk => D94 rec n pZ (xs x0 0 (K1 (gG rec n) 0)) kk) m = (K3 (jJ rec n m) 0 3 4) := by
 induction m with
 | zero => exact (by kernel_rfl : aG (fun kk => D94 rec n pZ (xs x0 0 (K1 (gG rec n) 0)) kk) 0 = (K3 (jJ rec n 0) 0 3 4))
 | succ m ih =>
  refine (by kernel_rfl : aG (fun kk => D94 rec n pZ (xs x0 0 (K1 (gG rec n) 0)) kk) (m + 1) = D94 rec n pZ (xs x0 0 (K1 (gG rec n) 0)) (aG (fun kk => D94 rec n pZ (xs x0 0 (K1 (gG rec n) 0)) kk) m)).trans ?_
  rw [ih]
  exact (bGn rec n (jJ rec n m)).trans (by kernel_rfl)
theorem cIg : D94 rec n aJq (xs x0 0 (K1 (gG rec n) 0)) (K1 (gG rec n) 0) = (K3 (aSp rec n) 0 3 4) :=
 (by kernel_rfl : D94 rec n aJq (xs x0 0 (K1 (gG rec n) 0)) (K1 (gG rec n) 0) = aG (fun kk => D94 rec n pZ (xs x0 0 (K1 (gG rec n) 0)) kk) n).trans ((bLa rec n n).trans (by kernel_rfl))
theorem cCw : D94 rec n aPz x0 (K1 (gG rec n) 0) = (K3 (aFr rec n) 0 3 4) :=
 (by kernel_rfl : D94 rec n aPz x0 (K1 (gG rec n) 0) = D94 rec n aJq (xs x0 0 (K1 (gG rec n) 0)) (K1 (gG rec n) 0)).trans
 ((cIg rec n).trans (by kernel_rfl))
theorem cAd : D94 rec n bAq x0 r94 = D94 rec n xW x0 (K1 (gG rec n) 0) :=
 congrArg (fun k => D94 rec n xW x0 k) (dAo rec n)
theorem cBx : D94 rec n xW x0 (K1 (gG rec n) 0) = D94 rec n bTi x0 (K3 (aFr rec n) 0 3 4) :=
 congrArg (fun k => D94 rec n bTi x0 k) (cCw rec n)
theorem dCi : D94 rec n bAq x0 r94 = (K2 (aXm rec n) 0 3) :=
 (cAd rec n).trans
 ((cBx rec n).trans
 ((by kernel_rfl)))
theorem cCo : D94 rec n bAn x0 r94 = D94 rec n bXi x0 (K2 (aXm rec n) 0 3) :=
 congrArg (fun k => D94 rec n bXi x0 k) (dCi rec n)
theorem cSm : D94 rec n bAn x0 r94 = (K1 (aTq rec n) 0) :=
 (cCo rec n).trans
 ((by kernel_rfl))
theorem cGd : D94 rec n aVg x0 r94 = D94 rec n bNx x0 (K1 (aTq rec n) 0) :=
 congrArg (fun k => D94 rec n bNx x0 k) (cSm rec n)
theorem cXq : D94 rec n aVg x0 r94 = (K1 (aNm rec n) 0) :=
 (cGd rec n).trans
 ((by kernel_rfl))
theorem cJf : D94 rec n aSz x0 r94 = D94 rec n bWf x0 (K1 (aNm rec n) 0) :=
 congrArg (fun k => D94 rec n bWf x0 k) (cXq rec n)
theorem cUq : D94 rec n aSz x0 r94 = (K1 (aOc rec n) 0) :=
 (cJf rec n).trans
 ((by kernel_rfl))
theorem cDb : D94 rec n bDf x0 r94 = D94 rec n bQj x0 (K1 (aOc rec n) 0) :=
 congrArg (fun k => D94 rec n bQj x0 k) (cUq rec n)
theorem cUr : D94 rec n bDf x0 r94 = (K1 (bBv rec n) 0) :=
 (cDb rec n).trans
 ((by kernel_rfl))
theorem dBc : D94 rec n c94 x0 r94 = D94 rec n bPi x0 (K1 (bBv rec n) 0) :=
 congrArg (fun k => D94 rec n bPi x0 k) (cUr rec n)
theorem dOx : D94 rec n c94 x0 r94 = (K1 (s94 rec n) 0) :=
 (dBc rec n).trans
 ((by kernel_rfl))
theorem dEz (args : List DV) (h : Hp) : aL CF rec n 94 args h = s94 rec n (args.getD 0 aA) h :=
 cZ (dOx rec n) args h (by kernel_rfl) (by kernel_rfl)
def s95 (rec : RT) (n : Nat) (x0 x1 : DV) (h0 : Hp) : aH :=
 bnd (cS x0 h0) fun v1 h1 =>
 bnd (aF .geq x1 v1 h1) fun v2 h2 =>
 aU v2 (
 some ((.i .i64 (Int.negSucc 0)), h2)) (
 bnd (bF x0 x1 h2) fun v3 h3 =>
 bnd (rec 94 [v3] h3) fun v4 h4 =>
 some (v4, h4))
abbrev c95 : Code := cf Tryz.f95
abbrev r95 : K := bD CF Tryz.f95
def D95 (rec : RT) (n : Nat) (c : Code) (X : Nat → K) (k : K) : K := aR CF rec 13 n c X r95 k
theorem dOt : D95 rec n c95 x0 r95 = (K2 (s95 rec n) 0 1) :=
 (by kernel_rfl)
theorem dKf (args : List DV) (h : Hp) : aL CF rec n 95 args h = s95 rec n (args.getD 0 aA) (args.getD 1 aA) h :=
 cZ (dOt rec n) args h (by kernel_rfl) (by kernel_rfl)
def iB (rec : RT) (n : Nat) (x1 : DV) (h0 : Hp) : aH :=
 some (x1, h0)
def tX (rec : RT) (n : Nat) (kk3 : dE) (x0 x1 : DV) (h0 : Hp) : aH :=
 bnd (rec 95 [x0, x1] h0) fun v1 h1 =>
 bnd (aF .eql v1 (.i .i64 (Int.ofNat 1)) h1) fun v2 h2 =>
 bnd (gD v2 false (some (x0, h2)) h2) fun v3 h3 =>
 bnd (gD v2 false (some (x1, h3)) h3) fun v4 h4 =>
 bnd (gD v2 false (rec 95 [v3, v4] h4) h4) fun v5 h5 =>
 bnd (gD v2 false (aF .eql v5 (.i .i64 (Int.ofNat 2)) h5) h5) fun v6 h6 =>
 bnd (aV v2 (.b true) v6 h6) fun v7 h7 =>
 aU v7 (
 bnd (aF .add x1 (.i .i64 (Int.ofNat 1)) h7) fun v8 h8 =>
      kk3 x0 v8 h8) (
      iB rec n x1 h7)
def kU (rec : RT) (n : Nat) (m : Nat) : dE :=
 Nat.rec (motive := fun _ => dE) (fun _ _ _ => none) (fun _ ih => tX rec n ih) m
def bLn (rec : RT) (n : Nat) : dE := kU rec n n
def aZf (rec : RT) (n : Nat) (x0 x1 : DV) (h0 : Hp) : aH :=
 bLn rec n x0 x1 h0
def s96 (rec : RT) (n : Nat) (x0 x1 : DV) (h0 : Hp) : aH :=
 aZf rec n x0 x1 h0
abbrev c96 : Code := cf Tryz.f96
abbrev aVx := cR c96
abbrev dJu := cR aVx
abbrev bDw := cL aVx
abbrev aSw := cL bDw
abbrev wK := cL aSw
abbrev cOe := cL c96
abbrev r96 : K := bD CF Tryz.f96
def D96 (rec : RT) (n : Nat) (c : Code) (X : Nat → K) (k : K) : K := aR CF rec 18 n c X r96 k
theorem cRv : D96 rec n dJu x0 r96 = (K1 (iB rec n) 1) := by kernel_rfl
theorem bYn (kk3 : dE) : D96 rec n wK (xs x0 0 (K1 (iB rec n) 1)) (K2 kk3 0 1) = (K2 (tX rec n kk3) 0 1) := by kernel_rfl
theorem cMp (m : Nat) : aG (fun kk => D96 rec n wK (xs x0 0 (K1 (iB rec n) 1)) kk) m = (K2 (kU rec n m) 0 1) := by
 induction m with
 | zero => exact (by kernel_rfl : aG (fun kk => D96 rec n wK (xs x0 0 (K1 (iB rec n) 1)) kk) 0 = (K2 (kU rec n 0) 0 1))
 | succ m ih =>
  refine (by kernel_rfl : aG (fun kk => D96 rec n wK (xs x0 0 (K1 (iB rec n) 1)) kk) (m + 1) = D96 rec n wK (xs x0 0 (K1 (iB rec n) 1)) (aG (fun kk => D96 rec n wK (xs x0 0 (K1 (iB rec n) 1)) kk) m)).trans ?_
  rw [ih]
  exact (bYn rec n (kU rec n m)).trans (by kernel_rfl)
theorem cTa : D96 rec n aSw (xs x0 0 (K1 (iB rec n) 1)) (K1 (iB rec n) 1) = (K2 (bLn rec n) 0 1) :=
 (by kernel_rfl : D96 rec n aSw (xs x0 0 (K1 (iB rec n) 1)) (K1 (iB rec n) 1) = aG (fun kk => D96 rec n wK (xs x0 0 (K1 (iB rec n) 1)) kk) n).trans ((cMp rec n n).trans (by kernel_rfl))
theorem cGu : D96 rec n aVx x0 r96 = D96 rec n bDw x0 (K1 (iB rec n) 1) :=
 congrArg (fun k => D96 rec n bDw x0 k) (cRv rec n)
theorem dBe : D96 rec n aVx x0 r96 = (K2 (aZf rec n) 0 1) :=
 (cGu rec n).trans
 ((by kernel_rfl : D96 rec n bDw x0 (K1 (iB rec n) 1) = D96 rec n aSw (xs x0 0 (K1 (iB rec n) 1)) (K1 (iB rec n) 1)).trans
 ((cTa rec n).trans (by kernel_rfl)))
theorem dEv : D96 rec n c96 x0 r96 = D96 rec n cOe x0 (K2 (aZf rec n) 0 1) :=
 congrArg (fun k => D96 rec n cOe x0 k) (dBe rec n)
theorem dMe : D96 rec n c96 x0 r96 = (K2 (s96 rec n) 0 1) :=
 (dEv rec n).trans
 ((by kernel_rfl))
theorem dIz (args : List DV) (h : Hp) : aL CF rec n 96 args h = s96 rec n (args.getD 0 aA) (args.getD 1 aA) h :=
 cZ (dMe rec n) args h (by kernel_rfl) (by kernel_rfl)
def s97 (rec : RT) (n : Nat) (x0 x1 : DV) (h0 : Hp) : aH :=
 bnd (cS x0 h0) fun v1 h1 =>
 bnd (aF .lss x1 v1 h1) fun v2 h2 =>
 bnd (gD v2 true (some (x0, h2)) h2) fun v3 h3 =>
 bnd (gD v2 true (some (x1, h3)) h3) fun v4 h4 =>
 bnd (gD v2 true (bF v3 v4 h4) h4) fun v5 h5 =>
 bnd (gD v2 true (aF .eql v5 (.i .u8 (Int.ofNat 58)) h5) h5) fun v6 h6 =>
 bnd (aV v2 v6 (.b false) h6) fun v7 h7 =>
 bnd (gD v7 true (some (x1, h7)) h7) fun v8 h8 =>
 bnd (gD v7 true (aF .add v8 (.i .i64 (Int.ofNat 1)) h8) h8) fun v9 h9 =>
 bnd (gD v7 true (some (x0, h9)) h9) fun v10 h10 =>
 bnd (gD v7 true (cS v10 h10) h10) fun v11 h11 =>
 bnd (gD v7 true (aF .lss v9 v11 h11) h11) fun v12 h12 =>
 bnd (gD v7 true (some (v12, h12)) h12) fun v13 h13 =>
 bnd (gD v13 true (some (x0, h13)) h13) fun v14 h14 =>
 bnd (gD v13 true (some (x1, h14)) h14) fun v15 h15 =>
 bnd (gD v13 true (aF .add v15 (.i .i64 (Int.ofNat 1)) h15) h15) fun v16 h16 =>
 bnd (gD v13 true (bF v14 v16 h16) h16) fun v17 h17 =>
 bnd (gD v13 true (aF .eql v17 (.i .u8 (Int.ofNat 61)) h17) h17) fun v18 h18 =>
 bnd (gD v7 true (aV v13 v18 (.b false) h18) h18) fun v19 h19 =>
 bnd (gD v7 true (jZ .not v19 h19) h19) fun v20 h20 =>
 bnd (aV v7 v20 (.b false) h20) fun v21 h21 =>
 some (v21, h21)
abbrev c97 : Code := cf Tryz.f97
abbrev r97 : K := bD CF Tryz.f97
def D97 (rec : RT) (n : Nat) (c : Code) (X : Nat → K) (k : K) : K := aR CF rec 30 n c X r97 k
theorem dPf : D97 rec n c97 x0 r97 = (K2 (s97 rec n) 0 1) :=
 (by kernel_rfl)
theorem dKq (args : List DV) (h : Hp) : aL CF rec n 97 args h = s97 rec n (args.getD 0 aA) (args.getD 1 aA) h :=
 cZ (dPf rec n) args h (by kernel_rfl) (by kernel_rfl)
def iL (rec : RT) (n : Nat) (x3 x4 : DV) (h0 : Hp) : aH :=
 bnd (aE 4 x3 h0) fun v1 h1 =>
 bnd (aC 4 x4 v1 h1) fun _ h2 =>
 bnd (aE 4 x4 h2) fun v3 _ =>
 some (.t [v3, (.i .i64 (Int.ofNat 0)), (.i .i64 (Int.ofNat 11))], h2)
def uI (rec : RT) (n : Nat) (kk4 : iG) (x0 x3 x4 x7 : DV) (h0 : Hp) : aH :=
 bnd (cS x0 h0) fun v1 h1 =>
 bnd (aF .lss x7 v1 h1) fun v2 h2 =>
 aU v2 (
 bnd (bF x0 x7 h2) fun v3 h3 =>
 bnd (aF .neq v3 (.i .u8 (Int.ofNat 39)) h3) fun v4 h4 =>
 aU v4 (
 bnd (aB 1 x3 h4) fun v5 h5 =>
 bnd (aD v5 h5) fun v6 h6 =>
 bnd (aF .add x7 (.i .i64 (Int.ofNat 1)) h6) fun v7 h7 =>
 bnd (cP x0 (some x7) (some v7) h7) fun v8 h8 =>
 bnd (bY .add v6 v8 h8) fun v9 h9 =>
 bnd (aB 1 x3 h9) fun v10 h10 =>
 bnd (aC 1 v10 v9 h10) fun v11 h11 =>
 bnd (aF .add x7 (.i .i64 (Int.ofNat 1)) h11) fun v12 h12 =>
  kk4 x0 x3 x4 v12 h12) (
 bnd (aF .add x7 (.i .i64 (Int.ofNat 1)) h4) fun v13 h13 =>
 bnd (cS x0 h13) fun v14 h14 =>
 bnd (aF .lss v13 v14 h14) fun v15 h15 =>
 bnd (gD v15 true (some (x0, h15)) h15) fun v16 h16 =>
 bnd (gD v15 true (some (x7, h16)) h16) fun v17 h17 =>
 bnd (gD v15 true (aF .add v17 (.i .i64 (Int.ofNat 1)) h17) h17) fun v18 h18 =>
 bnd (gD v15 true (bF v16 v18 h18) h18) fun v19 h19 =>
 bnd (gD v15 true (aF .eql v19 (.i .u8 (Int.ofNat 39)) h19) h19) fun v20 h20 =>
 bnd (aV v15 v20 (.b false) h20) fun v21 h21 =>
 aU v21 (
 bnd (aB 1 x3 h21) fun v22 h22 =>
 bnd (aD v22 h22) fun v23 h23 =>
 bnd (bY .add v23 (.s [39]) h23) fun v24 h24 =>
 bnd (aB 1 x3 h24) fun v25 h25 =>
 bnd (aC 1 v25 v24 h25) fun _ h26 =>
 bnd (aF .add x7 (.i .i64 (Int.ofNat 2)) h26) fun v27 h27 =>
  kk4 x0 x3 x4 v27 h27) (
 bnd (aE 4 x3 h21) fun v28 h28 =>
 bnd (aF .add x7 (.i .i64 (Int.ofNat 1)) h28) fun v29 h29 =>
 bnd (aC 4 x4 v28 h29) fun _ h30 =>
 bnd (aE 4 x4 h30) fun v31 _ =>
 some (.t [v31, v29, (.i .i64 (Int.ofNat 0))], h30)))) (
  iL rec n x3 x4 h2)
def kH (rec : RT) (n : Nat) (m : Nat) : iG :=
 Nat.rec (motive := fun _ => iG) (fun _ _ _ _ _ => none) (fun _ ih => uI rec n ih) m
def bRo (rec : RT) (n : Nat) : iG := kH rec n n
def aUm (rec : RT) (n : Nat) (x0 x3 x4 x7 : DV) (h0 : Hp) : aH :=
 bRo rec n x0 x3 x4 x7 h0
def bCy (rec : RT) (n : Nat) (x0 x3 x4 : DV) (h0 : Hp) : aH :=
 bnd (aB 3 x3 h0) fun v1 h1 =>
 bnd (aD v1 h1) fun v2 h2 =>
 bnd (aF .add v2 (.i .i64 (Int.ofNat 1)) h2) fun v3 h3 =>
  aUm rec n x0 x3 x4 v3 h3
def s98 (rec : RT) (n : Nat) (x0 x1 : DV) (h0 : Hp) : aH :=
 bnd (dW x1 h0) fun v1 h1 =>
 bnd (bG [(.i .i64 (Int.ofNat 0)), (.s []), (.i .i64 (Int.ofNat 0)), (.i .i64 (Int.ofNat 0))] h1) fun v2 h2 =>
  bCy rec n x0 v1 v2 h2
abbrev c98 : Code := cf Tryz.f98
abbrev aYs := cR c98
abbrev aVu := cR aYs
abbrev dGl := cR aVu
abbrev aZo := cL aVu
abbrev bBn := cL aZo
abbrev yI := cL bBn
abbrev cOu := cL aYs
abbrev cQl := cL c98
abbrev r98 : K := bD CF Tryz.f98
def D98 (rec : RT) (n : Nat) (c : Code) (X : Nat → K) (k : K) : K := aR CF rec 52 n c X r98 k
theorem cRq : D98 rec n dGl x0 r98 = (K2 (iL rec n) 3 4) := by kernel_rfl
theorem cKm (kk4 : iG) : D98 rec n yI (xs x0 0 (K2 (iL rec n) 3 4)) (K4 kk4 0 3 4 7) = (K4 (uI rec n kk4) 0 3 4 7) := by kernel_rfl
theorem cKc (m : Nat) : aG (fun kk => D98 rec n yI (xs x0 0 (K2 (iL rec n) 3 4)) kk) m = (K4 (kH rec n m) 0 3 4 7) := by
 induction m with
 | zero => exact (by kernel_rfl : aG (fun kk => D98 rec n yI (xs x0 0 (K2 (iL rec n) 3 4)) kk) 0 = (K4 (kH rec n 0) 0 3 4 7))
 | succ m ih =>
  refine (by kernel_rfl : aG (fun kk => D98 rec n yI (xs x0 0 (K2 (iL rec n) 3 4)) kk) (m + 1) = D98 rec n yI (xs x0 0 (K2 (iL rec n) 3 4)) (aG (fun kk => D98 rec n yI (xs x0 0 (K2 (iL rec n) 3 4)) kk) m)).trans ?_
  rw [ih]
  exact (cKm rec n (kH rec n m)).trans (by kernel_rfl)
theorem cVn : D98 rec n bBn (xs x0 0 (K2 (iL rec n) 3 4)) (K2 (iL rec n) 3 4) = (K4 (bRo rec n) 0 3 4 7) :=
 (by kernel_rfl : D98 rec n bBn (xs x0 0 (K2 (iL rec n) 3 4)) (K2 (iL rec n) 3 4) = aG (fun kk => D98 rec n yI (xs x0 0 (K2 (iL rec n) 3 4)) kk) n).trans ((cKc rec n n).trans (by kernel_rfl))
theorem cKd : D98 rec n aVu x0 r98 = D98 rec n aZo x0 (K2 (iL rec n) 3 4) :=
 congrArg (fun k => D98 rec n aZo x0 k) (cRq rec n)
theorem cUk : D98 rec n aVu x0 r98 = (K4 (aUm rec n) 0 3 4 7) :=
 (cKd rec n).trans
 ((by kernel_rfl : D98 rec n aZo x0 (K2 (iL rec n) 3 4) = D98 rec n bBn (xs x0 0 (K2 (iL rec n) 3 4)) (K2 (iL rec n) 3 4)).trans
 ((cVn rec n).trans (by kernel_rfl)))
theorem cJn : D98 rec n aYs x0 r98 = D98 rec n cOu x0 (K4 (aUm rec n) 0 3 4 7) :=
 congrArg (fun k => D98 rec n cOu x0 k) (cUk rec n)
theorem cZk : D98 rec n aYs x0 r98 = (K3 (bCy rec n) 0 3 4) :=
 (cJn rec n).trans
 ((by kernel_rfl))
theorem dEr : D98 rec n c98 x0 r98 = D98 rec n cQl x0 (K3 (bCy rec n) 0 3 4) :=
 congrArg (fun k => D98 rec n cQl x0 k) (cZk rec n)
theorem dNu : D98 rec n c98 x0 r98 = (K2 (s98 rec n) 0 1) :=
 (dEr rec n).trans
 ((by kernel_rfl))
theorem dEb (args : List DV) (h : Hp) : aL CF rec n 98 args h = s98 rec n (args.getD 0 aA) (args.getD 1 aA) h :=
 cZ (dNu rec n) args h (by kernel_rfl) (by kernel_rfl)
end
end Go.Dd

