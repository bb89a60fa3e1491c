/- A part of the proof: Q13 Q14 Q15 Q16 Qt HK: each text has a comment of its own. -/
import Derived.Test.YtkdndgecldkiiaaGreatPm2
set_option linter.unusedVariables false
set_option linter.unusedSimpArgs false
set_option linter.constructorNameAsVariable false
set_option maxRecDepth 100000
namespace Go.Dd
open Go.Proofs
variable (r : RT) (n : Nat) (args : List DV) (h : Hp)
noncomputable def s200 (r : RT) (n : Nat) (x0 x1 : DV) (h0 : Hp) : aH :=
 bnd (aA x1 h0) fun v1 h1 =>
 bnd (r 177 [v1, x0] h1) fun v2 h2 =>
 bnd (aD .geq v2 (aG 0) h2) fun v3 h3 =>
 some (v3, h3)
noncomputable abbrev c200 : Code := cf Tryz.f200
noncomputable abbrev r200 : K := aV CF Tryz.f200
noncomputable def D200 (r : RT) (n : Nat) (c : Code) (X : Nat → K) (k : K) : K := aP CF r 8 n c X r200 k
theorem dDh : D200 r n c200 x0 r200 = (K2 (s200 r n) 0 1) :=
 (by kernel_rfl)
theorem cPj : aF CF r n 200 args h = s200 r n (aW args 0) (aW args 1) h :=
 (by kernel_rfl : aF CF r n 200 args h = D200 r n c200 x0 r200 (aJ args) h).trans ((congrFun (congrFun (dDh r n) (aJ args)) h).trans (by kernel_rfl))
noncomputable def s201 (r : RT) (n : Nat) (x0 x1 : DV) (h0 : Hp) : aH :=
 bnd (mU [x0, x1] h0) fun v1 h1 =>
 some (v1, h1)
noncomputable abbrev c201 : Code := cf Tryz.f201
noncomputable abbrev r201 : K := aV CF Tryz.f201
noncomputable def D201 (r : RT) (n : Nat) (c : Code) (X : Nat → K) (k : K) : K := aP CF r 8 n c X r201 k
theorem dGv : D201 r n c201 x0 r201 = (K2 (s201 r n) 0 1) :=
 (by kernel_rfl)
theorem cYs : aF CF r n 201 args h = s201 r n (aW args 0) (aW args 1) h :=
 (by kernel_rfl : aF CF r n 201 args h = D201 r n c201 x0 r201 (aJ args) h).trans ((congrFun (congrFun (dGv r n) (aJ args)) h).trans (by kernel_rfl))
noncomputable def s202 (r : RT) (n : Nat) (x0 x1 : DV) (h0 : Hp) : aH :=
 bnd (aZ x0 h0) fun v1 h1 =>
 bnd (aB 1 v1 h1) fun v2 h2 =>
 bnd (aA v2 h2) fun v3 h3 =>
 bnd (aD .add v3 x1 h3) fun v4 h4 =>
 bnd (aZ x0 h4) fun v5 h5 =>
 bnd (aB 0 v5 h5) fun v6 h6 =>
 bnd (aA v6 h6) fun v7 h7 =>
 bnd (dN v7 h7) fun v8 h8 =>
 bnd (aD .geq v4 v8 h8) fun v9 h9 =>
 aX v9 (
 some ((.i .u8 (Int.ofNat 0)), h9)) (
 bnd (aZ x0 h9) fun v10 h10 =>
 bnd (aB 0 v10 h10) fun v11 h11 =>
 bnd (aA v11 h11) fun v12 h12 =>
 bnd (aZ x0 h12) fun v13 h13 =>
 bnd (aB 1 v13 h13) fun v14 h14 =>
 bnd (aA v14 h14) fun v15 h15 =>
 bnd (aD .add v15 x1 h15) fun v16 h16 =>
 bnd (fI v12 v16 h16) fun v17 h17 =>
 some (v17, h17))
noncomputable abbrev c202 : Code := cf Tryz.f202
noncomputable abbrev r202 : K := aV CF Tryz.f202
noncomputable def D202 (r : RT) (n : Nat) (c : Code) (X : Nat → K) (k : K) : K := aP CF r 28 n c X r202 k
theorem dBd : D202 r n c202 x0 r202 = (K2 (s202 r n) 0 1) :=
 (by kernel_rfl)
theorem dAa : aF CF r n 202 args h = s202 r n (aW args 0) (aW args 1) h :=
 (by kernel_rfl : aF CF r n 202 args h = D202 r n c202 x0 r202 (aJ args) h).trans ((congrFun (congrFun (dBd r n) (aJ args)) h).trans (by kernel_rfl))
noncomputable def s203 (r : RT) (n : Nat) (x0 : DV) (h0 : Hp) : aH :=
 bnd (aD .geq x0 (.i .u8 (Int.ofNat 97)) h0) fun v1 h1 =>
 bnd (gD v1 true (some (x0, h1)) h1) fun v2 h2 =>
 bnd (gD v1 true (aD .leq v2 (.i .u8 (Int.ofNat 122)) h2) h2) fun v3 h3 =>
 bnd (aQ v1 v3 (.b false) h3) fun v4 h4 =>
 bnd (gD v4 false (some (x0, h4)) h4) fun v5 h5 =>
 bnd (gD v4 false (aD .geq v5 (.i .u8 (Int.ofNat 65)) h5) h5) fun v6 h6 =>
 bnd (gD v4 false (some (v6, h6)) h6) fun v7 h7 =>
 bnd (gD v7 true (some (x0, h7)) h7) fun v8 h8 =>
 bnd (gD v7 true (aD .leq v8 (.i .u8 (Int.ofNat 90)) h8) h8) fun v9 h9 =>
 bnd (gD v4 false (aQ v7 v9 (.b false) h9) h9) fun v10 h10 =>
 bnd (aQ v4 (.b true) v10 h10) fun v11 h11 =>
 some (v11, h11)
noncomputable abbrev c203 : Code := cf Tryz.f203
noncomputable abbrev r203 : K := aV CF Tryz.f203
noncomputable def D203 (r : RT) (n : Nat) (c : Code) (X : Nat → K) (k : K) : K := aP CF r 17 n c X r203 k
theorem dEe : D203 r n c203 x0 r203 = (K1 (s203 r n) 0) :=
 (by kernel_rfl)
theorem cQv : aF CF r n 203 args h = s203 r n (aW args 0) h :=
 (by kernel_rfl : aF CF r n 203 args h = D203 r n c203 x0 r203 (aJ args) h).trans ((congrFun (congrFun (dEe r n) (aJ args)) h).trans (by kernel_rfl))
noncomputable def s204 (r : RT) (n : Nat) (x0 : DV) (h0 : Hp) : aH :=
 bnd (aZ x0 h0) fun v1 h1 =>
 bnd (aB 0 v1 h1) fun v2 h2 =>
 bnd (aA v2 h2) fun v3 h3 =>
 bnd (dN v3 h3) fun v4 h4 =>
 bnd (r 175 [x0, (.f 230 [] []), v4] h4) fun v5 h5 =>
 bnd (dN v5 h5) fun v6 h6 =>
 bnd (aD .gtr v6 (aG 24) h6) fun v7 h7 =>
 aX v7 (
 some (.t [(.s []), (aG 12)], h7)) (
 some (.t [v5, (aG 0)], h7))
noncomputable abbrev c204 : Code := cf Tryz.f204
noncomputable abbrev r204 : K := aV CF Tryz.f204
noncomputable def D204 (r : RT) (n : Nat) (c : Code) (X : Nat → K) (k : K) : K := aP CF r 16 n c X r204 k
theorem dEi : D204 r n c204 x0 r204 = (K1 (s204 r n) 0) :=
 (by kernel_rfl)
theorem cRt : aF CF r n 204 args h = s204 r n (aW args 0) h :=
 (by kernel_rfl : aF CF r n 204 args h = D204 r n c204 x0 r204 (aJ args) h).trans ((congrFun (congrFun (dEi r n) (aJ args)) h).trans (by kernel_rfl))
noncomputable def s205 (r : RT) (n : Nat) (x0 : DV) (h0 : Hp) : aH :=
 bnd (r 202 [x0, (aG 0)] h0) fun v1 h1 =>
 bnd (aD .neq v1 (.i .u8 (Int.ofNat 58)) h1) fun v2 h2 =>
 bnd (gD v2 false (some (x0, h2)) h2) fun v3 h3 =>
 bnd (gD v2 false (r 202 [v3, (aG 1)] h3) h3) fun v4 h4 =>
 bnd (gD v2 false (aD .eql v4 (.i .u8 (Int.ofNat 61)) h4) h4) fun v5 h5 =>
 bnd (aQ v2 (.b true) v5 h5) fun v6 h6 =>
 aX v6 (
 some ((.b false), h6)) (
 bnd (aZ x0 h6) fun v7 h7 =>
 bnd (aB 1 v7 h7) fun v8 h8 =>
 bnd (aA v8 h8) fun v9 h9 =>
 bnd (aD .add v9 (aG 1) h9) fun v10 h10 =>
 bnd (aZ x0 h10) fun v11 h11 =>
 bnd (aB 1 v11 h11) fun v12 h12 =>
 bnd (aI 1 v12 v10 h12) fun _ h13 =>
 some ((.b true), h13))
noncomputable abbrev c205 : Code := cf Tryz.f205
noncomputable abbrev r205 : K := aV CF Tryz.f205
noncomputable def D205 (r : RT) (n : Nat) (c : Code) (X : Nat → K) (k : K) : K := aP CF r 18 n c X r205 k
theorem dFb : D205 r n c205 x0 r205 = (K1 (s205 r n) 0) :=
 (by kernel_rfl)
theorem cXe : aF CF r n 205 args h = s205 r n (aW args 0) h :=
 (by kernel_rfl : aF CF r n 205 args h = D205 r n c205 x0 r205 (aJ args) h).trans ((congrFun (congrFun (dFb r n) (aJ args)) h).trans (by kernel_rfl))
noncomputable def s206 (r : RT) (n : Nat) (x0 : DV) (h0 : Hp) : aH :=
 bnd (aD .geq x0 (.i .u8 (Int.ofNat 48)) h0) fun v1 h1 =>
 bnd (gD v1 true (some (x0, h1)) h1) fun v2 h2 =>
 bnd (gD v1 true (aD .leq v2 (.i .u8 (Int.ofNat 57)) h2) h2) fun v3 h3 =>
 bnd (aQ v1 v3 (.b false) h3) fun v4 h4 =>
 some (v4, h4)
noncomputable abbrev c206 : Code := cf Tryz.f206
noncomputable abbrev r206 : K := aV CF Tryz.f206
noncomputable def D206 (r : RT) (n : Nat) (c : Code) (X : Nat → K) (k : K) : K := aP CF r 9 n c X r206 k
theorem dCb : D206 r n c206 x0 r206 = (K1 (s206 r n) 0) :=
 (by kernel_rfl)
theorem cWf : aF CF r n 206 args h = s206 r n (aW args 0) h :=
 (by kernel_rfl : aF CF r n 206 args h = D206 r n c206 x0 r206 (aJ args) h).trans ((congrFun (congrFun (dCb r n) (aJ args)) h).trans (by kernel_rfl))
noncomputable def fB (r : RT) (n : Nat) (x4 : DV) (h0 : Hp) : aH :=
 some (.t [x4, (aG 0)], h0)
noncomputable def aUm (r : RT) (n : Nat) (kk5 : tS) (x4 x14 : DV) (h0 : Hp) : aH :=
 bnd (xE x14 h0) fun v1 h1 =>
 bnd (aC 0 v1 h1) fun v2 h2 =>
 aX v2 (
 bnd (aC 2 v1 h2) fun v3 h3 =>
 bnd (aD .gtr x4 (aG 115292150460684697) h3) fun v4 h4 =>
 aX v4 (
 some (.t [(aG 0), (aG 2)], h4)) (
 bnd (aD .mul x4 (aG 10) h4) fun v5 h5 =>
 bnd (aD .sub v3 (.i .i32 (Int.ofNat 48)) h5) fun v6 h6 =>
 bnd (dU .i64 v6 h6) fun v7 h7 =>
 bnd (aD .add v5 v7 h7) fun v8 h8 =>
 bnd (aD .gtr v8 (aG 1152921504606846976) h8) fun v9 h9 =>
 aX v9 (
 some (.t [(aG 0), (aG 2)], h9)) (
     kk5 v8 x14 h9))) (
   fB r n x4 h2)
noncomputable def uL (r : RT) (n : Nat) (m : Nat) : tS :=
 Nat.rec (motive := fun _ => tS) (fun _ _ _ => none) (fun _ ih => aUm r n ih) m
noncomputable def bTx (r : RT) (n : Nat) : tS := uL r n n
noncomputable def aRv (r : RT) (n : Nat) (x4 x14 : DV) (h0 : Hp) : aH :=
 bTx r n x4 x14 h0
noncomputable def aRq (r : RT) (n : Nat) (x0 x4 : DV) (h0 : Hp) : aH :=
 bnd (aZ x0 h0) fun v1 h1 =>
 bnd (aB 0 v1 h1) fun v2 h2 =>
 bnd (aA v2 h2) fun v3 h3 =>
 bnd (dN v3 h3) fun v4 h4 =>
 bnd (r 175 [x0, (.f 206 [] []), v4] h4) fun v5 h5 =>
 bnd (oQ v5 h5) fun v6 h6 =>
  aRv r n x4 v6 h6
noncomputable def aSd (r : RT) (n : Nat) (x0 : DV) (h0 : Hp) : aH :=
 aRq r n x0 (aG 0) h0
noncomputable def s207 (r : RT) (n : Nat) (x0 : DV) (h0 : Hp) : aH :=
 aSd r n x0 h0
noncomputable abbrev c207 : Code := cf Tryz.f207
noncomputable abbrev aJr : Code := cR c207
noncomputable abbrev aHl : Code := cR aJr
noncomputable abbrev cVu : Code := cR aHl
noncomputable abbrev zM : Code := cL aHl
noncomputable abbrev aSb : Code := cR zM
noncomputable abbrev aIk : Code := cL aSb
noncomputable abbrev oI : Code := cL aIk
noncomputable abbrev bGe : Code := cL zM
noncomputable abbrev bWt : Code := cL aJr
noncomputable abbrev aXl : Code := cL c207
noncomputable abbrev r207 : K := aV CF Tryz.f207
noncomputable def D207 (r : RT) (n : Nat) (c : Code) (X : Nat → K) (k : K) : K := aP CF r 29 n c X r207 k
theorem bZv : D207 r n cVu x0 r207 = (K1 (fB r n) 4) :=
 (by kernel_rfl)
theorem bKv (kk5 : tS) : D207 r n oI (xs x0 0 (K1 (fB r n) 4)) (K2 kk5 4 14) = (K2 (aUm r n kk5) 4 14) :=
 (by kernel_rfl)
theorem bOk (m : Nat) : aM (fun kk => D207 r n oI (xs x0 0 (K1 (fB r n) 4)) kk) m = (K2 (uL r n m) 4 14) := by
 induction m with
 | zero => exact (by kernel_rfl : aM (fun kk => D207 r n oI (xs x0 0 (K1 (fB r n) 4)) kk) 0 = (K2 (uL r n 0) 4 14))
 | succ m ih =>
  refine (by kernel_rfl : aM (fun kk => D207 r n oI (xs x0 0 (K1 (fB r n) 4)) kk) (m + 1) = D207 r n oI (xs x0 0 (K1 (fB r n) 4)) (aM (fun kk => D207 r n oI (xs x0 0 (K1 (fB r n) 4)) kk) m)).trans ?_
  rw [ih]
  exact (bKv r n (uL r n m)).trans (by kernel_rfl)
theorem cFv : D207 r n aIk (xs x0 0 (K1 (fB r n) 4)) (K1 (fB r n) 4) = (K2 (bTx r n) 4 14) :=
 (by kernel_rfl : D207 r n aIk (xs x0 0 (K1 (fB r n) 4)) (K1 (fB r n) 4) = aM (fun kk => D207 r n oI (xs x0 0 (K1 (fB r n) 4)) kk) n).trans ((bOk r n n).trans (by kernel_rfl))
theorem cEk : D207 r n aSb x0 (K1 (fB r n) 4) = (K2 (aRv r n) 4 14) :=
 (by kernel_rfl : D207 r n aSb x0 (K1 (fB r n) 4) = D207 r n aIk (xs x0 0 (K1 (fB r n) 4)) (K1 (fB r n) 4)).trans
 ((cFv r n).trans (by kernel_rfl))
theorem bKq : D207 r n aHl x0 r207 = D207 r n zM x0 (K1 (fB r n) 4) :=
 congrArg (fun k => D207 r n zM x0 k) (bZv r n)
theorem bVk : D207 r n zM x0 (K1 (fB r n) 4) = D207 r n bGe x0 (K2 (aRv r n) 4 14) :=
 congrArg (fun k => D207 r n bGe x0 k) (cEk r n)
theorem cFp : D207 r n aHl x0 r207 = (K2 (aRq r n) 0 4) :=
 (bKq r n).trans
 ((bVk r n).trans
 ((by kernel_rfl)))
theorem bWu : D207 r n aJr x0 r207 = D207 r n bWt x0 (K2 (aRq r n) 0 4) :=
 congrArg (fun k => D207 r n bWt x0 k) (cFp r n)
theorem cHd : D207 r n aJr x0 r207 = (K1 (aSd r n) 0) :=
 (bWu r n).trans
 ((by kernel_rfl))
theorem cVz : D207 r n c207 x0 r207 = D207 r n aXl x0 (K1 (aSd r n) 0) :=
 congrArg (fun k => D207 r n aXl x0 k) (cHd r n)
theorem dFl : D207 r n c207 x0 r207 = (K1 (s207 r n) 0) :=
 (cVz r n).trans
 ((by kernel_rfl))
theorem cWi : aF CF r n 207 args h = s207 r n (aW args 0) h :=
 (by kernel_rfl : aF CF r n 207 args h = D207 r n c207 x0 r207 (aJ args) h).trans ((congrFun (congrFun (dFl r n) (aJ args)) h).trans (by kernel_rfl))
noncomputable def s211 (r : RT) (n : Nat) (x0 x1 : DV) (h0 : Hp) : aH :=
 bnd (bU x1 h0) fun v1 h1 =>
 bnd (bY [(.s []), (.b false), (.b false), (aG 0)] h1) fun v2 h2 =>
 bnd (aZ x0 h2) fun v3 h3 =>
 bnd (aB 6 v3 h3) fun v4 h4 =>
 bnd (aA v4 h4) fun v5 h5 =>
 bnd (r 238 [v5, (.f 239 [] [v1])] h5) fun v6 h6 =>
 bnd (aD .lss v6 (aG 0) h6) fun v7 h7 =>
 aX v7 (
 bnd (bE [(.s []), (.b false), (.b false), (aG 0)] [] h7) fun v8 h8 =>
 bnd (aI 4 v2 v8 h8) fun _ h9 =>
 bnd (aK 4 v2 h9) fun v10 _ =>
 some (.t [v10, (.b false)], h9)) (
 bnd (aZ x0 h7) fun v11 h11 =>
 bnd (aB 6 v11 h11) fun v12 h12 =>
 bnd (aA v12 h12) fun v13 h13 =>
 bnd (aE 4 v13 v6 h13) fun v14 h14 =>
 bnd (aK 4 v14 h14) fun v15 h15 =>
 bnd (aI 4 v2 v15 h15) fun _ h16 =>
 bnd (aK 4 v2 h16) fun v17 _ =>
 some (.t [v17, (.b true)], h16))
noncomputable abbrev c211 : Code := cf Tryz.f211
noncomputable abbrev r211 : K := aV CF Tryz.f211
noncomputable def D211 (r : RT) (n : Nat) (c : Code) (X : Nat → K) (k : K) : K := aP CF r 23 n c X r211 k
theorem dAw : D211 r n c211 x0 r211 = (K2 (s211 r n) 0 1) :=
 (by kernel_rfl)
theorem cZu : aF CF r n 211 args h = s211 r n (aW args 0) (aW args 1) h :=
 (by kernel_rfl : aF CF r n 211 args h = D211 r n c211 x0 r211 (aJ args) h).trans ((congrFun (congrFun (dAw r n) (aJ args)) h).trans (by kernel_rfl))
noncomputable def iJ (r : RT) (n : Nat) (h0 : Hp) : aH :=
 some ((.b false), h0)
noncomputable def mW (r : RT) (n : Nat) (x4 : DV) (h0 : Hp) : aH :=
 aX x4 (
 some ((.b true), h0)) (
  iJ r n h0)
noncomputable def aPm (r : RT) (n : Nat) (x3 : DV) (h0 : Hp) : aH :=
 bnd (gC .eql x3 (.s [115, 101, 108, 102]) h0) fun v1 h1 =>
 aX v1 (
  mW r n v1 h1) (
 bnd (gC .eql x3 (.s [115, 117, 112, 101, 114]) h1) fun v2 h2 =>
 aX v2 (
   mW r n v2 h2) (
 bnd (gC .eql x3 (.s [110, 105, 108]) h2) fun v3 h3 =>
 aX v3 (
    mW r n v3 h3) (
 bnd (gC .eql x3 (.s [116, 114, 117, 101]) h3) fun v4 h4 =>
 aX v4 (
     mW r n v4 h4) (
 bnd (gC .eql x3 (.s [102, 97, 108, 115, 101]) h4) fun v5 h5 =>
 aX v5 (
      mW r n v5 h5) (
 bnd (gC .eql x3 (.s [116, 104, 105, 115, 67, 111, 110, 116, 101, 120, 116]) h5) fun v6 h6 =>
      mW r n v6 h6)))))
noncomputable def aPf (r : RT) (n : Nat) (x0 : DV) (h0 : Hp) : aH :=
 aPm r n x0 h0
noncomputable def s212 (r : RT) (n : Nat) (x0 : DV) (h0 : Hp) : aH :=
 aPf r n x0 h0
noncomputable abbrev c212 : Code := cf Tryz.f212
noncomputable abbrev aDv : Code := cR c212
noncomputable abbrev cTg : Code := cR aDv
noncomputable abbrev wS : Code := cL aDv
noncomputable abbrev aNi : Code := cR wS
noncomputable abbrev aEb : Code := cL aNi
noncomputable abbrev cUn : Code := cR aEb
noncomputable abbrev bRq : Code := cL aEb
noncomputable abbrev bUm : Code := cL wS
noncomputable abbrev bPc : Code := cL c212
noncomputable abbrev r212 : K := aV CF Tryz.f212
noncomputable def D212 (r : RT) (n : Nat) (c : Code) (X : Nat → K) (k : K) : K := aP CF r 11 n c X r212 k
theorem cHs : D212 r n cTg x0 r212 = (K0 (iJ r n)) :=
 (by kernel_rfl)
theorem cJq : D212 r n cUn (xs x0 0 (K0 (iJ r n))) (K0 (iJ r n)) = (K1 (mW r n) 4) :=
 (by kernel_rfl)
theorem bMf : D212 r n aEb (xs x0 0 (K0 (iJ r n))) (K0 (iJ r n)) = D212 r n bRq (xs x0 0 (K0 (iJ r n))) (K1 (mW r n) 4) :=
 congrArg (fun k => D212 r n bRq (xs x0 0 (K0 (iJ r n))) k) (cJq r n)
theorem cHi : D212 r n aNi x0 (K0 (iJ r n)) = (K1 (aPm r n) 3) :=
 (by kernel_rfl : D212 r n aNi x0 (K0 (iJ r n)) = D212 r n aEb (xs x0 0 (K0 (iJ r n))) (K0 (iJ r n))).trans
 ((bMf r n).trans
 ((by kernel_rfl)))
theorem bPa : D212 r n aDv x0 r212 = D212 r n wS x0 (K0 (iJ r n)) :=
 congrArg (fun k => D212 r n wS x0 k) (cHs r n)
theorem bNy : D212 r n wS x0 (K0 (iJ r n)) = D212 r n bUm x0 (K1 (aPm r n) 3) :=
 congrArg (fun k => D212 r n bUm x0 k) (cHi r n)
theorem cId : D212 r n aDv x0 r212 = (K1 (aPf r n) 0) :=
 (bPa r n).trans
 ((bNy r n).trans
 ((by kernel_rfl)))
theorem cTn : D212 r n c212 x0 r212 = D212 r n bPc x0 (K1 (aPf r n) 0) :=
 congrArg (fun k => D212 r n bPc x0 k) (cId r n)
theorem dAn : D212 r n c212 x0 r212 = (K1 (s212 r n) 0) :=
 (cTn r n).trans
 ((by kernel_rfl))
theorem cVq : aF CF r n 212 args h = s212 r n (aW args 0) h :=
 (by kernel_rfl : aF CF r n 212 args h = D212 r n c212 x0 r212 (aJ args) h).trans ((congrFun (congrFun (dAn r n) (aJ args)) h).trans (by kernel_rfl))
end Go.Dd

namespace Go.Dd
open Go.Proofs
variable (r : RT) (n : Nat) (args : List DV) (h : Hp)
noncomputable def aJg (r : RT) (n : Nat) (x0 x1 : DV) (h0 : Hp) : aH :=
 bnd (r 211 [x0, x1] h0) fun v1 h1 =>
 bnd (aC 0 v1 h1) fun v2 h2 =>
 bnd (aC 1 v1 h2) fun v3 h3 =>
 bnd (bY [(.s []), (.b false), (.b false), (aG 0)] h3) fun v4 h4 =>
 bnd (aI 4 v4 v2 h4) fun _ h5 =>
 bnd (gD v3 true (aB 1 v4 h5) h5) fun v6 h6 =>
 bnd (gD v3 true (aA v6 h6) h6) fun v7 h7 =>
 bnd (aQ v3 v7 (.b false) h7) fun v8 h8 =>
 aX v8 (
 bnd (aB 3 v4 h8) fun v9 h9 =>
 bnd (aA v9 h9) fun v10 h10 =>
 bnd (r 187 [x0, (aG 8), v10, (aG 0)] h10) fun v11 h11 =>
 some (.t [], h11)) (
 aX v3 (
 bnd (aB 3 v4 h8) fun v12 h12 =>
 bnd (aA v12 h12) fun v13 h13 =>
 bnd (r 187 [x0, (aG 7), v13, (aG 0)] h13) fun v14 h14 =>
 some (.t [], h14)) (
 bnd (r 242 [x1] h8) fun v15 h15 =>
 aX v15 (
 bnd (r 243 [x0, x1] h15) fun v16 h16 =>
 bnd (r 187 [x0, (aG 9), v16, (aG 0)] h16) fun v17 h17 =>
 some (.t [], h17)) (
 bnd (r 213 [x0, x1, (aG 15)] h15) fun v18 h18 =>
 some (.t [], h18))))
noncomputable def s216 (r : RT) (n : Nat) (x0 x1 : DV) (h0 : Hp) : aH :=
 bnd (gC .eql x1 (.s [115, 101, 108, 102]) h0) fun v1 h1 =>
 aX v1 (
 bnd (r 187 [x0, (aG 1), (aG 0), (aG 0)] h1) fun v2 h2 =>
 some (.t [], h2)) (
 bnd (gC .eql x1 (.s [110, 105, 108]) h1) fun v3 h3 =>
 aX v3 (
 bnd (r 187 [x0, (aG 2), (aG 0), (aG 0)] h3) fun v4 h4 =>
 some (.t [], h4)) (
 bnd (gC .eql x1 (.s [116, 114, 117, 101]) h3) fun v5 h5 =>
 aX v5 (
 bnd (r 187 [x0, (aG 3), (aG 0), (aG 0)] h5) fun v6 h6 =>
 some (.t [], h6)) (
 bnd (gC .eql x1 (.s [102, 97, 108, 115, 101]) h5) fun v7 h7 =>
 aX v7 (
 bnd (r 187 [x0, (aG 4), (aG 0), (aG 0)] h7) fun v8 h8 =>
 some (.t [], h8)) (
 bnd (gC .eql x1 (.s [116, 104, 105, 115, 67, 111, 110, 116, 101, 120, 116]) h7) fun v9 h9 =>
 aX v9 (
 bnd (r 187 [x0, (aG 5), (aG 0), (aG 0)] h9) fun v10 h10 =>
 some (.t [], h10)) (
 bnd (gC .eql x1 (.s [115, 117, 112, 101, 114]) h9) fun v11 h11 =>
 aX v11 (
 bnd (r 213 [x0, x1, (aG 15)] h11) fun v12 h12 =>
       aJg r n x0 x1 h12) (
       aJg r n x0 x1 h11))))))
noncomputable abbrev c216 : Code := cf Tryz.f216
noncomputable abbrev cSc : Code := cR c216
noncomputable abbrev bGf : Code := cL c216
noncomputable abbrev r216 : K := aV CF Tryz.f216
noncomputable def D216 (r : RT) (n : Nat) (c : Code) (X : Nat → K) (k : K) : K := aP CF r 65 n c X r216 k
theorem bZx : D216 r n cSc x0 r216 = (K2 (aJg r n) 0 1) :=
 (by kernel_rfl)
theorem cXu : D216 r n c216 x0 r216 = D216 r n bGf x0 (K2 (aJg r n) 0 1) :=
 congrArg (fun k => D216 r n bGf x0 k) (bZx r n)
theorem dFa : D216 r n c216 x0 r216 = (K2 (s216 r n) 0 1) :=
 (cXu r n).trans
 ((by kernel_rfl))
theorem cPq : aF CF r n 216 args h = s216 r n (aW args 0) (aW args 1) h :=
 (by kernel_rfl : aF CF r n 216 args h = D216 r n c216 x0 r216 (aJ args) h).trans ((congrFun (congrFun (dFa r n) (aJ args)) h).trans (by kernel_rfl))
noncomputable def s218 (r : RT) (n : Nat) (x0 x1 : DV) (h0 : Hp) : aH :=
 bnd (bU x1 h0) fun v1 h1 =>
 bnd (aB 5 v1 h1) fun v2 h2 =>
 bnd (aA v2 h2) fun v3 h3 =>
 bnd (cB v3 h3) fun v4 h4 =>
 bnd (aD .eql v4 (aG 0) h4) fun v5 h5 =>
 aX v5 (
 bnd (r 213 [x0, (.s []), (aG 1)] h5) fun v6 h6 =>
 some (.t [], h6)) (
 bnd (aK 6 v1 h5) fun v7 h7 =>
 bnd (r 244 [x0, v7] h7) fun v8 h8 =>
 bnd (gD v8 false (some (x0, h8)) h8) fun v9 h9 =>
 bnd (gD v8 false (aK 6 v1 h9) h9) fun v10 h10 =>
 bnd (gD v8 false (r 245 [v9, v10] h10) h10) fun v11 h11 =>
 bnd (aQ v8 (.b true) v11 h11) fun v12 h12 =>
 aX v12 (
 some (.t [], h12)) (
 bnd (aB 5 v1 h12) fun v13 h13 =>
 bnd (aA v13 h13) fun v14 h14 =>
 bnd (aE 6 v14 (aG 0) h14) fun v15 h15 =>
 bnd (aK 6 v15 h15) fun v16 h16 =>
 bnd (r 247 [x0, v16] h16) fun v17 h17 =>
 bnd (aB 1 v1 h17) fun v18 h18 =>
 bnd (aA v18 h18) fun v19 h19 =>
 cnd (bM (aA v18 h12) v19 && true) (
 bnd (aB 5 v1 h19) fun v20 h20 =>
 bnd (aA v20 h20) fun v21 h21 =>
 cnd (bM (aA v20 h12) v21 && true) (
 bnd (cX 6 v21 (some (aG 1)) none h21) fun v22 h22 =>
 cnd (bM (cX 6 v21 (some (aG 1)) none h12) v22 && true) (
 bnd (r 246 [x0, v17, v19, v22] h22) fun v23 h23 =>
 some (.t [], h23))))))
noncomputable abbrev c218 : Code := cf Tryz.f218
noncomputable abbrev r218 : K := aV CF Tryz.f218
noncomputable def D218 (r : RT) (n : Nat) (c : Code) (X : Nat → K) (k : K) : K := aP CF r 31 n c X r218 k
theorem dFw : D218 r n c218 x0 r218 = (K2 (s218 r n) 0 1) :=
 (by kernel_rfl)
theorem cRp : aF CF r n 218 args h = s218 r n (aW args 0) (aW args 1) h :=
 (by kernel_rfl : aF CF r n 218 args h = D218 r n c218 x0 r218 (aJ args) h).trans ((congrFun (congrFun (dFw r n) (aJ args)) h).trans (by kernel_rfl))
noncomputable def s230 (r : RT) (n : Nat) (x0 : DV) (h0 : Hp) : aH :=
 bnd (r 203 [x0] h0) fun v1 h1 =>
 bnd (gD v1 false (some (x0, h1)) h1) fun v2 h2 =>
 bnd (gD v1 false (r 206 [v2] h2) h2) fun v3 h3 =>
 bnd (aQ v1 (.b true) v3 h3) fun v4 h4 =>
 some (v4, h4)
noncomputable abbrev c230 : Code := cf Tryz.f230
noncomputable abbrev r230 : K := aV CF Tryz.f230
noncomputable def D230 (r : RT) (n : Nat) (c : Code) (X : Nat → K) (k : K) : K := aP CF r 9 n c X r230 k
theorem dHj : D230 r n c230 x0 r230 = (K1 (s230 r n) 0) :=
 (by kernel_rfl)
theorem cUo : aF CF r n 230 args h = s230 r n (aW args 0) h :=
 (by kernel_rfl : aF CF r n 230 args h = D230 r n c230 x0 r230 (aJ args) h).trans ((congrFun (congrFun (dHj r n) (aJ args)) h).trans (by kernel_rfl))
end Go.Dd

namespace Go.Dd
open Go.Proofs
variable (r : RT) (n : Nat) (args : List DV) (h : Hp)
noncomputable def eS (r : RT) (n : Nat) (h0 : Hp) : aH :=
 some ((.i .i64 (Int.negSucc 0)), h0)
noncomputable def aUz (r : RT) (n : Nat) (kk4 : bZ) (x0 x1 x7 x8 : DV) (h0 : Hp) : aH :=
 bnd (aD .lss x8 x7 h0) fun v1 h1 =>
 aX v1 (
 bnd (aE 4 x0 x8 h1) fun v2 h2 =>
 bnd (aK 4 v2 h2) fun v3 h3 =>
 bnd (gJ CF r x1 [v3] h3) fun v4 h4 =>
 aX v4 (
 some (x8, h4)) (
 bnd (aD .add x8 (aG 1) h4) fun v5 h5 =>
    kk4 x0 x1 x7 v5 h5)) (
      eS r n h1)
noncomputable def vZ (r : RT) (n : Nat) (m : Nat) : bZ :=
 Nat.rec (motive := fun _ => bZ) (fun _ _ _ _ _ => none) (fun _ ih => aUz r n ih) m
noncomputable def bJq (r : RT) (n : Nat) : bZ := vZ r n n
noncomputable def aSf (r : RT) (n : Nat) (x0 x1 x7 x8 : DV) (h0 : Hp) : aH :=
 bJq r n x0 x1 x7 x8 h0
noncomputable def aQs (r : RT) (n : Nat) (x0 x1 : DV) (h0 : Hp) : aH :=
 bnd (cB x0 h0) fun v1 h1 =>
  aSf r n x0 x1 v1 (aG 0) h1
noncomputable def s238 (r : RT) (n : Nat) (x0 x1 : DV) (h0 : Hp) : aH :=
 aQs r n x0 x1 h0
noncomputable abbrev c238 : Code := cf Tryz.f238
noncomputable abbrev aCv : Code := cR c238
noncomputable abbrev cSf : Code := cR aCv
noncomputable abbrev xY : Code := cL aCv
noncomputable abbrev aSw : Code := cR xY
noncomputable abbrev aCp : Code := cL aSw
noncomputable abbrev pI : Code := cL aCp
noncomputable abbrev bNm : Code := cL xY
noncomputable abbrev bHf : Code := cL c238
noncomputable abbrev r238 : K := aV CF Tryz.f238
noncomputable def D238 (r : RT) (n : Nat) (c : Code) (X : Nat → K) (k : K) : K := aP CF r 19 n c X r238 k
theorem cCb : D238 r n cSf x0 r238 = (K0 (eS r n)) :=
 (by kernel_rfl)
theorem bLt (kk4 : bZ) : D238 r n pI (xs x0 0 (K0 (eS r n))) (K4 kk4 0 1 7 8) = (K4 (aUz r n kk4) 0 1 7 8) :=
 (by kernel_rfl)
theorem bVu (m : Nat) : aM (fun kk => D238 r n pI (xs x0 0 (K0 (eS r n))) kk) m = (K4 (vZ r n m) 0 1 7 8) := by
 induction m with
 | zero => exact (by kernel_rfl : aM (fun kk => D238 r n pI (xs x0 0 (K0 (eS r n))) kk) 0 = (K4 (vZ r n 0) 0 1 7 8))
 | succ m ih =>
  refine (by kernel_rfl : aM (fun kk => D238 r n pI (xs x0 0 (K0 (eS r n))) kk) (m + 1) = D238 r n pI (xs x0 0 (K0 (eS r n))) (aM (fun kk => D238 r n pI (xs x0 0 (K0 (eS r n))) kk) m)).trans ?_
  rw [ih]
  exact (bLt r n (vZ r n m)).trans (by kernel_rfl)
theorem bZl : D238 r n aCp (xs x0 0 (K0 (eS r n))) (K0 (eS r n)) = (K4 (bJq r n) 0 1 7 8) :=
 (by kernel_rfl : D238 r n aCp (xs x0 0 (K0 (eS r n))) (K0 (eS r n)) = aM (fun kk => D238 r n pI (xs x0 0 (K0 (eS r n))) kk) n).trans ((bVu r n n).trans (by kernel_rfl))
theorem cDy : D238 r n aSw x0 (K0 (eS r n)) = (K4 (aSf r n) 0 1 7 8) :=
 (by kernel_rfl : D238 r n aSw x0 (K0 (eS r n)) = D238 r n aCp (xs x0 0 (K0 (eS r n))) (K0 (eS r n))).trans
 ((bZl r n).trans (by kernel_rfl))
theorem bLg : D238 r n aCv x0 r238 = D238 r n xY x0 (K0 (eS r n)) :=
 congrArg (fun k => D238 r n xY x0 k) (cCb r n)
theorem bLz : D238 r n xY x0 (K0 (eS r n)) = D238 r n bNm x0 (K4 (aSf r n) 0 1 7 8) :=
 congrArg (fun k => D238 r n bNm x0 k) (cDy r n)
theorem cHe : D238 r n aCv x0 r238 = (K2 (aQs r n) 0 1) :=
 (bLg r n).trans
 ((bLz r n).trans
 ((by kernel_rfl)))
theorem cQe : D238 r n c238 x0 r238 = D238 r n bHf x0 (K2 (aQs r n) 0 1) :=
 congrArg (fun k => D238 r n bHf x0 k) (cHe r n)
theorem dCx : D238 r n c238 x0 r238 = (K2 (s238 r n) 0 1) :=
 (cQe r n).trans
 ((by kernel_rfl))
theorem cYc : aF CF r n 238 args h = s238 r n (aW args 0) (aW args 1) h :=
 (by kernel_rfl : aF CF r n 238 args h = D238 r n c238 x0 r238 (aJ args) h).trans ((congrFun (congrFun (dCx r n) (aJ args)) h).trans (by kernel_rfl))
noncomputable def s239 (r : RT) (n : Nat) (x0 x1 : DV) (h0 : Hp) : aH :=
 bnd (bU x0 h0) fun v1 h1 =>
 bnd (aB 0 v1 h1) fun v2 h2 =>
 bnd (aA v2 h2) fun v3 h3 =>
 bnd (aA x1 h3) fun v4 h4 =>
 bnd (gC .eql v3 v4 h4) fun v5 h5 =>
 some (v5, h5)
noncomputable abbrev c239 : Code := cf Tryz.f239
noncomputable abbrev r239 : K := aV CF Tryz.f239
noncomputable def D239 (r : RT) (n : Nat) (c : Code) (X : Nat → K) (k : K) : K := aP CF r 8 n c X r239 k
theorem dHl : D239 r n c239 x0 r239 = (K2 (s239 r n) 0 1) :=
 (by kernel_rfl)
theorem cXs : aF CF r n 239 args h = s239 r n (aW args 0) (aW args 1) h :=
 (by kernel_rfl : aF CF r n 239 args h = D239 r n c239 x0 r239 (aJ args) h).trans ((congrFun (congrFun (dHl r n) (aJ args)) h).trans (by kernel_rfl))
noncomputable def s240 (r : RT) (n : Nat) (x0 x1 : DV) (h0 : Hp) : aH :=
 bnd (bU x0 h0) fun v1 h1 =>
 bnd (aK 4 v1 h1) fun v2 h2 =>
 bnd (aK 4 x1 h2) fun v3 h3 =>
 bnd (r 241 [v2, v3] h3) fun v4 h4 =>
 some (v4, h4)
noncomputable abbrev c240 : Code := cf Tryz.f240
noncomputable abbrev r240 : K := aV CF Tryz.f240
noncomputable def D240 (r : RT) (n : Nat) (c : Code) (X : Nat → K) (k : K) : K := aP CF r 7 n c X r240 k
theorem dBq : D240 r n c240 x0 r240 = (K2 (s240 r n) 0 1) :=
 (by kernel_rfl)
theorem cUq : aF CF r n 240 args h = s240 r n (aW args 0) (aW args 1) h :=
 (by kernel_rfl : aF CF r n 240 args h = D240 r n c240 x0 r240 (aJ args) h).trans ((congrFun (congrFun (dBq r n) (aJ args)) h).trans (by kernel_rfl))
noncomputable def s241 (r : RT) (n : Nat) (x0 x1 : DV) (h0 : Hp) : aH :=
 bnd (bU x0 h0) fun v1 h1 =>
 bnd (bU x1 h1) fun v2 h2 =>
 bnd (aB 0 v1 h2) fun v3 h3 =>
 bnd (aA v3 h3) fun v4 h4 =>
 bnd (aB 0 v2 h4) fun v5 h5 =>
 bnd (aA v5 h5) fun v6 h6 =>
 bnd (aD .eql v4 v6 h6) fun v7 h7 =>
 bnd (gD v7 true (aB 1 v1 h7) h7) fun v8 h8 =>
 bnd (gD v7 true (aA v8 h8) h8) fun v9 h9 =>
 bnd (gD v7 true (aB 1 v2 h9) h9) fun v10 h10 =>
 bnd (gD v7 true (aA v10 h10) h10) fun v11 h11 =>
 bnd (gD v7 true (gC .eql v9 v11 h11) h11) fun v12 h12 =>
 bnd (aQ v7 v12 (.b false) h12) fun v13 h13 =>
 bnd (gD v13 true (aB 2 v1 h13) h13) fun v14 h14 =>
 bnd (gD v13 true (aA v14 h14) h14) fun v15 h15 =>
 bnd (gD v13 true (aB 2 v2 h15) h15) fun v16 h16 =>
 bnd (gD v13 true (aA v16 h16) h16) fun v17 h17 =>
 bnd (gD v13 true (aD .eql v15 v17 h17) h17) fun v18 h18 =>
 bnd (aQ v13 v18 (.b false) h18) fun v19 h19 =>
 bnd (gD v19 true (aB 3 v1 h19) h19) fun v20 h20 =>
 bnd (gD v19 true (aA v20 h20) h20) fun v21 h21 =>
 bnd (gD v19 true (aB 3 v2 h21) h21) fun v22 h22 =>
 bnd (gD v19 true (aA v22 h22) h22) fun v23 h23 =>
 bnd (gD v19 true (r 259 [v21, v23, (.f 241 [] [])] h23) h23) fun v24 h24 =>
 bnd (aQ v19 v24 (.b false) h24) fun v25 h25 =>
 some (v25, h25)
noncomputable abbrev c241 : Code := cf Tryz.f241
noncomputable abbrev r241 : K := aV CF Tryz.f241
noncomputable def D241 (r : RT) (n : Nat) (c : Code) (X : Nat → K) (k : K) : K := aP CF r 31 n c X r241 k
theorem dEo : D241 r n c241 x0 r241 = (K2 (s241 r n) 0 1) :=
 (by kernel_rfl)
theorem cYv : aF CF r n 241 args h = s241 r n (aW args 0) (aW args 1) h :=
 (by kernel_rfl : aF CF r n 241 args h = D241 r n c241 x0 r241 (aJ args) h).trans ((congrFun (congrFun (dEo r n) (aJ args)) h).trans (by kernel_rfl))
noncomputable def s243 (r : RT) (n : Nat) (x0 x1 : DV) (h0 : Hp) : aH :=
 bnd (bE [(aG 0), (.s []), (aG 0), .l0] [(0, 1, (aG 3)), (1, 1, x1)] h0) fun v1 h1 =>
 bnd (mQ [x0, v1] h1) fun v2 h2 =>
 some (v2, h2)
noncomputable abbrev c243 : Code := cf Tryz.f243
noncomputable abbrev r243 : K := aV CF Tryz.f243
noncomputable def D243 (r : RT) (n : Nat) (c : Code) (X : Nat → K) (k : K) : K := aP CF r 9 n c X r243 k
theorem dDy : D243 r n c243 x0 r243 = (K2 (s243 r n) 0 1) :=
 (by kernel_rfl)
theorem cRv : aF CF r n 243 args h = s243 r n (aW args 0) (aW args 1) h :=
 (by kernel_rfl : aF CF r n 243 args h = D243 r n c243 x0 r243 (aJ args) h).trans ((congrFun (congrFun (dDy r n) (aJ args)) h).trans (by kernel_rfl))
noncomputable def s247 (r : RT) (n : Nat) (x0 x1 : DV) (h0 : Hp) : aH :=
 bnd (bU x1 h0) fun v1 h1 =>
 bnd (aK 6 v1 h1) fun v2 h2 =>
 bnd (r 269 [v2] h2) fun v3 h3 =>
 aX v3 (
 bnd (r 187 [x0, (aG 1), (aG 0), (aG 0)] h3) fun v4 h4 =>
 some ((aG 15), h4)) (
 bnd (aK 6 v1 h3) fun v5 h5 =>
 bnd (r 186 [x0, v5] h5) fun v6 h6 =>
 some ((aG 14), h6))
noncomputable abbrev c247 : Code := cf Tryz.f247
noncomputable abbrev r247 : K := aV CF Tryz.f247
noncomputable def D247 (r : RT) (n : Nat) (c : Code) (X : Nat → K) (k : K) : K := aP CF r 12 n c X r247 k
theorem dFm : D247 r n c247 x0 r247 = (K2 (s247 r n) 0 1) :=
 (by kernel_rfl)
theorem cTy : aF CF r n 247 args h = s247 r n (aW args 0) (aW args 1) h :=
 (by kernel_rfl : aF CF r n 247 args h = D247 r n c247 x0 r247 (aJ args) h).trans ((congrFun (congrFun (dFm r n) (aJ args)) h).trans (by kernel_rfl))
noncomputable def mN (r : RT) (n : Nat) (x0 x2 x5 : DV) (h0 : Hp) : aH :=
 bnd (r 180 [x0] h0) fun v1 h1 =>
 bnd (aK 6 x5 h1) fun v2 h2 =>
 bnd (aI 6 x2 v2 h2) fun _ h3 =>
 bnd (aK 6 x2 h3) fun v4 _ =>
 some (.t [v4, (.b true)], h3)
noncomputable def rN (r : RT) (n : Nat) (x0 x2 x4 x5 : DV) (h0 : Hp) : aH :=
 bnd (aZ x0 h0) fun v1 h1 =>
 bnd (aB 3 v1 h1) fun v2 h2 =>
 bnd (aA v2 h2) fun v3 h3 =>
 bnd (aD .neq v3 (aG 0) h3) fun v4 h4 =>
 aX v4 (
 bnd (aK 6 x5 h4) fun v5 h5 =>
 bnd (aI 6 x2 v5 h5) fun _ h6 =>
 bnd (aK 6 x2 h6) fun v7 _ =>
 some (.t [v7, (.b false)], h6)) (
 bnd (r 270 [x0] h4) fun v8 h8 =>
 aX v8 (
 bnd (r 180 [x0] h8) fun v9 h9 =>
 bnd (r 180 [x0] h9) fun v10 h10 =>
 bnd (jX 2 v10 h10) fun v11 h11 =>
 bnd (jE .neg v11 h11) fun v12 h12 =>
 bnd (bE tR [(0, 1, (aG 1)), (2, 1, v12)] h12) fun v13 h13 =>
 bnd (aI 6 x2 v13 h13) fun _ h14 =>
 bnd (aK 6 x2 h14) fun v15 _ =>
 some (.t [v15, (.b true)], h14)) (
 bnd (aB 0 x4 h8) fun v16 h16 =>
 bnd (aA v16 h16) fun v17 h17 =>
 bnd (aD .eql v17 (aG 4) h17) fun v18 h18 =>
 aX v18 (
 bnd (aB 0 x5 h18) fun v19 h19 =>
 bnd (aI 1 v19 (aG 1) h19) fun _ h20 =>
    mN r n x0 x2 x5 h20) (
 bnd (aB 0 x4 h18) fun v21 h21 =>
 bnd (aA v21 h21) fun v22 h22 =>
 bnd (aD .eql v22 (aG 5) h22) fun v23 h23 =>
 aX v23 (
 bnd (aB 0 x5 h23) fun v24 h24 =>
 bnd (aI 1 v24 (aG 2) h24) fun _ h25 =>
     mN r n x0 x2 x5 h25) (
 bnd (aB 0 x4 h23) fun v26 h26 =>
 bnd (aA v26 h26) fun v27 h27 =>
 bnd (aD .eql v27 (aG 6) h27) fun v28 h28 =>
 aX v28 (
 bnd (aB 0 x5 h28) fun v29 h29 =>
 bnd (aI 1 v29 (aG 3) h29) fun _ h30 =>
      mN r n x0 x2 x5 h30) (
 bnd (aK 6 x5 h28) fun v31 h31 =>
 bnd (aI 6 x2 v31 h31) fun _ h32 =>
 bnd (aK 6 x2 h32) fun v33 _ =>
 some (.t [v33, (.b false)], h32))))))
noncomputable def sM (r : RT) (n : Nat) (x0 x2 x4 : DV) (h0 : Hp) : aH :=
 bnd (aB 1 x4 h0) fun v1 h1 =>
 bnd (aA v1 h1) fun v2 h2 =>
 bnd (aB 2 x4 h2) fun v3 h3 =>
 bnd (aA v3 h3) fun v4 h4 =>
 bnd (bE tR [(1, 1, v2), (2, 1, v4)] h4) fun v5 h5 =>
 bnd (bY tR h5) fun v6 h6 =>
 bnd (aI 6 v6 v5 h6) fun _ h7 =>
  rN r n x0 x2 x4 v6 h7
noncomputable def rP (r : RT) (n : Nat) (x0 x2 : DV) (h0 : Hp) : aH :=
 bnd (r 183 [x0, (aG 0)] h0) fun v1 h1 =>
 bnd (bY [(aG 0), (.s []), (aG 0), (aG 0)] h1) fun v2 h2 =>
 bnd (aI 4 v2 v1 h2) fun _ h3 =>
  sM r n x0 x2 v2 h3
noncomputable def s253 (r : RT) (n : Nat) (x0 : DV) (h0 : Hp) : aH :=
 bnd (bY tR h0) fun v1 h1 =>
  rP r n x0 v1 h1
noncomputable abbrev c253 : Code := cf Tryz.f253
noncomputable abbrev aBy : Code := cR c253
noncomputable abbrev aGd : Code := cR aBy
noncomputable abbrev aCl : Code := cR aGd
noncomputable abbrev cPb : Code := cR aCl
noncomputable abbrev aQq : Code := cL aCl
noncomputable abbrev aSr : Code := cL aGd
noncomputable abbrev aSj : Code := cL aBy
noncomputable abbrev aPe : Code := cL c253
noncomputable abbrev r253 : K := aV CF Tryz.f253
noncomputable def D253 (r : RT) (n : Nat) (c : Code) (X : Nat → K) (k : K) : K := aP CF r 49 n c X r253 k
theorem cDp : D253 r n cPb x0 r253 = (K3 (mN r n) 0 2 5) :=
 (by kernel_rfl)
theorem bWr : D253 r n aCl x0 r253 = D253 r n aQq x0 (K3 (mN r n) 0 2 5) :=
 congrArg (fun k => D253 r n aQq x0 k) (cDp r n)
theorem bIp (q0 : jF) : D253 r n aQq x0 (K3 q0 0 2 5) = fun (env : bA) (h : Hp) =>
 bnd (aZ (env 0) h) fun v1 h1 =>
 bnd (aB 3 v1 h1) fun v2 h2 =>
 bnd (aA v2 h2) fun v3 h3 =>
 bnd (aD .neq v3 (aG 0) h3) fun v4 h4 =>
 aX v4 (
 bnd (aK 6 (env 5) h4) fun v5 h5 =>
 bnd (aI 6 (env 2) v5 h5) fun _ h6 =>
 bnd (aK 6 (env 2) h6) fun v7 _ =>
 some (.t [v7, (.b false)], h6)) (
 bnd (r 270 [(env 0)] h4) fun v8 h8 =>
 aX v8 (
 bnd (r 180 [(env 0)] h8) fun v9 h9 =>
 bnd (r 180 [(env 0)] h9) fun v10 h10 =>
 bnd (jX 2 v10 h10) fun v11 h11 =>
 bnd (jE .neg v11 h11) fun v12 h12 =>
 bnd (bE tR [(0, 1, (aG 1)), (2, 1, v12)] h12) fun v13 h13 =>
 bnd (aI 6 (env 2) v13 h13) fun _ h14 =>
 bnd (aK 6 (env 2) h14) fun v15 _ =>
 some (.t [v15, (.b true)], h14)) (
 bnd (aB 0 (env 4) h8) fun v16 h16 =>
 bnd (aA v16 h16) fun v17 h17 =>
 bnd (aD .eql v17 (aG 4) h17) fun v18 h18 =>
 aX v18 (
 bnd (aB 0 (env 5) h18) fun v19 h19 =>
 bnd (aI 1 v19 (aG 1) h19) fun _ h20 =>
     q0 (env 0) (env 2) (env 5) h20) (
 bnd (aB 0 (env 4) h18) fun v21 h21 =>
 bnd (aA v21 h21) fun v22 h22 =>
 bnd (aD .eql v22 (aG 5) h22) fun v23 h23 =>
 aX v23 (
 bnd (aB 0 (env 5) h23) fun v24 h24 =>
 bnd (aI 1 v24 (aG 2) h24) fun _ h25 =>
      q0 (env 0) (env 2) (env 5) h25) (
 bnd (aB 0 (env 4) h23) fun v26 h26 =>
 bnd (aA v26 h26) fun v27 h27 =>
 bnd (aD .eql v27 (aG 6) h27) fun v28 h28 =>
 aX v28 (
 bnd (aB 0 (env 5) h28) fun v29 h29 =>
 bnd (aI 1 v29 (aG 3) h29) fun _ h30 =>
       q0 (env 0) (env 2) (env 5) h30) (
 bnd (aK 6 (env 5) h28) fun v31 h31 =>
 bnd (aI 6 (env 2) v31 h31) fun _ h32 =>
 bnd (aK 6 (env 2) h32) fun v33 _ =>
 some (.t [v33, (.b false)], h32)))))) := by kernel_rfl
theorem bCu : (fun (env : bA) (h : Hp) =>
 bnd (aZ (env 0) h) fun v1 h1 =>
 bnd (aB 3 v1 h1) fun v2 h2 =>
 bnd (aA v2 h2) fun v3 h3 =>
 bnd (aD .neq v3 (aG 0) h3) fun v4 h4 =>
 aX v4 (
 bnd (aK 6 (env 5) h4) fun v5 h5 =>
 bnd (aI 6 (env 2) v5 h5) fun _ h6 =>
 bnd (aK 6 (env 2) h6) fun v7 _ =>
 some (.t [v7, (.b false)], h6)) (
 bnd (r 270 [(env 0)] h4) fun v8 h8 =>
 aX v8 (
 bnd (r 180 [(env 0)] h8) fun v9 h9 =>
 bnd (r 180 [(env 0)] h9) fun v10 h10 =>
 bnd (jX 2 v10 h10) fun v11 h11 =>
 bnd (jE .neg v11 h11) fun v12 h12 =>
 bnd (bE tR [(0, 1, (aG 1)), (2, 1, v12)] h12) fun v13 h13 =>
 bnd (aI 6 (env 2) v13 h13) fun _ h14 =>
 bnd (aK 6 (env 2) h14) fun v15 _ =>
 some (.t [v15, (.b true)], h14)) (
 bnd (aB 0 (env 4) h8) fun v16 h16 =>
 bnd (aA v16 h16) fun v17 h17 =>
 bnd (aD .eql v17 (aG 4) h17) fun v18 h18 =>
 aX v18 (
 bnd (aB 0 (env 5) h18) fun v19 h19 =>
 bnd (aI 1 v19 (aG 1) h19) fun _ h20 =>
     mN r n (env 0) (env 2) (env 5) h20) (
 bnd (aB 0 (env 4) h18) fun v21 h21 =>
 bnd (aA v21 h21) fun v22 h22 =>
 bnd (aD .eql v22 (aG 5) h22) fun v23 h23 =>
 aX v23 (
 bnd (aB 0 (env 5) h23) fun v24 h24 =>
 bnd (aI 1 v24 (aG 2) h24) fun _ h25 =>
      mN r n (env 0) (env 2) (env 5) h25) (
 bnd (aB 0 (env 4) h23) fun v26 h26 =>
 bnd (aA v26 h26) fun v27 h27 =>
 bnd (aD .eql v27 (aG 6) h27) fun v28 h28 =>
 aX v28 (
 bnd (aB 0 (env 5) h28) fun v29 h29 =>
 bnd (aI 1 v29 (aG 3) h29) fun _ h30 =>
       mN r n (env 0) (env 2) (env 5) h30) (
 bnd (aK 6 (env 5) h28) fun v31 h31 =>
 bnd (aI 6 (env 2) v31 h31) fun _ h32 =>
 bnd (aK 6 (env 2) h32) fun v33 _ =>
 some (.t [v33, (.b false)], h32))))))) = (K4 (rN r n) 0 2 4 5) := by kernel_rfl
theorem cAk : D253 r n aCl x0 r253 = (K4 (rN r n) 0 2 4 5) :=
 (bWr r n).trans
 ((bIp r n (mN r n)).trans (bCu r n))
theorem bTb : D253 r n aGd x0 r253 = D253 r n aSr x0 (K4 (rN r n) 0 2 4 5) :=
 congrArg (fun k => D253 r n aSr x0 k) (cAk r n)
theorem bXv (q0 : bZ) : D253 r n aSr x0 (K4 q0 0 2 4 5) = fun (env : bA) (h : Hp) =>
 bnd (aB 1 (env 4) h) fun v1 h1 =>
 bnd (aA v1 h1) fun v2 h2 =>
 bnd (aB 2 (env 4) h2) fun v3 h3 =>
 bnd (aA v3 h3) fun v4 h4 =>
 bnd (bE tR [(1, 1, v2), (2, 1, v4)] h4) fun v5 h5 =>
 bnd (bY tR h5) fun v6 h6 =>
 bnd (aI 6 v6 v5 h6) fun _ h7 =>
  q0 (env 0) (env 2) (env 4) v6 h7 := by kernel_rfl
theorem bEk : (fun (env : bA) (h : Hp) =>
 bnd (aB 1 (env 4) h) fun v1 h1 =>
 bnd (aA v1 h1) fun v2 h2 =>
 bnd (aB 2 (env 4) h2) fun v3 h3 =>
 bnd (aA v3 h3) fun v4 h4 =>
 bnd (bE tR [(1, 1, v2), (2, 1, v4)] h4) fun v5 h5 =>
 bnd (bY tR h5) fun v6 h6 =>
 bnd (aI 6 v6 v5 h6) fun _ h7 =>
  rN r n (env 0) (env 2) (env 4) v6 h7) = (K3 (sM r n) 0 2 4) := by kernel_rfl
theorem cDe : D253 r n aGd x0 r253 = (K3 (sM r n) 0 2 4) :=
 (bTb r n).trans
 ((bXv r n (rN r n)).trans (bEk r n))
theorem bQs : D253 r n aBy x0 r253 = D253 r n aSj x0 (K3 (sM r n) 0 2 4) :=
 congrArg (fun k => D253 r n aSj x0 k) (cDe r n)
theorem bJb (q0 : jF) : D253 r n aSj x0 (K3 q0 0 2 4) = fun (env : bA) (h : Hp) =>
 bnd (r 183 [(env 0), (aG 0)] h) fun v1 h1 =>
 bnd (bY [(aG 0), (.s []), (aG 0), (aG 0)] h1) fun v2 h2 =>
 bnd (aI 4 v2 v1 h2) fun _ h3 =>
  q0 (env 0) (env 2) v2 h3 := by kernel_rfl
theorem bCc : (fun (env : bA) (h : Hp) =>
 bnd (r 183 [(env 0), (aG 0)] h) fun v1 h1 =>
 bnd (bY [(aG 0), (.s []), (aG 0), (aG 0)] h1) fun v2 h2 =>
 bnd (aI 4 v2 v1 h2) fun _ h3 =>
  sM r n (env 0) (env 2) v2 h3) = (K2 (rP r n) 0 2) := by kernel_rfl
theorem cIe : D253 r n aBy x0 r253 = (K2 (rP r n) 0 2) :=
 (bQs r n).trans
 ((bJb r n (sM r n)).trans (bCc r n))
theorem dAb : D253 r n c253 x0 r253 = D253 r n aPe x0 (K2 (rP r n) 0 2) :=
 congrArg (fun k => D253 r n aPe x0 k) (cIe r n)
theorem cTu (q0 : tS) : D253 r n aPe x0 (K2 q0 0 2) = fun (env : bA) (h : Hp) =>
 bnd (bY tR h) fun v1 h1 =>
  q0 (env 0) v1 h1 := by kernel_rfl
theorem cLy : (fun (env : bA) (h : Hp) =>
 bnd (bY tR h) fun v1 h1 =>
  rP r n (env 0) v1 h1) = (K1 (s253 r n) 0) := by kernel_rfl
theorem dBa : D253 r n c253 x0 r253 = (K1 (s253 r n) 0) :=
 (dAb r n).trans
 ((cTu r n (rP r n)).trans (cLy r n))
theorem cZn : aF CF r n 253 args h = s253 r n (aW args 0) h :=
 (by kernel_rfl : aF CF r n 253 args h = D253 r n c253 x0 r253 (aJ args) h).trans ((congrFun (congrFun (dBa r n) (aJ args)) h).trans (by kernel_rfl))
end Go.Dd

namespace Go.Dd
open Go.Proofs
variable (r : RT) (n : Nat) (args : List DV) (h : Hp)
noncomputable def s269 (r : RT) (n : Nat) (x0 : DV) (h0 : Hp) : aH :=
 bnd (bU x0 h0) fun v1 h1 =>
 bnd (aB 0 v1 h1) fun v2 h2 =>
 bnd (aA v2 h2) fun v3 h3 =>
 bnd (aD .eql v3 (aG 5) h3) fun v4 h4 =>
 bnd (gD v4 true (aB 1 v1 h4) h4) fun v5 h5 =>
 bnd (gD v4 true (aA v5 h5) h5) fun v6 h6 =>
 bnd (gD v4 true (gC .eql v6 (.s [115, 117, 112, 101, 114]) h6) h6) fun v7 h7 =>
 bnd (aQ v4 v7 (.b false) h7) fun v8 h8 =>
 some (v8, h8)
noncomputable abbrev c269 : Code := cf Tryz.f269
noncomputable abbrev r269 : K := aV CF Tryz.f269
noncomputable def D269 (r : RT) (n : Nat) (c : Code) (X : Nat → K) (k : K) : K := aP CF r 11 n c X r269 k
theorem dFd : D269 r n c269 x0 r269 = (K1 (s269 r n) 0) :=
 (by kernel_rfl)
theorem cXp : aF CF r n 269 args h = s269 r n (aW args 0) h :=
 (by kernel_rfl : aF CF r n 269 args h = D269 r n c269 x0 r269 (aJ args) h).trans ((congrFun (congrFun (dFd r n) (aJ args)) h).trans (by kernel_rfl))
noncomputable def s270 (r : RT) (n : Nat) (x0 : DV) (h0 : Hp) : aH :=
 bnd (r 183 [x0, (aG 1)] h0) fun v1 h1 =>
 bnd (bY [(aG 0), (.s []), (aG 0), (aG 0)] h1) fun v2 h2 =>
 bnd (aI 4 v2 v1 h2) fun _ h3 =>
 bnd (r 179 [x0, (aG 3), (.s [45])] h3) fun v4 h4 =>
 bnd (gD v4 true (aB 0 v2 h4) h4) fun v5 h5 =>
 bnd (gD v4 true (aA v5 h5) h5) fun v6 h6 =>
 bnd (gD v4 true (aD .eql v6 (aG 4) h6) h6) fun v7 h7 =>
 bnd (aQ v4 v7 (.b false) h7) fun v8 h8 =>
 bnd (gD v8 true (aB 3 v2 h8) h8) fun v9 h9 =>
 bnd (gD v8 true (aA v9 h9) h9) fun v10 h10 =>
 bnd (gD v8 true (some (x0, h10)) h10) fun v11 h11 =>
 bnd (gD v8 true (r 183 [v11, (aG 0)] h11) h11) fun v12 h12 =>
 cnd (bM (gD v8 true (aA v9 h12) h12) v10 && true) (
 bnd (gD v8 true (jX 3 v12 h12) h12) fun v13 h13 =>
 bnd (gD v8 true (aD .add v13 (aG 1) h13) h13) fun v14 h14 =>
 bnd (gD v8 true (aD .eql v10 v14 h14) h14) fun v15 h15 =>
 bnd (aQ v8 v15 (.b false) h15) fun v16 h16 =>
 some (v16, h16))
noncomputable abbrev c270 : Code := cf Tryz.f270
noncomputable abbrev r270 : K := aV CF Tryz.f270
noncomputable def D270 (r : RT) (n : Nat) (c : Code) (X : Nat → K) (k : K) : K := aP CF r 22 n c X r270 k
theorem dBu : D270 r n c270 x0 r270 = (K1 (s270 r n) 0) :=
 (by kernel_rfl)
theorem cTj : aF CF r n 270 args h = s270 r n (aW args 0) h :=
 (by kernel_rfl : aF CF r n 270 args h = D270 r n c270 x0 r270 (aJ args) h).trans ((congrFun (congrFun (dBu r n) (aJ args)) h).trans (by kernel_rfl))
end Go.Dd

namespace Go.Dd
open Go.Proofs
section
variable (ih : RT) (m : Nat) (f : FuncId) (args : List DV) (h : Hp)
theorem dH {i : Nat} {s r : aH} (e1 : s = aF CF ih m i args h) (e2 : r = aF CF ih m f args h) : (bif Nat.beq f i then s else r) = aF CF ih m f args h := by
 cases e : Nat.beq f i with
 | false => exact e2
 | true => cases Nat.eq_of_beq_eq_true e; exact e1
theorem ndC {i : Nat} {a b : aH} (e1 : a = aF CF ih m f args h) (e2 : b = aF CF ih m f args h) : (bif Nat.blt f i then a else b) = aF CF ih m f args h := by
 cases Nat.blt f i with
 | false => exact e2
 | true => exact e1
noncomputable def qg0 : aH := bif Nat.beq f 7 then s7 ih m (aW args 0) h else bif Nat.beq f 9 then s9 ih m h else bif Nat.beq f 10 then s10 ih m (aW args 0) (aW args 1) h else bif Nat.beq f 11 then s11 ih m (aW args 0) (aW args 1) h else bif Nat.beq f 17 then s17 ih m (aW args 0) h else bif Nat.beq f 24 then s24 ih m (aW args 0) (aW args 1) h else bif Nat.beq f 25 then s25 ih m h else bif Nat.beq f 26 then s26 ih m (aW args 0) (aW args 1) h else aF CF ih m f args h
theorem dKj : qg0 ih m f args h = aF CF ih m f args h := dH ih m f args h (dNa ih m args h).symm (dH ih m f args h (dIp ih m args h).symm (dH ih m f args h (cNz ih m args h).symm (dH ih m f args h (dAp ih m args h).symm (dH ih m f args h (cOl ih m args h).symm (dH ih m f args h (cMo ih m args h).symm (dH ih m f args h (cOu ih m args h).symm (dH ih m f args h (cMp ih m args h).symm rfl)))))))
noncomputable def qg1 : aH := bif Nat.beq f 27 then s27 ih m (aW args 0) (aW args 1) h else bif Nat.beq f 28 then s28 ih m (aW args 0) (aW args 1) h else bif Nat.beq f 29 then s29 ih m (aW args 0) (aW args 1) h else bif Nat.beq f 34 then s34 ih m (aW args 0) (aW args 1) h else bif Nat.beq f 36 then s36 ih m (aW args 0) (aW args 1) h else bif Nat.beq f 37 then s37 ih m (aW args 0) h else bif Nat.beq f 39 then s39 ih m (aW args 0) (aW args 1) (aW args 2) h else bif Nat.beq f 41 then s41 ih m (aW args 0) (aW args 1) (aW args 2) h else aF CF ih m f args h
theorem dIj : qg1 ih m f args h = aF CF ih m f args h := dH ih m f args h (cOg ih m args h).symm (dH ih m f args h (cNv ih m args h).symm (dH ih m f args h (cNr ih m args h).symm (dH ih m f args h (cNi ih m args h).symm (dH ih m f args h (cOc ih m args h).symm (dH ih m f args h (dFg ih m args h).symm (dH ih m f args h (cMw ih m args h).symm (dH ih m f args h (dBh ih m args h).symm rfl)))))))
noncomputable def qg2 : aH := bif Nat.beq f 43 then s43 ih m (aW args 0) (aW args 1) (aW args 2) h else bif Nat.beq f 56 then s56 ih m (aW args 0) (aW args 1) h else bif Nat.beq f 58 then s58 ih m (aW args 0) (aW args 1) h else bif Nat.beq f 60 then s60 ih m (aW args 0) (aW args 1) h else bif Nat.beq f 61 then s61 ih m (aW args 0) (aW args 1) h else bif Nat.beq f 63 then s63 ih m (aW args 0) (aW args 1) h else bif Nat.beq f 64 then s64 ih m (aW args 0) (aW args 1) h else bif Nat.beq f 65 then s65 ih m (aW args 0) (aW args 1) h else aF CF ih m f args h
theorem dMw : qg2 ih m f args h = aF CF ih m f args h := dH ih m f args h (cMt ih m args h).symm (dH ih m f args h (cOo ih m args h).symm (dH ih m f args h (dEx ih m args h).symm (dH ih m f args h (cNq ih m args h).symm (dH ih m f args h (dCd ih m args h).symm (dH ih m f args h (cMn ih m args h).symm (dH ih m f args h (cOn ih m args h).symm (dH ih m f args h (cOh ih m args h).symm rfl)))))))
noncomputable def qg3 : aH := bif Nat.beq f 71 then s71 ih m (aW args 0) (aW args 1) h else bif Nat.beq f 72 then s72 ih m (aW args 0) (aW args 1) h else bif Nat.beq f 77 then s77 ih m (aW args 0) (aW args 1) h else bif Nat.beq f 86 then s86 ih m (aW args 0) (aW args 1) h else bif Nat.beq f 87 then s87 ih m (aW args 0) (aW args 1) (aW args 2) (aW args 3) h else bif Nat.beq f 91 then s91 ih m (aW args 0) h else bif Nat.beq f 92 then s92 ih m (aW args 0) (aW args 1) h else bif Nat.beq f 93 then s93 ih m (aW args 0) (aW args 1) (aW args 2) h else aF CF ih m f args h
theorem dKe : qg3 ih m f args h = aF CF ih m f args h := dH ih m f args h (cNw ih m args h).symm (dH ih m f args h (bXq ih m args h).symm (dH ih m f args h (cNt ih m args h).symm (dH ih m f args h (cMx ih m args h).symm (dH ih m f args h (cNp ih m args h).symm (dH ih m f args h (dDs ih m args h).symm (dH ih m f args h (dEr ih m args h).symm (dH ih m f args h (dEq ih m args h).symm rfl)))))))
noncomputable def qg4 : aH := bif Nat.beq f 96 then s96 ih m (aW args 0) (aW args 1) h else bif Nat.beq f 106 then s106 ih m (aW args 0) (aW args 1) h else bif Nat.beq f 110 then s110 ih m (aW args 0) (aW args 1) h else bif Nat.beq f 111 then s111 ih m (aW args 0) (aW args 1) (aW args 2) h else bif Nat.beq f 116 then s116 ih m (aW args 0) (aW args 1) h else bif Nat.beq f 117 then s117 ih m (aW args 0) (aW args 1) h else bif Nat.beq f 118 then s118 ih m (aW args 0) (aW args 1) h else bif Nat.beq f 123 then s123 ih m (aW args 0) (aW args 1) h else aF CF ih m f args h
theorem dMc : qg4 ih m f args h = aF CF ih m f args h := dH ih m f args h (dHe ih m args h).symm (dH ih m f args h (cSm ih m args h).symm (dH ih m f args h (cTh ih m args h).symm (dH ih m f args h (aRb ih m args h).symm (dH ih m f args h (bPq ih m args h).symm (dH ih m f args h (bSj ih m args h).symm (dH ih m f args h (bFs ih m args h).symm (dH ih m f args h (bLr ih m args h).symm rfl)))))))
noncomputable def qg5 : aH := bif Nat.beq f 132 then s132 ih m (aW args 0) (aW args 1) h else bif Nat.beq f 133 then s133 ih m (aW args 0) (aW args 1) h else bif Nat.beq f 134 then s134 ih m (aW args 0) h else bif Nat.beq f 136 then s136 ih m (aW args 0) (aW args 1) (aW args 2) h else bif Nat.beq f 137 then s137 ih m (aW args 0) (aW args 1) (aW args 2) (aW args 3) h else bif Nat.beq f 141 then s141 ih m (aW args 0) (aW args 1) (aW args 2) h else bif Nat.beq f 142 then s142 ih m (aW args 0) (aW args 1) h else bif Nat.beq f 143 then s143 ih m (aW args 0) h else aF CF ih m f args h
theorem dJx : qg5 ih m f args h = aF CF ih m f args h := dH ih m f args h (cSh ih m args h).symm (dH ih m f args h (cZz ih m args h).symm (dH ih m f args h (cTf ih m args h).symm (dH ih m f args h (cYy ih m args h).symm (dH ih m f args h (cRk ih m args h).symm (dH ih m f args h (bWo ih m args h).symm (dH ih m f args h (bJs ih m args h).symm (dH ih m f args h (bKt ih m args h).symm rfl)))))))
noncomputable def qg6 : aH := bif Nat.beq f 144 then s144 ih m (aW args 0) (aW args 1) h else bif Nat.beq f 145 then s145 ih m (aW args 0) h else bif Nat.beq f 146 then s146 ih m (aW args 0) (aW args 1) (aW args 2) h else bif Nat.beq f 147 then s147 ih m (aW args 0) h else bif Nat.beq f 148 then s148 ih m (aW args 0) (aW args 1) h else bif Nat.beq f 149 then s149 ih m (aW args 0) (aW args 1) h else bif Nat.beq f 153 then s153 ih m (aW args 0) h else bif Nat.beq f 156 then s156 ih m (aW args 0) (aW args 1) (aW args 2) h else aF CF ih m f args h
theorem dHs : qg6 ih m f args h = aF CF ih m f args h := dH ih m f args h (bQr ih m args h).symm (dH ih m f args h (cSq ih m args h).symm (dH ih m f args h (cYd ih m args h).symm (dH ih m f args h (cYn ih m args h).symm (dH ih m f args h (cXt ih m args h).symm (dH ih m f args h (cUb ih m args h).symm (dH ih m f args h (cVe ih m args h).symm (dH ih m f args h (cQx ih m args h).symm rfl)))))))
noncomputable def qg7 : aH := bif Nat.beq f 160 then s160 ih m (aW args 0) h else bif Nat.beq f 161 then s161 ih m (aW args 0) (aW args 1) h else bif Nat.beq f 163 then s163 ih m (aW args 0) (aW args 1) h else bif Nat.beq f 164 then s164 ih m (aW args 0) (aW args 1) h else bif Nat.beq f 165 then s165 ih m (aW args 0) h else bif Nat.beq f 166 then s166 ih m (aW args 0) (aW args 1) h else bif Nat.beq f 167 then s167 ih m (aW args 0) (aW args 1) h else bif Nat.beq f 168 then s168 ih m (aW args 0) (aW args 1) h else aF CF ih m f args h
theorem dKp : qg7 ih m f args h = aF CF ih m f args h := dH ih m f args h (cVv ih m args h).symm (dH ih m f args h (cUa ih m args h).symm (dH ih m f args h (bPn ih m args h).symm (dH ih m f args h (bXn ih m args h).symm (dH ih m f args h (cXc ih m args h).symm (dH ih m f args h (cRi ih m args h).symm (dH ih m f args h (cTw ih m args h).symm (dH ih m f args h (cRa ih m args h).symm rfl)))))))
noncomputable def qg8 : aH := bif Nat.beq f 169 then s169 ih m (aW args 0) h else bif Nat.beq f 170 then s170 ih m (aW args 0) (aW args 1) (aW args 2) (aW args 3) (aW args 4) (aW args 5) (aW args 6) (aW args 7) h else bif Nat.beq f 171 then s171 ih m (aW args 0) h else bif Nat.beq f 172 then s172 ih m (aW args 0) h else bif Nat.beq f 175 then s175 ih m (aW args 0) (aW args 1) (aW args 2) h else bif Nat.beq f 176 then s176 ih m (aW args 0) h else bif Nat.beq f 177 then s177 ih m (aW args 0) (aW args 1) h else bif Nat.beq f 178 then s178 ih m (aW args 0) h else aF CF ih m f args h
theorem dLe : qg8 ih m f args h = aF CF ih m f args h := dH ih m f args h (cUd ih m args h).symm (dH ih m f args h (cQl ih m args h).symm (dH ih m f args h (cVk ih m args h).symm (dH ih m f args h (cUf ih m args h).symm (dH ih m f args h (cTi ih m args h).symm (dH ih m f args h (cRd ih m args h).symm (dH ih m f args h (cPx ih m args h).symm (dH ih m f args h (cVr ih m args h).symm rfl)))))))
noncomputable def qg9 : aH := bif Nat.beq f 179 then s179 ih m (aW args 0) (aW args 1) (aW args 2) h else bif Nat.beq f 180 then s180 ih m (aW args 0) h else bif Nat.beq f 181 then s181 ih m (aW args 0) h else bif Nat.beq f 183 then s183 ih m (aW args 0) (aW args 1) h else bif Nat.beq f 186 then s186 ih m (aW args 0) (aW args 1) h else bif Nat.beq f 187 then s187 ih m (aW args 0) (aW args 1) (aW args 2) (aW args 3) h else bif Nat.beq f 188 then s188 ih m (aW args 0) h else bif Nat.beq f 200 then s200 ih m (aW args 0) (aW args 1) h else aF CF ih m f args h
theorem dJe : qg9 ih m f args h = aF CF ih m f args h := dH ih m f args h (cWa ih m args h).symm (dH ih m f args h (cSn ih m args h).symm (dH ih m f args h (cWy ih m args h).symm (dH ih m f args h (cRh ih m args h).symm (dH ih m f args h (cSu ih m args h).symm (dH ih m f args h (cWm ih m args h).symm (dH ih m f args h (cRb ih m args h).symm (dH ih m f args h (cPj ih m args h).symm rfl)))))))
noncomputable def dAy : aH := bif Nat.beq f 201 then s201 ih m (aW args 0) (aW args 1) h else bif Nat.beq f 202 then s202 ih m (aW args 0) (aW args 1) h else bif Nat.beq f 203 then s203 ih m (aW args 0) h else bif Nat.beq f 204 then s204 ih m (aW args 0) h else bif Nat.beq f 205 then s205 ih m (aW args 0) h else bif Nat.beq f 206 then s206 ih m (aW args 0) h else bif Nat.beq f 207 then s207 ih m (aW args 0) h else bif Nat.beq f 211 then s211 ih m (aW args 0) (aW args 1) h else aF CF ih m f args h
theorem dHg : dAy ih m f args h = aF CF ih m f args h := dH ih m f args h (cYs ih m args h).symm (dH ih m f args h (dAa ih m args h).symm (dH ih m f args h (cQv ih m args h).symm (dH ih m f args h (cRt ih m args h).symm (dH ih m f args h (cXe ih m args h).symm (dH ih m f args h (cWf ih m args h).symm (dH ih m f args h (cWi ih m args h).symm (dH ih m f args h (cZu ih m args h).symm rfl)))))))
noncomputable def dDz : aH := bif Nat.beq f 212 then s212 ih m (aW args 0) h else bif Nat.beq f 216 then s216 ih m (aW args 0) (aW args 1) h else bif Nat.beq f 218 then s218 ih m (aW args 0) (aW args 1) h else bif Nat.beq f 230 then s230 ih m (aW args 0) h else bif Nat.beq f 238 then s238 ih m (aW args 0) (aW args 1) h else bif Nat.beq f 239 then s239 ih m (aW args 0) (aW args 1) h else bif Nat.beq f 240 then s240 ih m (aW args 0) (aW args 1) h else bif Nat.beq f 241 then s241 ih m (aW args 0) (aW args 1) h else aF CF ih m f args h
theorem dHd : dDz ih m f args h = aF CF ih m f args h := dH ih m f args h (cVq ih m args h).symm (dH ih m f args h (cPq ih m args h).symm (dH ih m f args h (cRp ih m args h).symm (dH ih m f args h (cUo ih m args h).symm (dH ih m f args h (cYc ih m args h).symm (dH ih m f args h (cXs ih m args h).symm (dH ih m f args h (cUq ih m args h).symm (dH ih m f args h (cYv ih m args h).symm rfl)))))))
noncomputable def dAv : aH := bif Nat.beq f 243 then s243 ih m (aW args 0) (aW args 1) h else bif Nat.beq f 247 then s247 ih m (aW args 0) (aW args 1) h else bif Nat.beq f 253 then s253 ih m (aW args 0) h else bif Nat.beq f 269 then s269 ih m (aW args 0) h else bif Nat.beq f 270 then s270 ih m (aW args 0) h else aF CF ih m f args h
theorem dEz : dAv ih m f args h = aF CF ih m f args h := dH ih m f args h (cRv ih m args h).symm (dH ih m f args h (cTy ih m args h).symm (dH ih m f args h (cZn ih m args h).symm (dH ih m f args h (cXp ih m args h).symm (dH ih m f args h (cTj ih m args h).symm rfl))))
noncomputable def qd0 : aH := bif Nat.blt f 43 then qg1 ih m f args h else qg2 ih m f args h
theorem dJk : qd0 ih m f args h = aF CF ih m f args h := ndC ih m f args h (dIj ih m f args h) (dMw ih m f args h)
noncomputable def qd1 : aH := bif Nat.blt f 27 then qg0 ih m f args h else qd0 ih m f args h
theorem dIo : qd1 ih m f args h = aF CF ih m f args h := ndC ih m f args h (dKj ih m f args h) (dJk ih m f args h)
noncomputable def qd2 : aH := bif Nat.blt f 132 then qg4 ih m f args h else qg5 ih m f args h
theorem dHt : qd2 ih m f args h = aF CF ih m f args h := ndC ih m f args h (dMc ih m f args h) (dJx ih m f args h)
noncomputable def qd3 : aH := bif Nat.blt f 96 then qg3 ih m f args h else qd2 ih m f args h
theorem dJb : qd3 ih m f args h = aF CF ih m f args h := ndC ih m f args h (dKe ih m f args h) (dHt ih m f args h)
noncomputable def qd4 : aH := bif Nat.blt f 71 then qd1 ih m f args h else qd3 ih m f args h
theorem dIk : qd4 ih m f args h = aF CF ih m f args h := ndC ih m f args h (dIo ih m f args h) (dJb ih m f args h)
noncomputable def qd5 : aH := bif Nat.blt f 169 then qg7 ih m f args h else qg8 ih m f args h
theorem dKx : qd5 ih m f args h = aF CF ih m f args h := ndC ih m f args h (dKp ih m f args h) (dLe ih m f args h)
noncomputable def qd6 : aH := bif Nat.blt f 160 then qg6 ih m f args h else qd5 ih m f args h
theorem dIx : qd6 ih m f args h = aF CF ih m f args h := ndC ih m f args h (dHs ih m f args h) (dKx ih m f args h)
noncomputable def qd7 : aH := bif Nat.blt f 201 then qg9 ih m f args h else dAy ih m f args h
theorem dMk : qd7 ih m f args h = aF CF ih m f args h := ndC ih m f args h (dJe ih m f args h) (dHg ih m f args h)
noncomputable def qd8 : aH := bif Nat.blt f 243 then dDz ih m f args h else dAv ih m f args h
theorem dIu : qd8 ih m f args h = aF CF ih m f args h := ndC ih m f args h (dHd ih m f args h) (dEz ih m f args h)
noncomputable def qd9 : aH := bif Nat.blt f 212 then qd7 ih m f args h else qd8 ih m f args h
theorem dJo : qd9 ih m f args h = aF CF ih m f args h := ndC ih m f args h (dMk ih m f args h) (dIu ih m f args h)
noncomputable def dCg : aH := bif Nat.blt f 179 then qd6 ih m f args h else qd9 ih m f args h
theorem dCl : dCg ih m f args h = aF CF ih m f args h := ndC ih m f args h (dIx ih m f args h) (dJo ih m f args h)
noncomputable def dDn : aH := bif Nat.blt f 144 then qd4 ih m f args h else dCg ih m f args h
theorem dGi : dDn ih m f args h = aF CF ih m f args h := ndC ih m f args h (dIk ih m f args h) (dCl ih m f args h)
end
noncomputable def shB (ih : RT) (m : Nat) (f : FuncId) (args : List DV) (h : Hp) : aH := dDn ih m f args h
theorem bXz (ih : RT) (m : Nat) (f : FuncId) (args : List DV) (h : Hp) : shB ih m f args h = aF CF ih m f args h := dGi ih m f args h
noncomputable def cA (n : Nat) : FuncId → List DV → Hp → aH :=
 Nat.rec (motive := fun _ => FuncId → List DV → Hp → aH) (fun _ _ _ => none) (fun m ih => fun f args h => bif zJ f then jM CF ih m itm f args h else shB ih m f args h) n
theorem zK (f : FuncId) (hf : zJ f = false) (n : Nat) (args : List DV) (h : Hp) : cA (n + 1) f args h = aF CF (cA n) n f args h := by
 show (bif zJ f then jM CF (cA n) n itm f args h else shB (cA n) n f args h) = _
 rw [hf, cond_false, bXz]
theorem oL : ∀ n, cA n = fG CF n
 | 0 => rfl
 | n + 1 => by
  funext f args h
  show (bif zJ f then jM CF (cA n) n itm f args h else shB (cA n) n f args h) = (bif zJ f then jM CF (fG CF n) n itm f else aF CF (fG CF n) n f) args h
  rw [← oL n]
  cases zJ f with
  | true => rfl
  | false => exact bXz _ _ _ _ _
end Go.Dd

namespace Go.Dd
noncomputable section
def mkW (l : List Nat) : Nat → WT → WT := List.rec (motive := fun _ => Nat → WT → WT) (fun _ t => t) (fun x _ ih i t => ih (Nat.add i 1) (t.set i (.ofNat x))) l
def bLh (l : List (Nat × Nat)) : WT → WT := List.rec (motive := fun _ => WT → WT) (fun t => t) (fun x _ ih t => ih (t.set x.1 (.ofNat x.2))) l
def mkP (l : List Nat) : WT → WT := List.rec (motive := fun _ => WT → WT) (fun t => t) (fun x _ ih t => ih (t.set x (.ofNat 1))) l
def wO (l : List Nat) : Nat → List Nat := List.rec (motive := fun _ => Nat → List Nat) (fun _ => []) (fun x _ ih n => bif Nat.beq n 0 then [] else x :: ih (Nat.sub n 1)) l
def kK (f : Nat) : Nat → Pos := Nat.rec (motive := fun _ => Nat → Pos) (fun _ => .h) (fun _ ih n => bif Nat.beq n 1 then .h else bif Nat.beq (Nat.mod n 2) 0 then .o (ih (Nat.div n 2)) else .i (ih (Nat.div n 2))) f
def aL (n : Nat) : Pos := kK 24 (Nat.add 1023 n)
def eI : List Nat := [79, 98, 106, 101, 99, 116]
def aJc : List Nat := [67, 108, 97, 115, 115]
def xF : List Nat := [84, 114, 117, 101]
def oP : List Nat := [70, 97, 108, 115, 101]
def dR : List Nat := [73, 110, 116, 101, 103, 101, 114]
def aEz : List Nat := [65, 114, 114, 97, 121]
def qC : List Nat := [83, 116, 114, 105, 110, 103]
def bZi : List Nat := [83, 121, 109, 98, 111, 108]
def sS : List Nat := [66, 108, 111, 99, 107]
def jA : List Nat := [67, 111, 110, 116, 101, 120, 116]
def aLe : List Nat := [77, 101, 115, 115, 97, 103, 101]
def dDc : List (List Nat × List Nat) := [
 (eI, [61, 32, 111, 116, 104, 101, 114, 32, 94, 115, 101, 108, 102, 32, 61, 61, 32, 111, 116, 104, 101, 114]),
 (eI, [61, 61, 32, 111, 116, 104, 101, 114, 32, 60, 112, 114, 105, 109, 105, 116, 105, 118, 101, 58, 32, 49, 48, 62]),
 (eI, [99, 108, 97, 115, 115, 32, 60, 112, 114, 105, 109, 105, 116, 105, 118, 101, 58, 32, 49, 49, 62]),
 (eI, [105, 115, 78, 105, 108, 32, 94, 115, 101, 108, 102, 32, 61, 61, 32, 110, 105, 108]),
 (eI, [110, 111, 116, 78, 105, 108, 32, 94, 40, 115, 101, 108, 102, 32, 61, 61, 32, 110, 105, 108, 41, 32, 61, 61, 32, 102, 97, 108, 115, 101]),
 (eI, [126, 61, 32, 111, 116, 104, 101, 114, 32, 94, 40, 115, 101, 108, 102, 32, 61, 32, 111, 116, 104, 101, 114, 41, 32, 61, 61, 32, 102, 97, 108, 115, 101]),
 (eI, [121, 111, 117, 114, 115, 101, 108, 102, 32, 94, 115, 101, 108, 102]),
 (eI, [105, 110, 115, 116, 86, 97, 114, 65, 116, 58, 32, 105, 32, 60, 112, 114, 105, 109, 105, 116, 105, 118, 101, 58, 32, 53, 48, 62]),
 (eI, [105, 110, 115, 116, 86, 97, 114, 65, 116, 58, 32, 105, 32, 112, 117, 116, 58, 32, 120, 32, 60, 112, 114, 105, 109, 105, 116, 105, 118, 101, 58, 32, 53, 49, 62]),
 (eI, [98, 101, 99, 111, 109, 101, 58, 32, 111, 116, 104, 101, 114, 32, 60, 112, 114, 105, 109, 105, 116, 105, 118, 101, 58, 32, 54, 48, 62]),
 (eI, [112, 101, 114, 102, 111, 114, 109, 58, 32, 115, 32, 60, 112, 114, 105, 109, 105, 116, 105, 118, 101, 58, 32, 51, 49, 62]),
 (eI, [112, 101, 114, 102, 111, 114, 109, 58, 32, 115, 32, 119, 105, 116, 104, 58, 32, 97, 32, 60, 112, 114, 105, 109, 105, 116, 105, 118, 101, 58, 32, 51, 50, 62]),
 (eI, [115, 104, 111, 119, 32, 60, 112, 114, 105, 109, 105, 116, 105, 118, 101, 58, 32, 55, 48, 62]),
 (eI, [101, 114, 114, 111, 114, 58, 32, 115, 32, 60, 112, 114, 105, 109, 105, 116, 105, 118, 101, 58, 32, 55, 49, 62]),
 (eI, [100, 111, 101, 115, 78, 111, 116, 85, 110, 100, 101, 114, 115, 116, 97, 110, 100, 58, 32, 109, 32, 60, 112, 114, 105, 109, 105, 116, 105, 118, 101, 58, 32, 55, 50, 62]),
 (eI, [109, 117, 115, 116, 66, 101, 66, 111, 111, 108, 101, 97, 110, 32, 60, 112, 114, 105, 109, 105, 116, 105, 118, 101, 58, 32, 55, 51, 62]),
 (aJc, [110, 101, 119, 32, 60, 112, 114, 105, 109, 105, 116, 105, 118, 101, 58, 32, 50, 51, 62]),
 (aJc, [110, 101, 119, 58, 32, 110, 32, 60, 112, 114, 105, 109, 105, 116, 105, 118, 101, 58, 32, 50, 52, 62]),
 (aJc, [110, 97, 109, 101, 32, 60, 112, 114, 105, 109, 105, 116, 105, 118, 101, 58, 32, 52, 48, 62]),
 (aJc, [115, 117, 112, 101, 114, 99, 108, 97, 115, 115, 32, 60, 112, 114, 105, 109, 105, 116, 105, 118, 101, 58, 32, 52, 49, 62]),
 (xF, [105, 102, 84, 114, 117, 101, 58, 32, 98, 32, 94, 98, 32, 118, 97, 108, 117, 101]),
 (xF, [105, 102, 70, 97, 108, 115, 101, 58, 32, 98, 32, 94, 110, 105, 108]),
 (xF, [105, 102, 84, 114, 117, 101, 58, 32, 97, 32, 105, 102, 70, 97, 108, 115, 101, 58, 32, 98, 32, 94, 97, 32, 118, 97, 108, 117, 101]),
 (xF, [105, 102, 70, 97, 108, 115, 101, 58, 32, 97, 32, 105, 102, 84, 114, 117, 101, 58, 32, 98, 32, 94, 98, 32, 118, 97, 108, 117, 101]),
 (xF, [97, 110, 100, 58, 32, 98, 32, 94, 98, 32, 118, 97, 108, 117, 101]),
 (xF, [111, 114, 58, 32, 98, 32, 94, 115, 101, 108, 102]),
 (xF, [110, 111, 116, 32, 94, 102, 97, 108, 115, 101]),
 (oP, [105, 102, 84, 114, 117, 101, 58, 32, 98, 32, 94, 110, 105, 108]),
 (oP, [105, 102, 70, 97, 108, 115, 101, 58, 32, 98, 32, 94, 98, 32, 118, 97, 108, 117, 101]),
 (oP, [105, 102, 84, 114, 117, 101, 58, 32, 97, 32, 105, 102, 70, 97, 108, 115, 101, 58, 32, 98, 32, 94, 98, 32, 118, 97, 108, 117, 101]),
 (oP, [105, 102, 70, 97, 108, 115, 101, 58, 32, 97, 32, 105, 102, 84, 114, 117, 101, 58, 32, 98, 32, 94, 97, 32, 118, 97, 108, 117, 101]),
 (oP, [97, 110, 100, 58, 32, 98, 32, 94, 115, 101, 108, 102]),
 (oP, [111, 114, 58, 32, 98, 32, 94, 98, 32, 118, 97, 108, 117, 101]),
 (oP, [110, 111, 116, 32, 94, 116, 114, 117, 101]),
 (dR, [43, 32, 110, 32, 60, 112, 114, 105, 109, 105, 116, 105, 118, 101, 58, 32, 49, 62, 32, 94, 115, 101, 108, 102, 32, 101, 114, 114, 111, 114, 58, 32, 35, 110, 117, 109, 98, 101, 114]),
 (dR, [45, 32, 110, 32, 60, 112, 114, 105, 109, 105, 116, 105, 118, 101, 58, 32, 50, 62, 32, 94, 115, 101, 108, 102, 32, 101, 114, 114, 111, 114, 58, 32, 35, 110, 117, 109, 98, 101, 114]),
 (dR, [42, 32, 110, 32, 60, 112, 114, 105, 109, 105, 116, 105, 118, 101, 58, 32, 51, 62, 32, 94, 115, 101, 108, 102, 32, 101, 114, 114, 111, 114, 58, 32, 35, 110, 117, 109, 98, 101, 114]),
 (dR, [47, 47, 32, 110, 32, 60, 112, 114, 105, 109, 105, 116, 105, 118, 101, 58, 32, 52, 62, 32, 94, 115, 101, 108, 102, 32, 101, 114, 114, 111, 114, 58, 32, 35, 110, 117, 109, 98, 101, 114]),
 (dR, [37, 32, 110, 32, 60, 112, 114, 105, 109, 105, 116, 105, 118, 101, 58, 32, 53, 62, 32, 94, 115, 101, 108, 102, 32, 101, 114, 114, 111, 114, 58, 32, 35, 110, 117, 109, 98, 101, 114]),
 (dR, [60, 32, 110, 32, 60, 112, 114, 105, 109, 105, 116, 105, 118, 101, 58, 32, 54, 62, 32, 94, 115, 101, 108, 102, 32, 101, 114, 114, 111, 114, 58, 32, 35, 110, 117, 109, 98, 101, 114]),
 (dR, [61, 32, 110, 32, 60, 112, 114, 105, 109, 105, 116, 105, 118, 101, 58, 32, 55, 62, 32, 94, 102, 97, 108, 115, 101]),
 (dR, [62, 32, 110, 32, 94, 110, 32, 60, 32, 115, 101, 108, 102]),
 (dR, [60, 61, 32, 110, 32, 94, 40, 110, 32, 60, 32, 115, 101, 108, 102, 41, 32, 110, 111, 116]),
 (dR, [62, 61, 32, 110, 32, 94, 40, 115, 101, 108, 102, 32, 60, 32, 110, 41, 32, 110, 111, 116]),
 (dR, [110, 101, 103, 97, 116, 101, 100, 32, 94, 48, 32, 45, 32, 115, 101, 108, 102]),
 (dR, [97, 98, 115, 32, 115, 101, 108, 102, 32, 60, 32, 48, 32, 105, 102, 84, 114, 117, 101, 58, 32, 91, 94, 115, 101, 108, 102, 32, 110, 101, 103, 97, 116, 101, 100, 93]),
 (dR, [109, 97, 120, 58, 32, 110, 32, 115, 101, 108, 102, 32, 60, 32, 110, 32, 105, 102, 84, 114, 117, 101, 58, 32, 91, 94, 110, 93]),
 (dR, [116, 105, 109, 101, 115, 82, 101, 112, 101, 97, 116, 58, 32, 98, 32, 124, 32, 105, 32, 124, 32, 105, 32, 58, 61, 32, 48, 46, 32, 91, 105, 32, 60, 32, 115, 101, 108, 102, 93, 32, 119, 104, 105, 108, 101, 84, 114, 117, 101, 58, 32, 91, 98, 32, 118, 97, 108, 117, 101, 46, 32, 105, 32, 58, 61, 32, 105, 32, 43, 32, 49, 93]),
 (dR, [116, 111, 58, 32, 110, 32, 100, 111, 58, 32, 98, 32, 124, 32, 105, 32, 124, 32, 105, 32, 58, 61, 32, 115, 101, 108, 102, 46, 32, 91, 105, 32, 60, 61, 32, 110, 93, 32, 119, 104, 105, 108, 101, 84, 114, 117, 101, 58, 32, 91, 98, 32, 118, 97, 108, 117, 101, 58, 32, 105, 46, 32, 105, 32, 58, 61, 32, 105, 32, 43, 32, 49, 93]),
 (aEz, [97, 116, 58, 32, 105, 32, 60, 112, 114, 105, 109, 105, 116, 105, 118, 101, 58, 32, 50, 48, 62, 32, 94, 115, 101, 108, 102, 32, 101, 114, 114, 111, 114, 58, 32, 35, 105, 110, 100, 101, 120]),
 (aEz, [97, 116, 58, 32, 105, 32, 112, 117, 116, 58, 32, 120, 32, 60, 112, 114, 105, 109, 105, 116, 105, 118, 101, 58, 32, 50, 49, 62, 32, 94, 115, 101, 108, 102, 32, 101, 114, 114, 111, 114, 58, 32, 35, 105, 110, 100, 101, 120]),
 (aEz, [115, 105, 122, 101, 32, 60, 112, 114, 105, 109, 105, 116, 105, 118, 101, 58, 32, 50, 50, 62]),
 (aEz, [100, 111, 58, 32, 98, 32, 49, 32, 116, 111, 58, 32, 115, 101, 108, 102, 32, 115, 105, 122, 101, 32, 100, 111, 58, 32, 91, 58, 105, 32, 124, 32, 98, 32, 118, 97, 108, 117, 101, 58, 32, 40, 115, 101, 108, 102, 32, 97, 116, 58, 32, 105, 41, 93]),
 (qC, [97, 116, 58, 32, 105, 32, 60, 112, 114, 105, 109, 105, 116, 105, 118, 101, 58, 32, 50, 48, 62, 32, 94, 115, 101, 108, 102, 32, 101, 114, 114, 111, 114, 58, 32, 35, 105, 110, 100, 101, 120]),
 (qC, [97, 116, 58, 32, 105, 32, 112, 117, 116, 58, 32, 120, 32, 60, 112, 114, 105, 109, 105, 116, 105, 118, 101, 58, 32, 50, 49, 62, 32, 94, 115, 101, 108, 102, 32, 101, 114, 114, 111, 114, 58, 32, 35, 105, 110, 100, 101, 120]),
 (qC, [115, 105, 122, 101, 32, 60, 112, 114, 105, 109, 105, 116, 105, 118, 101, 58, 32, 50, 50, 62]),
 (qC, [44, 32, 115, 32, 60, 112, 114, 105, 109, 105, 116, 105, 118, 101, 58, 32, 50, 53, 62, 32, 94, 115, 101, 108, 102, 32, 101, 114, 114, 111, 114, 58, 32, 35, 115, 116, 114, 105, 110, 103]),
 (qC, [61, 32, 115, 32, 60, 112, 114, 105, 109, 105, 116, 105, 118, 101, 58, 32, 50, 54, 62]),
 (bZi, [61, 32, 115, 32, 94, 115, 101, 108, 102, 32, 61, 61, 32, 115]),
 (sS, [118, 97, 108, 117, 101, 32, 60, 112, 114, 105, 109, 105, 116, 105, 118, 101, 58, 32, 51, 51, 62, 32, 94, 115, 101, 108, 102, 32, 101, 114, 114, 111, 114, 58, 32, 35, 97, 114, 103, 117, 109, 101, 110, 116, 115]),
 (sS, [118, 97, 108, 117, 101, 58, 32, 97, 32, 60, 112, 114, 105, 109, 105, 116, 105, 118, 101, 58, 32, 51, 52, 62, 32, 94, 115, 101, 108, 102, 32, 101, 114, 114, 111, 114, 58, 32, 35, 97, 114, 103, 117, 109, 101, 110, 116, 115]),
 (sS, [118, 97, 108, 117, 101, 58, 32, 97, 32, 118, 97, 108, 117, 101, 58, 32, 98, 32, 60, 112, 114, 105, 109, 105, 116, 105, 118, 101, 58, 32, 51, 53, 62, 32, 94, 115, 101, 108, 102, 32, 101, 114, 114, 111, 114, 58, 32, 35, 97, 114, 103, 117, 109, 101, 110, 116, 115]),
 (sS, [119, 104, 105, 108, 101, 84, 114, 117, 101, 58, 32, 98, 32, 91, 115, 101, 108, 102, 32, 118, 97, 108, 117, 101, 93, 32, 119, 104, 105, 108, 101, 84, 114, 117, 101, 58, 32, 91, 98, 32, 118, 97, 108, 117, 101, 93]),
 (sS, [101, 110, 115, 117, 114, 101, 58, 32, 98, 32, 60, 112, 114, 105, 109, 105, 116, 105, 118, 101, 58, 32, 57, 48, 62, 32, 124, 32, 118, 32, 100, 111, 110, 101, 32, 124, 32, 118, 32, 58, 61, 32, 115, 101, 108, 102, 32, 118, 97, 108, 117, 101, 46, 32, 100, 111, 110, 101, 32, 58, 61, 32, 116, 114, 117, 101, 46, 32, 98, 32, 118, 97, 108, 117, 101, 46, 32, 94, 118]),
 (sS, [105, 102, 67, 117, 114, 116, 97, 105, 108, 101, 100, 58, 32, 98, 32, 60, 112, 114, 105, 109, 105, 116, 105, 118, 101, 58, 32, 57, 49, 62, 32, 124, 32, 118, 32, 100, 111, 110, 101, 32, 124, 32, 118, 32, 58, 61, 32, 115, 101, 108, 102, 32, 118, 97, 108, 117, 101, 46, 32, 100, 111, 110, 101, 32, 58, 61, 32, 116, 114, 117, 101, 46, 32, 94, 118]),
 (jA, [115, 101, 110, 100, 101, 114, 32, 60, 112, 114, 105, 109, 105, 116, 105, 118, 101, 58, 32, 56, 48, 62]),
 (jA, [114, 101, 99, 101, 105, 118, 101, 114, 32, 60, 112, 114, 105, 109, 105, 116, 105, 118, 101, 58, 32, 56, 49, 62]),
 (jA, [115, 101, 108, 101, 99, 116, 111, 114, 32, 60, 112, 114, 105, 109, 105, 116, 105, 118, 101, 58, 32, 56, 50, 62]),
 (jA, [112, 99, 32, 60, 112, 114, 105, 109, 105, 116, 105, 118, 101, 58, 32, 56, 51, 62]),
 (jA, [116, 101, 109, 112, 65, 116, 58, 32, 105, 32, 60, 112, 114, 105, 109, 105, 116, 105, 118, 101, 58, 32, 56, 52, 62, 32, 94, 115, 101, 108, 102, 32, 101, 114, 114, 111, 114, 58, 32, 35, 105, 110, 100, 101, 120]),
 (jA, [116, 101, 109, 112, 65, 116, 58, 32, 105, 32, 112, 117, 116, 58, 32, 120, 32, 60, 112, 114, 105, 109, 105, 116, 105, 118, 101, 58, 32, 56, 53, 62, 32, 94, 115, 101, 108, 102, 32, 101, 114, 114, 111, 114, 58, 32, 35, 105, 110, 100, 101, 120]),
 (jA, [114, 101, 116, 117, 114, 110, 58, 32, 120, 32, 60, 112, 114, 105, 109, 105, 116, 105, 118, 101, 58, 32, 56, 54, 62, 32, 94, 115, 101, 108, 102, 32, 99, 97, 110, 110, 111, 116, 82, 101, 116, 117, 114, 110, 58, 32, 120]),
 (jA, [99, 97, 110, 110, 111, 116, 82, 101, 116, 117, 114, 110, 58, 32, 120, 32, 60, 112, 114, 105, 109, 105, 116, 105, 118, 101, 58, 32, 55, 52, 62]),
 (aLe, [115, 101, 108, 101, 99, 116, 111, 114, 32, 94, 115, 101, 108, 101, 99, 116, 111, 114]),
 (aLe, [97, 114, 103, 117, 109, 101, 110, 116, 115, 32, 94, 97, 114, 103, 117, 109, 101, 110, 116, 115])]
def dJw (l : List (List Nat × List Nat)) : Nat → List DV := List.rec (motive := fun _ => Nat → List DV) (fun _ => []) (fun _ _ ih p => .l (aL p) 0 2 2 :: ih (Nat.add p 1)) l
def bTq (l : List (List Nat × Nat)) : List (DV × DV) := List.rec (motive := fun _ => List (DV × DV)) [] (fun x _ ih => (.s x.1, .i .i64 (.ofNat x.2)) :: ih) l
def dMd (l : List Nat) : List DV := List.rec (motive := fun _ => List DV) [] (fun x _ ih => .i .i64 (.ofNat x) :: ih) l
def wsF : List Nat := [0, 0, 0, 24, 24, 1, 294, 0, 1, 322, 2670, 1, 24, 24, 2, 338, 6, 1, 364, 3024, 7, 24, 24, 3, 380, 6, 1, 426, 0, 7, 24, 24, 4, 442, 6, 1, 472, 0, 7, 24, 24, 5, 488, 60, 1, 512, 3738, 7, 24, 24, 6, 528, 60, 1, 554, 4204, 7, 24, 24, 7, 570, 6, 1, 600, 6046, 7, 24, 24, 8, 616, 114, 1, 656, 0, 7, 24, 24, 9, 672, 114, 1, 712, 0, 7, 24, 24, 10, 728, 6, 1, 754, 6538, 3, 24, 24, 11, 770, 6, 1, 798, 6942, 5, 24, 24, 12, 814, 186, 1, 842, 7018, 5, 24, 24, 13, 858, 6, 1, 884, 7746, 7, 24, 24, 14, 900, 6, 1, 930, 8508, 7, 24, 24, 15, 946, 6, 1, 974, 0, 7, 24, 24, 16, 990, 6, 5, 1086, 8632, 1, 26, 204, 17, 79, 98, 106, 101, 99, 116, 8, 168, 18, 294, 0, 0, 168, 19, 8, 168, 20, 6, 0, 22, 204, 21, 67, 108, 97, 115, 115, 8, 168, 22, 338, 312, 0, 168, 23, 8, 168, 24, 24, 328, 62, 204, 25, 85, 110, 100, 101, 102, 105, 110, 101, 100, 79, 98, 106, 101, 99, 116, 8, 168, 26, 380, 354, 0, 168, 27, 8, 168, 28, 42, 370, 30, 204, 29, 66, 111, 111, 108, 101, 97, 110, 8, 168, 30, 442, 416, 0, 168, 31, 8, 168, 32, 60, 432, 18, 204, 33, 84, 114, 117, 101, 8, 168, 34, 488, 462, 0, 168, 35, 8, 168, 36, 78, 478, 22, 204, 37, 70, 97, 108, 115, 101, 8, 168, 38, 528, 502, 0, 168, 39, 8, 168, 40, 96, 518, 30, 204, 41, 73, 110, 116, 101, 103, 101, 114, 8, 168, 42, 570, 544, 0, 168, 43, 8, 168, 44, 114, 560, 50, 204, 45, 83, 109, 97, 108, 108, 73, 110, 116, 101, 103, 101, 114, 8, 168, 46, 616, 590, 0, 168, 47, 8, 168, 48, 132, 606, 50, 204, 49, 76, 97, 114, 103, 101, 73, 110, 116, 101, 103, 101, 114, 8, 168, 50, 672, 646, 0, 168, 51, 8, 168, 52, 150, 662, 22, 204, 53, 65, 114, 114, 97, 121, 8, 168, 54, 728, 702, 0, 168, 55, 8, 168, 56, 168, 718, 26, 204, 57, 83, 116, 114, 105, 110, 103, 8, 168, 58, 770, 744, 0, 168, 59, 8, 168, 60, 186, 760, 26, 204, 61, 83, 121, 109, 98, 111, 108, 8, 168, 62, 814, 788, 0, 168, 63, 8, 168, 64, 204, 804, 22, 204, 65, 66, 108, 111, 99, 107, 8, 168, 66, 858, 832, 0, 168, 67, 8, 168, 68, 222, 848, 30, 204, 69, 67, 111, 110, 116, 101, 120, 116, 8, 168, 70, 900, 874, 0, 168, 71, 8, 168, 72, 240, 890, 26, 204, 73, 77, 101, 116, 104, 111, 100, 8, 168, 74, 946, 920, 0, 168, 75, 8, 168, 76, 258, 936, 30, 204, 77, 77, 101, 115, 115, 97, 103, 101, 8, 168, 78, 990, 964, 34, 204, 79, 115, 101, 108, 101, 99, 116, 111, 114, 8, 168, 80, 1020, 1010, 38, 204, 81, 97, 114, 103, 117, 109, 101, 110, 116, 115, 8, 168, 82, 1052, 1042, 8, 168, 83, 1020, 1052, 8, 168, 84, 276, 980, 6, 204, 85, 61, 8, 168, 86, 1106, 1076, 10, 204, 87, 61, 61, 8, 168, 88, 1124, 1114, 4, 168, 89, 1124, 50, 186, 90, 1, 0, 0, 7, 0, 0, 14, 0, 1, 20, 0, 0, 4, 168, 91, 1152, 28, 258, 92, 1106, 3, 3, 1, 1144, 1182, 6, 8, 168, 93, 1190, 0, 0, 168, 94, 26, 186, 95, 1, 0, 0, 20, 0, 0, 4, 168, 96, 1226, 28, 258, 97, 1124, 3, 3, 21, 1220, 1244, 6, 8, 168, 98, 1252, 1210, 22, 204, 99, 99, 108, 97, 115, 115, 8, 168, 100, 1282, 1134, 0, 168, 101, 26, 186, 102, 1, 0, 0, 20, 0, 0, 4, 168, 103, 1314, 28, 258, 104, 1282, 1, 1, 23, 1308, 1332, 6, 8, 168, 105, 1340, 1272, 22, 204, 106, 105, 115, 78, 105, 108, 8, 168, 107, 1370, 1298, 4, 168, 108, 1124, 50, 186, 109, 1, 0, 0, 2, 0, 0, 14, 0, 1, 20, 0, 0, 4, 168, 110, 1404, 28, 258, 111, 1370, 1, 1, 1, 1396, 1434, 6, 8, 168, 112, 1442, 1360, 26, 204, 113, 110, 111, 116, 78, 105, 108, 8, 168, 114, 1472, 1386, 4, 168, 115, 1124, 74, 186, 116, 1, 0, 0, 2, 0, 0, 14, 0, 1, 4, 0, 0, 14, 0, 1, 20, 0, 0, 4, 168, 117, 1508, 28, 258, 118, 1472, 1, 1, 1, 1500, 1550, 6, 8, 168, 119, 1558, 1462, 10, 204, 120, 126, 61, 8, 168, 121, 1588, 1490, 8, 168, 122, 1106, 1124, 74, 186, 123, 1, 0, 0, 7, 0, 0, 14, 0, 1, 4, 0, 0, 14, 1, 1, 20, 0, 0, 4, 168, 124, 1618, 28, 258, 125, 1588, 3, 3, 1, 1608, 1660, 6, 8, 168, 126, 1668, 1578, 34, 204, 127, 121, 111, 117, 114, 115, 101, 108, 102, 8, 168, 128, 1698, 1598, 0, 168, 129, 26, 186, 130, 1, 0, 0, 20, 0, 0, 4, 168, 131, 1736, 28, 258, 132, 1698, 1, 1, 1, 1730, 1754, 6, 8, 168, 133, 1762, 1688, 42, 204, 134, 105, 110, 115, 116, 86, 97, 114, 65, 116, 58, 8, 168, 135, 1792, 1720, 0, 168, 136, 26, 186, 137, 1, 0, 0, 20, 0, 0, 4, 168, 138, 1834, 28, 258, 139, 1792, 3, 3, 101, 1828, 1852, 6, 8, 168, 140, 1860, 1782, 58, 204, 141, 105, 110, 115, 116, 86, 97, 114, 65, 116, 58, 112, 117, 116, 58, 8, 168, 142, 1890, 1818, 0, 168, 143, 26, 186, 144, 1, 0, 0, 20, 0, 0, 4, 168, 145, 1940, 28, 258, 146, 1890, 5, 5, 103, 1934, 1958, 6, 8, 168, 147, 1966, 1880, 30, 204, 148, 98, 101, 99, 111, 109, 101, 58, 8, 168, 149, 1996, 1924, 0, 168, 150, 26, 186, 151, 1, 0, 0, 20, 0, 0, 4, 168, 152, 2032, 28, 258, 153, 1996, 3, 3, 121, 2026, 2050, 6, 8, 168, 154, 2058, 1986, 34, 204, 155, 112, 101, 114, 102, 111, 114, 109, 58, 8, 168, 156, 2088, 2016, 0, 168, 157, 26, 186, 158, 1, 0, 0, 20, 0, 0, 4, 168, 159, 2126, 28, 258, 160, 2088, 3, 3, 63, 2120, 2144, 6, 8, 168, 161, 2152, 2078, 54, 204, 162, 112, 101, 114, 102, 111, 114, 109, 58, 119, 105, 116, 104, 58, 8, 168, 163, 2182, 2110, 0, 168, 164, 26, 186, 165, 1, 0, 0, 20, 0, 0, 4, 168, 166, 2230, 28, 258, 167, 2182, 5, 5, 65, 2224, 2248, 6, 8, 168, 168, 2256, 2172, 18, 204, 169, 115, 104, 111, 119, 8, 168, 170, 2286, 2214, 0, 168, 171, 26, 186, 172, 1, 0, 0, 20, 0, 0, 4, 168, 173, 2316, 28, 258, 174, 2286, 1, 1, 141, 2310, 2334, 6, 8, 168, 175, 2342, 2276, 26, 204, 176, 101, 114, 114, 111, 114, 58, 8, 168, 177, 2372, 2300, 0, 168, 178, 26, 186, 179, 1, 0, 0, 20, 0, 0, 4, 168, 180, 2406, 28, 258, 181, 2372, 3, 3, 143, 2400, 2424, 6, 8, 168, 182, 2432, 2362, 74, 204, 183, 100, 111, 101, 115, 78, 111, 116, 85, 110, 100, 101, 114, 115, 116, 97, 110, 100, 58, 8, 168, 184, 2462, 2390, 0, 168, 185, 26, 186, 186, 1, 0, 0, 20, 0, 0, 4, 168, 187, 2520, 28, 258, 188, 2462, 3, 3, 145, 2514, 2538, 6, 8, 168, 189, 2546, 2452, 54, 204, 190, 109, 117, 115, 116, 66, 101, 66, 111, 111, 108, 101, 97, 110, 8, 168, 191, 2576, 2504, 0, 168, 192, 26, 186, 193, 1, 0, 0, 20, 0, 0, 4, 168, 194, 2624, 28, 258, 195, 2576, 1, 1, 147, 2618, 2642, 6, 8, 168, 196, 2650, 2566, 14, 204, 197, 110, 101, 119, 8, 168, 198, 2680, 2608, 0, 168, 199, 26, 186, 200, 1, 0, 0, 20, 0, 0, 4, 168, 201, 2708, 28, 258, 202, 2680, 1, 1, 47, 2702, 2726, 24, 8, 168, 203, 2734, 0, 18, 204, 204, 110, 101, 119, 58, 8, 168, 205, 2764, 2692, 0, 168, 206, 26, 186, 207, 1, 0, 0, 20, 0, 0, 4, 168, 208, 2794, 28, 258, 209, 2764, 3, 3, 49, 2788, 2812, 24, 8, 168, 210, 2820, 2754, 18, 204, 211, 110, 97, 109, 101, 8, 168, 212, 2850, 2778, 0, 168, 213, 26, 186, 214, 1, 0, 0, 20, 0, 0, 4, 168, 215, 2880, 28, 258, 216, 2850, 1, 1, 81, 2874, 2898, 24, 8, 168, 217, 2906, 2840, 42, 204, 218, 115, 117, 112, 101, 114, 99, 108, 97, 115, 115, 8, 168, 219, 2936, 2864, 0, 168, 220, 26, 186, 221, 1, 0, 0, 20, 0, 0, 4, 168, 222, 2978, 28, 258, 223, 2936, 1, 1, 83, 2972, 2996, 24, 8, 168, 224, 3004, 2926, 30, 204, 225, 105, 102, 84, 114, 117, 101, 58, 8, 168, 226, 3034, 2962, 22, 204, 227, 118, 97, 108, 117, 101, 8, 168, 228, 3064, 3054, 4, 168, 229, 3064, 38, 186, 230, 7, 0, 0, 14, 0, 0, 20, 0, 0, 4, 168, 231, 3098, 28, 258, 232, 3034, 3, 3, 1, 3090, 3122, 78, 8, 168, 233, 3130, 0, 34, 204, 234, 105, 102, 70, 97, 108, 115, 101, 58, 8, 168, 235, 3160, 3080, 0, 168, 236, 26, 186, 237, 2, 0, 0, 20, 0, 0, 4, 168, 238, 3198, 28, 258, 239, 3160, 3, 3, 1, 3192, 3216, 78, 8, 168, 240, 3224, 3150, 62, 204, 241, 105, 102, 84, 114, 117, 101, 58, 105, 102, 70, 97, 108, 115, 101, 58, 8, 168, 242, 3254, 3182, 4, 168, 243, 3064, 38, 186, 244, 7, 0, 0, 14, 0, 0, 20, 0, 0, 4, 168, 245, 3308, 28, 258, 246, 3254, 5, 5, 1, 3300, 3332, 78, 8, 168, 247, 3340, 3244, 62, 204, 248, 105, 102, 70, 97, 108, 115, 101, 58, 105, 102, 84, 114, 117, 101, 58, 8, 168, 249, 3370, 3290, 4, 168, 250, 3064, 38, 186, 251, 7, 1, 0, 14, 0, 0, 20, 0, 0, 4, 168, 252, 3424, 28, 258, 253, 3370, 5, 5, 1, 3416, 3448, 78, 8, 168, 254, 3456, 3360, 18, 204, 255, 97, 110, 100, 58, 8, 168, 256, 3486, 3406, 4, 168, 257, 3064, 38, 186, 258, 7, 0, 0, 14, 0, 0, 20, 0, 0, 4, 168, 259, 3518, 28, 258, 260, 3486, 3, 3, 1, 3510, 3542, 78, 8, 168, 261, 3550, 3476, 14, 204, 262, 111, 114, 58, 8, 168, 263, 3580, 3500, 0, 168, 264, 26, 186, 265, 1, 0, 0, 20, 0, 0, 4, 168, 266, 3608, 28, 258, 267, 3580, 3, 3, 1, 3602, 3626, 78, 8, 168, 268, 3634, 3570, 14, 204, 269, 110, 111, 116, 8, 168, 270, 3664, 3592, 0, 168, 271, 26, 186, 272, 4, 0, 0, 20, 0, 0, 4, 168, 273, 3692, 28, 258, 274, 3664, 1, 1, 1, 3686, 3710, 78, 8, 168, 275, 3718, 3654, 0, 168, 276, 26, 186, 277, 2, 0, 0, 20, 0, 0, 4, 168, 278, 3754, 28, 258, 279, 3034, 3, 3, 1, 3748, 3772, 96, 8, 168, 280, 3780, 0, 4, 168, 281, 3064, 38, 186, 282, 7, 0, 0, 14, 0, 0, 20, 0, 0, 4, 168, 283, 3818, 28, 258, 284, 3160, 3, 3, 1, 3810, 3842, 96, 8, 168, 285, 3850, 3800, 4, 168, 286, 3064, 38, 186, 287, 7, 1, 0, 14, 0, 0, 20, 0, 0, 4, 168, 288, 3888, 28, 258, 289, 3254, 5, 5, 1, 3880, 3912, 96, 8, 168, 290, 3920, 3870, 4, 168, 291, 3064, 38, 186, 292, 7, 0, 0, 14, 0, 0, 20, 0, 0, 4, 168, 293, 3958, 28, 258, 294, 3370, 5, 5, 1, 3950, 3982, 96, 8, 168, 295, 3990, 3940, 0, 168, 296, 26, 186, 297, 1, 0, 0, 20, 0, 0, 4, 168, 298, 4026, 28, 258, 299, 3486, 3, 3, 1, 4020, 4044, 96, 8, 168, 300, 4052, 4010, 4, 168, 301, 3064, 38, 186, 302, 7, 0, 0, 14, 0, 0, 20, 0, 0, 4, 168, 303, 4090, 28, 258, 304, 3580, 3, 3, 1, 4082, 4114, 96, 8, 168, 305, 4122, 4072, 0, 168, 306, 26, 186, 307, 3, 0, 0, 20, 0, 0, 4, 168, 308, 4158, 28, 258, 309, 3664, 1, 1, 1, 4152, 4176, 96, 8, 168, 310, 4184, 4142, 6, 204, 311, 43, 8, 168, 312, 4214, 3676, 26, 204, 313, 110, 117, 109, 98, 101, 114, 8, 168, 314, 4232, 4222, 8, 168, 315, 4232, 2372, 50, 186, 316, 1, 0, 0, 6, 0, 0, 14, 1, 1, 20, 0, 0, 4, 168, 317, 4270, 28, 258, 318, 4214, 3, 3, 3, 4260, 4300, 114, 8, 168, 319, 4308, 0, 6, 204, 320, 45, 8, 168, 321, 4338, 4250, 8, 168, 322, 4232, 2372, 50, 186, 323, 1, 0, 0, 6, 0, 0, 14, 1, 1, 20, 0, 0, 4, 168, 324, 4366, 28, 258, 325, 4338, 3, 3, 5, 4356, 4396, 114, 8, 168, 326, 4404, 4328, 6, 204, 327, 42, 8, 168, 328, 4434, 4346, 8, 168, 329, 4232, 2372, 50, 186, 330, 1, 0, 0, 6, 0, 0, 14, 1, 1, 20, 0, 0, 4, 168, 331, 4462, 28, 258, 332, 4434, 3, 3, 7, 4452, 4492, 114, 8, 168, 333, 4500, 4424, 10, 204, 334, 47, 47, 8, 168, 335, 4530, 4442, 8, 168, 336, 4232, 2372, 50, 186, 337, 1, 0, 0, 6, 0, 0, 14, 1, 1, 20, 0, 0, 4, 168, 338, 4560, 28, 258, 339, 4530, 3, 3, 9, 4550, 4590, 114, 8, 168, 340, 4598, 4520, 6, 204, 341, 37, 8, 168, 342, 4628, 4540, 8, 168, 343, 4232, 2372, 50, 186, 344, 1, 0, 0, 6, 0, 0, 14, 1, 1, 20, 0, 0, 4, 168, 345, 4656, 28, 258, 346, 4628, 3, 3, 11, 4646, 4686, 114, 8, 168, 347, 4694, 4618, 6, 204, 348, 60, 8, 168, 349, 4724, 4636, 8, 168, 350, 4232, 2372, 50, 186, 351, 1, 0, 0, 6, 0, 0, 14, 1, 1, 20, 0, 0, 4, 168, 352, 4752, 28, 258, 353, 4724, 3, 3, 13, 4742, 4782, 114, 8, 168, 354, 4790, 4714, 0, 168, 355, 26, 186, 356, 4, 0, 0, 20, 0, 0, 4, 168, 357, 4826, 28, 258, 358, 1106, 3, 3, 15, 4820, 4844, 114, 8, 168, 359, 4852, 4810, 6, 204, 360, 62, 8, 168, 361, 4882, 4732, 4, 168, 362, 4724, 50, 186, 363, 7, 0, 0, 1, 0, 0, 14, 0, 1, 20, 0, 0, 4, 168, 364, 4908, 28, 258, 365, 4882, 3, 3, 1, 4900, 4938, 114, 8, 168, 366, 4946, 4872, 10, 204, 367, 60, 61, 8, 168, 368, 4976, 4890, 8, 168, 369, 4724, 3664, 62, 186, 370, 7, 0, 0, 1, 0, 0, 14, 0, 1, 14, 1, 0, 20, 0, 0, 4, 168, 371, 5006, 28, 258, 372, 4976, 3, 3, 1, 4996, 5042, 114, 8, 168, 373, 5050, 4966, 10, 204, 374, 62, 61, 8, 168, 375, 5080, 4986, 8, 168, 376, 4724, 3664, 62, 186, 377, 1, 0, 0, 7, 0, 0, 14, 0, 1, 14, 1, 0, 20, 0, 0, 4, 168, 378, 5110, 28, 258, 379, 5080, 3, 3, 1, 5100, 5146, 114, 8, 168, 380, 5154, 5070, 30, 204, 381, 110, 101, 103, 97, 116, 101, 100, 8, 168, 382, 5184, 5090, 8, 168, 383, 1, 4338, 50, 186, 384, 6, 0, 0, 1, 0, 0, 14, 1, 1, 20, 0, 0, 4, 168, 385, 5224, 28, 258, 386, 5184, 1, 1, 1, 5214, 5254, 114, 8, 168, 387, 5262, 5174, 14, 204, 388, 97, 98, 115, 8, 168, 389, 5292, 5204, 12, 168, 390, 1, 4724, 5184, 158, 186, 391, 1, 0, 0, 6, 0, 0, 14, 1, 1, 17, 9, 0, 1, 0, 0, 14, 2, 0, 20, 0, 0, 2, 0, 0, 16, 10, 0, 2, 0, 0, 12, 0, 0, 1, 0, 0, 20, 0, 0, 4, 168, 392, 5326, 28, 258, 393, 5292, 1, 1, 1, 5314, 5410, 114, 8, 168, 394, 5418, 5282, 18, 204, 395, 109, 97, 120, 58, 8, 168, 396, 5448, 5304, 4, 168, 397, 4724, 146, 186, 398, 1, 0, 0, 7, 0, 0, 14, 0, 1, 17, 8, 0, 7, 0, 0, 20, 0, 0, 2, 0, 0, 16, 9, 0, 2, 0, 0, 12, 0, 0, 1, 0, 0, 20, 0, 0, 4, 168, 399, 5480, 28, 258, 400, 5448, 3, 3, 1, 5472, 5558, 114, 8, 168, 401, 5566, 5438, 50, 204, 402, 116, 105, 109, 101, 115, 82, 101, 112, 101, 97, 116, 58, 8, 168, 403, 5596, 5462, 20, 168, 404, 1, 4724, 3064, 3, 4214, 242, 186, 405, 6, 0, 0, 10, 1, 0, 12, 0, 0, 7, 1, 0, 1, 0, 0, 14, 1, 1, 17, 16, 0, 7, 0, 0, 14, 2, 0, 12, 0, 0, 7, 1, 0, 6, 3, 0, 14, 4, 1, 10, 1, 0, 12, 0, 0, 16, 3, 0, 2, 0, 0, 12, 0, 0, 1, 0, 0, 20, 0, 0, 4, 168, 406, 5652, 28, 258, 407, 5596, 3, 5, 1, 5636, 5778, 114, 8, 168, 408, 5786, 5586, 26, 204, 409, 116, 111, 58, 100, 111, 58, 8, 168, 410, 5816, 5626, 26, 204, 411, 118, 97, 108, 117, 101, 58, 8, 168, 412, 5844, 5834, 16, 168, 413, 4976, 5844, 3, 4214, 254, 186, 414, 1, 0, 0, 10, 2, 0, 12, 0, 0, 7, 2, 0, 7, 0, 0, 14, 0, 1, 17, 17, 0, 7, 1, 0, 7, 2, 0, 14, 1, 1, 12, 0, 0, 7, 2, 0, 6, 2, 0, 14, 3, 1, 10, 2, 0, 12, 0, 0, 16, 3, 0, 2, 0, 0, 12, 0, 0, 1, 0, 0, 20, 0, 0, 4, 168, 415, 5886, 28, 258, 416, 5816, 5, 7, 1, 5872, 6018, 114, 8, 168, 417, 6026, 5806, 14, 204, 418, 97, 116, 58, 8, 168, 419, 6056, 5862, 22, 204, 420, 105, 110, 100, 101, 120, 8, 168, 421, 6078, 6068, 8, 168, 422, 6078, 2372, 50, 186, 423, 1, 0, 0, 6, 0, 0, 14, 1, 1, 20, 0, 0, 4, 168, 424, 6114, 28, 258, 425, 6056, 3, 3, 41, 6104, 6144, 168, 8, 168, 426, 6152, 0, 30, 204, 427, 97, 116, 58, 112, 117, 116, 58, 8, 168, 428, 6182, 6094, 8, 168, 429, 6078, 2372, 50, 186, 430, 1, 0, 0, 6, 0, 0, 14, 1, 1, 20, 0, 0, 4, 168, 431, 6222, 28, 258, 432, 6182, 5, 5, 43, 6212, 6252, 168, 8, 168, 433, 6260, 6172, 18, 204, 434, 115, 105, 122, 101, 8, 168, 435, 6290, 6202, 0, 168, 436, 26, 186, 437, 1, 0, 0, 20, 0, 0, 4, 168, 438, 6320, 28, 258, 439, 6290, 1, 1, 45, 6314, 6338, 168, 8, 168, 440, 6346, 6280, 14, 204, 441, 100, 111, 58, 8, 168, 442, 6376, 6304, 20, 168, 443, 3, 6290, 6056, 5844, 5816, 182, 186, 444, 6, 0, 0, 1, 0, 0, 14, 1, 0, 18, 1, 1, 16, 11, 0, 7, 0, 0, 1, 0, 0, 7, 1, 0, 14, 2, 1, 14, 3, 1, 19, 0, 0, 14, 4, 2, 12, 0, 0, 1, 0, 0, 20, 0, 0, 4, 168, 445, 6414, 28, 258, 446, 6376, 3, 5, 1, 6398, 6510, 168, 8, 168, 447, 6518, 6366, 8, 168, 448, 6078, 2372, 50, 186, 449, 1, 0, 0, 6, 0, 0, 14, 1, 1, 20, 0, 0, 4, 168, 450, 6558, 28, 258, 451, 6056, 3, 3, 41, 6548, 6588, 186, 8, 168, 452, 6596, 0, 8, 168, 453, 6078, 2372, 50, 186, 454, 1, 0, 0, 6, 0, 0, 14, 1, 1, 20, 0, 0, 4, 168, 455, 6636, 28, 258, 456, 6182, 5, 5, 43, 6626, 6666, 186, 8, 168, 457, 6674, 6616, 0, 168, 458, 26, 186, 459, 1, 0, 0, 20, 0, 0, 4, 168, 460, 6710, 28, 258, 461, 6290, 1, 1, 45, 6704, 6728, 186, 8, 168, 462, 6736, 6694, 6, 204, 463, 44, 8, 168, 464, 6766, 6388, 26, 204, 465, 115, 116, 114, 105, 110, 103, 8, 168, 466, 6784, 6774, 8, 168, 467, 6784, 2372, 50, 186, 468, 1, 0, 0, 6, 0, 0, 14, 1, 1, 20, 0, 0, 4, 168, 469, 6822, 28, 258, 470, 6766, 3, 3, 51, 6812, 6852, 186, 8, 168, 471, 6860, 6756, 0, 168, 472, 26, 186, 473, 1, 0, 0, 20, 0, 0, 4, 168, 474, 6896, 28, 258, 475, 1106, 3, 3, 53, 6890, 6914, 186, 8, 168, 476, 6922, 6880, 4, 168, 477, 1124, 50, 186, 478, 1, 0, 0, 7, 0, 0, 14, 0, 1, 20, 0, 0, 4, 168, 479, 6960, 28, 258, 480, 1106, 3, 3, 1, 6952, 6990, 204, 8, 168, 481, 6998, 0, 8, 168, 482, 1052, 2372, 50, 186, 483, 1, 0, 0, 6, 0, 0, 14, 1, 1, 20, 0, 0, 4, 168, 484, 7038, 28, 258, 485, 3064, 1, 1, 67, 7028, 7068, 222, 8, 168, 486, 7076, 0, 8, 168, 487, 1052, 2372, 50, 186, 488, 1, 0, 0, 6, 0, 0, 14, 1, 1, 20, 0, 0, 4, 168, 489, 7116, 28, 258, 490, 5844, 3, 3, 69, 7106, 7146, 222, 8, 168, 491, 7154, 7096, 50, 204, 492, 118, 97, 108, 117, 101, 58, 118, 97, 108, 117, 101, 58, 8, 168, 493, 7184, 6802, 8, 168, 494, 1052, 2372, 50, 186, 495, 1, 0, 0, 6, 0, 0, 14, 1, 1, 20, 0, 0, 4, 168, 496, 7234, 28, 258, 497, 7184, 5, 5, 71, 7224, 7264, 222, 8, 168, 498, 7272, 7174, 42, 204, 499, 119, 104, 105, 108, 101, 84, 114, 117, 101, 58, 8, 168, 500, 7302, 7214, 4, 168, 501, 3064, 134, 186, 502, 1, 0, 0, 14, 0, 0, 17, 7, 0, 7, 0, 0, 14, 0, 0, 12, 0, 0, 16, 0, 0, 2, 0, 0, 12, 0, 0, 1, 0, 0, 20, 0, 0, 4, 168, 503, 7346, 28, 258, 504, 7302, 3, 3, 1, 7338, 7418, 222, 8, 168, 505, 7426, 7292, 30, 204, 506, 101, 110, 115, 117, 114, 101, 58, 8, 168, 507, 7456, 7328, 4, 168, 508, 3064, 146, 186, 509, 1, 0, 0, 14, 0, 0, 10, 1, 0, 12, 0, 0, 3, 0, 0, 10, 2, 0, 12, 0, 0, 7, 0, 0, 14, 0, 0, 12, 0, 0, 7, 1, 0, 20, 0, 0, 4, 168, 510, 7494, 28, 258, 511, 7456, 3, 7, 181, 7486, 7572, 222, 8, 168, 512, 7580, 7446, 50, 204, 513, 105, 102, 67, 117, 114, 116, 97, 105, 108, 101, 100, 58, 8, 168, 514, 7610, 7476, 4, 168, 515, 3064, 110, 186, 516, 1, 0, 0, 14, 0, 0, 10, 1, 0, 12, 0, 0, 3, 0, 0, 10, 2, 0, 12, 0, 0, 7, 1, 0, 20, 0, 0, 4, 168, 517, 7658, 28, 258, 518, 7610, 3, 7, 183, 7650, 7718, 222, 8, 168, 519, 7726, 7600, 26, 204, 520, 115, 101, 110, 100, 101, 114, 8, 168, 521, 7756, 7640, 0, 168, 522, 26, 186, 523, 1, 0, 0, 20, 0, 0, 4, 168, 524, 7790, 28, 258, 525, 7756, 1, 1, 161, 7784, 7808, 240, 8, 168, 526, 7816, 0, 34, 204, 527, 114, 101, 99, 101, 105, 118, 101, 114, 8, 168, 528, 7846, 7774, 0, 168, 529, 26, 186, 530, 1, 0, 0, 20, 0, 0, 4, 168, 531, 7884, 28, 258, 532, 7846, 1, 1, 163, 7878, 7902, 240, 8, 168, 533, 7910, 7836, 0, 168, 534, 26, 186, 535, 1, 0, 0, 20, 0, 0, 4, 168, 536, 7946, 28, 258, 537, 1020, 1, 1, 165, 7940, 7964, 240, 8, 168, 538, 7972, 7930, 10, 204, 539, 112, 99, 8, 168, 540, 8002, 7868, 0, 168, 541, 26, 186, 542, 1, 0, 0, 20, 0, 0, 4, 168, 543, 8028, 28, 258, 544, 8002, 1, 1, 167, 8022, 8046, 240, 8, 168, 545, 8054, 7992, 30, 204, 546, 116, 101, 109, 112, 65, 116, 58, 8, 168, 547, 8084, 8012, 8, 168, 548, 6078, 2372, 50, 186, 549, 1, 0, 0, 6, 0, 0, 14, 1, 1, 20, 0, 0, 4, 168, 550, 8124, 28, 258, 551, 8084, 3, 3, 169, 8114, 8154, 240, 8, 168, 552, 8162, 8074, 46, 204, 553, 116, 101, 109, 112, 65, 116, 58, 112, 117, 116, 58, 8, 168, 554, 8192, 8104, 8, 168, 555, 6078, 2372, 50, 186, 556, 1, 0, 0, 6, 0, 0, 14, 1, 1, 20, 0, 0, 4, 168, 557, 8240, 28, 258, 558, 8192, 5, 5, 171, 8230, 8270, 240, 8, 168, 559, 8278, 8182, 30, 204, 560, 114, 101, 116, 117, 114, 110, 58, 8, 168, 561, 8308, 8220, 54, 204, 562, 99, 97, 110, 110, 111, 116, 82, 101, 116, 117, 114, 110, 58, 8, 168, 563, 8338, 8328, 4, 168, 564, 8338, 50, 186, 565, 1, 0, 0, 7, 0, 0, 14, 0, 1, 20, 0, 0, 4, 168, 566, 8388, 28, 258, 567, 8308, 3, 3, 173, 8380, 8418, 240, 8, 168, 568, 8426, 8298, 0, 168, 569, 26, 186, 570, 1, 0, 0, 20, 0, 0, 4, 168, 571, 8462, 28, 258, 572, 8338, 3, 3, 149, 8456, 8480, 240, 8, 168, 573, 8488, 8446, 0, 168, 574, 26, 186, 575, 8, 0, 0, 20, 0, 0, 4, 168, 576, 8524, 28, 258, 577, 1020, 1, 1, 1, 8518, 8542, 276, 8, 168, 578, 8550, 0, 0, 168, 579, 26, 186, 580, 8, 1, 0, 20, 0, 0, 4, 168, 581, 8586, 28, 258, 582, 1052, 1, 1, 1, 8580, 8604, 276, 8, 168, 583, 8612, 8570]
def plF : List Nat := [3, 12, 21, 30, 39, 48, 57, 66, 75, 84, 93, 102, 111, 120, 129, 138, 147, 156, 161, 164, 169, 177, 182, 185, 190, 208, 213, 216, 221, 231, 236, 239, 244, 251, 256, 259, 264, 272, 277, 280, 285, 295, 300, 303, 308, 323, 328, 331, 336, 351, 356, 359, 364, 372, 377, 380, 385, 394, 399, 402, 407, 416, 421, 424, 429, 437, 442, 445, 450, 460, 465, 468, 473, 482, 487, 490, 495, 505, 510, 521, 526, 538, 543, 548, 553, 557, 562, 567, 572, 576, 591, 595, 605, 610, 613, 622, 626, 636, 641, 649, 654, 657, 666, 670, 680, 685, 693, 698, 702, 717, 721, 731, 736, 745, 750, 754, 775, 779, 789, 794, 799, 804, 809, 830, 834, 844, 849, 860, 865, 868, 877, 881, 891, 896, 909, 914, 917, 926, 930, 940, 945, 962, 967, 970, 979, 983, 993, 998, 1008, 1013, 1016, 1025, 1029, 1039, 1044, 1055, 1060, 1063, 1072, 1076, 1086, 1091, 1107, 1112, 1115, 1124, 1128, 1138, 1143, 1150, 1155, 1158, 1167, 1171, 1181, 1186, 1195, 1200, 1203, 1212, 1216, 1226, 1231, 1252, 1257, 1260, 1269, 1273, 1283, 1288, 1304, 1309, 1312, 1321, 1325, 1335, 1340, 1346, 1351, 1354, 1363, 1367, 1377, 1382, 1389, 1394, 1397, 1406, 1410, 1420, 1425, 1432, 1437, 1440, 1449, 1453, 1463, 1468, 1481, 1486, 1489, 1498, 1502, 1512, 1517, 1527, 1532, 1540, 1545, 1549, 1561, 1565, 1575, 1580, 1591, 1596, 1599, 1608, 1612, 1622, 1627, 1645, 1650, 1654, 1666, 1670, 1680, 1685, 1703, 1708, 1712, 1724, 1728, 1738, 1743, 1750, 1755, 1759, 1771, 1775, 1785, 1790, 1796, 1801, 1804, 1813, 1817, 1827, 1832, 1838, 1843, 1846, 1855, 1859, 1869, 1874, 1877, 1886, 1890, 1900, 1905, 1909, 1921, 1925, 1935, 1940, 1944, 1956, 1960, 1970, 1975, 1979, 1991, 1995, 2005, 2010, 2013, 2022, 2026, 2036, 2041, 2045, 2057, 2061, 2071, 2076, 2079, 2088, 2092, 2102, 2107, 2111, 2116, 2125, 2130, 2135, 2150, 2154, 2164, 2169, 2173, 2178, 2183, 2198, 2202, 2212, 2217, 2221, 2226, 2231, 2246, 2250, 2260, 2265, 2270, 2275, 2280, 2295, 2299, 2309, 2314, 2318, 2323, 2328, 2343, 2347, 2357, 2362, 2366, 2371, 2376, 2391, 2395, 2405, 2410, 2413, 2422, 2426, 2436, 2441, 2445, 2450, 2454, 2469, 2473, 2483, 2488, 2493, 2498, 2503, 2521, 2525, 2535, 2540, 2545, 2550, 2555, 2573, 2577, 2587, 2592, 2602, 2607, 2612, 2627, 2631, 2641, 2646, 2652, 2657, 2663, 2705, 2709, 2719, 2724, 2731, 2736, 2740, 2779, 2783, 2793, 2798, 2813, 2818, 2826, 2889, 2893, 2903, 2908, 2917, 2922, 2931, 2936, 2943, 3009, 3013, 3023, 3028, 3034, 3039, 3047, 3052, 3057, 3072, 3076, 3086, 3091, 3101, 3106, 3111, 3126, 3130, 3140, 3145, 3152, 3157, 3160, 3169, 3173, 3183, 3188, 3194, 3199, 3207, 3255, 3259, 3269, 3274, 3279, 3294, 3298, 3308, 3313, 3318, 3333, 3337, 3347, 3352, 3355, 3364, 3368, 3378, 3383, 3387, 3392, 3401, 3406, 3411, 3426, 3430, 3440, 3445, 3448, 3457, 3461, 3471, 3476, 3480, 3495, 3499, 3509, 3514, 3519, 3534, 3538, 3548, 3553, 3558, 3573, 3577, 3587, 3592, 3607, 3612, 3617, 3632, 3636, 3646, 3651, 3664, 3669, 3673, 3709, 3713, 3723, 3728, 3738, 3743, 3747, 3786, 3790, 3800, 3805, 3820, 3825, 3829, 3859, 3863, 3873, 3878, 3887, 3892, 3895, 3904, 3908, 3918, 3923, 3934, 3939, 3942, 3951, 3955, 3965, 3970, 3973, 3982, 3986, 3996, 4001, 4006, 4011, 4014, 4023, 4027, 4037, 4042, 4052, 4057, 4062, 4077, 4081, 4091, 4096, 4110, 4115, 4120, 4135, 4139, 4149, 4154, 4164, 4169, 4185, 4190, 4194, 4209, 4213, 4223, 4228, 4231, 4240, 4244, 4254, 4259, 4262, 4271, 4275, 4285, 4290, 4293, 4302, 4306, 4316]
def syF : List (List Nat × Nat) := [([79, 98, 106, 101, 99, 116], 294), ([67, 108, 97, 115, 115], 338), ([85, 110, 100, 101, 102, 105, 110, 101, 100, 79, 98, 106, 101, 99, 116], 380), ([66, 111, 111, 108, 101, 97, 110], 442), ([84, 114, 117, 101], 488), ([70, 97, 108, 115, 101], 528), ([73, 110, 116, 101, 103, 101, 114], 570), ([83, 109, 97, 108, 108, 73, 110, 116, 101, 103, 101, 114], 616), ([76, 97, 114, 103, 101, 73, 110, 116, 101, 103, 101, 114], 672), ([65, 114, 114, 97, 121], 728), ([83, 116, 114, 105, 110, 103], 770), ([83, 121, 109, 98, 111, 108], 814), ([66, 108, 111, 99, 107], 858), ([67, 111, 110, 116, 101, 120, 116], 900), ([77, 101, 116, 104, 111, 100], 946), ([77, 101, 115, 115, 97, 103, 101], 990), ([115, 101, 108, 101, 99, 116, 111, 114], 1020), ([97, 114, 103, 117, 109, 101, 110, 116, 115], 1052), ([61], 1106), ([61, 61], 1124), ([99, 108, 97, 115, 115], 1282), ([105, 115, 78, 105, 108], 1370), ([110, 111, 116, 78, 105, 108], 1472), ([126, 61], 1588), ([121, 111, 117, 114, 115, 101, 108, 102], 1698), ([105, 110, 115, 116, 86, 97, 114, 65, 116, 58], 1792), ([105, 110, 115, 116, 86, 97, 114, 65, 116, 58, 112, 117, 116, 58], 1890), ([98, 101, 99, 111, 109, 101, 58], 1996), ([112, 101, 114, 102, 111, 114, 109, 58], 2088), ([112, 101, 114, 102, 111, 114, 109, 58, 119, 105, 116, 104, 58], 2182), ([115, 104, 111, 119], 2286), ([101, 114, 114, 111, 114, 58], 2372), ([100, 111, 101, 115, 78, 111, 116, 85, 110, 100, 101, 114, 115, 116, 97, 110, 100, 58], 2462), ([109, 117, 115, 116, 66, 101, 66, 111, 111, 108, 101, 97, 110], 2576), ([110, 101, 119], 2680), ([110, 101, 119, 58], 2764), ([110, 97, 109, 101], 2850), ([115, 117, 112, 101, 114, 99, 108, 97, 115, 115], 2936), ([105, 102, 84, 114, 117, 101, 58], 3034), ([118, 97, 108, 117, 101], 3064), ([105, 102, 70, 97, 108, 115, 101, 58], 3160), ([105, 102, 84, 114, 117, 101, 58, 105, 102, 70, 97, 108, 115, 101, 58], 3254), ([105, 102, 70, 97, 108, 115, 101, 58, 105, 102, 84, 114, 117, 101, 58], 3370), ([97, 110, 100, 58], 3486), ([111, 114, 58], 3580), ([110, 111, 116], 3664), ([43], 4214), ([110, 117, 109, 98, 101, 114], 4232), ([45], 4338), ([42], 4434), ([47, 47], 4530), ([37], 4628), ([60], 4724), ([62], 4882), ([60, 61], 4976), ([62, 61], 5080), ([110, 101, 103, 97, 116, 101, 100], 5184), ([97, 98, 115], 5292), ([109, 97, 120, 58], 5448), ([116, 105, 109, 101, 115, 82, 101, 112, 101, 97, 116, 58], 5596), ([116, 111, 58, 100, 111, 58], 5816), ([118, 97, 108, 117, 101, 58], 5844), ([97, 116, 58], 6056), ([105, 110, 100, 101, 120], 6078), ([97, 116, 58, 112, 117, 116, 58], 6182), ([115, 105, 122, 101], 6290), ([100, 111, 58], 6376), ([44], 6766), ([115, 116, 114, 105, 110, 103], 6784), ([118, 97, 108, 117, 101, 58, 118, 97, 108, 117, 101, 58], 7184), ([119, 104, 105, 108, 101, 84, 114, 117, 101, 58], 7302), ([101, 110, 115, 117, 114, 101, 58], 7456), ([105, 102, 67, 117, 114, 116, 97, 105, 108, 101, 100, 58], 7610), ([115, 101, 110, 100, 101, 114], 7756), ([114, 101, 99, 101, 105, 118, 101, 114], 7846), ([112, 99], 8002), ([116, 101, 109, 112, 65, 116, 58], 8084), ([116, 101, 109, 112, 65, 116, 58, 112, 117, 116, 58], 8192), ([114, 101, 116, 117, 114, 110, 58], 8308), ([99, 97, 110, 110, 111, 116, 82, 101, 116, 117, 114, 110, 58], 8338)]
def clF : List (List Nat × Nat) := [([79, 98, 106, 101, 99, 116], 6), ([67, 108, 97, 115, 115], 24), ([85, 110, 100, 101, 102, 105, 110, 101, 100, 79, 98, 106, 101, 99, 116], 42), ([66, 111, 111, 108, 101, 97, 110], 60), ([84, 114, 117, 101], 78), ([70, 97, 108, 115, 101], 96), ([73, 110, 116, 101, 103, 101, 114], 114), ([83, 109, 97, 108, 108, 73, 110, 116, 101, 103, 101, 114], 132), ([76, 97, 114, 103, 101, 73, 110, 116, 101, 103, 101, 114], 150), ([65, 114, 114, 97, 121], 168), ([83, 116, 114, 105, 110, 103], 186), ([83, 121, 109, 98, 111, 108], 204), ([66, 108, 111, 99, 107], 222), ([67, 111, 110, 116, 101, 120, 116], 240), ([77, 101, 116, 104, 111, 100], 258), ([77, 101, 115, 115, 97, 103, 101], 276)]
def aWb (l : List (List Nat × Nat)) : Nat → List (List Nat × Nat) := List.rec (motive := fun _ => Nat → List (List Nat × Nat)) (fun _ => []) (fun x _ ih n => bif Nat.beq n 0 then [] else x :: ih (Nat.sub n 1)) l
def dCn (l : List (List Nat × List Nat)) : Nat → List (Pos × Ob) := List.rec (motive := fun _ => Nat → List (Pos × Ob)) (fun _ => []) (fun x _ ih p => (aL p, .row .ex [.s x.1, .s x.2]) :: ih (Nat.add p 1)) l
def dCz (l : List (List Nat × List Nat)) : Nat → List (List Nat × List Nat) := List.rec (motive := fun _ => Nat → List (List Nat × List Nat)) (fun _ => []) (fun x l ih n => bif Nat.beq n 0 then x :: l else ih (Nat.sub n 1)) l
def fY (N fin made ns : Nat) (roots : List Nat) (pt : List (Nat × Nat)) (k : Nat) : List (Pos × Ob) :=
 (aL 7, .row .ex [.p (aL 3) 0, .l (aL 4) 0 18 18, .m (aL 5), .m (aL 6)]) ::
 (aL 6, .mp (bTq clF)) :: (aL 5, .mp (bTq (aWb syF ns))) :: (aL 4, .row .ex (dMd roots)) ::
 (aL 3, .row .ex [.l (aL 1) 0 N N, .i .i64 (.ofNat fin), .i .i64 (.ofNat made), .m (aL 2)]) ::
 (aL 2, .mi (mkP (wO plF made) .e)) :: (aL 1, .big N (bLh pt (mkW (wO wsF fin) 0 .e))) ::
 (aL 431, .row .ex (dJw dDc 356)) :: dCn (dCz dDc k) (Nat.add 356 k)
def cSb (l : List (Pos × Ob)) : Tr Ob := List.rec (motive := fun _ => Tr Ob) .e (fun x _ ih => Tr.set x.2 x.1 ih) l
def dW (nx : Nat) (l : List (Pos × Ob)) : Hp := ⟨aL nx, cSb l⟩
def gX (x y : Int) : Bool := match x, y with
 | .ofNat a, .ofNat b => Nat.beq a b
 | .negSucc a, .negSucc b => Nat.beq a b
 | _, _ => false
def wtE (t : WT) : WT → Bool := WT.rec (motive := fun _ => WT → Bool) (fun u => WT.rec (motive := fun _ => Bool) true (fun _ _ _ _ _ => false) u)
 (fun _ v _ ihl ihr u => WT.rec (motive := fun _ => Bool) false (fun l' v' r' _ _ => gX v v' && (ihl l' && ihr r')) u) t
def dvE (x y : DV) : Bool := match x, y with
 | .i .i64 a, .i .i64 b => gX a b
 | .s a, .s b => uI a b
 | .p a o, .p b q => mV a b && Nat.beq o q
 | .l a o n c, .l b q m d => mV a b && (Nat.beq o q && (Nat.beq n m && Nat.beq c d))
 | .m a, .m b => mV a b
 | .b a, .b b => a == b
 | .l0, .l0 => true
 | .p0, .p0 => true
 | .m0, .m0 => true
 | _, _ => false
def cKs (l : List DV) : List DV → Bool := List.rec (motive := fun _ => List DV → Bool) (fun m => List.rec (motive := fun _ => Bool) true (fun _ _ _ => false) m)
 (fun x _ ih m => List.rec (motive := fun _ => Bool) false (fun y m _ => dvE x y && ih m) m) l
def cTd (l : List (DV × DV)) : List (DV × DV) → Bool := List.rec (motive := fun _ => List (DV × DV) → Bool) (fun m => List.rec (motive := fun _ => Bool) true (fun _ _ _ => false) m)
 (fun x _ ih m => List.rec (motive := fun _ => Bool) false (fun y m _ => dvE x.1 y.1 && (dvE x.2 y.2 && ih m)) m) l
def obE (o p : Ob) : Bool := match o, p with
 | .row .ex l, .row .ex m => cKs l m
 | .mp l, .mp m => cTd l m
 | .big n t, .big m u => Nat.beq n m && wtE t u
 | .mi t, .mi u => wtE t u
 | _, _ => false
def bPo (g : Tr Ob) (l : List (Pos × Ob)) : Bool := List.rec (motive := fun _ => Bool) true (fun x _ ih => (match g.get x.1 with
 | some o => obE o x.2
 | none => false) && ih) l
def fP (r : aH) (vs : List DV) (nx : Nat) (l : List (Pos × Ob)) : Bool := match r with
 | some (.t us, g) => cKs us vs && (mV g.next (aL nx) && bPo g.bl l)
 | _ => false
def itN (n : Nat) (K : DV → DV → DV → DV → Hp → aH) : DV → DV → DV → DV → Hp → aH :=
 Nat.rec (motive := fun _ => DV → DV → DV → DV → Hp → aH) K (fun _ ih => mR (cA 899) 899 ih) n
def bQm : DV → DV → DV → DV → Hp → aH := fun a b c d h => some (.t [a, b, c, d], h)
def eU (k : Nat) : List DV := [.p (aL 7) 0, .l (aL 431) 0 75 75, .i .i64 (.ofNat 75), .i .i64 (.ofNat k)]
def gM (k n : Nat) (h : Hp) : aH := itN n bQm (.p (aL 7) 0) (.l (aL 431) 0 75 75) (.i .i64 (.ofNat 75)) (.i .i64 (.ofNat k)) h
end
end Go.Dd

