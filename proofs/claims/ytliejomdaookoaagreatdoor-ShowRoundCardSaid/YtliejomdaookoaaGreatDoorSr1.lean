/- A part of the proof: Q0 Q1 Q2 Q3 Q4 Q5 Q6 Qt SH R R1 R2 U S1 S2 S3 S4 S5 S6 S7 S8 S10 LV T1 ZR T2: each text has a comment of its own. -/
import Derived.Test.YtliejomdaookoaaGreatDoorSr0
import Derived.Shelf.Strings.Builder1
import Derived.Shelf.Strings.Builder2
import Derived.Shelf.Strings.OnBuilder
import Derived.Shelf.Small.Strs
import Derived.Shelf.Strconv.Itoa0
import Derived.Shelf.Strconv.Itoa1
import Derived.Shelf.LaysM
import Derived.Shelf.Strconv.Itoa2
import Derived.Shelf.Strconv.Itoa3
import Derived.Shelf.Strings.Search1
import Derived.Shelf.Strings.Search2
import Derived.Shelf.Strings.Search3
import Derived.Shelf.Strings.Count
import Derived.Shelf.Strings.Shaped
import Derived.Shelf.Strings.Split
import Derived.Shelf.Strings.Replace
import Derived.Shelf.Unicode.DecodeSlow
import Derived.Test.YtliejomdaookoaaGreatDoorProg
import Derived.Lib.SplitLaws
import Derived.Lib.IndexBytes
import Derived.Lib.Bytealg
import Derived.KernelRfl
import Derived.ChangeArms
import Derived.WalkKit
import Derived.ProofKit
set_option linter.unusedVariables false
set_option linter.unusedSimpArgs false
set_option linter.constructorNameAsVariable false
set_option maxRecDepth 100000
namespace Go.Dd
open Go.Proofs
noncomputable section
variable (r : RT) (n : Nat) (args : List DV) (h : Hp)
def bOd (r : RT) (n : Nat) (h0 : Hp) : aG :=
 bnd (r 10 [] h0) fun v1 h1 =>
 some (v1, h1)
def bRv (r : RT) (n : Nat) (x12 x14 : DV) (h0 : Hp) : aG :=
 bnd (aQ .eql x14 (aJ 0) h0) fun v1 h1 =>
 cB v1 (
 bnd (aD 6 x12 h1) fun v2 h2 =>
 bnd (r 11 [v2] h2) fun v3 h3 =>
 bnd (aH 0 v3 h3) fun v4 h4 =>
 bnd (aH 1 v3 h4) fun v5 h5 =>
 bnd (r 17 [v4] h5) fun v6 h6 =>
 bnd (aH 0 v6 h6) fun v7 h7 =>
 bnd (aH 1 v6 h7) fun v8 h8 =>
 bnd (aH 2 v6 h8) fun v9 h9 =>
 bnd (cJ fM h9) fun v10 h10 =>
 bnd (aC 6 v10 v7 h10) fun _ h11 =>
 bnd (aD 6 x12 h11) fun v12 h12 =>
 bnd (aD 6 v10 h12) fun v13 h13 =>
 bnd (r 16 [v12, v13] h13) fun v14 h14 =>
 bnd (aQ .neq v5 (aJ 0) h14) fun v15 h15 =>
 bnd (gD v15 false (some (v9, h15)) h15) fun v16 h16 =>
 bnd (gD v15 false (aQ .neq v16 (aJ 0) h16) h16) fun v17 h17 =>
 bnd (cA v15 (.b true) v17 h17) fun v18 h18 =>
 bnd (gD v18 false (some (v14, h18)) h18) fun v19 h19 =>
 bnd (gD v18 false (pJ .not v19 h19) h19) fun v20 h20 =>
 bnd (cA v18 (.b true) v20 h20) fun v21 h21 =>
 cB v21 (
 some ((.b false), h21)) (
  bOd r n h21)) (
  bOd r n h1)
def aZz (r : RT) (n : Nat) (x0 : DV) (h0 : Hp) : aG :=
 bnd (r 15 [x0] h0) fun v1 h1 =>
 bnd (r 17 [v1] h1) fun v2 h2 =>
 bnd (aH 0 v2 h2) fun v3 h3 =>
 bnd (aH 1 v2 h3) fun v4 h4 =>
 bnd (aH 2 v2 h4) fun v5 h5 =>
 bnd (cJ fM h5) fun v6 h6 =>
 bnd (aC 6 v6 v3 h6) fun _ h7 =>
  bRv r n v6 v5 h7
def bUs (r : RT) (n : Nat) (x0 x3 x5 : DV) (h0 : Hp) : aG :=
 bnd (aQ .eql x5 (aJ 0) h0) fun v1 h1 =>
 cB v1 (
 bnd (aD 6 x3 h1) fun v2 h2 =>
 bnd (r 13 [v2] h2) fun v3 h3 =>
 bnd (aH 0 v3 h3) fun v4 h4 =>
 bnd (aH 1 v3 h4) fun v5 h5 =>
 bnd (r 14 [v4] h5) fun v6 h6 =>
 bnd (aH 0 v6 h6) fun v7 h7 =>
 bnd (aH 1 v6 h7) fun v8 h8 =>
 bnd (aH 2 v6 h8) fun v9 h9 =>
 bnd (cJ fM h9) fun v10 h10 =>
 bnd (aC 6 v10 v7 h10) fun _ h11 =>
 bnd (aD 6 x3 h11) fun v12 h12 =>
 bnd (aD 6 v10 h12) fun v13 h13 =>
 bnd (r 16 [v12, v13] h13) fun v14 h14 =>
 bnd (aQ .neq v5 (aJ 0) h14) fun v15 h15 =>
 bnd (gD v15 false (some (v9, h15)) h15) fun v16 h16 =>
 bnd (gD v15 false (aQ .neq v16 (aJ 0) h16) h16) fun v17 h17 =>
 bnd (cA v15 (.b true) v17 h17) fun v18 h18 =>
 bnd (gD v18 false (some (v14, h18)) h18) fun v19 h19 =>
 bnd (gD v18 false (pJ .not v19 h19) h19) fun v20 h20 =>
 bnd (cA v18 (.b true) v20 h20) fun v21 h21 =>
 cB v21 (
 some ((.b false), h21)) (
  aZz r n x0 h21)) (
  aZz r n x0 h1)
def bVu (r : RT) (n : Nat) (x0 : DV) (h0 : Hp) : aG :=
 bnd (r 15 [x0] h0) fun v1 h1 =>
 bnd (r 14 [v1] h1) fun v2 h2 =>
 bnd (aH 0 v2 h2) fun v3 h3 =>
 bnd (aH 1 v2 h3) fun v4 h4 =>
 bnd (aH 2 v2 h4) fun v5 h5 =>
 bnd (cJ fM h5) fun v6 h6 =>
 bnd (aC 6 v6 v3 h6) fun _ h7 =>
  bUs r n x0 v6 v5 h7
def s5 (r : RT) (n : Nat) (x0 : DV) (h0 : Hp) : aG :=
 bVu r n x0 h0
abbrev c5 : Code := cf Tryz.f5
abbrev r5 : K := bT CF Tryz.f5
def D5 (r : RT) (n : Nat) (c : Code) (X : Nat → K) (k : K) : K := aU CF r 88 n c X r5 k
theorem s5m : D5 r n c5 x0 r5 = (K1 (s5 r n) 0) := by kernel_rfl
theorem bSl : aM CF r n 5 args h = s5 r n (aZ args 0) h :=
 fK (s5m r n) args h (by kernel_rfl) (by kernel_rfl)
def s11 (r : RT) (n : Nat) (x0 : DV) (h0 : Hp) : aG :=
 bnd (iB x0 h0) fun v1 h1 =>
 bnd (aD 6 v1 (gT 1 h1)) fun v2 h2 =>
 bnd (r 20 [v2] h2) fun v3 h3 =>
 bnd (aD 6 v1 h3) fun v4 h4 =>
 cnd (bX (aD 6 v1 (gT 1 h1)) v4 && true) (
 bnd (r 21 [v4] h4) fun v5 h5 =>
 bnd (aY (dA 0 h1.next) [(.s []), (.s [])] 2 [(0, 1, v3), (1, 1, v5)] h5) fun v6 h6 =>
 bnd (r 19 [v6] h6) fun v7 h7 =>
 bnd (r 17 [v7] h7) fun v8 h8 =>
 bnd (aH 0 v8 h8) fun v9 h9 =>
 bnd (aH 1 v8 h9) fun v10 h10 =>
 bnd (aH 2 v8 h10) fun v11 h11 =>
 bnd (cJ fM h11) fun v12 h12 =>
 bnd (aC 6 v12 v9 h12) fun _ h13 =>
 bnd (aD 6 v1 h13) fun v14 h14 =>
 bnd (aD 6 v12 h14) fun v15 h15 =>
 bnd (r 22 [v7, v14, v15, v11] h15) fun v16 h16 =>
 bnd (aH 0 v16 h16) fun v17 h17 =>
 bnd (aH 1 v16 h17) fun v18 h18 =>
 some (.t [v17, v18], h18))
abbrev c11 : Code := cf Tryz.f11
abbrev r11 : K := bT CF Tryz.f11
def D11 (r : RT) (n : Nat) (c : Code) (X : Nat → K) (k : K) : K := aU CF r 27 n c X r11 k
theorem bWz : D11 r n c11 x0 r11 = (K1 (s11 r n) 0) :=
 (by kernel_rfl)
theorem bSn : aM CF r n 11 args h = s11 r n (aZ args 0) h :=
 fK (bWz r n) args h (by kernel_rfl) (by kernel_rfl)
def s13 (r : RT) (n : Nat) (x0 : DV) (h0 : Hp) : aG :=
 bnd (iB x0 h0) fun v1 h1 =>
 bnd (aD 6 v1 h1) fun v2 h2 =>
 bnd (r 21 [v2] h2) fun v3 h3 =>
 bnd (r 14 [v3] h3) fun v4 h4 =>
 bnd (aH 0 v4 h4) fun v5 h5 =>
 bnd (aH 1 v4 h5) fun v6 h6 =>
 bnd (aH 2 v4 h6) fun v7 h7 =>
 bnd (cJ fM h7) fun v8 h8 =>
 bnd (aC 6 v8 v5 h8) fun _ h9 =>
 bnd (aD 6 v1 h9) fun v10 h10 =>
 bnd (aD 6 v8 h10) fun v11 h11 =>
 bnd (r 22 [v3, v10, v11, v7] h11) fun v12 h12 =>
 bnd (aH 0 v12 h12) fun v13 h13 =>
 bnd (aH 1 v12 h13) fun v14 h14 =>
 some (.t [v13, v14], h14)
abbrev c13 : Code := cf Tryz.f13
abbrev r13 : K := bT CF Tryz.f13
def D13 (r : RT) (n : Nat) (c : Code) (X : Nat → K) (k : K) : K := aU CF r 23 n c X r13 k
theorem bYq : D13 r n c13 x0 r13 = (K1 (s13 r n) 0) :=
 (by kernel_rfl)
theorem bSj : aM CF r n 13 args h = s13 r n (aZ args 0) h :=
 fK (bYq r n) args h (by kernel_rfl) (by kernel_rfl)
def s14 (r : RT) (n : Nat) (x0 : DV) (h0 : Hp) : aG :=
 bnd (cJ fM h0) fun v1 h1 =>
 bnd (r 26 [x0, (.f 27 [] [])] h1) fun v2 h2 =>
 bnd (aH 0 v2 h2) fun v3 h3 =>
 bnd (aH 1 v2 h3) fun v4 h4 =>
 bnd (aH 2 v2 h4) fun v5 h5 =>
 bnd (aC 6 v1 v3 h5) fun _ h6 =>
 bnd (aD 6 v1 h6) fun v7 _ =>
 some (.t [v7, v4, v5], h6)
abbrev c14 : Code := cf Tryz.f14
abbrev r14 : K := bT CF Tryz.f14
def D14 (r : RT) (n : Nat) (c : Code) (X : Nat → K) (k : K) : K := aU CF r 10 n c X r14 k
theorem bWf : D14 r n c14 x0 r14 = (K1 (s14 r n) 0) :=
 (by kernel_rfl)
theorem bSw : aM CF r n 14 args h = s14 r n (aZ args 0) h :=
 fK (bWf r n) args h (by kernel_rfl) (by kernel_rfl)
def s15 (r : RT) (n : Nat) (x0 : DV) (h0 : Hp) : aG :=
 bnd (iE x0 h0) fun v1 h1 =>
 bnd (aQ .gtr v1 (aJ 500) h1) fun v2 h2 =>
 cB v2 (
 bnd (eH x0 none (some (aJ 500)) h2) fun v3 h3 =>
 some (v3, h3)) (
 some (x0, h2))
abbrev c15 : Code := cf Tryz.f15
abbrev r15 : K := bT CF Tryz.f15
def D15 (r : RT) (n : Nat) (c : Code) (X : Nat → K) (k : K) : K := aU CF r 9 n c X r15 k
theorem bYj : D15 r n c15 x0 r15 = (K1 (s15 r n) 0) :=
 (by kernel_rfl)
theorem bSb : aM CF r n 15 args h = s15 r n (aZ args 0) h :=
 fK (bYj r n) args h (by kernel_rfl) (by kernel_rfl)
def gS (r : RT) (n : Nat) (h0 : Hp) : aG :=
 some ((.b true), h0)
def qA (r : RT) (n : Nat) (kk7 : iK) (x2 x3 x7 : DV) (h0 : Hp) : aG :=
 bnd (aA 5 x2 h0) fun v1 h1 =>
 bnd (aB v1 h1) fun v2 h2 =>
 bnd (fS v2 h2) fun v3 h3 =>
 bnd (aQ .lss x7 v3 h3) fun v4 h4 =>
 cB v4 (
 bnd (aA 5 x2 h4) fun v5 h5 =>
 bnd (aB v5 h5) fun v6 h6 =>
 bnd (aT 6 v6 x7 h6) fun v7 h7 =>
 bnd (aD 6 v7 h7) fun v8 h8 =>
 bnd (aA 5 x3 h8) fun v9 h9 =>
 bnd (aB v9 h9) fun v10 h10 =>
 bnd (aT 6 v10 x7 h10) fun v11 h11 =>
 bnd (aD 6 v11 h11) fun v12 h12 =>
 bnd (r 16 [v8, v12] h12) fun v13 h13 =>
 bnd (pJ .not v13 h13) fun v14 h14 =>
 cB v14 (
 some ((.b false), h14)) (
 bnd (aQ .add x7 (aJ 1) h14) fun v15 h15 =>
  kk7 x2 x3 v15 h15)) (
      gS r n h4)
def jZ (r : RT) (n : Nat) (m : Nat) : iK :=
 Nat.rec (motive := fun _ => iK) (fun _ _ _ _ => none) (fun _ ih => qA r n ih) m
def bIf (r : RT) (n : Nat) : iK := jZ r n n
def aMn (r : RT) (n : Nat) (x2 x3 x7 : DV) (h0 : Hp) : aG :=
 bIf r n x2 x3 x7 h0
def aKs (r : RT) (n : Nat) (x2 x3 : DV) (h0 : Hp) : aG :=
 aMn r n x2 x3 (aJ 0) h0
def aDj (r : RT) (n : Nat) (x2 x3 x5 x6 : DV) (h0 : Hp) : aG :=
 bnd (pJ .not x5 h0) fun v1 h1 =>
 bnd (gD v1 false (some (x6, h1)) h1) fun v2 h2 =>
 bnd (gD v1 false (pJ .not v2 h2) h2) fun v3 h3 =>
 bnd (cA v1 (.b true) v3 h3) fun v4 h4 =>
 bnd (gD v4 false (aA 0 x2 h4) h4) fun v5 h5 =>
 bnd (gD v4 false (aB v5 h5) h5) fun v6 h6 =>
 bnd (gD v4 false (aA 0 x3 h6) h6) fun v7 h7 =>
 bnd (gD v4 false (aB v7 h7) h7) fun v8 h8 =>
 bnd (gD v4 false (aQ .neq v6 v8 h8) h8) fun v9 h9 =>
 bnd (cA v4 (.b true) v9 h9) fun v10 h10 =>
 bnd (gD v10 false (aA 1 x2 h10) h10) fun v11 h11 =>
 bnd (gD v10 false (aB v11 h11) h11) fun v12 h12 =>
 bnd (gD v10 false (aA 1 x3 h12) h12) fun v13 h13 =>
 bnd (gD v10 false (aB v13 h13) h13) fun v14 h14 =>
 bnd (gD v10 false (gU .neq v12 v14 h14) h14) fun v15 h15 =>
 bnd (cA v10 (.b true) v15 h15) fun v16 h16 =>
 bnd (gD v16 false (aA 2 x2 h16) h16) fun v17 h17 =>
 bnd (gD v16 false (aB v17 h17) h17) fun v18 h18 =>
 bnd (gD v16 false (aA 2 x3 h18) h18) fun v19 h19 =>
 bnd (gD v16 false (aB v19 h19) h19) fun v20 h20 =>
 bnd (gD v16 false (aQ .neq v18 v20 h20) h20) fun v21 h21 =>
 bnd (cA v16 (.b true) v21 h21) fun v22 h22 =>
 bnd (gD v22 false (aA 5 x2 h22) h22) fun v23 h23 =>
 bnd (gD v22 false (aB v23 h23) h23) fun v24 h24 =>
 bnd (gD v22 false (fS v24 h24) h24) fun v25 h25 =>
 bnd (gD v22 false (aA 5 x3 h25) h25) fun v26 h26 =>
 bnd (gD v22 false (aB v26 h26) h26) fun v27 h27 =>
 bnd (gD v22 false (fS v27 h27) h27) fun v28 h28 =>
 bnd (gD v22 false (aQ .neq v25 v28 h28) h28) fun v29 h29 =>
 bnd (cA v22 (.b true) v29 h29) fun v30 h30 =>
 cB v30 (
 some ((.b false), h30)) (
  aKs r n x2 x3 h30)
def aNf (r : RT) (n : Nat) (x2 x3 x5 : DV) (h0 : Hp) : aG :=
 bnd (aA 4 x2 h0) fun v1 h1 =>
 bnd (aB v1 h1) fun v2 h2 =>
 bnd (aA 4 x3 h2) fun v3 h3 =>
 bnd (aB v3 h3) fun v4 h4 =>
 bnd (r 28 [v2, v4] h4) fun v5 h5 =>
  aDj r n x2 x3 x5 v5 h5
def aLp (r : RT) (n : Nat) (x2 x3 : DV) (h0 : Hp) : aG :=
 bnd (aA 3 x2 h0) fun v1 h1 =>
 bnd (aB v1 h1) fun v2 h2 =>
 bnd (aA 3 x3 h2) fun v3 h3 =>
 bnd (aB v3 h3) fun v4 h4 =>
 bnd (r 28 [v2, v4] h4) fun v5 h5 =>
  aNf r n x2 x3 v5 h5
def s16 (r : RT) (n : Nat) (x0 x1 : DV) (h0 : Hp) : aG :=
 bnd (iB x0 h0) fun v1 h1 =>
 bnd (iB x1 h1) fun v2 h2 =>
  aLp r n v1 v2 h2
abbrev c16 : Code := cf Tryz.f16
abbrev aLg := cR c16
abbrev aJf := cR aLg
abbrev aJy := cR aJf
abbrev aLr := cR aJy
abbrev bTe := cR aLr
abbrev aCb := cL aLr
abbrev aOs := cR aCb
abbrev aMh := cL aOs
abbrev sU := cL aMh
abbrev aSw := cL aCb
abbrev aTq := cL aJy
abbrev aSt := cL aJf
abbrev aXh := cL aLg
abbrev aSg := cL c16
abbrev r16 : K := bT CF Tryz.f16
def D16 (r : RT) (n : Nat) (c : Code) (X : Nat → K) (k : K) : K := aU CF r 75 n c X r16 k
theorem bNv : D16 r n bTe x0 r16 = (K0 (gS r n)) := by kernel_rfl
theorem bDw (kk7 : iK) : D16 r n sU (xs x0 0 (K0 (gS r n))) (K3 kk7 2 3 7) = (K3 (qA r n kk7) 2 3 7) := by kernel_rfl
theorem bFf (m : Nat) : aN (fun kk => D16 r n sU (xs x0 0 (K0 (gS r n))) kk) m = (K3 (jZ r n m) 2 3 7) := by
 induction m with
 | zero => exact (by kernel_rfl : aN (fun kk => D16 r n sU (xs x0 0 (K0 (gS r n))) kk) 0 = (K3 (jZ r n 0) 2 3 7))
 | succ m ih =>
  refine (by kernel_rfl : aN (fun kk => D16 r n sU (xs x0 0 (K0 (gS r n))) kk) (m + 1) = D16 r n sU (xs x0 0 (K0 (gS r n))) (aN (fun kk => D16 r n sU (xs x0 0 (K0 (gS r n))) kk) m)).trans ?_
  rw [ih]
  exact (bDw r n (jZ r n m)).trans (by kernel_rfl)
theorem bKc : D16 r n aMh (xs x0 0 (K0 (gS r n))) (K0 (gS r n)) = (K3 (bIf r n) 2 3 7) :=
 (by kernel_rfl : D16 r n aMh (xs x0 0 (K0 (gS r n))) (K0 (gS r n)) = aN (fun kk => D16 r n sU (xs x0 0 (K0 (gS r n))) kk) n).trans ((bFf r n n).trans (by kernel_rfl))
theorem bMc : D16 r n aOs x0 (K0 (gS r n)) = (K3 (aMn r n) 2 3 7) :=
 (by kernel_rfl : D16 r n aOs x0 (K0 (gS r n)) = D16 r n aMh (xs x0 0 (K0 (gS r n))) (K0 (gS r n))).trans
 ((bKc r n).trans (by kernel_rfl))
theorem bHc : D16 r n aLr x0 r16 = D16 r n aCb x0 (K0 (gS r n)) :=
 congrArg (fun k => D16 r n aCb x0 k) (bNv r n)
theorem aZt : D16 r n aCb x0 (K0 (gS r n)) = D16 r n aSw x0 (K3 (aMn r n) 2 3 7) :=
 congrArg (fun k => D16 r n aSw x0 k) (bMc r n)
theorem bKf : D16 r n aLr x0 r16 = (K2 (aKs r n) 2 3) :=
 (bHc r n).trans
 ((aZt r n).trans
 ((by kernel_rfl)))
theorem bEr : D16 r n aJy x0 r16 = D16 r n aTq x0 (K2 (aKs r n) 2 3) :=
 congrArg (fun k => D16 r n aTq x0 k) (bKf r n)
theorem bQr : D16 r n aJy x0 r16 = (K4 (aDj r n) 2 3 5 6) :=
 (bEr r n).trans
 ((by kernel_rfl))
theorem bAz : D16 r n aJf x0 r16 = D16 r n aSt x0 (K4 (aDj r n) 2 3 5 6) :=
 congrArg (fun k => D16 r n aSt x0 k) (bQr r n)
theorem bRl : D16 r n aJf x0 r16 = (K3 (aNf r n) 2 3 5) :=
 (bAz r n).trans
 ((by kernel_rfl))
theorem bFh : D16 r n aLg x0 r16 = D16 r n aXh x0 (K3 (aNf r n) 2 3 5) :=
 congrArg (fun k => D16 r n aXh x0 k) (bRl r n)
theorem bPb : D16 r n aLg x0 r16 = (K2 (aLp r n) 2 3) :=
 (bFh r n).trans
 ((by kernel_rfl))
theorem bTk : D16 r n c16 x0 r16 = D16 r n aSg x0 (K2 (aLp r n) 2 3) :=
 congrArg (fun k => D16 r n aSg x0 k) (bPb r n)
theorem bXh : D16 r n c16 x0 r16 = (K2 (s16 r n) 0 1) :=
 (bTk r n).trans
 ((by kernel_rfl))
theorem bVr : aM CF r n 16 args h = s16 r n (aZ args 0) (aZ args 1) h :=
 fK (bXh r n) args h (by kernel_rfl) (by kernel_rfl)
def s17 (r : RT) (n : Nat) (x0 : DV) (h0 : Hp) : aG :=
 bnd (cJ fM h0) fun v1 h1 =>
 bnd (r 26 [x0, (.f 29 [] [])] h1) fun v2 h2 =>
 bnd (aH 0 v2 h2) fun v3 h3 =>
 bnd (aH 1 v2 h3) fun v4 h4 =>
 bnd (aH 2 v2 h4) fun v5 h5 =>
 bnd (aC 6 v1 v3 h5) fun _ h6 =>
 bnd (aD 6 v1 h6) fun v7 _ =>
 some (.t [v7, v4, v5], h6)
abbrev c17 : Code := cf Tryz.f17
abbrev r17 : K := bT CF Tryz.f17
def D17 (r : RT) (n : Nat) (c : Code) (X : Nat → K) (k : K) : K := aU CF r 10 n c X r17 k
theorem bWb : D17 r n c17 x0 r17 = (K1 (s17 r n) 0) :=
 (by kernel_rfl)
theorem bSq : aM CF r n 17 args h = s17 r n (aZ args 0) h :=
 fK (bWb r n) args h (by kernel_rfl) (by kernel_rfl)
def s19 (r : RT) (n : Nat) (x0 : DV) (h0 : Hp) : aG :=
 bnd (kK [x0, (.s [])] h0) fun v1 h1 =>
 some (v1, h1)
abbrev c19 : Code := cf Tryz.f19
abbrev r19 : K := bT CF Tryz.f19
def D19 (r : RT) (n : Nat) (c : Code) (X : Nat → K) (k : K) : K := aU CF r 5 n c X r19 k
theorem bXd : D19 r n c19 x0 r19 = (K1 (s19 r n) 0) :=
 (by kernel_rfl)
theorem bTd : aM CF r n 19 args h = s19 r n (aZ args 0) h :=
 fK (bXd r n) args h (by kernel_rfl) (by kernel_rfl)
def aMs (r : RT) (n : Nat) (x4 : DV) (h0 : Hp) : aG :=
 bnd (aO [(.s []), (.s [])] 2 [(0, 1, x4), (1, 1, (.s [32]))] h0) fun v1 h1 =>
 bnd (r 19 [v1] h1) fun v2 h2 =>
 some (v2, h2)
def bE (r : RT) (n : Nat) (x1 x4 : DV) (h0 : Hp) : aG :=
 bnd (aA 2 x1 h0) fun v1 h1 =>
 bnd (aB v1 h1) fun v2 h2 =>
 bnd (aQ .neq v2 (aJ 0) h2) fun v3 h3 =>
 cB v3 (
 bnd (aA 2 x1 h3) fun v4 h4 =>
 bnd (aB v4 h4) fun v5 h5 =>
 bnd (tJ [v5] h5) fun v6 h6 =>
 bnd (aO [(.s []), (.s []), (.s []), (.s [])] 4 [(0, 1, x4), (1, 1, (.s [32, 60, 112, 114, 105, 109, 105, 116, 105, 118, 101, 58, 32])), (2, 1, v6), (3, 1, (.s [62]))] h6) fun v7 h7 =>
 bnd (r 19 [v7] h7) fun v8 h8 =>
  aMs r n v8 h8) (
  aMs r n x4 h3)
def eA (r : RT) (n : Nat) (x1 x5 : DV) (h0 : Hp) : aG :=
 bnd (kK [x5, (.s [32])] h0) fun v1 h1 =>
  bE r n x1 v1 h1
def mR (r : RT) (n : Nat) (kk14 : TT6) (x1 x3 x5 x26 x27 x28 : DV) (h0 : Hp) : aG :=
 bnd (aQ .lss x28 x27 h0) fun v1 h1 =>
 cB v1 (
 bnd (aT 1 x26 x28 h1) fun v2 h2 =>
 bnd (aB v2 h2) fun v3 h3 =>
 bnd (dM CF r x3 [x28] h3) fun v4 h4 =>
 bnd (aO [(.s []), (.s []), (.s [])] 3 [(0, 1, v3), (1, 1, (.s [32])), (2, 1, v4)] h4) fun v5 h5 =>
 bnd (r 19 [v5] h5) fun v6 h6 =>
 bnd (aO [(.s [])] 1 [(0, 1, v6)] h6) fun v7 h7 =>
 bnd (bH 1 16 x5 v7 h7) fun v8 h8 =>
 bnd (aQ .add x28 (aJ 1) h8) fun v9 h9 =>
      kk14 x1 x3 v8 x26 x27 v9 h9) (
      eA r n x1 x5 h1)
def jF (r : RT) (n : Nat) (m : Nat) : TT6 :=
 Nat.rec (motive := fun _ => TT6) (fun _ _ _ _ _ _ _ => none) (fun _ ih => mR r n ih) m
def aGy (r : RT) (n : Nat) : TT6 := jF r n n
def aAg (r : RT) (n : Nat) (x1 x3 x5 x26 x27 x28 : DV) (h0 : Hp) : aG :=
 aGy r n x1 x3 x5 x26 x27 x28 h0
def zV (r : RT) (n : Nat) (x1 x3 x5 : DV) (h0 : Hp) : aG :=
 bnd (aA 1 x1 h0) fun v1 h1 =>
 bnd (aB v1 h1) fun v2 h2 =>
 bnd (r 33 [v2] h2) fun v3 h3 =>
 bnd (fS v3 h3) fun v4 h4 =>
  aAg r n x1 x3 x5 v3 v4 (aJ 0) h4
def aGm (r : RT) (n : Nat) (x1 x3 : DV) (h0 : Hp) : aG :=
 zV r n x1 x3 .l0 h0
def aDk (r : RT) (n : Nat) (x1 x3 x4 x22 : DV) (h0 : Hp) : aG :=
 cB x22 (
  aGm r n x1 x3 h0) (
  bE r n x1 x4 h0)
def aWa (r : RT) (n : Nat) (x1 x3 x4 x13 : DV) (h0 : Hp) : aG :=
 bnd (aQ .eql x13 (aJ 3) h0) fun v1 h1 =>
  aDk r n x1 x3 x4 v1 h1
def aCd (r : RT) (n : Nat) (x1 x3 x4 x13 x14 : DV) (h0 : Hp) : aG :=
 cB x14 (
 bnd (aA 1 x1 (gT 1 h0)) fun v1 h1 =>
 bnd (aB v1 h1) fun v2 h2 =>
 bnd (dM CF r x3 [(aJ 0)] h2) fun v3 h3 =>
 cnd (bX (aB v1 h3) v2 && true) (
 bnd (aY (dA 0 h0.next) [(.s []), (.s []), (.s [])] 3 [(0, 1, v2), (1, 1, (.s [32])), (2, 1, v3)] h3) fun v4 h4 =>
 bnd (r 19 [v4] h4) fun v5 h5 =>
  bE r n x1 v5 h5)) (
  aWa r n x1 x3 x4 x13 h0)
def aJh (r : RT) (n : Nat) (x1 x3 x4 x13 : DV) (h0 : Hp) : aG :=
 bnd (aQ .eql x13 (aJ 2) h0) fun v1 h1 =>
  aCd r n x1 x3 x4 x13 v1 h1
def aIv (r : RT) (n : Nat) (x1 x3 x4 : DV) (h0 : Hp) : aG :=
 bnd (aA 1 x1 h0) fun v1 h1 =>
 bnd (aB v1 h1) fun v2 h2 =>
 bnd (r 32 [v2] h2) fun v3 h3 =>
  aJh r n x1 x3 x4 v3 h3
def aMz (r : RT) (n : Nat) (x1 x3 : DV) (h0 : Hp) : aG :=
 bnd (aA 1 x1 h0) fun v1 h1 =>
 bnd (aB v1 h1) fun v2 h2 =>
  aIv r n x1 x3 v2 h2
def aIw (r : RT) (n : Nat) (x1 : DV) (h0 : Hp) : aG :=
 aMz r n x1 (.f 31 [] [x1]) h0
def s20 (r : RT) (n : Nat) (x0 : DV) (h0 : Hp) : aG :=
 bnd (iB x0 h0) fun v1 h1 =>
  aIw r n v1 h1
abbrev c20 : Code := cf Tryz.f20
abbrev aLh := cR c20
abbrev aKn := cR aLh
abbrev aHs := cR aKn
abbrev bVm := cR aHs
abbrev aCu := cL aHs
abbrev aRy := cR aCu
abbrev aKv := cL aRy
abbrev tN := cR aKv
abbrev uR := cR tN
abbrev sN := cR uR
abbrev uU := cL sN
abbrev yV := cR uU
abbrev bOx := cR yV
abbrev sW := cL yV
abbrev aFk := cR sW
abbrev zX := cL aFk
abbrev oF := cL zX
abbrev aPw := cL sW
abbrev aPo := cL uU
abbrev bOv := cR sN
abbrev aSy := cL uR
abbrev bQv := cL tN
abbrev aTj := cL aKv
abbrev aSu := cL aCu
abbrev aPm := cL aKn
abbrev aZg := cL aLh
abbrev aQg := cL c20
abbrev r20 : K := bT CF Tryz.f20
def D20 (r : RT) (n : Nat) (c : Code) (X : Nat → K) (k : K) : K := aU CF r 57 n c X r20 k
theorem bOr : D20 r n bVm x0 r20 = (K2 (bE r n) 1 4) := by kernel_rfl
theorem bAt : D20 r n bOx (xs x0 0 (K2 (bE r n) 1 4)) (K2 (bE r n) 1 4) = (K2 (eA r n) 1 5) := by kernel_rfl
theorem aSb (kk14 : TT6) : D20 r n oF (xs (xs x0 0 (K2 (bE r n) 1 4)) 1 (K2 (eA r n) 1 5)) (K6 kk14 1 3 5 26 27 28) = (K6 (mR r n kk14) 1 3 5 26 27 28) := by kernel_rfl
theorem aQf (m : Nat) : aN (fun kk => D20 r n oF (xs (xs x0 0 (K2 (bE r n) 1 4)) 1 (K2 (eA r n) 1 5)) kk) m = (K6 (jF r n m) 1 3 5 26 27 28) := by
 induction m with
 | zero => exact (by kernel_rfl : aN (fun kk => D20 r n oF (xs (xs x0 0 (K2 (bE r n) 1 4)) 1 (K2 (eA r n) 1 5)) kk) 0 = (K6 (jF r n 0) 1 3 5 26 27 28))
 | succ m ih =>
  refine (by kernel_rfl : aN (fun kk => D20 r n oF (xs (xs x0 0 (K2 (bE r n) 1 4)) 1 (K2 (eA r n) 1 5)) kk) (m + 1) = D20 r n oF (xs (xs x0 0 (K2 (bE r n) 1 4)) 1 (K2 (eA r n) 1 5)) (aN (fun kk => D20 r n oF (xs (xs x0 0 (K2 (bE r n) 1 4)) 1 (K2 (eA r n) 1 5)) kk) m)).trans ?_
  rw [ih]
  exact (aSb r n (jF r n m)).trans (by kernel_rfl)
theorem bFg : D20 r n zX (xs (xs x0 0 (K2 (bE r n) 1 4)) 1 (K2 (eA r n) 1 5)) (K2 (eA r n) 1 5) = (K6 (aGy r n) 1 3 5 26 27 28) :=
 (by kernel_rfl : D20 r n zX (xs (xs x0 0 (K2 (bE r n) 1 4)) 1 (K2 (eA r n) 1 5)) (K2 (eA r n) 1 5) = aN (fun kk => D20 r n oF (xs (xs x0 0 (K2 (bE r n) 1 4)) 1 (K2 (eA r n) 1 5)) kk) n).trans ((aQf r n n).trans (by kernel_rfl))
theorem bAq : D20 r n aFk (xs x0 0 (K2 (bE r n) 1 4)) (K2 (eA r n) 1 5) = (K6 (aAg r n) 1 3 5 26 27 28) :=
 (by kernel_rfl : D20 r n aFk (xs x0 0 (K2 (bE r n) 1 4)) (K2 (eA r n) 1 5) = D20 r n zX (xs (xs x0 0 (K2 (bE r n) 1 4)) 1 (K2 (eA r n) 1 5)) (K2 (eA r n) 1 5)).trans
 ((bFg r n).trans (by kernel_rfl))
theorem aRc : D20 r n yV (xs x0 0 (K2 (bE r n) 1 4)) (K2 (bE r n) 1 4) = D20 r n sW (xs x0 0 (K2 (bE r n) 1 4)) (K2 (eA r n) 1 5) :=
 congrArg (fun k => D20 r n sW (xs x0 0 (K2 (bE r n) 1 4)) k) (bAt r n)
theorem aRz : D20 r n sW (xs x0 0 (K2 (bE r n) 1 4)) (K2 (eA r n) 1 5) = D20 r n aPw (xs x0 0 (K2 (bE r n) 1 4)) (K6 (aAg r n) 1 3 5 26 27 28) :=
 congrArg (fun k => D20 r n aPw (xs x0 0 (K2 (bE r n) 1 4)) k) (bAq r n)
theorem bFu : D20 r n yV (xs x0 0 (K2 (bE r n) 1 4)) (K2 (bE r n) 1 4) = (K3 (zV r n) 1 3 5) :=
 (aRc r n).trans
 ((aRz r n).trans
 ((by kernel_rfl)))
theorem aYw : D20 r n uU (xs x0 0 (K2 (bE r n) 1 4)) (K2 (bE r n) 1 4) = D20 r n aPo (xs x0 0 (K2 (bE r n) 1 4)) (K3 (zV r n) 1 3 5) :=
 congrArg (fun k => D20 r n aPo (xs x0 0 (K2 (bE r n) 1 4)) k) (bFu r n)
theorem bEd : D20 r n uU (xs x0 0 (K2 (bE r n) 1 4)) (K2 (bE r n) 1 4) = (K2 (aGm r n) 1 3) :=
 (aYw r n).trans
 ((by kernel_rfl))
theorem bKm : D20 r n sN (xs x0 0 (K2 (bE r n) 1 4)) (K2 (bE r n) 1 4) = (K4 (aDk r n) 1 3 4 22) :=
 (by kernel_rfl : D20 r n sN (xs x0 0 (K2 (bE r n) 1 4)) (K2 (bE r n) 1 4) = (fun (env : fQ) (h : Hp) => cB (opr env (cC sN)) (D20 r n uU (xs x0 0 (K2 (bE r n) 1 4)) (K2 (bE r n) 1 4) env h) (D20 r n bOv (xs x0 0 (K2 (bE r n) 1 4)) (K2 (bE r n) 1 4) env h))).trans (by rw [bEd r n]; kernel_rfl)
theorem bEo : D20 r n uR (xs x0 0 (K2 (bE r n) 1 4)) (K2 (bE r n) 1 4) = D20 r n aSy (xs x0 0 (K2 (bE r n) 1 4)) (K4 (aDk r n) 1 3 4 22) :=
 congrArg (fun k => D20 r n aSy (xs x0 0 (K2 (bE r n) 1 4)) k) (bKm r n)
theorem bRd : D20 r n uR (xs x0 0 (K2 (bE r n) 1 4)) (K2 (bE r n) 1 4) = (K4 (aWa r n) 1 3 4 13) :=
 (bEo r n).trans
 ((by kernel_rfl))
theorem bKe : D20 r n tN (xs x0 0 (K2 (bE r n) 1 4)) (K2 (bE r n) 1 4) = (K5 (aCd r n) 1 3 4 13 14) :=
 (by kernel_rfl : D20 r n tN (xs x0 0 (K2 (bE r n) 1 4)) (K2 (bE r n) 1 4) = (fun (env : fQ) (h : Hp) => cB (opr env (cC tN)) (D20 r n bQv (xs x0 0 (K2 (bE r n) 1 4)) (K2 (bE r n) 1 4) env h) (D20 r n uR (xs x0 0 (K2 (bE r n) 1 4)) (K2 (bE r n) 1 4) env h))).trans (by rw [bRd r n]; kernel_rfl)
theorem bBe : D20 r n aKv (xs x0 0 (K2 (bE r n) 1 4)) (K2 (bE r n) 1 4) = D20 r n aTj (xs x0 0 (K2 (bE r n) 1 4)) (K5 (aCd r n) 1 3 4 13 14) :=
 congrArg (fun k => D20 r n aTj (xs x0 0 (K2 (bE r n) 1 4)) k) (bKe r n)
theorem bOb : D20 r n aRy x0 (K2 (bE r n) 1 4) = (K4 (aJh r n) 1 3 4 13) :=
 (by kernel_rfl : D20 r n aRy x0 (K2 (bE r n) 1 4) = D20 r n aKv (xs x0 0 (K2 (bE r n) 1 4)) (K2 (bE r n) 1 4)).trans
 ((bBe r n).trans
 ((by kernel_rfl)))
theorem bGt : D20 r n aHs x0 r20 = D20 r n aCu x0 (K2 (bE r n) 1 4) :=
 congrArg (fun k => D20 r n aCu x0 k) (bOr r n)
theorem aRp : D20 r n aCu x0 (K2 (bE r n) 1 4) = D20 r n aSu x0 (K4 (aJh r n) 1 3 4 13) :=
 congrArg (fun k => D20 r n aSu x0 k) (bOb r n)
theorem bQk : D20 r n aHs x0 r20 = (K3 (aIv r n) 1 3 4) :=
 (bGt r n).trans
 ((aRp r n).trans
 ((by kernel_rfl)))
theorem aSc : D20 r n aKn x0 r20 = D20 r n aPm x0 (K3 (aIv r n) 1 3 4) :=
 congrArg (fun k => D20 r n aPm x0 k) (bQk r n)
theorem bMf : D20 r n aKn x0 r20 = (K2 (aMz r n) 1 3) :=
 (aSc r n).trans
 ((by kernel_rfl))
theorem aWo : D20 r n aLh x0 r20 = D20 r n aZg x0 (K2 (aMz r n) 1 3) :=
 congrArg (fun k => D20 r n aZg x0 k) (bMf r n)
theorem bLg : D20 r n aLh x0 r20 = (K1 (aIw r n) 1) :=
 (aWo r n).trans
 ((by kernel_rfl))
theorem bMa : D20 r n c20 x0 r20 = D20 r n aQg x0 (K1 (aIw r n) 1) :=
 congrArg (fun k => D20 r n aQg x0 k) (bLg r n)
theorem bWo : D20 r n c20 x0 r20 = (K1 (s20 r n) 0) :=
 (bMa r n).trans
 ((by kernel_rfl))
theorem bRo : aM CF r n 20 args h = s20 r n (aZ args 0) h :=
 fK (bWo r n) args h (by kernel_rfl) (by kernel_rfl)
def aHr (r : RT) (n : Nat) (x1 x3 : DV) (h0 : Hp) : aG :=
 bnd (aA 5 x1 h0) fun v1 h1 =>
 bnd (aB v1 h1) fun v2 h2 =>
 bnd (r 35 [v2, (.s [46, 32]), (.f 36 [] [])] h2) fun v3 h3 =>
 bnd (aO [(.s []), (.s [])] 2 [(0, 1, x3), (1, 1, v3)] h3) fun v4 h4 =>
 bnd (r 19 [v4] h4) fun v5 h5 =>
 some (v5, h5)
def bIi (r : RT) (n : Nat) (x1 x3 : DV) (h0 : Hp) : aG :=
 bnd (aA 4 x1 h0) fun v1 h1 =>
 bnd (aB v1 h1) fun v2 h2 =>
 bnd (fS v2 h2) fun v3 h3 =>
 bnd (aQ .gtr v3 (aJ 0) h3) fun v4 h4 =>
 cB v4 (
 bnd (aA 4 x1 h4) fun v5 h5 =>
 bnd (aB v5 h5) fun v6 h6 =>
 bnd (kK [v6, (.s [32])] h6) fun v7 h7 =>
 bnd (aO [(.s []), (.s []), (.s [])] 3 [(0, 1, (.s [124, 32])), (1, 1, v7), (2, 1, (.s [32, 124, 32]))] h7) fun v8 h8 =>
 bnd (r 19 [v8] h8) fun v9 h9 =>
  aHr r n x1 v9 h9) (
  aHr r n x1 x3 h4)
def bIy (r : RT) (n : Nat) (x1 : DV) (h0 : Hp) : aG :=
 bIi r n x1 (.s []) h0
def s21 (r : RT) (n : Nat) (x0 : DV) (h0 : Hp) : aG :=
 bnd (iB x0 h0) fun v1 h1 =>
  bIy r n v1 h1
abbrev c21 : Code := cf Tryz.f21
abbrev r21 : K := bT CF Tryz.f21
def D21 (r : RT) (n : Nat) (c : Code) (X : Nat → K) (k : K) : K := aU CF r 19 n c X r21 k
theorem bYn : D21 r n c21 x0 r21 = (K1 (s21 r n) 0) := by kernel_rfl
theorem bTc : aM CF r n 21 args h = s21 r n (aZ args 0) h :=
 fK (bYn r n) args h (by kernel_rfl) (by kernel_rfl)
def s22 (r : RT) (n : Nat) (x0 x1 x2 x3 : DV) (h0 : Hp) : aG :=
 bnd (iB x1 h0) fun v1 h1 =>
 bnd (iB x2 h1) fun v2 h2 =>
 bnd (aQ .neq x3 (aJ 0) h2) fun v3 h3 =>
 bnd (gD v3 false (aD 6 v1 h3) h3) fun v4 h4 =>
 bnd (gD v3 false (aD 6 v2 h4) h4) fun v5 h5 =>
 bnd (gD v3 false (r 37 [v4, v5] h5) h5) fun v6 h6 =>
 bnd (gD v3 false (pJ .not v6 h6) h6) fun v7 h7 =>
 bnd (cA v3 (.b true) v7 h7) fun v8 h8 =>
 cB v8 (
 some (.t [(.s []), (aJ 1)], h8)) (
 some (.t [x0, (aJ 0)], h8))
abbrev c22 : Code := cf Tryz.f22
abbrev r22 : K := bT CF Tryz.f22
def D22 (r : RT) (n : Nat) (c : Code) (X : Nat → K) (k : K) : K := aU CF r 19 n c X r22 k
theorem bYx : D22 r n c22 x0 r22 = (K4 (s22 r n) 0 1 2 3) :=
 (by kernel_rfl)
theorem bRx : aM CF r n 22 args h = s22 r n (aZ args 0) (aZ args 1) (aZ args 2) (aZ args 3) h :=
 fK (bYx r n) args h (by kernel_rfl) (by kernel_rfl)
end
end Go.Dd

namespace Go.Dd
open Go.Proofs
noncomputable section
variable (r : RT) (n : Nat) (args : List DV) (h : Hp)
def s26 (r : RT) (n : Nat) (x0 x1 : DV) (h0 : Hp) : aG :=
 bnd (cJ fM h0) fun v1 h1 =>
 bnd (r 48 [x0] h1) fun v2 h2 =>
 bnd (aH 0 v2 h2) fun v3 h3 =>
 bnd (aH 1 v2 h3) fun v4 h4 =>
 bnd (aH 2 v2 h4) fun v5 h5 =>
 bnd (aQ .neq v5 (aJ 0) h5) fun v6 h6 =>
 cB v6 (
 bnd (cS fM [] h6) fun v7 h7 =>
 bnd (aC 6 v1 v7 h7) fun _ h8 =>
 bnd (aD 6 v1 h8) fun v9 _ =>
 some (.t [v9, v4, v5], h8)) (
 bnd (cS [.l0, (aJ 0), (aJ 0), (aJ 0)] [(0, 1, v3)] h6) fun v10 h10 =>
 bnd (iB v10 h10) fun v11 h11 =>
 bnd (dM CF r x1 [v11] h11) fun v12 h12 =>
 bnd (cJ fM h12) fun v13 h13 =>
 bnd (aC 6 v13 v12 h13) fun _ h14 =>
 bnd (r 49 [v11] h14) fun v15 h15 =>
 bnd (aA 4 v13 h15) fun v16 h16 =>
 bnd (aC 1 v16 v15 h16) fun _ h17 =>
 bnd (r 50 [v11] h17) fun v18 h18 =>
 bnd (aA 5 v13 h18) fun v19 h19 =>
 bnd (aC 1 v19 v18 h19) fun _ h20 =>
 bnd (r 51 [v11, (aJ 0), (.s [])] h20) fun v21 h21 =>
 bnd (bM v11 h21) fun v22 h22 =>
 bnd (aA 3 v22 h22) fun v23 h23 =>
 bnd (aB v23 h23) fun v24 h24 =>
 bnd (aQ .neq v24 (aJ 0) h24) fun v25 h25 =>
 cB v25 (
 bnd (cS fM [] h25) fun v26 h26 =>
 bnd (bM v11 h26) fun v27 h27 =>
 bnd (aA 2 v27 h27) fun v28 h28 =>
 bnd (aB v28 h28) fun v29 h29 =>
 bnd (bM v11 h29) fun v30 h30 =>
 bnd (aA 3 v30 h30) fun v31 h31 =>
 bnd (aB v31 h31) fun v32 h32 =>
 bnd (aC 6 v1 v26 h32) fun v33 h33 =>
 cnd (bX (aB v31 h33) v32 && (bX (aB v28 h33) v29 && true)) (
 bnd (aD 6 v1 h33) fun v34 _ =>
 some (.t [v34, v29, v32], h33))) (
 bnd (aD 6 v13 h25) fun v35 h35 =>
 bnd (aC 6 v1 v35 h35) fun _ h36 =>
 bnd (aD 6 v1 h36) fun v37 _ =>
 some (.t [v37, (aJ 0), (aJ 0)], h36)))
abbrev c26 : Code := cf Tryz.f26
abbrev r26 : K := bT CF Tryz.f26
def D26 (r : RT) (n : Nat) (c : Code) (X : Nat → K) (k : K) : K := aU CF r 52 n c X r26 k
theorem bWw : D26 r n c26 x0 r26 = (K2 (s26 r n) 0 1) :=
 (by kernel_rfl)
theorem bUc : aM CF r n 26 args h = s26 r n (aZ args 0) (aZ args 1) h :=
 fK (bWw r n) args h (by kernel_rfl) (by kernel_rfl)
def s27 (r : RT) (n : Nat) (x0 : DV) (h0 : Hp) : aG :=
 bnd (cJ fM h0) fun v1 h1 =>
 bnd (cS fM [(0, 1, (aJ 11)), (1, 1, (.s [100, 111, 73, 116]))] h1) fun v2 h2 =>
 bnd (aC 6 v1 v2 h2) fun _ h3 =>
 bnd (aD 6 v1 h3) fun v4 _ =>
 some (v4, h3)
abbrev c27 : Code := cf Tryz.f27
abbrev r27 : K := bT CF Tryz.f27
def D27 (r : RT) (n : Nat) (c : Code) (X : Nat → K) (k : K) : K := aU CF r 4 n c X r27 k
theorem bXf : D27 r n c27 x0 r27 = (K1 (s27 r n) 0) :=
 (by kernel_rfl)
theorem bUq : aM CF r n 27 args h = s27 r n (aZ args 0) h :=
 fK (bXf r n) args h (by kernel_rfl) (by kernel_rfl)
def gQ (r : RT) (n : Nat) (h0 : Hp) : aG :=
 some ((.b true), h0)
def qK (r : RT) (n : Nat) (kk5 : iK) (x0 x1 x5 : DV) (h0 : Hp) : aG :=
 bnd (fS x0 h0) fun v1 h1 =>
 bnd (aQ .lss x5 v1 h1) fun v2 h2 =>
 cB v2 (
 bnd (aT 1 x0 x5 h2) fun v3 h3 =>
 bnd (aB v3 h3) fun v4 h4 =>
 bnd (aT 1 x1 x5 h4) fun v5 h5 =>
 bnd (aB v5 h5) fun v6 h6 =>
 bnd (gU .neq v4 v6 h6) fun v7 h7 =>
 cB v7 (
 some ((.b false), h7)) (
 bnd (aQ .add x5 (aJ 1) h7) fun v8 h8 =>
  kk5 x0 x1 v8 h8)) (
      gQ r n h2)
def kV (r : RT) (n : Nat) (m : Nat) : iK :=
 Nat.rec (motive := fun _ => iK) (fun _ _ _ _ => none) (fun _ ih => qK r n ih) m
def bIo (r : RT) (n : Nat) : iK := kV r n n
def aIo (r : RT) (n : Nat) (x0 x1 x5 : DV) (h0 : Hp) : aG :=
 bIo r n x0 x1 x5 h0
def aId (r : RT) (n : Nat) (x0 x1 : DV) (h0 : Hp) : aG :=
 aIo r n x0 x1 (aJ 0) h0
def aNa (r : RT) (n : Nat) (x0 x1 : DV) (h0 : Hp) : aG :=
 bnd (fS x0 h0) fun v1 h1 =>
 bnd (fS x1 h1) fun v2 h2 =>
 bnd (aQ .neq v1 v2 h2) fun v3 h3 =>
 cB v3 (
 some ((.b false), h3)) (
  aId r n x0 x1 h3)
def s28 (r : RT) (n : Nat) (x0 x1 : DV) (h0 : Hp) : aG :=
 aNa r n x0 x1 h0
abbrev c28 : Code := cf Tryz.f28
abbrev aJw := cR c28
abbrev aJc := cR aJw
abbrev bVt := cR aJc
abbrev aBs := cL aJc
abbrev aUf := cR aBs
abbrev aNb := cL aUf
abbrev vM := cL aNb
abbrev bIn := cL aBs
abbrev bJk := cL aJw
abbrev aQp := cL c28
abbrev r28 : K := bT CF Tryz.f28
def D28 (r : RT) (n : Nat) (c : Code) (X : Nat → K) (k : K) : K := aU CF r 26 n c X r28 k
theorem bNa : D28 r n bVt x0 r28 = (K0 (gQ r n)) := by kernel_rfl
theorem bCx (kk5 : iK) : D28 r n vM (xs x0 0 (K0 (gQ r n))) (K3 kk5 0 1 5) = (K3 (qK r n kk5) 0 1 5) := by kernel_rfl
theorem bHr (m : Nat) : aN (fun kk => D28 r n vM (xs x0 0 (K0 (gQ r n))) kk) m = (K3 (kV r n m) 0 1 5) := by
 induction m with
 | zero => exact (by kernel_rfl : aN (fun kk => D28 r n vM (xs x0 0 (K0 (gQ r n))) kk) 0 = (K3 (kV r n 0) 0 1 5))
 | succ m ih =>
  refine (by kernel_rfl : aN (fun kk => D28 r n vM (xs x0 0 (K0 (gQ r n))) kk) (m + 1) = D28 r n vM (xs x0 0 (K0 (gQ r n))) (aN (fun kk => D28 r n vM (xs x0 0 (K0 (gQ r n))) kk) m)).trans ?_
  rw [ih]
  exact (bCx r n (kV r n m)).trans (by kernel_rfl)
theorem bNf : D28 r n aNb (xs x0 0 (K0 (gQ r n))) (K0 (gQ r n)) = (K3 (bIo r n) 0 1 5) :=
 (by kernel_rfl : D28 r n aNb (xs x0 0 (K0 (gQ r n))) (K0 (gQ r n)) = aN (fun kk => D28 r n vM (xs x0 0 (K0 (gQ r n))) kk) n).trans ((bHr r n n).trans (by kernel_rfl))
theorem bOs : D28 r n aUf x0 (K0 (gQ r n)) = (K3 (aIo r n) 0 1 5) :=
 (by kernel_rfl : D28 r n aUf x0 (K0 (gQ r n)) = D28 r n aNb (xs x0 0 (K0 (gQ r n))) (K0 (gQ r n))).trans
 ((bNf r n).trans (by kernel_rfl))
theorem bGo : D28 r n aJc x0 r28 = D28 r n aBs x0 (K0 (gQ r n)) :=
 congrArg (fun k => D28 r n aBs x0 k) (bNa r n)
theorem bDu : D28 r n aBs x0 (K0 (gQ r n)) = D28 r n bIn x0 (K3 (aIo r n) 0 1 5) :=
 congrArg (fun k => D28 r n bIn x0 k) (bOs r n)
theorem bPx : D28 r n aJc x0 r28 = (K2 (aId r n) 0 1) :=
 (bGo r n).trans
 ((bDu r n).trans
 ((by kernel_rfl)))
theorem bFw : D28 r n aJw x0 r28 = D28 r n bJk x0 (K2 (aId r n) 0 1) :=
 congrArg (fun k => D28 r n bJk x0 k) (bPx r n)
theorem bRf : D28 r n aJw x0 r28 = (K2 (aNa r n) 0 1) :=
 (bFw r n).trans
 ((by kernel_rfl))
theorem bTv : D28 r n c28 x0 r28 = D28 r n aQp x0 (K2 (aNa r n) 0 1) :=
 congrArg (fun k => D28 r n aQp x0 k) (bRf r n)
theorem bXm : D28 r n c28 x0 r28 = (K2 (s28 r n) 0 1) :=
 (bTv r n).trans
 ((by kernel_rfl))
theorem bUr : aM CF r n 28 args h = s28 r n (aZ args 0) (aZ args 1) h :=
 fK (bXm r n) args h (by kernel_rfl) (by kernel_rfl)
def s29 (r : RT) (n : Nat) (x0 : DV) (h0 : Hp) : aG :=
 bnd (cJ fM h0) fun v1 h1 =>
 bnd (cS fM [(0, 1, (aJ 11))] h1) fun v2 h2 =>
 bnd (cJ fM h2) fun v3 h3 =>
 bnd (aC 6 v3 v2 h3) fun _ h4 =>
 bnd (r 52 [x0, v3] h4) fun v5 h5 =>
 bnd (r 53 [x0] h5) fun v6 h6 =>
 bnd (aA 2 v3 h6) fun v7 h7 =>
 bnd (aC 1 v7 v6 h7) fun _ h8 =>
 bnd (aD 6 v3 h8) fun v9 h9 =>
 bnd (aC 6 v1 v9 h9) fun _ h10 =>
 bnd (aD 6 v1 h10) fun v11 _ =>
 some (v11, h10)
abbrev c29 : Code := cf Tryz.f29
abbrev r29 : K := bT CF Tryz.f29
def D29 (r : RT) (n : Nat) (c : Code) (X : Nat → K) (k : K) : K := aU CF r 11 n c X r29 k
theorem bYi : D29 r n c29 x0 r29 = (K1 (s29 r n) 0) :=
 (by kernel_rfl)
theorem bSz : aM CF r n 29 args h = s29 r n (aZ args 0) h :=
 fK (bYi r n) args h (by kernel_rfl) (by kernel_rfl)
def s31 (r : RT) (n : Nat) (x0 x1 : DV) (h0 : Hp) : aG :=
 bnd (aA 3 x1 h0) fun v1 h1 =>
 bnd (aB v1 h1) fun v2 h2 =>
 bnd (fS v2 h2) fun v3 h3 =>
 bnd (aQ .geq x0 v3 h3) fun v4 h4 =>
 cB v4 (
 some ((.s []), h4)) (
 bnd (aA 3 x1 h4) fun v5 h5 =>
 bnd (aB v5 h5) fun v6 h6 =>
 bnd (aT 1 v6 x0 h6) fun v7 h7 =>
 bnd (aB v7 h7) fun v8 h8 =>
 some (v8, h8))
abbrev c31 : Code := cf Tryz.f31
abbrev r31 : K := bT CF Tryz.f31
def D31 (r : RT) (n : Nat) (c : Code) (X : Nat → K) (k : K) : K := aU CF r 14 n c X r31 k
theorem bYp : D31 r n c31 x0 r31 = (K2 (s31 r n) 0 1) :=
 (by kernel_rfl)
theorem bRt : aM CF r n 31 args h = s31 r n (aZ args 0) (aZ args 1) h :=
 fK (bYp r n) args h (by kernel_rfl) (by kernel_rfl)
def s32 (r : RT) (n : Nat) (x0 : DV) (h0 : Hp) : aG :=
 bnd (r 57 [x0, (.i .u8 (Int.ofNat 58))] h0) fun v1 h1 =>
 bnd (aQ .geq v1 (aJ 0) h1) fun v2 h2 =>
 cB v2 (
 some ((aJ 3), h2)) (
 bnd (gU .neq x0 (.s []) h2) fun v3 h3 =>
 bnd (gD v3 true (some (x0, h3)) h3) fun v4 h4 =>
 bnd (gD v3 true (eP v4 (aJ 0) h4) h4) fun v5 h5 =>
 bnd (gD v3 true (aQ .geq v5 (.i .u8 (Int.ofNat 97)) h5) h5) fun v6 h6 =>
 bnd (gD v3 true (some (v6, h6)) h6) fun v7 h7 =>
 bnd (gD v7 true (some (x0, h7)) h7) fun v8 h8 =>
 bnd (gD v7 true (eP v8 (aJ 0) h8) h8) fun v9 h9 =>
 bnd (gD v7 true (aQ .leq v9 (.i .u8 (Int.ofNat 122)) h9) h9) fun v10 h10 =>
 bnd (gD v3 true (cA v7 v10 (.b false) h10) h10) fun v11 h11 =>
 bnd (gD v3 true (some (v11, h11)) h11) fun v12 h12 =>
 bnd (gD v12 false (some (x0, h12)) h12) fun v13 h13 =>
 bnd (gD v12 false (eP v13 (aJ 0) h13) h13) fun v14 h14 =>
 bnd (gD v12 false (aQ .geq v14 (.i .u8 (Int.ofNat 65)) h14) h14) fun v15 h15 =>
 bnd (gD v12 false (some (v15, h15)) h15) fun v16 h16 =>
 bnd (gD v16 true (some (x0, h16)) h16) fun v17 h17 =>
 bnd (gD v16 true (eP v17 (aJ 0) h17) h17) fun v18 h18 =>
 bnd (gD v16 true (aQ .leq v18 (.i .u8 (Int.ofNat 90)) h18) h18) fun v19 h19 =>
 bnd (gD v12 false (cA v16 v19 (.b false) h19) h19) fun v20 h20 =>
 bnd (gD v3 true (cA v12 (.b true) v20 h20) h20) fun v21 h21 =>
 bnd (cA v3 v21 (.b false) h21) fun v22 h22 =>
 cB v22 (
 some ((aJ 1), h22)) (
 some ((aJ 2), h22)))
abbrev c32 : Code := cf Tryz.f32
abbrev r32 : K := bT CF Tryz.f32
def D32 (r : RT) (n : Nat) (c : Code) (X : Nat → K) (k : K) : K := aU CF r 30 n c X r32 k
theorem bXn : D32 r n c32 x0 r32 = (K1 (s32 r n) 0) :=
 (by kernel_rfl)
theorem bUy : aM CF r n 32 args h = s32 r n (aZ args 0) h :=
 fK (bXn r n) args h (by kernel_rfl) (by kernel_rfl)
def s33 (r : RT) (n : Nat) (x0 : DV) (h0 : Hp) : aG :=
 bnd (r 58 [x0, (.s [58])] h0) fun v1 h1 =>
 bnd (fS v1 h1) fun v2 h2 =>
 bnd (aQ .sub v2 (aJ 1) h2) fun v3 h3 =>
 bnd (dB 1 v1 none (some v3) h3) fun v4 h4 =>
 some (v4, h4)
abbrev c33 : Code := cf Tryz.f33
abbrev r33 : K := bT CF Tryz.f33
def D33 (r : RT) (n : Nat) (c : Code) (X : Nat → K) (k : K) : K := aU CF r 11 n c X r33 k
theorem bYd : D33 r n c33 x0 r33 = (K1 (s33 r n) 0) :=
 (by kernel_rfl)
theorem bSv : aM CF r n 33 args h = s33 r n (aZ args 0) h :=
 fK (bYd r n) args h (by kernel_rfl) (by kernel_rfl)
def gR (r : RT) (n : Nat) (x1 x7 : DV) (h0 : Hp) : aG :=
 bnd (kK [x7, x1] h0) fun v1 h1 =>
 some (v1, h1)
def pQ (r : RT) (n : Nat) (kk5 : TT6) (x1 x2 x7 x10 x11 x12 : DV) (h0 : Hp) : aG :=
 bnd (aQ .lss x12 x11 h0) fun v1 h1 =>
 cB v1 (
 bnd (aT 6 x10 x12 h1) fun v2 h2 =>
 bnd (aD 6 v2 h2) fun v3 h3 =>
 bnd (cJ fM h3) fun v4 h4 =>
 bnd (aC 6 v4 v3 h4) fun _ h5 =>
 bnd (aD 6 v4 h5) fun v6 h6 =>
 bnd (dM CF r x2 [v6] h6) fun v7 h7 =>
 bnd (aO [(.s [])] 1 [(0, 1, v7)] h7) fun v8 h8 =>
 bnd (bH 1 16 x7 v8 h8) fun v9 h9 =>
 bnd (aQ .add x12 (aJ 1) h9) fun v10 h10 =>
      kk5 x1 x2 v9 x10 x11 v10 h10) (
      gR r n x1 x7 h1)
def lC (r : RT) (n : Nat) (m : Nat) : TT6 :=
 Nat.rec (motive := fun _ => TT6) (fun _ _ _ _ _ _ _ => none) (fun _ ih => pQ r n ih) m
def aYt (r : RT) (n : Nat) : TT6 := lC r n n
def aJm (r : RT) (n : Nat) (x1 x2 x7 x10 x11 x12 : DV) (h0 : Hp) : aG :=
 aYt r n x1 x2 x7 x10 x11 x12 h0
def aIr (r : RT) (n : Nat) (x0 x1 x2 x7 : DV) (h0 : Hp) : aG :=
 bnd (fS x0 h0) fun v1 h1 =>
  aJm r n x1 x2 x7 x0 v1 (aJ 0) h1
def aIl (r : RT) (n : Nat) (x0 x1 x2 : DV) (h0 : Hp) : aG :=
 aIr r n x0 x1 x2 .l0 h0
def s35 (r : RT) (n : Nat) (x0 x1 x2 : DV) (h0 : Hp) : aG :=
 aIl r n x0 x1 x2 h0
abbrev c35 : Code := cf Tryz.f35
abbrev aJo := cR c35
abbrev aKy := cR aJo
abbrev bSt := cR aKy
abbrev aCh := cL aKy
abbrev aPy := cR aCh
abbrev aMu := cL aPy
abbrev sF := cL aMu
abbrev bJl := cL aCh
abbrev bIs := cL aJo
abbrev aUy := cL c35
abbrev r35 : K := bT CF Tryz.f35
def D35 (r : RT) (n : Nat) (c : Code) (X : Nat → K) (k : K) : K := aU CF r 26 n c X r35 k
theorem bPn : D35 r n bSt x0 r35 = (K2 (gR r n) 1 7) := by kernel_rfl
theorem bGl (kk5 : TT6) : D35 r n sF (xs x0 0 (K2 (gR r n) 1 7)) (K6 kk5 1 2 7 10 11 12) = (K6 (pQ r n kk5) 1 2 7 10 11 12) := by kernel_rfl
theorem bBg (m : Nat) : aN (fun kk => D35 r n sF (xs x0 0 (K2 (gR r n) 1 7)) kk) m = (K6 (lC r n m) 1 2 7 10 11 12) := by
 induction m with
 | zero => exact (by kernel_rfl : aN (fun kk => D35 r n sF (xs x0 0 (K2 (gR r n) 1 7)) kk) 0 = (K6 (lC r n 0) 1 2 7 10 11 12))
 | succ m ih =>
  refine (by kernel_rfl : aN (fun kk => D35 r n sF (xs x0 0 (K2 (gR r n) 1 7)) kk) (m + 1) = D35 r n sF (xs x0 0 (K2 (gR r n) 1 7)) (aN (fun kk => D35 r n sF (xs x0 0 (K2 (gR r n) 1 7)) kk) m)).trans ?_
  rw [ih]
  exact (bGl r n (lC r n m)).trans (by kernel_rfl)
theorem bQe : D35 r n aMu (xs x0 0 (K2 (gR r n) 1 7)) (K2 (gR r n) 1 7) = (K6 (aYt r n) 1 2 7 10 11 12) :=
 (by kernel_rfl : D35 r n aMu (xs x0 0 (K2 (gR r n) 1 7)) (K2 (gR r n) 1 7) = aN (fun kk => D35 r n sF (xs x0 0 (K2 (gR r n) 1 7)) kk) n).trans ((bBg r n n).trans (by kernel_rfl))
theorem bLp : D35 r n aPy x0 (K2 (gR r n) 1 7) = (K6 (aJm r n) 1 2 7 10 11 12) :=
 (by kernel_rfl : D35 r n aPy x0 (K2 (gR r n) 1 7) = D35 r n aMu (xs x0 0 (K2 (gR r n) 1 7)) (K2 (gR r n) 1 7)).trans
 ((bQe r n).trans (by kernel_rfl))
theorem bAi : D35 r n aKy x0 r35 = D35 r n aCh x0 (K2 (gR r n) 1 7) :=
 congrArg (fun k => D35 r n aCh x0 k) (bPn r n)
theorem bGf : D35 r n aCh x0 (K2 (gR r n) 1 7) = D35 r n bJl x0 (K6 (aJm r n) 1 2 7 10 11 12) :=
 congrArg (fun k => D35 r n bJl x0 k) (bLp r n)
theorem bQb : D35 r n aKy x0 r35 = (K4 (aIr r n) 0 1 2 7) :=
 (bAi r n).trans
 ((bGf r n).trans
 ((by kernel_rfl)))
theorem bDa : D35 r n aJo x0 r35 = D35 r n bIs x0 (K4 (aIr r n) 0 1 2 7) :=
 congrArg (fun k => D35 r n bIs x0 k) (bQb r n)
theorem bOp : D35 r n aJo x0 r35 = (K3 (aIl r n) 0 1 2) :=
 (bDa r n).trans
 ((by kernel_rfl))
theorem bTw : D35 r n c35 x0 r35 = D35 r n aUy x0 (K3 (aIl r n) 0 1 2) :=
 congrArg (fun k => D35 r n aUy x0 k) (bOp r n)
theorem bWa : D35 r n c35 x0 r35 = (K3 (s35 r n) 0 1 2) :=
 (bTw r n).trans
 ((by kernel_rfl))
theorem bVh : aM CF r n 35 args h = s35 r n (aZ args 0) (aZ args 1) (aZ args 2) h :=
 fK (bWa r n) args h (by kernel_rfl) (by kernel_rfl)
def aE (r : RT) (n : Nat) (x1 : DV) (h0 : Hp) : aG :=
 bnd (aA 1 x1 h0) fun v1 h1 =>
 bnd (aB v1 h1) fun v2 h2 =>
 some (v2, h2)
def aBg (r : RT) (n : Nat) (x1 x3 : DV) (h0 : Hp) : aG :=
 bnd (aD 6 x1 h0) fun v1 h1 =>
 bnd (r 21 [v1] h1) fun v2 h2 =>
 bnd (aO [(.s []), (.s []), (.s []), (.s [])] 4 [(0, 1, (.s [91])), (1, 1, x3), (2, 1, v2), (3, 1, (.s [93]))] h2) fun v3 h3 =>
 bnd (r 19 [v3] h3) fun v4 h4 =>
 some (v4, h4)
def eB (r : RT) (n : Nat) (x1 x3 : DV) (h0 : Hp) : aG :=
 bnd (gU .neq x3 (.s []) h0) fun v1 h1 =>
 cB v1 (
 bnd (aO [(.s []), (.s [])] 2 [(0, 1, x3), (1, 1, (.s [124, 32]))] h1) fun v2 h2 =>
 bnd (r 19 [v2] h2) fun v3 h3 =>
  aBg r n x1 v3 h3) (
  aBg r n x1 x3 h1)
def mU (r : RT) (n : Nat) (kk26 : TT5) (x1 x3 x64 x65 x66 : DV) (h0 : Hp) : aG :=
 bnd (aQ .lss x66 x65 h0) fun v1 h1 =>
 cB v1 (
 bnd (aT 1 x64 x66 h1) fun v2 h2 =>
 bnd (aB v2 h2) fun v3 h3 =>
 bnd (aO [(.s []), (.s []), (.s []), (.s [])] 4 [(0, 1, x3), (1, 1, (.s [58])), (2, 1, v3), (3, 1, (.s [32]))] h3) fun v4 h4 =>
 bnd (r 19 [v4] h4) fun v5 h5 =>
 bnd (aQ .add x66 (aJ 1) h5) fun v6 h6 =>
      kk26 x1 v5 x64 x65 v6 h6) (
      eB r n x1 x3 h1)
def jB (r : RT) (n : Nat) (m : Nat) : TT5 :=
 Nat.rec (motive := fun _ => TT5) (fun _ _ _ _ _ _ => none) (fun _ ih => mU r n ih) m
def aGz (r : RT) (n : Nat) : TT5 := jB r n n
def yU (r : RT) (n : Nat) (x1 x3 x64 x65 x66 : DV) (h0 : Hp) : aG :=
 aGz r n x1 x3 x64 x65 x66 h0
def xX (r : RT) (n : Nat) (x1 x3 : DV) (h0 : Hp) : aG :=
 bnd (aA 3 x1 h0) fun v1 h1 =>
 bnd (aB v1 h1) fun v2 h2 =>
 bnd (fS v2 h2) fun v3 h3 =>
  yU r n x1 x3 v2 v3 (aJ 0) h3
def aGd (r : RT) (n : Nat) (x1 : DV) (h0 : Hp) : aG :=
 xX r n x1 (.s []) h0
def uQ (r : RT) (n : Nat) (x1 x61 : DV) (h0 : Hp) : aG :=
 cB x61 (
  aGd r n x1 h0) (
  aE r n x1 h0)
def aGs (r : RT) (n : Nat) (x1 x7 : DV) (h0 : Hp) : aG :=
 bnd (aQ .eql x7 (aJ 9) h0) fun v1 h1 =>
  uQ r n x1 v1 h1
def vD (r : RT) (n : Nat) (x1 x7 x56 : DV) (h0 : Hp) : aG :=
 cB x56 (
 bnd (aA 5 x1 h0) fun v1 h1 =>
 bnd (aB v1 h1) fun v2 h2 =>
 bnd (r 62 [v2] h2) fun v3 h3 =>
 some (v3, h3)) (
  aGs r n x1 x7 h0)
def aHb (r : RT) (n : Nat) (x1 x7 : DV) (h0 : Hp) : aG :=
 bnd (aQ .eql x7 (aJ 8) h0) fun v1 h1 =>
  vD r n x1 x7 v1 h1
def vC (r : RT) (n : Nat) (x1 x7 x49 : DV) (h0 : Hp) : aG :=
 cB x49 (
 bnd (aA 1 x1 h0) fun v1 h1 =>
 bnd (aB v1 h1) fun v2 h2 =>
 bnd (aA 5 x1 h2) fun v3 h3 =>
 bnd (aB v3 h3) fun v4 h4 =>
 bnd (r 61 [v2, v4] h4) fun v5 h5 =>
 some (v5, h5)) (
  aHb r n x1 x7 h0)
def aFx (r : RT) (n : Nat) (x1 x7 : DV) (h0 : Hp) : aG :=
 bnd (aQ .eql x7 (aJ 7) h0) fun v1 h1 =>
  vC r n x1 x7 v1 h1
def sK (r : RT) (n : Nat) (x1 x7 x42 : DV) (h0 : Hp) : aG :=
 cB x42 (
 bnd (aA 5 x1 h0) fun v1 h1 =>
 bnd (aB v1 h1) fun v2 h2 =>
 bnd (r 35 [v2, (.s []), (.f 36 [] [])] h2) fun v3 h3 =>
 bnd (aO [(.s []), (.s [])] 2 [(0, 1, (.s [94])), (1, 1, v3)] h3) fun v4 h4 =>
 bnd (r 19 [v4] h4) fun v5 h5 =>
 some (v5, h5)) (
  aFx r n x1 x7 h0)
def aGj (r : RT) (n : Nat) (x1 x7 : DV) (h0 : Hp) : aG :=
 bnd (aQ .eql x7 (aJ 10) h0) fun v1 h1 =>
  sK r n x1 x7 v1 h1
def uJ (r : RT) (n : Nat) (x1 x7 x33 : DV) (h0 : Hp) : aG :=
 cB x33 (
 bnd (aA 1 x1 (gT 1 h0)) fun v1 h1 =>
 bnd (aB v1 h1) fun v2 h2 =>
 bnd (aA 5 x1 h2) fun v3 h3 =>
 bnd (aB v3 h3) fun v4 h4 =>
 bnd (r 35 [v4, (.s []), (.f 36 [] [])] h4) fun v5 h5 =>
 cnd (bX (aB v1 h5) v2 && true) (
 bnd (aY (dA 0 h0.next) [(.s []), (.s []), (.s [])] 3 [(0, 1, v2), (1, 1, (.s [32, 58, 61, 32])), (2, 1, v5)] h5) fun v6 h6 =>
 bnd (r 19 [v6] h6) fun v7 h7 =>
 some (v7, h7))) (
  aGj r n x1 x7 h0)
def aFj (r : RT) (n : Nat) (x1 x7 : DV) (h0 : Hp) : aG :=
 bnd (aQ .eql x7 (aJ 6) h0) fun v1 h1 =>
  uJ r n x1 x7 v1 h1
def tZ (r : RT) (n : Nat) (x1 x7 x26 : DV) (h0 : Hp) : aG :=
 cB x26 (
 bnd (aA 5 x1 h0) fun v1 h1 =>
 bnd (aB v1 h1) fun v2 h2 =>
 bnd (r 35 [v2, (.s [32]), (.f 36 [] [])] h2) fun v3 h3 =>
 bnd (aO [(.s []), (.s []), (.s [])] 3 [(0, 1, (.s [35, 40])), (1, 1, v3), (2, 1, (.s [41]))] h3) fun v4 h4 =>
 bnd (r 19 [v4] h4) fun v5 h5 =>
 some (v5, h5)) (
  aFj r n x1 x7 h0)
def aSl (r : RT) (n : Nat) (x1 x7 : DV) (h0 : Hp) : aG :=
 bnd (aQ .eql x7 (aJ 4) h0) fun v1 h1 =>
  tZ r n x1 x7 v1 h1
def aDi (r : RT) (n : Nat) (x1 x7 x20 : DV) (h0 : Hp) : aG :=
 cB x20 (
 bnd (aA 1 x1 h0) fun v1 h1 =>
 bnd (aB v1 h1) fun v2 h2 =>
 bnd (aO [(.s []), (.s [])] 2 [(0, 1, (.s [35])), (1, 1, v2)] h2) fun v3 h3 =>
 bnd (r 19 [v3] h3) fun v4 h4 =>
 some (v4, h4)) (
  aSl r n x1 x7 h0)
def aWb (r : RT) (n : Nat) (x1 x7 : DV) (h0 : Hp) : aG :=
 bnd (aQ .eql x7 (aJ 3) h0) fun v1 h1 =>
  aDi r n x1 x7 v1 h1
def aEj (r : RT) (n : Nat) (x1 x7 x13 : DV) (h0 : Hp) : aG :=
 cB x13 (
 bnd (aA 1 x1 h0) fun v1 h1 =>
 bnd (aB v1 h1) fun v2 h2 =>
 bnd (xC [v2, (.s [39]), (.s [39, 39])] h2) fun v3 h3 =>
 bnd (aO [(.s []), (.s []), (.s [])] 3 [(0, 1, (.s [39])), (1, 1, v3), (2, 1, (.s [39]))] h3) fun v4 h4 =>
 bnd (r 19 [v4] h4) fun v5 h5 =>
 some (v5, h5)) (
  aWb r n x1 x7 h0)
def aUb (r : RT) (n : Nat) (x1 x7 : DV) (h0 : Hp) : aG :=
 bnd (aQ .eql x7 (aJ 2) h0) fun v1 h1 =>
  aEj r n x1 x7 v1 h1
def aDa (r : RT) (n : Nat) (x1 x7 x8 : DV) (h0 : Hp) : aG :=
 cB x8 (
 bnd (aA 2 x1 h0) fun v1 h1 =>
 bnd (aB v1 h1) fun v2 h2 =>
 bnd (tJ [v2] h2) fun v3 h3 =>
 some (v3, h3)) (
  aUb r n x1 x7 h0)
def aLl (r : RT) (n : Nat) (x1 x7 : DV) (h0 : Hp) : aG :=
 bnd (aQ .eql x7 (aJ 1) h0) fun v1 h1 =>
  aDa r n x1 x7 v1 h1
def aHo (r : RT) (n : Nat) (x1 : DV) (h0 : Hp) : aG :=
 bnd (aA 0 x1 h0) fun v1 h1 =>
 bnd (aB v1 h1) fun v2 h2 =>
  aLl r n x1 v2 h2
def s36 (r : RT) (n : Nat) (x0 : DV) (h0 : Hp) : aG :=
 bnd (iB x0 h0) fun v1 h1 =>
  aHo r n v1 h1
abbrev c36 : Code := cf Tryz.f36
abbrev aLi := cR c36
abbrev bRy := cR aLi
abbrev aEu := cL aLi
abbrev aQy := cR aEu
abbrev aHt := cL aQy
abbrev aEq := cR aHt
abbrev aDz := cR aEq
abbrev aDr := cR aDz
abbrev aCr := cR aDr
abbrev sG := cR aCr
abbrev sP := cR sG
abbrev tO := cR sP
abbrev tG := cR tO
abbrev tQ := cR tG
abbrev uL := cR tQ
abbrev tB := cR uL
abbrev uA := cR tB
abbrev tD := cR uA
abbrev tH := cR tD
abbrev tP := cR tH
abbrev sO := cR tP
abbrev vK := cR sO
abbrev tV := cL vK
abbrev aBh := cR tV
abbrev bPy := cR aBh
abbrev sM := cL aBh
abbrev aGn := cR sM
abbrev aAv := cL aGn
abbrev nM := cL aAv
abbrev aQx := cL sM
abbrev aVg := cL tV
abbrev bLw := cR vK
abbrev aWe := cL sO
abbrev bRa := cL tP
abbrev aUi := cL tH
abbrev bPe := cL tD
abbrev aTk := cL uA
abbrev bNb := cL tB
abbrev aYz := cL uL
abbrev bLe := cL tQ
abbrev aRb := cL tG
abbrev bOf := cL tO
abbrev aXu := cL sP
abbrev bMl := cL sG
abbrev aPv := cL aCr
abbrev bNg := cL aDr
abbrev aRx := cL aDz
abbrev bPs := cL aEq
abbrev aZd := cL aHt
abbrev aPu := cL aEu
abbrev aZf := cL c36
abbrev r36 : K := bT CF Tryz.f36
def D36 (r : RT) (n : Nat) (c : Code) (X : Nat → K) (k : K) : K := aU CF r 87 n c X r36 k
theorem bNq : D36 r n bRy x0 r36 = (K1 (aE r n) 1) := by kernel_rfl
theorem bGz : D36 r n bPy (xs x0 0 (K1 (aE r n) 1)) (K1 (aE r n) 1) = (K2 (eB r n) 1 3) := by kernel_rfl
theorem aXy (kk26 : TT5) : D36 r n nM (xs (xs x0 0 (K1 (aE r n) 1)) 1 (K2 (eB r n) 1 3)) (K5 kk26 1 3 64 65 66) = (K5 (mU r n kk26) 1 3 64 65 66) := by kernel_rfl
theorem aSf (m : Nat) : aN (fun kk => D36 r n nM (xs (xs x0 0 (K1 (aE r n) 1)) 1 (K2 (eB r n) 1 3)) kk) m = (K5 (jB r n m) 1 3 64 65 66) := by
 induction m with
 | zero => exact (by kernel_rfl : aN (fun kk => D36 r n nM (xs (xs x0 0 (K1 (aE r n) 1)) 1 (K2 (eB r n) 1 3)) kk) 0 = (K5 (jB r n 0) 1 3 64 65 66))
 | succ m ih =>
  refine (by kernel_rfl : aN (fun kk => D36 r n nM (xs (xs x0 0 (K1 (aE r n) 1)) 1 (K2 (eB r n) 1 3)) kk) (m + 1) = D36 r n nM (xs (xs x0 0 (K1 (aE r n) 1)) 1 (K2 (eB r n) 1 3)) (aN (fun kk => D36 r n nM (xs (xs x0 0 (K1 (aE r n) 1)) 1 (K2 (eB r n) 1 3)) kk) m)).trans ?_
  rw [ih]
  exact (aXy r n (jB r n m)).trans (by kernel_rfl)
theorem bBq : D36 r n aAv (xs (xs x0 0 (K1 (aE r n) 1)) 1 (K2 (eB r n) 1 3)) (K2 (eB r n) 1 3) = (K5 (aGz r n) 1 3 64 65 66) :=
 (by kernel_rfl : D36 r n aAv (xs (xs x0 0 (K1 (aE r n) 1)) 1 (K2 (eB r n) 1 3)) (K2 (eB r n) 1 3) = aN (fun kk => D36 r n nM (xs (xs x0 0 (K1 (aE r n) 1)) 1 (K2 (eB r n) 1 3)) kk) n).trans ((aSf r n n).trans (by kernel_rfl))
theorem bAo : D36 r n aGn (xs x0 0 (K1 (aE r n) 1)) (K2 (eB r n) 1 3) = (K5 (yU r n) 1 3 64 65 66) :=
 (by kernel_rfl : D36 r n aGn (xs x0 0 (K1 (aE r n) 1)) (K2 (eB r n) 1 3) = D36 r n aAv (xs (xs x0 0 (K1 (aE r n) 1)) 1 (K2 (eB r n) 1 3)) (K2 (eB r n) 1 3)).trans
 ((bBq r n).trans (by kernel_rfl))
theorem aVh : D36 r n aBh (xs x0 0 (K1 (aE r n) 1)) (K1 (aE r n) 1) = D36 r n sM (xs x0 0 (K1 (aE r n) 1)) (K2 (eB r n) 1 3) :=
 congrArg (fun k => D36 r n sM (xs x0 0 (K1 (aE r n) 1)) k) (bGz r n)
theorem aQn : D36 r n sM (xs x0 0 (K1 (aE r n) 1)) (K2 (eB r n) 1 3) = D36 r n aQx (xs x0 0 (K1 (aE r n) 1)) (K5 (yU r n) 1 3 64 65 66) :=
 congrArg (fun k => D36 r n aQx (xs x0 0 (K1 (aE r n) 1)) k) (bAo r n)
theorem bFo : D36 r n aBh (xs x0 0 (K1 (aE r n) 1)) (K1 (aE r n) 1) = (K2 (xX r n) 1 3) :=
 (aVh r n).trans
 ((aQn r n).trans
 ((by kernel_rfl)))
theorem aVx : D36 r n tV (xs x0 0 (K1 (aE r n) 1)) (K1 (aE r n) 1) = D36 r n aVg (xs x0 0 (K1 (aE r n) 1)) (K2 (xX r n) 1 3) :=
 congrArg (fun k => D36 r n aVg (xs x0 0 (K1 (aE r n) 1)) k) (bFo r n)
theorem bGi : D36 r n tV (xs x0 0 (K1 (aE r n) 1)) (K1 (aE r n) 1) = (K1 (aGd r n) 1) :=
 (aVx r n).trans
 ((by kernel_rfl))
theorem bHt : D36 r n vK (xs x0 0 (K1 (aE r n) 1)) (K1 (aE r n) 1) = (K2 (uQ r n) 1 61) :=
 (by kernel_rfl : D36 r n vK (xs x0 0 (K1 (aE r n) 1)) (K1 (aE r n) 1) = (fun (env : fQ) (h : Hp) => cB (opr env (cC vK)) (D36 r n tV (xs x0 0 (K1 (aE r n) 1)) (K1 (aE r n) 1) env h) (D36 r n bLw (xs x0 0 (K1 (aE r n) 1)) (K1 (aE r n) 1) env h))).trans (by rw [bGi r n]; kernel_rfl)
theorem aTu : D36 r n sO (xs x0 0 (K1 (aE r n) 1)) (K1 (aE r n) 1) = D36 r n aWe (xs x0 0 (K1 (aE r n) 1)) (K2 (uQ r n) 1 61) :=
 congrArg (fun k => D36 r n aWe (xs x0 0 (K1 (aE r n) 1)) k) (bHt r n)
theorem bEl : D36 r n sO (xs x0 0 (K1 (aE r n) 1)) (K1 (aE r n) 1) = (K2 (aGs r n) 1 7) :=
 (aTu r n).trans
 ((by kernel_rfl))
theorem bEj : D36 r n tP (xs x0 0 (K1 (aE r n) 1)) (K1 (aE r n) 1) = (K3 (vD r n) 1 7 56) :=
 (by kernel_rfl : D36 r n tP (xs x0 0 (K1 (aE r n) 1)) (K1 (aE r n) 1) = (fun (env : fQ) (h : Hp) => cB (opr env (cC tP)) (D36 r n bRa (xs x0 0 (K1 (aE r n) 1)) (K1 (aE r n) 1) env h) (D36 r n sO (xs x0 0 (K1 (aE r n) 1)) (K1 (aE r n) 1) env h))).trans (by rw [bEl r n]; kernel_rfl)
theorem aSx : D36 r n tH (xs x0 0 (K1 (aE r n) 1)) (K1 (aE r n) 1) = D36 r n aUi (xs x0 0 (K1 (aE r n) 1)) (K3 (vD r n) 1 7 56) :=
 congrArg (fun k => D36 r n aUi (xs x0 0 (K1 (aE r n) 1)) k) (bEj r n)
theorem bAc : D36 r n tH (xs x0 0 (K1 (aE r n) 1)) (K1 (aE r n) 1) = (K2 (aHb r n) 1 7) :=
 (aSx r n).trans
 ((by kernel_rfl))
theorem bAe : D36 r n tD (xs x0 0 (K1 (aE r n) 1)) (K1 (aE r n) 1) = (K3 (vC r n) 1 7 49) :=
 (by kernel_rfl : D36 r n tD (xs x0 0 (K1 (aE r n) 1)) (K1 (aE r n) 1) = (fun (env : fQ) (h : Hp) => cB (opr env (cC tD)) (D36 r n bPe (xs x0 0 (K1 (aE r n) 1)) (K1 (aE r n) 1) env h) (D36 r n tH (xs x0 0 (K1 (aE r n) 1)) (K1 (aE r n) 1) env h))).trans (by rw [bAc r n]; kernel_rfl)
theorem aOq : D36 r n uA (xs x0 0 (K1 (aE r n) 1)) (K1 (aE r n) 1) = D36 r n aTk (xs x0 0 (K1 (aE r n) 1)) (K3 (vC r n) 1 7 49) :=
 congrArg (fun k => D36 r n aTk (xs x0 0 (K1 (aE r n) 1)) k) (bAe r n)
theorem bFa : D36 r n uA (xs x0 0 (K1 (aE r n) 1)) (K1 (aE r n) 1) = (K2 (aFx r n) 1 7) :=
 (aOq r n).trans
 ((by kernel_rfl))
theorem bFi : D36 r n tB (xs x0 0 (K1 (aE r n) 1)) (K1 (aE r n) 1) = (K3 (sK r n) 1 7 42) :=
 (by kernel_rfl : D36 r n tB (xs x0 0 (K1 (aE r n) 1)) (K1 (aE r n) 1) = (fun (env : fQ) (h : Hp) => cB (opr env (cC tB)) (D36 r n bNb (xs x0 0 (K1 (aE r n) 1)) (K1 (aE r n) 1) env h) (D36 r n uA (xs x0 0 (K1 (aE r n) 1)) (K1 (aE r n) 1) env h))).trans (by rw [bFa r n]; kernel_rfl)
theorem aNv : D36 r n uL (xs x0 0 (K1 (aE r n) 1)) (K1 (aE r n) 1) = D36 r n aYz (xs x0 0 (K1 (aE r n) 1)) (K3 (sK r n) 1 7 42) :=
 congrArg (fun k => D36 r n aYz (xs x0 0 (K1 (aE r n) 1)) k) (bFi r n)
theorem bEx : D36 r n uL (xs x0 0 (K1 (aE r n) 1)) (K1 (aE r n) 1) = (K2 (aGj r n) 1 7) :=
 (aNv r n).trans
 ((by kernel_rfl))
theorem bDg : D36 r n tQ (xs x0 0 (K1 (aE r n) 1)) (K1 (aE r n) 1) = (K3 (uJ r n) 1 7 33) :=
 (by kernel_rfl : D36 r n tQ (xs x0 0 (K1 (aE r n) 1)) (K1 (aE r n) 1) = (fun (env : fQ) (h : Hp) => cB (opr env (cC tQ)) (D36 r n bLe (xs x0 0 (K1 (aE r n) 1)) (K1 (aE r n) 1) env h) (D36 r n uL (xs x0 0 (K1 (aE r n) 1)) (K1 (aE r n) 1) env h))).trans (by rw [bEx r n]; kernel_rfl)
theorem aNt : D36 r n tG (xs x0 0 (K1 (aE r n) 1)) (K1 (aE r n) 1) = D36 r n aRb (xs x0 0 (K1 (aE r n) 1)) (K3 (uJ r n) 1 7 33) :=
 congrArg (fun k => D36 r n aRb (xs x0 0 (K1 (aE r n) 1)) k) (bDg r n)
theorem bCd : D36 r n tG (xs x0 0 (K1 (aE r n) 1)) (K1 (aE r n) 1) = (K2 (aFj r n) 1 7) :=
 (aNt r n).trans
 ((by kernel_rfl))
theorem bBm : D36 r n tO (xs x0 0 (K1 (aE r n) 1)) (K1 (aE r n) 1) = (K3 (tZ r n) 1 7 26) :=
 (by kernel_rfl : D36 r n tO (xs x0 0 (K1 (aE r n) 1)) (K1 (aE r n) 1) = (fun (env : fQ) (h : Hp) => cB (opr env (cC tO)) (D36 r n bOf (xs x0 0 (K1 (aE r n) 1)) (K1 (aE r n) 1) env h) (D36 r n tG (xs x0 0 (K1 (aE r n) 1)) (K1 (aE r n) 1) env h))).trans (by rw [bCd r n]; kernel_rfl)
theorem aSj : D36 r n sP (xs x0 0 (K1 (aE r n) 1)) (K1 (aE r n) 1) = D36 r n aXu (xs x0 0 (K1 (aE r n) 1)) (K3 (tZ r n) 1 7 26) :=
 congrArg (fun k => D36 r n aXu (xs x0 0 (K1 (aE r n) 1)) k) (bBm r n)
theorem bKx : D36 r n sP (xs x0 0 (K1 (aE r n) 1)) (K1 (aE r n) 1) = (K2 (aSl r n) 1 7) :=
 (aSj r n).trans
 ((by kernel_rfl))
theorem bQi : D36 r n sG (xs x0 0 (K1 (aE r n) 1)) (K1 (aE r n) 1) = (K3 (aDi r n) 1 7 20) :=
 (by kernel_rfl : D36 r n sG (xs x0 0 (K1 (aE r n) 1)) (K1 (aE r n) 1) = (fun (env : fQ) (h : Hp) => cB (opr env (cC sG)) (D36 r n bMl (xs x0 0 (K1 (aE r n) 1)) (K1 (aE r n) 1) env h) (D36 r n sP (xs x0 0 (K1 (aE r n) 1)) (K1 (aE r n) 1) env h))).trans (by rw [bKx r n]; kernel_rfl)
theorem aYc : D36 r n aCr (xs x0 0 (K1 (aE r n) 1)) (K1 (aE r n) 1) = D36 r n aPv (xs x0 0 (K1 (aE r n) 1)) (K3 (aDi r n) 1 7 20) :=
 congrArg (fun k => D36 r n aPv (xs x0 0 (K1 (aE r n) 1)) k) (bQi r n)
theorem bOo : D36 r n aCr (xs x0 0 (K1 (aE r n) 1)) (K1 (aE r n) 1) = (K2 (aWb r n) 1 7) :=
 (aYc r n).trans
 ((by kernel_rfl))
theorem bQx : D36 r n aDr (xs x0 0 (K1 (aE r n) 1)) (K1 (aE r n) 1) = (K3 (aEj r n) 1 7 13) :=
 (by kernel_rfl : D36 r n aDr (xs x0 0 (K1 (aE r n) 1)) (K1 (aE r n) 1) = (fun (env : fQ) (h : Hp) => cB (opr env (cC aDr)) (D36 r n bNg (xs x0 0 (K1 (aE r n) 1)) (K1 (aE r n) 1) env h) (D36 r n aCr (xs x0 0 (K1 (aE r n) 1)) (K1 (aE r n) 1) env h))).trans (by rw [bOo r n]; kernel_rfl)
theorem aQu : D36 r n aDz (xs x0 0 (K1 (aE r n) 1)) (K1 (aE r n) 1) = D36 r n aRx (xs x0 0 (K1 (aE r n) 1)) (K3 (aEj r n) 1 7 13) :=
 congrArg (fun k => D36 r n aRx (xs x0 0 (K1 (aE r n) 1)) k) (bQx r n)
theorem bQj : D36 r n aDz (xs x0 0 (K1 (aE r n) 1)) (K1 (aE r n) 1) = (K2 (aUb r n) 1 7) :=
 (aQu r n).trans
 ((by kernel_rfl))
theorem bRc : D36 r n aEq (xs x0 0 (K1 (aE r n) 1)) (K1 (aE r n) 1) = (K3 (aDa r n) 1 7 8) :=
 (by kernel_rfl : D36 r n aEq (xs x0 0 (K1 (aE r n) 1)) (K1 (aE r n) 1) = (fun (env : fQ) (h : Hp) => cB (opr env (cC aEq)) (D36 r n bPs (xs x0 0 (K1 (aE r n) 1)) (K1 (aE r n) 1) env h) (D36 r n aDz (xs x0 0 (K1 (aE r n) 1)) (K1 (aE r n) 1) env h))).trans (by rw [bQj r n]; kernel_rfl)
theorem aOy : D36 r n aHt (xs x0 0 (K1 (aE r n) 1)) (K1 (aE r n) 1) = D36 r n aZd (xs x0 0 (K1 (aE r n) 1)) (K3 (aDa r n) 1 7 8) :=
 congrArg (fun k => D36 r n aZd (xs x0 0 (K1 (aE r n) 1)) k) (bRc r n)
theorem bMw : D36 r n aQy x0 (K1 (aE r n) 1) = (K2 (aLl r n) 1 7) :=
 (by kernel_rfl : D36 r n aQy x0 (K1 (aE r n) 1) = D36 r n aHt (xs x0 0 (K1 (aE r n) 1)) (K1 (aE r n) 1)).trans
 ((aOy r n).trans
 ((by kernel_rfl)))
theorem aTc : D36 r n aLi x0 r36 = D36 r n aEu x0 (K1 (aE r n) 1) :=
 congrArg (fun k => D36 r n aEu x0 k) (bNq r n)
theorem aQt : D36 r n aEu x0 (K1 (aE r n) 1) = D36 r n aPu x0 (K2 (aLl r n) 1 7) :=
 congrArg (fun k => D36 r n aPu x0 k) (bMw r n)
theorem bKt : D36 r n aLi x0 r36 = (K1 (aHo r n) 1) :=
 (aTc r n).trans
 ((aQt r n).trans
 ((by kernel_rfl)))
theorem bOl : D36 r n c36 x0 r36 = D36 r n aZf x0 (K1 (aHo r n) 1) :=
 congrArg (fun k => D36 r n aZf x0 k) (bKt r n)
theorem bWe : D36 r n c36 x0 r36 = (K1 (s36 r n) 0) :=
 (bOl r n).trans
 ((by kernel_rfl))
theorem bUp : aM CF r n 36 args h = s36 r n (aZ args 0) h :=
 fK (bWe r n) args h (by kernel_rfl) (by kernel_rfl)
def s37 (r : RT) (n : Nat) (x0 x1 : DV) (h0 : Hp) : aG :=
 bnd (iB x0 h0) fun v1 h1 =>
 bnd (iB x1 h1) fun v2 h2 =>
 bnd (aA 0 v1 h2) fun v3 h3 =>
 bnd (aB v3 h3) fun v4 h4 =>
 bnd (aA 0 v2 h4) fun v5 h5 =>
 bnd (aB v5 h5) fun v6 h6 =>
 bnd (aQ .eql v4 v6 h6) fun v7 h7 =>
 bnd (gD v7 true (aA 1 v1 h7) h7) fun v8 h8 =>
 bnd (gD v7 true (aB v8 h8) h8) fun v9 h9 =>
 bnd (gD v7 true (aA 1 v2 h9) h9) fun v10 h10 =>
 bnd (gD v7 true (aB v10 h10) h10) fun v11 h11 =>
 bnd (gD v7 true (gU .eql v9 v11 h11) h11) fun v12 h12 =>
 bnd (cA v7 v12 (.b false) h12) fun v13 h13 =>
 bnd (gD v13 true (aA 2 v1 h13) h13) fun v14 h14 =>
 bnd (gD v13 true (aB v14 h14) h14) fun v15 h15 =>
 bnd (gD v13 true (aA 2 v2 h15) h15) fun v16 h16 =>
 bnd (gD v13 true (aB v16 h16) h16) fun v17 h17 =>
 bnd (gD v13 true (aQ .eql v15 v17 h17) h17) fun v18 h18 =>
 bnd (cA v13 v18 (.b false) h18) fun v19 h19 =>
 bnd (gD v19 true (aA 3 v1 h19) h19) fun v20 h20 =>
 bnd (gD v19 true (aB v20 h20) h20) fun v21 h21 =>
 bnd (gD v19 true (aA 3 v2 h21) h21) fun v22 h22 =>
 bnd (gD v19 true (aB v22 h22) h22) fun v23 h23 =>
 bnd (gD v19 true (r 63 [v21, v23] h23) h23) fun v24 h24 =>
 bnd (cA v19 v24 (.b false) h24) fun v25 h25 =>
 bnd (gD v25 true (aA 4 v1 h25) h25) fun v26 h26 =>
 bnd (gD v25 true (aB v26 h26) h26) fun v27 h27 =>
 bnd (gD v25 true (aA 4 v2 h27) h27) fun v28 h28 =>
 bnd (gD v25 true (aB v28 h28) h28) fun v29 h29 =>
 bnd (gD v25 true (r 63 [v27, v29] h29) h29) fun v30 h30 =>
 bnd (cA v25 v30 (.b false) h30) fun v31 h31 =>
 bnd (gD v31 true (aA 5 v1 h31) h31) fun v32 h32 =>
 bnd (gD v31 true (aB v32 h32) h32) fun v33 h33 =>
 bnd (gD v31 true (aA 5 v2 h33) h33) fun v34 h34 =>
 bnd (gD v31 true (aB v34 h34) h34) fun v35 h35 =>
 bnd (gD v31 true (r 64 [v33, v35, (.f 37 [] [])] h35) h35) fun v36 h36 =>
 bnd (cA v31 v36 (.b false) h36) fun v37 h37 =>
 some (v37, h37)
abbrev c37 : Code := cf Tryz.f37
abbrev r37 : K := bT CF Tryz.f37
def D37 (r : RT) (n : Nat) (c : Code) (X : Nat → K) (k : K) : K := aU CF r 47 n c X r37 k
theorem bWl : D37 r n c37 x0 r37 = (K2 (s37 r n) 0 1) :=
 (by kernel_rfl)
theorem bUl : aM CF r n 37 args h = s37 r n (aZ args 0) (aZ args 1) h :=
 fK (bWl r n) args h (by kernel_rfl) (by kernel_rfl)
end
end Go.Dd

namespace Go.Dd
open Go.Proofs
noncomputable section
variable (r : RT) (n : Nat) (args : List DV) (h : Hp)
def iC (r : RT) (n : Nat) (x0 x6 : DV) (h0 : Hp) : aG :=
 bnd (iE x0 h0) fun v1 h1 =>
 bnd (cS [(aJ 0), (.s []), (aJ 0), (aJ 0)] [(3, 1, v1)] h1) fun v2 h2 =>
 bnd (aO [(aJ 0), (.s []), (aJ 0), (aJ 0)] 1 [(0, 4, v2)] h2) fun v3 h3 =>
 bnd (bH 4 40 x6 v3 h3) fun v4 h4 =>
 some (.t [v4, (aJ 0), (aJ 0)], h4)
def aBj (r : RT) (n : Nat) (kk7 : iK) (x0 x5 x6 : DV) (h0 : Hp) : aG :=
 bnd (r 75 [(.s [9, 10, 13, 32])] h0) fun v1 h1 =>
 bnd (iE x0 h1) fun v2 h2 =>
 bnd (r 74 [x5, v1, v2] h2) fun v3 h3 =>
 bnd (bM x5 h3) fun v4 h4 =>
 bnd (aA 1 v4 h4) fun v5 h5 =>
 bnd (aB v5 h5) fun v6 h6 =>
 bnd (iE x0 h6) fun v7 h7 =>
 bnd (aQ .geq v6 v7 h7) fun v8 h8 =>
 cB v8 (
  iC r n x0 x6 h8) (
 bnd (bM x5 h8) fun v9 h9 =>
 bnd (aA 1 v9 h9) fun v10 h10 =>
 bnd (aB v10 h10) fun v11 h11 =>
 bnd (eP x0 v11 h11) fun v12 h12 =>
 bnd (aQ .eql v12 (.i .u8 (Int.ofNat 34)) h12) fun v13 h13 =>
 cB v13 (
 bnd (bM x5 h13) fun v14 h14 =>
 bnd (aA 1 v14 h14) fun v15 h15 =>
 bnd (aB v15 h15) fun v16 h16 =>
 bnd (aQ .add v16 (aJ 1) h16) fun v17 h17 =>
 bnd (eH x0 (some v17) none h17) fun v18 h18 =>
 bnd (r 57 [v18, (.i .u8 (Int.ofNat 34))] h18) fun v19 h19 =>
 bnd (aQ .lss v19 (aJ 0) h19) fun v20 h20 =>
 cB v20 (
 bnd (bM x5 h20) fun v21 h21 =>
 bnd (aA 1 v21 h21) fun v22 h22 =>
 bnd (aB v22 h22) fun v23 h23 =>
 some (.t [.l0, v23, (aJ 11)], h23)) (
 bnd (bM x5 h20) fun v24 h24 =>
 bnd (aA 1 v24 h24) fun v25 h25 =>
 bnd (aB v25 h25) fun v26 h26 =>
 bnd (aQ .add v19 (aJ 2) h26) fun v27 h27 =>
 bnd (aQ .add v26 v27 h27) fun v28 h28 =>
 bnd (bM x5 h28) fun v29 h29 =>
 bnd (aA 1 v29 h29) fun v30 h30 =>
 bnd (aC 1 v30 v28 h30) fun _ h31 =>
  kk7 x0 x5 x6 h31)) (
 bnd (r 76 [x5] h13) fun v32 h32 =>
 bnd (aH 0 v32 h32) fun v33 h33 =>
 bnd (aH 1 v32 h33) fun v34 h34 =>
 bnd (cJ [(aJ 0), (.s []), (aJ 0), (aJ 0)] h34) fun v35 h35 =>
 bnd (aC 4 v35 v33 h35) fun _ h36 =>
 bnd (aQ .neq v34 (aJ 0) h36) fun v37 h37 =>
 cB v37 (
 bnd (aA 3 v35 h37) fun v38 h38 =>
 bnd (aB v38 h38) fun v39 h39 =>
 some (.t [.l0, v39, v34], h39)) (
 bnd (aD 4 v35 h37) fun v40 h40 =>
 bnd (aO [(aJ 0), (.s []), (aJ 0), (aJ 0)] 1 [(0, 4, v40)] h40) fun v41 h41 =>
 bnd (bH 4 40 x6 v41 h41) fun v42 h42 =>
  kk7 x0 x5 v42 h42)))
def nU (r : RT) (n : Nat) (m : Nat) : iK :=
 Nat.rec (motive := fun _ => iK) (fun _ _ _ _ => none) (fun _ ih => aBj r n ih) m
def aOu (r : RT) (n : Nat) : iK := nU r n n
def aMd (r : RT) (n : Nat) (x0 x5 x6 : DV) (h0 : Hp) : aG :=
 aOu r n x0 x5 x6 h0
def aKq (r : RT) (n : Nat) (x0 x5 x6 : DV) (h0 : Hp) : aG :=
 aMd r n x0 x5 x6 h0
def aJn (r : RT) (n : Nat) (x0 x5 : DV) (h0 : Hp) : aG :=
 aKq r n x0 x5 .l0 h0
def aJu (r : RT) (n : Nat) (x0 : DV) (h0 : Hp) : aG :=
 bnd (cS [(.s []), (aJ 0)] [(0, 1, x0)] h0) fun v1 h1 =>
 bnd (iB v1 h1) fun v2 h2 =>
  aJn r n x0 v2 h2
def aMw (r : RT) (n : Nat) (x0 : DV) (h0 : Hp) : aG :=
 bnd (iE x0 h0) fun v1 h1 =>
 bnd (aQ .gtr v1 (aJ 2000) h1) fun v2 h2 =>
 cB v2 (
 some (.t [.l0, (aJ 0), (aJ 12)], h2)) (
  aJu r n x0 h2)
def s48 (r : RT) (n : Nat) (x0 : DV) (h0 : Hp) : aG :=
 aMw r n x0 h0
abbrev c48 : Code := cf Tryz.f48
abbrev aPx := cR c48
abbrev aNd := cL aPx
abbrev aLc := cR aNd
abbrev aMe := cR aLc
abbrev aMj := cR aMe
abbrev aKo := cR aMj
abbrev bRp := cR aKo
abbrev aKu := cL aKo
abbrev aHl := cL aKu
abbrev oN := cL aHl
abbrev aWd := cL aMj
abbrev aXg := cL aMe
abbrev aVl := cL aLc
abbrev aSz := cL aNd
abbrev aTv := cL c48
abbrev r48 : K := bT CF Tryz.f48
def D48 (r : RT) (n : Nat) (c : Code) (X : Nat → K) (k : K) : K := aU CF r 80 n c X r48 k
theorem bKh : D48 r n bRp x0 r48 = (K2 (iC r n) 0 6) := by kernel_rfl
theorem bEn (kk7 : iK) : D48 r n oN (xs x0 0 (K2 (iC r n) 0 6)) (K3 kk7 0 5 6) = (K3 (aBj r n kk7) 0 5 6) := by kernel_rfl
theorem bDz (m : Nat) : aN (fun kk => D48 r n oN (xs x0 0 (K2 (iC r n) 0 6)) kk) m = (K3 (nU r n m) 0 5 6) := by
 induction m with
 | zero => exact (by kernel_rfl : aN (fun kk => D48 r n oN (xs x0 0 (K2 (iC r n) 0 6)) kk) 0 = (K3 (nU r n 0) 0 5 6))
 | succ m ih =>
  refine (by kernel_rfl : aN (fun kk => D48 r n oN (xs x0 0 (K2 (iC r n) 0 6)) kk) (m + 1) = D48 r n oN (xs x0 0 (K2 (iC r n) 0 6)) (aN (fun kk => D48 r n oN (xs x0 0 (K2 (iC r n) 0 6)) kk) m)).trans ?_
  rw [ih]
  exact (bEn r n (nU r n m)).trans (by kernel_rfl)
theorem bKj : D48 r n aHl (xs x0 0 (K2 (iC r n) 0 6)) (K2 (iC r n) 0 6) = (K3 (aOu r n) 0 5 6) :=
 (by kernel_rfl : D48 r n aHl (xs x0 0 (K2 (iC r n) 0 6)) (K2 (iC r n) 0 6) = aN (fun kk => D48 r n oN (xs x0 0 (K2 (iC r n) 0 6)) kk) n).trans ((bDz r n n).trans (by kernel_rfl))
theorem bGm : D48 r n aKo x0 r48 = D48 r n aKu x0 (K2 (iC r n) 0 6) :=
 congrArg (fun k => D48 r n aKu x0 k) (bKh r n)
theorem bOc : D48 r n aKo x0 r48 = (K3 (aMd r n) 0 5 6) :=
 (bGm r n).trans
 ((by kernel_rfl : D48 r n aKu x0 (K2 (iC r n) 0 6) = D48 r n aHl (xs x0 0 (K2 (iC r n) 0 6)) (K2 (iC r n) 0 6)).trans
 ((bKj r n).trans (by kernel_rfl)))
theorem bDx : D48 r n aMj x0 r48 = D48 r n aWd x0 (K3 (aMd r n) 0 5 6) :=
 congrArg (fun k => D48 r n aWd x0 k) (bOc r n)
theorem bNi : D48 r n aMj x0 r48 = (K3 (aKq r n) 0 5 6) :=
 (bDx r n).trans
 ((by kernel_rfl))
theorem aZx : D48 r n aMe x0 r48 = D48 r n aXg x0 (K3 (aKq r n) 0 5 6) :=
 congrArg (fun k => D48 r n aXg x0 k) (bNi r n)
theorem bRj : D48 r n aMe x0 r48 = (K2 (aJn r n) 0 5) :=
 (aZx r n).trans
 ((by kernel_rfl))
theorem bHa : D48 r n aLc x0 r48 = D48 r n aVl x0 (K2 (aJn r n) 0 5) :=
 congrArg (fun k => D48 r n aVl x0 k) (bRj r n)
theorem bQo : D48 r n aLc x0 r48 = (K1 (aJu r n) 0) :=
 (bHa r n).trans
 ((by kernel_rfl))
theorem bDq : D48 r n aNd x0 r48 = D48 r n aSz x0 (K1 (aJu r n) 0) :=
 congrArg (fun k => D48 r n aSz x0 k) (bQo r n)
theorem bPo : D48 r n aPx x0 r48 = (K1 (aMw r n) 0) :=
 (by kernel_rfl : D48 r n aPx x0 r48 = D48 r n aNd x0 r48).trans
 ((bDq r n).trans
 ((by kernel_rfl)))
theorem bVs : D48 r n c48 x0 r48 = D48 r n aTv x0 (K1 (aMw r n) 0) :=
 congrArg (fun k => D48 r n aTv x0 k) (bPo r n)
theorem bYe : D48 r n c48 x0 r48 = (K1 (s48 r n) 0) :=
 (bVs r n).trans
 ((by kernel_rfl))
theorem bSr : aM CF r n 48 args h = s48 r n (aZ args 0) h :=
 fK (bYe r n) args h (by kernel_rfl) (by kernel_rfl)
def iG (r : RT) (n : Nat) (x0 x3 : DV) (h0 : Hp) : aG :=
 bnd (r 51 [x0, (aJ 10), (.s [124])] h0) fun v1 h1 =>
 some (x3, h1)
def zP (r : RT) (n : Nat) (kk6 : mT) (x0 x3 : DV) (h0 : Hp) : aG :=
 bnd (r 77 [x0, (aJ 1), (.s [])] h0) fun v1 h1 =>
 cB v1 (
 bnd (r 78 [x0] h1) fun v2 h2 =>
 bnd (eM 1 v2 h2) fun v3 h3 =>
 bnd (aO [(.s [])] 1 [(0, 1, v3)] h3) fun v4 h4 =>
 bnd (bH 1 16 x3 v4 h4) fun v5 h5 =>
      kk6 x0 v5 h5) (
      iG r n x0 x3 h1)
def oA (r : RT) (n : Nat) (m : Nat) : mT :=
 Nat.rec (motive := fun _ => mT) (fun _ _ _ => none) (fun _ ih => zP r n ih) m
def aYi (r : RT) (n : Nat) : mT := oA r n n
def aIb (r : RT) (n : Nat) (x0 x3 : DV) (h0 : Hp) : aG :=
 aYi r n x0 x3 h0
def aIc (r : RT) (n : Nat) (x0 x3 : DV) (h0 : Hp) : aG :=
 bnd (r 78 [x0] h0) fun v1 h1 =>
  aIb r n x0 x3 h1
def aMc (r : RT) (n : Nat) (x0 x3 : DV) (h0 : Hp) : aG :=
 bnd (r 77 [x0, (aJ 10), (.s [124])] h0) fun v1 h1 =>
 bnd (pJ .not v1 h1) fun v2 h2 =>
 cB v2 (
 some (.l0, h2)) (
  aIc r n x0 x3 h2)
def aKh (r : RT) (n : Nat) (x0 : DV) (h0 : Hp) : aG :=
 aMc r n x0 .l0 h0
def s49 (r : RT) (n : Nat) (x0 : DV) (h0 : Hp) : aG :=
 aKh r n x0 h0
abbrev c49 : Code := cf Tryz.f49
abbrev aKm := cR c49
abbrev aIi := cR aKm
abbrev aJl := cR aIi
abbrev aJb := cR aJl
abbrev bUd := cR aJb
abbrev aIx := cL aJb
abbrev aNe := cL aIx
abbrev vN := cL aNe
abbrev bId := cL aJl
abbrev aQc := cL aIi
abbrev aSv := cL aKm
abbrev aYa := cL c49
abbrev r49 : K := bT CF Tryz.f49
def D49 (r : RT) (n : Nat) (c : Code) (X : Nat → K) (k : K) : K := aU CF r 20 n c X r49 k
theorem bKl : D49 r n bUd x0 r49 = (K2 (iG r n) 0 3) := by kernel_rfl
theorem bDc (kk6 : mT) : D49 r n vN (xs x0 0 (K2 (iG r n) 0 3)) (K2 kk6 0 3) = (K2 (zP r n kk6) 0 3) := by kernel_rfl
theorem bCz (m : Nat) : aN (fun kk => D49 r n vN (xs x0 0 (K2 (iG r n) 0 3)) kk) m = (K2 (oA r n m) 0 3) := by
 induction m with
 | zero => exact (by kernel_rfl : aN (fun kk => D49 r n vN (xs x0 0 (K2 (iG r n) 0 3)) kk) 0 = (K2 (oA r n 0) 0 3))
 | succ m ih =>
  refine (by kernel_rfl : aN (fun kk => D49 r n vN (xs x0 0 (K2 (iG r n) 0 3)) kk) (m + 1) = D49 r n vN (xs x0 0 (K2 (iG r n) 0 3)) (aN (fun kk => D49 r n vN (xs x0 0 (K2 (iG r n) 0 3)) kk) m)).trans ?_
  rw [ih]
  exact (bDc r n (oA r n m)).trans (by kernel_rfl)
theorem bQm : D49 r n aNe (xs x0 0 (K2 (iG r n) 0 3)) (K2 (iG r n) 0 3) = (K2 (aYi r n) 0 3) :=
 (by kernel_rfl : D49 r n aNe (xs x0 0 (K2 (iG r n) 0 3)) (K2 (iG r n) 0 3) = aN (fun kk => D49 r n vN (xs x0 0 (K2 (iG r n) 0 3)) kk) n).trans ((bCz r n n).trans (by kernel_rfl))
theorem bCk : D49 r n aJb x0 r49 = D49 r n aIx x0 (K2 (iG r n) 0 3) :=
 congrArg (fun k => D49 r n aIx x0 k) (bKl r n)
theorem bLt : D49 r n aJb x0 r49 = (K2 (aIb r n) 0 3) :=
 (bCk r n).trans
 ((by kernel_rfl : D49 r n aIx x0 (K2 (iG r n) 0 3) = D49 r n aNe (xs x0 0 (K2 (iG r n) 0 3)) (K2 (iG r n) 0 3)).trans
 ((bQm r n).trans (by kernel_rfl)))
theorem bHg : D49 r n aJl x0 r49 = D49 r n bId x0 (K2 (aIb r n) 0 3) :=
 congrArg (fun k => D49 r n bId x0 k) (bLt r n)
theorem bOz : D49 r n aJl x0 r49 = (K2 (aIc r n) 0 3) :=
 (bHg r n).trans
 ((by kernel_rfl))
theorem bEf : D49 r n aIi x0 r49 = D49 r n aQc x0 (K2 (aIc r n) 0 3) :=
 congrArg (fun k => D49 r n aQc x0 k) (bOz r n)
theorem bLl : D49 r n aIi x0 r49 = (K2 (aMc r n) 0 3) :=
 (bEf r n).trans
 ((by kernel_rfl))
theorem bDj : D49 r n aKm x0 r49 = D49 r n aSv x0 (K2 (aMc r n) 0 3) :=
 congrArg (fun k => D49 r n aSv x0 k) (bLl r n)
theorem bNw : D49 r n aKm x0 r49 = (K1 (aKh r n) 0) :=
 (bDj r n).trans
 ((by kernel_rfl))
theorem bUf : D49 r n c49 x0 r49 = D49 r n aYa x0 (K1 (aKh r n) 0) :=
 congrArg (fun k => D49 r n aYa x0 k) (bNw r n)
theorem bWn : D49 r n c49 x0 r49 = (K1 (s49 r n) 0) :=
 (bUf r n).trans
 ((by kernel_rfl))
theorem bRw : aM CF r n 49 args h = s49 r n (aZ args 0) h :=
 fK (bWn r n) args h (by kernel_rfl) (by kernel_rfl)
def iF (r : RT) (n : Nat) (x3 : DV) (h0 : Hp) : aG :=
 some (x3, h0)
def bIt (r : RT) (n : Nat) (kk4 : mT) (x0 x3 : DV) (h0 : Hp) : aG :=
 bnd (r 79 [x0] h0) fun v1 h1 =>
 bnd (aO fM 1 [(0, 6, v1)] h1) fun v2 h2 =>
 bnd (bH 6 104 x3 v2 h2) fun v3 h3 =>
 bnd (r 77 [x0, (aJ 10), (.s [46])] h3) fun v4 h4 =>
 bnd (pJ .not v4 h4) fun v5 h5 =>
 cB v5 (
 some (v3, h5)) (
 bnd (r 78 [x0] h5) fun v6 h6 =>
  kk4 x0 v3 h6)
def aFr (r : RT) (n : Nat) (kk4 : mT) (x3 : DV) (h0 : Hp) : aG :=
 some (x3, h0)
def aXf (r : RT) (n : Nat) (kk4 : mT) (x0 x3 : DV) (h0 : Hp) : aG :=
 bnd (r 77 [x0, (aJ 10), (.s [46])] h0) fun v1 h1 =>
 cB v1 (
 bnd (r 78 [x0] h1) fun v2 h2 =>
  aFr r n kk4 x3 h2) (
  aFr r n kk4 x3 h1)
def bIu (r : RT) (n : Nat) (kk4 : mT) (x0 x3 : DV) (h0 : Hp) : aG :=
 bnd (r 79 [x0] h0) fun v1 h1 =>
 bnd (aO fM 1 [(0, 6, v1)] h1) fun v2 h2 =>
 bnd (cS fM [(0, 1, (aJ 10)), (5, 1, v2)] h2) fun v3 h3 =>
 bnd (aO fM 1 [(0, 6, v3)] h3) fun v4 h4 =>
 bnd (bH 6 104 x3 v4 h4) fun v5 h5 =>
  aXf r n kk4 x0 v5 h5
def bIa (r : RT) (n : Nat) (kk4 : mT) (x0 x3 : DV) (h0 : Hp) : aG :=
 bnd (r 78 [x0] h0) fun v1 h1 =>
  bIu r n kk4 x0 x3 h1
def bIg (r : RT) (n : Nat) (kk4 : mT) (x0 x3 x20 : DV) (h0 : Hp) : aG :=
 cB x20 (
  bIa r n kk4 x0 x3 h0) (
  bIt r n kk4 x0 x3 h0)
def bIv (r : RT) (n : Nat) (kk4 : mT) (x0 x3 : DV) (h0 : Hp) : aG :=
 bnd (r 77 [x0, (aJ 10), (.s [94])] h0) fun v1 h1 =>
  bIg r n kk4 x0 x3 v1 h1
def aAh (r : RT) (n : Nat) (kk4 : mT) (x0 x3 : DV) (h0 : Hp) : aG :=
 bnd (bM x0 h0) fun v1 h1 =>
 bnd (aA 3 v1 h1) fun v2 h2 =>
 bnd (aB v2 h2) fun v3 h3 =>
 bnd (aQ .eql v3 (aJ 0) h3) fun v4 h4 =>
 bnd (gD v4 true (some (x0, h4)) h4) fun v5 h5 =>
 bnd (gD v4 true (r 77 [v5, (aJ 0), (.s [])] h5) h5) fun v6 h6 =>
 bnd (gD v4 true (pJ .not v6 h6) h6) fun v7 h7 =>
 bnd (cA v4 v7 (.b false) h7) fun v8 h8 =>
 bnd (gD v8 true (some (x0, h8)) h8) fun v9 h9 =>
 bnd (gD v8 true (r 77 [v9, (aJ 10), (.s [93])] h9) h9) fun v10 h10 =>
 bnd (gD v8 true (pJ .not v10 h10) h10) fun v11 h11 =>
 bnd (cA v8 v11 (.b false) h11) fun v12 h12 =>
 cB v12 (
  bIv r n kk4 x0 x3 h12) (
  iF r n x3 h12)
def nP (r : RT) (n : Nat) (m : Nat) : mT :=
 Nat.rec (motive := fun _ => mT) (fun _ _ _ => none) (fun _ ih => aAh r n ih) m
def aVy (r : RT) (n : Nat) : mT := nP r n n
def aKj (r : RT) (n : Nat) (x0 x3 : DV) (h0 : Hp) : aG :=
 aVy r n x0 x3 h0
def aMp (r : RT) (n : Nat) (x0 : DV) (h0 : Hp) : aG :=
 aKj r n x0 .l0 h0
def s50 (r : RT) (n : Nat) (x0 : DV) (h0 : Hp) : aG :=
 aMp r n x0 h0
abbrev c50 : Code := cf Tryz.f50
abbrev aKp := cR c50
abbrev aLq := cR aKp
abbrev bSm := cR aLq
abbrev aMf := cL aLq
abbrev aLj := cL aMf
abbrev vI := cL aLj
abbrev aPl := cL aKp
abbrev aZo := cL c50
abbrev r50 : K := bT CF Tryz.f50
def D50 (r : RT) (n : Nat) (c : Code) (X : Nat → K) (k : K) : K := aU CF r 47 n c X r50 k
theorem bNh : D50 r n bSm x0 r50 = (K1 (iF r n) 3) := by kernel_rfl
theorem bAr (kk4 : mT) : D50 r n vI (xs x0 0 (K1 (iF r n) 3)) (K2 kk4 0 3) = (K2 (aAh r n kk4) 0 3) := by kernel_rfl
theorem bAw (m : Nat) : aN (fun kk => D50 r n vI (xs x0 0 (K1 (iF r n) 3)) kk) m = (K2 (nP r n m) 0 3) := by
 induction m with
 | zero => exact (by kernel_rfl : aN (fun kk => D50 r n vI (xs x0 0 (K1 (iF r n) 3)) kk) 0 = (K2 (nP r n 0) 0 3))
 | succ m ih =>
  refine (by kernel_rfl : aN (fun kk => D50 r n vI (xs x0 0 (K1 (iF r n) 3)) kk) (m + 1) = D50 r n vI (xs x0 0 (K1 (iF r n) 3)) (aN (fun kk => D50 r n vI (xs x0 0 (K1 (iF r n) 3)) kk) m)).trans ?_
  rw [ih]
  exact (bAr r n (nP r n m)).trans (by kernel_rfl)
theorem bPz : D50 r n aLj (xs x0 0 (K1 (iF r n) 3)) (K1 (iF r n) 3) = (K2 (aVy r n) 0 3) :=
 (by kernel_rfl : D50 r n aLj (xs x0 0 (K1 (iF r n) 3)) (K1 (iF r n) 3) = aN (fun kk => D50 r n vI (xs x0 0 (K1 (iF r n) 3)) kk) n).trans ((bAw r n n).trans (by kernel_rfl))
theorem bDk : D50 r n aLq x0 r50 = D50 r n aMf x0 (K1 (iF r n) 3) :=
 congrArg (fun k => D50 r n aMf x0 k) (bNh r n)
theorem bKi : D50 r n aLq x0 r50 = (K2 (aKj r n) 0 3) :=
 (bDk r n).trans
 ((by kernel_rfl : D50 r n aMf x0 (K1 (iF r n) 3) = D50 r n aLj (xs x0 0 (K1 (iF r n) 3)) (K1 (iF r n) 3)).trans
 ((bPz r n).trans (by kernel_rfl)))
theorem aRd : D50 r n aKp x0 r50 = D50 r n aPl x0 (K2 (aKj r n) 0 3) :=
 congrArg (fun k => D50 r n aPl x0 k) (bKi r n)
theorem bKu : D50 r n aKp x0 r50 = (K1 (aMp r n) 0) :=
 (aRd r n).trans
 ((by kernel_rfl))
theorem bNz : D50 r n c50 x0 r50 = D50 r n aZo x0 (K1 (aMp r n) 0) :=
 congrArg (fun k => D50 r n aZo x0 k) (bKu r n)
theorem bYz : D50 r n c50 x0 r50 = (K1 (s50 r n) 0) :=
 (bNz r n).trans
 ((by kernel_rfl))
theorem bUv : aM CF r n 50 args h = s50 r n (aZ args 0) h :=
 fK (bYz r n) args h (by kernel_rfl) (by kernel_rfl)
def s51 (r : RT) (n : Nat) (x0 x1 x2 : DV) (h0 : Hp) : aG :=
 bnd (cJ [(aJ 0), (.s []), (aJ 0), (aJ 0)] h0) fun v1 h1 =>
 bnd (r 77 [x0, x1, x2] h1) fun v2 h2 =>
 bnd (pJ .not v2 h2) fun v3 h3 =>
 cB v3 (
 bnd (r 81 [x0, (aJ 0)] h3) fun v4 h4 =>
 bnd (r 80 [x0, v4, (aJ 13)] h4) fun v5 h5 =>
 bnd (cS [(aJ 0), (.s []), (aJ 0), (aJ 0)] [] h5) fun v6 h6 =>
 bnd (aC 4 v1 v6 h6) fun _ h7 =>
 bnd (aD 4 v1 h7) fun v8 _ =>
 some (v8, h7)) (
 bnd (r 78 [x0] h3) fun v9 h9 =>
 bnd (aC 4 v1 v9 h9) fun _ h10 =>
 bnd (aD 4 v1 h10) fun v11 _ =>
 some (v11, h10))
abbrev c51 : Code := cf Tryz.f51
abbrev r51 : K := bT CF Tryz.f51
def D51 (r : RT) (n : Nat) (c : Code) (X : Nat → K) (k : K) : K := aU CF r 19 n c X r51 k
theorem bVz : D51 r n c51 x0 r51 = (K3 (s51 r n) 0 1 2) :=
 (by kernel_rfl)
theorem bSk : aM CF r n 51 args h = s51 r n (aZ args 0) (aZ args 1) (aZ args 2) h :=
 fK (bVz r n) args h (by kernel_rfl) (by kernel_rfl)
def xO (r : RT) (n : Nat) (kk6 : iK) (x0 x1 x4 : DV) (h0 : Hp) : aG :=
 bnd (gD x4 false (some (x0, h0)) h0) fun v1 h1 =>
 bnd (gD x4 false (r 77 [v1, (aJ 2), (.s [])] h1) h1) fun v2 h2 =>
 bnd (cA x4 (.b true) v2 h2) fun v3 h3 =>
 cB v3 (
 bnd (bM x1 h3) fun v4 h4 =>
 bnd (aA 1 v4 h4) fun v5 h5 =>
 bnd (aB v5 h5) fun v6 h6 =>
 bnd (r 51 [x0, (aJ 2), (.s [])] h6) fun v7 h7 =>
 cnd (bX (aB v5 h7) v6 && true) (
 bnd (eM 1 v7 h7) fun v8 h8 =>
 bnd (gU .add v6 v8 h8) fun v9 h9 =>
 bnd (bM x1 h9) fun v10 h10 =>
 bnd (aA 1 v10 h10) fun v11 h11 =>
 bnd (aC 1 v11 v9 h11) fun v12 h12 =>
 bnd (bM x1 (gT 1 h12)) fun v13 h13 =>
 bnd (aA 3 v13 h13) fun v14 h14 =>
 bnd (aB v14 h14) fun v15 h15 =>
 bnd (bM x1 h15) fun v16 h16 =>
 bnd (aA 3 v16 h16) fun v17 h17 =>
 bnd (aB v17 h17) fun v18 h18 =>
 bnd (r 82 [x0, (aJ 1), v18] h18) fun v19 h19 =>
 cnd (bX (aB v14 h19) v15 && true) (
 bnd (aY (dA 0 h12.next) [(.s [])] 1 [(0, 1, v19)] h19) fun v20 h20 =>
 bnd (bH 1 16 v15 v20 h20) fun v21 h21 =>
 bnd (bM x1 h21) fun v22 h22 =>
 bnd (aA 3 v22 h22) fun v23 h23 =>
 bnd (aC 1 v23 v21 h23) fun v24 h24 =>
      kk6 x0 x1 (.b false) h24))) (
 some (.t [], h3))
def mG (r : RT) (n : Nat) (m : Nat) : iK :=
 Nat.rec (motive := fun _ => iK) (fun _ _ _ _ => none) (fun _ ih => xO r n ih) m
def aYy (r : RT) (n : Nat) : iK := mG r n n
def aIy (r : RT) (n : Nat) (x0 x1 x4 : DV) (h0 : Hp) : aG :=
 aYy r n x0 x1 x4 h0
def aWi (r : RT) (n : Nat) (x0 x1 : DV) (h0 : Hp) : aG :=
 aIy r n x0 x1 (.b true) h0
def aMl (r : RT) (n : Nat) (x0 x1 x44 : DV) (h0 : Hp) : aG :=
 cB x44 (
 bnd (r 78 [x0] h0) fun v1 h1 =>
 bnd (eM 1 v1 h1) fun v2 h2 =>
 bnd (bM x1 h2) fun v3 h3 =>
 bnd (aA 1 v3 h3) fun v4 h4 =>
 bnd (aC 1 v4 v2 h4) fun _ h5 =>
 bnd (bM x1 (gT 1 h5)) fun v6 h6 =>
 bnd (aA 3 v6 h6) fun v7 h7 =>
 bnd (aB v7 h7) fun v8 h8 =>
 bnd (bM x1 h8) fun v9 h9 =>
 bnd (aA 3 v9 h9) fun v10 h10 =>
 bnd (aB v10 h10) fun v11 h11 =>
 bnd (r 82 [x0, (aJ 1), v11] h11) fun v12 h12 =>
 cnd (bX (aB v7 h12) v8 && true) (
 bnd (aY (dA 0 h5.next) [(.s [])] 1 [(0, 1, v12)] h12) fun v13 h13 =>
 bnd (bH 1 16 v8 v13 h13) fun v14 h14 =>
 bnd (bM x1 h14) fun v15 h15 =>
 bnd (aA 3 v15 h15) fun v16 h16 =>
 bnd (aC 1 v16 v14 h16) fun v17 h17 =>
 some (.t [], h17))) (
  aWi r n x0 x1 h0)
def aRj (r : RT) (n : Nat) (x0 x1 : DV) (h0 : Hp) : aG :=
 bnd (r 77 [x0, (aJ 3), (.s [])] h0) fun v1 h1 =>
  aMl r n x0 x1 v1 h1
def aKe (r : RT) (n : Nat) (x0 x1 x35 : DV) (h0 : Hp) : aG :=
 cB x35 (
 bnd (r 78 [x0] h0) fun v1 h1 =>
 bnd (eM 1 v1 h1) fun v2 h2 =>
 bnd (bM x1 h2) fun v3 h3 =>
 bnd (aA 1 v3 h3) fun v4 h4 =>
 bnd (aC 1 v4 v2 h4) fun _ h5 =>
 some (.t [], h5)) (
  aRj r n x0 x1 h0)
def s52 (r : RT) (n : Nat) (x0 x1 : DV) (h0 : Hp) : aG :=
 bnd (r 77 [x0, (aJ 1), (.s [])] h0) fun v1 h1 =>
  aKe r n x0 x1 v1 h1
abbrev c52 : Code := cf Tryz.f52
abbrev aJi := cL c52
abbrev aCz := cR aJi
abbrev aBt := cR aCz
abbrev aCv := cR aBt
abbrev aEp := cR aCv
abbrev aXm := cR aEp
abbrev aLs := cL aXm
abbrev vA := cL aLs
abbrev bJp := cL aEp
abbrev bQa := cL aCv
abbrev aZc := cL aBt
abbrev bPv := cL aCz
abbrev aYr := cL aJi
abbrev r52 : K := bT CF Tryz.f52
def D52 (r : RT) (n : Nat) (c : Code) (X : Nat → K) (k : K) : K := aU CF r 68 n c X r52 k
theorem bCa (kk6 : iK) : D52 r n vA (xs (xs x0 0 r52) 1 r52) (K3 kk6 0 1 4) = (K3 (xO r n kk6) 0 1 4) := by kernel_rfl
theorem bCw (m : Nat) : aN (fun kk => D52 r n vA (xs (xs x0 0 r52) 1 r52) kk) m = (K3 (mG r n m) 0 1 4) := by
 induction m with
 | zero => exact (by kernel_rfl : aN (fun kk => D52 r n vA (xs (xs x0 0 r52) 1 r52) kk) 0 = (K3 (mG r n 0) 0 1 4))
 | succ m ih =>
  refine (by kernel_rfl : aN (fun kk => D52 r n vA (xs (xs x0 0 r52) 1 r52) kk) (m + 1) = D52 r n vA (xs (xs x0 0 r52) 1 r52) (aN (fun kk => D52 r n vA (xs (xs x0 0 r52) 1 r52) kk) m)).trans ?_
  rw [ih]
  exact (bCa r n (mG r n m)).trans (by kernel_rfl)
theorem bPt : D52 r n aLs (xs (xs x0 0 r52) 1 r52) r52 = (K3 (aYy r n) 0 1 4) :=
 (by kernel_rfl : D52 r n aLs (xs (xs x0 0 r52) 1 r52) r52 = aN (fun kk => D52 r n vA (xs (xs x0 0 r52) 1 r52) kk) n).trans ((bCw r n n).trans (by kernel_rfl))
theorem bQf : D52 r n aXm (xs x0 0 r52) r52 = (K3 (aIy r n) 0 1 4) :=
 (by kernel_rfl : D52 r n aXm (xs x0 0 r52) r52 = D52 r n aLs (xs (xs x0 0 r52) 1 r52) r52).trans
 ((bPt r n).trans (by kernel_rfl))
theorem bBv : D52 r n aEp (xs x0 0 r52) r52 = D52 r n bJp (xs x0 0 r52) (K3 (aIy r n) 0 1 4) :=
 congrArg (fun k => D52 r n bJp (xs x0 0 r52) k) (bQf r n)
theorem bLm : D52 r n aEp (xs x0 0 r52) r52 = (K2 (aWi r n) 0 1) :=
 (bBv r n).trans
 ((by kernel_rfl))
theorem bMe : D52 r n aCv (xs x0 0 r52) r52 = (K3 (aMl r n) 0 1 44) :=
 (by kernel_rfl : D52 r n aCv (xs x0 0 r52) r52 = (fun (env : fQ) (h : Hp) => cB (opr env (cC aCv)) (D52 r n bQa (xs x0 0 r52) r52 env h) (D52 r n aEp (xs x0 0 r52) r52 env h))).trans (by rw [bLm r n]; kernel_rfl)
theorem aZr : D52 r n aBt (xs x0 0 r52) r52 = D52 r n aZc (xs x0 0 r52) (K3 (aMl r n) 0 1 44) :=
 congrArg (fun k => D52 r n aZc (xs x0 0 r52) k) (bMe r n)
theorem bRg : D52 r n aBt (xs x0 0 r52) r52 = (K2 (aRj r n) 0 1) :=
 (aZr r n).trans
 ((by kernel_rfl))
theorem bPr : D52 r n aCz (xs x0 0 r52) r52 = (K3 (aKe r n) 0 1 35) :=
 (by kernel_rfl : D52 r n aCz (xs x0 0 r52) r52 = (fun (env : fQ) (h : Hp) => cB (opr env (cC aCz)) (D52 r n bPv (xs x0 0 r52) r52 env h) (D52 r n aBt (xs x0 0 r52) r52 env h))).trans (by rw [bRg r n]; kernel_rfl)
theorem bVo : D52 r n aJi (xs x0 0 r52) r52 = D52 r n aYr (xs x0 0 r52) (K3 (aKe r n) 0 1 35) :=
 congrArg (fun k => D52 r n aYr (xs x0 0 r52) k) (bPr r n)
theorem bYg : D52 r n c52 x0 r52 = (K2 (s52 r n) 0 1) :=
 (by kernel_rfl : D52 r n c52 x0 r52 = D52 r n aJi (xs x0 0 r52) r52).trans
 ((bVo r n).trans
 ((by kernel_rfl)))
theorem bRu : aM CF r n 52 args h = s52 r n (aZ args 0) (aZ args 1) h :=
 fK (bYg r n) args h (by kernel_rfl) (by kernel_rfl)
def aWf (r : RT) (n : Nat) (x0 x3 : DV) (h0 : Hp) : aG :=
 bnd (r 51 [x0, (aJ 3), (.s [62])] h0) fun v1 h1 =>
 bnd (aA 2 x3 h1) fun v2 h2 =>
 bnd (aB v2 h2) fun v3 h3 =>
 some (v3, h3)
def bIc (r : RT) (n : Nat) (x0 x3 : DV) (h0 : Hp) : aG :=
 bnd (aA 2 x3 h0) fun v1 h1 =>
 bnd (aB v1 h1) fun v2 h2 =>
 bnd (aQ .gtr v2 (aJ 255) h2) fun v3 h3 =>
 cB v3 (
 bnd (aD 4 x3 h3) fun v4 h4 =>
 bnd (r 80 [x0, v4, (aJ 2)] h4) fun v5 h5 =>
  aWf r n x0 x3 h5) (
  aWf r n x0 x3 h3)
def bJo (r : RT) (n : Nat) (x0 : DV) (h0 : Hp) : aG :=
 bnd (r 51 [x0, (aJ 4), (.s [])] h0) fun v1 h1 =>
 bnd (cJ [(aJ 0), (.s []), (aJ 0), (aJ 0)] h1) fun v2 h2 =>
 bnd (aC 4 v2 v1 h2) fun _ h3 =>
  bIc r n x0 v2 h3
def bKb (r : RT) (n : Nat) (x0 : DV) (h0 : Hp) : aG :=
 bnd (r 51 [x0, (aJ 2), (.s [112, 114, 105, 109, 105, 116, 105, 118, 101, 58])] h0) fun v1 h1 =>
  bJo r n x0 h1
def bJj (r : RT) (n : Nat) (x0 : DV) (h0 : Hp) : aG :=
 bnd (r 78 [x0] h0) fun v1 h1 =>
  bKb r n x0 h1
def bIz (r : RT) (n : Nat) (x0 : DV) (h0 : Hp) : aG :=
 bnd (r 77 [x0, (aJ 3), (.s [60])] h0) fun v1 h1 =>
 bnd (pJ .not v1 h1) fun v2 h2 =>
 cB v2 (
 some ((aJ 0), h2)) (
  bJj r n x0 h2)
def s53 (r : RT) (n : Nat) (x0 : DV) (h0 : Hp) : aG :=
 bIz r n x0 h0
abbrev c53 : Code := cf Tryz.f53
abbrev r53 : K := bT CF Tryz.f53
def D53 (r : RT) (n : Nat) (c : Code) (X : Nat → K) (k : K) : K := aU CF r 23 n c X r53 k
theorem bYt : D53 r n c53 x0 r53 = (K1 (s53 r n) 0) := by kernel_rfl
theorem bTr : aM CF r n 53 args h = s53 r n (aZ args 0) h :=
 fK (bYt r n) args h (by kernel_rfl) (by kernel_rfl)
def s57 (r : RT) (n : Nat) (x0 x1 : DV) (h0 : Hp) : aG :=
 bnd (r 85 [x0, x1] h0) fun v1 h1 =>
 some (v1, h1)
abbrev c57 : Code := cf Tryz.f57
abbrev r57 : K := bT CF Tryz.f57
def D57 (r : RT) (n : Nat) (c : Code) (X : Nat → K) (k : K) : K := aU CF r 8 n c X r57 k
theorem bYl : D57 r n c57 x0 r57 = (K2 (s57 r n) 0 1) :=
 (by kernel_rfl)
theorem bUu : aM CF r n 57 args h = s57 r n (aZ args 0) (aZ args 1) h :=
 fK (bYl r n) args h (by kernel_rfl) (by kernel_rfl)
def s58 (r : RT) (n : Nat) (x0 x1 : DV) (h0 : Hp) : aG :=
 bnd (iE x1 h0) fun v1 h1 =>
 bnd (qB [x0, x1, v1, (.i .i64 (Int.negSucc 0))] h1) fun v2 h2 =>
 some (v2, h2)
abbrev c58 : Code := cf Tryz.f58
abbrev r58 : K := bT CF Tryz.f58
def D58 (r : RT) (n : Nat) (c : Code) (X : Nat → K) (k : K) : K := aU CF r 10 n c X r58 k
theorem bYa : D58 r n c58 x0 r58 = (K2 (s58 r n) 0 1) :=
 (by kernel_rfl)
theorem bSx : aM CF r n 58 args h = s58 r n (aZ args 0) (aZ args 1) h :=
 fK (bYa r n) args h (by kernel_rfl) (by kernel_rfl)
def aJk (r : RT) (n : Nat) (x0 x1 x5 : DV) (h0 : Hp) : aG :=
 bnd (r 89 [x1, (aJ 0), x5] (gT 1 h0)) fun v1 h1 =>
 bnd (dB 6 x1 (some (aJ 1)) none h1) fun v2 h2 =>
 cnd (bX (dB 6 x1 (some (aJ 1)) none (gT 1 h0)) v2 && true) (
 bnd (r 90 [x0, v2] h2) fun v3 h3 =>
 bnd (aY (dA 0 h0.next) [(.s []), (.s []), (.s [])] 3 [(0, 1, v1), (1, 1, (.s [32])), (2, 1, v3)] h3) fun v4 h4 =>
 bnd (r 19 [v4] h4) fun v5 h5 =>
 some (v5, h5))
def bIw (r : RT) (n : Nat) (x0 x1 x5 : DV) (h0 : Hp) : aG :=
 bnd (r 32 [x0] h0) fun v1 h1 =>
 bnd (aQ .eql v1 (aJ 1) h1) fun v2 h2 =>
 cB v2 (
  aJk r n x0 x1 (aJ 1) h2) (
  aJk r n x0 x1 x5 h2)
def bJq (r : RT) (n : Nat) (x0 x1 : DV) (h0 : Hp) : aG :=
 bIw r n x0 x1 (aJ 2) h0
def bJy (r : RT) (n : Nat) (x0 x1 : DV) (h0 : Hp) : aG :=
 bnd (fS x1 h0) fun v1 h1 =>
 bnd (aQ .eql v1 (aJ 0) h1) fun v2 h2 =>
 cB v2 (
 some ((.s []), h2)) (
  bJq r n x0 x1 h2)
def s61 (r : RT) (n : Nat) (x0 x1 : DV) (h0 : Hp) : aG :=
 bJy r n x0 x1 h0
abbrev c61 : Code := cf Tryz.f61
abbrev r61 : K := bT CF Tryz.f61
def D61 (r : RT) (n : Nat) (c : Code) (X : Nat → K) (k : K) : K := aU CF r 21 n c X r61 k
theorem bYw : D61 r n c61 x0 r61 = (K2 (s61 r n) 0 1) := by kernel_rfl
theorem bRr : aM CF r n 61 args h = s61 r n (aZ args 0) (aZ args 1) h :=
 fK (bYw r n) args h (by kernel_rfl) (by kernel_rfl)
def s62 (r : RT) (n : Nat) (x0 : DV) (h0 : Hp) : aG :=
 bnd (fS x0 h0) fun v1 h1 =>
 bnd (aQ .lss v1 (aJ 2) h1) fun v2 h2 =>
 cB v2 (
 some ((.s []), h2)) (
 bnd (aT 6 x0 (aJ 0) (gT 1 h2)) fun v3 h3 =>
 bnd (aD 6 v3 h3) fun v4 h4 =>
 bnd (aY (dA 0 h2.next) fM 1 [(0, 6, v4)] h4) fun v5 h5 =>
 bnd (aT 6 x0 (aJ 1) h5) fun v6 h6 =>
 bnd (aA 5 v6 h6) fun v7 h7 =>
 bnd (aB v7 h7) fun v8 h8 =>
 cnd (bX (aB v7 (gT 1 h2)) v8 && true) (
 bnd (bH 6 104 v5 v8 h8) fun v9 h9 =>
 bnd (dB 6 x0 (some (aJ 2)) none h9) fun v10 h10 =>
 bnd (r 35 [v10, (.s []), (.f 91 [] [])] h10) fun v11 h11 =>
 bnd (aT 6 x0 (aJ 1) h11) fun v12 h12 =>
 bnd (aA 1 v12 h12) fun v13 h13 =>
 bnd (aB v13 h13) fun v14 h14 =>
 bnd (r 61 [v14, v9] h14) fun v15 h15 =>
 bnd (aO [(.s []), (.s [])] 2 [(0, 1, v15), (1, 1, v11)] h15) fun v16 h16 =>
 bnd (r 19 [v16] h16) fun v17 h17 =>
 some (v17, h17)))
abbrev c62 : Code := cf Tryz.f62
abbrev r62 : K := bT CF Tryz.f62
def D62 (r : RT) (n : Nat) (c : Code) (X : Nat → K) (k : K) : K := aU CF r 29 n c X r62 k
theorem bXx : D62 r n c62 x0 r62 = (K1 (s62 r n) 0) :=
 (by kernel_rfl)
theorem bVj : aM CF r n 62 args h = s62 r n (aZ args 0) h :=
 fK (bXx r n) args h (by kernel_rfl) (by kernel_rfl)
def gI (r : RT) (n : Nat) (h0 : Hp) : aG :=
 some ((.b true), h0)
def qN (r : RT) (n : Nat) (kk5 : TT4) (x0 x1 x12 x13 : DV) (h0 : Hp) : aG :=
 bnd (aQ .lss x13 x12 h0) fun v1 h1 =>
 cB v1 (
 bnd (aT 1 x0 x13 h1) fun v2 h2 =>
 bnd (aB v2 h2) fun v3 h3 =>
 bnd (aT 1 x1 x13 h3) fun v4 h4 =>
 bnd (aB v4 h4) fun v5 h5 =>
 bnd (gU .neq v3 v5 h5) fun v6 h6 =>
 cB v6 (
 some ((.b false), h6)) (
 bnd (aQ .add x13 (aJ 1) h6) fun v7 h7 =>
  kk5 x0 x1 x12 v7 h7)) (
      gI r n h1)
def lR (r : RT) (n : Nat) (m : Nat) : TT4 :=
 Nat.rec (motive := fun _ => TT4) (fun _ _ _ _ _ => none) (fun _ ih => qN r n ih) m
def aUz (r : RT) (n : Nat) : TT4 := lR r n n
def aIn (r : RT) (n : Nat) (x0 x1 x12 x13 : DV) (h0 : Hp) : aG :=
 aUz r n x0 x1 x12 x13 h0
def aLb (r : RT) (n : Nat) (x0 x1 : DV) (h0 : Hp) : aG :=
 bnd (fS x0 h0) fun v1 h1 =>
  aIn r n x0 x1 v1 (aJ 0) h1
def aKd (r : RT) (n : Nat) (x0 x1 : DV) (h0 : Hp) : aG :=
 bnd (fS x0 h0) fun v1 h1 =>
 bnd (fS x1 h1) fun v2 h2 =>
 bnd (aQ .neq v1 v2 h2) fun v3 h3 =>
 cB v3 (
 some ((.b false), h3)) (
  aLb r n x0 x1 h3)
def s63 (r : RT) (n : Nat) (x0 x1 : DV) (h0 : Hp) : aG :=
 aKd r n x0 x1 h0
abbrev c63 : Code := cf Tryz.f63
abbrev aLv := cR c63
abbrev aKx := cR aLv
abbrev bRs := cR aKx
abbrev aDb := cL aKx
abbrev aUm := cR aDb
abbrev aHn := cL aUm
abbrev sZ := cL aHn
abbrev bJu := cL aDb
abbrev bJe := cL aLv
abbrev aUl := cL c63
abbrev r63 : K := bT CF Tryz.f63
def D63 (r : RT) (n : Nat) (c : Code) (X : Nat → K) (k : K) : K := aU CF r 26 n c X r63 k
theorem bKz : D63 r n bRs x0 r63 = (K0 (gI r n)) := by kernel_rfl
theorem bCc (kk5 : TT4) : D63 r n sZ (xs x0 0 (K0 (gI r n))) (K4 kk5 0 1 12 13) = (K4 (qN r n kk5) 0 1 12 13) := by kernel_rfl
theorem bCl (m : Nat) : aN (fun kk => D63 r n sZ (xs x0 0 (K0 (gI r n))) kk) m = (K4 (lR r n m) 0 1 12 13) := by
 induction m with
 | zero => exact (by kernel_rfl : aN (fun kk => D63 r n sZ (xs x0 0 (K0 (gI r n))) kk) 0 = (K4 (lR r n 0) 0 1 12 13))
 | succ m ih =>
  refine (by kernel_rfl : aN (fun kk => D63 r n sZ (xs x0 0 (K0 (gI r n))) kk) (m + 1) = D63 r n sZ (xs x0 0 (K0 (gI r n))) (aN (fun kk => D63 r n sZ (xs x0 0 (K0 (gI r n))) kk) m)).trans ?_
  rw [ih]
  exact (bCc r n (lR r n m)).trans (by kernel_rfl)
theorem bLi : D63 r n aHn (xs x0 0 (K0 (gI r n))) (K0 (gI r n)) = (K4 (aUz r n) 0 1 12 13) :=
 (by kernel_rfl : D63 r n aHn (xs x0 0 (K0 (gI r n))) (K0 (gI r n)) = aN (fun kk => D63 r n sZ (xs x0 0 (K0 (gI r n))) kk) n).trans ((bCl r n n).trans (by kernel_rfl))
theorem bOh : D63 r n aUm x0 (K0 (gI r n)) = (K4 (aIn r n) 0 1 12 13) :=
 (by kernel_rfl : D63 r n aUm x0 (K0 (gI r n)) = D63 r n aHn (xs x0 0 (K0 (gI r n))) (K0 (gI r n))).trans
 ((bLi r n).trans (by kernel_rfl))
theorem aZy : D63 r n aKx x0 r63 = D63 r n aDb x0 (K0 (gI r n)) :=
 congrArg (fun k => D63 r n aDb x0 k) (bKz r n)
theorem bCn : D63 r n aDb x0 (K0 (gI r n)) = D63 r n bJu x0 (K4 (aIn r n) 0 1 12 13) :=
 congrArg (fun k => D63 r n bJu x0 k) (bOh r n)
theorem bPm : D63 r n aKx x0 r63 = (K2 (aLb r n) 0 1) :=
 (aZy r n).trans
 ((bCn r n).trans
 ((by kernel_rfl)))
theorem bHn : D63 r n aLv x0 r63 = D63 r n bJe x0 (K2 (aLb r n) 0 1) :=
 congrArg (fun k => D63 r n bJe x0 k) (bPm r n)
theorem bLn : D63 r n aLv x0 r63 = (K2 (aKd r n) 0 1) :=
 (bHn r n).trans
 ((by kernel_rfl))
theorem bVg : D63 r n c63 x0 r63 = D63 r n aUl x0 (K2 (aKd r n) 0 1) :=
 congrArg (fun k => D63 r n aUl x0 k) (bLn r n)
theorem bXa : D63 r n c63 x0 r63 = (K2 (s63 r n) 0 1) :=
 (bVg r n).trans
 ((by kernel_rfl))
theorem bUi : aM CF r n 63 args h = s63 r n (aZ args 0) (aZ args 1) h :=
 fK (bXa r n) args h (by kernel_rfl) (by kernel_rfl)
def gO (r : RT) (n : Nat) (h0 : Hp) : aG :=
 some ((.b true), h0)
def pV (r : RT) (n : Nat) (kk5 : TT5) (x1 x2 x15 x16 x17 : DV) (h0 : Hp) : aG :=
 bnd (aQ .lss x17 x16 h0) fun v1 h1 =>
 cB v1 (
 bnd (aT 6 x15 x17 h1) fun v2 h2 =>
 bnd (aD 6 v2 h2) fun v3 h3 =>
 bnd (cJ fM h3) fun v4 h4 =>
 bnd (aC 6 v4 v3 h4) fun _ h5 =>
 bnd (aT 6 x1 x17 h5) fun v6 h6 =>
 bnd (aD 6 v6 h6) fun v7 h7 =>
 bnd (cJ fM h7) fun v8 h8 =>
 bnd (aC 6 v8 v7 h8) fun _ h9 =>
 bnd (aD 6 v4 h9) fun v10 h10 =>
 bnd (aD 6 v8 h10) fun v11 h11 =>
 bnd (dM CF r x2 [v10, v11] h11) fun v12 h12 =>
 bnd (pJ .not v12 h12) fun v13 h13 =>
 cB v13 (
 some ((.b false), h13)) (
 bnd (aQ .add x17 (aJ 1) h13) fun v14 h14 =>
  kk5 x1 x2 x15 x16 v14 h14)) (
      gO r n h1)
def jX (r : RT) (n : Nat) (m : Nat) : TT5 :=
 Nat.rec (motive := fun _ => TT5) (fun _ _ _ _ _ _ => none) (fun _ ih => pV r n ih) m
def aXc (r : RT) (n : Nat) : TT5 := jX r n n
def aMi (r : RT) (n : Nat) (x1 x2 x15 x16 x17 : DV) (h0 : Hp) : aG :=
 aXc r n x1 x2 x15 x16 x17 h0
def aJq (r : RT) (n : Nat) (x0 x1 x2 : DV) (h0 : Hp) : aG :=
 bnd (fS x0 h0) fun v1 h1 =>
  aMi r n x1 x2 x0 v1 (aJ 0) h1
def aIf (r : RT) (n : Nat) (x0 x1 x2 : DV) (h0 : Hp) : aG :=
 bnd (fS x0 h0) fun v1 h1 =>
 bnd (fS x1 h1) fun v2 h2 =>
 bnd (aQ .neq v1 v2 h2) fun v3 h3 =>
 cB v3 (
 some ((.b false), h3)) (
  aJq r n x0 x1 x2 h3)
def s64 (r : RT) (n : Nat) (x0 x1 x2 : DV) (h0 : Hp) : aG :=
 aIf r n x0 x1 x2 h0
abbrev c64 : Code := cf Tryz.f64
abbrev aKt := cR c64
abbrev aNc := cR aKt
abbrev bUm := cR aNc
abbrev aCk := cL aNc
abbrev aWc := cR aCk
abbrev aLa := cL aWc
abbrev uG := cL aLa
abbrev bJs := cL aCk
abbrev bJw := cL aKt
abbrev aUu := cL c64
abbrev r64 : K := bT CF Tryz.f64
def D64 (r : RT) (n : Nat) (c : Code) (X : Nat → K) (k : K) : K := aU CF r 32 n c X r64 k
theorem bLu : D64 r n bUm x0 r64 = (K0 (gO r n)) := by kernel_rfl
theorem bEe (kk5 : TT5) : D64 r n uG (xs x0 0 (K0 (gO r n))) (K5 kk5 1 2 15 16 17) = (K5 (pV r n kk5) 1 2 15 16 17) := by kernel_rfl
theorem bGr (m : Nat) : aN (fun kk => D64 r n uG (xs x0 0 (K0 (gO r n))) kk) m = (K5 (jX r n m) 1 2 15 16 17) := by
 induction m with
 | zero => exact (by kernel_rfl : aN (fun kk => D64 r n uG (xs x0 0 (K0 (gO r n))) kk) 0 = (K5 (jX r n 0) 1 2 15 16 17))
 | succ m ih =>
  refine (by kernel_rfl : aN (fun kk => D64 r n uG (xs x0 0 (K0 (gO r n))) kk) (m + 1) = D64 r n uG (xs x0 0 (K0 (gO r n))) (aN (fun kk => D64 r n uG (xs x0 0 (K0 (gO r n))) kk) m)).trans ?_
  rw [ih]
  exact (bEe r n (jX r n m)).trans (by kernel_rfl)
theorem bNc : D64 r n aLa (xs x0 0 (K0 (gO r n))) (K0 (gO r n)) = (K5 (aXc r n) 1 2 15 16 17) :=
 (by kernel_rfl : D64 r n aLa (xs x0 0 (K0 (gO r n))) (K0 (gO r n)) = aN (fun kk => D64 r n uG (xs x0 0 (K0 (gO r n))) kk) n).trans ((bGr r n n).trans (by kernel_rfl))
theorem bQc : D64 r n aWc x0 (K0 (gO r n)) = (K5 (aMi r n) 1 2 15 16 17) :=
 (by kernel_rfl : D64 r n aWc x0 (K0 (gO r n)) = D64 r n aLa (xs x0 0 (K0 (gO r n))) (K0 (gO r n))).trans
 ((bNc r n).trans (by kernel_rfl))
theorem bEa : D64 r n aNc x0 r64 = D64 r n aCk x0 (K0 (gO r n)) :=
 congrArg (fun k => D64 r n aCk x0 k) (bLu r n)
theorem bFs : D64 r n aCk x0 (K0 (gO r n)) = D64 r n bJs x0 (K5 (aMi r n) 1 2 15 16 17) :=
 congrArg (fun k => D64 r n bJs x0 k) (bQc r n)
theorem bNu : D64 r n aNc x0 r64 = (K3 (aJq r n) 0 1 2) :=
 (bEa r n).trans
 ((bFs r n).trans
 ((by kernel_rfl)))
theorem bCv : D64 r n aKt x0 r64 = D64 r n bJw x0 (K3 (aJq r n) 0 1 2) :=
 congrArg (fun k => D64 r n bJw x0 k) (bNu r n)
theorem bMd : D64 r n aKt x0 r64 = (K3 (aIf r n) 0 1 2) :=
 (bCv r n).trans
 ((by kernel_rfl))
theorem bVc : D64 r n c64 x0 r64 = D64 r n aUu x0 (K3 (aIf r n) 0 1 2) :=
 congrArg (fun k => D64 r n aUu x0 k) (bMd r n)
theorem bWc : D64 r n c64 x0 r64 = (K3 (s64 r n) 0 1 2) :=
 (bVc r n).trans
 ((by kernel_rfl))
theorem bUo : aM CF r n 64 args h = s64 r n (aZ args 0) (aZ args 1) (aZ args 2) h :=
 fK (bWc r n) args h (by kernel_rfl) (by kernel_rfl)
end
end Go.Dd

namespace Go.Dd
open Go.Proofs
noncomputable section
variable (r : RT) (n : Nat) (args : List DV) (h : Hp)
end
end Go.Dd

namespace Go.Dd
open Go.Proofs
noncomputable section
variable (r : RT) (n : Nat) (args : List DV) (h : Hp)
def hC (r : RT) (n : Nat) (x0 x7 : DV) (h0 : Hp) : aG :=
 bnd (bM x0 h0) fun v1 h1 =>
 bnd (aA 0 v1 h1) fun v2 h2 =>
 bnd (aB v2 h2) fun v3 h3 =>
 bnd (bM x0 h3) fun v4 h4 =>
 bnd (aA 1 v4 h4) fun v5 h5 =>
 bnd (aB v5 h5) fun v6 h6 =>
 bnd (eH v3 (some x7) (some v6) h6) fun v7 h7 =>
 some (v7, h7)
def qG (r : RT) (n : Nat) (kk4 : TT4) (x0 x1 x2 x7 : DV) (h0 : Hp) : aG :=
 bnd (bM x0 h0) fun v1 h1 =>
 bnd (aA 1 v1 h1) fun v2 h2 =>
 bnd (aB v2 h2) fun v3 h3 =>
 bnd (bM x0 h3) fun v4 h4 =>
 bnd (aA 0 v4 h4) fun v5 h5 =>
 bnd (aB v5 h5) fun v6 h6 =>
 bnd (iE v6 h6) fun v7 h7 =>
 bnd (aQ .lss v3 v7 h7) fun v8 h8 =>
 bnd (gD v8 true (some (x0, h8)) h8) fun v9 h9 =>
 bnd (gD v8 true (bM v9 h9) h9) fun v10 h10 =>
 bnd (gD v8 true (aA 1 v10 h10) h10) fun v11 h11 =>
 bnd (gD v8 true (aB v11 h11) h11) fun v12 h12 =>
 bnd (gD v8 true (some (x7, h12)) h12) fun v13 h13 =>
 bnd (gD v8 true (aQ .sub v12 v13 h13) h13) fun v14 h14 =>
 bnd (gD v8 true (some (x2, h14)) h14) fun v15 h15 =>
 bnd (gD v8 true (aQ .lss v14 v15 h15) h15) fun v16 h16 =>
 bnd (cA v8 v16 (.b false) h16) fun v17 h17 =>
 bnd (gD v17 true (some (x1, h17)) h17) fun v18 h18 =>
 bnd (gD v17 true (some (x0, h18)) h18) fun v19 h19 =>
 bnd (gD v17 true (bM v19 h19) h19) fun v20 h20 =>
 bnd (gD v17 true (aA 0 v20 h20) h20) fun v21 h21 =>
 bnd (gD v17 true (aB v21 h21) h21) fun v22 h22 =>
 bnd (gD v17 true (some (x0, h22)) h22) fun v23 h23 =>
 bnd (gD v17 true (bM v23 h23) h23) fun v24 h24 =>
 bnd (gD v17 true (aA 1 v24 h24) h24) fun v25 h25 =>
 bnd (gD v17 true (aB v25 h25) h25) fun v26 h26 =>
 bnd (gD v17 true (eP v22 v26 h26) h26) fun v27 h27 =>
 bnd (gD v17 true (dM CF r v18 [v27] h27) h27) fun v28 h28 =>
 bnd (cA v17 v28 (.b false) h28) fun v29 h29 =>
 cB v29 (
 bnd (bM x0 h29) fun v30 h30 =>
 bnd (aA 1 v30 h30) fun v31 h31 =>
 bnd (aB v31 h31) fun v32 h32 =>
 bnd (aQ .add v32 (aJ 1) h32) fun v33 h33 =>
 bnd (bM x0 h33) fun v34 h34 =>
 bnd (aA 1 v34 h34) fun v35 h35 =>
 bnd (aC 1 v35 v33 h35) fun _ h36 =>
      kk4 x0 x1 x2 x7 h36) (
      hC r n x0 x7 h29)
def lA (r : RT) (n : Nat) (m : Nat) : TT4 :=
 Nat.rec (motive := fun _ => TT4) (fun _ _ _ _ _ => none) (fun _ ih => qG r n ih) m
def aUd (r : RT) (n : Nat) : TT4 := lA r n n
def aKk (r : RT) (n : Nat) (x0 x1 x2 x7 : DV) (h0 : Hp) : aG :=
 aUd r n x0 x1 x2 x7 h0
def aMt (r : RT) (n : Nat) (x0 x1 x2 : DV) (h0 : Hp) : aG :=
 bnd (bM x0 h0) fun v1 h1 =>
 bnd (aA 1 v1 h1) fun v2 h2 =>
 bnd (aB v2 h2) fun v3 h3 =>
  aKk r n x0 x1 x2 v3 h3
def s74 (r : RT) (n : Nat) (x0 x1 x2 : DV) (h0 : Hp) : aG :=
 aMt r n x0 x1 x2 h0
abbrev c74 : Code := cf Tryz.f74
abbrev aKb := cR c74
abbrev aIq := cR aKb
abbrev bTu := cR aIq
abbrev aIg := cL aIq
abbrev aHx := cL aIg
abbrev uZ := cL aHx
abbrev bJf := cL aKb
abbrev bJb := cL c74
abbrev r74 : K := bT CF Tryz.f74
def D74 (r : RT) (n : Nat) (c : Code) (X : Nat → K) (k : K) : K := aU CF r 62 n c X r74 k
theorem bMy : D74 r n bTu x0 r74 = (K2 (hC r n) 0 7) := by kernel_rfl
theorem bAj (kk4 : TT4) : D74 r n uZ (xs x0 0 (K2 (hC r n) 0 7)) (K4 kk4 0 1 2 7) = (K4 (qG r n kk4) 0 1 2 7) := by kernel_rfl
theorem bBl (m : Nat) : aN (fun kk => D74 r n uZ (xs x0 0 (K2 (hC r n) 0 7)) kk) m = (K4 (lA r n m) 0 1 2 7) := by
 induction m with
 | zero => exact (by kernel_rfl : aN (fun kk => D74 r n uZ (xs x0 0 (K2 (hC r n) 0 7)) kk) 0 = (K4 (lA r n 0) 0 1 2 7))
 | succ m ih =>
  refine (by kernel_rfl : aN (fun kk => D74 r n uZ (xs x0 0 (K2 (hC r n) 0 7)) kk) (m + 1) = D74 r n uZ (xs x0 0 (K2 (hC r n) 0 7)) (aN (fun kk => D74 r n uZ (xs x0 0 (K2 (hC r n) 0 7)) kk) m)).trans ?_
  rw [ih]
  exact (bAj r n (lA r n m)).trans (by kernel_rfl)
theorem bLh : D74 r n aHx (xs x0 0 (K2 (hC r n) 0 7)) (K2 (hC r n) 0 7) = (K4 (aUd r n) 0 1 2 7) :=
 (by kernel_rfl : D74 r n aHx (xs x0 0 (K2 (hC r n) 0 7)) (K2 (hC r n) 0 7) = aN (fun kk => D74 r n uZ (xs x0 0 (K2 (hC r n) 0 7)) kk) n).trans ((bBl r n n).trans (by kernel_rfl))
theorem bBx : D74 r n aIq x0 r74 = D74 r n aIg x0 (K2 (hC r n) 0 7) :=
 congrArg (fun k => D74 r n aIg x0 k) (bMy r n)
theorem bKo : D74 r n aIq x0 r74 = (K4 (aKk r n) 0 1 2 7) :=
 (bBx r n).trans
 ((by kernel_rfl : D74 r n aIg x0 (K2 (hC r n) 0 7) = D74 r n aHx (xs x0 0 (K2 (hC r n) 0 7)) (K2 (hC r n) 0 7)).trans
 ((bLh r n).trans (by kernel_rfl)))
theorem bAv : D74 r n aKb x0 r74 = D74 r n bJf x0 (K4 (aKk r n) 0 1 2 7) :=
 congrArg (fun k => D74 r n bJf x0 k) (bKo r n)
theorem bOk : D74 r n aKb x0 r74 = (K3 (aMt r n) 0 1 2) :=
 (bAv r n).trans
 ((by kernel_rfl))
theorem bSi : D74 r n c74 x0 r74 = D74 r n bJb x0 (K3 (aMt r n) 0 1 2) :=
 congrArg (fun k => D74 r n bJb x0 k) (bOk r n)
theorem bYy : D74 r n c74 x0 r74 = (K3 (s74 r n) 0 1 2) :=
 (bSi r n).trans
 ((by kernel_rfl))
theorem bSe : aM CF r n 74 args h = s74 r n (aZ args 0) (aZ args 1) (aZ args 2) h :=
 fK (bYy r n) args h (by kernel_rfl) (by kernel_rfl)
def s75 (r : RT) (n : Nat) (x0 : DV) (h0 : Hp) : aG :=
 bnd (iB x0 h0) fun v1 h1 =>
 some ((.f 105 [] [v1]), h1)
abbrev c75 : Code := cf Tryz.f75
abbrev r75 : K := bT CF Tryz.f75
def D75 (r : RT) (n : Nat) (c : Code) (X : Nat → K) (k : K) : K := aU CF r 4 n c X r75 k
theorem bXo : D75 r n c75 x0 r75 = (K1 (s75 r n) 0) :=
 (by kernel_rfl)
theorem bVd : aM CF r n 75 args h = s75 r n (aZ args 0) h :=
 fK (bXo r n) args h (by kernel_rfl) (by kernel_rfl)
def fB (r : RT) (n : Nat) (x2 x4 x5 : DV) (h0 : Hp) : aG :=
 bnd (aD 4 x4 h0) fun v1 h1 =>
 bnd (aC 4 x2 v1 h1) fun _ h2 =>
 bnd (aD 4 x2 h2) fun v3 _ =>
 some (.t [v3, x5], h2)
def bJc (r : RT) (n : Nat) (x0 x2 x4 x5 x6 : DV) (h0 : Hp) : aG :=
 bnd (r 107 [x6] h0) fun v1 h1 =>
 cB v1 (
 bnd (aA 0 x4 h1) fun v2 h2 =>
 bnd (aC 1 v2 (aJ 1) h2) fun _ h3 =>
 bnd (r 108 [x0] h3) fun v4 h4 =>
 bnd (aH 0 v4 h4) fun v5 h5 =>
 bnd (aH 1 v4 h5) fun v6 h6 =>
 bnd (aA 1 x4 h6) fun v7 h7 =>
 bnd (aC 1 v7 v5 h7) fun _ h8 =>
 bnd (aQ .eql v6 (aJ 0) h8) fun v9 h9 =>
 bnd (gD v9 true (some (x0, h9)) h9) fun v10 h10 =>
 bnd (gD v9 true (r 109 [v10] h10) h10) fun v11 h11 =>
 bnd (cA v9 v11 (.b false) h11) fun v12 h12 =>
 cB v12 (
 bnd (aA 1 x4 h12) fun v13 h13 =>
 bnd (aB v13 h13) fun v14 h14 =>
 bnd (gU .add v14 (.s [58]) h14) fun v15 h15 =>
 bnd (aA 0 x4 h15) fun v16 h16 =>
 bnd (aC 1 v16 (aJ 2) h16) fun _ h17 =>
 bnd (aA 1 x4 h17) fun v18 h18 =>
 bnd (aC 1 v18 v15 h18) fun _ h19 =>
      fB r n x2 x4 v6 h19) (
      fB r n x2 x4 v6 h12)) (
 bnd (r 110 [x6] h1) fun v20 h20 =>
 cB v20 (
 bnd (aA 0 x4 h20) fun v21 h21 =>
 bnd (aC 1 v21 (aJ 4) h21) fun _ h22 =>
 bnd (r 111 [x0] h22) fun v23 h23 =>
 bnd (aH 0 v23 h23) fun v24 h24 =>
 bnd (aH 1 v23 h24) fun v25 h25 =>
 bnd (aA 2 x4 h25) fun v26 h26 =>
 bnd (aC 1 v26 v24 h26) fun _ h27 =>
      fB r n x2 x4 v25 h27) (
 bnd (aQ .eql x6 (.i .u8 (Int.ofNat 39)) h20) fun v28 h28 =>
 cB v28 (
 bnd (bM x0 h28) fun v29 h29 =>
 bnd (aA 1 v29 h29) fun v30 h30 =>
 bnd (aB v30 h30) fun v31 h31 =>
 bnd (aQ .add v31 (aJ 1) h31) fun v32 h32 =>
 bnd (bM x0 h32) fun v33 h33 =>
 bnd (aA 1 v33 h33) fun v34 h34 =>
 bnd (aC 1 v34 v32 h34) fun _ h35 =>
 bnd (aA 0 x4 h35) fun v36 h36 =>
 bnd (aC 1 v36 (aJ 5) h36) fun _ h37 =>
 bnd (r 112 [x0] h37) fun v38 h38 =>
 bnd (aH 0 v38 h38) fun v39 h39 =>
 bnd (aH 1 v38 h39) fun v40 h40 =>
 bnd (aA 1 x4 h40) fun v41 h41 =>
 bnd (aC 1 v41 v39 h41) fun _ h42 =>
  fB r n x2 x4 v40 h42) (
 bnd (aQ .eql x6 (.i .u8 (Int.ofNat 35)) h28) fun v43 h43 =>
 bnd (gD v43 true (some (x0, h43)) h43) fun v44 h44 =>
 bnd (gD v43 true (r 106 [v44, (aJ 1)] h44) h44) fun v45 h45 =>
 bnd (gD v43 true (aQ .eql v45 (.i .u8 (Int.ofNat 40)) h45) h45) fun v46 h46 =>
 bnd (cA v43 v46 (.b false) h46) fun v47 h47 =>
 cB v47 (
 bnd (bM x0 h47) fun v48 h48 =>
 bnd (aA 1 v48 h48) fun v49 h49 =>
 bnd (aB v49 h49) fun v50 h50 =>
 bnd (aQ .add v50 (aJ 2) h50) fun v51 h51 =>
 bnd (bM x0 h51) fun v52 h52 =>
 bnd (aA 1 v52 h52) fun v53 h53 =>
 bnd (aC 1 v53 v51 h53) fun _ h54 =>
 bnd (aA 0 x4 h54) fun v55 h55 =>
 bnd (aC 1 v55 (aJ 7) h55) fun _ h56 =>
  fB r n x2 x4 x5 h56) (
 bnd (aQ .eql x6 (.i .u8 (Int.ofNat 35)) h47) fun v57 h57 =>
 cB v57 (
 bnd (bM x0 h57) fun v58 h58 =>
 bnd (aA 1 v58 h58) fun v59 h59 =>
 bnd (aB v59 h59) fun v60 h60 =>
 bnd (aQ .add v60 (aJ 1) h60) fun v61 h61 =>
 bnd (bM x0 h61) fun v62 h62 =>
 bnd (aA 1 v62 h62) fun v63 h63 =>
 bnd (aC 1 v63 v61 h63) fun _ h64 =>
 bnd (aA 0 x4 h64) fun v65 h65 =>
 bnd (aC 1 v65 (aJ 6) h65) fun _ h66 =>
 bnd (r 113 [x0] h66) fun v67 h67 =>
 bnd (aH 0 v67 h67) fun v68 h68 =>
 bnd (aH 1 v67 h68) fun v69 h69 =>
 bnd (aA 1 x4 h69) fun v70 h70 =>
 bnd (aC 1 v70 v68 h70) fun _ h71 =>
  fB r n x2 x4 v69 h71) (
 bnd (aQ .eql x6 (.i .u8 (Int.ofNat 58)) h57) fun v72 h72 =>
 bnd (gD v72 true (some (x0, h72)) h72) fun v73 h73 =>
 bnd (gD v72 true (r 106 [v73, (aJ 1)] h73) h73) fun v74 h74 =>
 bnd (gD v72 true (aQ .eql v74 (.i .u8 (Int.ofNat 61)) h74) h74) fun v75 h75 =>
 bnd (cA v72 v75 (.b false) h75) fun v76 h76 =>
 cB v76 (
 bnd (bM x0 h76) fun v77 h77 =>
 bnd (aA 1 v77 h77) fun v78 h78 =>
 bnd (aB v78 h78) fun v79 h79 =>
 bnd (aQ .add v79 (aJ 2) h79) fun v80 h80 =>
 bnd (bM x0 h80) fun v81 h81 =>
 bnd (aA 1 v81 h81) fun v82 h82 =>
 bnd (aC 1 v82 v80 h82) fun _ h83 =>
 bnd (aA 0 x4 h83) fun v84 h84 =>
 bnd (aC 1 v84 (aJ 9) h84) fun _ h85 =>
  fB r n x2 x4 x5 h85) (
 bnd (aQ .eql x6 (.i .u8 (Int.ofNat 58)) h76) fun v86 h86 =>
 bnd (gD v86 true (some (x0, h86)) h86) fun v87 h87 =>
 bnd (gD v86 true (r 106 [v87, (aJ 1)] h87) h87) fun v88 h88 =>
 bnd (gD v86 true (r 107 [v88] h88) h88) fun v89 h89 =>
 bnd (cA v86 v89 (.b false) h89) fun v90 h90 =>
 cB v90 (
 bnd (bM x0 h90) fun v91 h91 =>
 bnd (aA 1 v91 h91) fun v92 h92 =>
 bnd (aB v92 h92) fun v93 h93 =>
 bnd (aQ .add v93 (aJ 1) h93) fun v94 h94 =>
 bnd (bM x0 h94) fun v95 h95 =>
 bnd (aA 1 v95 h95) fun v96 h96 =>
 bnd (aC 1 v96 v94 h96) fun _ h97 =>
 bnd (aA 0 x4 h97) fun v98 h98 =>
 bnd (aC 1 v98 (aJ 8) h98) fun _ h99 =>
 bnd (r 108 [x0] h99) fun v100 h100 =>
 bnd (aH 0 v100 h100) fun v101 h101 =>
 bnd (aH 1 v100 h101) fun v102 h102 =>
 bnd (aA 1 x4 h102) fun v103 h103 =>
 bnd (aC 1 v103 v101 h103) fun _ h104 =>
  fB r n x2 x4 v102 h104) (
 bnd (r 75 [(.s [43, 45, 42, 47, 60, 62, 61, 126, 44, 64, 38, 37])] h90) fun v105 h105 =>
 bnd (dM CF r v105 [x6] h105) fun v106 h106 =>
 cB v106 (
 bnd (r 75 [(.s [43, 45, 42, 47, 60, 62, 61, 126, 44, 64, 38, 37])] h106) fun v107 h107 =>
 bnd (r 74 [x0, v107, (aJ 2)] h107) fun v108 h108 =>
 bnd (aA 0 x4 h108) fun v109 h109 =>
 bnd (aC 1 v109 (aJ 3) h109) fun _ h110 =>
 bnd (aA 1 x4 h110) fun v111 h111 =>
 bnd (aC 1 v111 v108 h111) fun _ h112 =>
  fB r n x2 x4 x5 h112) (
 bnd (r 75 [(.s [94, 46, 59, 40, 41, 91, 93, 124])] h106) fun v113 h113 =>
 bnd (dM CF r v113 [x6] h113) fun v114 h114 =>
 cB v114 (
 bnd (r 75 [(.s [94, 46, 59, 40, 41, 91, 93, 124])] h114) fun v115 h115 =>
 bnd (r 74 [x0, v115, (aJ 1)] h115) fun v116 h116 =>
 bnd (aA 0 x4 h116) fun v117 h117 =>
 bnd (aC 1 v117 (aJ 10) h117) fun _ h118 =>
 bnd (aA 1 x4 h118) fun v119 h119 =>
 bnd (aC 1 v119 v116 h119) fun _ h120 =>
  fB r n x2 x4 x5 h120) (
  fB r n x2 x4 (aJ 10) h114)))))))))
def bJn (r : RT) (n : Nat) (x0 x2 x4 x5 : DV) (h0 : Hp) : aG :=
 bnd (r 106 [x0, (aJ 0)] h0) fun v1 h1 =>
  bJc r n x0 x2 x4 x5 v1 h1
def bJh (r : RT) (n : Nat) (x0 x2 x4 : DV) (h0 : Hp) : aG :=
 bJn r n x0 x2 x4 (aJ 0) h0
def bIp (r : RT) (n : Nat) (x0 x2 : DV) (h0 : Hp) : aG :=
 bnd (bM x0 h0) fun v1 h1 =>
 bnd (aA 1 v1 h1) fun v2 h2 =>
 bnd (aB v2 h2) fun v3 h3 =>
 bnd (cS [(aJ 0), (.s []), (aJ 0), (aJ 0)] [(3, 1, v3)] h3) fun v4 h4 =>
 bnd (cJ [(aJ 0), (.s []), (aJ 0), (aJ 0)] h4) fun v5 h5 =>
 bnd (aC 4 v5 v4 h5) fun _ h6 =>
  bJh r n x0 x2 v5 h6
def s76 (r : RT) (n : Nat) (x0 : DV) (h0 : Hp) : aG :=
 bnd (cJ [(aJ 0), (.s []), (aJ 0), (aJ 0)] h0) fun v1 h1 =>
  bIp r n x0 v1 h1
abbrev c76 : Code := cf Tryz.f76
abbrev r76 : K := bT CF Tryz.f76
def D76 (r : RT) (n : Nat) (c : Code) (X : Nat → K) (k : K) : K := aU CF r 153 n c X r76 k
theorem bVy : D76 r n c76 x0 r76 = (K1 (s76 r n) 0) := by kernel_rfl
theorem bUk : aM CF r n 76 args h = s76 r n (aZ args 0) h :=
 fK (bVy r n) args h (by kernel_rfl) (by kernel_rfl)
def s77 (r : RT) (n : Nat) (x0 x1 x2 : DV) (h0 : Hp) : aG :=
 bnd (r 81 [x0, (aJ 0)] h0) fun v1 h1 =>
 bnd (cJ [(aJ 0), (.s []), (aJ 0), (aJ 0)] h1) fun v2 h2 =>
 bnd (aC 4 v2 v1 h2) fun _ h3 =>
 bnd (bM x0 h3) fun v4 h4 =>
 bnd (aA 3 v4 h4) fun v5 h5 =>
 bnd (aB v5 h5) fun v6 h6 =>
 bnd (aQ .eql v6 (aJ 0) h6) fun v7 h7 =>
 bnd (gD v7 true (aA 0 v2 h7) h7) fun v8 h8 =>
 bnd (gD v7 true (aB v8 h8) h8) fun v9 h9 =>
 bnd (gD v7 true (some (x1, h9)) h9) fun v10 h10 =>
 bnd (gD v7 true (aQ .eql v9 v10 h10) h10) fun v11 h11 =>
 bnd (cA v7 v11 (.b false) h11) fun v12 h12 =>
 bnd (gD v12 true (some (x2, h12)) h12) fun v13 h13 =>
 bnd (gD v12 true (gU .eql v13 (.s []) h13) h13) fun v14 h14 =>
 bnd (gD v12 true (some (v14, h14)) h14) fun v15 h15 =>
 bnd (gD v15 false (aA 1 v2 h15) h15) fun v16 h16 =>
 bnd (gD v15 false (aB v16 h16) h16) fun v17 h17 =>
 bnd (gD v15 false (some (x2, h17)) h17) fun v18 h18 =>
 bnd (gD v15 false (gU .eql v17 v18 h18) h18) fun v19 h19 =>
 bnd (gD v12 true (cA v15 (.b true) v19 h19) h19) fun v20 h20 =>
 bnd (cA v12 v20 (.b false) h20) fun v21 h21 =>
 some (v21, h21)
abbrev c77 : Code := cf Tryz.f77
abbrev r77 : K := bT CF Tryz.f77
def D77 (r : RT) (n : Nat) (c : Code) (X : Nat → K) (k : K) : K := aU CF r 31 n c X r77 k
theorem bYm : D77 r n c77 x0 r77 = (K3 (s77 r n) 0 1 2) :=
 (by kernel_rfl)
theorem bUe : aM CF r n 77 args h = s77 r n (aZ args 0) (aZ args 1) (aZ args 2) h :=
 fK (bYm r n) args h (by kernel_rfl) (by kernel_rfl)
def aOz (r : RT) (n : Nat) (x2 x3 : DV) (h0 : Hp) : aG :=
 bnd (aD 4 x3 h0) fun v1 h1 =>
 bnd (aC 4 x2 v1 h1) fun _ h2 =>
 bnd (aD 4 x2 h2) fun v3 _ =>
 some (v3, h2)
def bIh (r : RT) (n : Nat) (x0 x2 x3 : DV) (h0 : Hp) : aG :=
 bnd (aA 0 x3 h0) fun v1 h1 =>
 bnd (aB v1 h1) fun v2 h2 =>
 bnd (aQ .neq v2 (aJ 0) h2) fun v3 h3 =>
 cB v3 (
 bnd (bM x0 h3) fun v4 h4 =>
 bnd (aA 0 v4 h4) fun v5 h5 =>
 bnd (aB v5 h5) fun v6 h6 =>
 bnd (dB 4 v6 (some (aJ 1)) none h6) fun v7 h7 =>
 bnd (bM x0 h7) fun v8 h8 =>
 bnd (aA 0 v8 h8) fun v9 h9 =>
 bnd (aC 1 v9 v7 h9) fun _ h10 =>
  aOz r n x2 x3 h10) (
  aOz r n x2 x3 h3)
def bJr (r : RT) (n : Nat) (x0 x2 : DV) (h0 : Hp) : aG :=
 bnd (r 81 [x0, (aJ 0)] h0) fun v1 h1 =>
 bnd (cJ [(aJ 0), (.s []), (aJ 0), (aJ 0)] h1) fun v2 h2 =>
 bnd (aC 4 v2 v1 h2) fun _ h3 =>
  bIh r n x0 x2 v2 h3
def s78 (r : RT) (n : Nat) (x0 : DV) (h0 : Hp) : aG :=
 bnd (cJ [(aJ 0), (.s []), (aJ 0), (aJ 0)] h0) fun v1 h1 =>
  bJr r n x0 v1 h1
abbrev c78 : Code := cf Tryz.f78
abbrev r78 : K := bT CF Tryz.f78
def D78 (r : RT) (n : Nat) (c : Code) (X : Nat → K) (k : K) : K := aU CF r 18 n c X r78 k
theorem bYr : D78 r n c78 x0 r78 = (K1 (s78 r n) 0) := by kernel_rfl
theorem bRz : aM CF r n 78 args h = s78 r n (aZ args 0) h :=
 fK (bYr r n) args h (by kernel_rfl) (by kernel_rfl)
def s79 (r : RT) (n : Nat) (x0 : DV) (h0 : Hp) : aG :=
 bnd (cJ fM h0) fun v1 h1 =>
 bnd (r 77 [x0, (aJ 1), (.s [])] h1) fun v2 h2 =>
 bnd (gD v2 true (some (x0, h2)) h2) fun v3 h3 =>
 bnd (gD v2 true (r 81 [v3, (aJ 1)] h3) h3) fun v4 h4 =>
 bnd (gD v2 true (eM 0 v4 h4) h4) fun v5 h5 =>
 bnd (gD v2 true (aQ .eql v5 (aJ 9) h5) h5) fun v6 h6 =>
 bnd (cA v2 v6 (.b false) h6) fun v7 h7 =>
 cB v7 (
 bnd (r 78 [x0] h7) fun v8 h8 =>
 bnd (eM 1 v8 h8) fun v9 h9 =>
 bnd (cS fM [(0, 1, (aJ 6)), (1, 1, v9)] h9) fun v10 h10 =>
 bnd (cJ fM h10) fun v11 h11 =>
 bnd (aC 6 v11 v10 h11) fun _ h12 =>
 bnd (r 78 [x0] h12) fun v13 h13 =>
 bnd (r 79 [x0] h13) fun v14 h14 =>
 bnd (aO fM 1 [(0, 6, v14)] h14) fun v15 h15 =>
 bnd (aA 5 v11 h15) fun v16 h16 =>
 bnd (aC 1 v16 v15 h16) fun _ h17 =>
 bnd (aD 6 v11 h17) fun v18 h18 =>
 bnd (aC 6 v1 v18 h18) fun _ h19 =>
 bnd (aD 6 v1 h19) fun v20 _ =>
 some (v20, h19)) (
 bnd (r 114 [x0] h7) fun v21 h21 =>
 bnd (aC 6 v1 v21 h21) fun _ h22 =>
 bnd (aD 6 v1 h22) fun v23 _ =>
 some (v23, h22))
abbrev c79 : Code := cf Tryz.f79
abbrev r79 : K := bT CF Tryz.f79
def D79 (r : RT) (n : Nat) (c : Code) (X : Nat → K) (k : K) : K := aU CF r 25 n c X r79 k
theorem bZa : D79 r n c79 x0 r79 = (K1 (s79 r n) 0) :=
 (by kernel_rfl)
theorem bSs : aM CF r n 79 args h = s79 r n (aZ args 0) h :=
 fK (bZa r n) args h (by kernel_rfl) (by kernel_rfl)
def s80 (r : RT) (n : Nat) (x0 x1 x2 : DV) (h0 : Hp) : aG :=
 bnd (iB x1 h0) fun v1 h1 =>
 bnd (bM x0 h1) fun v2 h2 =>
 bnd (aA 3 v2 h2) fun v3 h3 =>
 bnd (aB v3 h3) fun v4 h4 =>
 bnd (aQ .eql v4 (aJ 0) h4) fun v5 h5 =>
 cB v5 (
 bnd (aA 3 v1 h5) fun v6 h6 =>
 bnd (aB v6 h6) fun v7 h7 =>
 bnd (bM x0 h7) fun v8 h8 =>
 bnd (aA 2 v8 h8) fun v9 h9 =>
 bnd (aC 1 v9 v7 h9) fun _ h10 =>
 bnd (bM x0 h10) fun v11 h11 =>
 bnd (aA 3 v11 h11) fun v12 h12 =>
 bnd (aC 1 v12 x2 h12) fun _ h13 =>
 some (.t [], h13)) (
 some (.t [], h5))
abbrev c80 : Code := cf Tryz.f80
abbrev r80 : K := bT CF Tryz.f80
def D80 (r : RT) (n : Nat) (c : Code) (X : Nat → K) (k : K) : K := aU CF r 20 n c X r80 k
theorem bYc : D80 r n c80 x0 r80 = (K3 (s80 r n) 0 1 2) :=
 (by kernel_rfl)
theorem bSa : aM CF r n 80 args h = s80 r n (aZ args 0) (aZ args 1) (aZ args 2) h :=
 fK (bYc r n) args h (by kernel_rfl) (by kernel_rfl)
def s81 (r : RT) (n : Nat) (x0 x1 : DV) (h0 : Hp) : aG :=
 bnd (cJ [(aJ 0), (.s []), (aJ 0), (aJ 0)] h0) fun v1 h1 =>
 bnd (bM x0 h1) fun v2 h2 =>
 bnd (aA 0 v2 h2) fun v3 h3 =>
 bnd (aB v3 h3) fun v4 h4 =>
 bnd (bM x0 h4) fun v5 h5 =>
 bnd (aA 0 v5 h5) fun v6 h6 =>
 bnd (aB v6 h6) fun v7 h7 =>
 bnd (fS v7 h7) fun v8 h8 =>
 bnd (aQ .sub v8 (aJ 1) h8) fun v9 h9 =>
 bnd (aNp x1 v9 h9) fun v10 h10 =>
 bnd (aT 4 v4 v10 h10) fun v11 h11 =>
 bnd (aD 4 v11 h11) fun v12 h12 =>
 bnd (aC 4 v1 v12 h12) fun v13 h13 =>
 bnd (aD 4 v1 h13) fun v14 _ =>
 some (v14, h13)
abbrev c81 : Code := cf Tryz.f81
abbrev r81 : K := bT CF Tryz.f81
def D81 (r : RT) (n : Nat) (c : Code) (X : Nat → K) (k : K) : K := aU CF r 19 n c X r81 k
theorem bXi : D81 r n c81 x0 r81 = (K2 (s81 r n) 0 1) :=
 (by kernel_rfl)
theorem bTf : aM CF r n 81 args h = s81 r n (aZ args 0) (aZ args 1) h :=
 fK (bXi r n) args h (by kernel_rfl) (by kernel_rfl)
def aRv (r : RT) (n : Nat) (x7 : DV) (h0 : Hp) : aG :=
 bnd (aA 1 x7 h0) fun v1 h1 =>
 bnd (aB v1 h1) fun v2 h2 =>
 some (v2, h2)
def bIl (r : RT) (n : Nat) (x0 x2 x7 : DV) (h0 : Hp) : aG :=
 bnd (fS x2 h0) fun v1 h1 =>
 bnd (aQ .eql v1 (aJ 4) h1) fun v2 h2 =>
 cB v2 (
 bnd (aD 4 x7 h2) fun v3 h3 =>
 bnd (r 80 [x0, v3, (aJ 18)] h3) fun v4 h4 =>
  aRv r n x7 h4) (
  aRv r n x7 h2)
def bJg (r : RT) (n : Nat) (x0 x1 x2 : DV) (h0 : Hp) : aG :=
 bnd (r 51 [x0, x1, (.s [])] h0) fun v1 h1 =>
 bnd (cJ [(aJ 0), (.s []), (aJ 0), (aJ 0)] h1) fun v2 h2 =>
 bnd (aC 4 v2 v1 h2) fun _ h3 =>
  bIl r n x0 x2 v2 h3
def s82 (r : RT) (n : Nat) (x0 x1 x2 : DV) (h0 : Hp) : aG :=
 bJg r n x0 x1 x2 h0
abbrev c82 : Code := cf Tryz.f82
abbrev r82 : K := bT CF Tryz.f82
def D82 (r : RT) (n : Nat) (c : Code) (X : Nat → K) (k : K) : K := aU CF r 19 n c X r82 k
theorem bWd : D82 r n c82 x0 r82 = (K3 (s82 r n) 0 1 2) := by kernel_rfl
theorem bVa : aM CF r n 82 args h = s82 r n (aZ args 0) (aZ args 1) (aZ args 2) h :=
 fK (bWd r n) args h (by kernel_rfl) (by kernel_rfl)
def s85 (r : RT) (n : Nat) (x0 x1 : DV) (h0 : Hp) : aG :=
 bnd (aOj [x0, x1] h0) fun v1 h1 =>
 some (v1, h1)
abbrev c85 : Code := cf Tryz.f85
abbrev r85 : K := bT CF Tryz.f85
def D85 (r : RT) (n : Nat) (c : Code) (X : Nat → K) (k : K) : K := aU CF r 8 n c X r85 k
theorem bWr : D85 r n c85 x0 r85 = (K2 (s85 r n) 0 1) :=
 (by kernel_rfl)
theorem bTz : aM CF r n 85 args h = s85 r n (aZ args 0) (aZ args 1) h :=
 fK (bWr r n) args h (by kernel_rfl) (by kernel_rfl)
def s89 (r : RT) (n : Nat) (x0 x1 x2 : DV) (h0 : Hp) : aG :=
 bnd (fS x0 h0) fun v1 h1 =>
 bnd (aQ .geq x1 v1 h1) fun v2 h2 =>
 cB v2 (
 some ((.s []), h2)) (
 bnd (aT 6 x0 x1 h2) fun v3 h3 =>
 bnd (aD 6 v3 h3) fun v4 h4 =>
 bnd (r 126 [v4] h4) fun v5 h5 =>
 bnd (aQ .gtr v5 x2 h5) fun v6 h6 =>
 cB v6 (
 bnd (aT 6 x0 x1 h6) fun v7 h7 =>
 bnd (aD 6 v7 h7) fun v8 h8 =>
 bnd (r 36 [v8] h8) fun v9 h9 =>
 bnd (aO [(.s []), (.s []), (.s [])] 3 [(0, 1, (.s [40])), (1, 1, v9), (2, 1, (.s [41]))] h9) fun v10 h10 =>
 bnd (r 19 [v10] h10) fun v11 h11 =>
 some (v11, h11)) (
 bnd (aT 6 x0 x1 h6) fun v12 h12 =>
 bnd (aD 6 v12 h12) fun v13 h13 =>
 bnd (r 36 [v13] h13) fun v14 h14 =>
 some (v14, h14)))
abbrev c89 : Code := cf Tryz.f89
abbrev r89 : K := bT CF Tryz.f89
def D89 (r : RT) (n : Nat) (c : Code) (X : Nat → K) (k : K) : K := aU CF r 32 n c X r89 k
theorem bXg : D89 r n c89 x0 r89 = (K3 (s89 r n) 0 1 2) :=
 (by kernel_rfl)
theorem bTm : aM CF r n 89 args h = s89 r n (aZ args 0) (aZ args 1) (aZ args 2) h :=
 fK (bXg r n) args h (by kernel_rfl) (by kernel_rfl)
def gL (r : RT) (n : Nat) (x5 : DV) (h0 : Hp) : aG :=
 bnd (kK [x5, (.s [32])] h0) fun v1 h1 =>
 some (v1, h1)
def pW (r : RT) (n : Nat) (kk6 : TT5) (x1 x5 x21 x22 x23 : DV) (h0 : Hp) : aG :=
 bnd (aQ .lss x23 x22 h0) fun v1 h1 =>
 cB v1 (
 bnd (aT 1 x21 x23 h1) fun v2 h2 =>
 bnd (aB v2 h2) fun v3 h3 =>
 bnd (r 89 [x1, x23, (aJ 2)] h3) fun v4 h4 =>
 bnd (aO [(.s []), (.s []), (.s [])] 3 [(0, 1, v3), (1, 1, (.s [32])), (2, 1, v4)] h4) fun v5 h5 =>
 bnd (r 19 [v5] h5) fun v6 h6 =>
 bnd (aO [(.s [])] 1 [(0, 1, v6)] h6) fun v7 h7 =>
 bnd (bH 1 16 x5 v7 h7) fun v8 h8 =>
 bnd (aQ .add x23 (aJ 1) h8) fun v9 h9 =>
      kk6 x1 v8 x21 x22 v9 h9) (
      gL r n x5 h1)
def lM (r : RT) (n : Nat) (m : Nat) : TT5 :=
 Nat.rec (motive := fun _ => TT5) (fun _ _ _ _ _ _ => none) (fun _ ih => pW r n ih) m
def aTd (r : RT) (n : Nat) : TT5 := lM r n n
def aHv (r : RT) (n : Nat) (x1 x5 x21 x22 x23 : DV) (h0 : Hp) : aG :=
 aTd r n x1 x5 x21 x22 x23 h0
def aKr (r : RT) (n : Nat) (x0 x1 x5 : DV) (h0 : Hp) : aG :=
 bnd (r 33 [x0] h0) fun v1 h1 =>
 bnd (fS v1 h1) fun v2 h2 =>
  aHv r n x1 x5 v1 v2 (aJ 0) h2
def aIm (r : RT) (n : Nat) (x0 x1 : DV) (h0 : Hp) : aG :=
 aKr r n x0 x1 .l0 h0
def aMm (r : RT) (n : Nat) (x0 x1 : DV) (h0 : Hp) : aG :=
 bnd (r 32 [x0] h0) fun v1 h1 =>
 bnd (aQ .eql v1 (aJ 1) h1) fun v2 h2 =>
 cB v2 (
 some (x0, h2)) (
 bnd (aQ .eql v1 (aJ 2) h2) fun v3 h3 =>
 cB v3 (
 bnd (r 89 [x1, (aJ 0), (aJ 1)] h3) fun v4 h4 =>
 bnd (aO [(.s []), (.s []), (.s [])] 3 [(0, 1, x0), (1, 1, (.s [32])), (2, 1, v4)] h4) fun v5 h5 =>
 bnd (r 19 [v5] h5) fun v6 h6 =>
 some (v6, h6)) (
  aIm r n x0 x1 h3))
def s90 (r : RT) (n : Nat) (x0 x1 : DV) (h0 : Hp) : aG :=
 aMm r n x0 x1 h0
abbrev c90 : Code := cf Tryz.f90
abbrev aMb := cR c90
abbrev aHw := cR aMb
abbrev aMx := cR aHw
abbrev bSy := cR aMx
abbrev aDd := cL aMx
abbrev aWv := cR aDd
abbrev aJg := cL aWv
abbrev sT := cL aJg
abbrev bHz := cL aDd
abbrev aUp := cL aHw
abbrev aUj := cL aMb
abbrev aYb := cL c90
abbrev r90 : K := bT CF Tryz.f90
def D90 (r : RT) (n : Nat) (c : Code) (X : Nat → K) (k : K) : K := aU CF r 40 n c X r90 k
theorem bNt : D90 r n bSy x0 r90 = (K1 (gL r n) 5) := by kernel_rfl
theorem bBf (kk6 : TT5) : D90 r n sT (xs x0 1 (K1 (gL r n) 5)) (K5 kk6 1 5 21 22 23) = (K5 (pW r n kk6) 1 5 21 22 23) := by kernel_rfl
theorem bCo (m : Nat) : aN (fun kk => D90 r n sT (xs x0 1 (K1 (gL r n) 5)) kk) m = (K5 (lM r n m) 1 5 21 22 23) := by
 induction m with
 | zero => exact (by kernel_rfl : aN (fun kk => D90 r n sT (xs x0 1 (K1 (gL r n) 5)) kk) 0 = (K5 (lM r n 0) 1 5 21 22 23))
 | succ m ih =>
  refine (by kernel_rfl : aN (fun kk => D90 r n sT (xs x0 1 (K1 (gL r n) 5)) kk) (m + 1) = D90 r n sT (xs x0 1 (K1 (gL r n) 5)) (aN (fun kk => D90 r n sT (xs x0 1 (K1 (gL r n) 5)) kk) m)).trans ?_
  rw [ih]
  exact (bBf r n (lM r n m)).trans (by kernel_rfl)
theorem bPl : D90 r n aJg (xs x0 1 (K1 (gL r n) 5)) (K1 (gL r n) 5) = (K5 (aTd r n) 1 5 21 22 23) :=
 (by kernel_rfl : D90 r n aJg (xs x0 1 (K1 (gL r n) 5)) (K1 (gL r n) 5) = aN (fun kk => D90 r n sT (xs x0 1 (K1 (gL r n) 5)) kk) n).trans ((bCo r n n).trans (by kernel_rfl))
theorem bNe : D90 r n aWv x0 (K1 (gL r n) 5) = (K5 (aHv r n) 1 5 21 22 23) :=
 (by kernel_rfl : D90 r n aWv x0 (K1 (gL r n) 5) = D90 r n aJg (xs x0 1 (K1 (gL r n) 5)) (K1 (gL r n) 5)).trans
 ((bPl r n).trans (by kernel_rfl))
theorem bBj : D90 r n aMx x0 r90 = D90 r n aDd x0 (K1 (gL r n) 5) :=
 congrArg (fun k => D90 r n aDd x0 k) (bNt r n)
theorem bGj : D90 r n aDd x0 (K1 (gL r n) 5) = D90 r n bHz x0 (K5 (aHv r n) 1 5 21 22 23) :=
 congrArg (fun k => D90 r n bHz x0 k) (bNe r n)
theorem bLy : D90 r n aMx x0 r90 = (K3 (aKr r n) 0 1 5) :=
 (bBj r n).trans
 ((bGj r n).trans
 ((by kernel_rfl)))
theorem bHo : D90 r n aHw x0 r90 = D90 r n aUp x0 (K3 (aKr r n) 0 1 5) :=
 congrArg (fun k => D90 r n aUp x0 k) (bLy r n)
theorem bMs : D90 r n aHw x0 r90 = (K2 (aIm r n) 0 1) :=
 (bHo r n).trans
 ((by kernel_rfl))
theorem bDd : D90 r n aMb x0 r90 = D90 r n aUj x0 (K2 (aIm r n) 0 1) :=
 congrArg (fun k => D90 r n aUj x0 k) (bMs r n)
theorem bRk : D90 r n aMb x0 r90 = (K2 (aMm r n) 0 1) :=
 (bDd r n).trans
 ((by kernel_rfl))
theorem bTx : D90 r n c90 x0 r90 = D90 r n aYb x0 (K2 (aMm r n) 0 1) :=
 congrArg (fun k => D90 r n aYb x0 k) (bRk r n)
theorem bXw : D90 r n c90 x0 r90 = (K2 (s90 r n) 0 1) :=
 (bTx r n).trans
 ((by kernel_rfl))
theorem bTi : aM CF r n 90 args h = s90 r n (aZ args 0) (aZ args 1) h :=
 fK (bXw r n) args h (by kernel_rfl) (by kernel_rfl)
def s91 (r : RT) (n : Nat) (x0 : DV) (h0 : Hp) : aG :=
 bnd (iB x0 h0) fun v1 h1 =>
 bnd (aA 1 v1 h1) fun v2 h2 =>
 bnd (aB v2 h2) fun v3 h3 =>
 bnd (aA 5 v1 h3) fun v4 h4 =>
 bnd (aB v4 h4) fun v5 h5 =>
 bnd (r 90 [v3, v5] h5) fun v6 h6 =>
 bnd (aO [(.s []), (.s [])] 2 [(0, 1, (.s [59, 32])), (1, 1, v6)] h6) fun v7 h7 =>
 bnd (r 19 [v7] h7) fun v8 h8 =>
 some (v8, h8)
abbrev c91 : Code := cf Tryz.f91
abbrev r91 : K := bT CF Tryz.f91
def D91 (r : RT) (n : Nat) (c : Code) (X : Nat → K) (k : K) : K := aU CF r 10 n c X r91 k
theorem bWk : D91 r n c91 x0 r91 = (K1 (s91 r n) 0) :=
 (by kernel_rfl)
theorem bVp : aM CF r n 91 args h = s91 r n (aZ args 0) h :=
 fK (bWk r n) args h (by kernel_rfl) (by kernel_rfl)
end
end Go.Dd

namespace Go.Dd
open Go.Proofs
noncomputable section
variable (r : RT) (n : Nat) (args : List DV) (h : Hp)
def s105 (r : RT) (n : Nat) (x0 x1 : DV) (h0 : Hp) : aG :=
 bnd (aB x1 h0) fun v1 h1 =>
 bnd (r 57 [v1, x0] h1) fun v2 h2 =>
 bnd (aQ .geq v2 (aJ 0) h2) fun v3 h3 =>
 some (v3, h3)
abbrev c105 : Code := cf Tryz.f105
abbrev r105 : K := bT CF Tryz.f105
def D105 (r : RT) (n : Nat) (c : Code) (X : Nat → K) (k : K) : K := aU CF r 8 n c X r105 k
theorem bSc : D105 r n c105 x0 r105 = (K2 (s105 r n) 0 1) :=
 (by kernel_rfl)
theorem bMb : aM CF r n 105 args h = s105 r n (aZ args 0) (aZ args 1) h :=
 fK (bSc r n) args h (by kernel_rfl) (by kernel_rfl)
def s106 (r : RT) (n : Nat) (x0 x1 : DV) (h0 : Hp) : aG :=
 bnd (bM x0 h0) fun v1 h1 =>
 bnd (aA 1 v1 h1) fun v2 h2 =>
 bnd (aB v2 h2) fun v3 h3 =>
 bnd (aQ .add v3 x1 h3) fun v4 h4 =>
 bnd (bM x0 h4) fun v5 h5 =>
 bnd (aA 0 v5 h5) fun v6 h6 =>
 bnd (aB v6 h6) fun v7 h7 =>
 bnd (iE v7 h7) fun v8 h8 =>
 bnd (aQ .geq v4 v8 h8) fun v9 h9 =>
 cB v9 (
 some ((.i .u8 (Int.ofNat 0)), h9)) (
 bnd (bM x0 h9) fun v10 h10 =>
 bnd (aA 0 v10 h10) fun v11 h11 =>
 bnd (aB v11 h11) fun v12 h12 =>
 bnd (bM x0 h12) fun v13 h13 =>
 bnd (aA 1 v13 h13) fun v14 h14 =>
 bnd (aB v14 h14) fun v15 h15 =>
 bnd (aQ .add v15 x1 h15) fun v16 h16 =>
 bnd (eP v12 v16 h16) fun v17 h17 =>
 some (v17, h17))
abbrev c106 : Code := cf Tryz.f106
abbrev r106 : K := bT CF Tryz.f106
def D106 (r : RT) (n : Nat) (c : Code) (X : Nat → K) (k : K) : K := aU CF r 28 n c X r106 k
theorem bSg : D106 r n c106 x0 r106 = (K2 (s106 r n) 0 1) :=
 (by kernel_rfl)
theorem bMt : aM CF r n 106 args h = s106 r n (aZ args 0) (aZ args 1) h :=
 fK (bSg r n) args h (by kernel_rfl) (by kernel_rfl)
def s107 (r : RT) (n : Nat) (x0 : DV) (h0 : Hp) : aG :=
 bnd (aQ .geq x0 (.i .u8 (Int.ofNat 97)) h0) fun v1 h1 =>
 bnd (gD v1 true (some (x0, h1)) h1) fun v2 h2 =>
 bnd (gD v1 true (aQ .leq v2 (.i .u8 (Int.ofNat 122)) h2) h2) fun v3 h3 =>
 bnd (cA v1 v3 (.b false) h3) fun v4 h4 =>
 bnd (gD v4 false (some (x0, h4)) h4) fun v5 h5 =>
 bnd (gD v4 false (aQ .geq v5 (.i .u8 (Int.ofNat 65)) h5) h5) fun v6 h6 =>
 bnd (gD v4 false (some (v6, h6)) h6) fun v7 h7 =>
 bnd (gD v7 true (some (x0, h7)) h7) fun v8 h8 =>
 bnd (gD v7 true (aQ .leq v8 (.i .u8 (Int.ofNat 90)) h8) h8) fun v9 h9 =>
 bnd (gD v4 false (cA v7 v9 (.b false) h9) h9) fun v10 h10 =>
 bnd (cA v4 (.b true) v10 h10) fun v11 h11 =>
 some (v11, h11)
abbrev c107 : Code := cf Tryz.f107
abbrev r107 : K := bT CF Tryz.f107
def D107 (r : RT) (n : Nat) (c : Code) (X : Nat → K) (k : K) : K := aU CF r 17 n c X r107 k
theorem bUa : D107 r n c107 x0 r107 = (K1 (s107 r n) 0) :=
 (by kernel_rfl)
theorem bQw : aM CF r n 107 args h = s107 r n (aZ args 0) h :=
 fK (bUa r n) args h (by kernel_rfl) (by kernel_rfl)
def s108 (r : RT) (n : Nat) (x0 : DV) (h0 : Hp) : aG :=
 bnd (bM x0 h0) fun v1 h1 =>
 bnd (aA 0 v1 h1) fun v2 h2 =>
 bnd (aB v2 h2) fun v3 h3 =>
 bnd (iE v3 h3) fun v4 h4 =>
 bnd (r 74 [x0, (.f 132 [] []), v4] h4) fun v5 h5 =>
 bnd (iE v5 h5) fun v6 h6 =>
 bnd (aQ .gtr v6 (aJ 24) h6) fun v7 h7 =>
 cB v7 (
 some (.t [(.s []), (aJ 12)], h7)) (
 some (.t [v5, (aJ 0)], h7))
abbrev c108 : Code := cf Tryz.f108
abbrev r108 : K := bT CF Tryz.f108
def D108 (r : RT) (n : Nat) (c : Code) (X : Nat → K) (k : K) : K := aU CF r 16 n c X r108 k
theorem bVf : D108 r n c108 x0 r108 = (K1 (s108 r n) 0) :=
 (by kernel_rfl)
theorem bLx : aM CF r n 108 args h = s108 r n (aZ args 0) h :=
 fK (bVf r n) args h (by kernel_rfl) (by kernel_rfl)
def s109 (r : RT) (n : Nat) (x0 : DV) (h0 : Hp) : aG :=
 bnd (r 106 [x0, (aJ 0)] h0) fun v1 h1 =>
 bnd (aQ .neq v1 (.i .u8 (Int.ofNat 58)) h1) fun v2 h2 =>
 bnd (gD v2 false (some (x0, h2)) h2) fun v3 h3 =>
 bnd (gD v2 false (r 106 [v3, (aJ 1)] h3) h3) fun v4 h4 =>
 bnd (gD v2 false (aQ .eql v4 (.i .u8 (Int.ofNat 61)) h4) h4) fun v5 h5 =>
 bnd (cA v2 (.b true) v5 h5) fun v6 h6 =>
 cB v6 (
 some ((.b false), h6)) (
 bnd (bM x0 h6) fun v7 h7 =>
 bnd (aA 1 v7 h7) fun v8 h8 =>
 bnd (aB v8 h8) fun v9 h9 =>
 bnd (aQ .add v9 (aJ 1) h9) fun v10 h10 =>
 bnd (bM x0 h10) fun v11 h11 =>
 bnd (aA 1 v11 h11) fun v12 h12 =>
 bnd (aC 1 v12 v10 h12) fun _ h13 =>
 some ((.b true), h13))
abbrev c109 : Code := cf Tryz.f109
abbrev r109 : K := bT CF Tryz.f109
def D109 (r : RT) (n : Nat) (c : Code) (X : Nat → K) (k : K) : K := aU CF r 18 n c X r109 k
theorem bTh : D109 r n c109 x0 r109 = (K1 (s109 r n) 0) :=
 (by kernel_rfl)
theorem bMn : aM CF r n 109 args h = s109 r n (aZ args 0) h :=
 fK (bTh r n) args h (by kernel_rfl) (by kernel_rfl)
def s110 (r : RT) (n : Nat) (x0 : DV) (h0 : Hp) : aG :=
 bnd (aQ .geq x0 (.i .u8 (Int.ofNat 48)) h0) fun v1 h1 =>
 bnd (gD v1 true (some (x0, h1)) h1) fun v2 h2 =>
 bnd (gD v1 true (aQ .leq v2 (.i .u8 (Int.ofNat 57)) h2) h2) fun v3 h3 =>
 bnd (cA v1 v3 (.b false) h3) fun v4 h4 =>
 some (v4, h4)
abbrev c110 : Code := cf Tryz.f110
abbrev r110 : K := bT CF Tryz.f110
def D110 (r : RT) (n : Nat) (c : Code) (X : Nat → K) (k : K) : K := aU CF r 9 n c X r110 k
theorem bTy : D110 r n c110 x0 r110 = (K1 (s110 r n) 0) :=
 (by kernel_rfl)
theorem bNd : aM CF r n 110 args h = s110 r n (aZ args 0) h :=
 fK (bTy r n) args h (by kernel_rfl) (by kernel_rfl)
def eJ (r : RT) (n : Nat) (x4 : DV) (h0 : Hp) : aG :=
 some (.t [x4, (aJ 0)], h0)
def mQ (r : RT) (n : Nat) (kk5 : mT) (x4 x14 : DV) (h0 : Hp) : aG :=
 bnd (qX x14 h0) fun v1 h1 =>
 bnd (aH 0 v1 h1) fun v2 h2 =>
 cB v2 (
 bnd (aH 2 v1 h2) fun v3 h3 =>
 bnd (aQ .gtr x4 (aJ 115292150460684697) h3) fun v4 h4 =>
 cB v4 (
 some (.t [(aJ 0), (aJ 2)], h4)) (
 bnd (aQ .mul x4 (aJ 10) h4) fun v5 h5 =>
 bnd (aQ .sub v3 (.i .i32 (Int.ofNat 48)) h5) fun v6 h6 =>
 bnd (qC .i64 v6 h6) fun v7 h7 =>
 bnd (aQ .add v5 v7 h7) fun v8 h8 =>
 bnd (aQ .gtr v8 (aJ 1152921504606846976) h8) fun v9 h9 =>
 cB v9 (
 some (.t [(aJ 0), (aJ 2)], h9)) (
  kk5 v8 x14 h9))) (
  eJ r n x4 h2)
def jG (r : RT) (n : Nat) (m : Nat) : mT :=
 Nat.rec (motive := fun _ => mT) (fun _ _ _ => none) (fun _ ih => mQ r n ih) m
def aFd (r : RT) (n : Nat) : mT := jG r n n
def zW (r : RT) (n : Nat) (x4 x14 : DV) (h0 : Hp) : aG :=
 aFd r n x4 x14 h0
def yL (r : RT) (n : Nat) (x0 x4 : DV) (h0 : Hp) : aG :=
 bnd (bM x0 h0) fun v1 h1 =>
 bnd (aA 0 v1 h1) fun v2 h2 =>
 bnd (aB v2 h2) fun v3 h3 =>
 bnd (iE v3 h3) fun v4 h4 =>
 bnd (r 74 [x0, (.f 110 [] []), v4] h4) fun v5 h5 =>
 bnd (yW v5 h5) fun v6 h6 =>
  zW r n x4 v6 h6
def aBo (r : RT) (n : Nat) (x0 : DV) (h0 : Hp) : aG :=
 yL r n x0 (aJ 0) h0
def s111 (r : RT) (n : Nat) (x0 : DV) (h0 : Hp) : aG :=
 aBo r n x0 h0
abbrev c111 : Code := cf Tryz.f111
abbrev aBm := cR c111
abbrev aBb := cR aBm
abbrev bPu := cR aBb
abbrev uF := cL aBb
abbrev aHc := cR uF
abbrev zS := cL aHc
abbrev nW := cL zS
abbrev aOw := cL uF
abbrev aPq := cL aBm
abbrev aHq := cL c111
abbrev r111 : K := bT CF Tryz.f111
def D111 (r : RT) (n : Nat) (c : Code) (X : Nat → K) (k : K) : K := aU CF r 29 n c X r111 k
theorem bGw : D111 r n bPu x0 r111 = (K1 (eJ r n) 4) := by kernel_rfl
theorem aRr (kk5 : mT) : D111 r n nW (xs x0 0 (K1 (eJ r n) 4)) (K2 kk5 4 14) = (K2 (mQ r n kk5) 4 14) := by kernel_rfl
theorem aWr (m : Nat) : aN (fun kk => D111 r n nW (xs x0 0 (K1 (eJ r n) 4)) kk) m = (K2 (jG r n m) 4 14) := by
 induction m with
 | zero => exact (by kernel_rfl : aN (fun kk => D111 r n nW (xs x0 0 (K1 (eJ r n) 4)) kk) 0 = (K2 (jG r n 0) 4 14))
 | succ m ih =>
  refine (by kernel_rfl : aN (fun kk => D111 r n nW (xs x0 0 (K1 (eJ r n) 4)) kk) (m + 1) = D111 r n nW (xs x0 0 (K1 (eJ r n) 4)) (aN (fun kk => D111 r n nW (xs x0 0 (K1 (eJ r n) 4)) kk) m)).trans ?_
  rw [ih]
  exact (aRr r n (jG r n m)).trans (by kernel_rfl)
theorem bFv : D111 r n zS (xs x0 0 (K1 (eJ r n) 4)) (K1 (eJ r n) 4) = (K2 (aFd r n) 4 14) :=
 (by kernel_rfl : D111 r n zS (xs x0 0 (K1 (eJ r n) 4)) (K1 (eJ r n) 4) = aN (fun kk => D111 r n nW (xs x0 0 (K1 (eJ r n) 4)) kk) n).trans ((aWr r n n).trans (by kernel_rfl))
theorem bEs : D111 r n aHc x0 (K1 (eJ r n) 4) = (K2 (zW r n) 4 14) :=
 (by kernel_rfl : D111 r n aHc x0 (K1 (eJ r n) 4) = D111 r n zS (xs x0 0 (K1 (eJ r n) 4)) (K1 (eJ r n) 4)).trans
 ((bFv r n).trans (by kernel_rfl))
theorem aVb : D111 r n aBb x0 r111 = D111 r n uF x0 (K1 (eJ r n) 4) :=
 congrArg (fun k => D111 r n uF x0 k) (bGw r n)
theorem aPh : D111 r n uF x0 (K1 (eJ r n) 4) = D111 r n aOw x0 (K2 (zW r n) 4 14) :=
 congrArg (fun k => D111 r n aOw x0 k) (bEs r n)
theorem bDh : D111 r n aBb x0 r111 = (K2 (yL r n) 0 4) :=
 (aVb r n).trans
 ((aPh r n).trans
 ((by kernel_rfl)))
theorem aVo : D111 r n aBm x0 r111 = D111 r n aPq x0 (K2 (yL r n) 0 4) :=
 congrArg (fun k => D111 r n aPq x0 k) (bDh r n)
theorem bBo : D111 r n aBm x0 r111 = (K1 (aBo r n) 0) :=
 (aVo r n).trans
 ((by kernel_rfl))
theorem bKd : D111 r n c111 x0 r111 = D111 r n aHq x0 (K1 (aBo r n) 0) :=
 congrArg (fun k => D111 r n aHq x0 k) (bBo r n)
theorem bVi : D111 r n c111 x0 r111 = (K1 (s111 r n) 0) :=
 (bKd r n).trans
 ((by kernel_rfl))
theorem bQz : aM CF r n 111 args h = s111 r n (aZ args 0) h :=
 fK (bVi r n) args h (by kernel_rfl) (by kernel_rfl)
def sD (r : RT) (n : Nat) (kk3 : mT) (x0 x4 : DV) (h0 : Hp) : aG :=
 bnd (bM x0 h0) fun v1 h1 =>
 bnd (aA 0 v1 h1) fun v2 h2 =>
 bnd (aB v2 h2) fun v3 h3 =>
 bnd (iE v3 h3) fun v4 h4 =>
 bnd (r 74 [x0, (.f 133 [] []), v4] h4) fun v5 h5 =>
 bnd (gU .add x4 v5 h5) fun v6 h6 =>
 bnd (bM x0 h6) fun v7 h7 =>
 bnd (aA 1 v7 h7) fun v8 h8 =>
 bnd (aB v8 h8) fun v9 h9 =>
 bnd (bM x0 h9) fun v10 h10 =>
 bnd (aA 0 v10 h10) fun v11 h11 =>
 bnd (aB v11 h11) fun v12 h12 =>
 bnd (iE v12 h12) fun v13 h13 =>
 bnd (aQ .geq v9 v13 h13) fun v14 h14 =>
 cB v14 (
 some (.t [(.s []), (aJ 11)], h14)) (
 bnd (bM x0 h14) fun v15 h15 =>
 bnd (aA 1 v15 h15) fun v16 h16 =>
 bnd (aB v16 h16) fun v17 h17 =>
 bnd (aQ .add v17 (aJ 1) h17) fun v18 h18 =>
 bnd (bM x0 h18) fun v19 h19 =>
 bnd (aA 1 v19 h19) fun v20 h20 =>
 bnd (aC 1 v20 v18 h20) fun _ h21 =>
 bnd (r 106 [x0, (aJ 0)] h21) fun v22 h22 =>
 bnd (aQ .neq v22 (.i .u8 (Int.ofNat 39)) h22) fun v23 h23 =>
 cB v23 (
 some (.t [v6, (aJ 0)], h23)) (
 bnd (gU .add v6 (.s [39]) h23) fun v24 h24 =>
 bnd (bM x0 h24) fun v25 h25 =>
 bnd (aA 1 v25 h25) fun v26 h26 =>
 bnd (aB v26 h26) fun v27 h27 =>
 bnd (aQ .add v27 (aJ 1) h27) fun v28 h28 =>
 bnd (bM x0 h28) fun v29 h29 =>
 bnd (aA 1 v29 h29) fun v30 h30 =>
 bnd (aC 1 v30 v28 h30) fun _ h31 =>
  kk3 x0 v24 h31))
def lD (r : RT) (n : Nat) (m : Nat) : mT :=
 Nat.rec (motive := fun _ => mT) (fun _ _ _ => none) (fun _ ih => sD r n ih) m
def aGg (r : RT) (n : Nat) : mT := lD r n n
def zF (r : RT) (n : Nat) (x0 x4 : DV) (h0 : Hp) : aG :=
 aGg r n x0 x4 h0
def zA (r : RT) (n : Nat) (x0 : DV) (h0 : Hp) : aG :=
 zF r n x0 (.s []) h0
def s112 (r : RT) (n : Nat) (x0 : DV) (h0 : Hp) : aG :=
 zA r n x0 h0
abbrev c112 : Code := cf Tryz.f112
abbrev yY := cR c112
abbrev aFm := cR yY
abbrev aAj := cL aFm
abbrev oC := cL aAj
abbrev aUk := cL yY
abbrev aPc := cL c112
abbrev r112 : K := bT CF Tryz.f112
def D112 (r : RT) (n : Nat) (c : Code) (X : Nat → K) (k : K) : K := aU CF r 44 n c X r112 k
theorem aUo (kk3 : mT) : D112 r n oC (xs x0 0 r112) (K2 kk3 0 4) = (K2 (sD r n kk3) 0 4) := by kernel_rfl
theorem aQi (m : Nat) : aN (fun kk => D112 r n oC (xs x0 0 r112) kk) m = (K2 (lD r n m) 0 4) := by
 induction m with
 | zero => exact (by kernel_rfl : aN (fun kk => D112 r n oC (xs x0 0 r112) kk) 0 = (K2 (lD r n 0) 0 4))
 | succ m ih =>
  refine (by kernel_rfl : aN (fun kk => D112 r n oC (xs x0 0 r112) kk) (m + 1) = D112 r n oC (xs x0 0 r112) (aN (fun kk => D112 r n oC (xs x0 0 r112) kk) m)).trans ?_
  rw [ih]
  exact (aUo r n (lD r n m)).trans (by kernel_rfl)
theorem aZv : D112 r n aAj (xs x0 0 r112) r112 = (K2 (aGg r n) 0 4) :=
 (by kernel_rfl : D112 r n aAj (xs x0 0 r112) r112 = aN (fun kk => D112 r n oC (xs x0 0 r112) kk) n).trans ((aQi r n n).trans (by kernel_rfl))
theorem bHq : D112 r n aFm x0 r112 = (K2 (zF r n) 0 4) :=
 (by kernel_rfl : D112 r n aFm x0 r112 = D112 r n aAj (xs x0 0 r112) r112).trans
 ((aZv r n).trans (by kernel_rfl))
theorem aWx : D112 r n yY x0 r112 = D112 r n aUk x0 (K2 (zF r n) 0 4) :=
 congrArg (fun k => D112 r n aUk x0 k) (bHq r n)
theorem bHi : D112 r n yY x0 r112 = (K1 (zA r n) 0) :=
 (aWx r n).trans
 ((by kernel_rfl))
theorem bMz : D112 r n c112 x0 r112 = D112 r n aPc x0 (K1 (zA r n) 0) :=
 congrArg (fun k => D112 r n aPc x0 k) (bHi r n)
theorem bTj : D112 r n c112 x0 r112 = (K1 (s112 r n) 0) :=
 (bMz r n).trans
 ((by kernel_rfl))
theorem bRh : aM CF r n 112 args h = s112 r n (aZ args 0) h :=
 fK (bTj r n) args h (by kernel_rfl) (by kernel_rfl)
def eV (r : RT) (n : Nat) (x5 : DV) (h0 : Hp) : aG :=
 some (.t [x5, (aJ 0)], h0)
def rN (r : RT) (n : Nat) (kk8 : mT) (x0 x5 : DV) (h0 : Hp) : aG :=
 bnd (r 106 [x0, (aJ 0)] h0) fun v1 h1 =>
 bnd (r 107 [v1] h1) fun v2 h2 =>
 cB v2 (
 bnd (bM x0 h2) fun v3 h3 =>
 bnd (aA 1 v3 h3) fun v4 h4 =>
 bnd (aB v4 h4) fun v5 h5 =>
 bnd (r 108 [x0] h5) fun v6 h6 =>
 bnd (aH 0 v6 h6) fun v7 h7 =>
 bnd (aH 1 v6 h7) fun v8 h8 =>
 bnd (r 109 [x0] h8) fun v9 h9 =>
 bnd (pJ .not v9 h9) fun v10 h10 =>
 cB v10 (
 bnd (bM x0 h10) fun v11 h11 =>
 bnd (aA 1 v11 h11) fun v12 h12 =>
 bnd (aC 1 v12 v5 h12) fun _ h13 =>
 some (.t [x5, (aJ 0)], h13)) (
 bnd (aQ .neq v8 (aJ 0) h10) fun v14 h14 =>
 cB v14 (
 some (.t [(.s []), v8], h14)) (
 bnd (gU .add v7 (.s [58]) h14) fun v15 h15 =>
 bnd (gU .add x5 v15 h15) fun v16 h16 =>
  kk8 x0 v16 h16))) (
      eV r n x5 h2)
def lB (r : RT) (n : Nat) (m : Nat) : mT :=
 Nat.rec (motive := fun _ => mT) (fun _ _ _ => none) (fun _ ih => rN r n ih) m
def aFo (r : RT) (n : Nat) : mT := lB r n n
def yB (r : RT) (n : Nat) (x0 x5 : DV) (h0 : Hp) : aG :=
 aFo r n x0 x5 h0
def aAo (r : RT) (n : Nat) (x0 x5 : DV) (h0 : Hp) : aG :=
 bnd (gU .add x5 (.s [58]) h0) fun v1 h1 =>
  yB r n x0 v1 h1
def aAb (r : RT) (n : Nat) (x0 x5 x6 : DV) (h0 : Hp) : aG :=
 bnd (aQ .neq x6 (aJ 0) h0) fun v1 h1 =>
 bnd (gD v1 false (some (x0, h1)) h1) fun v2 h2 =>
 bnd (gD v1 false (r 109 [v2] h2) h2) fun v3 h3 =>
 bnd (gD v1 false (pJ .not v3 h3) h3) fun v4 h4 =>
 bnd (cA v1 (.b true) v4 h4) fun v5 h5 =>
 cB v5 (
 some (.t [x5, x6], h5)) (
  aAo r n x0 x5 h5)
def aAs (r : RT) (n : Nat) (x0 : DV) (h0 : Hp) : aG :=
 bnd (r 108 [x0] h0) fun v1 h1 =>
 bnd (aH 0 v1 h1) fun v2 h2 =>
 bnd (aH 1 v1 h2) fun v3 h3 =>
  aAb r n x0 v2 v3 h3
def yD (r : RT) (n : Nat) (x0 : DV) (h0 : Hp) : aG :=
 bnd (r 106 [x0, (aJ 0)] h0) fun v1 h1 =>
 bnd (r 107 [v1] h1) fun v2 h2 =>
 bnd (pJ .not v2 h2) fun v3 h3 =>
 cB v3 (
 some (.t [(.s []), (aJ 10)], h3)) (
  aAs r n x0 h3)
def xW (r : RT) (n : Nat) (x0 : DV) (h0 : Hp) : aG :=
 bnd (r 75 [(.s [43, 45, 42, 47, 60, 62, 61, 126, 44, 64, 38, 37])] h0) fun v1 h1 =>
 bnd (r 74 [x0, v1, (aJ 2)] h1) fun v2 h2 =>
 bnd (gU .neq v2 (.s []) h2) fun v3 h3 =>
 cB v3 (
 some (.t [v2, (aJ 0)], h3)) (
  yD r n x0 h3)
def s113 (r : RT) (n : Nat) (x0 : DV) (h0 : Hp) : aG :=
 xW r n x0 h0
abbrev c113 : Code := cf Tryz.f113
abbrev yT := cR c113
abbrev zI := cR yT
abbrev aAc := cR zI
abbrev yM := cR aAc
abbrev zH := cR yM
abbrev zO := cR zH
abbrev bLr := cR zO
abbrev yP := cL zO
abbrev aAy := cL yP
abbrev lE := cL aAy
abbrev aKz := cL zH
abbrev aIk := cL yM
abbrev aIh := cL aAc
abbrev aJd := cL zI
abbrev aJr := cL yT
abbrev aLu := cL c113
abbrev r113 : K := bT CF Tryz.f113
def D113 (r : RT) (n : Nat) (c : Code) (X : Nat → K) (k : K) : K := aU CF r 64 n c X r113 k
theorem bEc : D113 r n bLr x0 r113 = (K1 (eV r n) 5) := by kernel_rfl
theorem aYq (kk8 : mT) : D113 r n lE (xs x0 0 (K1 (eV r n) 5)) (K2 kk8 0 5) = (K2 (rN r n kk8) 0 5) := by kernel_rfl
theorem aTs (m : Nat) : aN (fun kk => D113 r n lE (xs x0 0 (K1 (eV r n) 5)) kk) m = (K2 (lB r n m) 0 5) := by
 induction m with
 | zero => exact (by kernel_rfl : aN (fun kk => D113 r n lE (xs x0 0 (K1 (eV r n) 5)) kk) 0 = (K2 (lB r n 0) 0 5))
 | succ m ih =>
  refine (by kernel_rfl : aN (fun kk => D113 r n lE (xs x0 0 (K1 (eV r n) 5)) kk) (m + 1) = D113 r n lE (xs x0 0 (K1 (eV r n) 5)) (aN (fun kk => D113 r n lE (xs x0 0 (K1 (eV r n) 5)) kk) m)).trans ?_
  rw [ih]
  exact (aYq r n (lB r n m)).trans (by kernel_rfl)
theorem bDl : D113 r n aAy (xs x0 0 (K1 (eV r n) 5)) (K1 (eV r n) 5) = (K2 (aFo r n) 0 5) :=
 (by kernel_rfl : D113 r n aAy (xs x0 0 (K1 (eV r n) 5)) (K1 (eV r n) 5) = aN (fun kk => D113 r n lE (xs x0 0 (K1 (eV r n) 5)) kk) n).trans ((aTs r n n).trans (by kernel_rfl))
theorem aWz : D113 r n zO x0 r113 = D113 r n yP x0 (K1 (eV r n) 5) :=
 congrArg (fun k => D113 r n yP x0 k) (bEc r n)
theorem bDb : D113 r n zO x0 r113 = (K2 (yB r n) 0 5) :=
 (aWz r n).trans
 ((by kernel_rfl : D113 r n yP x0 (K1 (eV r n) 5) = D113 r n aAy (xs x0 0 (K1 (eV r n) 5)) (K1 (eV r n) 5)).trans
 ((bDl r n).trans (by kernel_rfl)))
theorem aVi : D113 r n zH x0 r113 = D113 r n aKz x0 (K2 (yB r n) 0 5) :=
 congrArg (fun k => D113 r n aKz x0 k) (bDb r n)
theorem bFp : D113 r n zH x0 r113 = (K2 (aAo r n) 0 5) :=
 (aVi r n).trans
 ((by kernel_rfl))
theorem aZj : D113 r n yM x0 r113 = D113 r n aIk x0 (K2 (aAo r n) 0 5) :=
 congrArg (fun k => D113 r n aIk x0 k) (bFp r n)
theorem bHl : D113 r n yM x0 r113 = (K3 (aAb r n) 0 5 6) :=
 (aZj r n).trans
 ((by kernel_rfl))
theorem aUs : D113 r n aAc x0 r113 = D113 r n aIh x0 (K3 (aAb r n) 0 5 6) :=
 congrArg (fun k => D113 r n aIh x0 k) (bHl r n)
theorem aZq : D113 r n aAc x0 r113 = (K1 (aAs r n) 0) :=
 (aUs r n).trans
 ((by kernel_rfl))
theorem aTp : D113 r n zI x0 r113 = D113 r n aJd x0 (K1 (aAs r n) 0) :=
 congrArg (fun k => D113 r n aJd x0 k) (aZq r n)
theorem bHw : D113 r n zI x0 r113 = (K1 (yD r n) 0) :=
 (aTp r n).trans
 ((by kernel_rfl))
theorem aXr : D113 r n yT x0 r113 = D113 r n aJr x0 (K1 (yD r n) 0) :=
 congrArg (fun k => D113 r n aJr x0 k) (bHw r n)
theorem bEk : D113 r n yT x0 r113 = (K1 (xW r n) 0) :=
 (aXr r n).trans
 ((by kernel_rfl))
theorem bPc : D113 r n c113 x0 r113 = D113 r n aLu x0 (K1 (xW r n) 0) :=
 congrArg (fun k => D113 r n aLu x0 k) (bEk r n)
theorem bVk : D113 r n c113 x0 r113 = (K1 (s113 r n) 0) :=
 (bPc r n).trans
 ((by kernel_rfl))
theorem bQh : aM CF r n 113 args h = s113 r n (aZ args 0) h :=
 fK (bVk r n) args h (by kernel_rfl) (by kernel_rfl)
def eY (r : RT) (n : Nat) (x2 x4 : DV) (h0 : Hp) : aG :=
 bnd (aD 6 x4 h0) fun v1 h1 =>
 bnd (aC 6 x2 v1 h1) fun _ h2 =>
 bnd (aD 6 x2 h2) fun v3 _ =>
 some (v3, h2)
def sC (r : RT) (n : Nat) (kk7 : iK) (x0 x2 x4 : DV) (h0 : Hp) : aG :=
 bnd (r 77 [x0, (aJ 10), (.s [59])] h0) fun v1 h1 =>
 cB v1 (
 bnd (r 78 [x0] h1) fun v2 h2 =>
 bnd (aA 5 x4 (gT 1 h2)) fun v3 h3 =>
 bnd (aB v3 h3) fun v4 h4 =>
 bnd (r 139 [x0] h4) fun v5 h5 =>
 cnd (bX (aB v3 h5) v4 && true) (
 bnd (r 138 [v5] h5) fun v6 h6 =>
 cnd (bX (aB v3 h6) v4 && true) (
 bnd (aY (dA 0 h2.next) fM 1 [(0, 6, v6)] h6) fun v7 h7 =>
 bnd (bH 6 104 v4 v7 h7) fun v8 h8 =>
 bnd (aA 5 x4 h8) fun v9 h9 =>
 bnd (aC 1 v9 v8 h9) fun v10 h10 =>
      kk7 x0 x2 x4 h10))) (
      eY r n x2 x4 h1)
def kZ (r : RT) (n : Nat) (m : Nat) : iK :=
 Nat.rec (motive := fun _ => iK) (fun _ _ _ _ => none) (fun _ ih => sC r n ih) m
def aEy (r : RT) (n : Nat) : iK := kZ r n n
def xU (r : RT) (n : Nat) (x0 x2 x4 : DV) (h0 : Hp) : aG :=
 aEy r n x0 x2 x4 h0
def aAp (r : RT) (n : Nat) (x0 x2 x3 : DV) (h0 : Hp) : aG :=
 bnd (aA 5 x3 (gT 2 h0)) fun v1 h1 =>
 bnd (aB v1 h1) fun v2 h2 =>
 bnd (aT 6 v2 (aJ 0) h2) fun v3 h3 =>
 bnd (aD 6 v3 h3) fun v4 h4 =>
 bnd (aD 6 x3 h4) fun v5 h5 =>
 bnd (r 138 [v5] h5) fun v6 h6 =>
 cnd (bX (aD 6 v3 h6) v4 && (bX (aB v1 h6) v2 && true)) (
 bnd (aY (dA 0 h0.next) [(aJ 0), (.s []), (aJ 0), .l0, .l0, .l0, (aJ 0), (.s []), (aJ 0), .l0, .l0, .l0] 2 [(0, 6, v4), (6, 6, v6)] h6) fun v7 h7 =>
 bnd (cS fM [(0, 1, (aJ 8)), (5, 1, v7)] h7) fun v8 h8 =>
 bnd (qE (dA 1 h0.next) fM h8) fun v9 h9 =>
 bnd (aC 6 v9 v8 h9) fun v10 h10 =>
  xU r n x0 x2 v9 h10)
def zL (r : RT) (n : Nat) (x0 x2 x3 : DV) (h0 : Hp) : aG :=
 bnd (aA 0 x3 h0) fun v1 h1 =>
 bnd (aB v1 h1) fun v2 h2 =>
 bnd (aQ .neq v2 (aJ 7) h2) fun v3 h3 =>
 cB v3 (
 bnd (r 81 [x0, (aJ 0)] h3) fun v4 h4 =>
 bnd (r 80 [x0, v4, (aJ 13)] h4) fun v5 h5 =>
 bnd (aD 6 x3 h5) fun v6 h6 =>
 bnd (aC 6 x2 v6 h6) fun _ h7 =>
 bnd (aD 6 x2 h7) fun v8 _ =>
 some (v8, h7)) (
  aAp r n x0 x2 x3 h3)
def aAm (r : RT) (n : Nat) (x0 x2 x3 : DV) (h0 : Hp) : aG :=
 bnd (r 77 [x0, (aJ 10), (.s [59])] h0) fun v1 h1 =>
 bnd (pJ .not v1 h1) fun v2 h2 =>
 cB v2 (
 bnd (aD 6 x3 h2) fun v3 h3 =>
 bnd (aC 6 x2 v3 h3) fun _ h4 =>
 bnd (aD 6 x2 h4) fun v5 _ =>
 some (v5, h4)) (
  zL r n x0 x2 x3 h2)
def qO (r : RT) (n : Nat) (x0 x2 : DV) (h0 : Hp) : aG :=
 bnd (r 137 [x0] h0) fun v1 h1 =>
 bnd (r 136 [x0, v1] h1) fun v2 h2 =>
 bnd (r 135 [x0, v2] h2) fun v3 h3 =>
 bnd (r 134 [x0, v3] h3) fun v4 h4 =>
 bnd (cJ fM h4) fun v5 h5 =>
 bnd (aC 6 v5 v4 h5) fun _ h6 =>
  aAm r n x0 x2 v5 h6
def s114 (r : RT) (n : Nat) (x0 : DV) (h0 : Hp) : aG :=
 bnd (cJ fM h0) fun v1 h1 =>
  qO r n x0 v1 h1
abbrev c114 : Code := cf Tryz.f114
abbrev xS := cR c114
abbrev zK := cR xS
abbrev aAr := cR zK
abbrev yN := cR aAr
abbrev aBe := cR yN
abbrev bQp := cR aBe
abbrev xN := cL aBe
abbrev zR := cL xN
abbrev oE := cL zR
abbrev aMv := cL yN
abbrev aLk := cL aAr
abbrev aIs := cL zK
abbrev aHu := cL xS
abbrev xZ := cL c114
abbrev r114 : K := bT CF Tryz.f114
def D114 (r : RT) (n : Nat) (c : Code) (X : Nat → K) (k : K) : K := aU CF r 46 n c X r114 k
theorem bGp : D114 r n bQp x0 r114 = (K2 (eY r n) 2 4) := by kernel_rfl
theorem aPa (kk7 : iK) : D114 r n oE (xs x0 0 (K2 (eY r n) 2 4)) (K3 kk7 0 2 4) = (K3 (sC r n kk7) 0 2 4) := by kernel_rfl
theorem aRe (m : Nat) : aN (fun kk => D114 r n oE (xs x0 0 (K2 (eY r n) 2 4)) kk) m = (K3 (kZ r n m) 0 2 4) := by
 induction m with
 | zero => exact (by kernel_rfl : aN (fun kk => D114 r n oE (xs x0 0 (K2 (eY r n) 2 4)) kk) 0 = (K3 (kZ r n 0) 0 2 4))
 | succ m ih =>
  refine (by kernel_rfl : aN (fun kk => D114 r n oE (xs x0 0 (K2 (eY r n) 2 4)) kk) (m + 1) = D114 r n oE (xs x0 0 (K2 (eY r n) 2 4)) (aN (fun kk => D114 r n oE (xs x0 0 (K2 (eY r n) 2 4)) kk) m)).trans ?_
  rw [ih]
  exact (aPa r n (kZ r n m)).trans (by kernel_rfl)
theorem bAb : D114 r n zR (xs x0 0 (K2 (eY r n) 2 4)) (K2 (eY r n) 2 4) = (K3 (aEy r n) 0 2 4) :=
 (by kernel_rfl : D114 r n zR (xs x0 0 (K2 (eY r n) 2 4)) (K2 (eY r n) 2 4) = aN (fun kk => D114 r n oE (xs x0 0 (K2 (eY r n) 2 4)) kk) n).trans ((aRe r n n).trans (by kernel_rfl))
theorem aWt : D114 r n aBe x0 r114 = D114 r n xN x0 (K2 (eY r n) 2 4) :=
 congrArg (fun k => D114 r n xN x0 k) (bGp r n)
theorem bBn : D114 r n aBe x0 r114 = (K3 (xU r n) 0 2 4) :=
 (aWt r n).trans
 ((by kernel_rfl : D114 r n xN x0 (K2 (eY r n) 2 4) = D114 r n zR (xs x0 0 (K2 (eY r n) 2 4)) (K2 (eY r n) 2 4)).trans
 ((bAb r n).trans (by kernel_rfl)))
theorem aPs : D114 r n yN x0 r114 = D114 r n aMv x0 (K3 (xU r n) 0 2 4) :=
 congrArg (fun k => D114 r n aMv x0 k) (bBn r n)
theorem bFc : D114 r n yN x0 r114 = (K3 (aAp r n) 0 2 3) :=
 (aPs r n).trans
 ((by kernel_rfl))
theorem aRo : D114 r n aAr x0 r114 = D114 r n aLk x0 (K3 (aAp r n) 0 2 3) :=
 congrArg (fun k => D114 r n aLk x0 k) (bFc r n)
theorem bHp : D114 r n aAr x0 r114 = (K3 (zL r n) 0 2 3) :=
 (aRo r n).trans
 ((by kernel_rfl))
theorem aRa : D114 r n zK x0 r114 = D114 r n aIs x0 (K3 (zL r n) 0 2 3) :=
 congrArg (fun k => D114 r n aIs x0 k) (bHp r n)
theorem bGq : D114 r n zK x0 r114 = (K3 (aAm r n) 0 2 3) :=
 (aRa r n).trans
 ((by kernel_rfl))
theorem aVa : D114 r n xS x0 r114 = D114 r n aHu x0 (K3 (aAm r n) 0 2 3) :=
 congrArg (fun k => D114 r n aHu x0 k) (bGq r n)
theorem bBa : D114 r n xS x0 r114 = (K2 (qO r n) 0 2) :=
 (aVa r n).trans
 ((by kernel_rfl))
theorem bPd : D114 r n c114 x0 r114 = D114 r n xZ x0 (K2 (qO r n) 0 2) :=
 congrArg (fun k => D114 r n xZ x0 k) (bBa r n)
theorem bBp (q0 : mT) : D114 r n xZ x0 (K2 q0 0 2) = fun (env : fQ) (h : Hp) =>
 bnd (cJ fM h) fun v1 h1 =>
  q0 (env 0) v1 h1 := by kernel_rfl
theorem aXl : (fun (env : fQ) (h : Hp) =>
 bnd (cJ fM h) fun v1 h1 =>
  qO r n (env 0) v1 h1) = (K1 (s114 r n) 0) := by kernel_rfl
theorem bUt : D114 r n c114 x0 r114 = (K1 (s114 r n) 0) :=
 (bPd r n).trans
 ((bBp r n (qO r n)).trans (aXl r n))
theorem bQu : aM CF r n 114 args h = s114 r n (aZ args 0) h :=
 fK (bUt r n) args h (by kernel_rfl) (by kernel_rfl)
def s126 (r : RT) (n : Nat) (x0 : DV) (h0 : Hp) : aG :=
 bnd (iB x0 h0) fun v1 h1 =>
 bnd (aA 0 v1 h1) fun v2 h2 =>
 bnd (aB v2 h2) fun v3 h3 =>
 bnd (aQ .eql v3 (aJ 7) h3) fun v4 h4 =>
 cB v4 (
 bnd (aA 1 v1 h4) fun v5 h5 =>
 bnd (aB v5 h5) fun v6 h6 =>
 bnd (r 32 [v6] h6) fun v7 h7 =>
 some (v7, h7)) (
 bnd (aQ .eql v3 (aJ 8) h4) fun v8 h8 =>
 cB v8 (
 some ((aJ 4), h8)) (
 bnd (aQ .eql v3 (aJ 6) h8) fun v9 h9 =>
 cB v9 (
 some ((aJ 5), h9)) (
 some ((aJ 0), h9))))
abbrev c126 : Code := cf Tryz.f126
abbrev r126 : K := bT CF Tryz.f126
def D126 (r : RT) (n : Nat) (c : Code) (X : Nat → K) (k : K) : K := aU CF r 14 n c X r126 k
theorem bRn : D126 r n c126 x0 r126 = (K1 (s126 r n) 0) :=
 (by kernel_rfl)
theorem bPj : aM CF r n 126 args h = s126 r n (aZ args 0) h :=
 fK (bRn r n) args h (by kernel_rfl) (by kernel_rfl)
end
end Go.Dd

namespace Go.Dd
open Go.Proofs
noncomputable section
variable (r : RT) (n : Nat) (args : List DV) (h : Hp)
def s132 (r : RT) (n : Nat) (x0 : DV) (h0 : Hp) : aG :=
 bnd (r 107 [x0] h0) fun v1 h1 =>
 bnd (gD v1 false (some (x0, h1)) h1) fun v2 h2 =>
 bnd (gD v1 false (r 110 [v2] h2) h2) fun v3 h3 =>
 bnd (cA v1 (.b true) v3 h3) fun v4 h4 =>
 some (v4, h4)
abbrev c132 : Code := cf Tryz.f132
abbrev r132 : K := bT CF Tryz.f132
def D132 (r : RT) (n : Nat) (c : Code) (X : Nat → K) (k : K) : K := aU CF r 9 n c X r132 k
theorem bVb : D132 r n c132 x0 r132 = (K1 (s132 r n) 0) :=
 (by kernel_rfl)
theorem bOe : aM CF r n 132 args h = s132 r n (aZ args 0) h :=
 fK (bVb r n) args h (by kernel_rfl) (by kernel_rfl)
def s133 (r : RT) (n : Nat) (x0 : DV) (h0 : Hp) : aG :=
 bnd (aQ .neq x0 (.i .u8 (Int.ofNat 39)) h0) fun v1 h1 =>
 some (v1, h1)
abbrev c133 : Code := cf Tryz.f133
abbrev r133 : K := bT CF Tryz.f133
def D133 (r : RT) (n : Nat) (c : Code) (X : Nat → K) (k : K) : K := aU CF r 5 n c X r133 k
theorem bTp : D133 r n c133 x0 r133 = (K1 (s133 r n) 0) :=
 (by kernel_rfl)
theorem bOj : aM CF r n 133 args h = s133 r n (aZ args 0) h :=
 fK (bTp r n) args h (by kernel_rfl) (by kernel_rfl)
def eW (r : RT) (n : Nat) (x4 x5 : DV) (h0 : Hp) : aG :=
 bnd (aD 6 x5 h0) fun v1 h1 =>
 bnd (aC 6 x4 v1 h1) fun _ h2 =>
 bnd (aD 6 x4 h2) fun v3 _ =>
 some (v3, h2)
def sA (r : RT) (n : Nat) (kk5 : iK) (x0 x4 x5 : DV) (h0 : Hp) : aG :=
 bnd (r 77 [x0, (aJ 2), (.s [])] h0) fun v1 h1 =>
 cB v1 (
 bnd (aA 1 x5 h1) fun v2 h2 =>
 bnd (aB v2 h2) fun v3 h3 =>
 bnd (r 78 [x0] h3) fun v4 h4 =>
 cnd (bX (aB v2 h4) v3 && true) (
 bnd (eM 1 v4 h4) fun v5 h5 =>
 bnd (gU .add v3 v5 h5) fun v6 h6 =>
 bnd (aA 1 x5 h6) fun v7 h7 =>
 bnd (aC 1 v7 v6 h7) fun v8 h8 =>
 bnd (aA 5 x5 (gT 1 h8)) fun v9 h9 =>
 bnd (aB v9 h9) fun v10 h10 =>
 bnd (r 137 [x0] h10) fun v11 h11 =>
 cnd (bX (aB v9 h11) v10 && true) (
 bnd (r 136 [x0, v11] h11) fun v12 h12 =>
 cnd (bX (aB v9 h12) v10 && true) (
 bnd (r 135 [x0, v12] h12) fun v13 h13 =>
 cnd (bX (aB v9 h13) v10 && true) (
 bnd (aY (dA 0 h8.next) fM 1 [(0, 6, v13)] h13) fun v14 h14 =>
 bnd (bH 6 104 v10 v14 h14) fun v15 h15 =>
 bnd (aA 5 x5 h15) fun v16 h16 =>
 bnd (aC 1 v16 v15 h16) fun v17 h17 =>
      kk5 x0 x4 x5 h17))))) (
      eW r n x4 x5 h1)
def kY (r : RT) (n : Nat) (m : Nat) : iK :=
 Nat.rec (motive := fun _ => iK) (fun _ _ _ _ => none) (fun _ ih => sA r n ih) m
def aFl (r : RT) (n : Nat) : iK := kY r n n
def zT (r : RT) (n : Nat) (x0 x4 x5 : DV) (h0 : Hp) : aG :=
 aFl r n x0 x4 x5 h0
def zU (r : RT) (n : Nat) (x0 x3 x4 : DV) (h0 : Hp) : aG :=
 bnd (aD 6 x3 h0) fun v1 h1 =>
 bnd (aO fM 1 [(0, 6, v1)] h1) fun v2 h2 =>
 bnd (r 149 [(.s []), v2] h2) fun v3 h3 =>
 bnd (cJ fM h3) fun v4 h4 =>
 bnd (aC 6 v4 v3 h4) fun _ h5 =>
  zT r n x0 x4 v4 h5
def aAk (r : RT) (n : Nat) (x0 x3 x4 : DV) (h0 : Hp) : aG :=
 bnd (r 77 [x0, (aJ 2), (.s [])] h0) fun v1 h1 =>
 bnd (pJ .not v1 h1) fun v2 h2 =>
 cB v2 (
 bnd (aD 6 x3 h2) fun v3 h3 =>
 bnd (aC 6 x4 v3 h3) fun _ h4 =>
 bnd (aD 6 x4 h4) fun v5 _ =>
 some (v5, h4)) (
  zU r n x0 x3 x4 h2)
def s134 (r : RT) (n : Nat) (x0 x1 : DV) (h0 : Hp) : aG :=
 bnd (iB x1 h0) fun v1 h1 =>
 bnd (cJ fM h1) fun v2 h2 =>
  aAk r n x0 v1 v2 h2
abbrev c134 : Code := cf Tryz.f134
abbrev aBp := cR c134
abbrev zG := cR aBp
abbrev yI := cR zG
abbrev bMi := cR yI
abbrev aBl := cL yI
abbrev xL := cL aBl
abbrev oJ := cL xL
abbrev aWh := cL zG
abbrev aTw := cL aBp
abbrev aLn := cL c134
abbrev r134 : K := bT CF Tryz.f134
def D134 (r : RT) (n : Nat) (c : Code) (X : Nat → K) (k : K) : K := aU CF r 34 n c X r134 k
theorem bGy : D134 r n bMi x0 r134 = (K2 (eW r n) 4 5) := by kernel_rfl
theorem aTi (kk5 : iK) : D134 r n oJ (xs x0 0 (K2 (eW r n) 4 5)) (K3 kk5 0 4 5) = (K3 (sA r n kk5) 0 4 5) := by kernel_rfl
theorem aTa (m : Nat) : aN (fun kk => D134 r n oJ (xs x0 0 (K2 (eW r n) 4 5)) kk) m = (K3 (kY r n m) 0 4 5) := by
 induction m with
 | zero => exact (by kernel_rfl : aN (fun kk => D134 r n oJ (xs x0 0 (K2 (eW r n) 4 5)) kk) 0 = (K3 (kY r n 0) 0 4 5))
 | succ m ih =>
  refine (by kernel_rfl : aN (fun kk => D134 r n oJ (xs x0 0 (K2 (eW r n) 4 5)) kk) (m + 1) = D134 r n oJ (xs x0 0 (K2 (eW r n) 4 5)) (aN (fun kk => D134 r n oJ (xs x0 0 (K2 (eW r n) 4 5)) kk) m)).trans ?_
  rw [ih]
  exact (aTi r n (kY r n m)).trans (by kernel_rfl)
theorem bFr : D134 r n xL (xs x0 0 (K2 (eW r n) 4 5)) (K2 (eW r n) 4 5) = (K3 (aFl r n) 0 4 5) :=
 (by kernel_rfl : D134 r n xL (xs x0 0 (K2 (eW r n) 4 5)) (K2 (eW r n) 4 5) = aN (fun kk => D134 r n oJ (xs x0 0 (K2 (eW r n) 4 5)) kk) n).trans ((aTa r n n).trans (by kernel_rfl))
theorem aQq : D134 r n yI x0 r134 = D134 r n aBl x0 (K2 (eW r n) 4 5) :=
 congrArg (fun k => D134 r n aBl x0 k) (bGy r n)
theorem bAh : D134 r n yI x0 r134 = (K3 (zT r n) 0 4 5) :=
 (aQq r n).trans
 ((by kernel_rfl : D134 r n aBl x0 (K2 (eW r n) 4 5) = D134 r n xL (xs x0 0 (K2 (eW r n) 4 5)) (K2 (eW r n) 4 5)).trans
 ((bFr r n).trans (by kernel_rfl)))
theorem aPe : D134 r n zG x0 r134 = D134 r n aWh x0 (K3 (zT r n) 0 4 5) :=
 congrArg (fun k => D134 r n aWh x0 k) (bAh r n)
theorem bFm : D134 r n zG x0 r134 = (K3 (zU r n) 0 3 4) :=
 (aPe r n).trans
 ((by kernel_rfl))
theorem aYd : D134 r n aBp x0 r134 = D134 r n aTw x0 (K3 (zU r n) 0 3 4) :=
 congrArg (fun k => D134 r n aTw x0 k) (bFm r n)
theorem bBt : D134 r n aBp x0 r134 = (K3 (aAk r n) 0 3 4) :=
 (aYd r n).trans
 ((by kernel_rfl))
theorem bMx : D134 r n c134 x0 r134 = D134 r n aLn x0 (K3 (aAk r n) 0 3 4) :=
 congrArg (fun k => D134 r n aLn x0 k) (bBt r n)
theorem bUn : D134 r n c134 x0 r134 = (K2 (s134 r n) 0 1) :=
 (bMx r n).trans
 ((by kernel_rfl))
theorem bMr : aM CF r n 134 args h = s134 r n (aZ args 0) (aZ args 1) h :=
 fK (bUn r n) args h (by kernel_rfl) (by kernel_rfl)
def eZ (r : RT) (n : Nat) (x3 x4 : DV) (h0 : Hp) : aG :=
 bnd (aD 6 x3 h0) fun v1 h1 =>
 bnd (aC 6 x4 v1 h1) fun _ h2 =>
 bnd (aD 6 x4 h2) fun v3 _ =>
 some (v3, h2)
def rR (r : RT) (n : Nat) (kk3 : iK) (x0 x3 x4 : DV) (h0 : Hp) : aG :=
 bnd (r 77 [x0, (aJ 3), (.s [])] h0) fun v1 h1 =>
 cB v1 (
 bnd (r 78 [x0] h1) fun v2 h2 =>
 bnd (cJ [(aJ 0), (.s []), (aJ 0), (aJ 0)] h2) fun v3 h3 =>
 bnd (aC 4 v3 v2 h3) fun _ h4 =>
 bnd (aA 1 v3 (gT 1 h4)) fun v5 h5 =>
 bnd (aB v5 h5) fun v6 h6 =>
 bnd (aD 6 x3 h6) fun v7 h7 =>
 bnd (r 137 [x0] h7) fun v8 h8 =>
 cnd (bX (aD 6 x3 h8) v7 && (bX (aB v5 h8) v6 && true)) (
 bnd (r 136 [x0, v8] h8) fun v9 h9 =>
 cnd (bX (aD 6 x3 h9) v7 && (bX (aB v5 h9) v6 && true)) (
 bnd (aY (dA 0 h4.next) [(aJ 0), (.s []), (aJ 0), .l0, .l0, .l0, (aJ 0), (.s []), (aJ 0), .l0, .l0, .l0] 2 [(0, 6, v7), (6, 6, v9)] h9) fun v10 h10 =>
 bnd (r 149 [v6, v10] h10) fun v11 h11 =>
 bnd (aC 6 x3 v11 h11) fun v12 h12 =>
      kk3 x0 x3 x4 h12))) (
      eZ r n x3 x4 h1)
def lP (r : RT) (n : Nat) (m : Nat) : iK :=
 Nat.rec (motive := fun _ => iK) (fun _ _ _ _ => none) (fun _ ih => rR r n ih) m
def aHg (r : RT) (n : Nat) : iK := lP r n n
def yG (r : RT) (n : Nat) (x0 x3 x4 : DV) (h0 : Hp) : aG :=
 aHg r n x0 x3 x4 h0
def s135 (r : RT) (n : Nat) (x0 x1 : DV) (h0 : Hp) : aG :=
 bnd (iB x1 h0) fun v1 h1 =>
 bnd (cJ fM h1) fun v2 h2 =>
  yG r n x0 v1 v2 h2
abbrev c135 : Code := cf Tryz.f135
abbrev aBf := cR c135
abbrev bRb := cR aBf
abbrev zM := cL aBf
abbrev aAe := cL zM
abbrev oI := cL aAe
abbrev aYf := cL c135
abbrev r135 : K := bT CF Tryz.f135
def D135 (r : RT) (n : Nat) (c : Code) (X : Nat → K) (k : K) : K := aU CF r 20 n c X r135 k
theorem bDt : D135 r n bRb x0 r135 = (K2 (eZ r n) 3 4) := by kernel_rfl
theorem aSe (kk3 : iK) : D135 r n oI (xs x0 0 (K2 (eZ r n) 3 4)) (K3 kk3 0 3 4) = (K3 (rR r n kk3) 0 3 4) := by kernel_rfl
theorem aVf (m : Nat) : aN (fun kk => D135 r n oI (xs x0 0 (K2 (eZ r n) 3 4)) kk) m = (K3 (lP r n m) 0 3 4) := by
 induction m with
 | zero => exact (by kernel_rfl : aN (fun kk => D135 r n oI (xs x0 0 (K2 (eZ r n) 3 4)) kk) 0 = (K3 (lP r n 0) 0 3 4))
 | succ m ih =>
  refine (by kernel_rfl : aN (fun kk => D135 r n oI (xs x0 0 (K2 (eZ r n) 3 4)) kk) (m + 1) = D135 r n oI (xs x0 0 (K2 (eZ r n) 3 4)) (aN (fun kk => D135 r n oI (xs x0 0 (K2 (eZ r n) 3 4)) kk) m)).trans ?_
  rw [ih]
  exact (aSe r n (lP r n m)).trans (by kernel_rfl)
theorem bEv : D135 r n aAe (xs x0 0 (K2 (eZ r n) 3 4)) (K2 (eZ r n) 3 4) = (K3 (aHg r n) 0 3 4) :=
 (by kernel_rfl : D135 r n aAe (xs x0 0 (K2 (eZ r n) 3 4)) (K2 (eZ r n) 3 4) = aN (fun kk => D135 r n oI (xs x0 0 (K2 (eZ r n) 3 4)) kk) n).trans ((aVf r n n).trans (by kernel_rfl))
theorem aTo : D135 r n aBf x0 r135 = D135 r n zM x0 (K2 (eZ r n) 3 4) :=
 congrArg (fun k => D135 r n zM x0 k) (bDt r n)
theorem bHx : D135 r n aBf x0 r135 = (K3 (yG r n) 0 3 4) :=
 (aTo r n).trans
 ((by kernel_rfl : D135 r n zM x0 (K2 (eZ r n) 3 4) = D135 r n aAe (xs x0 0 (K2 (eZ r n) 3 4)) (K2 (eZ r n) 3 4)).trans
 ((bEv r n).trans (by kernel_rfl)))
theorem bKk : D135 r n c135 x0 r135 = D135 r n aYf x0 (K3 (yG r n) 0 3 4) :=
 congrArg (fun k => D135 r n aYf x0 k) (bHx r n)
theorem bUx : D135 r n c135 x0 r135 = (K2 (s135 r n) 0 1) :=
 (bKk r n).trans
 ((by kernel_rfl))
theorem bRi : aM CF r n 135 args h = s135 r n (aZ args 0) (aZ args 1) h :=
 fK (bUx r n) args h (by kernel_rfl) (by kernel_rfl)
def fA (r : RT) (n : Nat) (x3 x4 : DV) (h0 : Hp) : aG :=
 bnd (aD 6 x3 h0) fun v1 h1 =>
 bnd (aC 6 x4 v1 h1) fun _ h2 =>
 bnd (aD 6 x4 h2) fun v3 _ =>
 some (v3, h2)
def rV (r : RT) (n : Nat) (kk3 : iK) (x0 x3 x4 : DV) (h0 : Hp) : aG :=
 bnd (r 77 [x0, (aJ 1), (.s [])] h0) fun v1 h1 =>
 cB v1 (
 bnd (r 78 [x0] (gT 1 h1)) fun v2 h2 =>
 bnd (eM 1 v2 h2) fun v3 h3 =>
 bnd (aD 6 x3 h3) fun v4 h4 =>
 cnd (bX (aD 6 x3 (gT 1 h1)) v4 && true) (
 bnd (aY (dA 0 h1.next) fM 1 [(0, 6, v4)] h4) fun v5 h5 =>
 bnd (r 149 [v3, v5] h5) fun v6 h6 =>
 bnd (aC 6 x3 v6 h6) fun v7 h7 =>
      kk3 x0 x3 x4 h7)) (
      fA r n x3 x4 h1)
def lG (r : RT) (n : Nat) (m : Nat) : iK :=
 Nat.rec (motive := fun _ => iK) (fun _ _ _ _ => none) (fun _ ih => rV r n ih) m
def aGt (r : RT) (n : Nat) : iK := lG r n n
def yR (r : RT) (n : Nat) (x0 x3 x4 : DV) (h0 : Hp) : aG :=
 aGt r n x0 x3 x4 h0
def s136 (r : RT) (n : Nat) (x0 x1 : DV) (h0 : Hp) : aG :=
 bnd (iB x1 h0) fun v1 h1 =>
 bnd (cJ fM h1) fun v2 h2 =>
  yR r n x0 v1 v2 h2
abbrev c136 : Code := cf Tryz.f136
abbrev aAd := cR c136
abbrev bMj := cR aAd
abbrev aAa := cL aAd
abbrev yH := cL aAa
abbrev oH := cL yH
abbrev aPr := cL c136
abbrev r136 : K := bT CF Tryz.f136
def D136 (r : RT) (n : Nat) (c : Code) (X : Nat → K) (k : K) : K := aU CF r 14 n c X r136 k
theorem bFy : D136 r n bMj x0 r136 = (K2 (fA r n) 3 4) := by kernel_rfl
theorem aUr (kk3 : iK) : D136 r n oH (xs x0 0 (K2 (fA r n) 3 4)) (K3 kk3 0 3 4) = (K3 (rV r n kk3) 0 3 4) := by kernel_rfl
theorem aVu (m : Nat) : aN (fun kk => D136 r n oH (xs x0 0 (K2 (fA r n) 3 4)) kk) m = (K3 (lG r n m) 0 3 4) := by
 induction m with
 | zero => exact (by kernel_rfl : aN (fun kk => D136 r n oH (xs x0 0 (K2 (fA r n) 3 4)) kk) 0 = (K3 (lG r n 0) 0 3 4))
 | succ m ih =>
  refine (by kernel_rfl : aN (fun kk => D136 r n oH (xs x0 0 (K2 (fA r n) 3 4)) kk) (m + 1) = D136 r n oH (xs x0 0 (K2 (fA r n) 3 4)) (aN (fun kk => D136 r n oH (xs x0 0 (K2 (fA r n) 3 4)) kk) m)).trans ?_
  rw [ih]
  exact (aUr r n (lG r n m)).trans (by kernel_rfl)
theorem bGe : D136 r n yH (xs x0 0 (K2 (fA r n) 3 4)) (K2 (fA r n) 3 4) = (K3 (aGt r n) 0 3 4) :=
 (by kernel_rfl : D136 r n yH (xs x0 0 (K2 (fA r n) 3 4)) (K2 (fA r n) 3 4) = aN (fun kk => D136 r n oH (xs x0 0 (K2 (fA r n) 3 4)) kk) n).trans ((aVu r n n).trans (by kernel_rfl))
theorem aPz : D136 r n aAd x0 r136 = D136 r n aAa x0 (K2 (fA r n) 3 4) :=
 congrArg (fun k => D136 r n aAa x0 k) (bFy r n)
theorem bFe : D136 r n aAd x0 r136 = (K3 (yR r n) 0 3 4) :=
 (aPz r n).trans
 ((by kernel_rfl : D136 r n aAa x0 (K2 (fA r n) 3 4) = D136 r n yH (xs x0 0 (K2 (fA r n) 3 4)) (K2 (fA r n) 3 4)).trans
 ((bGe r n).trans (by kernel_rfl)))
theorem bOi : D136 r n c136 x0 r136 = D136 r n aPr x0 (K3 (yR r n) 0 3 4) :=
 congrArg (fun k => D136 r n aPr x0 k) (bFe r n)
theorem bSf : D136 r n c136 x0 r136 = (K2 (s136 r n) 0 1) :=
 (bOi r n).trans
 ((by kernel_rfl))
theorem bMq : aM CF r n 136 args h = s136 r n (aZ args 0) (aZ args 1) h :=
 fK (bSf r n) args h (by kernel_rfl) (by kernel_rfl)
def aFq (r : RT) (n : Nat) (x2 : DV) (h0 : Hp) : aG :=
 bnd (cS fM [] h0) fun v1 h1 =>
 bnd (aC 6 x2 v1 h1) fun _ h2 =>
 bnd (aD 6 x2 h2) fun v3 _ =>
 some (v3, h2)
def aYl (r : RT) (n : Nat) (x0 x2 : DV) (h0 : Hp) : aG :=
 bnd (r 81 [x0, (aJ 0)] h0) fun v1 h1 =>
 bnd (cJ [(aJ 0), (.s []), (aJ 0), (aJ 0)] h1) fun v2 h2 =>
 bnd (aC 4 v2 v1 h2) fun _ h3 =>
 bnd (bM x0 h3) fun v4 h4 =>
 bnd (aA 3 v4 h4) fun v5 h5 =>
 bnd (aB v5 h5) fun v6 h6 =>
 bnd (aQ .neq v6 (aJ 0) h6) fun v7 h7 =>
 cB v7 (
  aFq r n x2 h7) (
 bnd (aA 0 v2 h7) fun v8 h8 =>
 bnd (aB v8 h8) fun v9 h9 =>
 bnd (aQ .eql v9 (aJ 1) h9) fun v10 h10 =>
 cB v10 (
 bnd (r 78 [x0] h10) fun v11 h11 =>
 bnd (eM 1 v11 h11) fun v12 h12 =>
 bnd (cS fM [(0, 1, (aJ 5)), (1, 1, v12)] h12) fun v13 h13 =>
 bnd (aC 6 x2 v13 h13) fun _ h14 =>
 bnd (aD 6 x2 h14) fun v15 _ =>
 some (v15, h14)) (
 bnd (aA 0 v2 h10) fun v16 h16 =>
 bnd (aB v16 h16) fun v17 h17 =>
 bnd (aQ .eql v17 (aJ 7) h17) fun v18 h18 =>
 cB v18 (
 bnd (r 151 [x0, (.f 152 [x0] [])] h18) fun v19 h19 =>
 bnd (aC 6 x2 v19 h19) fun _ h20 =>
 bnd (aD 6 x2 h20) fun v21 _ =>
 some (v21, h20)) (
 bnd (r 77 [x0, (aJ 10), (.s [40])] h18) fun v22 h22 =>
 cB v22 (
 bnd (r 151 [x0, (.f 153 [x0] [])] h22) fun v23 h23 =>
 bnd (aC 6 x2 v23 h23) fun _ h24 =>
 bnd (aD 6 x2 h24) fun v25 _ =>
 some (v25, h24)) (
 bnd (r 77 [x0, (aJ 10), (.s [91])] h22) fun v26 h26 =>
 cB v26 (
 bnd (r 151 [x0, (.f 154 [x0] [])] h26) fun v27 h27 =>
 bnd (aC 6 x2 v27 h27) fun _ h28 =>
 bnd (aD 6 x2 h28) fun v29 _ =>
 some (v29, h28)) (
 bnd (aD 4 v2 h26) fun v30 h30 =>
 bnd (r 80 [x0, v30, (aJ 13)] h30) fun v31 h31 =>
  aFq r n x2 h31)))))
def aWy (r : RT) (n : Nat) (x0 x2 : DV) (h0 : Hp) : aG :=
 bnd (r 150 [x0] h0) fun v1 h1 =>
 bnd (aH 0 v1 h1) fun v2 h2 =>
 bnd (aH 1 v1 h2) fun v3 h3 =>
 bnd (cJ fM h3) fun v4 h4 =>
 bnd (aC 6 v4 v2 h4) fun _ h5 =>
 cB v3 (
 bnd (aD 6 v4 h5) fun v6 h6 =>
 bnd (aC 6 x2 v6 h6) fun _ h7 =>
 bnd (aD 6 x2 h7) fun v8 _ =>
 some (v8, h7)) (
  aYl r n x0 x2 h5)
def s137 (r : RT) (n : Nat) (x0 : DV) (h0 : Hp) : aG :=
 bnd (cJ fM h0) fun v1 h1 =>
  aWy r n x0 v1 h1
abbrev c137 : Code := cf Tryz.f137
abbrev r137 : K := bT CF Tryz.f137
def D137 (r : RT) (n : Nat) (c : Code) (X : Nat → K) (k : K) : K := aU CF r 55 n c X r137 k
theorem bUg : D137 r n c137 x0 r137 = (K1 (s137 r n) 0) := by kernel_rfl
theorem bMh : aM CF r n 137 args h = s137 r n (aZ args 0) h :=
 fK (bUg r n) args h (by kernel_rfl) (by kernel_rfl)
def s138 (r : RT) (n : Nat) (x0 : DV) (h0 : Hp) : aG :=
 bnd (iB x0 h0) fun v1 h1 =>
 bnd (cJ fM h1) fun v2 h2 =>
 bnd (aA 5 v1 h2) fun v3 h3 =>
 bnd (aB v3 h3) fun v4 h4 =>
 bnd (fS v4 h4) fun v5 h5 =>
 bnd (aQ .eql v5 (aJ 0) h5) fun v6 h6 =>
 cB v6 (
 bnd (aD 6 v1 h6) fun v7 h7 =>
 bnd (aC 6 v2 v7 h7) fun _ h8 =>
 bnd (aD 6 v2 h8) fun v9 _ =>
 some (v9, h8)) (
 bnd (aA 1 v1 h6) fun v10 h10 =>
 bnd (aB v10 h10) fun v11 h11 =>
 bnd (aA 5 v1 h11) fun v12 h12 =>
 bnd (aB v12 h12) fun v13 h13 =>
 bnd (dB 6 v13 (some (aJ 1)) none h13) fun v14 h14 =>
 bnd (r 155 [v14] h14) fun v15 h15 =>
 cnd (bX (aB v10 h15) v11 && true) (
 bnd (cS fM [(0, 1, (aJ 7)), (1, 1, v11), (5, 1, v15)] h15) fun v16 h16 =>
 bnd (aC 6 v2 v16 h16) fun v17 h17 =>
 bnd (aD 6 v2 h17) fun v18 _ =>
 some (v18, h17)))
abbrev c138 : Code := cf Tryz.f138
abbrev r138 : K := bT CF Tryz.f138
def D138 (r : RT) (n : Nat) (c : Code) (X : Nat → K) (k : K) : K := aU CF r 15 n c X r138 k
theorem bVv : D138 r n c138 x0 r138 = (K1 (s138 r n) 0) :=
 (by kernel_rfl)
theorem bMu : aM CF r n 138 args h = s138 r n (aZ args 0) h :=
 fK (bVv r n) args h (by kernel_rfl) (by kernel_rfl)
def s139 (r : RT) (n : Nat) (x0 : DV) (h0 : Hp) : aG :=
 bnd (cJ fM h0) fun v1 h1 =>
 bnd (cJ fM h1) fun v2 h2 =>
 bnd (r 81 [x0, (aJ 0)] h2) fun v3 h3 =>
 bnd (cJ [(aJ 0), (.s []), (aJ 0), (aJ 0)] h3) fun v4 h4 =>
 bnd (aC 4 v4 v3 h4) fun _ h5 =>
 bnd (aA 0 v4 h5) fun v6 h6 =>
 bnd (aB v6 h6) fun v7 h7 =>
 bnd (aQ .eql v7 (aJ 1) h7) fun v8 h8 =>
 cB v8 (
 bnd (r 78 [x0] h8) fun v9 h9 =>
 bnd (aA 1 v4 h9) fun v10 h10 =>
 bnd (aB v10 h10) fun v11 h11 =>
 bnd (aD 6 v2 h11) fun v12 h12 =>
 bnd (aO fM 1 [(0, 6, v12)] h12) fun v13 h13 =>
 bnd (r 149 [v11, v13] h13) fun v14 h14 =>
 bnd (aC 6 v1 v14 h14) fun _ h15 =>
 bnd (aD 6 v1 h15) fun v16 _ =>
 some (v16, h15)) (
 bnd (aQ .eql v7 (aJ 3) h8) fun v17 h17 =>
 cB v17 (
 bnd (r 78 [x0] h17) fun v18 h18 =>
 bnd (aA 1 v4 (gT 1 h18)) fun v19 h19 =>
 bnd (aB v19 h19) fun v20 h20 =>
 bnd (aD 6 v2 h20) fun v21 h21 =>
 bnd (r 137 [x0] h21) fun v22 h22 =>
 cnd (bX (aD 6 v2 h22) v21 && (bX (aB v19 h22) v20 && true)) (
 bnd (r 136 [x0, v22] h22) fun v23 h23 =>
 cnd (bX (aD 6 v2 h23) v21 && (bX (aB v19 h23) v20 && true)) (
 bnd (aY (dA 0 h18.next) [(aJ 0), (.s []), (aJ 0), .l0, .l0, .l0, (aJ 0), (.s []), (aJ 0), .l0, .l0, .l0] 2 [(0, 6, v21), (6, 6, v23)] h23) fun v24 h24 =>
 bnd (r 149 [v20, v24] h24) fun v25 h25 =>
 bnd (aC 6 v1 v25 h25) fun v26 h26 =>
 bnd (aD 6 v1 h26) fun v27 _ =>
 some (v27, h26)))) (
 bnd (aQ .eql v7 (aJ 2) h17) fun v28 h28 =>
 cB v28 (
 bnd (aD 6 v2 h28) fun v29 h29 =>
 bnd (r 134 [x0, v29] h29) fun v30 h30 =>
 bnd (aC 6 v1 v30 h30) fun _ h31 =>
 bnd (aD 6 v1 h31) fun v32 _ =>
 some (v32, h31)) (
 bnd (aD 4 v4 h28) fun v33 h33 =>
 bnd (r 80 [x0, v33, (aJ 13)] h33) fun v34 h34 =>
 bnd (aD 6 v2 h34) fun v35 h35 =>
 bnd (aC 6 v1 v35 h35) fun _ h36 =>
 bnd (aD 6 v1 h36) fun v37 _ =>
 some (v37, h36))))
abbrev c139 : Code := cf Tryz.f139
abbrev r139 : K := bT CF Tryz.f139
def D139 (r : RT) (n : Nat) (c : Code) (X : Nat → K) (k : K) : K := aU CF r 40 n c X r139 k
theorem bTo : D139 r n c139 x0 r139 = (K1 (s139 r n) 0) :=
 (by kernel_rfl)
theorem bNk : aM CF r n 139 args h = s139 r n (aZ args 0) h :=
 fK (bTo r n) args h (by kernel_rfl) (by kernel_rfl)
def s149 (r : RT) (n : Nat) (x0 x1 : DV) (h0 : Hp) : aG :=
 bnd (cJ fM h0) fun v1 h1 =>
 bnd (cS fM [(0, 1, (aJ 7)), (1, 1, x0), (5, 1, x1)] h1) fun v2 h2 =>
 bnd (aC 6 v1 v2 h2) fun _ h3 =>
 bnd (aD 6 v1 h3) fun v4 _ =>
 some (v4, h3)
abbrev c149 : Code := cf Tryz.f149
abbrev r149 : K := bT CF Tryz.f149
def D149 (r : RT) (n : Nat) (c : Code) (X : Nat → K) (k : K) : K := aU CF r 8 n c X r149 k
theorem bSd : D149 r n c149 x0 r149 = (K2 (s149 r n) 0 1) :=
 (by kernel_rfl)
theorem bLs : aM CF r n 149 args h = s149 r n (aZ args 0) (aZ args 1) h :=
 fK (bSd r n) args h (by kernel_rfl) (by kernel_rfl)
def yE (r : RT) (n : Nat) (x0 x2 x5 : DV) (h0 : Hp) : aG :=
 bnd (r 78 [x0] h0) fun v1 h1 =>
 bnd (aD 6 x5 h1) fun v2 h2 =>
 bnd (aC 6 x2 v2 h2) fun _ h3 =>
 bnd (aD 6 x2 h3) fun v4 _ =>
 some (.t [v4, (.b true)], h3)
def aXk (r : RT) (n : Nat) (x0 x2 x4 x5 : DV) (h0 : Hp) : aG :=
 bnd (bM x0 h0) fun v1 h1 =>
 bnd (aA 3 v1 h1) fun v2 h2 =>
 bnd (aB v2 h2) fun v3 h3 =>
 bnd (aQ .neq v3 (aJ 0) h3) fun v4 h4 =>
 cB v4 (
 bnd (aD 6 x5 h4) fun v5 h5 =>
 bnd (aC 6 x2 v5 h5) fun _ h6 =>
 bnd (aD 6 x2 h6) fun v7 _ =>
 some (.t [v7, (.b false)], h6)) (
 bnd (r 161 [x0] h4) fun v8 h8 =>
 cB v8 (
 bnd (r 78 [x0] h8) fun v9 h9 =>
 bnd (r 78 [x0] h9) fun v10 h10 =>
 bnd (eM 2 v10 h10) fun v11 h11 =>
 bnd (pJ .neg v11 h11) fun v12 h12 =>
 bnd (cS fM [(0, 1, (aJ 1)), (2, 1, v12)] h12) fun v13 h13 =>
 bnd (aC 6 x2 v13 h13) fun _ h14 =>
 bnd (aD 6 x2 h14) fun v15 _ =>
 some (.t [v15, (.b true)], h14)) (
 bnd (aA 0 x4 h8) fun v16 h16 =>
 bnd (aB v16 h16) fun v17 h17 =>
 bnd (aQ .eql v17 (aJ 4) h17) fun v18 h18 =>
 cB v18 (
 bnd (aA 0 x5 h18) fun v19 h19 =>
 bnd (aC 1 v19 (aJ 1) h19) fun _ h20 =>
  yE r n x0 x2 x5 h20) (
 bnd (aA 0 x4 h18) fun v21 h21 =>
 bnd (aB v21 h21) fun v22 h22 =>
 bnd (aQ .eql v22 (aJ 5) h22) fun v23 h23 =>
 cB v23 (
 bnd (aA 0 x5 h23) fun v24 h24 =>
 bnd (aC 1 v24 (aJ 2) h24) fun _ h25 =>
  yE r n x0 x2 x5 h25) (
 bnd (aA 0 x4 h23) fun v26 h26 =>
 bnd (aB v26 h26) fun v27 h27 =>
 bnd (aQ .eql v27 (aJ 6) h27) fun v28 h28 =>
 cB v28 (
 bnd (aA 0 x5 h28) fun v29 h29 =>
 bnd (aC 1 v29 (aJ 3) h29) fun _ h30 =>
  yE r n x0 x2 x5 h30) (
 bnd (aD 6 x5 h28) fun v31 h31 =>
 bnd (aC 6 x2 v31 h31) fun _ h32 =>
 bnd (aD 6 x2 h32) fun v33 _ =>
 some (.t [v33, (.b false)], h32))))))
def aSs (r : RT) (n : Nat) (x0 x2 x4 : DV) (h0 : Hp) : aG :=
 bnd (aA 1 x4 h0) fun v1 h1 =>
 bnd (aB v1 h1) fun v2 h2 =>
 bnd (aA 2 x4 h2) fun v3 h3 =>
 bnd (aB v3 h3) fun v4 h4 =>
 bnd (cS fM [(1, 1, v2), (2, 1, v4)] h4) fun v5 h5 =>
 bnd (cJ fM h5) fun v6 h6 =>
 bnd (aC 6 v6 v5 h6) fun _ h7 =>
  aXk r n x0 x2 x4 v6 h7
def aTf (r : RT) (n : Nat) (x0 x2 : DV) (h0 : Hp) : aG :=
 bnd (r 81 [x0, (aJ 0)] h0) fun v1 h1 =>
 bnd (cJ [(aJ 0), (.s []), (aJ 0), (aJ 0)] h1) fun v2 h2 =>
 bnd (aC 4 v2 v1 h2) fun _ h3 =>
  aSs r n x0 x2 v2 h3
def s150 (r : RT) (n : Nat) (x0 : DV) (h0 : Hp) : aG :=
 bnd (cJ fM h0) fun v1 h1 =>
  aTf r n x0 v1 h1
abbrev c150 : Code := cf Tryz.f150
abbrev r150 : K := bT CF Tryz.f150
def D150 (r : RT) (n : Nat) (c : Code) (X : Nat → K) (k : K) : K := aU CF r 49 n c X r150 k
theorem bSu : D150 r n c150 x0 r150 = (K1 (s150 r n) 0) := by kernel_rfl
theorem bNl : aM CF r n 150 args h = s150 r n (aZ args 0) h :=
 fK (bSu r n) args h (by kernel_rfl) (by kernel_rfl)
def s151 (r : RT) (n : Nat) (x0 x1 : DV) (h0 : Hp) : aG :=
 bnd (cJ fM h0) fun v1 h1 =>
 bnd (r 78 [x0] h1) fun v2 h2 =>
 bnd (cJ [(aJ 0), (.s []), (aJ 0), (aJ 0)] h2) fun v3 h3 =>
 bnd (aC 4 v3 v2 h3) fun _ h4 =>
 bnd (bM x0 h4) fun v5 h5 =>
 bnd (aA 1 v5 h5) fun v6 h6 =>
 bnd (aB v6 h6) fun v7 h7 =>
 bnd (aQ .eql v7 (aJ 20) h7) fun v8 h8 =>
 cB v8 (
 bnd (aD 4 v3 h8) fun v9 h9 =>
 bnd (r 80 [x0, v9, (aJ 14)] h9) fun v10 h10 =>
 bnd (cS fM [] h10) fun v11 h11 =>
 bnd (aC 6 v1 v11 h11) fun _ h12 =>
 bnd (aD 6 v1 h12) fun v13 _ =>
 some (v13, h12)) (
 bnd (bM x0 h8) fun v14 h14 =>
 bnd (aA 1 v14 h14) fun v15 h15 =>
 bnd (aB v15 h15) fun v16 h16 =>
 bnd (aQ .add v16 (aJ 1) h16) fun v17 h17 =>
 bnd (bM x0 h17) fun v18 h18 =>
 bnd (aA 1 v18 h18) fun v19 h19 =>
 bnd (aC 1 v19 v17 h19) fun _ h20 =>
 bnd (dM CF r x1 [] h20) fun v21 h21 =>
 bnd (cJ fM h21) fun v22 h22 =>
 bnd (aC 6 v22 v21 h22) fun _ h23 =>
 bnd (bM x0 h23) fun v24 h24 =>
 bnd (aA 1 v24 h24) fun v25 h25 =>
 bnd (aB v25 h25) fun v26 h26 =>
 bnd (aQ .sub v26 (aJ 1) h26) fun v27 h27 =>
 bnd (bM x0 h27) fun v28 h28 =>
 bnd (aA 1 v28 h28) fun v29 h29 =>
 bnd (aC 1 v29 v27 h29) fun _ h30 =>
 bnd (aD 6 v22 h30) fun v31 h31 =>
 bnd (aC 6 v1 v31 h31) fun _ h32 =>
 bnd (aD 6 v1 h32) fun v33 _ =>
 some (v33, h32))
abbrev c151 : Code := cf Tryz.f151
abbrev r151 : K := bT CF Tryz.f151
def D151 (r : RT) (n : Nat) (c : Code) (X : Nat → K) (k : K) : K := aU CF r 35 n c X r151 k
theorem bVn : D151 r n c151 x0 r151 = (K2 (s151 r n) 0 1) :=
 (by kernel_rfl)
theorem bKp : aM CF r n 151 args h = s151 r n (aZ args 0) (aZ args 1) h :=
 fK (bVn r n) args h (by kernel_rfl) (by kernel_rfl)
def eN (r : RT) (n : Nat) (x0 x2 x3 : DV) (h0 : Hp) : aG :=
 bnd (r 78 [x0] h0) fun v1 h1 =>
 bnd (aD 6 x3 h1) fun v2 h2 =>
 bnd (aC 6 x2 v2 h2) fun _ h3 =>
 bnd (aD 6 x2 h3) fun v4 _ =>
 some (v4, h3)
def oG (r : RT) (n : Nat) (kk4 : iK) (x0 x2 x3 x4 : DV) (h0 : Hp) : aG :=
 bnd (aA 5 x3 h0) fun v1 h1 =>
 bnd (aB v1 h1) fun v2 h2 =>
 bnd (aD 6 x4 h2) fun v3 h3 =>
 bnd (aO fM 1 [(0, 6, v3)] h3) fun v4 h4 =>
 bnd (bH 6 104 v2 v4 h4) fun v5 h5 =>
 bnd (aA 5 x3 h5) fun v6 h6 =>
 bnd (aC 1 v6 v5 h6) fun _ h7 =>
  kk4 x0 x2 x3 h7
def aRm (r : RT) (n : Nat) (kk4 : iK) (x0 x2 x3 x4 x5 : DV) (h0 : Hp) : aG :=
 cB x5 (
  oG r n kk4 x0 x2 x3 x4 h0) (
 bnd (r 77 [x0, (aJ 7), (.s [])] h0) fun v1 h1 =>
 bnd (gD v1 false (some (x0, h1)) h1) fun v2 h2 =>
 bnd (gD v1 false (r 77 [v2, (aJ 10), (.s [40])] h2) h2) fun v3 h3 =>
 bnd (cA v1 (.b true) v3 h3) fun v4 h4 =>
 cB v4 (
 bnd (r 151 [x0, (.f 152 [x0] [])] h4) fun v5 h5 =>
 bnd (aC 6 x4 v5 h5) fun _ h6 =>
      oG r n kk4 x0 x2 x3 x4 h6) (
 bnd (r 81 [x0, (aJ 0)] h4) fun v7 h7 =>
 bnd (r 80 [x0, v7, (aJ 13)] h7) fun v8 h8 =>
      oG r n kk4 x0 x2 x3 x4 h8))
def aVe (r : RT) (n : Nat) (kk4 : iK) (x0 x2 x3 : DV) (h0 : Hp) : aG :=
 bnd (r 150 [x0] h0) fun v1 h1 =>
 bnd (aH 0 v1 h1) fun v2 h2 =>
 bnd (aH 1 v1 h2) fun v3 h3 =>
 bnd (cJ fM h3) fun v4 h4 =>
 bnd (aC 6 v4 v2 h4) fun _ h5 =>
  aRm r n kk4 x0 x2 x3 v4 v3 h5
def rQ (r : RT) (n : Nat) (kk4 : iK) (x0 x2 x3 : DV) (h0 : Hp) : aG :=
 bnd (bM x0 h0) fun v1 h1 =>
 bnd (aA 3 v1 h1) fun v2 h2 =>
 bnd (aB v2 h2) fun v3 h3 =>
 bnd (aQ .eql v3 (aJ 0) h3) fun v4 h4 =>
 bnd (gD v4 true (some (x0, h4)) h4) fun v5 h5 =>
 bnd (gD v4 true (r 77 [v5, (aJ 10), (.s [41])] h5) h5) fun v6 h6 =>
 bnd (gD v4 true (pJ .not v6 h6) h6) fun v7 h7 =>
 bnd (cA v4 v7 (.b false) h7) fun v8 h8 =>
 cB v8 (
  aVe r n kk4 x0 x2 x3 h8) (
  eN r n x0 x2 x3 h8)
def iM (r : RT) (n : Nat) (m : Nat) : iK :=
 Nat.rec (motive := fun _ => iK) (fun _ _ _ _ => none) (fun _ ih => rQ r n ih) m
def aFn (r : RT) (n : Nat) : iK := iM r n n
def xY (r : RT) (n : Nat) (x0 x2 x3 : DV) (h0 : Hp) : aG :=
 aFn r n x0 x2 x3 h0
def aAf (r : RT) (n : Nat) (x0 x2 : DV) (h0 : Hp) : aG :=
 bnd (cS fM [(0, 1, (aJ 4))] h0) fun v1 h1 =>
 bnd (cJ fM h1) fun v2 h2 =>
 bnd (aC 6 v2 v1 h2) fun _ h3 =>
  xY r n x0 x2 v2 h3
def s152 (r : RT) (n : Nat) (x0 : DV) (h0 : Hp) : aG :=
 bnd (cJ fM h0) fun v1 h1 =>
  aAf r n x0 v1 h1
abbrev c152 : Code := cf Tryz.f152
abbrev yX := cR c152
abbrev yS := cR yX
abbrev bOq := cR yS
abbrev zE := cL yS
abbrev yK := cL zE
abbrev oK := cL yK
abbrev aJp := cL yX
abbrev aLt := cL c152
abbrev r152 : K := bT CF Tryz.f152
def D152 (r : RT) (n : Nat) (c : Code) (X : Nat → K) (k : K) : K := aU CF r 48 n c X r152 k
theorem bCy : D152 r n bOq x0 r152 = (K3 (eN r n) 0 2 3) := by kernel_rfl
theorem aWp (kk4 : iK) : D152 r n oK (xs x0 0 (K3 (eN r n) 0 2 3)) (K3 kk4 0 2 3) = (K3 (rQ r n kk4) 0 2 3) := by kernel_rfl
theorem aSr (m : Nat) : aN (fun kk => D152 r n oK (xs x0 0 (K3 (eN r n) 0 2 3)) kk) m = (K3 (iM r n m) 0 2 3) := by
 induction m with
 | zero => exact (by kernel_rfl : aN (fun kk => D152 r n oK (xs x0 0 (K3 (eN r n) 0 2 3)) kk) 0 = (K3 (iM r n 0) 0 2 3))
 | succ m ih =>
  refine (by kernel_rfl : aN (fun kk => D152 r n oK (xs x0 0 (K3 (eN r n) 0 2 3)) kk) (m + 1) = D152 r n oK (xs x0 0 (K3 (eN r n) 0 2 3)) (aN (fun kk => D152 r n oK (xs x0 0 (K3 (eN r n) 0 2 3)) kk) m)).trans ?_
  rw [ih]
  exact (aWp r n (iM r n m)).trans (by kernel_rfl)
theorem bAa : D152 r n yK (xs x0 0 (K3 (eN r n) 0 2 3)) (K3 (eN r n) 0 2 3) = (K3 (aFn r n) 0 2 3) :=
 (by kernel_rfl : D152 r n yK (xs x0 0 (K3 (eN r n) 0 2 3)) (K3 (eN r n) 0 2 3) = aN (fun kk => D152 r n oK (xs x0 0 (K3 (eN r n) 0 2 3)) kk) n).trans ((aSr r n n).trans (by kernel_rfl))
theorem aVm : D152 r n yS x0 r152 = D152 r n zE x0 (K3 (eN r n) 0 2 3) :=
 congrArg (fun k => D152 r n zE x0 k) (bCy r n)
theorem bAd : D152 r n yS x0 r152 = (K3 (xY r n) 0 2 3) :=
 (aVm r n).trans
 ((by kernel_rfl : D152 r n zE x0 (K3 (eN r n) 0 2 3) = D152 r n yK (xs x0 0 (K3 (eN r n) 0 2 3)) (K3 (eN r n) 0 2 3)).trans
 ((bAa r n).trans (by kernel_rfl)))
theorem aRs : D152 r n yX x0 r152 = D152 r n aJp x0 (K3 (xY r n) 0 2 3) :=
 congrArg (fun k => D152 r n aJp x0 k) (bAd r n)
theorem bEp : D152 r n yX x0 r152 = (K2 (aAf r n) 0 2) :=
 (aRs r n).trans
 ((by kernel_rfl))
theorem bPf : D152 r n c152 x0 r152 = D152 r n aLt x0 (K2 (aAf r n) 0 2) :=
 congrArg (fun k => D152 r n aLt x0 k) (bEp r n)
theorem bTl : D152 r n c152 x0 r152 = (K1 (s152 r n) 0) :=
 (bPf r n).trans
 ((by kernel_rfl))
theorem bOw : aM CF r n 152 args h = s152 r n (aZ args 0) h :=
 fK (bTl r n) args h (by kernel_rfl) (by kernel_rfl)
def s153 (r : RT) (n : Nat) (x0 : DV) (h0 : Hp) : aG :=
 bnd (cJ fM h0) fun v1 h1 =>
 bnd (r 79 [x0] h1) fun v2 h2 =>
 bnd (cJ fM h2) fun v3 h3 =>
 bnd (aC 6 v3 v2 h3) fun _ h4 =>
 bnd (r 51 [x0, (aJ 10), (.s [41])] h4) fun v5 h5 =>
 bnd (aD 6 v3 h5) fun v6 h6 =>
 bnd (aC 6 v1 v6 h6) fun _ h7 =>
 bnd (aD 6 v1 h7) fun v8 _ =>
 some (v8, h7)
abbrev c153 : Code := cf Tryz.f153
abbrev r153 : K := bT CF Tryz.f153
def D153 (r : RT) (n : Nat) (c : Code) (X : Nat → K) (k : K) : K := aU CF r 9 n c X r153 k
theorem bTq : D153 r n c153 x0 r153 = (K1 (s153 r n) 0) :=
 (by kernel_rfl)
theorem bMm : aM CF r n 153 args h = s153 r n (aZ args 0) h :=
 fK (bTq r n) args h (by kernel_rfl) (by kernel_rfl)
def aBd (r : RT) (n : Nat) (x0 x2 x3 : DV) (h0 : Hp) : aG :=
 bnd (r 49 [x0] h0) fun v1 h1 =>
 bnd (aA 4 x3 h1) fun v2 h2 =>
 bnd (aC 1 v2 v1 h2) fun _ h3 =>
 bnd (r 50 [x0] h3) fun v4 h4 =>
 bnd (aA 5 x3 h4) fun v5 h5 =>
 bnd (aC 1 v5 v4 h5) fun _ h6 =>
 bnd (r 51 [x0, (aJ 10), (.s [93])] h6) fun v7 h7 =>
 bnd (aD 6 x3 h7) fun v8 h8 =>
 bnd (aC 6 x2 v8 h8) fun _ h9 =>
 bnd (aD 6 x2 h9) fun v10 _ =>
 some (v10, h9)
def eO (r : RT) (n : Nat) (x0 x2 x3 : DV) (h0 : Hp) : aG :=
 bnd (aA 3 x3 h0) fun v1 h1 =>
 bnd (aB v1 h1) fun v2 h2 =>
 bnd (fS v2 h2) fun v3 h3 =>
 bnd (aQ .gtr v3 (aJ 0) h3) fun v4 h4 =>
 bnd (gD v4 true (some (x0, h4)) h4) fun v5 h5 =>
 bnd (gD v4 true (r 77 [v5, (aJ 10), (.s [93])] h5) h5) fun v6 h6 =>
 bnd (gD v4 true (pJ .not v6 h6) h6) fun v7 h7 =>
 bnd (cA v4 v7 (.b false) h7) fun v8 h8 =>
 cB v8 (
 bnd (r 51 [x0, (aJ 10), (.s [124])] h8) fun v9 h9 =>
  aBd r n x0 x2 x3 h9) (
  aBd r n x0 x2 x3 h8)
def rW (r : RT) (n : Nat) (kk5 : iK) (x0 x2 x3 : DV) (h0 : Hp) : aG :=
 bnd (r 77 [x0, (aJ 8), (.s [])] h0) fun v1 h1 =>
 cB v1 (
 bnd (aA 3 x3 (gT 1 h1)) fun v2 h2 =>
 bnd (aB v2 h2) fun v3 h3 =>
 bnd (aA 3 x3 h3) fun v4 h4 =>
 bnd (aB v4 h4) fun v5 h5 =>
 bnd (r 82 [x0, (aJ 8), v5] h5) fun v6 h6 =>
 cnd (bX (aB v2 h6) v3 && true) (
 bnd (aY (dA 0 h1.next) [(.s [])] 1 [(0, 1, v6)] h6) fun v7 h7 =>
 bnd (bH 1 16 v3 v7 h7) fun v8 h8 =>
 bnd (aA 3 x3 h8) fun v9 h9 =>
 bnd (aC 1 v9 v8 h9) fun v10 h10 =>
      kk5 x0 x2 x3 h10)) (
      eO r n x0 x2 x3 h1)
def lO (r : RT) (n : Nat) (m : Nat) : iK :=
 Nat.rec (motive := fun _ => iK) (fun _ _ _ _ => none) (fun _ ih => rW r n ih) m
def aGu (r : RT) (n : Nat) : iK := lO r n n
def xP (r : RT) (n : Nat) (x0 x2 x3 : DV) (h0 : Hp) : aG :=
 aGu r n x0 x2 x3 h0
def yZ (r : RT) (n : Nat) (x0 x2 : DV) (h0 : Hp) : aG :=
 bnd (cS fM [(0, 1, (aJ 9))] h0) fun v1 h1 =>
 bnd (cJ fM h1) fun v2 h2 =>
 bnd (aC 6 v2 v1 h2) fun _ h3 =>
  xP r n x0 x2 v2 h3
def s154 (r : RT) (n : Nat) (x0 : DV) (h0 : Hp) : aG :=
 bnd (cJ fM h0) fun v1 h1 =>
  yZ r n x0 v1 h1
abbrev c154 : Code := cf Tryz.f154
abbrev yQ := cR c154
abbrev aAu := cR yQ
abbrev bQs := cR aAu
abbrev aAl := cL aAu
abbrev xT := cL aAl
abbrev nO := cL xT
abbrev aTn := cL yQ
abbrev aKi := cL c154
abbrev r154 : K := bT CF Tryz.f154
def D154 (r : RT) (n : Nat) (c : Code) (X : Nat → K) (k : K) : K := aU CF r 36 n c X r154 k
theorem bBu : D154 r n bQs x0 r154 = (K3 (eO r n) 0 2 3) := by kernel_rfl
theorem aWj (kk5 : iK) : D154 r n nO (xs x0 0 (K3 (eO r n) 0 2 3)) (K3 kk5 0 2 3) = (K3 (rW r n kk5) 0 2 3) := by kernel_rfl
theorem aTl (m : Nat) : aN (fun kk => D154 r n nO (xs x0 0 (K3 (eO r n) 0 2 3)) kk) m = (K3 (lO r n m) 0 2 3) := by
 induction m with
 | zero => exact (by kernel_rfl : aN (fun kk => D154 r n nO (xs x0 0 (K3 (eO r n) 0 2 3)) kk) 0 = (K3 (lO r n 0) 0 2 3))
 | succ m ih =>
  refine (by kernel_rfl : aN (fun kk => D154 r n nO (xs x0 0 (K3 (eO r n) 0 2 3)) kk) (m + 1) = D154 r n nO (xs x0 0 (K3 (eO r n) 0 2 3)) (aN (fun kk => D154 r n nO (xs x0 0 (K3 (eO r n) 0 2 3)) kk) m)).trans ?_
  rw [ih]
  exact (aWj r n (lO r n m)).trans (by kernel_rfl)
theorem bAm : D154 r n xT (xs x0 0 (K3 (eO r n) 0 2 3)) (K3 (eO r n) 0 2 3) = (K3 (aGu r n) 0 2 3) :=
 (by kernel_rfl : D154 r n xT (xs x0 0 (K3 (eO r n) 0 2 3)) (K3 (eO r n) 0 2 3) = aN (fun kk => D154 r n nO (xs x0 0 (K3 (eO r n) 0 2 3)) kk) n).trans ((aTl r n n).trans (by kernel_rfl))
theorem aWm : D154 r n aAu x0 r154 = D154 r n aAl x0 (K3 (eO r n) 0 2 3) :=
 congrArg (fun k => D154 r n aAl x0 k) (bBu r n)
theorem bCj : D154 r n aAu x0 r154 = (K3 (xP r n) 0 2 3) :=
 (aWm r n).trans
 ((by kernel_rfl : D154 r n aAl x0 (K3 (eO r n) 0 2 3) = D154 r n xT (xs x0 0 (K3 (eO r n) 0 2 3)) (K3 (eO r n) 0 2 3)).trans
 ((bAm r n).trans (by kernel_rfl)))
theorem aXx : D154 r n yQ x0 r154 = D154 r n aTn x0 (K3 (xP r n) 0 2 3) :=
 congrArg (fun k => D154 r n aTn x0 k) (bCj r n)
theorem bAl : D154 r n yQ x0 r154 = (K2 (yZ r n) 0 2) :=
 (aXx r n).trans
 ((by kernel_rfl))
theorem bOn : D154 r n c154 x0 r154 = D154 r n aKi x0 (K2 (yZ r n) 0 2) :=
 congrArg (fun k => D154 r n aKi x0 k) (bAl r n)
theorem bVq : D154 r n c154 x0 r154 = (K1 (s154 r n) 0) :=
 (bOn r n).trans
 ((by kernel_rfl))
theorem bMv : aM CF r n 154 args h = s154 r n (aZ args 0) h :=
 fK (bVq r n) args h (by kernel_rfl) (by kernel_rfl)
def s155 (r : RT) (n : Nat) (x0 : DV) (h0 : Hp) : aG :=
 bnd (pEq (.slice 25) true x0 .l0 h0) fun v1 h1 =>
 cB v1 (
 some (.l0, h1)) (
 bnd (aO [] 0 [] h1) fun v2 h2 =>
 bnd (bH 6 104 v2 x0 h2) fun v3 h3 =>
 some (v3, h3))
abbrev c155 : Code := cf Tryz.f155
abbrev r155 : K := bT CF Tryz.f155
def D155 (r : RT) (n : Nat) (c : Code) (X : Nat → K) (k : K) : K := aU CF r 8 n c X r155 k
theorem bUj : D155 r n c155 x0 r155 = (K1 (s155 r n) 0) :=
 (by kernel_rfl)
theorem bLv : aM CF r n 155 args h = s155 r n (aZ args 0) h :=
 fK (bUj r n) args h (by kernel_rfl) (by kernel_rfl)
def s161 (r : RT) (n : Nat) (x0 : DV) (h0 : Hp) : aG :=
 bnd (r 81 [x0, (aJ 1)] h0) fun v1 h1 =>
 bnd (cJ [(aJ 0), (.s []), (aJ 0), (aJ 0)] h1) fun v2 h2 =>
 bnd (aC 4 v2 v1 h2) fun _ h3 =>
 bnd (r 77 [x0, (aJ 3), (.s [45])] h3) fun v4 h4 =>
 bnd (gD v4 true (aA 0 v2 h4) h4) fun v5 h5 =>
 bnd (gD v4 true (aB v5 h5) h5) fun v6 h6 =>
 bnd (gD v4 true (aQ .eql v6 (aJ 4) h6) h6) fun v7 h7 =>
 bnd (cA v4 v7 (.b false) h7) fun v8 h8 =>
 bnd (gD v8 true (aA 3 v2 h8) h8) fun v9 h9 =>
 bnd (gD v8 true (aB v9 h9) h9) fun v10 h10 =>
 bnd (gD v8 true (some (x0, h10)) h10) fun v11 h11 =>
 bnd (gD v8 true (r 81 [v11, (aJ 0)] h11) h11) fun v12 h12 =>
 cnd (bX (gD v8 true (aB v9 h12) h12) v10 && true) (
 bnd (gD v8 true (eM 3 v12 h12) h12) fun v13 h13 =>
 bnd (gD v8 true (aQ .add v13 (aJ 1) h13) h13) fun v14 h14 =>
 bnd (gD v8 true (aQ .eql v10 v14 h14) h14) fun v15 h15 =>
 bnd (cA v8 v15 (.b false) h15) fun v16 h16 =>
 some (v16, h16))
abbrev c161 : Code := cf Tryz.f161
abbrev r161 : K := bT CF Tryz.f161
def D161 (r : RT) (n : Nat) (c : Code) (X : Nat → K) (k : K) : K := aU CF r 22 n c X r161 k
theorem bSp : D161 r n c161 x0 r161 = (K1 (s161 r n) 0) :=
 (by kernel_rfl)
theorem bPg : aM CF r n 161 args h = s161 r n (aZ args 0) h :=
 fK (bSp r n) args h (by kernel_rfl) (by kernel_rfl)
end
end Go.Dd

namespace Go.Dd
open Go.Proofs
noncomputable section
section
variable (ih : RT) (m : Nat) (f : FuncId) (args : List DV) (h : Hp)
theorem fI {i : Nat} {s r : aG} (e1 : s = aM CF ih m i args h) (e2 : r = aM CF ih m f args h) : (bif Nat.beq f i then s else r) = aM CF ih m f args h := by
 cases e : Nat.beq f i with
 | false => exact e2
 | true => cases Nat.eq_of_beq_eq_true e; exact e1
theorem ndC {i : Nat} {a b : aG} (e1 : a = aM CF ih m f args h) (e2 : b = aM CF ih m f args h) : (bif Nat.blt f i then a else b) = aM CF ih m f args h := by
 cases Nat.blt f i with
 | false => exact e2
 | true => exact e1
def qg0 : aG := bif Nat.beq f 5 then s5 ih m (aZ args 0) h else bif Nat.beq f 11 then s11 ih m (aZ args 0) h else bif Nat.beq f 13 then s13 ih m (aZ args 0) h else bif Nat.beq f 14 then s14 ih m (aZ args 0) h else bif Nat.beq f 15 then s15 ih m (aZ args 0) h else bif Nat.beq f 16 then s16 ih m (aZ args 0) (aZ args 1) h else bif Nat.beq f 17 then s17 ih m (aZ args 0) h else bif Nat.beq f 19 then s19 ih m (aZ args 0) h else aM CF ih m f args h
theorem bZc : qg0 ih m f args h = aM CF ih m f args h := fI ih m f args h (bSl ih m args h).symm (fI ih m f args h (bSn ih m args h).symm (fI ih m f args h (bSj ih m args h).symm (fI ih m f args h (bSw ih m args h).symm (fI ih m f args h (bSb ih m args h).symm (fI ih m f args h (bVr ih m args h).symm (fI ih m f args h (bSq ih m args h).symm (fI ih m f args h (bTd ih m args h).symm rfl)))))))
def qg1 : aG := bif Nat.beq f 20 then s20 ih m (aZ args 0) h else bif Nat.beq f 21 then s21 ih m (aZ args 0) h else bif Nat.beq f 22 then s22 ih m (aZ args 0) (aZ args 1) (aZ args 2) (aZ args 3) h else bif Nat.beq f 26 then s26 ih m (aZ args 0) (aZ args 1) h else bif Nat.beq f 27 then s27 ih m (aZ args 0) h else bif Nat.beq f 28 then s28 ih m (aZ args 0) (aZ args 1) h else bif Nat.beq f 29 then s29 ih m (aZ args 0) h else bif Nat.beq f 31 then s31 ih m (aZ args 0) (aZ args 1) h else aM CF ih m f args h
theorem bYu : qg1 ih m f args h = aM CF ih m f args h := fI ih m f args h (bRo ih m args h).symm (fI ih m f args h (bTc ih m args h).symm (fI ih m f args h (bRx ih m args h).symm (fI ih m f args h (bUc ih m args h).symm (fI ih m f args h (bUq ih m args h).symm (fI ih m f args h (bUr ih m args h).symm (fI ih m f args h (bSz ih m args h).symm (fI ih m f args h (bRt ih m args h).symm rfl)))))))
def qg2 : aG := bif Nat.beq f 32 then s32 ih m (aZ args 0) h else bif Nat.beq f 33 then s33 ih m (aZ args 0) h else bif Nat.beq f 35 then s35 ih m (aZ args 0) (aZ args 1) (aZ args 2) h else bif Nat.beq f 36 then s36 ih m (aZ args 0) h else bif Nat.beq f 37 then s37 ih m (aZ args 0) (aZ args 1) h else bif Nat.beq f 48 then s48 ih m (aZ args 0) h else bif Nat.beq f 49 then s49 ih m (aZ args 0) h else bif Nat.beq f 50 then s50 ih m (aZ args 0) h else aM CF ih m f args h
theorem bXq : qg2 ih m f args h = aM CF ih m f args h := fI ih m f args h (bUy ih m args h).symm (fI ih m f args h (bSv ih m args h).symm (fI ih m f args h (bVh ih m args h).symm (fI ih m f args h (bUp ih m args h).symm (fI ih m f args h (bUl ih m args h).symm (fI ih m f args h (bSr ih m args h).symm (fI ih m f args h (bRw ih m args h).symm (fI ih m f args h (bUv ih m args h).symm rfl)))))))
def qg3 : aG := bif Nat.beq f 51 then s51 ih m (aZ args 0) (aZ args 1) (aZ args 2) h else bif Nat.beq f 52 then s52 ih m (aZ args 0) (aZ args 1) h else bif Nat.beq f 53 then s53 ih m (aZ args 0) h else bif Nat.beq f 57 then s57 ih m (aZ args 0) (aZ args 1) h else bif Nat.beq f 58 then s58 ih m (aZ args 0) (aZ args 1) h else bif Nat.beq f 61 then s61 ih m (aZ args 0) (aZ args 1) h else bif Nat.beq f 62 then s62 ih m (aZ args 0) h else bif Nat.beq f 63 then s63 ih m (aZ args 0) (aZ args 1) h else aM CF ih m f args h
theorem bXp : qg3 ih m f args h = aM CF ih m f args h := fI ih m f args h (bSk ih m args h).symm (fI ih m f args h (bRu ih m args h).symm (fI ih m f args h (bTr ih m args h).symm (fI ih m f args h (bUu ih m args h).symm (fI ih m f args h (bSx ih m args h).symm (fI ih m f args h (bRr ih m args h).symm (fI ih m f args h (bVj ih m args h).symm (fI ih m f args h (bUi ih m args h).symm rfl)))))))
def qg4 : aG := bif Nat.beq f 64 then s64 ih m (aZ args 0) (aZ args 1) (aZ args 2) h else bif Nat.beq f 74 then s74 ih m (aZ args 0) (aZ args 1) (aZ args 2) h else bif Nat.beq f 75 then s75 ih m (aZ args 0) h else bif Nat.beq f 76 then s76 ih m (aZ args 0) h else bif Nat.beq f 77 then s77 ih m (aZ args 0) (aZ args 1) (aZ args 2) h else bif Nat.beq f 78 then s78 ih m (aZ args 0) h else bif Nat.beq f 79 then s79 ih m (aZ args 0) h else bif Nat.beq f 80 then s80 ih m (aZ args 0) (aZ args 1) (aZ args 2) h else aM CF ih m f args h
theorem bWx : qg4 ih m f args h = aM CF ih m f args h := fI ih m f args h (bUo ih m args h).symm (fI ih m f args h (bSe ih m args h).symm (fI ih m f args h (bVd ih m args h).symm (fI ih m f args h (bUk ih m args h).symm (fI ih m f args h (bUe ih m args h).symm (fI ih m f args h (bRz ih m args h).symm (fI ih m f args h (bSs ih m args h).symm (fI ih m f args h (bSa ih m args h).symm rfl)))))))
def qg5 : aG := bif Nat.beq f 81 then s81 ih m (aZ args 0) (aZ args 1) h else bif Nat.beq f 82 then s82 ih m (aZ args 0) (aZ args 1) (aZ args 2) h else bif Nat.beq f 85 then s85 ih m (aZ args 0) (aZ args 1) h else bif Nat.beq f 89 then s89 ih m (aZ args 0) (aZ args 1) (aZ args 2) h else bif Nat.beq f 90 then s90 ih m (aZ args 0) (aZ args 1) h else bif Nat.beq f 91 then s91 ih m (aZ args 0) h else bif Nat.beq f 105 then s105 ih m (aZ args 0) (aZ args 1) h else bif Nat.beq f 106 then s106 ih m (aZ args 0) (aZ args 1) h else aM CF ih m f args h
theorem bXt : qg5 ih m f args h = aM CF ih m f args h := fI ih m f args h (bTf ih m args h).symm (fI ih m f args h (bVa ih m args h).symm (fI ih m f args h (bTz ih m args h).symm (fI ih m f args h (bTm ih m args h).symm (fI ih m f args h (bTi ih m args h).symm (fI ih m f args h (bVp ih m args h).symm (fI ih m f args h (bMb ih m args h).symm (fI ih m f args h (bMt ih m args h).symm rfl)))))))
def qg6 : aG := bif Nat.beq f 107 then s107 ih m (aZ args 0) h else bif Nat.beq f 108 then s108 ih m (aZ args 0) h else bif Nat.beq f 109 then s109 ih m (aZ args 0) h else bif Nat.beq f 110 then s110 ih m (aZ args 0) h else bif Nat.beq f 111 then s111 ih m (aZ args 0) h else bif Nat.beq f 112 then s112 ih m (aZ args 0) h else bif Nat.beq f 113 then s113 ih m (aZ args 0) h else bif Nat.beq f 114 then s114 ih m (aZ args 0) h else aM CF ih m f args h
theorem bYo : qg6 ih m f args h = aM CF ih m f args h := fI ih m f args h (bQw ih m args h).symm (fI ih m f args h (bLx ih m args h).symm (fI ih m f args h (bMn ih m args h).symm (fI ih m f args h (bNd ih m args h).symm (fI ih m f args h (bQz ih m args h).symm (fI ih m f args h (bRh ih m args h).symm (fI ih m f args h (bQh ih m args h).symm (fI ih m f args h (bQu ih m args h).symm rfl)))))))
def qg7 : aG := bif Nat.beq f 126 then s126 ih m (aZ args 0) h else bif Nat.beq f 132 then s132 ih m (aZ args 0) h else bif Nat.beq f 133 then s133 ih m (aZ args 0) h else bif Nat.beq f 134 then s134 ih m (aZ args 0) (aZ args 1) h else bif Nat.beq f 135 then s135 ih m (aZ args 0) (aZ args 1) h else bif Nat.beq f 136 then s136 ih m (aZ args 0) (aZ args 1) h else bif Nat.beq f 137 then s137 ih m (aZ args 0) h else bif Nat.beq f 138 then s138 ih m (aZ args 0) h else aM CF ih m f args h
theorem bXl : qg7 ih m f args h = aM CF ih m f args h := fI ih m f args h (bPj ih m args h).symm (fI ih m f args h (bOe ih m args h).symm (fI ih m f args h (bOj ih m args h).symm (fI ih m f args h (bMr ih m args h).symm (fI ih m f args h (bRi ih m args h).symm (fI ih m f args h (bMq ih m args h).symm (fI ih m f args h (bMh ih m args h).symm (fI ih m f args h (bMu ih m args h).symm rfl)))))))
def qg8 : aG := bif Nat.beq f 139 then s139 ih m (aZ args 0) h else bif Nat.beq f 149 then s149 ih m (aZ args 0) (aZ args 1) h else bif Nat.beq f 150 then s150 ih m (aZ args 0) h else bif Nat.beq f 151 then s151 ih m (aZ args 0) (aZ args 1) h else bif Nat.beq f 152 then s152 ih m (aZ args 0) h else bif Nat.beq f 153 then s153 ih m (aZ args 0) h else bif Nat.beq f 154 then s154 ih m (aZ args 0) h else bif Nat.beq f 155 then s155 ih m (aZ args 0) h else aM CF ih m f args h
theorem bWp : qg8 ih m f args h = aM CF ih m f args h := fI ih m f args h (bNk ih m args h).symm (fI ih m f args h (bLs ih m args h).symm (fI ih m f args h (bNl ih m args h).symm (fI ih m f args h (bKp ih m args h).symm (fI ih m f args h (bOw ih m args h).symm (fI ih m f args h (bMm ih m args h).symm (fI ih m f args h (bMv ih m args h).symm (fI ih m f args h (bLv ih m args h).symm rfl)))))))
def qg9 : aG := bif Nat.beq f 161 then s161 ih m (aZ args 0) h else aM CF ih m f args h
theorem bXr : qg9 ih m f args h = aM CF ih m f args h := fI ih m f args h (bPg ih m args h).symm rfl
def qd0 : aG := bif Nat.blt f 20 then qg0 ih m f args h else qg1 ih m f args h
theorem bXz : qd0 ih m f args h = aM CF ih m f args h := ndC ih m f args h (bZc ih m f args h) (bYu ih m f args h)
def qd1 : aG := bif Nat.blt f 64 then qg3 ih m f args h else qg4 ih m f args h
theorem bXk : qd1 ih m f args h = aM CF ih m f args h := ndC ih m f args h (bXp ih m f args h) (bWx ih m f args h)
def qd2 : aG := bif Nat.blt f 51 then qg2 ih m f args h else qd1 ih m f args h
theorem bYb : qd2 ih m f args h = aM CF ih m f args h := ndC ih m f args h (bXq ih m f args h) (bXk ih m f args h)
def qd3 : aG := bif Nat.blt f 32 then qd0 ih m f args h else qd2 ih m f args h
theorem bWu : qd3 ih m f args h = aM CF ih m f args h := ndC ih m f args h (bXz ih m f args h) (bYb ih m f args h)
def qd4 : aG := bif Nat.blt f 107 then qg5 ih m f args h else qg6 ih m f args h
theorem bWs : qd4 ih m f args h = aM CF ih m f args h := ndC ih m f args h (bXt ih m f args h) (bYo ih m f args h)
def qd5 : aG := bif Nat.blt f 161 then qg8 ih m f args h else qg9 ih m f args h
theorem bWq : qd5 ih m f args h = aM CF ih m f args h := ndC ih m f args h (bWp ih m f args h) (bXr ih m f args h)
def qd6 : aG := bif Nat.blt f 139 then qg7 ih m f args h else qd5 ih m f args h
theorem bXb : qd6 ih m f args h = aM CF ih m f args h := ndC ih m f args h (bXl ih m f args h) (bWq ih m f args h)
def qd7 : aG := bif Nat.blt f 126 then qd4 ih m f args h else qd6 ih m f args h
theorem bYs : qd7 ih m f args h = aM CF ih m f args h := ndC ih m f args h (bWs ih m f args h) (bXb ih m f args h)
def qd8 : aG := bif Nat.blt f 81 then qd3 ih m f args h else qd7 ih m f args h
theorem bZb : qd8 ih m f args h = aM CF ih m f args h := ndC ih m f args h (bWu ih m f args h) (bYs ih m f args h)
end
def shB (ih : RT) (m : Nat) (f : FuncId) (args : List DV) (h : Hp) : aG := qd8 ih m f args h
theorem bOm (ih : RT) (m : Nat) (f : FuncId) (args : List DV) (h : Hp) : shB ih m f args h = aM CF ih m f args h := bZb ih m f args h
def aI (n : Nat) : FuncId → List DV → Hp → aG :=
 Nat.rec (motive := fun _ => FuncId → List DV → Hp → aG) (fun _ _ _ => none) (fun m ih => shB ih m) n
theorem aEz : ∀ n, aI n = fnD CF n
 | 0 => rfl
 | n + 1 => by
  have e : aI (n + 1) = shB (aI n) n := rfl
  have e' : fnD CF (n + 1) = aM CF (fnD CF n) n := rfl
  rw [e, e', ← aEz n]
  funext f args h
  exact bOm _ _ _ _ _
end
end Go.Dd

namespace Go.Proofs
open Go.Shelf
def Tryz.lays156_ren : Go.Shelf.Ren := ⟨fun | 156 => 30 | 165 => 54 | 166 => 55 | 169 => 56 | 240 => 83 | 241 => 84 | 276 => 115 | 277 => 116 | n => n, fun | 31 => 22 | 9 => 9 | 3 => 3 | 4 => 4 | 0 => 0 | 20 => 20 | 72 => 73 | 76 => 77 | 70 => 70 | 37 => 71 | 75 => 76 | 127 => 104 | 164 => 118 | 5 => 5 | 80 => 79 | n => n, fun | n => n⟩
theorem Tryz.lays156 : Go.Proofs.Lays.n156 Tryz.prog Tryz.lays156_ren := {
 mixed := by kernel_rfl
 f156 := Tryz.func30.trans (congrArg some (by kernel_rfl))
 f165 := Tryz.func54.trans (congrArg some (by kernel_rfl))
 f166 := Tryz.func55.trans (congrArg some (by kernel_rfl))
 f169 := Tryz.func56.trans (congrArg some (by kernel_rfl))
 f240 := Tryz.func83.trans (congrArg some (by kernel_rfl))
 f241 := Tryz.func84.trans (congrArg some (by kernel_rfl))
 f276 := Tryz.func115.trans (congrArg some (by kernel_rfl))
 f277 := Tryz.func116.trans (congrArg some (by kernel_rfl))
 t0 := Tryz.underlying0
 a0 := Tryz.isAgg0
 z0 := Tryz.sizeOf0
 v0 := Tryz.zeroValue0
 t3 := Tryz.underlying3
 a3 := Tryz.isAgg3
 z3 := Tryz.sizeOf3
 v3 := Tryz.zeroValue3
 t4 := Tryz.underlying4
 a4 := Tryz.isAgg4
 z4 := Tryz.sizeOf4
 v4 := Tryz.zeroValue4
 t9 := Tryz.underlying9
 a9 := Tryz.isAgg9
 z9 := Tryz.sizeOf9
 v9 := Tryz.zeroValue9
 t20 := Tryz.underlying20
 a20 := Tryz.isAgg20
 z20 := Tryz.sizeOf20
 v20 := Tryz.zeroValue20
 t31 := Tryz.underlying22
 a31 := Tryz.isAgg22
 z31 := Tryz.sizeOf22
 v31 := Tryz.zeroValue22
 t37 := Tryz.underlying71
 a37 := Tryz.isAgg71
 z37 := Tryz.sizeOf71
 v37 := Tryz.zeroValue71
 t70 := Tryz.underlying70
 a70 := Tryz.isAgg70
 z70 := Tryz.sizeOf70
 v70 := Tryz.zeroValue70
 t72 := Tryz.underlying73
 a72 := Tryz.isAgg73
 z72 := Tryz.sizeOf73
 v72 := Tryz.zeroValue73
 t75 := Tryz.underlying76
 a75 := Tryz.isAgg76
 z75 := Tryz.sizeOf76
 v75 := Tryz.zeroValue76
 t76 := Tryz.underlying77
 a76 := Tryz.isAgg77
 z76 := Tryz.sizeOf77
 v76 := Tryz.zeroValue77
 t127 := Tryz.underlying104
 a127 := Tryz.isAgg104
 z127 := Tryz.sizeOf104
 v127 := Tryz.zeroValue104
 t164 := Tryz.underlying118
 a164 := Tryz.isAgg118
 z164 := Tryz.sizeOf118
 v164 := Tryz.zeroValue118 }
theorem Tryz.Builder_Extra_156 : Builder.Extra Tryz.prog Tryz.lays156_ren := {
 sizeBuilder := by kernel_rfl
 liesBuilder := by kernel_rfl
 t5 := Tryz.underlying5
 a5 := Tryz.isAgg5
 z5 := Tryz.sizeOf5
 v5 := Tryz.zeroValue5
 infoByte := by kernel_rfl
 cellsByte := by kernel_rfl
 sizeByte := by kernel_rfl
 neB5 := by decide }
open Go.RowKit in
theorem Tryz.strings_Join_none (a : Option Addr) (c : Nat) (sep : ByteArray) (w : World) :
 Calls Tryz.prog 30 #[.slice a 0 c, .string sep] w fun e w' => e = .returned (.string ⟨#[]⟩) ∧ w' = w := Any.strings_Join_none Tryz.lays156 Tryz.Builder_Extra_156 a c sep w
open Go.RowKit in
theorem Tryz.strings_Join (bk o c : Nat) (xs : List ByteArray) (sep : ByteArray) (w : World) (hcells : ∀ (j : Nat) x, xs[j]? = some x → w.cell? ⟨bk, o + j, none⟩ = some (.string x)) (hbk : bk < w.heap.size) (hN : xs.length ≤ 140737488355328) (hcap : xs.length ≤ c) (hlen : (Lib.join (xs.map (·.data.toList)) sep.data.toList).length ≤ 140737488355328) :
 Calls Tryz.prog 30 #[.slice (some ⟨bk, o, none⟩) xs.length c, .string sep] w fun e w' => e = .returned (.string ⟨(Lib.join (xs.map (·.data.toList)) sep.data.toList).toArray⟩) ∧ Below w.heap.size w w' := Any.strings_Join Tryz.lays156 Tryz.Builder_Extra_156 bk o c xs sep w hcells hbk hN hcap hlen
def Tryz.laysM246_ren : Go.Shelf.Ren := ⟨fun | 246 => 87 | 283 => 121 | 284 => 122 | 285 => 123 | 286 => 124 | 129 => 144 | 317 => 143 | 318 => 145 | 319 => 146 | 320 => 147 | 337 => 159 | 338 => 160 | n => n, fun | 2 => 2 | 3 => 3 | 9 => 9 | 4 => 4 | 171 => 123 | 0 => 0 | 53 => 124 | 37 => 71 | 5 => 5 | 173 => 127 | 212 => 136 | 51 => 137 | 20 => 20 | 213 => 138 | 46 => 140 | 232 => 152 | 233 => 153 | n => n, fun | 17 => 1 | 18 => 4 | 19 => 5 | n => n⟩
def Tryz.laysM243_ren : Go.Shelf.Ren := ⟨fun | 243 => 59 | 246 => 87 | 283 => 121 | 284 => 122 | 285 => 123 | 286 => 124 | 129 => 144 | 317 => 143 | 318 => 145 | 319 => 146 | 320 => 147 | 337 => 159 | 338 => 160 | n => n, fun | 3 => 3 | 9 => 9 | 2 => 2 | 4 => 4 | 171 => 123 | 0 => 0 | 53 => 124 | 37 => 71 | 5 => 5 | 173 => 127 | 212 => 136 | 51 => 137 | 20 => 20 | 213 => 138 | 46 => 140 | 232 => 152 | 233 => 153 | n => n, fun | 17 => 1 | 18 => 4 | 19 => 5 | n => n⟩
def Tryz.laysM171_ren : Go.Shelf.Ren := ⟨fun | 171 => 34 | 243 => 59 | 246 => 87 | 283 => 121 | 284 => 122 | 285 => 123 | 286 => 124 | 129 => 144 | 317 => 143 | 318 => 145 | 319 => 146 | 320 => 147 | 337 => 159 | 338 => 160 | n => n, fun | 3 => 3 | 9 => 9 | 2 => 2 | 4 => 4 | 171 => 123 | 0 => 0 | 53 => 124 | 37 => 71 | 5 => 5 | 173 => 127 | 212 => 136 | 51 => 137 | 20 => 20 | 213 => 138 | 46 => 140 | 232 => 152 | 233 => 153 | n => n, fun | 17 => 1 | 18 => 4 | 19 => 5 | n => n⟩
theorem Tryz.laysM171 : Go.Proofs.LaysM.n171 Tryz.prog Tryz.laysM171_ren := {
 mixed := by kernel_rfl
 f129 := Tryz.func144.trans (congrArg some (by kernel_rfl))
 f171 := Tryz.func34.trans (congrArg some (by kernel_rfl))
 f243 := Tryz.func59.trans (congrArg some (by kernel_rfl))
 f246 := Tryz.func87.trans (congrArg some (by kernel_rfl))
 f283 := Tryz.func121.trans (congrArg some (by kernel_rfl))
 f284 := Tryz.func122.trans (congrArg some (by kernel_rfl))
 f285 := Tryz.func123.trans (congrArg some (by kernel_rfl))
 f286 := Tryz.func124.trans (congrArg some (by kernel_rfl))
 f317 := Tryz.func143.trans (congrArg some (by kernel_rfl))
 f318 := Tryz.func145.trans (congrArg some (by kernel_rfl))
 f319 := Tryz.func146.trans (congrArg some (by kernel_rfl))
 f320 := Tryz.func147.trans (congrArg some (by kernel_rfl))
 f337 := Tryz.func159.trans (congrArg some (by kernel_rfl))
 f338 := Tryz.func160.trans (congrArg some (by kernel_rfl))
 t0 := Tryz.underlying0
 a0 := Tryz.isAgg0
 z0 := Tryz.sizeOf0
 v0 := Tryz.zeroValue0
 t2 := Tryz.underlying2
 a2 := Tryz.isAgg2
 z2 := Tryz.sizeOf2
 v2 := Tryz.zeroValue2
 t3 := Tryz.underlying3
 a3 := Tryz.isAgg3
 z3 := Tryz.sizeOf3
 v3 := Tryz.zeroValue3
 t4 := Tryz.underlying4
 a4 := Tryz.isAgg4
 z4 := Tryz.sizeOf4
 v4 := Tryz.zeroValue4
 t5 := Tryz.underlying5
 a5 := Tryz.isAgg5
 z5 := Tryz.sizeOf5
 v5 := Tryz.zeroValue5
 t9 := Tryz.underlying9
 a9 := Tryz.isAgg9
 z9 := Tryz.sizeOf9
 v9 := Tryz.zeroValue9
 t20 := Tryz.underlying20
 a20 := Tryz.isAgg20
 z20 := Tryz.sizeOf20
 v20 := Tryz.zeroValue20
 t37 := Tryz.underlying71
 a37 := Tryz.isAgg71
 z37 := Tryz.sizeOf71
 v37 := Tryz.zeroValue71
 t46 := Tryz.underlying140
 a46 := Tryz.isAgg140
 z46 := Tryz.sizeOf140
 v46 := Tryz.zeroValue140
 t51 := Tryz.underlying137
 a51 := Tryz.isAgg137
 z51 := Tryz.sizeOf137
 v51 := Tryz.zeroValue137
 t53 := Tryz.underlying124
 a53 := Tryz.isAgg124
 z53 := Tryz.sizeOf124
 v53 := Tryz.zeroValue124
 t171 := Tryz.underlying123
 a171 := Tryz.isAgg123
 z171 := Tryz.sizeOf123
 v171 := Tryz.zeroValue123
 t173 := Tryz.underlying127
 a173 := Tryz.isAgg127
 z173 := Tryz.sizeOf127
 v173 := Tryz.zeroValue127
 t212 := Tryz.underlying136
 a212 := Tryz.isAgg136
 z212 := Tryz.sizeOf136
 v212 := Tryz.zeroValue136
 t213 := Tryz.underlying138
 a213 := Tryz.isAgg138
 z213 := Tryz.sizeOf138
 t232 := Tryz.underlying152
 a232 := Tryz.isAgg152
 z232 := Tryz.sizeOf152
 v232 := Tryz.zeroValue152
 t233 := Tryz.underlying153
 a233 := Tryz.isAgg153
 z233 := Tryz.sizeOf153
 v233 := Tryz.zeroValue153
 g17 := by kernel_rfl
 g18 := by kernel_rfl
 g19 := by kernel_rfl
 i0 := by kernel_rfl
 i2 := by kernel_rfl
 i3 := by kernel_rfl
 i4 := by kernel_rfl
 i5 := by kernel_rfl
 i9 := by kernel_rfl
 i20 := by kernel_rfl
 i37 := by kernel_rfl
 i46 := by kernel_rfl
 i51 := by kernel_rfl
 i53 := by kernel_rfl
 i171 := by kernel_rfl
 i173 := by kernel_rfl
 i212 := by kernel_rfl
 i232 := by kernel_rfl
 i233 := by kernel_rfl
 m17 := by kernel_rfl
 m18 := by kernel_rfl
 m19 := by kernel_rfl }
open Go.RowKit Go.Sort Go.Lib in
theorem Tryz.strconv_Itoa (n : Int) (h0 : -9223372036854775808 ≤ n) (h1 : n ≤ 9223372036854775807) (w : World) (htab : Lib.TabIs Tryz.prog w "internal/strconv.uint64pow10" .u64 Lib.pow10Tab) :
 Calls Tryz.prog 34 #[.int .i64 n] w fun e w' => e = .returned (.string ⟨(Lib.itoa n).toArray⟩) ∧ ∃ k os, w' = grow (w.drewN k) os := Any.strconv_Itoa Tryz.laysM171 n h0 h1 w htab
def Tryz.lays219_ren : Go.Shelf.Ren := ⟨fun | 219 => 142 | 217 => 85 | 225 => 156 | 224 => 157 | 267 => 158 | 266 => 117 | 314 => 162 | n => n, fun | 9 => 9 | 3 => 3 | 4 => 4 | 5 => 5 | 46 => 140 | 146 => 150 | 51 => 137 | n => n, fun | 1 => 0 | n => n⟩
def Tryz.lays143_ren : Go.Shelf.Ren := ⟨fun | 143 => 120 | 219 => 142 | 217 => 85 | 225 => 156 | 224 => 157 | 267 => 158 | 266 => 117 | 314 => 162 | n => n, fun | 9 => 9 | 3 => 3 | 4 => 4 | 5 => 5 | 46 => 140 | 146 => 150 | 51 => 137 | n => n, fun | 1 => 0 | n => n⟩
def Tryz.laysM143_ren : Go.Shelf.Ren := ⟨fun | 143 => 120 | 219 => 142 | 217 => 85 | 225 => 156 | 224 => 157 | 267 => 158 | 266 => 117 | 314 => 162 | n => n, fun | 9 => 9 | 3 => 3 | 4 => 4 | 5 => 5 | 46 => 140 | 146 => 150 | 51 => 137 | n => n, fun | 1 => 0 | n => n⟩
theorem Tryz.laysM143 : Go.Proofs.LaysM.n143 Tryz.prog Tryz.laysM143_ren := {
 mixed := by kernel_rfl
 f143 := Tryz.func120.trans (congrArg some (by kernel_rfl))
 f217 := Tryz.func85.trans (congrArg some (by kernel_rfl))
 f219 := Tryz.func142.trans (congrArg some (by kernel_rfl))
 f224 := Tryz.func157.trans (congrArg some (by kernel_rfl))
 f225 := Tryz.func156.trans (congrArg some (by kernel_rfl))
 f266 := Tryz.func117.trans (congrArg some (by kernel_rfl))
 f267 := Tryz.func158.trans (congrArg some (by kernel_rfl))
 f314 := Tryz.func162.trans (congrArg some (by kernel_rfl))
 t3 := Tryz.underlying3
 a3 := Tryz.isAgg3
 z3 := Tryz.sizeOf3
 v3 := Tryz.zeroValue3
 t4 := Tryz.underlying4
 a4 := Tryz.isAgg4
 z4 := Tryz.sizeOf4
 v4 := Tryz.zeroValue4
 t5 := Tryz.underlying5
 a5 := Tryz.isAgg5
 z5 := Tryz.sizeOf5
 v5 := Tryz.zeroValue5
 t9 := Tryz.underlying9
 a9 := Tryz.isAgg9
 z9 := Tryz.sizeOf9
 v9 := Tryz.zeroValue9
 t46 := Tryz.underlying140
 a46 := Tryz.isAgg140
 z46 := Tryz.sizeOf140
 v46 := Tryz.zeroValue140
 t51 := Tryz.underlying137
 a51 := Tryz.isAgg137
 z51 := Tryz.sizeOf137
 v51 := Tryz.zeroValue137
 t146 := Tryz.underlying150
 a146 := Tryz.isAgg150
 z146 := Tryz.sizeOf150
 v146 := Tryz.zeroValue150
 g1 := by kernel_rfl
 i3 := by kernel_rfl
 i4 := by kernel_rfl
 i5 := by kernel_rfl
 i9 := by kernel_rfl
 i46 := by kernel_rfl
 i51 := by kernel_rfl
 i146 := by kernel_rfl
 m1 := by kernel_rfl
 s1_3 := fun w h => Go.Proofs.cell_of_shapedOpen_int (zero := #[.int .i64 0]) (t := 3) h (of_decide_eq_true (by kernel_rfl)) (by kernel_rfl) rfl (by kernel_rfl) (by kernel_rfl) Tryz.underlying3 }
def Tryz.lays221_ren : Go.Shelf.Ren := ⟨fun | 221 => 86 | 268 => 118 | 138 => 119 | 143 => 120 | 195 => 140 | 197 => 125 | 218 => 141 | 219 => 142 | 260 => 148 | 217 => 85 | 225 => 156 | 224 => 157 | 267 => 158 | 266 => 117 | 314 => 162 | n => n, fun | 9 => 9 | 3 => 3 | 31 => 22 | 4 => 4 | 0 => 0 | 105 => 129 | 21 => 21 | 5 => 5 | 46 => 140 | 119 => 146 | 139 => 149 | 138 => 148 | 146 => 150 | 51 => 137 | n => n, fun | 1 => 0 | 3 => 2 | 4 => 3 | n => n⟩
theorem Tryz.lays221 : Go.Proofs.Lays.n221 Tryz.prog Tryz.lays221_ren := {
 mixed := by kernel_rfl
 f138 := Tryz.func119.trans (congrArg some (by kernel_rfl))
 f143 := Tryz.func120.trans (congrArg some (by kernel_rfl))
 f195 := Tryz.func140.trans (congrArg some (by kernel_rfl))
 f197 := Tryz.func125.trans (congrArg some (by kernel_rfl))
 f217 := Tryz.func85.trans (congrArg some (by kernel_rfl))
 f218 := Tryz.func141.trans (congrArg some (by kernel_rfl))
 f219 := Tryz.func142.trans (congrArg some (by kernel_rfl))
 f221 := Tryz.func86.trans (congrArg some (by kernel_rfl))
 f224 := Tryz.func157.trans (congrArg some (by kernel_rfl))
 f225 := Tryz.func156.trans (congrArg some (by kernel_rfl))
 f260 := Tryz.func148.trans (congrArg some (by kernel_rfl))
 f266 := Tryz.func117.trans (congrArg some (by kernel_rfl))
 f267 := Tryz.func158.trans (congrArg some (by kernel_rfl))
 f268 := Tryz.func118.trans (congrArg some (by kernel_rfl))
 f314 := Tryz.func162.trans (congrArg some (by kernel_rfl))
 t0 := Tryz.underlying0
 a0 := Tryz.isAgg0
 z0 := Tryz.sizeOf0
 v0 := Tryz.zeroValue0
 t3 := Tryz.underlying3
 a3 := Tryz.isAgg3
 z3 := Tryz.sizeOf3
 v3 := Tryz.zeroValue3
 t4 := Tryz.underlying4
 a4 := Tryz.isAgg4
 z4 := Tryz.sizeOf4
 v4 := Tryz.zeroValue4
 t5 := Tryz.underlying5
 a5 := Tryz.isAgg5
 z5 := Tryz.sizeOf5
 v5 := Tryz.zeroValue5
 t9 := Tryz.underlying9
 a9 := Tryz.isAgg9
 z9 := Tryz.sizeOf9
 v9 := Tryz.zeroValue9
 t21 := Tryz.underlying21
 a21 := Tryz.isAgg21
 z21 := Tryz.sizeOf21
 v21 := Tryz.zeroValue21
 t31 := Tryz.underlying22
 a31 := Tryz.isAgg22
 z31 := Tryz.sizeOf22
 v31 := Tryz.zeroValue22
 t46 := Tryz.underlying140
 a46 := Tryz.isAgg140
 z46 := Tryz.sizeOf140
 v46 := Tryz.zeroValue140
 t51 := Tryz.underlying137
 a51 := Tryz.isAgg137
 z51 := Tryz.sizeOf137
 v51 := Tryz.zeroValue137
 t105 := Tryz.underlying129
 a105 := Tryz.isAgg129
 z105 := Tryz.sizeOf129
 v105 := Tryz.zeroValue129
 t119 := Tryz.underlying146
 a119 := Tryz.isAgg146
 z119 := Tryz.sizeOf146
 t138 := Tryz.underlying148
 a138 := Tryz.isAgg148
 z138 := Tryz.sizeOf148
 v138 := Tryz.zeroValue148
 t139 := Tryz.underlying149
 a139 := Tryz.isAgg149
 z139 := Tryz.sizeOf149
 v139 := Tryz.zeroValue149
 t146 := Tryz.underlying150
 a146 := Tryz.isAgg150
 z146 := Tryz.sizeOf150
 v146 := Tryz.zeroValue150
 g1 := by kernel_rfl
 g3 := by kernel_rfl
 g4 := by kernel_rfl }
open Go.RowKit Go.Lib in
theorem Tryz.strings_genSplit (s sep : ByteArray) (sv : Nat) (n : Int) (N : Nat) (m : Int) (w : World) (hs : s.size < 4294967281) (hm : w.cell? ⟨0, 0, none⟩ = some (.int .i64 m)) (h1 : 1 ≤ sep.size) (hsv : sv ≤ sep.size) (hn0 : n ≠ 0) (hn63 : n ≤ 9223372036854775807) (hN : (N : Int) = min (if n < 0 then (Lib.countB s sep : Int) + 1 else n) ((s.size : Int) + 1)) :
 Calls Tryz.prog 86 #[.string s, .string sep, .int .i64 sv, .int .i64 n] w fun e w' =>
  e = .returned (.slice (some ⟨w.heap.size, 0, none⟩) (Lib.splitB sep sv (N - 1) s).length N) ∧ w' = w.alloc (.cells (Lib.cellsOf (Lib.splitB sep sv (N - 1) s) N) 9) := Any.strings_genSplit Tryz.lays221 (by kernel_rfl) s sep sv n N m w hs hm h1 hsv hn0 hn63 hN
def Tryz.lays154_ren : Go.Shelf.Ren := ⟨fun | 154 => 88 | 138 => 119 | 165 => 54 | 143 => 120 | 166 => 55 | 197 => 125 | 169 => 56 | 195 => 140 | 218 => 141 | 240 => 83 | 241 => 84 | 219 => 142 | 260 => 148 | 276 => 115 | 277 => 116 | 217 => 85 | 225 => 156 | 224 => 157 | 267 => 158 | 266 => 117 | 314 => 162 | n => n, fun | 9 => 9 | 3 => 3 | 4 => 4 | 72 => 73 | 0 => 0 | 76 => 77 | 105 => 129 | 21 => 21 | 5 => 5 | 70 => 70 | 20 => 20 | 37 => 71 | 75 => 76 | 127 => 104 | 164 => 118 | 46 => 140 | 119 => 146 | 139 => 149 | 138 => 148 | 146 => 150 | 51 => 137 | 80 => 79 | n => n, fun | 1 => 0 | 3 => 2 | 4 => 3 | n => n⟩
def Tryz.lays155_ren : Go.Shelf.Ren := ⟨fun | 155 => 60 | 154 => 88 | 138 => 119 | 165 => 54 | 143 => 120 | 166 => 55 | 197 => 125 | 169 => 56 | 195 => 140 | 218 => 141 | 240 => 83 | 241 => 84 | 219 => 142 | 260 => 148 | 276 => 115 | 277 => 116 | 217 => 85 | 225 => 156 | 224 => 157 | 267 => 158 | 266 => 117 | 314 => 162 | n => n, fun | 9 => 9 | 3 => 3 | 4 => 4 | 72 => 73 | 0 => 0 | 76 => 77 | 105 => 129 | 21 => 21 | 5 => 5 | 70 => 70 | 20 => 20 | 37 => 71 | 75 => 76 | 127 => 104 | 164 => 118 | 46 => 140 | 119 => 146 | 139 => 149 | 138 => 148 | 146 => 150 | 51 => 137 | 80 => 79 | n => n, fun | 1 => 0 | 3 => 2 | 4 => 3 | n => n⟩
theorem Tryz.lays155 : Go.Proofs.Lays.n155 Tryz.prog Tryz.lays155_ren := {
 mixed := by kernel_rfl
 f138 := Tryz.func119.trans (congrArg some (by kernel_rfl))
 f143 := Tryz.func120.trans (congrArg some (by kernel_rfl))
 f154 := Tryz.func88.trans (congrArg some (by kernel_rfl))
 f155 := Tryz.func60.trans (congrArg some (by kernel_rfl))
 f165 := Tryz.func54.trans (congrArg some (by kernel_rfl))
 f166 := Tryz.func55.trans (congrArg some (by kernel_rfl))
 f169 := Tryz.func56.trans (congrArg some (by kernel_rfl))
 f195 := Tryz.func140.trans (congrArg some (by kernel_rfl))
 f197 := Tryz.func125.trans (congrArg some (by kernel_rfl))
 f217 := Tryz.func85.trans (congrArg some (by kernel_rfl))
 f218 := Tryz.func141.trans (congrArg some (by kernel_rfl))
 f219 := Tryz.func142.trans (congrArg some (by kernel_rfl))
 f224 := Tryz.func157.trans (congrArg some (by kernel_rfl))
 f225 := Tryz.func156.trans (congrArg some (by kernel_rfl))
 f240 := Tryz.func83.trans (congrArg some (by kernel_rfl))
 f241 := Tryz.func84.trans (congrArg some (by kernel_rfl))
 f260 := Tryz.func148.trans (congrArg some (by kernel_rfl))
 f266 := Tryz.func117.trans (congrArg some (by kernel_rfl))
 f267 := Tryz.func158.trans (congrArg some (by kernel_rfl))
 f276 := Tryz.func115.trans (congrArg some (by kernel_rfl))
 f277 := Tryz.func116.trans (congrArg some (by kernel_rfl))
 f314 := Tryz.func162.trans (congrArg some (by kernel_rfl))
 t0 := Tryz.underlying0
 a0 := Tryz.isAgg0
 z0 := Tryz.sizeOf0
 v0 := Tryz.zeroValue0
 t3 := Tryz.underlying3
 a3 := Tryz.isAgg3
 z3 := Tryz.sizeOf3
 v3 := Tryz.zeroValue3
 t4 := Tryz.underlying4
 a4 := Tryz.isAgg4
 z4 := Tryz.sizeOf4
 v4 := Tryz.zeroValue4
 t5 := Tryz.underlying5
 a5 := Tryz.isAgg5
 z5 := Tryz.sizeOf5
 v5 := Tryz.zeroValue5
 t9 := Tryz.underlying9
 a9 := Tryz.isAgg9
 z9 := Tryz.sizeOf9
 v9 := Tryz.zeroValue9
 t20 := Tryz.underlying20
 a20 := Tryz.isAgg20
 z20 := Tryz.sizeOf20
 v20 := Tryz.zeroValue20
 t21 := Tryz.underlying21
 a21 := Tryz.isAgg21
 z21 := Tryz.sizeOf21
 v21 := Tryz.zeroValue21
 t37 := Tryz.underlying71
 a37 := Tryz.isAgg71
 z37 := Tryz.sizeOf71
 v37 := Tryz.zeroValue71
 t46 := Tryz.underlying140
 a46 := Tryz.isAgg140
 z46 := Tryz.sizeOf140
 v46 := Tryz.zeroValue140
 t51 := Tryz.underlying137
 a51 := Tryz.isAgg137
 z51 := Tryz.sizeOf137
 v51 := Tryz.zeroValue137
 t70 := Tryz.underlying70
 a70 := Tryz.isAgg70
 z70 := Tryz.sizeOf70
 v70 := Tryz.zeroValue70
 t72 := Tryz.underlying73
 a72 := Tryz.isAgg73
 z72 := Tryz.sizeOf73
 v72 := Tryz.zeroValue73
 t75 := Tryz.underlying76
 a75 := Tryz.isAgg76
 z75 := Tryz.sizeOf76
 v75 := Tryz.zeroValue76
 t76 := Tryz.underlying77
 a76 := Tryz.isAgg77
 z76 := Tryz.sizeOf77
 v76 := Tryz.zeroValue77
 t105 := Tryz.underlying129
 a105 := Tryz.isAgg129
 z105 := Tryz.sizeOf129
 v105 := Tryz.zeroValue129
 t119 := Tryz.underlying146
 a119 := Tryz.isAgg146
 z119 := Tryz.sizeOf146
 t127 := Tryz.underlying104
 a127 := Tryz.isAgg104
 z127 := Tryz.sizeOf104
 v127 := Tryz.zeroValue104
 t138 := Tryz.underlying148
 a138 := Tryz.isAgg148
 z138 := Tryz.sizeOf148
 v138 := Tryz.zeroValue148
 t139 := Tryz.underlying149
 a139 := Tryz.isAgg149
 z139 := Tryz.sizeOf149
 v139 := Tryz.zeroValue149
 t146 := Tryz.underlying150
 a146 := Tryz.isAgg150
 z146 := Tryz.sizeOf150
 v146 := Tryz.zeroValue150
 t164 := Tryz.underlying118
 a164 := Tryz.isAgg118
 z164 := Tryz.sizeOf118
 v164 := Tryz.zeroValue118
 g1 := by kernel_rfl
 g3 := by kernel_rfl
 g4 := by kernel_rfl }
theorem Tryz.Builder_Extra_155 : Builder.Extra Tryz.prog Tryz.lays155_ren := {
 sizeBuilder := by kernel_rfl
 liesBuilder := by kernel_rfl
 t5 := Tryz.underlying5
 a5 := Tryz.isAgg5
 z5 := Tryz.sizeOf5
 v5 := Tryz.zeroValue5
 infoByte := by kernel_rfl
 cellsByte := by kernel_rfl
 sizeByte := by kernel_rfl
 neB5 := by decide }
open Go.RowKit Go.Lib in
theorem Tryz.strings_ReplaceAll (s old new : ByteArray) (m : Int) (w : World) (hs : s.size < 4294967281) (hm : w.cell? ⟨0, 0, none⟩ = some (.int .i64 m)) (h1 : 1 ≤ old.size) (hlen : s.size + Lib.countB s old * new.size ≤ 140737488355328) :
 Calls Tryz.prog 60 #[.string s, .string old, .string new] w fun e w' =>
  e = .returned (.string ⟨(Lib.replaceAll s.data.toList old.data.toList new.data.toList).toArray⟩) ∧ Below w.heap.size w w' := Any.strings_ReplaceAll Tryz.lays155 Tryz.Builder_Extra_155 s old new m w hs hm h1 hlen
end Go.Proofs

namespace Go.Dd
open Go.Proofs Go.RowKit
theorem aNu : (Tryz.prog.funcs.toList.all fun fn => !(fn.name == "runtime.NumGoroutine")) = true := by kernel_rfl
theorem Try_ok : POk CF.P where
 mixed := by kernel_rfl
 names := by
  intro f fn hf
  have h := List.all_eq_true.1 aNu fn (by
   have : Tryz.prog.funcs[f]? = some fn := hf
   obtain ⟨hlt, rfl⟩ := Array.getElem?_eq_some_iff.1 this
   simp)
  simpa using h
theorem HR.later {G : Gd} {ρ : Ren} {h : Hp} {w w' : World} (H : HR G ρ h w) (e : Below w.heap.size w w') : HR G ρ h w' where
 gl := fun k hk => (e.block k (Nat.lt_of_lt_of_le hk H.sz.1)).trans (H.gl k hk)
 sz := ⟨Nat.le_trans H.sz.1 e.size, fun k hk => Nat.lt_of_lt_of_le (H.sz.2 k hk) e.size⟩
 nx := H.nx
 ro := H.ro
 dom := H.dom
 lt := H.lt
 cell := fun b k l L i v h1 h2 h3 h4 => by
  obtain ⟨v', h5, h6⟩ := H.cell b k l L i v h1 h2 h3 h4
  exact ⟨v', by rw [e.cell (fH h5)]; exact h5, h6⟩
 spare := fun b l L es j h1 h2 h3 => by
  obtain ⟨v', h5⟩ := H.spare b l L es j h1 h2 h3
  exact ⟨v', by rw [e.cell (fH h5)]; exact h5⟩
 free := fun b a h1 h2 => by
  obtain ⟨v, hv⟩ := H.lt_cell h1
  rw [e.frozen (fH hv)]
  exact H.free b a h1 h2
 inj := H.inj
 ex := H.ex
 grone := H.grone
 itr := fun b s pos L h1 h2 => by
  obtain ⟨a, b, bs, c, d⟩ := H.itr b s pos L h1 h2
  refine ⟨a, b, bs, ?_, d⟩
  rw [e.block _ (Array.getElem?_eq_some_iff.1 c).1]
  exact c
 itj := H.itj
theorem Kp.later {G : Gd} {ρ : Ren} {h : Hp} {w w' : World} (H : HR G ρ h w) (e : Below w.heap.size w w') : Kp G w w' :=
 ⟨e.mono H.sz.1, fun k hk => e.block k (H.sz.2 k hk)⟩
theorem CallFn.of {G : Gd} {ρ : Ren} {w : World} {v : DV} {h1 : Hp} {g : FuncId} {args' : Array Value} (fn : Func) (hf : Tryz.prog.funcs[g]? = some fn) (hb : fn.body.isSome = true)
 (hc : Calls Tryz.prog g args' w (aXb G ρ w v h1)) : CallFn CF.P G ρ w v h1 g args' := by
 refine .inl ⟨?_, hc⟩
 have hf' : CF.P.funcs[g]? = some fn := hf
 have hn : ¬ fn.name = "runtime.NumGoroutine" := by simpa using Try_ok.names g fn hf'
 have hbn : fn.body ≠ none := by intro e; rw [e] at hb; cases hb
 unfold callFunc
 simp [hf', hn, hbn]
theorem tT (sep : List UInt8) : ∀ xs : List (List UInt8), aF (sep.map (·.toNat)) (xs.map (·.map (·.toNat))) = (Lib.join xs sep).map (·.toNat)
 | [] => rfl
 | [x] => by simp [aF, Lib.join, List.intercalate]
 | x :: y :: l => by
  have ih := tT sep (y :: l)
  simp only [List.map_cons] at ih ⊢
  rw [aF, ih]
  simp [Lib.join, List.intercalate, List.map_append]
theorem aCp {ρ : Ren} : ∀ {cells : List DV} {vs : List Value} {l : List (List Nat)}, VRs ρ cells vs → mL cells = some l → ∃ xs : List ByteArray, vs = xs.map Value.string ∧ l = xs.map fun x => x.data.toList.map (·.toNat)
 | [], _, _, .nil, e => by
  simp only [mL, bB] at e
  exact ⟨[], rfl, e.symm⟩
 | x :: c, _, _, .cons _ x' _ vs hx hs, e => by
  cases hx <;> try (simp [mL] at e; done)
  rename_i t bs hb
  simp only [mL, Option.map_eq_some_iff] at e
  obtain ⟨l0, e0, rfl⟩ := e
  obtain ⟨xs, rfl, rfl⟩ := aCp hs e0
  exact ⟨bs :: xs, rfl, by simp [hb]⟩
theorem aQh {w : World} {L : Loc} {i : Nat} {v : Value} (h : w.cell? (fL L i) = some v) : fL L i = ⟨L.bl, L.of + i, none⟩ := by
 unfold fL at *
 by_cases e : i = 0
 ·subst e
  simp only [if_true] at h ⊢
  cases hs : L.spot with
  | none => rfl
  | some s =>
   rw [hs] at h
   unfold World.cell? at h
   split at h <;> simp at h
 ·simp [e]
theorem vL (xs : List ByteArray) : (xs.map fun x => x.data.toList.map (·.toNat)) = (xs.map (·.data.toList)).map (·.map (·.toNat)) := by simp
theorem bFb (G : Gd) : pL CF.P G 30 kK := by
 intro args h v h1 hr ρ w args' H hargs
 unfold kK at hr
 split at hr <;> (try (cases hr; done))
 rename_i x sep hno
 split at hr <;> (try (cases hr; done))
 rename_i n cells hsrc
 split at hr <;> (try (cases hr; done))
 rename_i l hl
 cases hc : Nat.ble (aF sep l).length 100000000000 with
 | false => rw [hc] at hr; cases hr
 | true =>
 rw [hc] at hr
 cases hc2 : (Nat.ble n 100000000000 && aVz x) with
 | false => rw [hc2] at hr; cases hr
 | true =>
 rw [hc2] at hr
 have hc' := Nat.le_of_ble_eq_true hc
 rw [Bool.and_eq_true] at hc2
 obtain ⟨hc2, hcap⟩ := hc2
 have hn' := Nat.le_of_ble_eq_true hc2
 simp only [cond_true, bB, bW] at hr
 obtain ⟨rfl, rfl⟩ := hr
 obtain ⟨a⟩ := args'
 cases hargs with
 | cons _ x' l1 l1' hx hxs =>
 cases hxs with
 | cons y y' l2 l2' hy hys =>
 cases hys
 cases hy with
 | s _ bs hbs =>
 refine CallFn.of Tryz.f30 (by kernel_rfl) (by kernel_rfl) ?_
 have hnone : ∀ (a : Option Addr) (c : Nat), l = [] → Calls Tryz.prog 30 #[.slice a 0 c, .string bs] w (aXb G ρ w (.s (aF sep l)) h) := by
  intro a c e
  subst e
  refine (Tryz.strings_Join_none a c bs w).mono ?_
  rintro e w' ⟨rfl, rfl⟩
  exact ⟨ρ, _, rfl, Ex.refl _ _, .s _ _ rfl, H, Kp.refl _ _⟩
 unfold nC at hsrc
 cases hx with
 | l0 =>
  simp only [bB, bW] at hsrc
  obtain ⟨rfl, rfl⟩ := hsrc
  simp only [mL, bB] at hl
  exact hnone _ _ hl.symm
 | le a c =>
  simp only [bB, bW] at hsrc
  obtain ⟨rfl, rfl⟩ := hsrc
  simp only [mL, bB] at hl
  exact hnone _ _ hl.symm
 | l b o m cap L hL =>
  simp only at hsrc
  split at hsrc <;> (try (cases hsrc; done))
  rename_i cs hcs
  simp only [bB, bW] at hsrc
  obtain ⟨rfl, rfl⟩ := hsrc
  obtain ⟨e1, e2, e3, vs, e4, e5, e6⟩ := fR H hcs hL
  obtain ⟨xs, rfl, rfl⟩ := aCp e4 hl
  simp only [List.length_map, Nat.mul_one] at e5
  subst e5
  cases xs with
  | nil => exact hnone _ _ rfl
  | cons x0 xs0 =>
   have h0 := e6 0 (.string x0) rfl
   have ha : fL L o = ⟨L.bl, L.of + o, none⟩ := aQh h0
   rw [ha]
   have hsep := hbs
   refine (Tryz.strings_Join L.bl (L.of + o) (cap + L.sp) (x0 :: xs0) bs w ?_ (fH h0) (by omega) ?_ ?_).mono ?_
   ·intro j y hj
    have h5 := e6 j (.string y) (by rw [List.getElem?_map, hj]; rfl)
    rw [aQh h5] at h5
    rw [show L.of + o + j = L.of + (o + j) by omega]
    exact h5
   ·exact Nat.le_trans (Nat.le_of_ble_eq_true hcap) (Nat.le_add_right _ _)
   ·have := hc'
    rw [← hbs, vL, tT, List.length_map] at this
    omega
   ·rintro e w' ⟨rfl, hbel⟩
    refine ⟨ρ, _, rfl, Ex.refl _ _, .s _ _ ?_, H.later hbel, Kp.later H hbel⟩
    rw [← hbs, vL, tT]
 | u => simp at hsrc
 | s => exact (hno _ rfl).elim
 | _ => simp at hsrc
theorem uO : ∀ (f n : Nat) (acc : List Nat), n < 10 ^ f → 0 < f → eR f n acc = (Lib.decDigits n).map (·.toNat) ++ acc
 | 0, n, acc, h, h0 => by omega
 | f + 1, n, acc, h, _ => by
  have hd : ∀ d, d < 10 → (UInt8.ofNat (48 + d)).toNat = 48 + d := fun d hd => by simp; omega
  unfold eR
  rw [Lib.decDigits]
  cases e : Nat.ble 10 n with
  | false =>
   have hn : n < 10 := by
    rcases Nat.lt_or_ge n 10 with h | h
    ·exact h
    ·rw [Nat.ble_eq_true_of_le h] at e; cases e
   simp only [cond_false]
   rw [dif_pos hn]
   show (48 + n) :: acc = _
   simp [hd n hn]
   omega
  | true =>
   have hn := Nat.le_of_ble_eq_true e
   simp only [cond_true]
   rw [dif_neg (by omega)]
   have hf : 0 < f := by
    rcases Nat.eq_zero_or_pos f with h1 | h1
    ·subst h1; simp at h; omega
    ·exact h1
   show eR f (n / 10) ((48 + n % 10) :: acc) = _
   rw [uO f (n / 10) _ (by rw [Nat.pow_succ] at h; omega) hf]
   simp [hd (n % 10) (by omega)]
   omega
theorem aQo (n : Int) (h0 : -9223372036854775808 ≤ n) (h1 : n ≤ 9223372036854775807) : fN n = (Lib.itoa n).map (·.toNat) := by
 unfold Lib.itoa fN
 cases n with
 | ofNat n =>
  rw [if_neg (by simp)]
  simp only
  rw [uO 20 n [] (by simp at h1; omega) (by omega)]
  simp
 | negSucc n =>
  rw [if_pos (by omega)]
  simp only
  rw [uO 20 _ [] (by show n + 1 < _; omega) (by omega)]
  simp
theorem bCh (G : Gd) : pL CF.P G 34 tJ := by
 intro args h v h1 hr ρ w args' H hargs
 unfold tJ at hr
 split at hr <;> (try (cases hr; done))
 rename_i n
 cases hc : (decide (-9223372036854775808 ≤ n) && decide (n ≤ 9223372036854775807)) with
 | false => rw [hc] at hr; cases hr
 | true =>
 rw [hc] at hr
 simp only [Bool.and_eq_true, decide_eq_true_eq] at hc
 simp only [cond_true, bB, bW] at hr
 obtain ⟨rfl, rfl⟩ := hr
 obtain ⟨a⟩ := args'
 cases hargs with
 | cons _ x' l1 l1' hx hxs =>
 cases hxs
 cases hx
 refine CallFn.of Tryz.f34 (by kernel_rfl) (by kernel_rfl) ?_
 have F := G.ok w H.gl
 have htab : Lib.TabIs Tryz.prog w "internal/strconv.uint64pow10" .u64 Lib.pow10Tab := by
  obtain ⟨_, t, z, ht⟩ := F
  have hg : Tryz.prog.globalNamed "internal/strconv.uint64pow10" = some 1 := by kernel_rfl
  unfold Lib.TabIs World.var?
  rw [hg]
  simp only [Option.bind_some, ht]
 refine (Tryz.strconv_Itoa n hc.1 hc.2 w htab).mono ?_
 rintro e w' ⟨rfl, k, os, rfl⟩
 have hbel : Below w.heap.size w (Sort.grow (w.drewN k) os) := ⟨rfl, rfl, rfl, by simp [Sort.grow, World.drewN], fun i hi => by
  show (w.heap ++ os)[i]? = _
  rw [Array.getElem?_append_left hi]⟩
 exact ⟨ρ, _, rfl, Ex.refl _ _, .s _ _ (aQo n hc.1 hc.2).symm, H.later hbel, Kp.later H hbel⟩
end Go.Dd

namespace Go.Dd
open Go.Proofs Go.Lib Go.RowKit
theorem aTg (b c : UInt8) : Nat.beq b.toNat c.toNat = (b == c) := by
 rw [Bool.eq_iff_iff]
 constructor
 ·intro h
  have := Nat.eq_of_beq_eq_true h
  simpa using UInt8.toNat_inj.1 this
 ·intro h
  have h2 : b = c := by simpa using h
  rw [h2]; simp
theorem aPd {bs : ByteArray} {c : Nat} (h : bs.data.toList.map (·.toNat) = [c]) : ∃ u : UInt8, bs = ⟨#[u]⟩ ∧ u.toNat = c := by
 obtain ⟨⟨l⟩⟩ := bs
 match l, h with
 | [u], h => exact ⟨u, rfl, by simpa using h⟩
def nG (c : UInt8) (new : List UInt8) : List UInt8 → List UInt8
 | [] => []
 | x :: l => if x = c then new ++ nG c new l else x :: nG c new l
theorem aDw {b c : UInt8} {l : List UInt8} (h : b ≠ c) {i : Nat} (hi : index l [c] = i) : index (b :: l) [c] = ((i + 1 : Nat) : Int) := by
 have hp : ([c] : List UInt8).isPrefixOf (b :: l) = false := by simp [List.isPrefixOf, Ne.symm h]
 rw [index, hp, hi]
 simp
theorem aEb {c : UInt8} {l : List UInt8} : index (c :: l) [c] = ((0 : Nat) : Int) := by
 rw [index]; simp [List.isPrefixOf]
theorem aDy (c : UInt8) (new : List UInt8) : ∀ s : List UInt8, replaceK [c] new (count s [c]) s = nG c new s
 | [] => by rw [count_one]; rfl
 | b :: l => by
  have ih := aDy c new l
  by_cases h : b = c
  ·subst h
   rw [count_cons_eq, Nat.add_comm, replaceK_hit _ _ _ _ 0 aEb]
   simp [nG, ih]
  ·rw [count_cons_ne _ _ _ h]
   simp only [nG, if_neg h]
   cases hk : count l [c] with
   | zero =>
    rw [hk] at ih
    simp only [replaceK] at ih ⊢
    rw [← ih]
   | succ k =>
    rw [hk] at ih
    obtain ⟨i, hi⟩ := index_of_count (s := l) (old := [c]) (by omega)
    rw [replaceK_hit _ _ _ _ i hi] at ih
    rw [replaceK_hit _ _ _ _ (i + 1) (aDw h hi), ← ih]
    simp [Nat.add_right_comm]
theorem uV (c : UInt8) : ∀ s : List UInt8, nG c [c] s = s
 | [] => rfl
 | x :: l => by
  simp only [nG, uV c l]
  split
  ·rename_i h; subst h; rfl
  ·rfl
theorem aSh (s : List UInt8) (c : UInt8) (new : List UInt8) : replaceAll s [c] new = nG c new s := by
 unfold replaceAll replace
 split
 ·rename_i h
  have : [c] = new := by simpa using h
  subst this
  rw [uV]
 ·unfold replaceNum
  rw [if_pos (.inl (by decide))]
  exact aDy c new s
theorem aEk (c : UInt8) (new : List UInt8) : ∀ s : List UInt8, dC c.toNat (new.map (·.toNat)) (s.map (·.toNat)) = (nG c new s).map (·.toNat)
 | [] => rfl
 | x :: l => by
  simp only [List.map_cons, dC, nG, aEk c new l, aTg]
  by_cases h : x = c
  ·subst h; simp
  ·rw [if_neg h, show (x == c) = false by simpa using h]; simp
theorem bCf (G : Gd) : pL CF.P G 60 xC := by
 intro args h v h1 hr ρ w args' H hargs
 unfold xC at hr
 split at hr <;> (try (cases hr; done))
 rename_i s c new
 cases hc : Nat.blt c 256 with
 | false => rw [hc] at hr; cases hr
 | true =>
 rw [hc] at hr
 cases hc2 : Nat.ble s.length 4000000000 with
 | false => rw [hc2] at hr; cases hr
 | true =>
 rw [hc2] at hr
 cases hc3 : Nat.ble new.length 1000 with
 | false => rw [hc3] at hr; cases hr
 | true =>
 rw [hc3] at hr
 have hs' := Nat.le_of_ble_eq_true hc2
 have hn' := Nat.le_of_ble_eq_true hc3
 simp only [cond_true, bB, bW] at hr
 obtain ⟨rfl, rfl⟩ := hr
 obtain ⟨a⟩ := args'
 cases hargs with
 | cons _ x' l1 l1' hx hxs =>
 cases hxs with
 | cons _ y' l2 l2' hy hys =>
 cases hys with
 | cons _ z' l3 l3' hz hzs =>
 cases hzs
 cases hx with
 | s _ bs hbs =>
 cases hy with
 | s _ bc hbc =>
 cases hz with
 | s _ bn hbn =>
 obtain ⟨u, rfl, rfl⟩ := aPd hbc
 subst hbs hbn
 have e1 : bs.size ≤ 4000000000 := by rw [List.length_map, Array.length_toList] at hs'; exact hs'
 have e2 : bn.size ≤ 1000 := by rw [List.length_map, Array.length_toList] at hn'; exact hn'
 refine CallFn.of Tryz.f60 (by kernel_rfl) (by kernel_rfl) ?_
 obtain ⟨⟨m, hm⟩, _⟩ := G.ok w H.gl
 have hcnt : countB bs ⟨#[u]⟩ ≤ bs.size := countB_le _ (by simp [ByteArray.size]) _ _ (Nat.le_refl _)
 have hmul : countB bs ⟨#[u]⟩ * bn.size ≤ 4000000000 * 1000 := Nat.mul_le_mul (by omega) e2
 refine (Tryz.strings_ReplaceAll bs ⟨#[u]⟩ bn m w (by omega) hm (by simp [ByteArray.size]) (by omega)).mono ?_
 rintro e w' ⟨rfl, hbel⟩
 refine ⟨ρ, _, rfl, Ex.refl _ _, .s _ _ ?_, H.later hbel, Kp.later H hbel⟩
 rw [aEk, ← aSh]
def iA (acc : List UInt8) : List (List UInt8) → List (List UInt8)
 | [] => []
 | p :: ps => (acc ++ p) :: ps
theorem pZ (c : UInt8) : ∀ (s acc : List UInt8), cH c.toNat (acc.map (·.toNat)) (s.map (·.toNat)) = (iA acc (splitK [c] 1 (count s [c]) s)).map (·.map (·.toNat))
 | [], acc => by rw [count_one]; simp [cH, splitK, iA]
 | b :: l, acc => by
  simp only [List.map_cons, cH, aTg]
  by_cases h : b = c
  ·subst h
   have ih := pZ b l []
   rw [count_cons_eq, Nat.add_comm]
   simp only [splitK, aEb]
   simp only [List.map_nil] at ih
   rw [show (b == b) = true by simp, cond_true, ih]
   have hd : iA [] (splitK [b] 1 (count l [b]) l) = splitK [b] 1 (count l [b]) l := by cases splitK [b] 1 (count l [b]) l <;> simp [iA]
   rw [hd]
   simp [iA]
  ·have ih := pZ c l (acc ++ [b])
   rw [show (b == c) = false by simpa using h, cond_false, count_cons_ne _ _ _ h]
   simp only [List.map_append, List.map_cons, List.map_nil] at ih
   rw [ih]
   cases hk : count l [c] with
   | zero => simp [splitK, iA]
   | succ k =>
    obtain ⟨i, hi⟩ := index_of_count (s := l) (old := [c]) (by omega)
    have hi2 := aDw h hi
    simp only [splitK, hi, hi2]
    rw [if_neg (by first | (simp; done) | (simp; omega)), if_neg (by first | (simp; done) | (simp; omega))]
    simp [iA]
theorem aZe (G : Gd) : pL CF.P G 86 qB := by
 intro args h v h1 hr ρ w args' H hargs
 unfold qB at hr
 split at hr <;> (try (cases hr; done))
 rename_i s c
 cases hc : Nat.blt c 256 with
 | false => rw [hc] at hr; cases hr
 | true =>
 rw [hc] at hr
 cases hc2 : Nat.ble s.length 4000000000 with
 | false => rw [hc2] at hr; cases hr
 | true =>
 rw [hc2] at hr
 have hs' := Nat.le_of_ble_eq_true hc2
 simp only [cond_true, bB, bW] at hr
 obtain ⟨rfl, rfl⟩ := hr
 obtain ⟨a⟩ := args'
 cases hargs with
 | cons _ x' l1 l1' hx hxs =>
 cases hxs with
 | cons _ y' l2 l2' hy hys =>
 cases hys with
 | cons _ z' l3 l3' hz hzs =>
 cases hzs with
 | cons _ z4 l4 l4' hz4 hzs4 =>
 cases hzs4
 cases hz
 cases hz4
 cases hx with
 | s _ bs hbs =>
 cases hy with
 | s _ bc hbc =>
 obtain ⟨u, rfl, rfl⟩ := aPd hbc
 subst hbs
 have e1 : bs.size ≤ 4000000000 := by rw [List.length_map, Array.length_toList] at hs'; exact hs'
 have hsz : (⟨#[u]⟩ : ByteArray).size = 1 := rfl
 have hcnt : countB bs ⟨#[u]⟩ ≤ bs.size := countB_le _ (by omega) _ _ (Nat.le_refl _)
 have hp : cH u.toNat [] (bs.data.toList.map (·.toNat)) = ((splitB ⟨#[u]⟩ 1 (countB bs ⟨#[u]⟩) bs).map (·.data.toList)).map (·.map (·.toNat)) := by
  have := pZ u bs.data.toList []
  simp only [List.map_nil] at this
  rw [this, splitB_data]
  show (iA [] (splitK [u] 1 (count bs.data.toList [u]) bs.data.toList)).map _ = (splitK [u] 1 (count bs.data.toList [u]) bs.data.toList).map _
  cases splitK [u] 1 (count bs.data.toList [u]) bs.data.toList <;> simp [iA]
 have hlen := splitB_all ⟨#[u]⟩ (by omega) 1 _ bs rfl
 refine CallFn.of Tryz.f86 (by kernel_rfl) (by kernel_rfl) ?_
 obtain ⟨⟨m, hm⟩, _⟩ := G.ok w H.gl
 have hN : ((countB bs ⟨#[u]⟩ + 1 : Nat) : Int) = min (if (Int.negSucc 0) < 0 then (countB bs ⟨#[u]⟩ : Int) + 1 else Int.negSucc 0) ((bs.size : Int) + 1) := by
  rw [if_pos (by decide)]
  omega
 refine (Tryz.strings_genSplit bs ⟨#[u]⟩ 1 (Int.negSucc 0) (countB bs ⟨#[u]⟩ + 1) m w (by omega) hm (by omega) (by omega) (by decide) (by decide) hN).mono ?_
 rintro e w' ⟨rfl, rfl⟩
 simp only [Nat.add_sub_cancel] at *
 generalize hps : splitB ⟨#[u]⟩ 1 (countB bs ⟨#[u]⟩) bs = ps at *
 rw [hp]
 have hcell : cellsOf ps (countB bs ⟨#[u]⟩ + 1) = (ps.map Value.string).toArray := by rw [← hlen]; exact cellsOf_full ps
 rw [hcell]
 have hvs : ∀ qs : List ByteArray, VRs ρ (((qs.map (·.data.toList)).map (·.map (·.toNat))).map DV.s) (qs.map Value.string) := by
  intro qs
  induction qs with
  | nil => exact .nil
  | cons q qs ih => exact .cons _ _ _ _ (.s _ _ rfl) ih
 have H2 := H.newRow .ex _ (ps.map Value.string) (ps.map Value.string).toArray 9 0 (hvs ps) (fun i v hv => by simpa using hv) (.inl ⟨rfl, rfl⟩)
 refine ⟨_, _, rfl, H.exx ⟨w.heap.size, 0, 0, none⟩, ?_, H2, gP H.sz _⟩
 have := VR.l (ρ := nH ρ h.next ⟨w.heap.size, 0, 0, none⟩) h.next 0 ps.length ps.length ⟨w.heap.size, 0, 0, none⟩ (bR _ _ _)
 simpa [fL, hlen] using this
end Go.Dd

namespace Go.Dd
open Go.Proofs Go.Lib Go.RowKit
theorem aEt (c : Nat) (hc : c < 256) : ∀ (l : List UInt8) (i : Nat), cX c (l.map (·.toNat)) i = if indexByte l c.toUInt8 = -1 then -1 else indexByte l c.toUInt8 + i
 | [], i => rfl
 | b :: l, i => by
  have hb : Nat.beq b.toNat c = (b == c.toUInt8) := by
   rw [Bool.eq_iff_iff]
   constructor
   ·intro h
    have := Nat.eq_of_beq_eq_true h
    simp [← this]
   ·intro h
    have h2 : b = c.toUInt8 := by simpa using h
    rw [h2]
    have : (c.toUInt8).toNat = c := by simp [Nat.toUInt8]; omega
    rw [this]; simp
  show (bif Nat.beq b.toNat c then Int.ofNat i else cX c (l.map (·.toNat)) (i + 1)) = _
  rw [hb]
  unfold indexByte
  cases h : (b == c.toUInt8) with
  | true => simp
  | false =>
   have ih := aEt c hc l (i + 1)
   have hge := indexByte_ge l c.toUInt8
   simp only [cond_false, Bool.false_eq_true, if_false]
   rw [ih]
   by_cases h1 : indexByte l c.toUInt8 = -1
   ·simp [h1]
   ·simp only [h1, if_false, beq_iff_eq]
    rw [if_neg (by omega)]
    omega
theorem bKy (G : Gd) : pL CF.P G 117 aOj := by
 intro args h v h1 hr ρ w args' H hargs
 unfold aOj at hr
 split at hr <;> (try (cases hr; done))
 rename_i l c
 cases hc : Nat.blt c 256 with
 | false => rw [hc] at hr; cases hr
 | true =>
  rw [hc] at hr
  have hc' : c < 256 := by simpa using hc
  simp only [cond_true, bB, bW] at hr
  obtain ⟨rfl, rfl⟩ := hr
  obtain ⟨a⟩ := args'
  cases hargs with
  | cons x x' l1 l1' hx hxs =>
  cases hxs with
  | cons y y' l2 l2' hy hys =>
  cases hys
  cases hx with
  | s l bs hbs =>
  cases hy with
  | i k n =>
  refine .inr ⟨ρ, w, .int .i64 (indexByte bs.data.toList c.toUInt8), ?_, Ex.refl _ _, ?_, H, Kp.refl _ _⟩
  ·rw [run_callFunc_extern (fn := Tryz.f117) (e := Extern.BytealgIndexByte.indexByte) (by kernel_rfl) (by kernel_rfl) (by kernel_rfl) (by kernel_rfl) (by kernel_rfl)]
   rw [run_indexByteString bs (Int.ofNat c) w]
   rfl
  ·have e := aEt c hc' bs.data.toList 0
   rw [hbs] at e
   have e2 : cX c l 0 = indexByte bs.data.toList c.toUInt8 := by
    rw [e]
    split
    ·rename_i h; exact h.symm
    ·simp
   rw [e2]
   exact .i _ _
theorem aHd (G : Gd) (g : FuncId) (F : List DV → Hp → aG) (h : CF.I g = some F) : pL CF.P G g F := by
 have e : CF.I g = bif Nat.beq g 117 then some aOj else bif Nat.beq g 30 then some kK else bif Nat.beq g 86 then some qB else bif Nat.beq g 60 then some xC else bif Nat.beq g 34 then some tJ else none := rfl
 rw [e] at h
 cases hg : Nat.beq g 117 with
 | true => rw [hg] at h; cases h; cases Nat.eq_of_beq_eq_true hg; exact bKy G
 | false =>
 rw [hg, cond_false] at h
 cases hg : Nat.beq g 30 with
 | true => rw [hg] at h; cases h; cases Nat.eq_of_beq_eq_true hg; exact bFb G
 | false =>
 rw [hg, cond_false] at h
 cases hg : Nat.beq g 86 with
 | true => rw [hg] at h; cases h; cases Nat.eq_of_beq_eq_true hg; exact aZe G
 | false =>
 rw [hg, cond_false] at h
 cases hg : Nat.beq g 60 with
 | true => rw [hg] at h; cases h; cases Nat.eq_of_beq_eq_true hg; exact bCf G
 | false =>
 rw [hg, cond_false] at h
 cases hg : Nat.beq g 34 with
 | true => rw [hg] at h; cases h; cases Nat.eq_of_beq_eq_true hg; exact bCh G
 | false => rw [hg] at h; cases h
def bRe (w : World) (F : Facts w) : Gd := ⟨w.heap.size, fun _ => False, 0, w.heap, fun w' h => F.keep fun k hk => h k (Nat.lt_of_lt_of_le hk F.two)⟩
def h00 : Hp := ⟨.h, .e⟩
theorem top {n : Nat} {f : FuncId} {args : List DV} {v : DV} {h1 : Hp} (hr : aI n f args h00 = some (v, h1)) (fn : Func) (hf : Tryz.prog.funcs[f]? = some fn) (hb : fn.body.isSome = true)
 (w : World) (F : Facts w) (args' : Array Value) (hargs : VRs (fun _ => none) args args'.toList) :
 Calls Tryz.prog f args' w fun e w' => ∃ ρ' v', e = .returned v' ∧ VR ρ' v v' ∧ HR (bRe w F) ρ' h1 w' ∧ Below w.heap.size w w' := by
 rw [aEz] at hr
 have H : HR (bRe w F) (fun _ => none) h00 w := by
  constructor
  ·exact fun _ _ => rfl
  ·exact ⟨Nat.le_refl _, fun _ h => h.elim⟩
  ·exact Nat.zero_le _
  ·rintro b a ⟨k, l, L, _, h2, _⟩; cases h2
  ·intro b o h; cases b <;> cases h
  ·intro b L h; cases h
  ·intro b k l L i v h h2; cases h2
  ·intro b l L es j h h2; cases h2
  ·rintro b a ⟨k, l, L, _, h2, _⟩; cases h2
  ·rintro b b' a ⟨k, l, L, _, h2, _⟩; cases h2
  ·intro b l L h h2; cases h2
  ·intro b es l i v h; cases b <;> cases h
  ·intro b s pos L h h2; cases h2
  ·intro b s pos b' s' pos' L L' h h' h2; cases h2
 rcases aFp (C := CF) Try_ok aHd n _ f args h00 v h1 hr _ w args' H hargs with ⟨_, h⟩ | ⟨ρ', w', v', h, _⟩
 ·refine h.mono ?_
  rintro e w' ⟨ρ', v', h1, h2, h3, h4, h5⟩
  exact ⟨ρ', v', h1, h3, h4, h5.low⟩
 ·exfalso
  have hf' : CF.P.funcs[f]? = some fn := hf
  have hn : ¬ fn.name = "runtime.NumGoroutine" := by simpa using Try_ok.names f fn hf'
  have hbn : fn.body ≠ none := by intro e; rw [e] at hb; cases hb
  unfold callFunc at h
  simp [hf', hn, hbn] at h
end Go.Dd

namespace Go.Dd
noncomputable def val (r : aG) : DV := Option.rec (motive := fun _ => DV) .u (fun p => p.1) r
theorem bVw {r : aG} {b : Bool} (h : val r = .b b) : ∃ h1, r = some (.b b, h1) := by
 cases r with
 | none => cases h
 | some p =>
  obtain ⟨v, h1⟩ := p
  have : v = .b b := h
  exact ⟨h1, by rw [this]⟩
end Go.Dd

namespace Go.Dd
open Go.Proofs
def Wf (h : Hp) : Prop := ∀ b o, h.bl.get b = some o → b.toNat < h.next.toNat
noncomputable def nw (o : Ob) (h : Hp) : Hp := ⟨h.next.succ, Tr.set o h.next h.bl⟩
theorem bPk (h : Hp) (o : Ob) : (nw o h).bl.get h.next = some o := bZf o _ _
theorem bTt (cs : List DV) (h : Hp) : cJ cs h = some (.p h.next 0, nw (.row .ex cs) h) := rfl
theorem bPi (x y : List Nat) (h : Hp) : gU .eql (.s x) (.s y) h = some (.b (uN x y), h) := rfl
theorem bQn (x y : List Nat) (h : Hp) : gU .neq (.s x) (.s y) h = some (.b (!uN x y), h) := rfl
theorem gV (n : Int) (h1 : -9223372036854775808 ≤ n) (h2 : n ≤ 9223372036854775807) : IntKind.i64.wrap n = n := by
 unfold IntKind.wrap
 simp [IntKind.bits, IntKind.signed, IntKind.min, IntKind.max]
 omega
theorem ld1 {h : Hp} {b : Pos} {k : Kind} {l : List DV} {o : Nat} {v : DV} (e : h.bl.get b = some (.row k l)) (ho : l[o]? = some v) (hv : v.one = true) : aB (.p b o) h = some (v, h) := by
 simp [aB, aEe, lT, e, ho, hv]
theorem ldA {h : Hp} {b : Pos} {k : Kind} {l : List DV} {o n : Nat} {cs : List DV} (e : h.bl.get b = some (.row k l)) (ho : iZ n (l.drop o) = some cs) : aD n (.p b o) h = some (.a cs, h) := by
 simp [aD, eI, lT, e, ho]
theorem jI {α : Type} {l : List α} {i : Nat} {x : α} (hi : l[i]? = some x) : l.drop i = x :: l.drop (i + 1) := by
 obtain ⟨h1, h2⟩ := List.getElem?_eq_some_iff.1 hi
 rw [← h2]
 exact List.drop_eq_getElem_cons h1
theorem aNh (x y : List Nat) : uN x y = decide (x = y) := by
 rw [Bool.eq_iff_iff, lS]; simp
theorem aZw (n : Nat) (x y : DV) (h : Hp) : aI (n + 1) 16 [x, y] h = s16 (aI n) n x y h := by kernel_rfl
end Go.Dd

namespace Go.Dd
open Go.Proofs
theorem aEm : ∀ (l vs : List DV), l.length = vs.length → (∀ v ∈ l, v.one = true) → (∀ v ∈ vs, v.one = true) → qD l vs = some vs
 | [], [], _, _, _ => rfl
 | x :: l, v :: vs, h, h1, h2 => by
  have := aEm l vs (by simpa using h) (fun y hy => h1 y (by simp [hy])) (fun y hy => h2 y (by simp [hy]))
  simp [qD, this, h1 x (by simp), h2 v (by simp)]
 | [], _ :: _, h, _, _ => by simp at h
 | _ :: _, [], h, _, _ => by simp at h
theorem wY : ∀ (x : List DV), (∀ v ∈ x, v.one = true) → iZ x.length x = some x
 | [], _ => rfl
 | v :: x, h => by simp [iZ, h v (by simp), wY x (fun y hy => h y (by simp [hy]))]
end Go.Dd

namespace Go.Dd
open Go.Proofs
end Go.Dd

namespace Go.Dd
open Go.Proofs
end Go.Dd

namespace Go.Dd
open Go.Proofs
end Go.Dd

namespace Go.Dd
open Go.Proofs
end Go.Dd

namespace Go.Dd
open Go.Proofs
end Go.Dd

namespace Go.Dd
open Go.Proofs Go.RowKit
theorem aOi {n : Nat} {f : FuncId} {r : Bool} {h1 : Hp} (hr : aI n f [] h00 = some (.b r, h1)) (fn : Func) (hf : Tryz.prog.funcs[f]? = some fn) (hb : fn.body.isSome = true) (G : Gd) :
 pL CF.P G f (fun args h => match args with
  | [] => some (.b r, h)
  | _ => none) := by
 intro args h v h2 he ρ w args' H hargs
 cases args with
 | cons _ _ => cases he
 | nil =>
  simp only [bB, bW] at he
  obtain ⟨rfl, rfl⟩ := he
  have e0 : args' = #[] := by
   obtain ⟨a⟩ := args'
   cases hargs
   rfl
  subst e0
  refine .inl ⟨?_, ?_⟩
  ·have hf' : CF.P.funcs[f]? = some fn := hf
   have hn : ¬ fn.name = "runtime.NumGoroutine" := by simpa using Try_ok.names f fn hf'
   have hbn : fn.body ≠ none := by intro e; rw [e] at hb; cases hb
   unfold callFunc
   simp [hf', hn, hbn]
  ·refine (top hr fn hf hb w (G.ok w H.gl) #[] .nil).mono ?_
   rintro e w' ⟨ρ', v', rfl, hv, _, hbel⟩
   cases hv
   exact ⟨ρ, _, rfl, Ex.refl _ _, .b _, H.later hbel, Kp.later H hbel⟩
noncomputable def mJ (l : FuncId) (r : Bool) (n : Nat) : FuncId → List DV → Hp → aG := fun g =>
 bif Nat.beq g l then (fun args h => match args with
  | [] => some (.b r, h)
  | _ => none) else aI n g
theorem bEi {n m : Nat} {f : FuncId} {r : Bool} {h1 : Hp} (hr : aI m f [] h00 = some (.b r, h1)) (fn : Func) (hf : Tryz.prog.funcs[f]? = some fn) (hb : fn.body.isSome = true) : OkC CF (mJ f r n) := by
 refine ⟨aHd, fun G g => ?_⟩
 unfold mJ
 cases hg : Nat.beq g f with
 | true =>
  cases Nat.eq_of_beq_eq_true hg
  exact aOi hr fn hf hb G
 | false =>
  show pL CF.P G g (aI n g)
  rw [aEz]
  exact aFp Try_ok aHd n G g
theorem aOc (l : FuncId) (r : Bool) (n : Nat) (h : Hp) : mJ l r n l [] h = some (.b r, h) := by
 unfold mJ
 rw [show Nat.beq l l = true from by simp]
 rfl
theorem fO {l g : FuncId} (r : Bool) (n : Nat) (e : Nat.beq g l = false) : mJ l r n g = aI n g := by
 unfold mJ
 rw [e]
 rfl
end Go.Dd

namespace Go.Dd
open Go.Proofs Go.RowKit
structure Ro (w : World) (ρ : Ren) (h : Hp) : Prop where
 dom : ∀ b o, h.bl.get b = some o → ∃ L, ρ b = some L
 lt : ∀ b L, ρ b = some L → b.toNat < h.next.toNat
 row : ∀ b o, h.bl.get b = some o → ∃ l, o = .row .ro l
 cell : ∀ b l L i v, h.bl.get b = some (.row .ro l) → ρ b = some L → l[i]? = some v → ∃ v', w.cell? (fL L i) = some v' ∧ VR ρ v v'
 sp : ∀ b o L, h.bl.get b = some o → ρ b = some L → L.sp = 0
theorem Ro.isRo {w : World} {ρ : Ren} {h : Hp} (R : Ro w ρ h) {b : Pos} {a : Addr} (c : Claims ρ h b a) : isRo h b := by
 obtain ⟨k, l, L, h1, h2, _⟩ := c
 obtain ⟨l', e⟩ := R.row b _ h1
 exact ⟨l', by rw [h1, e]⟩
theorem Ro.hr {w : World} {ρ : Ren} {h : Hp} (R : Ro w ρ h) (F : Facts w) : HR (bRe w F) ρ h w where
 gl := fun _ _ => rfl
 sz := ⟨Nat.le_refl _, fun _ hh => hh.elim⟩
 nx := Nat.zero_le _
 ro := fun b a c _ => by
  obtain ⟨k, l, L, h1, h2, h3⟩ := c
  obtain ⟨l', e⟩ := R.row b _ h1
  cases e
  rcases h3 with ⟨i, v, h4, h5, rfl⟩ | ⟨es, j, h4, _⟩
  ·obtain ⟨v', h6, _⟩ := R.cell b _ L i v h1 h2 h4
   exact fH h6
  ·cases h4
 dom := R.dom
 lt := R.lt
 cell := fun b k l L i v h1 h2 h3 h4 => by
  obtain ⟨l', e⟩ := R.row b _ h1
  cases e
  exact R.cell b _ L i v h1 h2 h3
 spare := fun b l L es j h1 => by
  obtain ⟨l', e⟩ := R.row b _ h1
  cases e
 free := fun b a c hn => absurd (R.isRo c) hn
 inj := fun b b' a c c' hn => absurd (R.isRo c) hn
 ex := fun b l L h1 h2 => by
  rcases h1 with h1 | h1
  ·exact R.sp b _ L h1 h2
  ·exact R.sp b _ L h1 h2
 grone := fun b es l i v h1 => by
  obtain ⟨l', e⟩ := R.row b _ h1
  cases e
 itr := fun b s pos L h1 => by
  obtain ⟨l', e⟩ := R.row b _ h1
  cases e
 itj := fun b s pos b' s' pos' L L' h1 => by
  obtain ⟨l', e⟩ := R.row b _ h1
  cases e
theorem Ro.none (w : World) : Ro w (fun _ => none) h00 where
 dom := fun b o h => by cases b <;> cases h
 lt := fun b L h => by cases h
 row := fun b o h => by cases b <;> cases h
 cell := fun b l L i v h => by cases b <;> cases h
 sp := fun b o L h => by cases b <;> cases h
section
variable {H : Type} {enc : TypeId × Value → H} {w : World}
end
end Go.Dd

namespace Go.Dd
theorem bEq : ∃ h1, aI 900 10 [] h00 = some (.b true, h1) := bVw (by kernel_rfl)
end Go.Dd

namespace Go.Dd
open Go.Proofs
def Ev (F : Nat → aG) (P : DV → Hp → Prop) : Prop := ∃ v h N, P v h ∧ ∀ n, N ≤ n → F n = some (v, h)
theorem bZg {v : DV} {h : Hp} {P : DV → Hp → Prop} (H : P v h) : Ev (fun _ => some (v, h)) P := ⟨v, h, 0, H, fun _ _ => rfl⟩
theorem Ev.mono {F : Nat → aG} {P Q : DV → Hp → Prop} (H : Ev F P) (k : ∀ v h, P v h → Q v h) : Ev F Q := by
 obtain ⟨v, h, N, a, b⟩ := H
 exact ⟨v, h, N, k v h a, b⟩
theorem Ev.op {r : aG} {v : DV} {h : Hp} {k : Nat → DV → Hp → aG} {P : DV → Hp → Prop} (e : r = some (v, h)) (H : Ev (fun n => k n v h) P) : Ev (fun n => bnd r (k n)) P := by
 rw [e]; exact H
theorem bZe {F : Nat → aG} {Q P : DV → Hp → Prop} {k : Nat → DV → Hp → aG} (H : Ev F Q) (K : ∀ v h, Q v h → Ev (fun n => k n v h) P) : Ev (fun n => bnd (F n) (k n)) P := by
 obtain ⟨v, h, N, a, b⟩ := H
 obtain ⟨v', h', N', a', b'⟩ := K v h a
 refine ⟨v', h', max N N', a', fun n hn => ?_⟩
 show Dd.bnd (F n) (k n) = _
 rw [b n (by omega)]
 exact b' n (by omega)
theorem Ev.enter {G : Nat → aG} {F : Nat → aG} {P : DV → Hp → Prop} (e : ∀ n, F (n + 1) = G n) (H : Ev G P) : Ev F P := by
 obtain ⟨v, h, N, a, b⟩ := H
 refine ⟨v, h, N + 1, a, fun n hn => ?_⟩
 obtain ⟨n, rfl⟩ : ∃ m, n = m + 1 := ⟨n - 1, by omega⟩
 rw [e]
 exact b n (by omega)
theorem bZl (j : Nat) {ll bb : Nat → Nat → aG} {P : DV → Hp → Prop} (e : ∀ n m, ll n (m + 1) = bb n m) (H : Ev (fun n => bb n (n - (j + 1))) P) : Ev (fun n => ll n (n - j)) P := by
 obtain ⟨v, h, N, a, b⟩ := H
 refine ⟨v, h, N + j + 1, a, fun n hn => ?_⟩
 have : n - j = (n - (j + 1)) + 1 := by omega
 show ll n (n - j) = _
 rw [this, e]
 exact b n (by omega)
theorem cAs {F G : Nat → aG} {P : DV → Hp → Prop} (H : Ev F P) : Ev (fun n => cB (.b true) (F n) (G n)) P := H
theorem cAg {F G : Nat → aG} {P : DV → Hp → Prop} (H : Ev G P) : Ev (fun n => cB (.b false) (F n) (G n)) P := H
theorem Ev.cnd {b : Bool} {F : Nat → aG} {P : DV → Hp → Prop} (e : b = true) (H : Ev F P) : Ev (fun n => cnd b (F n)) P := by
 subst e; exact H
section
variable {k : Nat → DV → Hp → aG} {P : DV → Hp → Prop} {h : Hp} {q : IntKind} {x y : Int} {s t : List Nat}
theorem iL (o : BinOp) (z : DV) (e : aGc o q x y = some z) : aQ o (.i q x) (.i q y) h = some (z, h) := by simp [aQ, e]
theorem bZj (H : x = y → Ev (fun n => k n (.b true) h) P) (H' : x ≠ y → Ev (fun n => k n (.b false) h) P) : Ev (fun n => bnd (aQ .eql (.i q x) (.i q y) h) (k n)) P := by
 refine Ev.op (iL .eql (.b (x == y)) rfl) ?_
 by_cases e : x = y
 ·rw [show (x == y) = true by simpa using e]; exact H e
 ·rw [show (x == y) = false by simpa using e]; exact H' e
theorem bZy (H : x ≠ y → Ev (fun n => k n (.b true) h) P) (H' : x = y → Ev (fun n => k n (.b false) h) P) : Ev (fun n => bnd (aQ .neq (.i q x) (.i q y) h) (k n)) P := by
 refine Ev.op (iL .neq (.b (x != y)) rfl) ?_
 by_cases e : x = y
 ·rw [show (x != y) = false by simpa using e]; exact H' e
 ·rw [show (x != y) = true by simpa using e]; exact H e
theorem cAa (H : x < y → Ev (fun n => k n (.b true) h) P) (H' : ¬ x < y → Ev (fun n => k n (.b false) h) P) : Ev (fun n => bnd (aQ .lss (.i q x) (.i q y) h) (k n)) P := by
 refine Ev.op (iL .lss (.b (decide (x < y))) rfl) ?_
 by_cases e : x < y
 ·rw [decide_eq_true e]; exact H e
 ·rw [decide_eq_false e]; exact H' e
theorem cBf (H : x ≤ y → Ev (fun n => k n (.b true) h) P) (H' : ¬ x ≤ y → Ev (fun n => k n (.b false) h) P) : Ev (fun n => bnd (aQ .leq (.i q x) (.i q y) h) (k n)) P := by
 refine Ev.op (iL .leq (.b (decide (x ≤ y))) rfl) ?_
 by_cases e : x ≤ y
 ·rw [decide_eq_true e]; exact H e
 ·rw [decide_eq_false e]; exact H' e
theorem cAw (H : y < x → Ev (fun n => k n (.b true) h) P) (H' : ¬ y < x → Ev (fun n => k n (.b false) h) P) : Ev (fun n => bnd (aQ .gtr (.i q x) (.i q y) h) (k n)) P := by
 refine Ev.op (iL .gtr (.b (decide (x > y))) rfl) ?_
 by_cases e : y < x
 ·rw [decide_eq_true e]; exact H e
 ·rw [decide_eq_false e]; exact H' e
theorem cAo (H : y ≤ x → Ev (fun n => k n (.b true) h) P) (H' : ¬ y ≤ x → Ev (fun n => k n (.b false) h) P) : Ev (fun n => bnd (aQ .geq (.i q x) (.i q y) h) (k n)) P := by
 refine Ev.op (iL .geq (.b (decide (x ≥ y))) rfl) ?_
 by_cases e : y ≤ x
 ·rw [decide_eq_true e]; exact H e
 ·rw [decide_eq_false e]; exact H' e
theorem cCi (H : s = t → Ev (fun n => k n (.b true) h) P) (H' : s ≠ t → Ev (fun n => k n (.b false) h) P) : Ev (fun n => bnd (gU .eql (.s s) (.s t) h) (k n)) P := by
 refine Ev.op (bPi s t h) ?_
 by_cases e : s = t
 ·rw [show uN s t = true by rw [lS]; exact e]; exact H e
 ·rw [show uN s t = false by rw [aNh]; simp [e]]; exact H' e
theorem cBu (H : s ≠ t → Ev (fun n => k n (.b true) h) P) (H' : s = t → Ev (fun n => k n (.b false) h) P) : Ev (fun n => bnd (gU .neq (.s s) (.s t) h) (k n)) P := by
 refine Ev.op (bQn s t h) ?_
 by_cases e : s = t
 ·rw [show uN s t = true by rw [lS]; exact e]; exact H' e
 ·rw [show uN s t = false by rw [aNh]; simp [e]]; exact H e
theorem bZo (H : Ev (fun n => k n (.i q (q.wrap (x + y))) h) P) : Ev (fun n => bnd (aQ .add (.i q x) (.i q y) h) (k n)) P := Ev.op (iL .add _ rfl) H
theorem cBa (H : Ev (fun n => k n (.i q (q.wrap (x - y))) h) P) : Ev (fun n => bnd (aQ .sub (.i q x) (.i q y) h) (k n)) P := Ev.op (iL .sub _ rfl) H
theorem cCt (H : Ev (fun n => k n (.i q (q.wrap (x * y))) h) P) : Ev (fun n => bnd (aQ .mul (.i q x) (.i q y) h) (k n)) P := Ev.op (iL .mul _ rfl) H
theorem cAu (hl : s.length + t.length ≤ 9223372036854775807) (H : Ev (fun n => k n (.s (s ++ t)) h) P) : Ev (fun n => bnd (gU .add (.s s) (.s t) h) (k n)) P := by
 refine Ev.op (v := .s (s ++ t)) (h := h) ?_ H
 have e : ¬ (((s.length + t.length : Nat) : Int) > IntKind.i64.max) := by
  have : IntKind.i64.max = 9223372036854775807 := by rfl
  omega
 show (match zZ .add s t with
  | some v => some (v, h)
  | none => none) = _
 unfold zZ
 simp only [if_neg e]
end
abbrev Im := Pos → Option Ob
def ILe (I J : Im) : Prop := ∀ b o, I b = some o → J b = some o
theorem ILe.refl (I : Im) : ILe I I := fun _ _ h => h
theorem ILe.trans {I J K : Im} (a : ILe I J) (b : ILe J K) : ILe I K := fun x o h => b x o (a x o h)
abbrev Ls := List (Pos × Option Ob)
structure Sy (I : Im) (A Q L : Ls) (h : Hp) : Prop where
 wf : Wf h
 im : ∀ b o, I b = some o → h.bl.get b = some o
 loc : ∀ b o, (b, o) ∈ A ++ Q ++ L → h.bl.get b = o
 lt : ∀ b o, (b, o) ∈ A ++ Q ++ L → b.toNat < h.next.toNat
 nd : ((A ++ Q ++ L).map (·.1)).Nodup
 dj : ∀ b o, (b, o) ∈ A ++ Q ++ L → I b = none
theorem aDl {I : Im} {A Q L A' Q' L' : Ls} {h : Hp} (p : List.Perm (A ++ Q ++ L) (A' ++ Q' ++ L')) (S : Sy I A Q L h) : Sy I A' Q' L' h where
 wf := S.wf
 im := S.im
 loc := fun b o m => S.loc b o (p.mem_iff.2 m)
 lt := fun b o m => S.lt b o (p.mem_iff.2 m)
 nd := (p.map _).nodup_iff.1 S.nd
 dj := fun b o m => S.dj b o (p.mem_iff.2 m)
theorem bPa {I : Im} {A Q L A' Q' L' : Ls} {h : Hp} (p : List.Sublist (A' ++ Q' ++ L') (A ++ Q ++ L)) (S : Sy I A Q L h) : Sy I A' Q' L' h where
 wf := S.wf
 im := S.im
 loc := fun b o m => S.loc b o (p.subset m)
 lt := fun b o m => S.lt b o (p.subset m)
 nd := (p.map _).nodup S.nd
 dj := fun b o m => S.dj b o (p.subset m)
theorem Sy.dropL {I : Im} {A Q L : Ls} {e : Pos × Option Ob} {h : Hp} (S : Sy I A Q (e :: L) h) : Sy I A Q L h :=
 bPa (by rw [List.append_assoc, List.append_assoc]; exact (List.Sublist.refl _).append ((List.Sublist.refl _).append (List.sublist_cons_self _ _))) S
theorem cCy {I : Im} {A Q L : Ls} {e : Pos × Option Ob} {h : Hp} (S : Sy I A Q (e :: L) h) : Sy I A (Q ++ [e]) L h :=
 aDl (by simp) S
theorem cCz {I : Im} {A Q L : Ls} {e : Pos × Option Ob} {h : Hp} (S : Sy I A (Q ++ [e]) L h) : Sy I A Q (e :: L) h :=
 aDl (by simp) S
theorem Sy.add {I : Im} {A Q L : Ls} {h : Hp} (S : Sy I A Q L h) {h' : Hp} (o : Option Ob) (e1 : h'.next = h.next.succ) (e2 : ∀ b, h'.bl.get b = if b = h.next then o else h.bl.get b) : Sy I A Q ((h.next, o) :: L) h' := by
 have ne : ∀ b x, (b, x) ∈ A ++ Q ++ L → b ≠ h.next := fun b x m e => by
  have := S.lt b x m
  rw [e] at this
  omega
 have fresh : h.bl.get h.next = none := by
  cases e : h.bl.get h.next with
  | none => rfl
  | some o => exact absurd (S.wf _ _ e) (Nat.lt_irrefl _)
 have mem : ∀ b x, (b, x) ∈ A ++ Q ++ (h.next, o) :: L → (b = h.next ∧ x = o) ∨ (b, x) ∈ A ++ Q ++ L := fun b x m => by
  simp only [List.mem_append, List.mem_cons, bW] at m ⊢
  rcases m with (m | m) | (m | m)
  ·exact .inr (.inl (.inl m))
  ·exact .inr (.inl (.inr m))
  ·exact .inl m
  ·exact .inr (.inr m)
 have inone : I h.next = none := by
  cases e : I h.next with
  | none => rfl
  | some o => rw [S.im _ _ e] at fresh; cases fresh
 refine ⟨?_, ?_, ?_, ?_, ?_, ?_⟩
 ·intro b x e
  rw [e1, bZm]
  rw [e2] at e
  split at e
  ·rename_i hb; rw [hb]; omega
  ·have := S.wf b x e; omega
 ·intro b x e
  have hb : b ≠ h.next := fun e3 => by rw [e3, inone] at e; cases e
  rw [e2, if_neg hb]
  exact S.im b x e
 ·intro b x m
  rw [e2]
  rcases mem b x m with ⟨rfl, rfl⟩ | m
  ·rw [if_pos rfl]
  ·rw [if_neg (ne b x m)]; exact S.loc b x m
 ·intro b x m
  rw [e1, bZm]
  rcases mem b x m with ⟨rfl, rfl⟩ | m
  ·omega
  ·have := S.lt b x m; omega
 ·have p : List.Perm ((A ++ Q ++ (h.next, o) :: L).map (·.1)) (h.next :: (A ++ Q ++ L).map (·.1)) := by
   have : List.Perm (A ++ Q ++ (h.next, o) :: L) ((h.next, o) :: (A ++ Q ++ L)) := List.perm_middle
   exact this.map _
  rw [p.nodup_iff, List.nodup_cons]
  refine ⟨fun m => ?_, S.nd⟩
  obtain ⟨⟨b, x⟩, m, e⟩ := List.mem_map.1 m
  exact ne b x m e
 ·intro b x m
  rcases mem b x m with ⟨rfl, rfl⟩ | m
  ·exact inone
  ·exact S.dj b x m
theorem Sy.new {I : Im} {A Q L : Ls} {h : Hp} (S : Sy I A Q L h) (o : Ob) : Sy I A Q ((h.next, some o) :: L) (nw o h) :=
 S.add (some o) rfl (fun b => bZq o h.next b h.bl)
theorem Sy.res {I : Im} {A Q L : Ls} {h : Hp} (S : Sy I A Q L h) : Sy I A Q ((h.next, none) :: L) (gT 1 h) := by
 refine S.add none rfl (fun b => ?_)
 show h.bl.get b = _
 split
 ·rename_i hb
  rw [hb]
  cases e : h.bl.get h.next with
  | none => rfl
  | some o => exact absurd (S.wf _ _ e) (Nat.lt_irrefl _)
 ·rfl
inductive Rpl (b : Pos) (o o' : Option Ob) : Ls → Ls → Prop
 | head (L : Ls) : Rpl b o o' ((b, o) :: L) ((b, o') :: L)
 | tail (e : Pos × Option Ob) {L L' : Ls} : Rpl b o o' L L' → Rpl b o o' (e :: L) (e :: L')
theorem Rpl.keys {b : Pos} {o o' : Option Ob} {L L' : Ls} (r : Rpl b o o' L L') : L'.map (·.1) = L.map (·.1) := by
 induction r with
 | head L => rfl
 | tail e _ ih => simp [ih]
theorem Rpl.at {b : Pos} {o o' : Option Ob} {L L' : Ls} (r : Rpl b o o' L L') : (b, o) ∈ L ∧ (b, o') ∈ L' := by
 induction r with
 | head L => simp
 | tail e _ ih => simp [ih]
theorem Rpl.mem {b : Pos} {o o' : Option Ob} {L L' : Ls} (r : Rpl b o o' L L') (nd : (L.map (·.1)).Nodup) : ∀ c x, (c, x) ∈ L' → (c = b ∧ x = o') ∨ (c ≠ b ∧ (c, x) ∈ L) := by
 induction r with
 | head L =>
  intro c x m
  rcases List.mem_cons.1 m with m2 | m2
  ·cases m2; exact .inl ⟨rfl, rfl⟩
  ·refine .inr ⟨fun e => ?_, List.mem_cons_of_mem _ m2⟩
   subst e
   rw [List.map_cons, List.nodup_cons] at nd
   exact nd.1 (List.mem_map.2 ⟨_, m2, rfl⟩)
 | tail e r ih =>
  intro c x m
  rw [List.map_cons, List.nodup_cons] at nd
  rcases List.mem_cons.1 m with m | m
  ·subst m
   refine .inr ⟨fun e => ?_, by simp⟩
   subst e
   exact nd.1 (List.mem_map.2 ⟨_, r.at.1, rfl⟩)
  ·rcases ih nd.2 c x m with h | ⟨h1, h2⟩
   ·exact .inl h
   ·exact .inr ⟨h1, by simp [h2]⟩
theorem Sy.setAll {I : Im} {A Q L A' Q' L' : Ls} {h h' : Hp} {b : Pos} {o : Option Ob} {o' : Ob} (S : Sy I A Q L h) (r : Rpl b o (some o') (A ++ Q ++ L) (A' ++ Q' ++ L'))
 (e1 : h'.next = h.next) (e2 : ∀ c, h'.bl.get c = if c = b then some o' else h.bl.get c) : Sy I A' Q' L' h' := by
 have mem := r.mem S.nd
 have hb := S.lt b o r.at.1
 refine ⟨?_, ?_, ?_, ?_, ?_, ?_⟩
 ·intro c x e
  rw [e1]
  rw [e2] at e
  split at e
  ·rename_i hc; rw [hc]; exact hb
  ·exact S.wf c x e
 ·intro c x e
  have hc : c ≠ b := fun e3 => by rw [e3, S.dj b o r.at.1] at e; cases e
  rw [e2, if_neg hc]
  exact S.im c x e
 ·intro c x m
  rw [e2]
  rcases mem c x m with ⟨rfl, rfl⟩ | ⟨hc, m⟩
  ·rw [if_pos rfl]
  ·rw [if_neg hc]; exact S.loc c x m
 ·intro c x m
  rw [e1]
  rcases mem c x m with ⟨rfl, rfl⟩ | ⟨hc, m⟩
  ·exact hb
  ·exact S.lt c x m
 ·rw [r.keys]; exact S.nd
 ·intro c x m
  rcases mem c x m with ⟨rfl, rfl⟩ | ⟨hc, m⟩
  ·exact S.dj c o r.at.1
  ·exact S.dj c x m
theorem Rpl.left (A : Ls) {b : Pos} {o o' : Option Ob} {L L' : Ls} (r : Rpl b o o' L L') : Rpl b o o' (A ++ L) (A ++ L') := by
 induction A with
 | nil => exact r
 | cons e A ih => exact .tail e ih
theorem Rpl.right (A : Ls) {b : Pos} {o o' : Option Ob} {L L' : Ls} (r : Rpl b o o' L L') : Rpl b o o' (L ++ A) (L' ++ A) := by
 induction r with
 | head L => exact .head _
 | tail e _ ih => exact .tail e ih
theorem Sy.setL {I : Im} {A Q L L' : Ls} {h h' : Hp} {b : Pos} {o : Option Ob} {o' : Ob} (S : Sy I A Q L h) (r : Rpl b o (some o') L L')
 (e1 : h'.next = h.next) (e2 : ∀ c, h'.bl.get c = if c = b then some o' else h.bl.get c) : Sy I A Q L' h' := S.setAll (r.left _) e1 e2
theorem Sy.setQ {I : Im} {A Q Q' L : Ls} {h h' : Hp} {b : Pos} {o : Option Ob} {o' : Ob} (S : Sy I A Q L h) (r : Rpl b o (some o') Q Q')
 (e1 : h'.next = h.next) (e2 : ∀ c, h'.bl.get c = if c = b then some o' else h.bl.get c) : Sy I A Q' L h' := S.setAll ((r.left A).right L) e1 e2
theorem Sy.setA {I : Im} {A A' Q L : Ls} {h h' : Hp} {b : Pos} {o : Option Ob} {o' : Ob} (S : Sy I A Q L h) (r : Rpl b o (some o') A A')
 (e1 : h'.next = h.next) (e2 : ∀ c, h'.bl.get c = if c = b then some o' else h.bl.get c) : Sy I A' Q L h' := S.setAll ((r.right Q).right L) e1 e2
noncomputable def Im.put (I : Im) (b : Pos) (o : Ob) : Im := fun c => if c = b then some o else I c
theorem Sy.freeze {I : Im} {A Q L : Ls} {h : Hp} {b : Pos} {o : Ob} (S : Sy I A Q ((b, some o) :: L) h) : Sy (I.put b o) A Q L h ∧ ILe I (I.put b o) := by
 have hb : (b, some o) ∈ A ++ Q ++ (b, some o) :: L := by simp
 have S' := S.dropL
 have nb : ∀ c x, (c, x) ∈ A ++ Q ++ L → c ≠ b := by
  intro c x m e
  subst e
  have p : List.Perm ((A ++ Q ++ (c, some o) :: L).map (·.1)) (c :: (A ++ Q ++ L).map (·.1)) := (List.perm_middle (a := (c, some o)) (l₁ := A ++ Q) (l₂ := L)).map _
  have := p.nodup_iff.1 S.nd
  rw [List.nodup_cons] at this
  exact this.1 (List.mem_map.2 ⟨_, m, rfl⟩)
 refine ⟨⟨S.wf, ?_, S'.loc, S'.lt, S'.nd, ?_⟩, ?_⟩
 ·intro c x e
  unfold Im.put at e
  split at e
  ·rename_i hc; subst hc; cases e; exact S.loc _ _ hb
  ·exact S.im c x e
 ·intro c x m
  unfold Im.put
  rw [if_neg (nb c x m)]
  exact S'.dj c x m
 ·intro c x e
  have : c ≠ b := fun e2 => by rw [e2, S.dj b _ hb] at e; cases e
  unfold Im.put
  rw [if_neg this]
  exact e
theorem cAk (I : Im) (b : Pos) (o : Ob) : I.put b o b = some o := by simp [Im.put]
theorem Sy.memL {I : Im} {A Q L : Ls} {h : Hp} {b : Pos} {o : Ob} (S : Sy I A Q L h) (m : (b, some o) ∈ L) : h.bl.get b = some o := S.loc b _ (by simp [m])
theorem Sy.memQ {I : Im} {A Q L : Ls} {h : Hp} {b : Pos} {o : Ob} (S : Sy I A Q L h) (m : (b, some o) ∈ Q) : h.bl.get b = some o := S.loc b _ (by simp [m])
theorem Sy.memA {I : Im} {A Q L : Ls} {h : Hp} {b : Pos} {o : Ob} (S : Sy I A Q L h) (m : (b, some o) ∈ A) : h.bl.get b = some o := S.loc b _ (by simp [m])
section
variable {I : Im} {A Q L L' Q' : Ls} {h : Hp} {k : Nat → DV → Hp → aG} {P : DV → Hp → Prop} {b : Pos} {kd : Kind} {l l' cs : List DV} {o n : Nat} {v : DV}
theorem Ev.new (S : Sy I A Q L h) (H : ∀ b h', Sy I A Q ((b, some (.row .ex cs)) :: L) h' → Ev (fun n => k n (.p b 0) h') P) : Ev (fun n => bnd (cJ cs h) (k n)) P :=
 Ev.op (bTt cs h) (H _ _ (S.new _))
theorem Ev.box (S : Sy I A Q L h) (e : cF v = some cs) (H : ∀ b h', Sy I A Q ((b, some (.row .ex cs)) :: L) h' → Ev (fun n => k n (.p b 0) h') P) : Ev (fun n => bnd (iB v h) (k n)) P := by
 have e2 : iB v h = cJ cs h := by unfold iB; rw [e]
 rw [e2]
 exact Ev.new S H
theorem cCj (hg : h.bl.get b = some (.row kd l)) (e : l[o]? = some v) (hv : v.one = true) (H : Ev (fun n => k n v h) P) : Ev (fun n => bnd (aB (.p b o) h) (k n)) P := Ev.op (ld1 hg e hv) H
theorem cAx (S : Sy I A Q L h) (m : (b, some (.row kd l)) ∈ L) (e : l[o]? = some v) (hv : v.one = true) (H : Ev (fun n => k n v h) P) : Ev (fun n => bnd (aB (.p b o) h) (k n)) P := cCj (S.memL m) e hv H
theorem cDa (S : Sy I A Q L h) (m : (b, some (.row kd l)) ∈ Q) (e : l[o]? = some v) (hv : v.one = true) (H : Ev (fun n => k n v h) P) : Ev (fun n => bnd (aB (.p b o) h) (k n)) P := cCj (S.memQ m) e hv H
theorem cDb (hg : h.bl.get b = some (.row kd l)) (e : iZ n (l.drop o) = some cs) (H : Ev (fun n => k n (.a cs) h) P) : Ev (fun m => bnd (aD n (.p b o) h) (k m)) P := Ev.op (ldA hg e) H
theorem uE (h1 : l.length = n) (h2 : ∀ v ∈ l, v.one = true) : iZ n (l.drop 0) = some l := by
 subst h1; simpa using wY l h2
theorem cBg (S : Sy I A Q L h) (m : (b, some (.row kd l)) ∈ L) (h1 : l.length = n) (h2 : ∀ v ∈ l, v.one = true) (H : Ev (fun n => k n (.a l) h) P) : Ev (fun m => bnd (aD n (.p b 0) h) (k m)) P := cDb (S.memL m) (uE h1 h2) H
theorem aNq {kw : Kind} (hk : kw.writable = true) (hg : h.bl.get b = some (.row kw l)) (h1 : l.length = n) (h2 : ∀ v ∈ l, v.one = true) (h3 : l'.length = n) (h4 : ∀ v ∈ l', v.one = true) :
 aC n (.p b 0) (.a l') h = some (dK, ⟨h.next, Tr.set (.row kw l') b h.bl⟩) := by
 have hp : jS 0 l l' = some l' := aEm l l' (by omega) h2 h4
 simp [aC, cF, h3, hZ, hg, hk, hp]
theorem cCu (S : Sy I A Q L h) (r : Rpl b (some (.row .ex l)) (some (.row .ex l')) L L') (h1 : l.length = n) (h2 : ∀ v ∈ l, v.one = true) (h3 : l'.length = n) (h4 : ∀ v ∈ l', v.one = true)
 (H : ∀ h', Sy I A Q L' h' → Ev (fun n => k n dK h') P) : Ev (fun m => bnd (aC n (.p b 0) (.a l') h) (k m)) P :=
 Ev.op (aNq rfl (S.memL r.at.1) h1 h2 h3 h4) (H _ (S.setL r rfl (fun c => bZq _ _ _ _)))
theorem wP (hv : v.one = true) : cF v = some [v] := by
 cases v <;> first | rfl | cases hv
theorem aBv : ∀ (o : Nat) (l : List DV), (∃ x, l[o]? = some x ∧ x.one = true) → v.one = true → jS o l [v] = some (l.set o v)
 | 0, [], h, _ => by obtain ⟨x, h, _⟩ := h; simp at h
 | 0, x :: l, h, hv => by
  obtain ⟨y, h1, h2⟩ := h
  simp at h1
  subst h1
  simp [jS, qD, hv, h2]
 | o + 1, [], h, _ => by obtain ⟨x, h, _⟩ := h; simp at h
 | o + 1, x :: l, h, hv => by
  have := aBv o l (by simpa using h) hv
  simp [jS, this]
theorem wO {kw : Kind} (hk : kw.writable = true) (hg : h.bl.get b = some (.row kw l)) (h1 : ∃ x, l[o]? = some x ∧ x.one = true) (hv : v.one = true) :
 aC 1 (.p b o) v h = some (dK, ⟨h.next, Tr.set (.row kw (l.set o v)) b h.bl⟩) := by
 simp [aC, wP hv, hZ, hg, hk, aBv o l h1 hv]
theorem cDc (S : Sy I A Q L h) (r : Rpl b (some (.row .ex l)) (some (.row .ex l')) L L') (e : l.set o v = l') (h1 : ∃ x, l[o]? = some x ∧ x.one = true) (hv : v.one = true)
 (H : ∀ h', Sy I A Q L' h' → Ev (fun n => k n dK h') P) : Ev (fun m => bnd (aC 1 (.p b o) v h) (k m)) P := by
 subst e
 exact Ev.op (wO rfl (S.memL r.at.1) h1 hv) (H _ (S.setL r rfl (fun c => bZq _ _ _ _)))
theorem cDd (S : Sy I A Q L h) (r : Rpl b (some (.row .ex l)) (some (.row .ex l')) Q Q') (e : l.set o v = l') (h1 : ∃ x, l[o]? = some x ∧ x.one = true) (hv : v.one = true)
 (H : ∀ h', Sy I A Q' L h' → Ev (fun n => k n dK h') P) : Ev (fun m => bnd (aC 1 (.p b o) v h) (k m)) P := by
 subst e
 exact Ev.op (wO rfl (S.memQ r.at.1) h1 hv) (H _ (S.setQ r rfl (fun c => bZq _ _ _ _)))
theorem cAb (S : Sy I A Q L h) {z : List DV} {ps : List (Nat × Nat × DV)} (e : cM z ps = some cs) (H : ∀ b h', Sy I A Q ((b, some (.row .ex cs)) :: L) h' → Ev (fun m => k m (.l b 0 n n) h') P) : Ev (fun m => bnd (aO z n ps h) (k m)) P := by
 refine Ev.op (v := .l h.next 0 n n) (h := nw (.row .ex cs) h) ?_ (H _ _ (S.new _))
 unfold aO
 rw [e]
 rfl
theorem cCv (S : Sy I A Q L h) {z : List DV} {ps : List (Nat × Nat × DV)} (r : Rpl b none (some (.row .ex cs)) L L') (e : cM z ps = some cs)
 (H : ∀ h', Sy I A Q L' h' → Ev (fun m => k m (.l b 0 n n) h') P) : Ev (fun m => bnd (aY b z n ps h) (k m)) P := by
 refine Ev.op (v := .l b 0 n n) (h := ⟨h.next, Tr.set (.row .ex cs) b h.bl⟩) ?_ (H _ (S.setL r rfl (fun c => bZq _ _ _ _)))
 unfold aY
 rw [e]
theorem cDe {z : List DV} {ps : List (Nat × Nat × DV)} (e : cM z ps = some cs) (H : Ev (fun n => k n (.a cs) h) P) : Ev (fun n => bnd (cS z ps h) (k n)) P := by
 refine Ev.op (v := .a cs) (h := h) ?_ H
 unfold cS
 rw [e]
theorem bIj {S : Sy I A Q L h} (m : (b, some (.row kd l)) ∈ L) (e : l[o]? = some v) (hv : v.one = true) (hb : DV.beq v v = true) : bX (aB (.p b o) h) v = true := by
 rw [ld1 (S.memL m) e hv]; exact hb
end
end Go.Dd

namespace Go.Dd
open Go.Proofs Go.RowKit
theorem cCo : Sy (fun _ => none) [] [] [] h00 where
 wf := fun b o e => by cases b <;> cases e
 im := fun b o e => by cases e
 loc := fun b o m => by simp at m
 lt := fun b o m => by simp at m
 nd := by simp
 dj := fun b o m => by simp at m
theorem aTz {f : FuncId} {s : ByteArray} {F : Nat → aG} (e : ∀ n, aM CF (mJ 10 true n) n f [.s (s.data.toList.map (·.toNat))] h00 = F n) (H : Ev F (fun v _ => v = .b true)) (fn : Func) (hf : Tryz.prog.funcs[f]? = some fn) (hb : fn.body.isSome = true) (w : World) (W : Facts w) :
 Calls Tryz.prog f #[.string s] w fun e w' => e = .returned (.bool true) ∧ Below w.heap.size w w' := by
 obtain ⟨v, h1, N, rfl, hN⟩ := H
 have hr := (e N).trans (hN N (Nat.le_refl _))
 obtain ⟨hl, el⟩ := bEq
 rcases aJx (bEi el Tryz.f10 Tryz.func10 (by kernel_rfl)) Try_ok N f _ h00 _ h1 hr _ w #[.string s] ((Ro.none w).hr W) (.cons _ _ _ _ (.s _ s rfl) .nil) with ⟨_, h⟩ | ⟨ρ', w', v', h, _⟩
 ·refine h.mono ?_
  rintro e w' ⟨ρ', v', rfl, h2, h3, h4, h5⟩
  cases h3
  exact ⟨rfl, h5.low⟩
 ·exfalso
  have hf' : CF.P.funcs[f]? = some fn := hf
  have hn : ¬ fn.name = "runtime.NumGoroutine" := by simpa using Try_ok.names f fn hf'
  have hbn : fn.body ≠ none := by intro e; rw [e] at hb; cases hb
  unfold callFunc at h
  simp [hf', hn, hbn] at h
theorem aXp (s : ByteArray) : ∀ c ∈ s.data.toList.map (·.toNat), c < 256 := by
 intro c hc
 obtain ⟨b, _, rfl⟩ := List.mem_map.1 hc
 exact b.toNat_lt
end Go.Dd

namespace Go.Dd
open Go.Proofs
def bQ : Nat := 100000000000
structure Tok where
 kind : Int
 text : List Nat
 num : Int
 pos : Int
def tc (t : Tok) : List DV := [.i .i64 t.kind, .s t.text, .i .i64 t.num, .i .i64 t.pos]
inductive Node where
 | mk (kind : Int) (text : List Nat) (num : Int) (names temps : List (List Nat)) (kids : List Node)
def Fz (I : Im) (sz : Nat) (s : DV) (len : Nat) (cells : List DV) : Prop :=
 ((s = .l0 ∨ s = .le) ∧ len = 0 ∧ cells = []) ∨
   ∃ (b : Pos) (o cap : Nat) (k : Kind) (row rest : List DV), s = .l b o len cap ∧ len ≤ cap ∧ I b = some (.row k row) ∧ row.drop o = cells ++ rest ∧ cells.length = len * sz ∧ ∀ v ∈ cells, v.one = true
theorem Fz.mono {I J : Im} (g : ILe I J) {sz : Nat} {s : DV} {len : Nat} {cells : List DV} (H : Fz I sz s len cells) : Fz J sz s len cells := by
 rcases H with H | ⟨b, o, cap, k, row, rest, h1, h2, h3, h4⟩
 ·exact .inl H
 ·exact .inr ⟨b, o, cap, k, row, rest, h1, h2, g _ _ h3, h4⟩
theorem Fz.one {I : Im} {sz : Nat} {s : DV} {len : Nat} {cells : List DV} (H : Fz I sz s len cells) : s.one = true := by
 rcases H with ⟨rfl | rfl, _⟩ | ⟨b, o, cap, k, row, rest, rfl, _⟩ <;> rfl
theorem Fz.beq {I : Im} {sz : Nat} {s : DV} {len : Nat} {cells : List DV} (H : Fz I sz s len cells) : DV.beq s s = true := by
 rcases H with ⟨rfl | rfl, _⟩ | ⟨b, o, cap, k, row, rest, rfl, _⟩
 ·rfl
 ·rfl
 ·simp [DV.beq]
theorem Fz.len {I : Im} {sz : Nat} {s : DV} {len : Nat} {cells : List DV} (H : Fz I sz s len cells) (h : Hp) : fS s h = some (.i .i64 (len : Int), h) := by
 rcases H with ⟨rfl | rfl, rfl, _⟩ | ⟨b, o, cap, k, row, rest, rfl, _⟩ <;> rfl
theorem Fz.at {I : Im} {sz : Nat} {s : DV} {len : Nat} {cells : List DV} (H : Fz I sz s len cells) {A Q L : Ls} {h : Hp} (S : Sy I A Q L h) {i : Nat} (hi : i < len) :
 ∃ b o, (∀ h', aT sz s (.i .i64 (i : Int)) h' = some (.p b o, h')) ∧ ∃ k row, h.bl.get b = some (.row k row) ∧ ∃ rest, row.drop o = cells.drop (i * sz) ++ rest := by
 rcases H with ⟨_, rfl, _⟩ | ⟨b, o, cap, k, row, rest, rfl, h2, h3, h4, h5, h6⟩
 ·omega
 ·refine ⟨b, o + i * sz, fun h' => ?_, k, row, S.im _ _ h3, rest, ?_⟩
  ·show (if 0 ≤ (i : Int) ∧ (i : Int) < (len : Int) then some (DV.p b (o + (i : Int).toNat * sz), h') else none) = _
   rw [if_pos ⟨by omega, by omega⟩]
   rfl
  ·have : i * sz ≤ cells.length := by rw [h5]; exact Nat.mul_le_mul_right _ (by omega)
   rw [← List.drop_drop, h4, List.drop_append_of_le_length this]
theorem Fz.tail {I : Im} {sz : Nat} {s : DV} {len : Nat} {cells : List DV} (H : Fz I sz s len cells) {A Q L : Ls} {h : Hp} (S : Sy I A Q L h) {i : Nat} (hi : i < len) :
 ∃ s', dB sz s (some (.i .i64 (Int.ofNat i))) none h = some (s', h) ∧ Fz I sz s' (len - i) (cells.drop (i * sz)) := by
 rcases H with ⟨_, rfl, _⟩ | ⟨b, o, cap, k, row, rest, rfl, h2, h3, h4, h5, h6⟩
 ·omega
 ·have hle : i * sz ≤ cells.length := by rw [h5]; exact Nat.mul_le_mul_right _ (by omega)
  have hd : row.drop (o + i * sz) = cells.drop (i * sz) ++ rest := by
   rw [← List.drop_drop, h4, List.drop_append_of_le_length hle]
  refine ⟨.l b (o + i * sz) (len - i) (cap - i), ?_, .inr ⟨b, o + i * sz, cap - i, k, row, rest, rfl, by omega, h3, hd, ?_, fun v hv => h6 v (List.mem_of_mem_drop hv)⟩⟩
  ·have e1 : hiD none len cap = some len := by simp [hiD, h2]
   have e2 : loD (some (.i .i64 (Int.ofNat i))) len = some i := by
    show (if 0 ≤ (Int.ofNat i) ∧ (Int.ofNat i) ≤ (len : Int) then some (Int.ofNat i).toNat else none) = _
    have hi' : (Int.ofNat i) = (i : Int) := rfl
    rw [if_pos ⟨by omega, by omega⟩]
    rfl
   have hne : ¬ cap = i := by omega
   unfold dB
   simp only [e1, e2, S.im _ _ h3]
   cases k <;> simp [hne]
  ·rw [List.length_drop, h5, Nat.sub_mul]
def Gr (I : Im) (sz : Nat) (A : Ls) (s : DV) (len : Nat) (cells : List DV) : Prop :=
 cells.length = len * sz ∧ (∀ v ∈ cells, v.one = true) ∧
  ((A = [] ∧ s = .l0 ∧ len = 0) ∨ (A = [] ∧ ∃ b, s = .l b 0 len len ∧ I b = some (.row .ex cells)) ∨ ∃ b, A = [(b, some (.row (.gr sz) cells))] ∧ s = .l b 0 len len)
theorem Gr.nil (I : Im) (sz : Nat) : Gr I sz [] .l0 0 [] := ⟨by simp, by simp, .inl ⟨rfl, rfl, rfl⟩⟩
theorem Gr.one {I : Im} {sz : Nat} {A : Ls} {s : DV} {len : Nat} {cells : List DV} (H : Gr I sz A s len cells) : s.one = true := by
 obtain ⟨_, _, ⟨_, rfl, _⟩ | ⟨_, b, rfl, _⟩ | ⟨b, _, rfl⟩⟩ := H <;> rfl
theorem Gr.beq {I : Im} {sz : Nat} {A : Ls} {s : DV} {len : Nat} {cells : List DV} (H : Gr I sz A s len cells) : DV.beq s s = true := by
 obtain ⟨_, _, ⟨_, rfl, _⟩ | ⟨_, b, rfl, _⟩ | ⟨b, _, rfl⟩⟩ := H
 ·rfl
 ·simp [DV.beq]
 ·simp [DV.beq]
theorem Gr.len {I : Im} {sz : Nat} {A : Ls} {s : DV} {len : Nat} {cells : List DV} (H : Gr I sz A s len cells) (h : Hp) : fS s h = some (.i .i64 (len : Int), h) := by
 obtain ⟨_, _, ⟨_, rfl, rfl⟩ | ⟨_, b, rfl, _⟩ | ⟨b, _, rfl⟩⟩ := H <;> rfl
theorem Gr.mono {I J : Im} (g : ILe I J) {sz : Nat} {A : Ls} {s : DV} {len : Nat} {cells : List DV} (H : Gr I sz A s len cells) : Gr J sz A s len cells := by
 obtain ⟨h1, h2, h3 | ⟨h3, b, h4, h5⟩ | h3⟩ := H
 ·exact ⟨h1, h2, .inl h3⟩
 ·exact ⟨h1, h2, .inr (.inl ⟨h3, b, h4, g _ _ h5⟩)⟩
 ·exact ⟨h1, h2, .inr (.inr h3)⟩
theorem iH (x rest : List DV) (n : Nat) (hn : x.length = n) (ho : ∀ v ∈ x, v.one = true) : iZ n (x ++ rest) = some x := by
 subst hn
 induction x with
 | nil => simp [iZ]
 | cons y x ih => simp [iZ, ho y (by simp), ih (fun v hv => ho v (by simp [hv]))]
theorem Gr.app {I : Im} {sz bytes : Nat} {A A0 Q L : Ls} {s : DV} {len : Nat} {cells : List DV} (H : Gr I sz A s len cells) {h : Hp} (S : Sy I (A ++ A0) Q L h) {x : DV} {n : Nat} {new : List DV} (hs : nC sz x h = some (n, new))
 (h1 : new.length = n * sz) (h2 : ∀ v ∈ new, v.one = true) (hn : n ≠ 0) (hb : (len + n) * bytes ≤ gW) :
 ∃ s' h' A', bH sz bytes s x h = some (s', h') ∧ Sy I (A' ++ A0) Q L h' ∧ Gr I sz A' s' (len + n) (cells ++ new) := by
 obtain ⟨g1, g2, g3⟩ := H
 have l' : (cells ++ new).length = (len + n) * sz := by rw [List.length_append, g1, h1, Nat.add_mul]
 have o' : ∀ v ∈ cells ++ new, v.one = true := fun v hv => by
  rcases List.mem_append.1 hv with hv | hv
  ·exact g2 v hv
  ·exact h2 v hv
 have mv : ∀ {e : Pos × Option Ob} {h' : Hp}, Sy I A0 Q (e :: L) h' → Sy I ([e] ++ A0) Q L h' := @fun e h' S => aDl (by
  have : List.Perm (A0 ++ Q ++ e :: L) (e :: (A0 ++ Q ++ L)) := List.perm_middle
  simpa [aJ] using this) S
 rcases g3 with ⟨rfl, rfl, rfl⟩ | ⟨rfl, b, rfl, hI⟩ | ⟨b, rfl, rfl⟩
 ·have hc : cells = [] := by simpa using g1
  subst hc
  refine ⟨.l h.next 0 n n, nw (.row (.gr sz) new) h, [(h.next, some (.row (.gr sz) new))], ?_, mv (Sy.new (by simpa using S) _), ?_⟩
  ·unfold bH
   simp only [hs, if_neg hn]
   rw [Nat.zero_add] at hb
   rw [if_pos hb]
   rfl
  ·simp only [Nat.zero_add, List.nil_append]
   exact ⟨by simpa using l', by simpa using o', .inr (.inr ⟨_, rfl, rfl⟩)⟩
 ·have hg := S.im _ _ hI
  have hc : eI b 0 (len * sz) h = some cells := by
   simp only [eI, lT, hg, List.drop_zero]
   have := iH cells [] (len * sz) g1 g2
   simpa [aJ] using this
  refine ⟨.l h.next 0 (len + n) (len + n), nw (.row (.gr sz) (cells ++ new)) h, [(h.next, some (.row (.gr sz) (cells ++ new)))], ?_, mv (Sy.new (by simpa using S) _), l', o', .inr (.inr ⟨_, rfl, rfl⟩)⟩
  unfold bH
  simp only [hs]
  rw [if_neg (by omega)]
  simp only [hg, hc]
  rw [if_pos hb]
  rfl
 ·have hg := S.memA (b := b) (o := .row (.gr sz) cells) (by simp)
  have hc : eI b 0 (len * sz) h = some cells := by
   simp only [eI, lT, hg, List.drop_zero]
   have := iH cells [] (len * sz) g1 g2
   simpa [aJ] using this
  let h1 : Hp := ⟨h.next, Tr.set (.row .sp (cD 0 cells)) b h.bl⟩
  have S1 : Sy I ((b, some (.row .sp (cD 0 cells))) :: A0) Q L h1 := S.setA (Rpl.head A0) rfl (fun c => bZq _ _ _ _)
  have S2 := S1.new (.row (.gr sz) (cells ++ new))
  have S3 : Sy I ([(h.next, some (.row (.gr sz) (cells ++ new)))] ++ A0) Q L (nw (.row (.gr sz) (cells ++ new)) h1) := by
   have S4 : Sy I A0 Q ((h1.next, some (.row (.gr sz) (cells ++ new))) :: L) (nw (.row (.gr sz) (cells ++ new)) h1) :=
    bPa (by simp) S2
   exact mv S4
  refine ⟨.l h.next 0 (len + n) (len + n), _, _, ?_, S3, l', o', .inr (.inr ⟨_, rfl, rfl⟩)⟩
  unfold bH
  simp only [hs]
  rw [if_neg (by omega)]
  simp only [hg, hc]
  rw [if_pos hb]
  have e3 : 0 + len * sz = cells.length := by rw [g1]; omega
  simp only [e3, and_self, if_true]
  rfl
theorem Gr.freeze {I : Im} {sz : Nat} {A A0 Q L : Ls} {s : DV} {len : Nat} {cells : List DV} (H : Gr I sz A s len cells) {h : Hp} (S : Sy I (A ++ A0) Q L h) : ∃ J, ILe I J ∧ Sy J A0 Q L h ∧ Fz J sz s len cells := by
 obtain ⟨g1, g2, g3⟩ := H
 rcases g3 with ⟨rfl, rfl, rfl⟩ | ⟨rfl, b, rfl, hI⟩ | ⟨b, rfl, rfl⟩
 ·have hc : cells = [] := by simpa using g1
  exact ⟨I, ILe.refl _, by simpa using S, .inl ⟨.inl rfl, rfl, hc⟩⟩
 ·exact ⟨I, ILe.refl _, by simpa using S, .inr ⟨b, 0, len, .ex, cells, [], rfl, Nat.le_refl _, hI, by simp, g1, g2⟩⟩
 ·have S1 : Sy I A0 Q ((b, some (.row (.gr sz) cells)) :: L) h := aDl (by
   have : List.Perm (A0 ++ Q ++ (b, some (Ob.row (.gr sz) cells)) :: L) ((b, some (Ob.row (.gr sz) cells)) :: (A0 ++ Q ++ L)) := List.perm_middle
   simpa [aJ] using this.symm) S
  obtain ⟨S2, g⟩ := S1.freeze
  exact ⟨_, g, S2, .inr ⟨b, 0, len, .gr sz, cells, [], rfl, Nat.le_refl _, cAk _ _ _, by simp, g1, g2⟩⟩
theorem Fz.built {I : Im} {sz : Nat} {A Q L : Ls} {b : Pos} {n : Nat} {cells : List DV} {h : Hp} (S : Sy I A Q ((b, some (.row .ex cells)) :: L) h) (h1 : cells.length = n * sz) (h2 : ∀ v ∈ cells, v.one = true) :
 ∃ J, ILe I J ∧ Sy J A Q L h ∧ Fz J sz (.l b 0 n n) n cells ∧ Gr J sz [] (.l b 0 n n) n cells := by
 obtain ⟨S2, g⟩ := S.freeze
 exact ⟨_, g, S2, .inr ⟨b, 0, n, .ex, cells, [], rfl, Nat.le_refl _, cAk _ _ _, by simp, h1, h2⟩, h1, h2, .inr (.inl ⟨rfl, b, rfl, cAk _ _ _⟩)⟩
theorem Fz.src {I : Im} {sz : Nat} {s : DV} {len : Nat} {cells : List DV} (H : Fz I sz s len cells) {A Q L : Ls} {h : Hp} (S : Sy I A Q L h) : nC sz s h = some (len, cells) := by
 rcases H with ⟨rfl | rfl, rfl, rfl⟩ | ⟨b, o, cap, k, row, rest, rfl, h2, h3, h4, h5, h6⟩
 ·rfl
 ·rfl
 ·have : eI b o (len * sz) h = some cells := by
   simp only [eI, lT, S.im _ _ h3, h4]
   exact iH cells rest (len * sz) h5 h6
  simp [nC, this]
theorem oQ {I : Im} {sz : Nat} {A Q L : Ls} {h : Hp} (S : Sy I A Q L h) {b : Pos} {n : Nat} {cells : List DV} (m : (b, some (.row .ex cells)) ∈ L) (h1 : cells.length = n * sz) (h2 : ∀ v ∈ cells, v.one = true) : nC sz (.l b 0 n n) h = some (n, cells) := by
 have : eI b 0 (n * sz) h = some cells := by
  simp only [eI, lT, S.memL m, List.drop_zero]
  have := iH cells [] (n * sz) h1 h2
  simpa [aJ] using this
 simp [nC, this]
def SS (I : Im) (s : DV) (l : List (List Nat)) : Prop := l.length ≤ bQ ∧ Fz I 1 s l.length (l.map .s)
def TS' (I : Im) (s : DV) (l : List Tok) : Prop := l.length ≤ bQ ∧ Fz I 4 s l.length (l.map tc).flatten
mutual
def NV (I : Im) : Node → List DV → Prop
 | .mk k t m ns ts ks, cs => ∃ s1 s2 s3, cs = [.i .i64 k, .s t, .i .i64 m, s1, s2, s3] ∧ SS I s1 ns ∧ SS I s2 ts ∧ ks.length ≤ bQ ∧ ∃ cells, Fz I 6 s3 ks.length cells ∧ NVL I ks cells
def NVL (I : Im) : List Node → List DV → Prop
 | [], cells => cells = []
 | x :: l, cells => ∃ c rest, cells = c ++ rest ∧ NV I x c ∧ NVL I l rest
end
def NS (I : Im) (s : DV) (ks : List Node) : Prop := ks.length ≤ bQ ∧ ∃ cells, Fz I 6 s ks.length cells ∧ NVL I ks cells
theorem SS.mono {I J : Im} (g : ILe I J) {s : DV} {l : List (List Nat)} (H : SS I s l) : SS J s l := ⟨H.1, H.2.mono g⟩
theorem TS'.mono {I J : Im} (g : ILe I J) {s : DV} {l : List Tok} (H : TS' I s l) : TS' J s l := ⟨H.1, H.2.mono g⟩
mutual
theorem NV.mono {I J : Im} (g : ILe I J) : ∀ {x : Node} {cs : List DV}, NV I x cs → NV J x cs
 | .mk k t m ns ts ks, cs, ⟨s1, s2, s3, e, a, b, c, cells, f, n⟩ => ⟨s1, s2, s3, e, a.mono g, b.mono g, c, cells, f.mono g, NVL.mono g n⟩
theorem NVL.mono {I J : Im} (g : ILe I J) : ∀ {l : List Node} {cells : List DV}, NVL I l cells → NVL J l cells
 | [], _, e => e
 | x :: l, _, ⟨c, rest, e, a, b⟩ => ⟨c, rest, e, NV.mono g a, NVL.mono g b⟩
end
theorem NS.mono {I J : Im} (g : ILe I J) {s : DV} {l : List Node} (H : NS I s l) : NS J s l := by
 obtain ⟨a, cells, b, c⟩ := H
 exact ⟨a, cells, b.mono g, c.mono g⟩
theorem NV.shape {I : Im} {x : Node} {cs : List DV} (H : NV I x cs) : cs.length = 6 ∧ (∀ v ∈ cs, v.one = true) ∧ DV.beq (.a cs) (.a cs) = true := by
 cases x with
 | mk k t m ns ts ks =>
  obtain ⟨s1, s2, s3, rfl, a, b, c, cells, f, n⟩ := H
  have o1 := a.2.one
  have o2 := b.2.one
  have o3 := f.one
  refine ⟨rfl, ?_, ?_⟩
  ·intro v hv
   simp only [List.mem_cons, List.not_mem_nil, or_false] at hv
   rcases hv with rfl | rfl | rfl | rfl | rfl | rfl
   ·rfl
   ·rfl
   ·rfl
   ·exact o1
   ·exact o2
   ·exact o3
  ·have e : uN t t = true := by rw [lS]
   simp [DV.beq, cAm, e, a.2.beq, b.2.beq, f.beq]
theorem NVL.shape {I : Im} : ∀ {l : List Node} {cells : List DV}, NVL I l cells → cells.length = l.length * 6 ∧ ∀ v ∈ cells, v.one = true
 | [], _, e => by
  have e : _ = [] := e
  subst e; simp
 | x :: l, _, ⟨c, rest, e, a, b⟩ => by
  obtain ⟨h1, h2⟩ := NVL.shape b
  obtain ⟨h3, h4, _⟩ := a.shape
  subst e
  refine ⟨by rw [List.length_append, h1, h3, List.length_cons]; omega, fun v hv => ?_⟩
  rcases List.mem_append.1 hv with hv | hv
  ·exact h4 v hv
  ·exact h2 v hv
theorem NVL.app {I : Im} : ∀ {l l' : List Node} {c c' : List DV}, NVL I l c → NVL I l' c' → NVL I (l ++ l') (c ++ c')
 | [], l', c, c', e, H => by
  have e : c = [] := e
  subst e; simpa using H
 | x :: l, l', _, c', ⟨c, rest, e, a, b⟩, H => by
  subst e
  exact ⟨c, rest ++ c', by simp, a, NVL.app b H⟩
theorem bZn {I : Im} {x : Node} {c : List DV} (H : NV I x c) : NVL I [x] c := ⟨c, [], by simp, H, rfl⟩
theorem NVL.drop {I : Im} : ∀ {l : List Node} {c : List DV} (i : Nat), NVL I l c → NVL I (l.drop i) (c.drop (i * 6))
 | l, c, 0, H => by simpa using H
 | [], c, i + 1, e => by
  have e : c = [] := e
  subst e; simp; rfl
 | x :: l, _, i + 1, ⟨c, rest, e, a, b⟩ => by
  subst e
  have := NVL.drop i b
  rw [List.drop_succ_cons, show (i + 1) * 6 = c.length + i * 6 by rw [a.shape.1]; omega, ← List.drop_drop, List.drop_left]
  exact this
theorem aBi : ∀ (l : List Tok) (i : Nat), (l.map tc).flatten.drop (i * 4) = ((l.drop i).map tc).flatten
 | l, 0 => by simp
 | [], i + 1 => by simp
 | t :: l, i + 1 => by
  have := aBi l i
  rw [List.map_cons, List.flatten_cons, List.drop_succ_cons, show (i + 1) * 4 = (tc t).length + i * 4 by simp [tc]; omega, ← List.drop_drop, List.drop_left]
  exact this
theorem TS'.tail {I : Im} {s : DV} {l : List Tok} (H : TS' I s l) {A Q L : Ls} {h : Hp} (S : Sy I A Q L h) {i : Nat} (hi : i < l.length) :
 ∃ s', dB 4 s (some (.i .i64 (Int.ofNat i))) none h = some (s', h) ∧ TS' I s' (l.drop i) := by
 obtain ⟨s', e, f⟩ := H.2.tail S hi
 refine ⟨s', e, ?_, ?_⟩
 ·have := H.1
  simp; omega
 ·rw [aBi] at f
  simpa using f
theorem TS'.at {I : Im} {s : DV} {l : List Tok} (H : TS' I s l) {A Q L : Ls} {h : Hp} (S : Sy I A Q L h) {i : Nat} {t : Tok} (hi : l[i]? = some t) :
 ∃ b o, (∀ h', aT 4 s (.i .i64 (i : Int)) h' = some (.p b o, h')) ∧ aD 4 (.p b o) h = some (.a (tc t), h) := by
 obtain ⟨hlt, hg⟩ := List.getElem?_eq_some_iff.1 hi
 obtain ⟨b, o, e, k, row, g, rest, d⟩ := H.2.at S hlt
 refine ⟨b, o, e, ldA g ?_⟩
 rw [d, aBi, jI hi, List.map_cons, List.flatten_cons, List.append_assoc]
 refine iH (tc t) _ 4 rfl ?_
 intro v hv
 simp only [tc, List.mem_cons, List.not_mem_nil, or_false] at hv
 rcases hv with rfl | rfl | rfl | rfl <;> rfl
end Go.Dd

