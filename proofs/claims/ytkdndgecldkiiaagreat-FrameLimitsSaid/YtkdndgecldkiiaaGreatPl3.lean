/- A part of the proof: Q10 Q11 Q12 Q13 Q14 Q15 Q16 Qt: each text has a comment of its own. -/
import Derived.Test.YtkdndgecldkiiaaGreatPl2
set_option linter.unusedVariables false
set_option linter.unusedSimpArgs false
set_option linter.constructorNameAsVariable false
set_option maxRecDepth 100000
namespace Go.Dd
open Go.Proofs
variable (r : RT) (n : Nat) (args : List DV) (h : Hp)
noncomputable def eZ (r : RT) (n : Nat) (h0 : Hp) : aK :=
 some ((.i .i64 (Int.negSucc 0)), h0)
noncomputable def bIv (r : RT) (n : Nat) (kk4 : dB) (x0 x1 x7 x8 : DV) (h0 : Hp) : aK :=
 bnd (aF .lss x8 x7 h0) fun v1 h1 =>
 aU v1 (
 bnd (aI 4 x0 x8 h1) fun v2 h2 =>
 bnd (aH 4 v2 h2) fun v3 h3 =>
 bnd (cK CF r x1 [v3] h3) fun v4 h4 =>
 aU v4 (
 some (x8, h4)) (
 bnd (aF .add x8 (aC 1) h4) fun v5 h5 =>
    kk4 x0 x1 x7 v5 h5)) (
      eZ r n h1)
noncomputable def tV (r : RT) (n : Nat) (m : Nat) : dB :=
 Nat.rec (motive := fun _ => dB) (fun _ _ _ _ _ => none) (fun _ ih => bIv r n ih) m
noncomputable def bVu (r : RT) (n : Nat) : dB := tV r n n
noncomputable def aTd (r : RT) (n : Nat) (x0 x1 x7 x8 : DV) (h0 : Hp) : aK :=
 bVu r n x0 x1 x7 x8 h0
noncomputable def aYq (r : RT) (n : Nat) (x0 x1 : DV) (h0 : Hp) : aK :=
 bnd (bK x0 h0) fun v1 h1 =>
  aTd r n x0 x1 v1 (aC 0) h1
noncomputable def s163 (r : RT) (n : Nat) (x0 x1 : DV) (h0 : Hp) : aK :=
 aYq r n x0 x1 h0
noncomputable abbrev c163 : Code := cf Tryz.f163
noncomputable abbrev aNb : Code := cR c163
noncomputable abbrev dTr : Code := cR aNb
noncomputable abbrev aAo : Code := cL aNb
noncomputable abbrev aUr : Code := cR aAo
noncomputable abbrev aMc : Code := cL aUr
noncomputable abbrev oD : Code := cL aMc
noncomputable abbrev cNa : Code := cL aAo
noncomputable abbrev cEr : Code := cL c163
noncomputable abbrev r163 : K := aR CF Tryz.f163
noncomputable def D163 (r : RT) (n : Nat) (c : Code) (X : Nat → K) (k : K) : K := aM CF r 19 n c X r163 k
theorem cPb : D163 r n dTr x0 r163 = (K0 (eZ r n)) :=
 (by kernel_rfl)
theorem bZb (kk4 : dB) : D163 r n oD (xs x0 0 (K0 (eZ r n))) (K4 kk4 0 1 7 8) = (K4 (bIv r n kk4) 0 1 7 8) :=
 (by kernel_rfl)
theorem cEp (m : Nat) : aL (fun kk => D163 r n oD (xs x0 0 (K0 (eZ r n))) kk) m = (K4 (tV r n m) 0 1 7 8) := by
 induction m with
 | zero => exact (by kernel_rfl : aL (fun kk => D163 r n oD (xs x0 0 (K0 (eZ r n))) kk) 0 = (K4 (tV r n 0) 0 1 7 8))
 | succ m ih =>
  refine (by kernel_rfl : aL (fun kk => D163 r n oD (xs x0 0 (K0 (eZ r n))) kk) (m + 1) = D163 r n oD (xs x0 0 (K0 (eZ r n))) (aL (fun kk => D163 r n oD (xs x0 0 (K0 (eZ r n))) kk) m)).trans ?_
  rw [ih]
  exact (bZb r n (tV r n m)).trans (by kernel_rfl)
theorem dAh : D163 r n aMc (xs x0 0 (K0 (eZ r n))) (K0 (eZ r n)) = (K4 (bVu r n) 0 1 7 8) :=
 (by kernel_rfl : D163 r n aMc (xs x0 0 (K0 (eZ r n))) (K0 (eZ r n)) = aL (fun kk => D163 r n oD (xs x0 0 (K0 (eZ r n))) kk) n).trans ((cEp r n n).trans (by kernel_rfl))
theorem cWb : D163 r n aUr x0 (K0 (eZ r n)) = (K4 (aTd r n) 0 1 7 8) :=
 (by kernel_rfl : D163 r n aUr x0 (K0 (eZ r n)) = D163 r n aMc (xs x0 0 (K0 (eZ r n))) (K0 (eZ r n))).trans
 ((dAh r n).trans (by kernel_rfl))
theorem cIi : D163 r n aNb x0 r163 = D163 r n aAo x0 (K0 (eZ r n)) :=
 congrArg (fun k => D163 r n aAo x0 k) (cPb r n)
theorem bQt : D163 r n aAo x0 (K0 (eZ r n)) = D163 r n cNa x0 (K4 (aTd r n) 0 1 7 8) :=
 congrArg (fun k => D163 r n cNa x0 k) (cWb r n)
theorem dFx : D163 r n aNb x0 r163 = (K2 (aYq r n) 0 1) :=
 (cIi r n).trans
 ((bQt r n).trans
 ((by kernel_rfl)))
theorem dUf : D163 r n c163 x0 r163 = D163 r n cEr x0 (K2 (aYq r n) 0 1) :=
 congrArg (fun k => D163 r n cEr x0 k) (dFx r n)
theorem eCz : D163 r n c163 x0 r163 = (K2 (s163 r n) 0 1) :=
 (dUf r n).trans
 ((by kernel_rfl))
theorem dIf : aE CF r n 163 args h = s163 r n (aP args 0) (aP args 1) h :=
 (by kernel_rfl : aE CF r n 163 args h = D163 r n c163 x0 r163 (aJ args) h).trans ((congrFun (congrFun (eCz r n) (aJ args)) h).trans (by kernel_rfl))
noncomputable def cF (r : RT) (n : Nat) (x2 x3 : DV) (h0 : Hp) : aK :=
 some (.t [x2, x3], h0)
noncomputable def cS (r : RT) (n : Nat) (x3 : DV) (h0 : Hp) : aK :=
 cF r n (.b true) x3 h0
noncomputable def dJ (r : RT) (n : Nat) (h0 : Hp) : aK :=
 cS r n (.b true) h0
noncomputable def oE (r : RT) (n : Nat) (x2 x3 : DV) (h0 : Hp) : aK :=
 cF r n x2 x3 h0
noncomputable def mV (r : RT) (n : Nat) (x2 x3 x11 : DV) (h0 : Hp) : aK :=
 aU x11 (
  cS r n x3 h0) (
  oE r n x2 x3 h0)
noncomputable def yH (r : RT) (n : Nat) (x2 x3 x4 : DV) (h0 : Hp) : aK :=
 bnd (aF .eql x4 (aC 6) h0) fun v1 h1 =>
 aU v1 (
  mV r n x2 x3 v1 h1) (
 bnd (aF .eql x4 (aC 7) h1) fun v2 h2 =>
 aU v2 (
   mV r n x2 x3 v2 h2) (
 bnd (aF .eql x4 (aC 8) h2) fun v3 h3 =>
 aU v3 (
    mV r n x2 x3 v3 h3) (
 bnd (aF .eql x4 (aC 9) h3) fun v4 h4 =>
 aU v4 (
     mV r n x2 x3 v4 h4) (
 bnd (aF .eql x4 (aC 10) h4) fun v5 h5 =>
 aU v5 (
      mV r n x2 x3 v5 h5) (
 bnd (aF .eql x4 (aC 11) h5) fun v6 h6 =>
      mV r n x2 x3 v6 h6)))))
noncomputable def nZ (r : RT) (n : Nat) (x2 x3 x4 x5 : DV) (h0 : Hp) : aK :=
 aU x5 (
  dJ r n h0) (
  yH r n x2 x3 x4 h0)
noncomputable def aVj (r : RT) (n : Nat) (x2 x3 x4 : DV) (h0 : Hp) : aK :=
 bnd (aF .eql x4 (aC 14) h0) fun v1 h1 =>
 aU v1 (
  nZ r n x2 x3 x4 v1 h1) (
 bnd (aF .eql x4 (aC 15) h1) fun v2 h2 =>
 aU v2 (
   nZ r n x2 x3 x4 v2 h2) (
 bnd (aF .eql x4 (aC 16) h2) fun v3 h3 =>
 aU v3 (
    nZ r n x2 x3 x4 v3 h3) (
 bnd (aF .eql x4 (aC 17) h3) fun v4 h4 =>
 aU v4 (
     nZ r n x2 x3 x4 v4 h4) (
 bnd (aF .eql x4 (aC 18) h4) fun v5 h5 =>
     nZ r n x2 x3 x4 v5 h5))))
noncomputable def aTn (r : RT) (n : Nat) (x0 x2 x3 : DV) (h0 : Hp) : aK :=
 aVj r n x2 x3 x0 h0
noncomputable def s165 (r : RT) (n : Nat) (x0 : DV) (h0 : Hp) : aK :=
 aTn r n x0 (.b false) (.b false) h0
noncomputable abbrev c165 : Code := cf Tryz.f165
noncomputable abbrev aEg : Code := cR c165
noncomputable abbrev dKr : Code := cR aEg
noncomputable abbrev aAk : Code := cL aEg
noncomputable abbrev aZw : Code := cR aAk
noncomputable abbrev aMd : Code := cL aZw
noncomputable abbrev dOk : Code := cR aMd
noncomputable abbrev aKt : Code := cL aMd
noncomputable abbrev aKp : Code := cL aKt
noncomputable abbrev dUo : Code := cR aKp
noncomputable abbrev wE : Code := cL aKp
noncomputable abbrev uG : Code := cL wE
noncomputable abbrev cPo : Code := cR uG
noncomputable abbrev pV : Code := cL uG
noncomputable abbrev tY : Code := cR pV
noncomputable abbrev dEj : Code := cR tY
noncomputable abbrev bCu : Code := cL tY
noncomputable abbrev qA : Code := cL pV
noncomputable abbrev cVc : Code := cR qA
noncomputable abbrev bGn : Code := cL qA
noncomputable abbrev bGq : Code := cL aAk
noncomputable abbrev bJh : Code := cL c165
noncomputable abbrev r165 : K := aR CF Tryz.f165
noncomputable def D165 (r : RT) (n : Nat) (c : Code) (X : Nat → K) (k : K) : K := aM CF r 20 n c X r165 k
theorem cPn : D165 r n dKr x0 r165 = (K2 (cF r n) 2 3) :=
 (by kernel_rfl)
theorem dAk : D165 r n dOk (xs x0 0 (K2 (cF r n) 2 3)) (K2 (cF r n) 2 3) = (K1 (cS r n) 3) :=
 (by kernel_rfl)
theorem dCh : D165 r n dUo (xs (xs x0 0 (K2 (cF r n) 2 3)) 2 (K1 (cS r n) 3)) (K1 (cS r n) 3) = (K0 (dJ r n)) :=
 (by kernel_rfl)
theorem cSx : D165 r n cPo (xs (xs (xs x0 0 (K2 (cF r n) 2 3)) 2 (K1 (cS r n) 3)) 1 (K0 (dJ r n))) (K0 (dJ r n)) = (K2 (oE r n) 2 3) :=
 (by kernel_rfl)
theorem cQq : D165 r n dEj (xs (xs (xs x0 0 (K2 (cF r n) 2 3)) 2 (K1 (cS r n) 3)) 1 (K0 (dJ r n))) (K2 (oE r n) 2 3) = (K3 (mV r n) 2 3 11) :=
 (by kernel_rfl)
theorem bUi : D165 r n tY (xs (xs (xs x0 0 (K2 (cF r n) 2 3)) 2 (K1 (cS r n) 3)) 1 (K0 (dJ r n))) (K2 (oE r n) 2 3) = D165 r n bCu (xs (xs (xs x0 0 (K2 (cF r n) 2 3)) 2 (K1 (cS r n) 3)) 1 (K0 (dJ r n))) (K3 (mV r n) 2 3 11) :=
 congrArg (fun k => D165 r n bCu (xs (xs (xs x0 0 (K2 (cF r n) 2 3)) 2 (K1 (cS r n) 3)) 1 (K0 (dJ r n))) k) (cQq r n)
theorem dDv : D165 r n tY (xs (xs (xs x0 0 (K2 (cF r n) 2 3)) 2 (K1 (cS r n) 3)) 1 (K0 (dJ r n))) (K2 (oE r n) 2 3) = (K3 (yH r n) 2 3 4) :=
 (bUi r n).trans
 ((by kernel_rfl))
theorem cVd : D165 r n cVc (xs (xs (xs x0 0 (K2 (cF r n) 2 3)) 2 (K1 (cS r n) 3)) 1 (K0 (dJ r n))) (K3 (yH r n) 2 3 4) = (K4 (nZ r n) 2 3 4 5) :=
 (by kernel_rfl)
theorem cCm : D165 r n aMd (xs x0 0 (K2 (cF r n) 2 3)) (K2 (cF r n) 2 3) = D165 r n aKt (xs x0 0 (K2 (cF r n) 2 3)) (K1 (cS r n) 3) :=
 congrArg (fun k => D165 r n aKt (xs x0 0 (K2 (cF r n) 2 3)) k) (dAk r n)
theorem bTq : D165 r n aKp (xs (xs x0 0 (K2 (cF r n) 2 3)) 2 (K1 (cS r n) 3)) (K1 (cS r n) 3) = D165 r n wE (xs (xs x0 0 (K2 (cF r n) 2 3)) 2 (K1 (cS r n) 3)) (K0 (dJ r n)) :=
 congrArg (fun k => D165 r n wE (xs (xs x0 0 (K2 (cF r n) 2 3)) 2 (K1 (cS r n) 3)) k) (dCh r n)
theorem bQi : D165 r n uG (xs (xs (xs x0 0 (K2 (cF r n) 2 3)) 2 (K1 (cS r n) 3)) 1 (K0 (dJ r n))) (K0 (dJ r n)) = D165 r n pV (xs (xs (xs x0 0 (K2 (cF r n) 2 3)) 2 (K1 (cS r n) 3)) 1 (K0 (dJ r n))) (K2 (oE r n) 2 3) :=
 congrArg (fun k => D165 r n pV (xs (xs (xs x0 0 (K2 (cF r n) 2 3)) 2 (K1 (cS r n) 3)) 1 (K0 (dJ r n))) k) (cSx r n)
theorem cHc : D165 r n pV (xs (xs (xs x0 0 (K2 (cF r n) 2 3)) 2 (K1 (cS r n) 3)) 1 (K0 (dJ r n))) (K2 (oE r n) 2 3) = D165 r n qA (xs (xs (xs x0 0 (K2 (cF r n) 2 3)) 2 (K1 (cS r n) 3)) 1 (K0 (dJ r n))) (K3 (yH r n) 2 3 4) :=
 congrArg (fun k => D165 r n qA (xs (xs (xs x0 0 (K2 (cF r n) 2 3)) 2 (K1 (cS r n) 3)) 1 (K0 (dJ r n))) k) (dDv r n)
theorem bPl : D165 r n qA (xs (xs (xs x0 0 (K2 (cF r n) 2 3)) 2 (K1 (cS r n) 3)) 1 (K0 (dJ r n))) (K3 (yH r n) 2 3 4) = D165 r n bGn (xs (xs (xs x0 0 (K2 (cF r n) 2 3)) 2 (K1 (cS r n) 3)) 1 (K0 (dJ r n))) (K4 (nZ r n) 2 3 4 5) :=
 congrArg (fun k => D165 r n bGn (xs (xs (xs x0 0 (K2 (cF r n) 2 3)) 2 (K1 (cS r n) 3)) 1 (K0 (dJ r n))) k) (cVd r n)
theorem cYd : D165 r n aZw x0 (K2 (cF r n) 2 3) = (K3 (aVj r n) 2 3 4) :=
 (by kernel_rfl : D165 r n aZw x0 (K2 (cF r n) 2 3) = D165 r n aMd (xs x0 0 (K2 (cF r n) 2 3)) (K2 (cF r n) 2 3)).trans
 ((cCm r n).trans
 ((by kernel_rfl : D165 r n aKt (xs x0 0 (K2 (cF r n) 2 3)) (K1 (cS r n) 3) = D165 r n aKp (xs (xs x0 0 (K2 (cF r n) 2 3)) 2 (K1 (cS r n) 3)) (K1 (cS r n) 3)).trans
 ((bTq r n).trans
 ((by kernel_rfl : D165 r n wE (xs (xs x0 0 (K2 (cF r n) 2 3)) 2 (K1 (cS r n) 3)) (K0 (dJ r n)) = D165 r n uG (xs (xs (xs x0 0 (K2 (cF r n) 2 3)) 2 (K1 (cS r n) 3)) 1 (K0 (dJ r n))) (K0 (dJ r n))).trans
 ((bQi r n).trans
 ((cHc r n).trans
 ((bPl r n).trans
 ((by kernel_rfl)))))))))
theorem bPe : D165 r n aEg x0 r165 = D165 r n aAk x0 (K2 (cF r n) 2 3) :=
 congrArg (fun k => D165 r n aAk x0 k) (cPn r n)
theorem bSo : D165 r n aAk x0 (K2 (cF r n) 2 3) = D165 r n bGq x0 (K3 (aVj r n) 2 3 4) :=
 congrArg (fun k => D165 r n bGq x0 k) (cYd r n)
theorem dEx : D165 r n aEg x0 r165 = (K3 (aTn r n) 0 2 3) :=
 (bPe r n).trans
 ((bSo r n).trans
 ((by kernel_rfl)))
theorem dTx : D165 r n c165 x0 r165 = D165 r n bJh x0 (K3 (aTn r n) 0 2 3) :=
 congrArg (fun k => D165 r n bJh x0 k) (dEx r n)
theorem eGi : D165 r n c165 x0 r165 = (K1 (s165 r n) 0) :=
 (dTx r n).trans
 ((by kernel_rfl))
theorem dRo : aE CF r n 165 args h = s165 r n (aP args 0) h :=
 (by kernel_rfl : aE CF r n 165 args h = D165 r n c165 x0 r165 (aJ args) h).trans ((congrFun (congrFun (eGi r n) (aJ args)) h).trans (by kernel_rfl))
noncomputable def s166 (r : RT) (n : Nat) (x0 x1 : DV) (h0 : Hp) : aK :=
 bnd (aF .eql x0 (aC 0) h0) fun v1 h1 =>
 bnd (gD v1 false (some (x1, h1)) h1) fun v2 h2 =>
 bnd (gD v1 false (some (v2, h2)) h2) fun v3 h3 =>
 bnd (gD v3 true (some (x0, h3)) h3) fun v4 h4 =>
 bnd (gD v3 true (aF .gtr v4 (aC 0) h4) h4) fun v5 h5 =>
 bnd (gD v1 false (aQ v3 v5 (.b false) h5) h5) fun v6 h6 =>
 bnd (gD v1 false (some (v6, h6)) h6) fun v7 h7 =>
 bnd (gD v7 true (some (x0, h7)) h7) fun v8 h8 =>
 bnd (gD v7 true (aF .leq v8 (aC 255) h8) h8) fun v9 h9 =>
 bnd (gD v1 false (aQ v7 v9 (.b false) h9) h9) fun v10 h10 =>
 bnd (aQ v1 (.b true) v10 h10) fun v11 h11 =>
 some (v11, h11)
noncomputable abbrev c166 : Code := cf Tryz.f166
noncomputable abbrev r166 : K := aR CF Tryz.f166
noncomputable def D166 (r : RT) (n : Nat) (c : Code) (X : Nat → K) (k : K) : K := aM CF r 18 n c X r166 k
theorem eAw : D166 r n c166 x0 r166 = (K2 (s166 r n) 0 1) :=
 (by kernel_rfl)
theorem dSu : aE CF r n 166 args h = s166 r n (aP args 0) (aP args 1) h :=
 (by kernel_rfl : aE CF r n 166 args h = D166 r n c166 x0 r166 (aJ args) h).trans ((congrFun (congrFun (eAw r n) (aJ args)) h).trans (by kernel_rfl))
noncomputable def cY (r : RT) (n : Nat) (x4 : DV) (h0 : Hp) : aK :=
 some (x4, h0)
noncomputable def aGk (r : RT) (n : Nat) (kk5 : dB) (x0 x1 x4 x5 : DV) (h0 : Hp) : aK :=
 bnd (aF .add x5 (aC 1) h0) fun v1 h1 =>
  kk5 x0 x1 x4 v1 h1
noncomputable def aSr (r : RT) (n : Nat) (kk5 : dB) (x0 x1 x4 x5 : DV) (h0 : Hp) : aK :=
 bnd (aA x1 h0) fun v1 h1 =>
 bnd (r 168 [v1, x5] h1) fun v2 h2 =>
 bnd (aG 0 v2 h2) fun v3 h3 =>
 bnd (aG 1 v2 h3) fun v4 h4 =>
 bnd (gD v4 true (some (x0, h4)) h4) fun v5 h5 =>
 bnd (gD v4 true (some (v3, h5)) h5) fun v6 h6 =>
 bnd (gD v4 true (aF .lss v5 v6 h6) h6) fun v7 h7 =>
 bnd (aQ v4 v7 (.b false) h7) fun v8 h8 =>
 aU v8 (
  aGk r n kk5 x0 x1 x5 x5 h8) (
  aGk r n kk5 x0 x1 x4 x5 h8)
noncomputable def bEs (r : RT) (n : Nat) (kk5 : dB) (x0 x1 x4 x5 : DV) (h0 : Hp) : aK :=
 bnd (aF .add x5 (aC 2) h0) fun v1 h1 =>
 bnd (aF .leq v1 x0 h1) fun v2 h2 =>
 aU v2 (
   aSr r n kk5 x0 x1 x4 x5 h2) (
   cY r n x4 h2)
noncomputable def vE (r : RT) (n : Nat) (m : Nat) : dB :=
 Nat.rec (motive := fun _ => dB) (fun _ _ _ _ _ => none) (fun _ ih => bEs r n ih) m
noncomputable def cGe (r : RT) (n : Nat) : dB := vE r n n
noncomputable def aYp (r : RT) (n : Nat) (x0 x1 x4 x5 : DV) (h0 : Hp) : aK :=
 cGe r n x0 x1 x4 x5 h0
noncomputable def aZo (r : RT) (n : Nat) (x0 x1 x4 : DV) (h0 : Hp) : aK :=
 aYp r n x0 x1 x4 (aC 0) h0
noncomputable def aTs (r : RT) (n : Nat) (x0 x1 : DV) (h0 : Hp) : aK :=
 aZo r n x0 x1 (.i .i64 (Int.negSucc 0)) h0
noncomputable def s167 (r : RT) (n : Nat) (x0 x1 : DV) (h0 : Hp) : aK :=
 aTs r n x0 x1 h0
noncomputable abbrev c167 : Code := cf Tryz.f167
noncomputable abbrev aFy : Code := cR c167
noncomputable abbrev aFh : Code := cR aFy
noncomputable abbrev dXa : Code := cR aFh
noncomputable abbrev aAe : Code := cL aFh
noncomputable abbrev aWn : Code := cR aAe
noncomputable abbrev aCu : Code := cL aWn
noncomputable abbrev kI : Code := cL aCu
noncomputable abbrev aFi : Code := cR kI
noncomputable abbrev dJy : Code := cR aFi
noncomputable abbrev bDi : Code := cL aFi
noncomputable abbrev bFl : Code := cL kI
noncomputable abbrev bFn : Code := cL aAe
noncomputable abbrev bBw : Code := cL aFy
noncomputable abbrev bDy : Code := cL c167
noncomputable abbrev r167 : K := aR CF Tryz.f167
noncomputable def D167 (r : RT) (n : Nat) (c : Code) (X : Nat → K) (k : K) : K := aM CF r 28 n c X r167 k
theorem cOy : D167 r n dXa x0 r167 = (K1 (cY r n) 4) :=
 (by kernel_rfl)
theorem dFa (kk5 : dB) : D167 r n dJy (xs x0 0 (K1 (cY r n) 4)) (K4 kk5 0 1 4 5) = (K4 (aGk r n kk5) 0 1 4 5) :=
 (by kernel_rfl)
theorem cFh (kk5 : dB) : D167 r n aFi (xs x0 0 (K1 (cY r n) 4)) (K4 kk5 0 1 4 5) = D167 r n bDi (xs x0 0 (K1 (cY r n) 4)) (K4 (aGk r n kk5) 0 1 4 5) :=
 congrArg (fun k => D167 r n bDi (xs x0 0 (K1 (cY r n) 4)) k) (dFa r n kk5)
theorem dAe (kk5 : dB) : D167 r n aFi (xs x0 0 (K1 (cY r n) 4)) (K4 kk5 0 1 4 5) = (K4 (aSr r n kk5) 0 1 4 5) :=
 (cFh r n kk5).trans
 ((by kernel_rfl))
theorem cHt (kk5 : dB) : D167 r n kI (xs x0 0 (K1 (cY r n) 4)) (K4 kk5 0 1 4 5) = D167 r n bFl (xs x0 0 (K1 (cY r n) 4)) (K4 (aSr r n kk5) 0 1 4 5) :=
 congrArg (fun k => D167 r n bFl (xs x0 0 (K1 (cY r n) 4)) k) (dAe r n kk5)
theorem cJf (kk5 : dB) : D167 r n kI (xs x0 0 (K1 (cY r n) 4)) (K4 kk5 0 1 4 5) = (K4 (bEs r n kk5) 0 1 4 5) :=
 (cHt r n kk5).trans
 ((by kernel_rfl))
theorem cIj (m : Nat) : aL (fun kk => D167 r n kI (xs x0 0 (K1 (cY r n) 4)) kk) m = (K4 (vE r n m) 0 1 4 5) := by
 induction m with
 | zero => exact (by kernel_rfl : aL (fun kk => D167 r n kI (xs x0 0 (K1 (cY r n) 4)) kk) 0 = (K4 (vE r n 0) 0 1 4 5))
 | succ m ih =>
  refine (by kernel_rfl : aL (fun kk => D167 r n kI (xs x0 0 (K1 (cY r n) 4)) kk) (m + 1) = D167 r n kI (xs x0 0 (K1 (cY r n) 4)) (aL (fun kk => D167 r n kI (xs x0 0 (K1 (cY r n) 4)) kk) m)).trans ?_
  rw [ih]
  exact (cJf r n (vE r n m)).trans (by kernel_rfl)
theorem dAx : D167 r n aCu (xs x0 0 (K1 (cY r n) 4)) (K1 (cY r n) 4) = (K4 (cGe r n) 0 1 4 5) :=
 (by kernel_rfl : D167 r n aCu (xs x0 0 (K1 (cY r n) 4)) (K1 (cY r n) 4) = aL (fun kk => D167 r n kI (xs x0 0 (K1 (cY r n) 4)) kk) n).trans ((cIj r n n).trans (by kernel_rfl))
theorem cOz : D167 r n aWn x0 (K1 (cY r n) 4) = (K4 (aYp r n) 0 1 4 5) :=
 (by kernel_rfl : D167 r n aWn x0 (K1 (cY r n) 4) = D167 r n aCu (xs x0 0 (K1 (cY r n) 4)) (K1 (cY r n) 4)).trans
 ((dAx r n).trans (by kernel_rfl))
theorem bWc : D167 r n aFh x0 r167 = D167 r n aAe x0 (K1 (cY r n) 4) :=
 congrArg (fun k => D167 r n aAe x0 k) (cOy r n)
theorem bXi : D167 r n aAe x0 (K1 (cY r n) 4) = D167 r n bFn x0 (K4 (aYp r n) 0 1 4 5) :=
 congrArg (fun k => D167 r n bFn x0 k) (cOz r n)
theorem dBo : D167 r n aFh x0 r167 = (K3 (aZo r n) 0 1 4) :=
 (bWc r n).trans
 ((bXi r n).trans
 ((by kernel_rfl)))
theorem cIh : D167 r n aFy x0 r167 = D167 r n bBw x0 (K3 (aZo r n) 0 1 4) :=
 congrArg (fun k => D167 r n bBw x0 k) (dBo r n)
theorem cZa : D167 r n aFy x0 r167 = (K2 (aTs r n) 0 1) :=
 (cIh r n).trans
 ((by kernel_rfl))
theorem dNl : D167 r n c167 x0 r167 = D167 r n bDy x0 (K2 (aTs r n) 0 1) :=
 congrArg (fun k => D167 r n bDy x0 k) (cZa r n)
theorem dYp : D167 r n c167 x0 r167 = (K2 (s167 r n) 0 1) :=
 (dNl r n).trans
 ((by kernel_rfl))
theorem dQy : aE CF r n 167 args h = s167 r n (aP args 0) (aP args 1) h :=
 (by kernel_rfl : aE CF r n 167 args h = D167 r n c167 x0 r167 (aJ args) h).trans ((congrFun (congrFun (dYp r n) (aJ args)) h).trans (by kernel_rfl))
noncomputable def s168 (r : RT) (n : Nat) (x0 x1 : DV) (h0 : Hp) : aK :=
 bnd (aI 3 x0 x1 h0) fun v1 h1 =>
 bnd (aB 0 v1 h1) fun v2 h2 =>
 bnd (aA v2 h2) fun v3 h3 =>
 bnd (aF .neq v3 (aC 18) h3) fun v4 h4 =>
 bnd (gD v4 false (some (x1, h4)) h4) fun v5 h5 =>
 bnd (gD v4 false (aF .add v5 (aC 1) h5) h5) fun v6 h6 =>
 bnd (gD v4 false (some (x0, h6)) h6) fun v7 h7 =>
 bnd (gD v4 false (bK v7 h7) h7) fun v8 h8 =>
 bnd (gD v4 false (aF .geq v6 v8 h8) h8) fun v9 h9 =>
 bnd (aQ v4 (.b true) v9 h9) fun v10 h10 =>
 bnd (gD v10 false (some (x0, h10)) h10) fun v11 h11 =>
 bnd (gD v10 false (some (x1, h11)) h11) fun v12 h12 =>
 bnd (gD v10 false (aF .add v12 (aC 1) h12) h12) fun v13 h13 =>
 bnd (gD v10 false (aI 3 v11 v13 h13) h13) fun v14 h14 =>
 bnd (gD v10 false (aB 0 v14 h14) h14) fun v15 h15 =>
 bnd (gD v10 false (aA v15 h15) h15) fun v16 h16 =>
 bnd (gD v10 false (aF .neq v16 (aC 16) h16) h16) fun v17 h17 =>
 bnd (aQ v10 (.b true) v17 h17) fun v18 h18 =>
 aU v18 (
 some (.t [(aC 0), (.b false)], h18)) (
 bnd (aF .add x1 (aC 1) h18) fun v19 h19 =>
 bnd (aI 3 x0 v19 h19) fun v20 h20 =>
 bnd (aH 3 v20 h20) fun v21 h21 =>
 bnd (r 169 [v21] h21) fun v22 h22 =>
 bnd (aF .add x1 (aC 2) h22) fun v23 h23 =>
 bnd (aF .gtr v22 v23 h23) fun v24 h24 =>
 some (.t [v22, v24], h24))
noncomputable abbrev c168 : Code := cf Tryz.f168
noncomputable abbrev r168 : K := aR CF Tryz.f168
noncomputable def D168 (r : RT) (n : Nat) (c : Code) (X : Nat → K) (k : K) : K := aM CF r 40 n c X r168 k
theorem eDg : D168 r n c168 x0 r168 = (K2 (s168 r n) 0 1) :=
 (by kernel_rfl)
theorem dVa : aE CF r n 168 args h = s168 r n (aP args 0) (aP args 1) h :=
 (by kernel_rfl : aE CF r n 168 args h = D168 r n c168 x0 r168 (aJ args) h).trans ((congrFun (congrFun (eDg r n) (aJ args)) h).trans (by kernel_rfl))
noncomputable def s169 (r : RT) (n : Nat) (x0 : DV) (h0 : Hp) : aK :=
 bnd (bM x0 h0) fun v1 h1 =>
 bnd (aB 0 v1 h1) fun v2 h2 =>
 bnd (aA v2 h2) fun v3 h3 =>
 bnd (r 188 [v3] h3) fun v4 h4 =>
 bnd (eO .not v4 h4) fun v5 h5 =>
 aU v5 (
 some ((.i .i64 (Int.negSucc 0)), h5)) (
 bnd (aB 1 v1 h5) fun v6 h6 =>
 bnd (aA v6 h6) fun v7 h7 =>
 bnd (aB 2 v1 h7) fun v8 h8 =>
 bnd (aA v8 h8) fun v9 h9 =>
 bnd (dF .shl v9 (.i .u64 (Int.ofNat 8)) h9) fun v10 h10 =>
 bnd (aF .add v7 v10 h10) fun v11 h11 =>
 some (v11, h11))
noncomputable abbrev c169 : Code := cf Tryz.f169
noncomputable abbrev r169 : K := aR CF Tryz.f169
noncomputable def D169 (r : RT) (n : Nat) (c : Code) (X : Nat → K) (k : K) : K := aM CF r 13 n c X r169 k
theorem eIk : D169 r n c169 x0 r169 = (K1 (s169 r n) 0) :=
 (by kernel_rfl)
theorem dQg : aE CF r n 169 args h = s169 r n (aP args 0) h :=
 (by kernel_rfl : aE CF r n 169 args h = D169 r n c169 x0 r169 (aJ args) h).trans ((congrFun (congrFun (eIk r n) (aJ args)) h).trans (by kernel_rfl))
noncomputable def s170 (r : RT) (n : Nat) (x0 x1 x2 x3 x4 x5 x6 x7 : DV) (h0 : Hp) : aK :=
 bnd (aA x3 h0) fun v1 h1 =>
 bnd (bK v1 h1) fun v2 h2 =>
 bnd (aF .geq x0 v2 h2) fun v3 h3 =>
 bnd (gD v3 false (aA x4 h3) h3) fun v4 h4 =>
 bnd (gD v3 false (some (x0, h4)) h4) fun v5 h5 =>
 bnd (gD v3 false (aI 1 v4 v5 h5) h5) fun v6 h6 =>
 bnd (gD v3 false (aA v6 h6) h6) fun v7 h7 =>
 bnd (gD v3 false (some (x1, h7)) h7) fun v8 h8 =>
 bnd (gD v3 false (aF .neq v7 v8 h8) h8) fun v9 h9 =>
 bnd (aQ v3 (.b true) v9 h9) fun v10 h10 =>
 bnd (gD v10 false (aA x5 h10) h10) fun v11 h11 =>
 bnd (gD v10 false (some (x0, h11)) h11) fun v12 h12 =>
 bnd (gD v10 false (aI 1 v11 v12 h12) h12) fun v13 h13 =>
 bnd (gD v10 false (aA v13 h13) h13) fun v14 h14 =>
 bnd (gD v10 false (aF .geq v14 (aC 0) h14) h14) fun v15 h15 =>
 bnd (gD v10 false (some (v15, h15)) h15) fun v16 h16 =>
 bnd (gD v16 true (aA x5 h16) h16) fun v17 h17 =>
 bnd (gD v16 true (some (x0, h17)) h17) fun v18 h18 =>
 bnd (gD v16 true (aI 1 v17 v18 h18) h18) fun v19 h19 =>
 bnd (gD v16 true (aA v19 h19) h19) fun v20 h20 =>
 bnd (gD v16 true (some (x2, h20)) h20) fun v21 h21 =>
 bnd (gD v16 true (aF .neq v20 v21 h21) h21) fun v22 h22 =>
 bnd (gD v10 false (aQ v16 v22 (.b false) h22) h22) fun v23 h23 =>
 bnd (aQ v10 (.b true) v23 h23) fun v24 h24 =>
 aU v24 (
 bnd (aD 1 x6 (.b false) h24) fun _ h25 =>
 some (.t [], h25)) (
 bnd (aA x5 h24) fun v26 h26 =>
 bnd (aI 1 v26 x0 h26) fun v27 h27 =>
 bnd (aA v27 h27) fun v28 h28 =>
 bnd (aF .lss v28 (aC 0) h28) fun v29 h29 =>
 aU v29 (
 bnd (aA x5 h29) fun v30 h30 =>
 bnd (aI 1 v30 x0 h30) fun v31 h31 =>
 bnd (aD 1 v31 x2 h31) fun _ h32 =>
 bnd (aA x7 h32) fun v33 h33 =>
 bnd (aN [(aC 0)] 1 [(0, 1, x0)] h33) fun v34 h34 =>
 bnd (aX 1 8 v33 v34 h34) fun v35 h35 =>
 bnd (aD 1 x7 v35 h35) fun _ h36 =>
 some (.t [], h36)) (
 some (.t [], h29)))
noncomputable abbrev c170 : Code := cf Tryz.f170
noncomputable abbrev r170 : K := aR CF Tryz.f170
noncomputable def D170 (r : RT) (n : Nat) (c : Code) (X : Nat → K) (k : K) : K := aM CF r 53 n c X r170 k
theorem eBo : D170 r n c170 x0 r170 = (K8 (s170 r n) 0 1 2 3 4 5 6 7) :=
 (by kernel_rfl)
theorem dJu : aE CF r n 170 args h = s170 r n (aP args 0) (aP args 1) (aP args 2) (aP args 3) (aP args 4) (aP args 5) (aP args 6) (aP args 7) h :=
 (by kernel_rfl : aE CF r n 170 args h = D170 r n c170 x0 r170 (aJ args) h).trans ((congrFun (congrFun (eBo r n) (aJ args)) h).trans (by kernel_rfl))
noncomputable def bZ (r : RT) (n : Nat) (h0 : Hp) : aK :=
 some ((aC 0), h0)
noncomputable def aGh (r : RT) (n : Nat) (x1 x22 : DV) (h0 : Hp) : aK :=
 aU x22 (
 bnd (aB 2 x1 h0) fun v1 h1 =>
 bnd (aA v1 h1) fun v2 h2 =>
 bnd (eO .neg v2 h2) fun v3 h3 =>
 some (v3, h3)) (
  bZ r n h0)
noncomputable def bUf (r : RT) (n : Nat) (x1 x4 : DV) (h0 : Hp) : aK :=
 bnd (aF .eql x4 (aC 14) h0) fun v1 h1 =>
 aU v1 (
  aGh r n x1 v1 h1) (
 bnd (aF .eql x4 (aC 15) h1) fun v2 h2 =>
  aGh r n x1 v2 h2)
noncomputable def rC (r : RT) (n : Nat) (x1 x4 x17 : DV) (h0 : Hp) : aK :=
 aU x17 (
 some ((.i .i64 (Int.negSucc 0)), h0)) (
  bUf r n x1 x4 h0)
noncomputable def bYq (r : RT) (n : Nat) (x1 x4 : DV) (h0 : Hp) : aK :=
 bnd (aF .eql x4 (aC 12) h0) fun v1 h1 =>
 aU v1 (
  rC r n x1 x4 v1 h1) (
 bnd (aF .eql x4 (aC 17) h1) fun v2 h2 =>
 aU v2 (
   rC r n x1 x4 v2 h2) (
 bnd (aF .eql x4 (aC 19) h2) fun v3 h3 =>
 aU v3 (
    rC r n x1 x4 v3 h3) (
 bnd (aF .eql x4 (aC 20) h3) fun v4 h4 =>
    rC r n x1 x4 v4 h4)))
noncomputable def iL (r : RT) (n : Nat) (x1 x4 x5 : DV) (h0 : Hp) : aK :=
 aU x5 (
 some ((aC 1), h0)) (
  bYq r n x1 x4 h0)
noncomputable def aUu (r : RT) (n : Nat) (x1 x4 : DV) (h0 : Hp) : aK :=
 bnd (aF .eql x4 (aC 1) h0) fun v1 h1 =>
 aU v1 (
  iL r n x1 x4 v1 h1) (
 bnd (aF .eql x4 (aC 2) h1) fun v2 h2 =>
 aU v2 (
   iL r n x1 x4 v2 h2) (
 bnd (aF .eql x4 (aC 3) h2) fun v3 h3 =>
 aU v3 (
    iL r n x1 x4 v3 h3) (
 bnd (aF .eql x4 (aC 4) h3) fun v4 h4 =>
 aU v4 (
     iL r n x1 x4 v4 h4) (
 bnd (aF .eql x4 (aC 5) h4) fun v5 h5 =>
 aU v5 (
      iL r n x1 x4 v5 h5) (
 bnd (aF .eql x4 (aC 6) h5) fun v6 h6 =>
 aU v6 (
       iL r n x1 x4 v6 h6) (
 bnd (aF .eql x4 (aC 7) h6) fun v7 h7 =>
 aU v7 (
        iL r n x1 x4 v7 h7) (
 bnd (aF .eql x4 (aC 8) h7) fun v8 h8 =>
 aU v8 (
         iL r n x1 x4 v8 h8) (
 bnd (aF .eql x4 (aC 9) h8) fun v9 h9 =>
 aU v9 (
          iL r n x1 x4 v9 h9) (
 bnd (aF .eql x4 (aC 13) h9) fun v10 h10 =>
 aU v10 (
           iL r n x1 x4 v10 h10) (
 bnd (aF .eql x4 (aC 18) h10) fun v11 h11 =>
           iL r n x1 x4 v11 h11))))))))))
noncomputable def xK (r : RT) (n : Nat) (x1 : DV) (h0 : Hp) : aK :=
 bnd (aB 0 x1 h0) fun v1 h1 =>
 bnd (aA v1 h1) fun v2 h2 =>
  aUu r n x1 v2 h2
noncomputable def s171 (r : RT) (n : Nat) (x0 : DV) (h0 : Hp) : aK :=
 bnd (bM x0 h0) fun v1 h1 =>
  xK r n v1 h1
noncomputable abbrev c171 : Code := cf Tryz.f171
noncomputable abbrev aMq : Code := cR c171
noncomputable abbrev dKf : Code := cR aMq
noncomputable abbrev zY : Code := cL aMq
noncomputable abbrev aZh : Code := cR zY
noncomputable abbrev aEr : Code := cL aZh
noncomputable abbrev wY : Code := cR aEr
noncomputable abbrev wS : Code := cR wY
noncomputable abbrev aAp : Code := cR wS
noncomputable abbrev aAa : Code := cR aAp
noncomputable abbrev cNr : Code := cR aAa
noncomputable abbrev bGv : Code := cL aAa
noncomputable abbrev dCe : Code := cL aAp
noncomputable abbrev bCj : Code := cL wS
noncomputable abbrev cUy : Code := cL wY
noncomputable abbrev bBx : Code := cL aEr
noncomputable abbrev bDx : Code := cL zY
noncomputable abbrev aMl : Code := cL c171
noncomputable abbrev r171 : K := aR CF Tryz.f171
noncomputable def D171 (r : RT) (n : Nat) (c : Code) (X : Nat → K) (k : K) : K := aM CF r 28 n c X r171 k
theorem cSw : D171 r n dKf x0 r171 = (K0 (bZ r n)) :=
 (by kernel_rfl)
theorem dDz : D171 r n cNr (xs x0 0 (K0 (bZ r n))) (K0 (bZ r n)) = (K2 (aGh r n) 1 22) :=
 (by kernel_rfl)
theorem cCl : D171 r n aAa (xs x0 0 (K0 (bZ r n))) (K0 (bZ r n)) = D171 r n bGv (xs x0 0 (K0 (bZ r n))) (K2 (aGh r n) 1 22) :=
 congrArg (fun k => D171 r n bGv (xs x0 0 (K0 (bZ r n))) k) (dDz r n)
theorem cRl : D171 r n aAa (xs x0 0 (K0 (bZ r n))) (K0 (bZ r n)) = (K2 (bUf r n) 1 4) :=
 (cCl r n).trans
 ((by kernel_rfl))
theorem cUn : D171 r n aAp (xs x0 0 (K0 (bZ r n))) (K0 (bZ r n)) = (K3 (rC r n) 1 4 17) :=
 (by kernel_rfl : D171 r n aAp (xs x0 0 (K0 (bZ r n))) (K0 (bZ r n)) = (fun (env : aV) (h : Hp) => aU (opr env (cC aAp)) (D171 r n dCe (xs x0 0 (K0 (bZ r n))) (K0 (bZ r n)) env h) (D171 r n aAa (xs x0 0 (K0 (bZ r n))) (K0 (bZ r n)) env h))).trans (by rw [cRl r n]; kernel_rfl)
theorem cGa : D171 r n wS (xs x0 0 (K0 (bZ r n))) (K0 (bZ r n)) = D171 r n bCj (xs x0 0 (K0 (bZ r n))) (K3 (rC r n) 1 4 17) :=
 congrArg (fun k => D171 r n bCj (xs x0 0 (K0 (bZ r n))) k) (cUn r n)
theorem cSk : D171 r n wS (xs x0 0 (K0 (bZ r n))) (K0 (bZ r n)) = (K2 (bYq r n) 1 4) :=
 (cGa r n).trans
 ((by kernel_rfl))
theorem cVp : D171 r n wY (xs x0 0 (K0 (bZ r n))) (K0 (bZ r n)) = (K3 (iL r n) 1 4 5) :=
 (by kernel_rfl : D171 r n wY (xs x0 0 (K0 (bZ r n))) (K0 (bZ r n)) = (fun (env : aV) (h : Hp) => aU (opr env (cC wY)) (D171 r n cUy (xs x0 0 (K0 (bZ r n))) (K0 (bZ r n)) env h) (D171 r n wS (xs x0 0 (K0 (bZ r n))) (K0 (bZ r n)) env h))).trans (by rw [cSk r n]; kernel_rfl)
theorem cGh : D171 r n aEr (xs x0 0 (K0 (bZ r n))) (K0 (bZ r n)) = D171 r n bBx (xs x0 0 (K0 (bZ r n))) (K3 (iL r n) 1 4 5) :=
 congrArg (fun k => D171 r n bBx (xs x0 0 (K0 (bZ r n))) k) (cVp r n)
theorem cTr : D171 r n aZh x0 (K0 (bZ r n)) = (K2 (aUu r n) 1 4) :=
 (by kernel_rfl : D171 r n aZh x0 (K0 (bZ r n)) = D171 r n aEr (xs x0 0 (K0 (bZ r n))) (K0 (bZ r n))).trans
 ((cGh r n).trans
 ((by kernel_rfl)))
theorem bQz : D171 r n aMq x0 r171 = D171 r n zY x0 (K0 (bZ r n)) :=
 congrArg (fun k => D171 r n zY x0 k) (cSw r n)
theorem cNm : D171 r n zY x0 (K0 (bZ r n)) = D171 r n bDx x0 (K2 (aUu r n) 1 4) :=
 congrArg (fun k => D171 r n bDx x0 k) (cTr r n)
theorem cSr : D171 r n aMq x0 r171 = (K1 (xK r n) 1) :=
 (bQz r n).trans
 ((cNm r n).trans
 ((by kernel_rfl)))
theorem dSn : D171 r n c171 x0 r171 = D171 r n aMl x0 (K1 (xK r n) 1) :=
 congrArg (fun k => D171 r n aMl x0 k) (cSr r n)
theorem dQb (q0 : TT1) : D171 r n aMl x0 (K1 q0 1) = fun (env : aV) (h : Hp) =>
 bnd (bM (env 0) h) fun v1 h1 =>
  q0 v1 h1 := by kernel_rfl
theorem cOa : (fun (env : aV) (h : Hp) =>
 bnd (bM (env 0) h) fun v1 h1 =>
  xK r n v1 h1) = (K1 (s171 r n) 0) := by kernel_rfl
theorem dXx : D171 r n c171 x0 r171 = (K1 (s171 r n) 0) :=
 (dSn r n).trans
 ((dQb r n (xK r n)).trans (cOa r n))
theorem dTp : aE CF r n 171 args h = s171 r n (aP args 0) h :=
 (by kernel_rfl : aE CF r n 171 args h = D171 r n c171 x0 r171 (aJ args) h).trans ((congrFun (congrFun (dXx r n) (aJ args)) h).trans (by kernel_rfl))
noncomputable def cW (r : RT) (n : Nat) (h0 : Hp) : aK :=
 some ((aC 0), h0)
noncomputable def aNq (r : RT) (n : Nat) (x1 x13 : DV) (h0 : Hp) : aK :=
 aU x13 (
 bnd (aB 2 x1 h0) fun v1 h1 =>
 bnd (aA v1 h1) fun v2 h2 =>
 bnd (aF .add v2 (aC 1) h2) fun v3 h3 =>
 some (v3, h3)) (
  cW r n h0)
noncomputable def cAz (r : RT) (n : Nat) (x1 x4 : DV) (h0 : Hp) : aK :=
 bnd (aF .eql x4 (aC 14) h0) fun v1 h1 =>
 aU v1 (
  aNq r n x1 v1 h1) (
 bnd (aF .eql x4 (aC 15) h1) fun v2 h2 =>
  aNq r n x1 v2 h2)
noncomputable def lD (r : RT) (n : Nat) (x1 x4 x5 : DV) (h0 : Hp) : aK :=
 aU x5 (
 some ((aC 1), h0)) (
  cAz r n x1 x4 h0)
noncomputable def aWa (r : RT) (n : Nat) (x1 x4 : DV) (h0 : Hp) : aK :=
 bnd (aF .eql x4 (aC 12) h0) fun v1 h1 =>
 aU v1 (
  lD r n x1 x4 v1 h1) (
 bnd (aF .eql x4 (aC 13) h1) fun v2 h2 =>
 aU v2 (
   lD r n x1 x4 v2 h2) (
 bnd (aF .eql x4 (aC 10) h2) fun v3 h3 =>
 aU v3 (
    lD r n x1 x4 v3 h3) (
 bnd (aF .eql x4 (aC 11) h3) fun v4 h4 =>
 aU v4 (
     lD r n x1 x4 v4 h4) (
 bnd (aF .eql x4 (aC 17) h4) fun v5 h5 =>
 aU v5 (
      lD r n x1 x4 v5 h5) (
 bnd (aF .eql x4 (aC 20) h5) fun v6 h6 =>
 aU v6 (
       lD r n x1 x4 v6 h6) (
 bnd (aF .eql x4 (aC 19) h6) fun v7 h7 =>
       lD r n x1 x4 v7 h7))))))
noncomputable def yV (r : RT) (n : Nat) (x1 : DV) (h0 : Hp) : aK :=
 bnd (aB 0 x1 h0) fun v1 h1 =>
 bnd (aA v1 h1) fun v2 h2 =>
  aWa r n x1 v2 h2
noncomputable def s172 (r : RT) (n : Nat) (x0 : DV) (h0 : Hp) : aK :=
 bnd (bM x0 h0) fun v1 h1 =>
  yV r n v1 h1
noncomputable abbrev c172 : Code := cf Tryz.f172
noncomputable abbrev aLd : Code := cR c172
noncomputable abbrev dTj : Code := cR aLd
noncomputable abbrev yR : Code := cL aLd
noncomputable abbrev aVh : Code := cR yR
noncomputable abbrev aEx : Code := cL aVh
noncomputable abbrev yG : Code := cR aEx
noncomputable abbrev yE : Code := cR yG
noncomputable abbrev dWo : Code := cR yE
noncomputable abbrev bXm : Code := cL yE
noncomputable abbrev dCf : Code := cL yG
noncomputable abbrev bDa : Code := cL aEx
noncomputable abbrev bAh : Code := cL yR
noncomputable abbrev aLk : Code := cL c172
noncomputable abbrev r172 : K := aR CF Tryz.f172
noncomputable def D172 (r : RT) (n : Nat) (c : Code) (X : Nat → K) (k : K) : K := aM CF r 19 n c X r172 k
theorem cSz : D172 r n dTj x0 r172 = (K0 (cW r n)) :=
 (by kernel_rfl)
theorem cXy : D172 r n dWo (xs x0 0 (K0 (cW r n))) (K0 (cW r n)) = (K2 (aNq r n) 1 13) :=
 (by kernel_rfl)
theorem cCu : D172 r n yE (xs x0 0 (K0 (cW r n))) (K0 (cW r n)) = D172 r n bXm (xs x0 0 (K0 (cW r n))) (K2 (aNq r n) 1 13) :=
 congrArg (fun k => D172 r n bXm (xs x0 0 (K0 (cW r n))) k) (cXy r n)
theorem cRv : D172 r n yE (xs x0 0 (K0 (cW r n))) (K0 (cW r n)) = (K2 (cAz r n) 1 4) :=
 (cCu r n).trans
 ((by kernel_rfl))
theorem dEm : D172 r n yG (xs x0 0 (K0 (cW r n))) (K0 (cW r n)) = (K3 (lD r n) 1 4 5) :=
 (by kernel_rfl : D172 r n yG (xs x0 0 (K0 (cW r n))) (K0 (cW r n)) = (fun (env : aV) (h : Hp) => aU (opr env (cC yG)) (D172 r n dCf (xs x0 0 (K0 (cW r n))) (K0 (cW r n)) env h) (D172 r n yE (xs x0 0 (K0 (cW r n))) (K0 (cW r n)) env h))).trans (by rw [cRv r n]; kernel_rfl)
theorem cFi : D172 r n aEx (xs x0 0 (K0 (cW r n))) (K0 (cW r n)) = D172 r n bDa (xs x0 0 (K0 (cW r n))) (K3 (lD r n) 1 4 5) :=
 congrArg (fun k => D172 r n bDa (xs x0 0 (K0 (cW r n))) k) (dEm r n)
theorem cQl : D172 r n aVh x0 (K0 (cW r n)) = (K2 (aWa r n) 1 4) :=
 (by kernel_rfl : D172 r n aVh x0 (K0 (cW r n)) = D172 r n aEx (xs x0 0 (K0 (cW r n))) (K0 (cW r n))).trans
 ((cFi r n).trans
 ((by kernel_rfl)))
theorem bVb : D172 r n aLd x0 r172 = D172 r n yR x0 (K0 (cW r n)) :=
 congrArg (fun k => D172 r n yR x0 k) (cSz r n)
theorem cAg : D172 r n yR x0 (K0 (cW r n)) = D172 r n bAh x0 (K2 (aWa r n) 1 4) :=
 congrArg (fun k => D172 r n bAh x0 k) (cQl r n)
theorem dBe : D172 r n aLd x0 r172 = (K1 (yV r n) 1) :=
 (bVb r n).trans
 ((cAg r n).trans
 ((by kernel_rfl)))
theorem dNv : D172 r n c172 x0 r172 = D172 r n aLk x0 (K1 (yV r n) 1) :=
 congrArg (fun k => D172 r n aLk x0 k) (dBe r n)
theorem dIr (q0 : TT1) : D172 r n aLk x0 (K1 q0 1) = fun (env : aV) (h : Hp) =>
 bnd (bM (env 0) h) fun v1 h1 =>
  q0 v1 h1 := by kernel_rfl
theorem cXa : (fun (env : aV) (h : Hp) =>
 bnd (bM (env 0) h) fun v1 h1 =>
  yV r n v1 h1) = (K1 (s172 r n) 0) := by kernel_rfl
theorem eEa : D172 r n c172 x0 r172 = (K1 (s172 r n) 0) :=
 (dNv r n).trans
 ((dIr r n (yV r n)).trans (cXa r n))
theorem dVt : aE CF r n 172 args h = s172 r n (aP args 0) h :=
 (by kernel_rfl : aE CF r n 172 args h = D172 r n c172 x0 r172 (aJ args) h).trans ((congrFun (congrFun (eEa r n) (aJ args)) h).trans (by kernel_rfl))
noncomputable def fU (r : RT) (n : Nat) (x0 x7 : DV) (h0 : Hp) : aK :=
 bnd (aO x0 h0) fun v1 h1 =>
 bnd (aB 0 v1 h1) fun v2 h2 =>
 bnd (aA v2 h2) fun v3 h3 =>
 bnd (aO x0 h3) fun v4 h4 =>
 bnd (aB 1 v4 h4) fun v5 h5 =>
 bnd (aA v5 h5) fun v6 h6 =>
 bnd (jC v3 (some x7) (some v6) h6) fun v7 h7 =>
 some (v7, h7)
noncomputable def bFw (r : RT) (n : Nat) (kk4 : dB) (x0 x1 x2 x7 : DV) (h0 : Hp) : aK :=
 bnd (aO x0 h0) fun v1 h1 =>
 bnd (aB 1 v1 h1) fun v2 h2 =>
 bnd (aA v2 h2) fun v3 h3 =>
 bnd (aO x0 h3) fun v4 h4 =>
 bnd (aB 0 v4 h4) fun v5 h5 =>
 bnd (aA v5 h5) fun v6 h6 =>
 bnd (gA v6 h6) fun v7 h7 =>
 bnd (aF .lss v3 v7 h7) fun v8 h8 =>
 bnd (gD v8 true (some (x0, h8)) h8) fun v9 h9 =>
 bnd (gD v8 true (aO v9 h9) h9) fun v10 h10 =>
 bnd (gD v8 true (aB 1 v10 h10) h10) fun v11 h11 =>
 bnd (gD v8 true (aA v11 h11) h11) fun v12 h12 =>
 bnd (gD v8 true (some (x7, h12)) h12) fun v13 h13 =>
 bnd (gD v8 true (aF .sub v12 v13 h13) h13) fun v14 h14 =>
 bnd (gD v8 true (some (x2, h14)) h14) fun v15 h15 =>
 bnd (gD v8 true (aF .lss v14 v15 h15) h15) fun v16 h16 =>
 bnd (aQ v8 v16 (.b false) h16) fun v17 h17 =>
 bnd (gD v17 true (some (x1, h17)) h17) fun v18 h18 =>
 bnd (gD v17 true (some (x0, h18)) h18) fun v19 h19 =>
 bnd (gD v17 true (aO v19 h19) h19) fun v20 h20 =>
 bnd (gD v17 true (aB 0 v20 h20) h20) fun v21 h21 =>
 bnd (gD v17 true (aA v21 h21) h21) fun v22 h22 =>
 bnd (gD v17 true (some (x0, h22)) h22) fun v23 h23 =>
 bnd (gD v17 true (aO v23 h23) h23) fun v24 h24 =>
 bnd (gD v17 true (aB 1 v24 h24) h24) fun v25 h25 =>
 bnd (gD v17 true (aA v25 h25) h25) fun v26 h26 =>
 bnd (gD v17 true (fE v22 v26 h26) h26) fun v27 h27 =>
 bnd (gD v17 true (cK CF r v18 [v27] h27) h27) fun v28 h28 =>
 bnd (aQ v17 v28 (.b false) h28) fun v29 h29 =>
 aU v29 (
 bnd (aO x0 h29) fun v30 h30 =>
 bnd (aB 1 v30 h30) fun v31 h31 =>
 bnd (aA v31 h31) fun v32 h32 =>
 bnd (aF .add v32 (aC 1) h32) fun v33 h33 =>
 bnd (aO x0 h33) fun v34 h34 =>
 bnd (aB 1 v34 h34) fun v35 h35 =>
 bnd (aD 1 v35 v33 h35) fun _ h36 =>
      kk4 x0 x1 x2 x7 h36) (
      fU r n x0 x7 h29)
noncomputable def vR (r : RT) (n : Nat) (m : Nat) : dB :=
 Nat.rec (motive := fun _ => dB) (fun _ _ _ _ _ => none) (fun _ ih => bFw r n ih) m
noncomputable def bXq (r : RT) (n : Nat) : dB := vR r n n
noncomputable def aUe (r : RT) (n : Nat) (x0 x1 x2 x7 : DV) (h0 : Hp) : aK :=
 bXq r n x0 x1 x2 x7 h0
noncomputable def aUz (r : RT) (n : Nat) (x0 x1 x2 : DV) (h0 : Hp) : aK :=
 bnd (aO x0 h0) fun v1 h1 =>
 bnd (aB 1 v1 h1) fun v2 h2 =>
 bnd (aA v2 h2) fun v3 h3 =>
  aUe r n x0 x1 x2 v3 h3
noncomputable def s175 (r : RT) (n : Nat) (x0 x1 x2 : DV) (h0 : Hp) : aK :=
 aUz r n x0 x1 x2 h0
noncomputable abbrev c175 : Code := cf Tryz.f175
noncomputable abbrev aEw : Code := cR c175
noncomputable abbrev aHv : Code := cR aEw
noncomputable abbrev dIj : Code := cR aHv
noncomputable abbrev aOy : Code := cL aHv
noncomputable abbrev aOe : Code := cL aOy
noncomputable abbrev oR : Code := cL aOe
noncomputable abbrev bSv : Code := cL aEw
noncomputable abbrev cKg : Code := cL c175
noncomputable abbrev r175 : K := aR CF Tryz.f175
noncomputable def D175 (r : RT) (n : Nat) (c : Code) (X : Nat → K) (k : K) : K := aM CF r 62 n c X r175 k
theorem cSl : D175 r n dIj x0 r175 = (K2 (fU r n) 0 7) :=
 (by kernel_rfl)
theorem cGg (kk4 : dB) : D175 r n oR (xs x0 0 (K2 (fU r n) 0 7)) (K4 kk4 0 1 2 7) = (K4 (bFw r n kk4) 0 1 2 7) :=
 (by kernel_rfl)
theorem bWb (m : Nat) : aL (fun kk => D175 r n oR (xs x0 0 (K2 (fU r n) 0 7)) kk) m = (K4 (vR r n m) 0 1 2 7) := by
 induction m with
 | zero => exact (by kernel_rfl : aL (fun kk => D175 r n oR (xs x0 0 (K2 (fU r n) 0 7)) kk) 0 = (K4 (vR r n 0) 0 1 2 7))
 | succ m ih =>
  refine (by kernel_rfl : aL (fun kk => D175 r n oR (xs x0 0 (K2 (fU r n) 0 7)) kk) (m + 1) = D175 r n oR (xs x0 0 (K2 (fU r n) 0 7)) (aL (fun kk => D175 r n oR (xs x0 0 (K2 (fU r n) 0 7)) kk) m)).trans ?_
  rw [ih]
  exact (cGg r n (vR r n m)).trans (by kernel_rfl)
theorem cQp : D175 r n aOe (xs x0 0 (K2 (fU r n) 0 7)) (K2 (fU r n) 0 7) = (K4 (bXq r n) 0 1 2 7) :=
 (by kernel_rfl : D175 r n aOe (xs x0 0 (K2 (fU r n) 0 7)) (K2 (fU r n) 0 7) = aL (fun kk => D175 r n oR (xs x0 0 (K2 (fU r n) 0 7)) kk) n).trans ((bWb r n n).trans (by kernel_rfl))
theorem bWf : D175 r n aHv x0 r175 = D175 r n aOy x0 (K2 (fU r n) 0 7) :=
 congrArg (fun k => D175 r n aOy x0 k) (cSl r n)
theorem dEl : D175 r n aHv x0 r175 = (K4 (aUe r n) 0 1 2 7) :=
 (bWf r n).trans
 ((by kernel_rfl : D175 r n aOy x0 (K2 (fU r n) 0 7) = D175 r n aOe (xs x0 0 (K2 (fU r n) 0 7)) (K2 (fU r n) 0 7)).trans
 ((cQp r n).trans (by kernel_rfl)))
theorem cGm : D175 r n aEw x0 r175 = D175 r n bSv x0 (K4 (aUe r n) 0 1 2 7) :=
 congrArg (fun k => D175 r n bSv x0 k) (dEl r n)
theorem dAs : D175 r n aEw x0 r175 = (K3 (aUz r n) 0 1 2) :=
 (cGm r n).trans
 ((by kernel_rfl))
theorem dMm : D175 r n c175 x0 r175 = D175 r n cKg x0 (K3 (aUz r n) 0 1 2) :=
 congrArg (fun k => D175 r n cKg x0 k) (dAs r n)
theorem eFf : D175 r n c175 x0 r175 = (K3 (s175 r n) 0 1 2) :=
 (dMm r n).trans
 ((by kernel_rfl))
theorem dUu : aE CF r n 175 args h = s175 r n (aP args 0) (aP args 1) (aP args 2) h :=
 (by kernel_rfl : aE CF r n 175 args h = D175 r n c175 x0 r175 (aJ args) h).trans ((congrFun (congrFun (eFf r n) (aJ args)) h).trans (by kernel_rfl))
noncomputable def s176 (r : RT) (n : Nat) (x0 : DV) (h0 : Hp) : aK :=
 bnd (bM x0 h0) fun v1 h1 =>
 some ((.f 200 [] [v1]), h1)
noncomputable abbrev c176 : Code := cf Tryz.f176
noncomputable abbrev r176 : K := aR CF Tryz.f176
noncomputable def D176 (r : RT) (n : Nat) (c : Code) (X : Nat → K) (k : K) : K := aM CF r 4 n c X r176 k
theorem eIq : D176 r n c176 x0 r176 = (K1 (s176 r n) 0) :=
 (by kernel_rfl)
theorem dLp : aE CF r n 176 args h = s176 r n (aP args 0) h :=
 (by kernel_rfl : aE CF r n 176 args h = D176 r n c176 x0 r176 (aJ args) h).trans ((congrFun (congrFun (eIq r n) (aJ args)) h).trans (by kernel_rfl))
noncomputable def s177 (r : RT) (n : Nat) (x0 x1 : DV) (h0 : Hp) : aK :=
 bnd (r 201 [x0, x1] h0) fun v1 h1 =>
 some (v1, h1)
noncomputable abbrev c177 : Code := cf Tryz.f177
noncomputable abbrev r177 : K := aR CF Tryz.f177
noncomputable def D177 (r : RT) (n : Nat) (c : Code) (X : Nat → K) (k : K) : K := aM CF r 8 n c X r177 k
theorem eGg : D177 r n c177 x0 r177 = (K2 (s177 r n) 0 1) :=
 (by kernel_rfl)
theorem dWk : aE CF r n 177 args h = s177 r n (aP args 0) (aP args 1) h :=
 (by kernel_rfl : aE CF r n 177 args h = D177 r n c177 x0 r177 (aJ args) h).trans ((congrFun (congrFun (eGg r n) (aJ args)) h).trans (by kernel_rfl))
noncomputable def iK (r : RT) (n : Nat) (x2 x4 x5 : DV) (h0 : Hp) : aK :=
 bnd (aH 4 x4 h0) fun v1 h1 =>
 bnd (aD 4 x2 v1 h1) fun _ h2 =>
 bnd (aH 4 x2 h2) fun v3 _ =>
 some (.t [v3, x5], h2)
noncomputable def aYm (r : RT) (n : Nat) (x0 x2 x4 x5 x6 : DV) (h0 : Hp) : aK :=
 bnd (r 203 [x6] h0) fun v1 h1 =>
 aU v1 (
 bnd (aB 0 x4 h1) fun v2 h2 =>
 bnd (aD 1 v2 (aC 1) h2) fun _ h3 =>
 bnd (r 204 [x0] h3) fun v4 h4 =>
 bnd (aG 0 v4 h4) fun v5 h5 =>
 bnd (aG 1 v4 h5) fun v6 h6 =>
 bnd (aB 1 x4 h6) fun v7 h7 =>
 bnd (aD 1 v7 v5 h7) fun _ h8 =>
 bnd (aF .eql v6 (aC 0) h8) fun v9 h9 =>
 bnd (gD v9 true (some (x0, h9)) h9) fun v10 h10 =>
 bnd (gD v9 true (r 205 [v10] h10) h10) fun v11 h11 =>
 bnd (aQ v9 v11 (.b false) h11) fun v12 h12 =>
 aU v12 (
 bnd (aB 1 x4 h12) fun v13 h13 =>
 bnd (aA v13 h13) fun v14 h14 =>
 bnd (eG .add v14 (.s [58]) h14) fun v15 h15 =>
 bnd (aB 0 x4 h15) fun v16 h16 =>
 bnd (aD 1 v16 (aC 2) h16) fun _ h17 =>
 bnd (aB 1 x4 h17) fun v18 h18 =>
 bnd (aD 1 v18 v15 h18) fun _ h19 =>
      iK r n x2 x4 v6 h19) (
      iK r n x2 x4 v6 h12)) (
 bnd (r 206 [x6] h1) fun v20 h20 =>
 aU v20 (
 bnd (aB 0 x4 h20) fun v21 h21 =>
 bnd (aD 1 v21 (aC 4) h21) fun _ h22 =>
 bnd (r 207 [x0] h22) fun v23 h23 =>
 bnd (aG 0 v23 h23) fun v24 h24 =>
 bnd (aG 1 v23 h24) fun v25 h25 =>
 bnd (aB 2 x4 h25) fun v26 h26 =>
 bnd (aD 1 v26 v24 h26) fun _ h27 =>
      iK r n x2 x4 v25 h27) (
 bnd (aF .eql x6 (.i .u8 (Int.ofNat 39)) h20) fun v28 h28 =>
 aU v28 (
 bnd (aO x0 h28) fun v29 h29 =>
 bnd (aB 1 v29 h29) fun v30 h30 =>
 bnd (aA v30 h30) fun v31 h31 =>
 bnd (aF .add v31 (aC 1) h31) fun v32 h32 =>
 bnd (aO x0 h32) fun v33 h33 =>
 bnd (aB 1 v33 h33) fun v34 h34 =>
 bnd (aD 1 v34 v32 h34) fun _ h35 =>
 bnd (aB 0 x4 h35) fun v36 h36 =>
 bnd (aD 1 v36 (aC 5) h36) fun _ h37 =>
 bnd (r 208 [x0] h37) fun v38 h38 =>
 bnd (aG 0 v38 h38) fun v39 h39 =>
 bnd (aG 1 v38 h39) fun v40 h40 =>
 bnd (aB 1 x4 h40) fun v41 h41 =>
 bnd (aD 1 v41 v39 h41) fun _ h42 =>
    iK r n x2 x4 v40 h42) (
 bnd (aF .eql x6 (.i .u8 (Int.ofNat 35)) h28) fun v43 h43 =>
 bnd (gD v43 true (some (x0, h43)) h43) fun v44 h44 =>
 bnd (gD v43 true (r 202 [v44, (aC 1)] h44) h44) fun v45 h45 =>
 bnd (gD v43 true (aF .eql v45 (.i .u8 (Int.ofNat 40)) h45) h45) fun v46 h46 =>
 bnd (aQ v43 v46 (.b false) h46) fun v47 h47 =>
 aU v47 (
 bnd (aO x0 h47) fun v48 h48 =>
 bnd (aB 1 v48 h48) fun v49 h49 =>
 bnd (aA v49 h49) fun v50 h50 =>
 bnd (aF .add v50 (aC 2) h50) fun v51 h51 =>
 bnd (aO x0 h51) fun v52 h52 =>
 bnd (aB 1 v52 h52) fun v53 h53 =>
 bnd (aD 1 v53 v51 h53) fun _ h54 =>
 bnd (aB 0 x4 h54) fun v55 h55 =>
 bnd (aD 1 v55 (aC 7) h55) fun _ h56 =>
     iK r n x2 x4 x5 h56) (
 bnd (aF .eql x6 (.i .u8 (Int.ofNat 35)) h47) fun v57 h57 =>
 aU v57 (
 bnd (aO x0 h57) fun v58 h58 =>
 bnd (aB 1 v58 h58) fun v59 h59 =>
 bnd (aA v59 h59) fun v60 h60 =>
 bnd (aF .add v60 (aC 1) h60) fun v61 h61 =>
 bnd (aO x0 h61) fun v62 h62 =>
 bnd (aB 1 v62 h62) fun v63 h63 =>
 bnd (aD 1 v63 v61 h63) fun _ h64 =>
 bnd (aB 0 x4 h64) fun v65 h65 =>
 bnd (aD 1 v65 (aC 6) h65) fun _ h66 =>
 bnd (r 209 [x0] h66) fun v67 h67 =>
 bnd (aG 0 v67 h67) fun v68 h68 =>
 bnd (aG 1 v67 h68) fun v69 h69 =>
 bnd (aB 1 x4 h69) fun v70 h70 =>
 bnd (aD 1 v70 v68 h70) fun _ h71 =>
      iK r n x2 x4 v69 h71) (
 bnd (aF .eql x6 (.i .u8 (Int.ofNat 58)) h57) fun v72 h72 =>
 bnd (gD v72 true (some (x0, h72)) h72) fun v73 h73 =>
 bnd (gD v72 true (r 202 [v73, (aC 1)] h73) h73) fun v74 h74 =>
 bnd (gD v72 true (aF .eql v74 (.i .u8 (Int.ofNat 61)) h74) h74) fun v75 h75 =>
 bnd (aQ v72 v75 (.b false) h75) fun v76 h76 =>
 aU v76 (
 bnd (aO x0 h76) fun v77 h77 =>
 bnd (aB 1 v77 h77) fun v78 h78 =>
 bnd (aA v78 h78) fun v79 h79 =>
 bnd (aF .add v79 (aC 2) h79) fun v80 h80 =>
 bnd (aO x0 h80) fun v81 h81 =>
 bnd (aB 1 v81 h81) fun v82 h82 =>
 bnd (aD 1 v82 v80 h82) fun _ h83 =>
 bnd (aB 0 x4 h83) fun v84 h84 =>
 bnd (aD 1 v84 (aC 9) h84) fun _ h85 =>
       iK r n x2 x4 x5 h85) (
 bnd (aF .eql x6 (.i .u8 (Int.ofNat 58)) h76) fun v86 h86 =>
 bnd (gD v86 true (some (x0, h86)) h86) fun v87 h87 =>
 bnd (gD v86 true (r 202 [v87, (aC 1)] h87) h87) fun v88 h88 =>
 bnd (gD v86 true (r 203 [v88] h88) h88) fun v89 h89 =>
 bnd (aQ v86 v89 (.b false) h89) fun v90 h90 =>
 aU v90 (
 bnd (aO x0 h90) fun v91 h91 =>
 bnd (aB 1 v91 h91) fun v92 h92 =>
 bnd (aA v92 h92) fun v93 h93 =>
 bnd (aF .add v93 (aC 1) h93) fun v94 h94 =>
 bnd (aO x0 h94) fun v95 h95 =>
 bnd (aB 1 v95 h95) fun v96 h96 =>
 bnd (aD 1 v96 v94 h96) fun _ h97 =>
 bnd (aB 0 x4 h97) fun v98 h98 =>
 bnd (aD 1 v98 (aC 8) h98) fun _ h99 =>
 bnd (r 204 [x0] h99) fun v100 h100 =>
 bnd (aG 0 v100 h100) fun v101 h101 =>
 bnd (aG 1 v100 h101) fun v102 h102 =>
 bnd (aB 1 x4 h102) fun v103 h103 =>
 bnd (aD 1 v103 v101 h103) fun _ h104 =>
        iK r n x2 x4 v102 h104) (
 bnd (r 176 [(.s [43, 45, 42, 47, 60, 62, 61, 126, 44, 64, 38, 37])] h90) fun v105 h105 =>
 bnd (cK CF r v105 [x6] h105) fun v106 h106 =>
 aU v106 (
 bnd (r 176 [(.s [43, 45, 42, 47, 60, 62, 61, 126, 44, 64, 38, 37])] h106) fun v107 h107 =>
 bnd (r 175 [x0, v107, (aC 2)] h107) fun v108 h108 =>
 bnd (aB 0 x4 h108) fun v109 h109 =>
 bnd (aD 1 v109 (aC 3) h109) fun _ h110 =>
 bnd (aB 1 x4 h110) fun v111 h111 =>
 bnd (aD 1 v111 v108 h111) fun _ h112 =>
         iK r n x2 x4 x5 h112) (
 bnd (r 176 [(.s [94, 46, 59, 40, 41, 91, 93, 124])] h106) fun v113 h113 =>
 bnd (cK CF r v113 [x6] h113) fun v114 h114 =>
 aU v114 (
 bnd (r 176 [(.s [94, 46, 59, 40, 41, 91, 93, 124])] h114) fun v115 h115 =>
 bnd (r 175 [x0, v115, (aC 1)] h115) fun v116 h116 =>
 bnd (aB 0 x4 h116) fun v117 h117 =>
 bnd (aD 1 v117 (aC 10) h117) fun _ h118 =>
 bnd (aB 1 x4 h118) fun v119 h119 =>
 bnd (aD 1 v119 v116 h119) fun _ h120 =>
          iK r n x2 x4 x5 h120) (
          iK r n x2 x4 (aC 10) h114)))))))))
noncomputable def aUv (r : RT) (n : Nat) (x0 x2 x4 x5 : DV) (h0 : Hp) : aK :=
 bnd (r 202 [x0, (aC 0)] h0) fun v1 h1 =>
  aYm r n x0 x2 x4 x5 v1 h1
noncomputable def xS (r : RT) (n : Nat) (x0 x2 x4 : DV) (h0 : Hp) : aK :=
 aUv r n x0 x2 x4 (aC 0) h0
noncomputable def qZ (r : RT) (n : Nat) (x0 x2 : DV) (h0 : Hp) : aK :=
 bnd (aO x0 h0) fun v1 h1 =>
 bnd (aB 1 v1 h1) fun v2 h2 =>
 bnd (aA v2 h2) fun v3 h3 =>
 bnd (aT [(aC 0), (.s []), (aC 0), (aC 0)] [(3, 1, v3)] h3) fun v4 h4 =>
 bnd (bA [(aC 0), (.s []), (aC 0), (aC 0)] h4) fun v5 h5 =>
 bnd (aD 4 v5 v4 h5) fun _ h6 =>
  xS r n x0 x2 v5 h6
noncomputable def s178 (r : RT) (n : Nat) (x0 : DV) (h0 : Hp) : aK :=
 bnd (bA [(aC 0), (.s []), (aC 0), (aC 0)] h0) fun v1 h1 =>
  qZ r n x0 v1 h1
noncomputable abbrev c178 : Code := cf Tryz.f178
noncomputable abbrev aMw : Code := cR c178
noncomputable abbrev aHr : Code := cR aMw
noncomputable abbrev aDh : Code := cR aHr
noncomputable abbrev aGg : Code := cR aDh
noncomputable abbrev dKp : Code := cR aGg
noncomputable abbrev cEy : Code := cL aGg
noncomputable abbrev bUl : Code := cL aDh
noncomputable abbrev cKb : Code := cL aHr
noncomputable abbrev aTp : Code := cL aMw
noncomputable abbrev aNc : Code := cL c178
noncomputable abbrev r178 : K := aR CF Tryz.f178
noncomputable def D178 (r : RT) (n : Nat) (c : Code) (X : Nat → K) (k : K) : K := aM CF r 153 n c X r178 k
theorem dBt : D178 r n dKp x0 r178 = (K3 (iK r n) 2 4 5) :=
 (by kernel_rfl)
theorem cKy : D178 r n aGg x0 r178 = D178 r n cEy x0 (K3 (iK r n) 2 4 5) :=
 congrArg (fun k => D178 r n cEy x0 k) (dBt r n)
theorem dDt : D178 r n aGg x0 r178 = (K5 (aYm r n) 0 2 4 5 6) :=
 (cKy r n).trans
 ((by kernel_rfl))
theorem bUr : D178 r n aDh x0 r178 = D178 r n bUl x0 (K5 (aYm r n) 0 2 4 5 6) :=
 congrArg (fun k => D178 r n bUl x0 k) (dDt r n)
theorem dGd : D178 r n aDh x0 r178 = (K4 (aUv r n) 0 2 4 5) :=
 (bUr r n).trans
 ((by kernel_rfl))
theorem bYg : D178 r n aHr x0 r178 = D178 r n cKb x0 (K4 (aUv r n) 0 2 4 5) :=
 congrArg (fun k => D178 r n cKb x0 k) (dGd r n)
theorem cPd : D178 r n aHr x0 r178 = (K3 (xS r n) 0 2 4) :=
 (bYg r n).trans
 ((by kernel_rfl))
theorem cMj : D178 r n aMw x0 r178 = D178 r n aTp x0 (K3 (xS r n) 0 2 4) :=
 congrArg (fun k => D178 r n aTp x0 k) (cPd r n)
theorem cBr (q0 : dH) : D178 r n aTp x0 (K3 q0 0 2 4) = fun (env : aV) (h : Hp) =>
 bnd (aO (env 0) h) fun v1 h1 =>
 bnd (aB 1 v1 h1) fun v2 h2 =>
 bnd (aA v2 h2) fun v3 h3 =>
 bnd (aT [(aC 0), (.s []), (aC 0), (aC 0)] [(3, 1, v3)] h3) fun v4 h4 =>
 bnd (bA [(aC 0), (.s []), (aC 0), (aC 0)] h4) fun v5 h5 =>
 bnd (aD 4 v5 v4 h5) fun _ h6 =>
  q0 (env 0) (env 2) v5 h6 := by kernel_rfl
theorem bKv : (fun (env : aV) (h : Hp) =>
 bnd (aO (env 0) h) fun v1 h1 =>
 bnd (aB 1 v1 h1) fun v2 h2 =>
 bnd (aA v2 h2) fun v3 h3 =>
 bnd (aT [(aC 0), (.s []), (aC 0), (aC 0)] [(3, 1, v3)] h3) fun v4 h4 =>
 bnd (bA [(aC 0), (.s []), (aC 0), (aC 0)] h4) fun v5 h5 =>
 bnd (aD 4 v5 v4 h5) fun _ h6 =>
  xS r n (env 0) (env 2) v5 h6) = (K2 (qZ r n) 0 2) := by kernel_rfl
theorem dDf : D178 r n aMw x0 r178 = (K2 (qZ r n) 0 2) :=
 (cMj r n).trans
 ((cBr r n (xS r n)).trans (bKv r n))
theorem dMb : D178 r n c178 x0 r178 = D178 r n aNc x0 (K2 (qZ r n) 0 2) :=
 congrArg (fun k => D178 r n aNc x0 k) (dDf r n)
theorem dMl (q0 : eN) : D178 r n aNc x0 (K2 q0 0 2) = fun (env : aV) (h : Hp) =>
 bnd (bA [(aC 0), (.s []), (aC 0), (aC 0)] h) fun v1 h1 =>
  q0 (env 0) v1 h1 := by kernel_rfl
theorem dEv : (fun (env : aV) (h : Hp) =>
 bnd (bA [(aC 0), (.s []), (aC 0), (aC 0)] h) fun v1 h1 =>
  qZ r n (env 0) v1 h1) = (K1 (s178 r n) 0) := by kernel_rfl
theorem dXt : D178 r n c178 x0 r178 = (K1 (s178 r n) 0) :=
 (dMb r n).trans
 ((dMl r n (qZ r n)).trans (dEv r n))
theorem dKb : aE CF r n 178 args h = s178 r n (aP args 0) h :=
 (by kernel_rfl : aE CF r n 178 args h = D178 r n c178 x0 r178 (aJ args) h).trans ((congrFun (congrFun (dXt r n) (aJ args)) h).trans (by kernel_rfl))
noncomputable def s179 (r : RT) (n : Nat) (x0 x1 x2 : DV) (h0 : Hp) : aK :=
 bnd (r 183 [x0, (aC 0)] h0) fun v1 h1 =>
 bnd (bA [(aC 0), (.s []), (aC 0), (aC 0)] h1) fun v2 h2 =>
 bnd (aD 4 v2 v1 h2) fun _ h3 =>
 bnd (aO x0 h3) fun v4 h4 =>
 bnd (aB 3 v4 h4) fun v5 h5 =>
 bnd (aA v5 h5) fun v6 h6 =>
 bnd (aF .eql v6 (aC 0) h6) fun v7 h7 =>
 bnd (gD v7 true (aB 0 v2 h7) h7) fun v8 h8 =>
 bnd (gD v7 true (aA v8 h8) h8) fun v9 h9 =>
 bnd (gD v7 true (some (x1, h9)) h9) fun v10 h10 =>
 bnd (gD v7 true (aF .eql v9 v10 h10) h10) fun v11 h11 =>
 bnd (aQ v7 v11 (.b false) h11) fun v12 h12 =>
 bnd (gD v12 true (some (x2, h12)) h12) fun v13 h13 =>
 bnd (gD v12 true (eG .eql v13 (.s []) h13) h13) fun v14 h14 =>
 bnd (gD v12 true (some (v14, h14)) h14) fun v15 h15 =>
 bnd (gD v15 false (aB 1 v2 h15) h15) fun v16 h16 =>
 bnd (gD v15 false (aA v16 h16) h16) fun v17 h17 =>
 bnd (gD v15 false (some (x2, h17)) h17) fun v18 h18 =>
 bnd (gD v15 false (eG .eql v17 v18 h18) h18) fun v19 h19 =>
 bnd (gD v12 true (aQ v15 (.b true) v19 h19) h19) fun v20 h20 =>
 bnd (aQ v12 v20 (.b false) h20) fun v21 h21 =>
 some (v21, h21)
noncomputable abbrev c179 : Code := cf Tryz.f179
noncomputable abbrev r179 : K := aR CF Tryz.f179
noncomputable def D179 (r : RT) (n : Nat) (c : Code) (X : Nat → K) (k : K) : K := aM CF r 31 n c X r179 k
theorem eCh : D179 r n c179 x0 r179 = (K3 (s179 r n) 0 1 2) :=
 (by kernel_rfl)
theorem dTh : aE CF r n 179 args h = s179 r n (aP args 0) (aP args 1) (aP args 2) h :=
 (by kernel_rfl : aE CF r n 179 args h = D179 r n c179 x0 r179 (aJ args) h).trans ((congrFun (congrFun (eCh r n) (aJ args)) h).trans (by kernel_rfl))
noncomputable def aFn (r : RT) (n : Nat) (x2 x3 : DV) (h0 : Hp) : aK :=
 bnd (aH 4 x3 h0) fun v1 h1 =>
 bnd (aD 4 x2 v1 h1) fun _ h2 =>
 bnd (aH 4 x2 h2) fun v3 _ =>
 some (v3, h2)
noncomputable def wR (r : RT) (n : Nat) (x0 x2 x3 : DV) (h0 : Hp) : aK :=
 bnd (aB 0 x3 h0) fun v1 h1 =>
 bnd (aA v1 h1) fun v2 h2 =>
 bnd (aF .neq v2 (aC 0) h2) fun v3 h3 =>
 aU v3 (
 bnd (aO x0 h3) fun v4 h4 =>
 bnd (aB 0 v4 h4) fun v5 h5 =>
 bnd (aA v5 h5) fun v6 h6 =>
 bnd (cT 4 v6 (some (aC 1)) none h6) fun v7 h7 =>
 bnd (aO x0 h7) fun v8 h8 =>
 bnd (aB 0 v8 h8) fun v9 h9 =>
 bnd (aD 1 v9 v7 h9) fun _ h10 =>
  aFn r n x2 x3 h10) (
  aFn r n x2 x3 h3)
noncomputable def rF (r : RT) (n : Nat) (x0 x2 : DV) (h0 : Hp) : aK :=
 bnd (r 183 [x0, (aC 0)] h0) fun v1 h1 =>
 bnd (bA [(aC 0), (.s []), (aC 0), (aC 0)] h1) fun v2 h2 =>
 bnd (aD 4 v2 v1 h2) fun _ h3 =>
  wR r n x0 x2 v2 h3
noncomputable def s180 (r : RT) (n : Nat) (x0 : DV) (h0 : Hp) : aK :=
 bnd (bA [(aC 0), (.s []), (aC 0), (aC 0)] h0) fun v1 h1 =>
  rF r n x0 v1 h1
noncomputable abbrev c180 : Code := cf Tryz.f180
noncomputable abbrev aLf : Code := cR c180
noncomputable abbrev aCv : Code := cR aLf
noncomputable abbrev dSh : Code := cR aCv
noncomputable abbrev cIu : Code := cL aCv
noncomputable abbrev aWs : Code := cL aLf
noncomputable abbrev aTi : Code := cL c180
noncomputable abbrev r180 : K := aR CF Tryz.f180
noncomputable def D180 (r : RT) (n : Nat) (c : Code) (X : Nat → K) (k : K) : K := aM CF r 18 n c X r180 k
theorem cOt : D180 r n dSh x0 r180 = (K2 (aFn r n) 2 3) :=
 (by kernel_rfl)
theorem cCx : D180 r n aCv x0 r180 = D180 r n cIu x0 (K2 (aFn r n) 2 3) :=
 congrArg (fun k => D180 r n cIu x0 k) (cOt r n)
theorem dFr : D180 r n aCv x0 r180 = (K3 (wR r n) 0 2 3) :=
 (cCx r n).trans
 ((by kernel_rfl))
theorem cNk : D180 r n aLf x0 r180 = D180 r n aWs x0 (K3 (wR r n) 0 2 3) :=
 congrArg (fun k => D180 r n aWs x0 k) (dFr r n)
theorem bXa (q0 : dH) : D180 r n aWs x0 (K3 q0 0 2 3) = fun (env : aV) (h : Hp) =>
 bnd (r 183 [(env 0), (aC 0)] h) fun v1 h1 =>
 bnd (bA [(aC 0), (.s []), (aC 0), (aC 0)] h1) fun v2 h2 =>
 bnd (aD 4 v2 v1 h2) fun _ h3 =>
  q0 (env 0) (env 2) v2 h3 := by kernel_rfl
theorem bNf : (fun (env : aV) (h : Hp) =>
 bnd (r 183 [(env 0), (aC 0)] h) fun v1 h1 =>
 bnd (bA [(aC 0), (.s []), (aC 0), (aC 0)] h1) fun v2 h2 =>
 bnd (aD 4 v2 v1 h2) fun _ h3 =>
  wR r n (env 0) (env 2) v2 h3) = (K2 (rF r n) 0 2) := by kernel_rfl
theorem cWe : D180 r n aLf x0 r180 = (K2 (rF r n) 0 2) :=
 (cNk r n).trans
 ((bXa r n (wR r n)).trans (bNf r n))
theorem dOl : D180 r n c180 x0 r180 = D180 r n aTi x0 (K2 (rF r n) 0 2) :=
 congrArg (fun k => D180 r n aTi x0 k) (cWe r n)
theorem dNc (q0 : eN) : D180 r n aTi x0 (K2 q0 0 2) = fun (env : aV) (h : Hp) =>
 bnd (bA [(aC 0), (.s []), (aC 0), (aC 0)] h) fun v1 h1 =>
  q0 (env 0) v1 h1 := by kernel_rfl
theorem cQy : (fun (env : aV) (h : Hp) =>
 bnd (bA [(aC 0), (.s []), (aC 0), (aC 0)] h) fun v1 h1 =>
  rF r n (env 0) v1 h1) = (K1 (s180 r n) 0) := by kernel_rfl
theorem eCo : D180 r n c180 x0 r180 = (K1 (s180 r n) 0) :=
 (dOl r n).trans
 ((dNc r n (rF r n)).trans (cQy r n))
theorem dLi : aE CF r n 180 args h = s180 r n (aP args 0) h :=
 (by kernel_rfl : aE CF r n 180 args h = D180 r n c180 x0 r180 (aJ args) h).trans ((congrFun (congrFun (eCo r n) (aJ args)) h).trans (by kernel_rfl))
noncomputable def s181 (r : RT) (n : Nat) (x0 : DV) (h0 : Hp) : aK :=
 bnd (bA cQ h0) fun v1 h1 =>
 bnd (r 179 [x0, (aC 1), (.s [])] h1) fun v2 h2 =>
 bnd (gD v2 true (some (x0, h2)) h2) fun v3 h3 =>
 bnd (gD v2 true (r 183 [v3, (aC 1)] h3) h3) fun v4 h4 =>
 bnd (gD v2 true (dD 0 v4 h4) h4) fun v5 h5 =>
 bnd (gD v2 true (aF .eql v5 (aC 9) h5) h5) fun v6 h6 =>
 bnd (aQ v2 v6 (.b false) h6) fun v7 h7 =>
 aU v7 (
 bnd (r 180 [x0] h7) fun v8 h8 =>
 bnd (dD 1 v8 h8) fun v9 h9 =>
 bnd (aT cQ [(0, 1, (aC 6)), (1, 1, v9)] h9) fun v10 h10 =>
 bnd (bA cQ h10) fun v11 h11 =>
 bnd (aD 6 v11 v10 h11) fun _ h12 =>
 bnd (r 180 [x0] h12) fun v13 h13 =>
 bnd (r 181 [x0] h13) fun v14 h14 =>
 bnd (aN cQ 1 [(0, 6, v14)] h14) fun v15 h15 =>
 bnd (aB 5 v11 h15) fun v16 h16 =>
 bnd (aD 1 v16 v15 h16) fun _ h17 =>
 bnd (aH 6 v11 h17) fun v18 h18 =>
 bnd (aD 6 v1 v18 h18) fun _ h19 =>
 bnd (aH 6 v1 h19) fun v20 _ =>
 some (v20, h19)) (
 bnd (r 210 [x0] h7) fun v21 h21 =>
 bnd (aD 6 v1 v21 h21) fun _ h22 =>
 bnd (aH 6 v1 h22) fun v23 _ =>
 some (v23, h22))
noncomputable abbrev c181 : Code := cf Tryz.f181
noncomputable abbrev r181 : K := aR CF Tryz.f181
noncomputable def D181 (r : RT) (n : Nat) (c : Code) (X : Nat → K) (k : K) : K := aM CF r 25 n c X r181 k
theorem eGe : D181 r n c181 x0 r181 = (K1 (s181 r n) 0) :=
 (by kernel_rfl)
theorem dTw : aE CF r n 181 args h = s181 r n (aP args 0) h :=
 (by kernel_rfl : aE CF r n 181 args h = D181 r n c181 x0 r181 (aJ args) h).trans ((congrFun (congrFun (eGe r n) (aJ args)) h).trans (by kernel_rfl))
noncomputable def s183 (r : RT) (n : Nat) (x0 x1 : DV) (h0 : Hp) : aK :=
 bnd (bA [(aC 0), (.s []), (aC 0), (aC 0)] h0) fun v1 h1 =>
 bnd (aO x0 h1) fun v2 h2 =>
 bnd (aB 0 v2 h2) fun v3 h3 =>
 bnd (aA v3 h3) fun v4 h4 =>
 bnd (aO x0 h4) fun v5 h5 =>
 bnd (aB 0 v5 h5) fun v6 h6 =>
 bnd (aA v6 h6) fun v7 h7 =>
 bnd (bK v7 h7) fun v8 h8 =>
 bnd (aF .sub v8 (aC 1) h8) fun v9 h9 =>
 bnd (aVp x1 v9 h9) fun v10 h10 =>
 bnd (aI 4 v4 v10 h10) fun v11 h11 =>
 bnd (aH 4 v11 h11) fun v12 h12 =>
 bnd (aD 4 v1 v12 h12) fun v13 h13 =>
 bnd (aH 4 v1 h13) fun v14 _ =>
 some (v14, h13)
noncomputable abbrev c183 : Code := cf Tryz.f183
noncomputable abbrev r183 : K := aR CF Tryz.f183
noncomputable def D183 (r : RT) (n : Nat) (c : Code) (X : Nat → K) (k : K) : K := aM CF r 19 n c X r183 k
theorem eBs : D183 r n c183 x0 r183 = (K2 (s183 r n) 0 1) :=
 (by kernel_rfl)
theorem dTq : aE CF r n 183 args h = s183 r n (aP args 0) (aP args 1) h :=
 (by kernel_rfl : aE CF r n 183 args h = D183 r n c183 x0 r183 (aJ args) h).trans ((congrFun (congrFun (eBs r n) (aJ args)) h).trans (by kernel_rfl))
end Go.Dd

namespace Go.Dd
open Go.Proofs
variable (r : RT) (n : Nat) (args : List DV) (h : Hp)
noncomputable def aKd (r : RT) (n : Nat) (x7 : DV) (h0 : Hp) : aK :=
 bnd (aB 1 x7 h0) fun v1 h1 =>
 bnd (aA v1 h1) fun v2 h2 =>
 some (v2, h2)
noncomputable def aAm (r : RT) (n : Nat) (x0 x2 x7 : DV) (h0 : Hp) : aK :=
 bnd (bK x2 h0) fun v1 h1 =>
 bnd (aF .eql v1 (aC 4) h1) fun v2 h2 =>
 aU v2 (
 bnd (aH 4 x7 h2) fun v3 h3 =>
 bnd (r 182 [x0, v3, (aC 18)] h3) fun v4 h4 =>
  aKd r n x7 h4) (
  aKd r n x7 h2)
noncomputable def aOd (r : RT) (n : Nat) (x0 x1 x2 : DV) (h0 : Hp) : aK :=
 bnd (r 156 [x0, x1, (.s [])] h0) fun v1 h1 =>
 bnd (bA [(aC 0), (.s []), (aC 0), (aC 0)] h1) fun v2 h2 =>
 bnd (aD 4 v2 v1 h2) fun _ h3 =>
  aAm r n x0 x2 v2 h3
noncomputable def s184 (r : RT) (n : Nat) (x0 x1 x2 : DV) (h0 : Hp) : aK :=
 aOd r n x0 x1 x2 h0
noncomputable abbrev c184 : Code := cf Tryz.f184
noncomputable abbrev aKr : Code := cR c184
noncomputable abbrev aNf : Code := cR aKr
noncomputable abbrev dMc : Code := cR aNf
noncomputable abbrev bWa : Code := cL aNf
noncomputable abbrev aYj : Code := cL aKr
noncomputable abbrev bPx : Code := cL c184
noncomputable abbrev r184 : K := aR CF Tryz.f184
noncomputable def D184 (r : RT) (n : Nat) (c : Code) (X : Nat → K) (k : K) : K := aM CF r 19 n c X r184 k
theorem dBr : D184 r n dMc x0 r184 = (K1 (aKd r n) 7) :=
 (by kernel_rfl)
theorem bTi : D184 r n aNf x0 r184 = D184 r n bWa x0 (K1 (aKd r n) 7) :=
 congrArg (fun k => D184 r n bWa x0 k) (dBr r n)
theorem dBf : D184 r n aNf x0 r184 = (K3 (aAm r n) 0 2 7) :=
 (bTi r n).trans
 ((by kernel_rfl))
theorem cDj : D184 r n aKr x0 r184 = D184 r n aYj x0 (K3 (aAm r n) 0 2 7) :=
 congrArg (fun k => D184 r n aYj x0 k) (dBf r n)
theorem cFq (q0 : dH) : D184 r n aYj x0 (K3 q0 0 2 7) = fun (env : aV) (h : Hp) =>
 bnd (r 156 [(env 0), (env 1), (.s [])] h) fun v1 h1 =>
 bnd (bA [(aC 0), (.s []), (aC 0), (aC 0)] h1) fun v2 h2 =>
 bnd (aD 4 v2 v1 h2) fun _ h3 =>
  q0 (env 0) (env 2) v2 h3 := by kernel_rfl
theorem bKp : (fun (env : aV) (h : Hp) =>
 bnd (r 156 [(env 0), (env 1), (.s [])] h) fun v1 h1 =>
 bnd (bA [(aC 0), (.s []), (aC 0), (aC 0)] h1) fun v2 h2 =>
 bnd (aD 4 v2 v1 h2) fun _ h3 =>
  aAm r n (env 0) (env 2) v2 h3) = (K3 (aOd r n) 0 1 2) := by kernel_rfl
theorem cZw : D184 r n aKr x0 r184 = (K3 (aOd r n) 0 1 2) :=
 (cDj r n).trans
 ((cFq r n (aAm r n)).trans (bKp r n))
theorem dPn : D184 r n c184 x0 r184 = D184 r n bPx x0 (K3 (aOd r n) 0 1 2) :=
 congrArg (fun k => D184 r n bPx x0 k) (cZw r n)
theorem eIg : D184 r n c184 x0 r184 = (K3 (s184 r n) 0 1 2) :=
 (dPn r n).trans
 ((by kernel_rfl))
theorem dSe : aE CF r n 184 args h = s184 r n (aP args 0) (aP args 1) (aP args 2) h :=
 (by kernel_rfl : aE CF r n 184 args h = D184 r n c184 x0 r184 (aJ args) h).trans ((congrFun (congrFun (eIg r n) (aJ args)) h).trans (by kernel_rfl))
noncomputable def cZ (r : RT) (n : Nat) (kk2 : cA) (x0 x2 x10 x11 x12 : DV) (h0 : Hp) : aK :=
 bnd (aF .add x12 (aC 1) h0) fun v1 h1 =>
  kk2 x0 x2 x10 x11 v1 h1
noncomputable def zO (r : RT) (n : Nat) (kk2 : cA) (x0 x2 x7 x10 x11 x12 : DV) (h0 : Hp) : aK :=
 bnd (aO x0 h0) fun v1 h1 =>
 bnd (aB 8 v1 h1) fun v2 h2 =>
 bnd (aA v2 h2) fun v3 h3 =>
 bnd (aF .neq v3 (aC 0) h3) fun v4 h4 =>
 aU v4 (
 some (.t [], h4)) (
 bnd (aO x0 (resv 1 h4)) fun v5 h5 =>
 bnd (aB 6 v5 h5) fun v6 h6 =>
 bnd (aA v6 h6) fun v7 h7 =>
 bnd (aO x0 h7) fun v8 h8 =>
 bnd (aB 0 v8 h8) fun v9 h9 =>
 bnd (aB 2 v9 h9) fun v10 h10 =>
 bnd (aA v10 h10) fun v11 h11 =>
 bnd (aT [(.s []), (.b false), (.b false), (aC 0)] [(0, 1, x7), (1, 1, (.b false)), (2, 1, x2), (3, 1, v11)] h11) fun v12 h12 =>
 bnd (aS (bD 0 h4.next) [(.s []), (.b false), (.b false), (aC 0)] 1 [(0, 4, v12)] h12) fun v13 h13 =>
 bnd (aX 4 32 v7 v13 h13) fun v14 h14 =>
 bnd (aO x0 h14) fun v15 h15 =>
 bnd (aB 6 v15 h15) fun v16 h16 =>
 bnd (aD 1 v16 v14 h16) fun v17 h17 =>
 bnd (aO x0 h17) fun v18 h18 =>
 bnd (aB 0 v18 h18) fun v19 h19 =>
 bnd (aB 2 v19 h19) fun v20 h20 =>
 bnd (aA v20 h20) fun v21 h21 =>
 bnd (aF .add v21 (aC 1) h21) fun v22 h22 =>
 bnd (aO x0 h22) fun v23 h23 =>
 bnd (aB 0 v23 h23) fun v24 h24 =>
 bnd (aB 2 v24 h24) fun v25 h25 =>
 bnd (aD 1 v25 v22 h25) fun _ h26 =>
  cZ r n kk2 x0 x2 x10 x11 x12 h26)
noncomputable def oF (r : RT) (n : Nat) (kk2 : cA) (x0 x2 x7 x10 x11 x12 : DV) (h0 : Hp) : aK :=
 bnd (aO x0 h0) fun v1 h1 =>
 bnd (aB 0 v1 h1) fun v2 h2 =>
 bnd (aB 2 v2 h2) fun v3 h3 =>
 bnd (aA v3 h3) fun v4 h4 =>
 bnd (aF .eql v4 (aC 24) h4) fun v5 h5 =>
 aU v5 (
 bnd (r 213 [x0, x7, (aC 18)] h5) fun v6 h6 =>
  zO r n kk2 x0 x2 x7 x10 x11 x12 h6) (
  zO r n kk2 x0 x2 x7 x10 x11 x12 h5)
noncomputable def aHu (r : RT) (n : Nat) (kk2 : cA) (x0 x2 x7 x10 x11 x12 : DV) (h0 : Hp) : aK :=
 bnd (r 211 [x0, x7] h0) fun v1 h1 =>
 bnd (aG 0 v1 h1) fun v2 h2 =>
 bnd (aG 1 v1 h2) fun v3 h3 =>
 bnd (bA [(.s []), (.b false), (.b false), (aC 0)] h3) fun v4 h4 =>
 bnd (aD 4 v4 v2 h4) fun _ h5 =>
 bnd (gD v3 false (some (x7, h5)) h5) fun v6 h6 =>
 bnd (gD v3 false (r 212 [v6] h6) h6) fun v7 h7 =>
 bnd (aQ v3 (.b true) v7 h7) fun v8 h8 =>
 aU v8 (
 bnd (r 213 [x0, x7, (aC 16)] h8) fun v9 h9 =>
  oF r n kk2 x0 x2 x7 x10 x11 x12 h9) (
  oF r n kk2 x0 x2 x7 x10 x11 x12 h8)
noncomputable def aVt (r : RT) (n : Nat) (kk2 : cA) (x0 x2 x10 x11 x12 : DV) (h0 : Hp) : aK :=
 bnd (aI 1 x10 x12 h0) fun v1 h1 =>
 bnd (aA v1 h1) fun v2 h2 =>
  aHu r n kk2 x0 x2 v2 x10 x11 x12 h2
noncomputable def aUn (r : RT) (n : Nat) (kk2 : cA) (x0 x2 x10 x11 x12 x13 : DV) (h0 : Hp) : aK :=
 aU x13 (
  aVt r n kk2 x0 x2 x10 x11 x12 h0) (
 some (.t [], h0))
noncomputable def bCc (r : RT) (n : Nat) (kk2 : cA) (x0 x2 x10 x11 x12 : DV) (h0 : Hp) : aK :=
 bnd (aF .lss x12 x11 h0) fun v1 h1 =>
  aUn r n kk2 x0 x2 x10 x11 x12 v1 h1
noncomputable def vD (r : RT) (n : Nat) (m : Nat) : cA :=
 Nat.rec (motive := fun _ => cA) (fun _ _ _ _ _ _ => none) (fun _ ih => bCc r n ih) m
noncomputable def cDu (r : RT) (n : Nat) : cA := vD r n n
noncomputable def aSy (r : RT) (n : Nat) (x0 x2 x10 x11 x12 : DV) (h0 : Hp) : aK :=
 cDu r n x0 x2 x10 x11 x12 h0
noncomputable def s185 (r : RT) (n : Nat) (x0 x1 x2 : DV) (h0 : Hp) : aK :=
 bnd (bK x1 h0) fun v1 h1 =>
  aSy r n x0 x2 x1 v1 (aC 0) h1
noncomputable abbrev c185 : Code := cf Tryz.f185
noncomputable abbrev aXe : Code := cR c185
noncomputable abbrev aKs : Code := cL aXe
noncomputable abbrev kK : Code := cL aKs
noncomputable abbrev aGb : Code := cR kK
noncomputable abbrev aCo : Code := cR aGb
noncomputable abbrev dKn : Code := cR aCo
noncomputable abbrev aOz : Code := cL aCo
noncomputable abbrev aNn : Code := cL aOz
noncomputable abbrev aIl : Code := cR aNn
noncomputable abbrev vL : Code := cR aIl
noncomputable abbrev bAw : Code := cR vL
noncomputable abbrev bCw : Code := cL vL
noncomputable abbrev aGd : Code := cL aIl
noncomputable abbrev bDf : Code := cL aNn
noncomputable abbrev bGf : Code := cL aGb
noncomputable abbrev bFh : Code := cL kK
noncomputable abbrev bAt : Code := cL c185
noncomputable abbrev r185 : K := aR CF Tryz.f185
noncomputable def D185 (r : RT) (n : Nat) (c : Code) (X : Nat → K) (k : K) : K := aM CF r 71 n c X r185 k
theorem dEb (kk2 : cA) : D185 r n dKn (xs x0 0 r185) (K5 kk2 0 2 10 11 12) = (K5 (cZ r n kk2) 0 2 10 11 12) :=
 (by kernel_rfl)
theorem bTl (kk2 : cA) (q0 : cA) : D185 r n bAw (xs (xs x0 0 r185) 1 (K5 q0 0 2 10 11 12)) (K5 q0 0 2 10 11 12) = fun (env : aV) (h : Hp) =>
 bnd (aO (env 0) h) fun v1 h1 =>
 bnd (aB 8 v1 h1) fun v2 h2 =>
 bnd (aA v2 h2) fun v3 h3 =>
 bnd (aF .neq v3 (aC 0) h3) fun v4 h4 =>
 aU v4 (
 some (.t [], h4)) (
 bnd (aO (env 0) (resv 1 h4)) fun v5 h5 =>
 bnd (aB 6 v5 h5) fun v6 h6 =>
 bnd (aA v6 h6) fun v7 h7 =>
 bnd (aO (env 0) h7) fun v8 h8 =>
 bnd (aB 0 v8 h8) fun v9 h9 =>
 bnd (aB 2 v9 h9) fun v10 h10 =>
 bnd (aA v10 h10) fun v11 h11 =>
 bnd (aT [(.s []), (.b false), (.b false), (aC 0)] [(0, 1, (env 7)), (1, 1, (.b false)), (2, 1, (env 2)), (3, 1, v11)] h11) fun v12 h12 =>
 bnd (aS (bD 0 h4.next) [(.s []), (.b false), (.b false), (aC 0)] 1 [(0, 4, v12)] h12) fun v13 h13 =>
 bnd (aX 4 32 v7 v13 h13) fun v14 h14 =>
 bnd (aO (env 0) h14) fun v15 h15 =>
 bnd (aB 6 v15 h15) fun v16 h16 =>
 bnd (aD 1 v16 v14 h16) fun v17 h17 =>
 bnd (aO (env 0) h17) fun v18 h18 =>
 bnd (aB 0 v18 h18) fun v19 h19 =>
 bnd (aB 2 v19 h19) fun v20 h20 =>
 bnd (aA v20 h20) fun v21 h21 =>
 bnd (aF .add v21 (aC 1) h21) fun v22 h22 =>
 bnd (aO (env 0) h22) fun v23 h23 =>
 bnd (aB 0 v23 h23) fun v24 h24 =>
 bnd (aB 2 v24 h24) fun v25 h25 =>
 bnd (aD 1 v25 v22 h25) fun _ h26 =>
      q0 (env 0) (env 2) (env 10) (env 11) (env 12) h26) := by kernel_rfl
theorem bMw (kk2 : cA) : (fun (env : aV) (h : Hp) =>
 bnd (aO (env 0) h) fun v1 h1 =>
 bnd (aB 8 v1 h1) fun v2 h2 =>
 bnd (aA v2 h2) fun v3 h3 =>
 bnd (aF .neq v3 (aC 0) h3) fun v4 h4 =>
 aU v4 (
 some (.t [], h4)) (
 bnd (aO (env 0) (resv 1 h4)) fun v5 h5 =>
 bnd (aB 6 v5 h5) fun v6 h6 =>
 bnd (aA v6 h6) fun v7 h7 =>
 bnd (aO (env 0) h7) fun v8 h8 =>
 bnd (aB 0 v8 h8) fun v9 h9 =>
 bnd (aB 2 v9 h9) fun v10 h10 =>
 bnd (aA v10 h10) fun v11 h11 =>
 bnd (aT [(.s []), (.b false), (.b false), (aC 0)] [(0, 1, (env 7)), (1, 1, (.b false)), (2, 1, (env 2)), (3, 1, v11)] h11) fun v12 h12 =>
 bnd (aS (bD 0 h4.next) [(.s []), (.b false), (.b false), (aC 0)] 1 [(0, 4, v12)] h12) fun v13 h13 =>
 bnd (aX 4 32 v7 v13 h13) fun v14 h14 =>
 bnd (aO (env 0) h14) fun v15 h15 =>
 bnd (aB 6 v15 h15) fun v16 h16 =>
 bnd (aD 1 v16 v14 h16) fun v17 h17 =>
 bnd (aO (env 0) h17) fun v18 h18 =>
 bnd (aB 0 v18 h18) fun v19 h19 =>
 bnd (aB 2 v19 h19) fun v20 h20 =>
 bnd (aA v20 h20) fun v21 h21 =>
 bnd (aF .add v21 (aC 1) h21) fun v22 h22 =>
 bnd (aO (env 0) h22) fun v23 h23 =>
 bnd (aB 0 v23 h23) fun v24 h24 =>
 bnd (aB 2 v24 h24) fun v25 h25 =>
 bnd (aD 1 v25 v22 h25) fun _ h26 =>
      cZ r n kk2 (env 0) (env 2) (env 10) (env 11) (env 12) h26)) = (K6 (zO r n kk2) 0 2 7 10 11 12) := by kernel_rfl
theorem dFs (kk2 : cA) : D185 r n bAw (xs (xs x0 0 r185) 1 (K5 (cZ r n kk2) 0 2 10 11 12)) (K5 (cZ r n kk2) 0 2 10 11 12) = (K6 (zO r n kk2) 0 2 7 10 11 12) :=
 (bTl r n kk2 (cZ r n kk2)).trans (bMw r n kk2)
theorem bWk (kk2 : cA) : D185 r n vL (xs (xs x0 0 r185) 1 (K5 (cZ r n kk2) 0 2 10 11 12)) (K5 (cZ r n kk2) 0 2 10 11 12) = D185 r n bCw (xs (xs x0 0 r185) 1 (K5 (cZ r n kk2) 0 2 10 11 12)) (K6 (zO r n kk2) 0 2 7 10 11 12) :=
 congrArg (fun k => D185 r n bCw (xs (xs x0 0 r185) 1 (K5 (cZ r n kk2) 0 2 10 11 12)) k) (dFs r n kk2)
theorem dEp (kk2 : cA) : D185 r n vL (xs (xs x0 0 r185) 1 (K5 (cZ r n kk2) 0 2 10 11 12)) (K5 (cZ r n kk2) 0 2 10 11 12) = (K6 (oF r n kk2) 0 2 7 10 11 12) :=
 (bWk r n kk2).trans
 ((by kernel_rfl))
theorem bXt (kk2 : cA) : D185 r n aIl (xs (xs x0 0 r185) 1 (K5 (cZ r n kk2) 0 2 10 11 12)) (K5 (cZ r n kk2) 0 2 10 11 12) = D185 r n aGd (xs (xs x0 0 r185) 1 (K5 (cZ r n kk2) 0 2 10 11 12)) (K6 (oF r n kk2) 0 2 7 10 11 12) :=
 congrArg (fun k => D185 r n aGd (xs (xs x0 0 r185) 1 (K5 (cZ r n kk2) 0 2 10 11 12)) k) (dEp r n kk2)
theorem bQg (kk2 : cA) (q0 : dA) (q1 : cA) : D185 r n aGd (xs (xs x0 0 r185) 1 (K5 q1 0 2 10 11 12)) (K6 q0 0 2 7 10 11 12) = fun (env : aV) (h : Hp) =>
 bnd (r 211 [(env 0), (env 7)] h) fun v1 h1 =>
 bnd (aG 0 v1 h1) fun v2 h2 =>
 bnd (aG 1 v1 h2) fun v3 h3 =>
 bnd (bA [(.s []), (.b false), (.b false), (aC 0)] h3) fun v4 h4 =>
 bnd (aD 4 v4 v2 h4) fun _ h5 =>
 bnd (gD v3 false (some ((env 7), h5)) h5) fun v6 h6 =>
 bnd (gD v3 false (r 212 [v6] h6) h6) fun v7 h7 =>
 bnd (aQ v3 (.b true) v7 h7) fun v8 h8 =>
 aU v8 (
 bnd (r 213 [(env 0), (env 7), (aC 16)] h8) fun v9 h9 =>
      q0 (env 0) (env 2) (env 7) (env 10) (env 11) (env 12) h9) (
      q0 (env 0) (env 2) (env 7) (env 10) (env 11) (env 12) h8) := by kernel_rfl
theorem bMg (kk2 : cA) : (fun (env : aV) (h : Hp) =>
 bnd (r 211 [(env 0), (env 7)] h) fun v1 h1 =>
 bnd (aG 0 v1 h1) fun v2 h2 =>
 bnd (aG 1 v1 h2) fun v3 h3 =>
 bnd (bA [(.s []), (.b false), (.b false), (aC 0)] h3) fun v4 h4 =>
 bnd (aD 4 v4 v2 h4) fun _ h5 =>
 bnd (gD v3 false (some ((env 7), h5)) h5) fun v6 h6 =>
 bnd (gD v3 false (r 212 [v6] h6) h6) fun v7 h7 =>
 bnd (aQ v3 (.b true) v7 h7) fun v8 h8 =>
 aU v8 (
 bnd (r 213 [(env 0), (env 7), (aC 16)] h8) fun v9 h9 =>
      oF r n kk2 (env 0) (env 2) (env 7) (env 10) (env 11) (env 12) h9) (
      oF r n kk2 (env 0) (env 2) (env 7) (env 10) (env 11) (env 12) h8)) = (K6 (aHu r n kk2) 0 2 7 10 11 12) := by kernel_rfl
theorem dFn (kk2 : cA) : D185 r n aIl (xs (xs x0 0 r185) 1 (K5 (cZ r n kk2) 0 2 10 11 12)) (K5 (cZ r n kk2) 0 2 10 11 12) = (K6 (aHu r n kk2) 0 2 7 10 11 12) :=
 (bXt r n kk2).trans
 ((bQg r n kk2 (oF r n kk2) (cZ r n kk2)).trans (bMg r n kk2))
theorem bXx (kk2 : cA) : D185 r n aCo (xs x0 0 r185) (K5 kk2 0 2 10 11 12) = D185 r n aOz (xs x0 0 r185) (K5 (cZ r n kk2) 0 2 10 11 12) :=
 congrArg (fun k => D185 r n aOz (xs x0 0 r185) k) (dEb r n kk2)
theorem bZq (kk2 : cA) : D185 r n aNn (xs (xs x0 0 r185) 1 (K5 (cZ r n kk2) 0 2 10 11 12)) (K5 (cZ r n kk2) 0 2 10 11 12) = D185 r n bDf (xs (xs x0 0 r185) 1 (K5 (cZ r n kk2) 0 2 10 11 12)) (K6 (aHu r n kk2) 0 2 7 10 11 12) :=
 congrArg (fun k => D185 r n bDf (xs (xs x0 0 r185) 1 (K5 (cZ r n kk2) 0 2 10 11 12)) k) (dFn r n kk2)
theorem cZh (kk2 : cA) : D185 r n aCo (xs x0 0 r185) (K5 kk2 0 2 10 11 12) = (K5 (aVt r n kk2) 0 2 10 11 12) :=
 (bXx r n kk2).trans
 ((by kernel_rfl : D185 r n aOz (xs x0 0 r185) (K5 (cZ r n kk2) 0 2 10 11 12) = D185 r n aNn (xs (xs x0 0 r185) 1 (K5 (cZ r n kk2) 0 2 10 11 12)) (K5 (cZ r n kk2) 0 2 10 11 12)).trans
 ((bZq r n kk2).trans
 ((by kernel_rfl))))
theorem bYe (kk2 : cA) : D185 r n aGb (xs x0 0 r185) (K5 kk2 0 2 10 11 12) = D185 r n bGf (xs x0 0 r185) (K5 (aVt r n kk2) 0 2 10 11 12) :=
 congrArg (fun k => D185 r n bGf (xs x0 0 r185) k) (cZh r n kk2)
theorem dCb (kk2 : cA) : D185 r n aGb (xs x0 0 r185) (K5 kk2 0 2 10 11 12) = (K6 (aUn r n kk2) 0 2 10 11 12 13) :=
 (bYe r n kk2).trans
 ((by kernel_rfl))
theorem cLq (kk2 : cA) : D185 r n kK (xs x0 0 r185) (K5 kk2 0 2 10 11 12) = D185 r n bFh (xs x0 0 r185) (K6 (aUn r n kk2) 0 2 10 11 12 13) :=
 congrArg (fun k => D185 r n bFh (xs x0 0 r185) k) (dCb r n kk2)
theorem cBo (kk2 : cA) : D185 r n kK (xs x0 0 r185) (K5 kk2 0 2 10 11 12) = (K5 (bCc r n kk2) 0 2 10 11 12) :=
 (cLq r n kk2).trans
 ((by kernel_rfl))
theorem cDg (m : Nat) : aL (fun kk => D185 r n kK (xs x0 0 r185) kk) m = (K5 (vD r n m) 0 2 10 11 12) := by
 induction m with
 | zero => exact (by kernel_rfl : aL (fun kk => D185 r n kK (xs x0 0 r185) kk) 0 = (K5 (vD r n 0) 0 2 10 11 12))
 | succ m ih =>
  refine (by kernel_rfl : aL (fun kk => D185 r n kK (xs x0 0 r185) kk) (m + 1) = D185 r n kK (xs x0 0 r185) (aL (fun kk => D185 r n kK (xs x0 0 r185) kk) m)).trans ?_
  rw [ih]
  exact (cBo r n (vD r n m)).trans (by kernel_rfl)
theorem cTf : D185 r n aKs (xs x0 0 r185) r185 = (K5 (cDu r n) 0 2 10 11 12) :=
 (by kernel_rfl : D185 r n aKs (xs x0 0 r185) r185 = aL (fun kk => D185 r n kK (xs x0 0 r185) kk) n).trans ((cDg r n n).trans (by kernel_rfl))
theorem dCx : D185 r n aXe x0 r185 = (K5 (aSy r n) 0 2 10 11 12) :=
 (by kernel_rfl : D185 r n aXe x0 r185 = D185 r n aKs (xs x0 0 r185) r185).trans
 ((cTf r n).trans (by kernel_rfl))
theorem dOf : D185 r n c185 x0 r185 = D185 r n bAt x0 (K5 (aSy r n) 0 2 10 11 12) :=
 congrArg (fun k => D185 r n bAt x0 k) (dCx r n)
theorem eEy : D185 r n c185 x0 r185 = (K3 (s185 r n) 0 1 2) :=
 (dOf r n).trans
 ((by kernel_rfl))
theorem dMq : aE CF r n 185 args h = s185 r n (aP args 0) (aP args 1) (aP args 2) h :=
 (by kernel_rfl : aE CF r n 185 args h = D185 r n c185 x0 r185 (aJ args) h).trans ((congrFun (congrFun (eEy r n) (aJ args)) h).trans (by kernel_rfl))
noncomputable def rV (r : RT) (n : Nat) (x0 x3 x11 x14 : DV) (h0 : Hp) : aK :=
 aU x14 (
 bnd (aH 6 x3 h0) fun v1 h1 =>
 bnd (r 215 [x0, v1] h1) fun v2 h2 =>
 bnd (lB [x0, v2] h2) fun v3 h3 =>
 bnd (r 187 [x0, (aC 6), v3, (aC 0)] h3) fun v4 h4 =>
 some (.t [], h4)) (
 bnd (aF .eql x11 (aC 5) h0) fun v5 h5 =>
 aU v5 (
 bnd (aB 1 x3 h5) fun v6 h6 =>
 bnd (aA v6 h6) fun v7 h7 =>
 bnd (r 216 [x0, v7] h7) fun v8 h8 =>
 some (.t [], h8)) (
 bnd (aF .eql x11 (aC 6) h5) fun v9 h9 =>
 aU v9 (
 bnd (aH 6 x3 h9) fun v10 h10 =>
 bnd (r 217 [x0, v10] h10) fun v11 h11 =>
 some (.t [], h11)) (
 bnd (aF .eql x11 (aC 7) h9) fun v12 h12 =>
 aU v12 (
 bnd (aH 6 x3 h12) fun v13 h13 =>
 bnd (r 218 [x0, v13] h13) fun v14 h14 =>
 some (.t [], h14)) (
 bnd (aF .eql x11 (aC 8) h12) fun v15 h15 =>
 aU v15 (
 bnd (aH 6 x3 h15) fun v16 h16 =>
 bnd (r 219 [x0, v16] h16) fun v17 h17 =>
 some (.t [], h17)) (
 bnd (aF .eql x11 (aC 9) h15) fun v18 h18 =>
 aU v18 (
 bnd (aO x0 h18) fun v19 h19 =>
 bnd (aB 0 v19 h19) fun v20 h20 =>
 bnd (aB 2 v20 h20) fun v21 h21 =>
 bnd (aA v21 h21) fun v22 h22 =>
 bnd (aB 3 x3 h22) fun v23 h23 =>
 bnd (aA v23 h23) fun v24 h24 =>
 bnd (bK v24 h24) fun v25 h25 =>
 bnd (r 187 [x0, (aC 18), v22, v25] h25) fun v26 h26 =>
 bnd (r 220 [x0, (aC 16)] h26) fun v27 h27 =>
 bnd (aH 6 x3 h27) fun v28 h28 =>
 bnd (r 221 [x0, v28] h28) fun v29 h29 =>
 bnd (r 187 [x0, (aC 19), (aC 0), (aC 0)] h29) fun v30 h30 =>
 bnd (cK CF r v27 [] h30) fun v31 h31 =>
 some (.t [], h31)) (
 bnd (aF .eql x11 (aC 10) h18) fun v32 h32 =>
 aU v32 (
 bnd (aH 6 x3 h32) fun v33 h33 =>
 bnd (r 222 [x0, v33] h33) fun v34 h34 =>
 aU v34 (
 bnd (aB 5 x3 h34) fun v35 h35 =>
 bnd (aA v35 h35) fun v36 h36 =>
 bnd (aI 6 v36 (aC 0) h36) fun v37 h37 =>
 bnd (aH 6 v37 h37) fun v38 h38 =>
 bnd (r 186 [x0, v38] h38) fun v39 h39 =>
 bnd (r 187 [x0, (aC 20), (aC 0), (aC 0)] h39) fun v40 h40 =>
 some (.t [], h40)) (
 some (.t [], h34))) (
 bnd (r 213 [x0, (.s []), (aC 1)] h32) fun v41 h41 =>
 some (.t [], h41))))))))
noncomputable def aUy (r : RT) (n : Nat) (x0 x3 x11 : DV) (h0 : Hp) : aK :=
 bnd (aF .eql x11 (aC 1) h0) fun v1 h1 =>
 aU v1 (
  rV r n x0 x3 x11 v1 h1) (
 bnd (aF .eql x11 (aC 2) h1) fun v2 h2 =>
 aU v2 (
   rV r n x0 x3 x11 v2 h2) (
 bnd (aF .eql x11 (aC 3) h2) fun v3 h3 =>
 aU v3 (
    rV r n x0 x3 x11 v3 h3) (
 bnd (aF .eql x11 (aC 4) h3) fun v4 h4 =>
    rV r n x0 x3 x11 v4 h4)))
noncomputable def aSm (r : RT) (n : Nat) (x0 x3 : DV) (h0 : Hp) : aK :=
 bnd (aB 0 x3 h0) fun v1 h1 =>
 bnd (aA v1 h1) fun v2 h2 =>
  aUy r n x0 x3 v2 h2
noncomputable def zK (r : RT) (n : Nat) (x0 x3 : DV) (h0 : Hp) : aK :=
 bnd (aO x0 h0) fun v1 h1 =>
 bnd (aB 8 v1 h1) fun v2 h2 =>
 bnd (aA v2 h2) fun v3 h3 =>
 bnd (aF .neq v3 (aC 0) h3) fun v4 h4 =>
 aU v4 (
 some (.t [], h4)) (
  aSm r n x0 x3 h4)
noncomputable def s186 (r : RT) (n : Nat) (x0 x1 : DV) (h0 : Hp) : aK :=
 bnd (bM x1 h0) fun v1 h1 =>
  zK r n x0 v1 h1
noncomputable abbrev c186 : Code := cf Tryz.f186
noncomputable abbrev aJf : Code := cR c186
noncomputable abbrev aFf : Code := cR aJf
noncomputable abbrev aYb : Code := cR aFf
noncomputable abbrev aDv : Code := cL aYb
noncomputable abbrev dIg : Code := cR aDv
noncomputable abbrev bVj : Code := cL aDv
noncomputable abbrev cKh : Code := cL aFf
noncomputable abbrev cHd : Code := cL aJf
noncomputable abbrev aZp : Code := cL c186
noncomputable abbrev r186 : K := aR CF Tryz.f186
noncomputable def D186 (r : RT) (n : Nat) (c : Code) (X : Nat → K) (k : K) : K := aM CF r 81 n c X r186 k
theorem cXu : D186 r n dIg (xs x0 0 r186) r186 = (K4 (rV r n) 0 3 11 14) :=
 (by kernel_rfl)
theorem cMc : D186 r n aDv (xs x0 0 r186) r186 = D186 r n bVj (xs x0 0 r186) (K4 (rV r n) 0 3 11 14) :=
 congrArg (fun k => D186 r n bVj (xs x0 0 r186) k) (cXu r n)
theorem dEs : D186 r n aYb x0 r186 = (K3 (aUy r n) 0 3 11) :=
 (by kernel_rfl : D186 r n aYb x0 r186 = D186 r n aDv (xs x0 0 r186) r186).trans
 ((cMc r n).trans
 ((by kernel_rfl)))
theorem bTu : D186 r n aFf x0 r186 = D186 r n cKh x0 (K3 (aUy r n) 0 3 11) :=
 congrArg (fun k => D186 r n cKh x0 k) (dEs r n)
theorem cQi : D186 r n aFf x0 r186 = (K2 (aSm r n) 0 3) :=
 (bTu r n).trans
 ((by kernel_rfl))
theorem cKd : D186 r n aJf x0 r186 = D186 r n cHd x0 (K2 (aSm r n) 0 3) :=
 congrArg (fun k => D186 r n cHd x0 k) (cQi r n)
theorem cUz : D186 r n aJf x0 r186 = (K2 (zK r n) 0 3) :=
 (cKd r n).trans
 ((by kernel_rfl))
theorem dKm : D186 r n c186 x0 r186 = D186 r n aZp x0 (K2 (zK r n) 0 3) :=
 congrArg (fun k => D186 r n aZp x0 k) (cUz r n)
theorem dLw (q0 : eN) : D186 r n aZp x0 (K2 q0 0 3) = fun (env : aV) (h : Hp) =>
 bnd (bM (env 1) h) fun v1 h1 =>
  q0 (env 0) v1 h1 := by kernel_rfl
theorem cTs : (fun (env : aV) (h : Hp) =>
 bnd (bM (env 1) h) fun v1 h1 =>
  zK r n (env 0) v1 h1) = (K2 (s186 r n) 0 1) := by kernel_rfl
theorem eEr : D186 r n c186 x0 r186 = (K2 (s186 r n) 0 1) :=
 (dKm r n).trans
 ((dLw r n (zK r n)).trans (cTs r n))
theorem dOu : aE CF r n 186 args h = s186 r n (aP args 0) (aP args 1) h :=
 (by kernel_rfl : aE CF r n 186 args h = D186 r n c186 x0 r186 (aJ args) h).trans ((congrFun (congrFun (eEr r n) (aJ args)) h).trans (by kernel_rfl))
noncomputable def s187 (r : RT) (n : Nat) (x0 x1 x2 x3 : DV) (h0 : Hp) : aK :=
 bnd (aO x0 h0) fun v1 h1 =>
 bnd (aB 0 v1 h1) fun v2 h2 =>
 bnd (aB 5 v2 h2) fun v3 h3 =>
 bnd (aA v3 h3) fun v4 h4 =>
 bnd (aT [(aC 0), (aC 0), (aC 0)] [(0, 1, x1), (1, 1, x2), (2, 1, x3)] h4) fun v5 h5 =>
 bnd (aN [(aC 0), (aC 0), (aC 0)] 1 [(0, 3, v5)] h5) fun v6 h6 =>
 bnd (aX 3 24 v4 v6 h6) fun v7 h7 =>
 bnd (aO x0 h7) fun v8 h8 =>
 bnd (aB 0 v8 h8) fun v9 h9 =>
 bnd (aB 5 v9 h9) fun v10 h10 =>
 bnd (aD 1 v10 v7 h10) fun _ h11 =>
 some (.t [], h11)
noncomputable abbrev c187 : Code := cf Tryz.f187
noncomputable abbrev r187 : K := aR CF Tryz.f187
noncomputable def D187 (r : RT) (n : Nat) (c : Code) (X : Nat → K) (k : K) : K := aM CF r 23 n c X r187 k
theorem eBb : D187 r n c187 x0 r187 = (K4 (s187 r n) 0 1 2 3) :=
 (by kernel_rfl)
theorem dOn : aE CF r n 187 args h = s187 r n (aP args 0) (aP args 1) (aP args 2) (aP args 3) h :=
 (by kernel_rfl : aE CF r n 187 args h = D187 r n c187 x0 r187 (aJ args) h).trans ((congrFun (congrFun (eBb r n) (aJ args)) h).trans (by kernel_rfl))
noncomputable def s188 (r : RT) (n : Nat) (x0 : DV) (h0 : Hp) : aK :=
 bnd (aF .eql x0 (aC 16) h0) fun v1 h1 =>
 bnd (gD v1 false (some (x0, h1)) h1) fun v2 h2 =>
 bnd (gD v1 false (aF .eql v2 (aC 17) h2) h2) fun v3 h3 =>
 bnd (aQ v1 (.b true) v3 h3) fun v4 h4 =>
 some (v4, h4)
noncomputable abbrev c188 : Code := cf Tryz.f188
noncomputable abbrev r188 : K := aR CF Tryz.f188
noncomputable def D188 (r : RT) (n : Nat) (c : Code) (X : Nat → K) (k : K) : K := aM CF r 9 n c X r188 k
theorem eHu : D188 r n c188 x0 r188 = (K1 (s188 r n) 0) :=
 (by kernel_rfl)
theorem dIk : aE CF r n 188 args h = s188 r n (aP args 0) h :=
 (by kernel_rfl : aE CF r n 188 args h = D188 r n c188 x0 r188 (aJ args) h).trans ((congrFun (congrFun (eHu r n) (aJ args)) h).trans (by kernel_rfl))
end Go.Dd

namespace Go.Dd
open Go.Proofs
variable (r : RT) (n : Nat) (args : List DV) (h : Hp)
end Go.Dd

namespace Go.Dd
open Go.Proofs
variable (r : RT) (n : Nat) (args : List DV) (h : Hp)
noncomputable def s200 (r : RT) (n : Nat) (x0 x1 : DV) (h0 : Hp) : aK :=
 bnd (aA x1 h0) fun v1 h1 =>
 bnd (r 177 [v1, x0] h1) fun v2 h2 =>
 bnd (aF .geq v2 (aC 0) h2) fun v3 h3 =>
 some (v3, h3)
noncomputable abbrev c200 : Code := cf Tryz.f200
noncomputable abbrev r200 : K := aR CF Tryz.f200
noncomputable def D200 (r : RT) (n : Nat) (c : Code) (X : Nat → K) (k : K) : K := aM CF r 8 n c X r200 k
theorem eBw : D200 r n c200 x0 r200 = (K2 (s200 r n) 0 1) :=
 (by kernel_rfl)
theorem dNm : aE CF r n 200 args h = s200 r n (aP args 0) (aP args 1) h :=
 (by kernel_rfl : aE CF r n 200 args h = D200 r n c200 x0 r200 (aJ args) h).trans ((congrFun (congrFun (eBw r n) (aJ args)) h).trans (by kernel_rfl))
noncomputable def s201 (r : RT) (n : Nat) (x0 x1 : DV) (h0 : Hp) : aK :=
 bnd (lW [x0, x1] h0) fun v1 h1 =>
 some (v1, h1)
noncomputable abbrev c201 : Code := cf Tryz.f201
noncomputable abbrev r201 : K := aR CF Tryz.f201
noncomputable def D201 (r : RT) (n : Nat) (c : Code) (X : Nat → K) (k : K) : K := aM CF r 8 n c X r201 k
theorem dZg : D201 r n c201 x0 r201 = (K2 (s201 r n) 0 1) :=
 (by kernel_rfl)
theorem dPp : aE CF r n 201 args h = s201 r n (aP args 0) (aP args 1) h :=
 (by kernel_rfl : aE CF r n 201 args h = D201 r n c201 x0 r201 (aJ args) h).trans ((congrFun (congrFun (dZg r n) (aJ args)) h).trans (by kernel_rfl))
noncomputable def s202 (r : RT) (n : Nat) (x0 x1 : DV) (h0 : Hp) : aK :=
 bnd (aO x0 h0) fun v1 h1 =>
 bnd (aB 1 v1 h1) fun v2 h2 =>
 bnd (aA v2 h2) fun v3 h3 =>
 bnd (aF .add v3 x1 h3) fun v4 h4 =>
 bnd (aO x0 h4) fun v5 h5 =>
 bnd (aB 0 v5 h5) fun v6 h6 =>
 bnd (aA v6 h6) fun v7 h7 =>
 bnd (gA v7 h7) fun v8 h8 =>
 bnd (aF .geq v4 v8 h8) fun v9 h9 =>
 aU v9 (
 some ((.i .u8 (Int.ofNat 0)), h9)) (
 bnd (aO x0 h9) fun v10 h10 =>
 bnd (aB 0 v10 h10) fun v11 h11 =>
 bnd (aA v11 h11) fun v12 h12 =>
 bnd (aO x0 h12) fun v13 h13 =>
 bnd (aB 1 v13 h13) fun v14 h14 =>
 bnd (aA v14 h14) fun v15 h15 =>
 bnd (aF .add v15 x1 h15) fun v16 h16 =>
 bnd (fE v12 v16 h16) fun v17 h17 =>
 some (v17, h17))
noncomputable abbrev c202 : Code := cf Tryz.f202
noncomputable abbrev r202 : K := aR CF Tryz.f202
noncomputable def D202 (r : RT) (n : Nat) (c : Code) (X : Nat → K) (k : K) : K := aM CF r 28 n c X r202 k
theorem eAn : D202 r n c202 x0 r202 = (K2 (s202 r n) 0 1) :=
 (by kernel_rfl)
theorem dVc : aE CF r n 202 args h = s202 r n (aP args 0) (aP args 1) h :=
 (by kernel_rfl : aE CF r n 202 args h = D202 r n c202 x0 r202 (aJ args) h).trans ((congrFun (congrFun (eAn r n) (aJ args)) h).trans (by kernel_rfl))
noncomputable def s203 (r : RT) (n : Nat) (x0 : DV) (h0 : Hp) : aK :=
 bnd (aF .geq x0 (.i .u8 (Int.ofNat 97)) h0) fun v1 h1 =>
 bnd (gD v1 true (some (x0, h1)) h1) fun v2 h2 =>
 bnd (gD v1 true (aF .leq v2 (.i .u8 (Int.ofNat 122)) h2) h2) fun v3 h3 =>
 bnd (aQ v1 v3 (.b false) h3) fun v4 h4 =>
 bnd (gD v4 false (some (x0, h4)) h4) fun v5 h5 =>
 bnd (gD v4 false (aF .geq v5 (.i .u8 (Int.ofNat 65)) h5) h5) fun v6 h6 =>
 bnd (gD v4 false (some (v6, h6)) h6) fun v7 h7 =>
 bnd (gD v7 true (some (x0, h7)) h7) fun v8 h8 =>
 bnd (gD v7 true (aF .leq v8 (.i .u8 (Int.ofNat 90)) h8) h8) fun v9 h9 =>
 bnd (gD v4 false (aQ v7 v9 (.b false) h9) h9) fun v10 h10 =>
 bnd (aQ v4 (.b true) v10 h10) fun v11 h11 =>
 some (v11, h11)
noncomputable abbrev c203 : Code := cf Tryz.f203
noncomputable abbrev r203 : K := aR CF Tryz.f203
noncomputable def D203 (r : RT) (n : Nat) (c : Code) (X : Nat → K) (k : K) : K := aM CF r 17 n c X r203 k
theorem eFn : D203 r n c203 x0 r203 = (K1 (s203 r n) 0) :=
 (by kernel_rfl)
theorem dJa : aE CF r n 203 args h = s203 r n (aP args 0) h :=
 (by kernel_rfl : aE CF r n 203 args h = D203 r n c203 x0 r203 (aJ args) h).trans ((congrFun (congrFun (eFn r n) (aJ args)) h).trans (by kernel_rfl))
noncomputable def s204 (r : RT) (n : Nat) (x0 : DV) (h0 : Hp) : aK :=
 bnd (aO x0 h0) fun v1 h1 =>
 bnd (aB 0 v1 h1) fun v2 h2 =>
 bnd (aA v2 h2) fun v3 h3 =>
 bnd (gA v3 h3) fun v4 h4 =>
 bnd (r 175 [x0, (.f 230 [] []), v4] h4) fun v5 h5 =>
 bnd (gA v5 h5) fun v6 h6 =>
 bnd (aF .gtr v6 (aC 24) h6) fun v7 h7 =>
 aU v7 (
 some (.t [(.s []), (aC 12)], h7)) (
 some (.t [v5, (aC 0)], h7))
noncomputable abbrev c204 : Code := cf Tryz.f204
noncomputable abbrev r204 : K := aR CF Tryz.f204
noncomputable def D204 (r : RT) (n : Nat) (c : Code) (X : Nat → K) (k : K) : K := aM CF r 16 n c X r204 k
theorem eHh : D204 r n c204 x0 r204 = (K1 (s204 r n) 0) :=
 (by kernel_rfl)
theorem dIi : aE CF r n 204 args h = s204 r n (aP args 0) h :=
 (by kernel_rfl : aE CF r n 204 args h = D204 r n c204 x0 r204 (aJ args) h).trans ((congrFun (congrFun (eHh r n) (aJ args)) h).trans (by kernel_rfl))
noncomputable def s205 (r : RT) (n : Nat) (x0 : DV) (h0 : Hp) : aK :=
 bnd (r 202 [x0, (aC 0)] h0) fun v1 h1 =>
 bnd (aF .neq v1 (.i .u8 (Int.ofNat 58)) h1) fun v2 h2 =>
 bnd (gD v2 false (some (x0, h2)) h2) fun v3 h3 =>
 bnd (gD v2 false (r 202 [v3, (aC 1)] h3) h3) fun v4 h4 =>
 bnd (gD v2 false (aF .eql v4 (.i .u8 (Int.ofNat 61)) h4) h4) fun v5 h5 =>
 bnd (aQ v2 (.b true) v5 h5) fun v6 h6 =>
 aU v6 (
 some ((.b false), h6)) (
 bnd (aO x0 h6) fun v7 h7 =>
 bnd (aB 1 v7 h7) fun v8 h8 =>
 bnd (aA v8 h8) fun v9 h9 =>
 bnd (aF .add v9 (aC 1) h9) fun v10 h10 =>
 bnd (aO x0 h10) fun v11 h11 =>
 bnd (aB 1 v11 h11) fun v12 h12 =>
 bnd (aD 1 v12 v10 h12) fun _ h13 =>
 some ((.b true), h13))
noncomputable abbrev c205 : Code := cf Tryz.f205
noncomputable abbrev r205 : K := aR CF Tryz.f205
noncomputable def D205 (r : RT) (n : Nat) (c : Code) (X : Nat → K) (k : K) : K := aM CF r 18 n c X r205 k
theorem eBx : D205 r n c205 x0 r205 = (K1 (s205 r n) 0) :=
 (by kernel_rfl)
theorem dKh : aE CF r n 205 args h = s205 r n (aP args 0) h :=
 (by kernel_rfl : aE CF r n 205 args h = D205 r n c205 x0 r205 (aJ args) h).trans ((congrFun (congrFun (eBx r n) (aJ args)) h).trans (by kernel_rfl))
noncomputable def s206 (r : RT) (n : Nat) (x0 : DV) (h0 : Hp) : aK :=
 bnd (aF .geq x0 (.i .u8 (Int.ofNat 48)) h0) fun v1 h1 =>
 bnd (gD v1 true (some (x0, h1)) h1) fun v2 h2 =>
 bnd (gD v1 true (aF .leq v2 (.i .u8 (Int.ofNat 57)) h2) h2) fun v3 h3 =>
 bnd (aQ v1 v3 (.b false) h3) fun v4 h4 =>
 some (v4, h4)
noncomputable abbrev c206 : Code := cf Tryz.f206
noncomputable abbrev r206 : K := aR CF Tryz.f206
noncomputable def D206 (r : RT) (n : Nat) (c : Code) (X : Nat → K) (k : K) : K := aM CF r 9 n c X r206 k
theorem eGb : D206 r n c206 x0 r206 = (K1 (s206 r n) 0) :=
 (by kernel_rfl)
theorem dTu : aE CF r n 206 args h = s206 r n (aP args 0) h :=
 (by kernel_rfl : aE CF r n 206 args h = D206 r n c206 x0 r206 (aJ args) h).trans ((congrFun (congrFun (eGb r n) (aJ args)) h).trans (by kernel_rfl))
noncomputable def eU (r : RT) (n : Nat) (x4 : DV) (h0 : Hp) : aK :=
 some (.t [x4, (aC 0)], h0)
noncomputable def bHc (r : RT) (n : Nat) (kk5 : eN) (x4 x14 : DV) (h0 : Hp) : aK :=
 bnd (aBa x14 h0) fun v1 h1 =>
 bnd (aG 0 v1 h1) fun v2 h2 =>
 aU v2 (
 bnd (aG 2 v1 h2) fun v3 h3 =>
 bnd (aF .gtr x4 (aC 115292150460684697) h3) fun v4 h4 =>
 aU v4 (
 some (.t [(aC 0), (aC 2)], h4)) (
 bnd (aF .mul x4 (aC 10) h4) fun v5 h5 =>
 bnd (aF .sub v3 (.i .i32 (Int.ofNat 48)) h5) fun v6 h6 =>
 bnd (eM .i64 v6 h6) fun v7 h7 =>
 bnd (aF .add v5 v7 h7) fun v8 h8 =>
 bnd (aF .gtr v8 (aC 1152921504606846976) h8) fun v9 h9 =>
 aU v9 (
 some (.t [(aC 0), (aC 2)], h9)) (
     kk5 v8 x14 h9))) (
   eU r n x4 h2)
noncomputable def tU (r : RT) (n : Nat) (m : Nat) : eN :=
 Nat.rec (motive := fun _ => eN) (fun _ _ _ => none) (fun _ ih => bHc r n ih) m
noncomputable def cAy (r : RT) (n : Nat) : eN := tU r n n
noncomputable def aZl (r : RT) (n : Nat) (x4 x14 : DV) (h0 : Hp) : aK :=
 cAy r n x4 x14 h0
noncomputable def aWm (r : RT) (n : Nat) (x0 x4 : DV) (h0 : Hp) : aK :=
 bnd (aO x0 h0) fun v1 h1 =>
 bnd (aB 0 v1 h1) fun v2 h2 =>
 bnd (aA v2 h2) fun v3 h3 =>
 bnd (gA v3 h3) fun v4 h4 =>
 bnd (r 175 [x0, (.f 206 [] []), v4] h4) fun v5 h5 =>
 bnd (nT v5 h5) fun v6 h6 =>
  aZl r n x4 v6 h6
noncomputable def aVb (r : RT) (n : Nat) (x0 : DV) (h0 : Hp) : aK :=
 aWm r n x0 (aC 0) h0
noncomputable def s207 (r : RT) (n : Nat) (x0 : DV) (h0 : Hp) : aK :=
 aVb r n x0 h0
noncomputable abbrev c207 : Code := cf Tryz.f207
noncomputable abbrev aJo : Code := cR c207
noncomputable abbrev aFx : Code := cR aJo
noncomputable abbrev dSq : Code := cR aFx
noncomputable abbrev zJ : Code := cL aFx
noncomputable abbrev aYn : Code := cR zJ
noncomputable abbrev aJh : Code := cL aYn
noncomputable abbrev oK : Code := cL aJh
noncomputable abbrev cDm : Code := cL zJ
noncomputable abbrev bRu : Code := cL aJo
noncomputable abbrev bFe : Code := cL c207
noncomputable abbrev r207 : K := aR CF Tryz.f207
noncomputable def D207 (r : RT) (n : Nat) (c : Code) (X : Nat → K) (k : K) : K := aM CF r 29 n c X r207 k
theorem cXl : D207 r n dSq x0 r207 = (K1 (eU r n) 4) :=
 (by kernel_rfl)
theorem bZe (kk5 : eN) : D207 r n oK (xs x0 0 (K1 (eU r n) 4)) (K2 kk5 4 14) = (K2 (bHc r n kk5) 4 14) :=
 (by kernel_rfl)
theorem bRk (m : Nat) : aL (fun kk => D207 r n oK (xs x0 0 (K1 (eU r n) 4)) kk) m = (K2 (tU r n m) 4 14) := by
 induction m with
 | zero => exact (by kernel_rfl : aL (fun kk => D207 r n oK (xs x0 0 (K1 (eU r n) 4)) kk) 0 = (K2 (tU r n 0) 4 14))
 | succ m ih =>
  refine (by kernel_rfl : aL (fun kk => D207 r n oK (xs x0 0 (K1 (eU r n) 4)) kk) (m + 1) = D207 r n oK (xs x0 0 (K1 (eU r n) 4)) (aL (fun kk => D207 r n oK (xs x0 0 (K1 (eU r n) 4)) kk) m)).trans ?_
  rw [ih]
  exact (bZe r n (tU r n m)).trans (by kernel_rfl)
theorem cZm : D207 r n aJh (xs x0 0 (K1 (eU r n) 4)) (K1 (eU r n) 4) = (K2 (cAy r n) 4 14) :=
 (by kernel_rfl : D207 r n aJh (xs x0 0 (K1 (eU r n) 4)) (K1 (eU r n) 4) = aL (fun kk => D207 r n oK (xs x0 0 (K1 (eU r n) 4)) kk) n).trans ((bRk r n n).trans (by kernel_rfl))
theorem cOb : D207 r n aYn x0 (K1 (eU r n) 4) = (K2 (aZl r n) 4 14) :=
 (by kernel_rfl : D207 r n aYn x0 (K1 (eU r n) 4) = D207 r n aJh (xs x0 0 (K1 (eU r n) 4)) (K1 (eU r n) 4)).trans
 ((cZm r n).trans (by kernel_rfl))
theorem bWu : D207 r n aFx x0 r207 = D207 r n zJ x0 (K1 (eU r n) 4) :=
 congrArg (fun k => D207 r n zJ x0 k) (cXl r n)
theorem cDh : D207 r n zJ x0 (K1 (eU r n) 4) = D207 r n cDm x0 (K2 (aZl r n) 4 14) :=
 congrArg (fun k => D207 r n cDm x0 k) (cOb r n)
theorem cXi : D207 r n aFx x0 r207 = (K2 (aWm r n) 0 4) :=
 (bWu r n).trans
 ((cDh r n).trans
 ((by kernel_rfl)))
theorem cMw : D207 r n aJo x0 r207 = D207 r n bRu x0 (K2 (aWm r n) 0 4) :=
 congrArg (fun k => D207 r n bRu x0 k) (cXi r n)
theorem cXe : D207 r n aJo x0 r207 = (K1 (aVb r n) 0) :=
 (cMw r n).trans
 ((by kernel_rfl))
theorem dQp : D207 r n c207 x0 r207 = D207 r n bFe x0 (K1 (aVb r n) 0) :=
 congrArg (fun k => D207 r n bFe x0 k) (cXe r n)
theorem eDz : D207 r n c207 x0 r207 = (K1 (s207 r n) 0) :=
 (dQp r n).trans
 ((by kernel_rfl))
theorem dOr : aE CF r n 207 args h = s207 r n (aP args 0) h :=
 (by kernel_rfl : aE CF r n 207 args h = D207 r n c207 x0 r207 (aJ args) h).trans ((congrFun (congrFun (eDz r n) (aJ args)) h).trans (by kernel_rfl))
noncomputable def fV (r : RT) (n : Nat) (x5 : DV) (h0 : Hp) : aK :=
 some (.t [x5, (aC 0)], h0)
noncomputable def bHq (r : RT) (n : Nat) (kk8 : eN) (x0 x5 : DV) (h0 : Hp) : aK :=
 bnd (r 202 [x0, (aC 0)] h0) fun v1 h1 =>
 bnd (r 203 [v1] h1) fun v2 h2 =>
 aU v2 (
 bnd (aO x0 h2) fun v3 h3 =>
 bnd (aB 1 v3 h3) fun v4 h4 =>
 bnd (aA v4 h4) fun v5 h5 =>
 bnd (r 204 [x0] h5) fun v6 h6 =>
 bnd (aG 0 v6 h6) fun v7 h7 =>
 bnd (aG 1 v6 h7) fun v8 h8 =>
 bnd (r 205 [x0] h8) fun v9 h9 =>
 bnd (eO .not v9 h9) fun v10 h10 =>
 aU v10 (
 bnd (aO x0 h10) fun v11 h11 =>
 bnd (aB 1 v11 h11) fun v12 h12 =>
 bnd (aD 1 v12 v5 h12) fun _ h13 =>
 some (.t [x5, (aC 0)], h13)) (
 bnd (aF .neq v8 (aC 0) h10) fun v14 h14 =>
 aU v14 (
 some (.t [(.s []), v8], h14)) (
 bnd (eG .add v7 (.s [58]) h14) fun v15 h15 =>
 bnd (eG .add x5 v15 h15) fun v16 h16 =>
     kk8 x0 v16 h16))) (
      fV r n x5 h2)
noncomputable def vA (r : RT) (n : Nat) (m : Nat) : eN :=
 Nat.rec (motive := fun _ => eN) (fun _ _ _ => none) (fun _ ih => bHq r n ih) m
noncomputable def bYv (r : RT) (n : Nat) : eN := vA r n n
noncomputable def aXd (r : RT) (n : Nat) (x0 x5 : DV) (h0 : Hp) : aK :=
 bYv r n x0 x5 h0
noncomputable def aTx (r : RT) (n : Nat) (x0 x5 : DV) (h0 : Hp) : aK :=
 bnd (eG .add x5 (.s [58]) h0) fun v1 h1 =>
  aXd r n x0 v1 h1
noncomputable def aSl (r : RT) (n : Nat) (x0 x5 x6 : DV) (h0 : Hp) : aK :=
 bnd (aF .neq x6 (aC 0) h0) fun v1 h1 =>
 bnd (gD v1 false (some (x0, h1)) h1) fun v2 h2 =>
 bnd (gD v1 false (r 205 [v2] h2) h2) fun v3 h3 =>
 bnd (gD v1 false (eO .not v3 h3) h3) fun v4 h4 =>
 bnd (aQ v1 (.b true) v4 h4) fun v5 h5 =>
 aU v5 (
 some (.t [x5, x6], h5)) (
  aTx r n x0 x5 h5)
noncomputable def bAe (r : RT) (n : Nat) (x0 : DV) (h0 : Hp) : aK :=
 bnd (r 204 [x0] h0) fun v1 h1 =>
 bnd (aG 0 v1 h1) fun v2 h2 =>
 bnd (aG 1 v1 h2) fun v3 h3 =>
  aSl r n x0 v2 v3 h3
noncomputable def aUw (r : RT) (n : Nat) (x0 : DV) (h0 : Hp) : aK :=
 bnd (r 202 [x0, (aC 0)] h0) fun v1 h1 =>
 bnd (r 203 [v1] h1) fun v2 h2 =>
 bnd (eO .not v2 h2) fun v3 h3 =>
 aU v3 (
 some (.t [(.s []), (aC 10)], h3)) (
  bAe r n x0 h3)
noncomputable def bAd (r : RT) (n : Nat) (x0 : DV) (h0 : Hp) : aK :=
 bnd (r 176 [(.s [43, 45, 42, 47, 60, 62, 61, 126, 44, 64, 38, 37])] h0) fun v1 h1 =>
 bnd (r 175 [x0, v1, (aC 2)] h1) fun v2 h2 =>
 bnd (eG .neq v2 (.s []) h2) fun v3 h3 =>
 aU v3 (
 some (.t [v2, (aC 0)], h3)) (
  aUw r n x0 h3)
noncomputable def s209 (r : RT) (n : Nat) (x0 : DV) (h0 : Hp) : aK :=
 bAd r n x0 h0
noncomputable abbrev c209 : Code := cf Tryz.f209
noncomputable abbrev aEe : Code := cR c209
noncomputable abbrev aGa : Code := cR aEe
noncomputable abbrev aMr : Code := cR aGa
noncomputable abbrev aHg : Code := cR aMr
noncomputable abbrev aEc : Code := cR aHg
noncomputable abbrev aIw : Code := cR aEc
noncomputable abbrev dJc : Code := cR aIw
noncomputable abbrev aCh : Code := cL aIw
noncomputable abbrev aMo : Code := cL aCh
noncomputable abbrev lJ : Code := cL aMo
noncomputable abbrev bIi : Code := cL aEc
noncomputable abbrev bFj : Code := cL aHg
noncomputable abbrev bBy : Code := cL aMr
noncomputable abbrev bDn : Code := cL aGa
noncomputable abbrev bGk : Code := cL aEe
noncomputable abbrev bGw : Code := cL c209
noncomputable abbrev r209 : K := aR CF Tryz.f209
noncomputable def D209 (r : RT) (n : Nat) (c : Code) (X : Nat → K) (k : K) : K := aM CF r 64 n c X r209 k
theorem cOk : D209 r n dJc x0 r209 = (K1 (fV r n) 5) :=
 (by kernel_rfl)
theorem cBy (kk8 : eN) : D209 r n lJ (xs x0 0 (K1 (fV r n) 5)) (K2 kk8 0 5) = (K2 (bHq r n kk8) 0 5) :=
 (by kernel_rfl)
theorem cKi (m : Nat) : aL (fun kk => D209 r n lJ (xs x0 0 (K1 (fV r n) 5)) kk) m = (K2 (vA r n m) 0 5) := by
 induction m with
 | zero => exact (by kernel_rfl : aL (fun kk => D209 r n lJ (xs x0 0 (K1 (fV r n) 5)) kk) 0 = (K2 (vA r n 0) 0 5))
 | succ m ih =>
  refine (by kernel_rfl : aL (fun kk => D209 r n lJ (xs x0 0 (K1 (fV r n) 5)) kk) (m + 1) = D209 r n lJ (xs x0 0 (K1 (fV r n) 5)) (aL (fun kk => D209 r n lJ (xs x0 0 (K1 (fV r n) 5)) kk) m)).trans ?_
  rw [ih]
  exact (cBy r n (vA r n m)).trans (by kernel_rfl)
theorem cPy : D209 r n aMo (xs x0 0 (K1 (fV r n) 5)) (K1 (fV r n) 5) = (K2 (bYv r n) 0 5) :=
 (by kernel_rfl : D209 r n aMo (xs x0 0 (K1 (fV r n) 5)) (K1 (fV r n) 5) = aL (fun kk => D209 r n lJ (xs x0 0 (K1 (fV r n) 5)) kk) n).trans ((cKi r n n).trans (by kernel_rfl))
theorem cDy : D209 r n aIw x0 r209 = D209 r n aCh x0 (K1 (fV r n) 5) :=
 congrArg (fun k => D209 r n aCh x0 k) (cOk r n)
theorem dAw : D209 r n aIw x0 r209 = (K2 (aXd r n) 0 5) :=
 (cDy r n).trans
 ((by kernel_rfl : D209 r n aCh x0 (K1 (fV r n) 5) = D209 r n aMo (xs x0 0 (K1 (fV r n) 5)) (K1 (fV r n) 5)).trans
 ((cPy r n).trans (by kernel_rfl)))
theorem cLp : D209 r n aEc x0 r209 = D209 r n bIi x0 (K2 (aXd r n) 0 5) :=
 congrArg (fun k => D209 r n bIi x0 k) (dAw r n)
theorem cOs : D209 r n aEc x0 r209 = (K2 (aTx r n) 0 5) :=
 (cLp r n).trans
 ((by kernel_rfl))
theorem bSx : D209 r n aHg x0 r209 = D209 r n bFj x0 (K2 (aTx r n) 0 5) :=
 congrArg (fun k => D209 r n bFj x0 k) (cOs r n)
theorem cRb : D209 r n aHg x0 r209 = (K3 (aSl r n) 0 5 6) :=
 (bSx r n).trans
 ((by kernel_rfl))
theorem bWq : D209 r n aMr x0 r209 = D209 r n bBy x0 (K3 (aSl r n) 0 5 6) :=
 congrArg (fun k => D209 r n bBy x0 k) (cRb r n)
theorem dDh : D209 r n aMr x0 r209 = (K1 (bAe r n) 0) :=
 (bWq r n).trans
 ((by kernel_rfl))
theorem bRw : D209 r n aGa x0 r209 = D209 r n bDn x0 (K1 (bAe r n) 0) :=
 congrArg (fun k => D209 r n bDn x0 k) (dDh r n)
theorem cQv : D209 r n aGa x0 r209 = (K1 (aUw r n) 0) :=
 (bRw r n).trans
 ((by kernel_rfl))
theorem cBk : D209 r n aEe x0 r209 = D209 r n bGk x0 (K1 (aUw r n) 0) :=
 congrArg (fun k => D209 r n bGk x0 k) (cQv r n)
theorem cTw : D209 r n aEe x0 r209 = (K1 (bAd r n) 0) :=
 (cBk r n).trans
 ((by kernel_rfl))
theorem dRg : D209 r n c209 x0 r209 = D209 r n bGw x0 (K1 (bAd r n) 0) :=
 congrArg (fun k => D209 r n bGw x0 k) (cTw r n)
theorem eBi : D209 r n c209 x0 r209 = (K1 (s209 r n) 0) :=
 (dRg r n).trans
 ((by kernel_rfl))
theorem dKg : aE CF r n 209 args h = s209 r n (aP args 0) h :=
 (by kernel_rfl : aE CF r n 209 args h = D209 r n c209 x0 r209 (aJ args) h).trans ((congrFun (congrFun (eBi r n) (aJ args)) h).trans (by kernel_rfl))
noncomputable def fD (r : RT) (n : Nat) (x2 x4 : DV) (h0 : Hp) : aK :=
 bnd (aH 6 x4 h0) fun v1 h1 =>
 bnd (aD 6 x2 v1 h1) fun _ h2 =>
 bnd (aH 6 x2 h2) fun v3 _ =>
 some (v3, h2)
noncomputable def aGe (r : RT) (n : Nat) (kk7 : dH) (x0 x2 x4 : DV) (h0 : Hp) : aK :=
 bnd (r 179 [x0, (aC 10), (.s [59])] h0) fun v1 h1 =>
 aU v1 (
 bnd (r 180 [x0] h1) fun v2 h2 =>
 bnd (aB 5 x4 (resv 1 h2)) fun v3 h3 =>
 bnd (aA v3 h3) fun v4 h4 =>
 bnd (r 237 [x0] h4) fun v5 h5 =>
 cnd (aW (aA v3 h5) v4 && true) (
 bnd (r 236 [v5] h5) fun v6 h6 =>
 cnd (aW (aA v3 h6) v4 && true) (
 bnd (aS (bD 0 h2.next) cQ 1 [(0, 6, v6)] h6) fun v7 h7 =>
 bnd (aX 6 104 v4 v7 h7) fun v8 h8 =>
 bnd (aB 5 x4 h8) fun v9 h9 =>
 bnd (aD 1 v9 v8 h9) fun v10 h10 =>
      kk7 x0 x2 x4 h10))) (
      fD r n x2 x4 h1)
noncomputable def vQ (r : RT) (n : Nat) (m : Nat) : dH :=
 Nat.rec (motive := fun _ => dH) (fun _ _ _ _ => none) (fun _ ih => aGe r n ih) m
noncomputable def bUk (r : RT) (n : Nat) : dH := vQ r n n
noncomputable def yB (r : RT) (n : Nat) (x0 x2 x4 : DV) (h0 : Hp) : aK :=
 bUk r n x0 x2 x4 h0
noncomputable def aLu (r : RT) (n : Nat) (x0 x2 x3 : DV) (h0 : Hp) : aK :=
 bnd (aB 5 x3 (resv 2 h0)) fun v1 h1 =>
 bnd (aA v1 h1) fun v2 h2 =>
 bnd (aI 6 v2 (aC 0) h2) fun v3 h3 =>
 bnd (aH 6 v3 h3) fun v4 h4 =>
 bnd (aH 6 x3 h4) fun v5 h5 =>
 bnd (r 236 [v5] h5) fun v6 h6 =>
 cnd (aW (aH 6 v3 h6) v4 && (aW (aA v1 h6) v2 && true)) (
 bnd (aS (bD 0 h0.next) [(aC 0), (.s []), (aC 0), .l0, .l0, .l0, (aC 0), (.s []), (aC 0), .l0, .l0, .l0] 2 [(0, 6, v4), (6, 6, v6)] h6) fun v7 h7 =>
 bnd (aT cQ [(0, 1, (aC 8)), (5, 1, v7)] h7) fun v8 h8 =>
 bnd (iX (bD 1 h0.next) cQ h8) fun v9 h9 =>
 bnd (aD 6 v9 v8 h9) fun v10 h10 =>
  yB r n x0 x2 v9 h10)
noncomputable def aTm (r : RT) (n : Nat) (x0 x2 x3 : DV) (h0 : Hp) : aK :=
 bnd (aB 0 x3 h0) fun v1 h1 =>
 bnd (aA v1 h1) fun v2 h2 =>
 bnd (aF .neq v2 (aC 7) h2) fun v3 h3 =>
 aU v3 (
 bnd (r 183 [x0, (aC 0)] h3) fun v4 h4 =>
 bnd (r 182 [x0, v4, (aC 13)] h4) fun v5 h5 =>
 bnd (aH 6 x3 h5) fun v6 h6 =>
 bnd (aD 6 x2 v6 h6) fun _ h7 =>
 bnd (aH 6 x2 h7) fun v8 _ =>
 some (v8, h7)) (
  aLu r n x0 x2 x3 h3)
noncomputable def zD (r : RT) (n : Nat) (x0 x2 x3 : DV) (h0 : Hp) : aK :=
 bnd (r 179 [x0, (aC 10), (.s [59])] h0) fun v1 h1 =>
 bnd (eO .not v1 h1) fun v2 h2 =>
 aU v2 (
 bnd (aH 6 x3 h2) fun v3 h3 =>
 bnd (aD 6 x2 v3 h3) fun _ h4 =>
 bnd (aH 6 x2 h4) fun v5 _ =>
 some (v5, h4)) (
  aTm r n x0 x2 x3 h2)
noncomputable def rH (r : RT) (n : Nat) (x0 x2 : DV) (h0 : Hp) : aK :=
 bnd (r 235 [x0] h0) fun v1 h1 =>
 bnd (r 234 [x0, v1] h1) fun v2 h2 =>
 bnd (r 233 [x0, v2] h2) fun v3 h3 =>
 bnd (r 232 [x0, v3] h3) fun v4 h4 =>
 bnd (bA cQ h4) fun v5 h5 =>
 bnd (aD 6 v5 v4 h5) fun _ h6 =>
  zD r n x0 x2 v5 h6
noncomputable def s210 (r : RT) (n : Nat) (x0 : DV) (h0 : Hp) : aK :=
 bnd (bA cQ h0) fun v1 h1 =>
  rH r n x0 v1 h1
noncomputable abbrev c210 : Code := cf Tryz.f210
noncomputable abbrev aCq : Code := cR c210
noncomputable abbrev aGo : Code := cR aCq
noncomputable abbrev aGy : Code := cR aGo
noncomputable abbrev aJr : Code := cR aGy
noncomputable abbrev aIy : Code := cR aJr
noncomputable abbrev dWt : Code := cR aIy
noncomputable abbrev aHn : Code := cL aIy
noncomputable abbrev aDr : Code := cL aHn
noncomputable abbrev mZ : Code := cL aDr
noncomputable abbrev aFd : Code := cL aJr
noncomputable abbrev bCm : Code := cL aGy
noncomputable abbrev bDo : Code := cL aGo
noncomputable abbrev aNg : Code := cL aCq
noncomputable abbrev aCi : Code := cL c210
noncomputable abbrev r210 : K := aR CF Tryz.f210
noncomputable def D210 (r : RT) (n : Nat) (c : Code) (X : Nat → K) (k : K) : K := aM CF r 46 n c X r210 k
theorem dBv : D210 r n dWt x0 r210 = (K2 (fD r n) 2 4) :=
 (by kernel_rfl)
theorem cDz (kk7 : dH) (q0 : eN) : D210 r n mZ (xs x0 0 (K2 q0 2 4)) (K3 kk7 0 2 4) = fun (env : aV) (h : Hp) =>
 bnd (r 179 [(env 0), (aC 10), (.s [59])] h) fun v1 h1 =>
 aU v1 (
 bnd (r 180 [(env 0)] h1) fun v2 h2 =>
 bnd (aB 5 (env 4) (resv 1 h2)) fun v3 h3 =>
 bnd (aA v3 h3) fun v4 h4 =>
 bnd (r 237 [(env 0)] h4) fun v5 h5 =>
 cnd (aW (aA v3 h5) v4 && true) (
 bnd (r 236 [v5] h5) fun v6 h6 =>
 cnd (aW (aA v3 h6) v4 && true) (
 bnd (aS (bD 0 h2.next) cQ 1 [(0, 6, v6)] h6) fun v7 h7 =>
 bnd (aX 6 104 v4 v7 h7) fun v8 h8 =>
 bnd (aB 5 (env 4) h8) fun v9 h9 =>
 bnd (aD 1 v9 v8 h9) fun v10 h10 =>
      kk7 (env 0) (env 2) (env 4) h10))) (
      q0 (env 2) (env 4) h1) := by kernel_rfl
theorem bOn (kk7 : dH) : (fun (env : aV) (h : Hp) =>
 bnd (r 179 [(env 0), (aC 10), (.s [59])] h) fun v1 h1 =>
 aU v1 (
 bnd (r 180 [(env 0)] h1) fun v2 h2 =>
 bnd (aB 5 (env 4) (resv 1 h2)) fun v3 h3 =>
 bnd (aA v3 h3) fun v4 h4 =>
 bnd (r 237 [(env 0)] h4) fun v5 h5 =>
 cnd (aW (aA v3 h5) v4 && true) (
 bnd (r 236 [v5] h5) fun v6 h6 =>
 cnd (aW (aA v3 h6) v4 && true) (
 bnd (aS (bD 0 h2.next) cQ 1 [(0, 6, v6)] h6) fun v7 h7 =>
 bnd (aX 6 104 v4 v7 h7) fun v8 h8 =>
 bnd (aB 5 (env 4) h8) fun v9 h9 =>
 bnd (aD 1 v9 v8 h9) fun v10 h10 =>
      kk7 (env 0) (env 2) (env 4) h10))) (
      fD r n (env 2) (env 4) h1)) = (K3 (aGe r n kk7) 0 2 4) := by kernel_rfl
theorem bYk (kk7 : dH) : D210 r n mZ (xs x0 0 (K2 (fD r n) 2 4)) (K3 kk7 0 2 4) = (K3 (aGe r n kk7) 0 2 4) :=
 (cDz r n kk7 (fD r n)).trans (bOn r n kk7)
theorem cIr (m : Nat) : aL (fun kk => D210 r n mZ (xs x0 0 (K2 (fD r n) 2 4)) kk) m = (K3 (vQ r n m) 0 2 4) := by
 induction m with
 | zero => exact (by kernel_rfl : aL (fun kk => D210 r n mZ (xs x0 0 (K2 (fD r n) 2 4)) kk) 0 = (K3 (vQ r n 0) 0 2 4))
 | succ m ih =>
  refine (by kernel_rfl : aL (fun kk => D210 r n mZ (xs x0 0 (K2 (fD r n) 2 4)) kk) (m + 1) = D210 r n mZ (xs x0 0 (K2 (fD r n) 2 4)) (aL (fun kk => D210 r n mZ (xs x0 0 (K2 (fD r n) 2 4)) kk) m)).trans ?_
  rw [ih]
  exact (bYk r n (vQ r n m)).trans (by kernel_rfl)
theorem cUo : D210 r n aDr (xs x0 0 (K2 (fD r n) 2 4)) (K2 (fD r n) 2 4) = (K3 (bUk r n) 0 2 4) :=
 (by kernel_rfl : D210 r n aDr (xs x0 0 (K2 (fD r n) 2 4)) (K2 (fD r n) 2 4) = aL (fun kk => D210 r n mZ (xs x0 0 (K2 (fD r n) 2 4)) kk) n).trans ((cIr r n n).trans (by kernel_rfl))
theorem cIm : D210 r n aIy x0 r210 = D210 r n aHn x0 (K2 (fD r n) 2 4) :=
 congrArg (fun k => D210 r n aHn x0 k) (dBv r n)
theorem cVt : D210 r n aIy x0 r210 = (K3 (yB r n) 0 2 4) :=
 (cIm r n).trans
 ((by kernel_rfl : D210 r n aHn x0 (K2 (fD r n) 2 4) = D210 r n aDr (xs x0 0 (K2 (fD r n) 2 4)) (K2 (fD r n) 2 4)).trans
 ((cUo r n).trans (by kernel_rfl)))
theorem bSm : D210 r n aJr x0 r210 = D210 r n aFd x0 (K3 (yB r n) 0 2 4) :=
 congrArg (fun k => D210 r n aFd x0 k) (cVt r n)
theorem bTv (q0 : dH) : D210 r n aFd x0 (K3 q0 0 2 4) = fun (env : aV) (h : Hp) =>
 bnd (aB 5 (env 3) (resv 2 h)) fun v1 h1 =>
 bnd (aA v1 h1) fun v2 h2 =>
 bnd (aI 6 v2 (aC 0) h2) fun v3 h3 =>
 bnd (aH 6 v3 h3) fun v4 h4 =>
 bnd (aH 6 (env 3) h4) fun v5 h5 =>
 bnd (r 236 [v5] h5) fun v6 h6 =>
 cnd (aW (aH 6 v3 h6) v4 && (aW (aA v1 h6) v2 && true)) (
 bnd (aS (bD 0 h.next) [(aC 0), (.s []), (aC 0), .l0, .l0, .l0, (aC 0), (.s []), (aC 0), .l0, .l0, .l0] 2 [(0, 6, v4), (6, 6, v6)] h6) fun v7 h7 =>
 bnd (aT cQ [(0, 1, (aC 8)), (5, 1, v7)] h7) fun v8 h8 =>
 bnd (iX (bD 1 h.next) cQ h8) fun v9 h9 =>
 bnd (aD 6 v9 v8 h9) fun v10 h10 =>
  q0 (env 0) (env 2) v9 h10) := by kernel_rfl
theorem bOl : (fun (env : aV) (h : Hp) =>
 bnd (aB 5 (env 3) (resv 2 h)) fun v1 h1 =>
 bnd (aA v1 h1) fun v2 h2 =>
 bnd (aI 6 v2 (aC 0) h2) fun v3 h3 =>
 bnd (aH 6 v3 h3) fun v4 h4 =>
 bnd (aH 6 (env 3) h4) fun v5 h5 =>
 bnd (r 236 [v5] h5) fun v6 h6 =>
 cnd (aW (aH 6 v3 h6) v4 && (aW (aA v1 h6) v2 && true)) (
 bnd (aS (bD 0 h.next) [(aC 0), (.s []), (aC 0), .l0, .l0, .l0, (aC 0), (.s []), (aC 0), .l0, .l0, .l0] 2 [(0, 6, v4), (6, 6, v6)] h6) fun v7 h7 =>
 bnd (aT cQ [(0, 1, (aC 8)), (5, 1, v7)] h7) fun v8 h8 =>
 bnd (iX (bD 1 h.next) cQ h8) fun v9 h9 =>
 bnd (aD 6 v9 v8 h9) fun v10 h10 =>
  yB r n (env 0) (env 2) v9 h10)) = (K3 (aLu r n) 0 2 3) := by kernel_rfl
theorem dFf : D210 r n aJr x0 r210 = (K3 (aLu r n) 0 2 3) :=
 (bSm r n).trans
 ((bTv r n (yB r n)).trans (bOl r n))
theorem bRd : D210 r n aGy x0 r210 = D210 r n bCm x0 (K3 (aLu r n) 0 2 3) :=
 congrArg (fun k => D210 r n bCm x0 k) (dFf r n)
theorem cWv : D210 r n aGy x0 r210 = (K3 (aTm r n) 0 2 3) :=
 (bRd r n).trans
 ((by kernel_rfl))
theorem bZp : D210 r n aGo x0 r210 = D210 r n bDo x0 (K3 (aTm r n) 0 2 3) :=
 congrArg (fun k => D210 r n bDo x0 k) (cWv r n)
theorem cOr : D210 r n aGo x0 r210 = (K3 (zD r n) 0 2 3) :=
 (bZp r n).trans
 ((by kernel_rfl))
theorem cDo : D210 r n aCq x0 r210 = D210 r n aNg x0 (K3 (zD r n) 0 2 3) :=
 congrArg (fun k => D210 r n aNg x0 k) (cOr r n)
theorem cGt (q0 : dH) : D210 r n aNg x0 (K3 q0 0 2 3) = fun (env : aV) (h : Hp) =>
 bnd (r 235 [(env 0)] h) fun v1 h1 =>
 bnd (r 234 [(env 0), v1] h1) fun v2 h2 =>
 bnd (r 233 [(env 0), v2] h2) fun v3 h3 =>
 bnd (r 232 [(env 0), v3] h3) fun v4 h4 =>
 bnd (bA cQ h4) fun v5 h5 =>
 bnd (aD 6 v5 v4 h5) fun _ h6 =>
  q0 (env 0) (env 2) v5 h6 := by kernel_rfl
theorem bNq : (fun (env : aV) (h : Hp) =>
 bnd (r 235 [(env 0)] h) fun v1 h1 =>
 bnd (r 234 [(env 0), v1] h1) fun v2 h2 =>
 bnd (r 233 [(env 0), v2] h2) fun v3 h3 =>
 bnd (r 232 [(env 0), v3] h3) fun v4 h4 =>
 bnd (bA cQ h4) fun v5 h5 =>
 bnd (aD 6 v5 v4 h5) fun _ h6 =>
  zD r n (env 0) (env 2) v5 h6) = (K2 (rH r n) 0 2) := by kernel_rfl
theorem cRd : D210 r n aCq x0 r210 = (K2 (rH r n) 0 2) :=
 (cDo r n).trans
 ((cGt r n (zD r n)).trans (bNq r n))
theorem dJm : D210 r n c210 x0 r210 = D210 r n aCi x0 (K2 (rH r n) 0 2) :=
 congrArg (fun k => D210 r n aCi x0 k) (cRd r n)
theorem cWw (q0 : eN) : D210 r n aCi x0 (K2 q0 0 2) = fun (env : aV) (h : Hp) =>
 bnd (bA cQ h) fun v1 h1 =>
  q0 (env 0) v1 h1 := by kernel_rfl
theorem cNh : (fun (env : aV) (h : Hp) =>
 bnd (bA cQ h) fun v1 h1 =>
  rH r n (env 0) v1 h1) = (K1 (s210 r n) 0) := by kernel_rfl
theorem dXo : D210 r n c210 x0 r210 = (K1 (s210 r n) 0) :=
 (dJm r n).trans
 ((cWw r n (rH r n)).trans (cNh r n))
theorem dWz : aE CF r n 210 args h = s210 r n (aP args 0) h :=
 (by kernel_rfl : aE CF r n 210 args h = D210 r n c210 x0 r210 (aJ args) h).trans ((congrFun (congrFun (dXo r n) (aJ args)) h).trans (by kernel_rfl))
noncomputable def s211 (r : RT) (n : Nat) (x0 x1 : DV) (h0 : Hp) : aK :=
 bnd (bM x1 h0) fun v1 h1 =>
 bnd (bA [(.s []), (.b false), (.b false), (aC 0)] h1) fun v2 h2 =>
 bnd (aO x0 h2) fun v3 h3 =>
 bnd (aB 6 v3 h3) fun v4 h4 =>
 bnd (aA v4 h4) fun v5 h5 =>
 bnd (r 238 [v5, (.f 239 [] [v1])] h5) fun v6 h6 =>
 bnd (aF .lss v6 (aC 0) h6) fun v7 h7 =>
 aU v7 (
 bnd (aT [(.s []), (.b false), (.b false), (aC 0)] [] h7) fun v8 h8 =>
 bnd (aD 4 v2 v8 h8) fun _ h9 =>
 bnd (aH 4 v2 h9) fun v10 _ =>
 some (.t [v10, (.b false)], h9)) (
 bnd (aO x0 h7) fun v11 h11 =>
 bnd (aB 6 v11 h11) fun v12 h12 =>
 bnd (aA v12 h12) fun v13 h13 =>
 bnd (aI 4 v13 v6 h13) fun v14 h14 =>
 bnd (aH 4 v14 h14) fun v15 h15 =>
 bnd (aD 4 v2 v15 h15) fun _ h16 =>
 bnd (aH 4 v2 h16) fun v17 _ =>
 some (.t [v17, (.b true)], h16))
noncomputable abbrev c211 : Code := cf Tryz.f211
noncomputable abbrev r211 : K := aR CF Tryz.f211
noncomputable def D211 (r : RT) (n : Nat) (c : Code) (X : Nat → K) (k : K) : K := aM CF r 23 n c X r211 k
theorem eFi : D211 r n c211 x0 r211 = (K2 (s211 r n) 0 1) :=
 (by kernel_rfl)
theorem dQo : aE CF r n 211 args h = s211 r n (aP args 0) (aP args 1) h :=
 (by kernel_rfl : aE CF r n 211 args h = D211 r n c211 x0 r211 (aJ args) h).trans ((congrFun (congrFun (eFi r n) (aJ args)) h).trans (by kernel_rfl))
noncomputable def iB (r : RT) (n : Nat) (h0 : Hp) : aK :=
 some ((.b false), h0)
noncomputable def mF (r : RT) (n : Nat) (x4 : DV) (h0 : Hp) : aK :=
 aU x4 (
 some ((.b true), h0)) (
  iB r n h0)
noncomputable def aVo (r : RT) (n : Nat) (x3 : DV) (h0 : Hp) : aK :=
 bnd (eG .eql x3 (.s [115, 101, 108, 102]) h0) fun v1 h1 =>
 aU v1 (
  mF r n v1 h1) (
 bnd (eG .eql x3 (.s [115, 117, 112, 101, 114]) h1) fun v2 h2 =>
 aU v2 (
   mF r n v2 h2) (
 bnd (eG .eql x3 (.s [110, 105, 108]) h2) fun v3 h3 =>
 aU v3 (
    mF r n v3 h3) (
 bnd (eG .eql x3 (.s [116, 114, 117, 101]) h3) fun v4 h4 =>
 aU v4 (
     mF r n v4 h4) (
 bnd (eG .eql x3 (.s [102, 97, 108, 115, 101]) h4) fun v5 h5 =>
 aU v5 (
      mF r n v5 h5) (
 bnd (eG .eql x3 (.s [116, 104, 105, 115, 67, 111, 110, 116, 101, 120, 116]) h5) fun v6 h6 =>
      mF r n v6 h6)))))
noncomputable def aVv (r : RT) (n : Nat) (x0 : DV) (h0 : Hp) : aK :=
 aVo r n x0 h0
noncomputable def s212 (r : RT) (n : Nat) (x0 : DV) (h0 : Hp) : aK :=
 aVv r n x0 h0
noncomputable abbrev c212 : Code := cf Tryz.f212
noncomputable abbrev aNu : Code := cR c212
noncomputable abbrev dSl : Code := cR aNu
noncomputable abbrev xA : Code := cL aNu
noncomputable abbrev aWu : Code := cR xA
noncomputable abbrev aHw : Code := cL aWu
noncomputable abbrev dMd : Code := cR aHw
noncomputable abbrev cJd : Code := cL aHw
noncomputable abbrev cAb : Code := cL xA
noncomputable abbrev cIa : Code := cL c212
noncomputable abbrev r212 : K := aR CF Tryz.f212
noncomputable def D212 (r : RT) (n : Nat) (c : Code) (X : Nat → K) (k : K) : K := aM CF r 11 n c X r212 k
theorem cPf : D212 r n dSl x0 r212 = (K0 (iB r n)) :=
 (by kernel_rfl)
theorem cZd : D212 r n dMd (xs x0 0 (K0 (iB r n))) (K0 (iB r n)) = (K1 (mF r n) 4) :=
 (by kernel_rfl)
theorem bXh : D212 r n aHw (xs x0 0 (K0 (iB r n))) (K0 (iB r n)) = D212 r n cJd (xs x0 0 (K0 (iB r n))) (K1 (mF r n) 4) :=
 congrArg (fun k => D212 r n cJd (xs x0 0 (K0 (iB r n))) k) (cZd r n)
theorem cWo : D212 r n aWu x0 (K0 (iB r n)) = (K1 (aVo r n) 3) :=
 (by kernel_rfl : D212 r n aWu x0 (K0 (iB r n)) = D212 r n aHw (xs x0 0 (K0 (iB r n))) (K0 (iB r n))).trans
 ((bXh r n).trans
 ((by kernel_rfl)))
theorem cEd : D212 r n aNu x0 r212 = D212 r n xA x0 (K0 (iB r n)) :=
 congrArg (fun k => D212 r n xA x0 k) (cPf r n)
theorem bWn : D212 r n xA x0 (K0 (iB r n)) = D212 r n cAb x0 (K1 (aVo r n) 3) :=
 congrArg (fun k => D212 r n cAb x0 k) (cWo r n)
theorem cXx : D212 r n aNu x0 r212 = (K1 (aVv r n) 0) :=
 (cEd r n).trans
 ((bWn r n).trans
 ((by kernel_rfl)))
theorem dVm : D212 r n c212 x0 r212 = D212 r n cIa x0 (K1 (aVv r n) 0) :=
 congrArg (fun k => D212 r n cIa x0 k) (cXx r n)
theorem eEu : D212 r n c212 x0 r212 = (K1 (s212 r n) 0) :=
 (dVm r n).trans
 ((by kernel_rfl))
theorem dTm : aE CF r n 212 args h = s212 r n (aP args 0) h :=
 (by kernel_rfl : aE CF r n 212 args h = D212 r n c212 x0 r212 (aJ args) h).trans ((congrFun (congrFun (eEu r n) (aJ args)) h).trans (by kernel_rfl))
end Go.Dd

namespace Go.Dd
open Go.Proofs
variable (r : RT) (n : Nat) (args : List DV) (h : Hp)
noncomputable def aZ (r : RT) (n : Nat) (x0 x4 : DV) (h0 : Hp) : aK :=
 bnd (r 213 [x0, (.s []), (aC 1)] h0) fun v1 h1 =>
 bnd (aT [(aC 0), (.s []), (aC 0), .l0] [] h1) fun v2 h2 =>
 bnd (aD 4 x4 v2 h2) fun _ h3 =>
 bnd (aH 4 x4 h3) fun v4 _ =>
 some (v4, h3)
noncomputable def dC (r : RT) (n : Nat) (x4 x5 : DV) (h0 : Hp) : aK :=
 bnd (aH 4 x5 h0) fun v1 h1 =>
 bnd (aD 4 x4 v1 h1) fun _ h2 =>
 bnd (aH 4 x4 h2) fun v3 _ =>
 some (v3, h2)
noncomputable def aAt (r : RT) (n : Nat) (kk15 : dA) (x0 x4 x5 x29 x30 x31 : DV) (h0 : Hp) : aK :=
 bnd (aF .lss x31 x30 h0) fun v1 h1 =>
 aU v1 (
 bnd (aI 6 x29 x31 h1) fun v2 h2 =>
 bnd (aH 6 v2 h2) fun v3 h3 =>
 bnd (bA cQ h3) fun v4 h4 =>
 bnd (aD 6 v4 v3 h4) fun _ h5 =>
 bnd (aB 3 x5 (resv 1 h5)) fun v6 h6 =>
 bnd (aA v6 h6) fun v7 h7 =>
 bnd (aH 6 v4 h7) fun v8 h8 =>
 bnd (r 215 [x0, v8] h8) fun v9 h9 =>
 cnd (aW (aA v6 h9) v7 && true) (
 bnd (aS (bD 0 h5.next) [(aC 0), (.s []), (aC 0), .l0] 1 [(0, 4, v9)] h9) fun v10 h10 =>
 bnd (aX 4 56 v7 v10 h10) fun v11 h11 =>
 bnd (aB 3 x5 h11) fun v12 h12 =>
 bnd (aD 1 v12 v11 h12) fun v13 h13 =>
 bnd (aF .add x31 (aC 1) h13) fun v14 h14 =>
      kk15 x0 x4 x5 x29 x30 v14 h14)) (
      dC r n x4 x5 h1)
noncomputable def pH (r : RT) (n : Nat) (m : Nat) : dA :=
 Nat.rec (motive := fun _ => dA) (fun _ _ _ _ _ _ _ => none) (fun _ ih => aAt r n ih) m
noncomputable def bEy (r : RT) (n : Nat) : dA := pH r n n
noncomputable def aEs (r : RT) (n : Nat) (x0 x4 x5 x29 x30 x31 : DV) (h0 : Hp) : aK :=
 bEy r n x0 x4 x5 x29 x30 x31 h0
noncomputable def qM (r : RT) (n : Nat) (x0 x3 x4 x5 : DV) (h0 : Hp) : aK :=
 bnd (aB 5 x3 h0) fun v1 h1 =>
 bnd (aA v1 h1) fun v2 h2 =>
 bnd (bK v2 h2) fun v3 h3 =>
  aEs r n x0 x4 x5 v2 v3 (aC 0) h3
noncomputable def aLn (r : RT) (n : Nat) (x0 x3 x4 : DV) (h0 : Hp) : aK :=
 bnd (aT [(aC 0), (.s []), (aC 0), .l0] [(0, 1, (aC 4))] h0) fun v1 h1 =>
 bnd (bA [(aC 0), (.s []), (aC 0), .l0] h1) fun v2 h2 =>
 bnd (aD 4 v2 v1 h2) fun _ h3 =>
  qM r n x0 x3 x4 v2 h3
noncomputable def aFg (r : RT) (n : Nat) (x0 x3 x4 x25 : DV) (h0 : Hp) : aK :=
 aU x25 (
  aLn r n x0 x3 x4 h0) (
  aZ r n x0 x4 h0)
noncomputable def cFm (r : RT) (n : Nat) (x0 x3 x4 x9 : DV) (h0 : Hp) : aK :=
 bnd (aF .eql x9 (aC 4) h0) fun v1 h1 =>
  aFg r n x0 x3 x4 v1 h1
noncomputable def aTh (r : RT) (n : Nat) (x0 x3 x4 x9 x20 : DV) (h0 : Hp) : aK :=
 aU x20 (
 bnd (aB 1 x3 h0) fun v1 h1 =>
 bnd (aA v1 h1) fun v2 h2 =>
 bnd (aT [(aC 0), (.s []), (aC 0), .l0] [(0, 1, (aC 3)), (1, 1, v2)] h2) fun v3 h3 =>
 bnd (aD 4 x4 v3 h3) fun _ h4 =>
 bnd (aH 4 x4 h4) fun v5 _ =>
 some (v5, h4)) (
  cFm r n x0 x3 x4 x9 h0)
noncomputable def bVz (r : RT) (n : Nat) (x0 x3 x4 x9 : DV) (h0 : Hp) : aK :=
 bnd (aF .eql x9 (aC 3) h0) fun v1 h1 =>
  aTh r n x0 x3 x4 x9 v1 h1
noncomputable def aSe (r : RT) (n : Nat) (x0 x3 x4 x9 x15 : DV) (h0 : Hp) : aK :=
 aU x15 (
 bnd (aB 1 x3 h0) fun v1 h1 =>
 bnd (aA v1 h1) fun v2 h2 =>
 bnd (aT [(aC 0), (.s []), (aC 0), .l0] [(0, 1, (aC 2)), (1, 1, v2)] h2) fun v3 h3 =>
 bnd (aD 4 x4 v3 h3) fun _ h4 =>
 bnd (aH 4 x4 h4) fun v5 _ =>
 some (v5, h4)) (
  bVz r n x0 x3 x4 x9 h0)
noncomputable def bRh (r : RT) (n : Nat) (x0 x3 x4 x9 : DV) (h0 : Hp) : aK :=
 bnd (aF .eql x9 (aC 2) h0) fun v1 h1 =>
  aSe r n x0 x3 x4 x9 v1 h1
noncomputable def aTz (r : RT) (n : Nat) (x0 x3 x4 x9 x10 : DV) (h0 : Hp) : aK :=
 aU x10 (
 bnd (aB 2 x3 h0) fun v1 h1 =>
 bnd (aA v1 h1) fun v2 h2 =>
 bnd (aT [(aC 0), (.s []), (aC 0), .l0] [(0, 1, (aC 1)), (2, 1, v2)] h2) fun v3 h3 =>
 bnd (aD 4 x4 v3 h3) fun _ h4 =>
 bnd (aH 4 x4 h4) fun v5 _ =>
 some (v5, h4)) (
  bRh r n x0 x3 x4 x9 h0)
noncomputable def aTg (r : RT) (n : Nat) (x0 x3 x4 x9 : DV) (h0 : Hp) : aK :=
 bnd (aF .eql x9 (aC 1) h0) fun v1 h1 =>
  aTz r n x0 x3 x4 x9 v1 h1
noncomputable def yU (r : RT) (n : Nat) (x0 x3 x4 : DV) (h0 : Hp) : aK :=
 bnd (aB 0 x3 h0) fun v1 h1 =>
 bnd (aA v1 h1) fun v2 h2 =>
  aTg r n x0 x3 x4 v2 h2
noncomputable def s215 (r : RT) (n : Nat) (x0 x1 : DV) (h0 : Hp) : aK :=
 bnd (bM x1 h0) fun v1 h1 =>
 bnd (bA [(aC 0), (.s []), (aC 0), .l0] h1) fun v2 h2 =>
  yU r n x0 v1 v2 h2
noncomputable abbrev c215 : Code := cf Tryz.f215
noncomputable abbrev aEz : Code := cR c215
noncomputable abbrev dId : Code := cR aEz
noncomputable abbrev zR : Code := cL aEz
noncomputable abbrev aWw : Code := cR zR
noncomputable abbrev aLg : Code := cL aWw
noncomputable abbrev aAb : Code := cR aLg
noncomputable abbrev xY : Code := cR aAb
noncomputable abbrev zS : Code := cR xY
noncomputable abbrev xJ : Code := cR zS
noncomputable abbrev pM : Code := cR xJ
noncomputable abbrev pO : Code := cR pM
noncomputable abbrev qL : Code := cR pO
noncomputable abbrev pZ : Code := cL qL
noncomputable abbrev vZ : Code := cR pZ
noncomputable abbrev cZu : Code := cR vZ
noncomputable abbrev qO : Code := cL vZ
noncomputable abbrev aMi : Code := cR qO
noncomputable abbrev tM : Code := cL aMi
noncomputable abbrev kB : Code := cL tM
noncomputable abbrev bIw : Code := cL qO
noncomputable abbrev aKq : Code := cL pZ
noncomputable abbrev cNp : Code := cR qL
noncomputable abbrev bAy : Code := cL pO
noncomputable abbrev dFg : Code := cL pM
noncomputable abbrev bEu : Code := cL xJ
noncomputable abbrev cVx : Code := cL zS
noncomputable abbrev bGm : Code := cL xY
noncomputable abbrev cUh : Code := cL aAb
noncomputable abbrev bCl : Code := cL aLg
noncomputable abbrev bBc : Code := cL zR
noncomputable abbrev aEm : Code := cL c215
noncomputable abbrev r215 : K := aR CF Tryz.f215
noncomputable def D215 (r : RT) (n : Nat) (c : Code) (X : Nat → K) (k : K) : K := aM CF r 48 n c X r215 k
theorem cVi : D215 r n dId x0 r215 = (K2 (aZ r n) 0 4) :=
 (by kernel_rfl)
theorem cDe : D215 r n cZu (xs x0 0 (K2 (aZ r n) 0 4)) (K2 (aZ r n) 0 4) = (K2 (dC r n) 4 5) :=
 (by kernel_rfl)
theorem bNy (kk15 : dA) (q0 : eN) (q1 : eN) : D215 r n kB (xs (xs x0 0 (K2 q0 0 4)) 1 (K2 q1 4 5)) (K6 kk15 0 4 5 29 30 31) = fun (env : aV) (h : Hp) =>
 bnd (aF .lss (env 31) (env 30) h) fun v1 h1 =>
 aU v1 (
 bnd (aI 6 (env 29) (env 31) h1) fun v2 h2 =>
 bnd (aH 6 v2 h2) fun v3 h3 =>
 bnd (bA cQ h3) fun v4 h4 =>
 bnd (aD 6 v4 v3 h4) fun _ h5 =>
 bnd (aB 3 (env 5) (resv 1 h5)) fun v6 h6 =>
 bnd (aA v6 h6) fun v7 h7 =>
 bnd (aH 6 v4 h7) fun v8 h8 =>
 bnd (r 215 [(env 0), v8] h8) fun v9 h9 =>
 cnd (aW (aA v6 h9) v7 && true) (
 bnd (aS (bD 0 h5.next) [(aC 0), (.s []), (aC 0), .l0] 1 [(0, 4, v9)] h9) fun v10 h10 =>
 bnd (aX 4 56 v7 v10 h10) fun v11 h11 =>
 bnd (aB 3 (env 5) h11) fun v12 h12 =>
 bnd (aD 1 v12 v11 h12) fun v13 h13 =>
 bnd (aF .add (env 31) (aC 1) h13) fun v14 h14 =>
      kk15 (env 0) (env 4) (env 5) (env 29) (env 30) v14 h14)) (
      q1 (env 4) (env 5) h1) := by kernel_rfl
theorem aSf (kk15 : dA) : (fun (env : aV) (h : Hp) =>
 bnd (aF .lss (env 31) (env 30) h) fun v1 h1 =>
 aU v1 (
 bnd (aI 6 (env 29) (env 31) h1) fun v2 h2 =>
 bnd (aH 6 v2 h2) fun v3 h3 =>
 bnd (bA cQ h3) fun v4 h4 =>
 bnd (aD 6 v4 v3 h4) fun _ h5 =>
 bnd (aB 3 (env 5) (resv 1 h5)) fun v6 h6 =>
 bnd (aA v6 h6) fun v7 h7 =>
 bnd (aH 6 v4 h7) fun v8 h8 =>
 bnd (r 215 [(env 0), v8] h8) fun v9 h9 =>
 cnd (aW (aA v6 h9) v7 && true) (
 bnd (aS (bD 0 h5.next) [(aC 0), (.s []), (aC 0), .l0] 1 [(0, 4, v9)] h9) fun v10 h10 =>
 bnd (aX 4 56 v7 v10 h10) fun v11 h11 =>
 bnd (aB 3 (env 5) h11) fun v12 h12 =>
 bnd (aD 1 v12 v11 h12) fun v13 h13 =>
 bnd (aF .add (env 31) (aC 1) h13) fun v14 h14 =>
      kk15 (env 0) (env 4) (env 5) (env 29) (env 30) v14 h14)) (
      dC r n (env 4) (env 5) h1)) = (K6 (aAt r n kk15) 0 4 5 29 30 31) := by kernel_rfl
theorem bLn (kk15 : dA) : D215 r n kB (xs (xs x0 0 (K2 (aZ r n) 0 4)) 1 (K2 (dC r n) 4 5)) (K6 kk15 0 4 5 29 30 31) = (K6 (aAt r n kk15) 0 4 5 29 30 31) :=
 (bNy r n kk15 (aZ r n) (dC r n)).trans (aSf r n kk15)
theorem bNd (m : Nat) : aL (fun kk => D215 r n kB (xs (xs x0 0 (K2 (aZ r n) 0 4)) 1 (K2 (dC r n) 4 5)) kk) m = (K6 (pH r n m) 0 4 5 29 30 31) := by
 induction m with
 | zero => exact (by kernel_rfl : aL (fun kk => D215 r n kB (xs (xs x0 0 (K2 (aZ r n) 0 4)) 1 (K2 (dC r n) 4 5)) kk) 0 = (K6 (pH r n 0) 0 4 5 29 30 31))
 | succ m ih =>
  refine (by kernel_rfl : aL (fun kk => D215 r n kB (xs (xs x0 0 (K2 (aZ r n) 0 4)) 1 (K2 (dC r n) 4 5)) kk) (m + 1) = D215 r n kB (xs (xs x0 0 (K2 (aZ r n) 0 4)) 1 (K2 (dC r n) 4 5)) (aL (fun kk => D215 r n kB (xs (xs x0 0 (K2 (aZ r n) 0 4)) 1 (K2 (dC r n) 4 5)) kk) m)).trans ?_
  rw [ih]
  exact (bLn r n (pH r n m)).trans (by kernel_rfl)
theorem bXr : D215 r n tM (xs (xs x0 0 (K2 (aZ r n) 0 4)) 1 (K2 (dC r n) 4 5)) (K2 (dC r n) 4 5) = (K6 (bEy r n) 0 4 5 29 30 31) :=
 (by kernel_rfl : D215 r n tM (xs (xs x0 0 (K2 (aZ r n) 0 4)) 1 (K2 (dC r n) 4 5)) (K2 (dC r n) 4 5) = aL (fun kk => D215 r n kB (xs (xs x0 0 (K2 (aZ r n) 0 4)) 1 (K2 (dC r n) 4 5)) kk) n).trans ((bNd r n n).trans (by kernel_rfl))
theorem cIo : D215 r n aMi (xs x0 0 (K2 (aZ r n) 0 4)) (K2 (dC r n) 4 5) = (K6 (aEs r n) 0 4 5 29 30 31) :=
 (by kernel_rfl : D215 r n aMi (xs x0 0 (K2 (aZ r n) 0 4)) (K2 (dC r n) 4 5) = D215 r n tM (xs (xs x0 0 (K2 (aZ r n) 0 4)) 1 (K2 (dC r n) 4 5)) (K2 (dC r n) 4 5)).trans
 ((bXr r n).trans (by kernel_rfl))
theorem bMj : D215 r n vZ (xs x0 0 (K2 (aZ r n) 0 4)) (K2 (aZ r n) 0 4) = D215 r n qO (xs x0 0 (K2 (aZ r n) 0 4)) (K2 (dC r n) 4 5) :=
 congrArg (fun k => D215 r n qO (xs x0 0 (K2 (aZ r n) 0 4)) k) (cDe r n)
theorem bNb : D215 r n qO (xs x0 0 (K2 (aZ r n) 0 4)) (K2 (dC r n) 4 5) = D215 r n bIw (xs x0 0 (K2 (aZ r n) 0 4)) (K6 (aEs r n) 0 4 5 29 30 31) :=
 congrArg (fun k => D215 r n bIw (xs x0 0 (K2 (aZ r n) 0 4)) k) (cIo r n)
theorem cGi : D215 r n vZ (xs x0 0 (K2 (aZ r n) 0 4)) (K2 (aZ r n) 0 4) = (K4 (qM r n) 0 3 4 5) :=
 (bMj r n).trans
 ((bNb r n).trans
 ((by kernel_rfl)))
theorem bJy : D215 r n pZ (xs x0 0 (K2 (aZ r n) 0 4)) (K2 (aZ r n) 0 4) = D215 r n aKq (xs x0 0 (K2 (aZ r n) 0 4)) (K4 (qM r n) 0 3 4 5) :=
 congrArg (fun k => D215 r n aKq (xs x0 0 (K2 (aZ r n) 0 4)) k) (cGi r n)
theorem bMb (q0 : dB) (q1 : eN) : D215 r n aKq (xs x0 0 (K2 q1 0 4)) (K4 q0 0 3 4 5) = fun (env : aV) (h : Hp) =>
 bnd (aT [(aC 0), (.s []), (aC 0), .l0] [(0, 1, (aC 4))] h) fun v1 h1 =>
 bnd (bA [(aC 0), (.s []), (aC 0), .l0] h1) fun v2 h2 =>
 bnd (aD 4 v2 v1 h2) fun _ h3 =>
  q0 (env 0) (env 3) (env 4) v2 h3 := by kernel_rfl
theorem aSk : (fun (env : aV) (h : Hp) =>
 bnd (aT [(aC 0), (.s []), (aC 0), .l0] [(0, 1, (aC 4))] h) fun v1 h1 =>
 bnd (bA [(aC 0), (.s []), (aC 0), .l0] h1) fun v2 h2 =>
 bnd (aD 4 v2 v1 h2) fun _ h3 =>
  qM r n (env 0) (env 3) (env 4) v2 h3) = (K3 (aLn r n) 0 3 4) := by kernel_rfl
theorem cLe : D215 r n pZ (xs x0 0 (K2 (aZ r n) 0 4)) (K2 (aZ r n) 0 4) = (K3 (aLn r n) 0 3 4) :=
 (bJy r n).trans
 ((bMb r n (qM r n) (aZ r n)).trans (aSk r n))
theorem cAc : D215 r n qL (xs x0 0 (K2 (aZ r n) 0 4)) (K2 (aZ r n) 0 4) = (K4 (aFg r n) 0 3 4 25) :=
 (by kernel_rfl : D215 r n qL (xs x0 0 (K2 (aZ r n) 0 4)) (K2 (aZ r n) 0 4) = (fun (env : aV) (h : Hp) => aU (opr env (cC qL)) (D215 r n pZ (xs x0 0 (K2 (aZ r n) 0 4)) (K2 (aZ r n) 0 4) env h) (D215 r n cNp (xs x0 0 (K2 (aZ r n) 0 4)) (K2 (aZ r n) 0 4) env h))).trans (by rw [cLe r n]; kernel_rfl)
theorem cCi : D215 r n pO (xs x0 0 (K2 (aZ r n) 0 4)) (K2 (aZ r n) 0 4) = D215 r n bAy (xs x0 0 (K2 (aZ r n) 0 4)) (K4 (aFg r n) 0 3 4 25) :=
 congrArg (fun k => D215 r n bAy (xs x0 0 (K2 (aZ r n) 0 4)) k) (cAc r n)
theorem cSs : D215 r n pO (xs x0 0 (K2 (aZ r n) 0 4)) (K2 (aZ r n) 0 4) = (K4 (cFm r n) 0 3 4 9) :=
 (cCi r n).trans
 ((by kernel_rfl))
theorem dDd : D215 r n pM (xs x0 0 (K2 (aZ r n) 0 4)) (K2 (aZ r n) 0 4) = (K5 (aTh r n) 0 3 4 9 20) :=
 (by kernel_rfl : D215 r n pM (xs x0 0 (K2 (aZ r n) 0 4)) (K2 (aZ r n) 0 4) = (fun (env : aV) (h : Hp) => aU (opr env (cC pM)) (D215 r n dFg (xs x0 0 (K2 (aZ r n) 0 4)) (K2 (aZ r n) 0 4) env h) (D215 r n pO (xs x0 0 (K2 (aZ r n) 0 4)) (K2 (aZ r n) 0 4) env h))).trans (by rw [cSs r n]; kernel_rfl)
theorem cDb : D215 r n xJ (xs x0 0 (K2 (aZ r n) 0 4)) (K2 (aZ r n) 0 4) = D215 r n bEu (xs x0 0 (K2 (aZ r n) 0 4)) (K5 (aTh r n) 0 3 4 9 20) :=
 congrArg (fun k => D215 r n bEu (xs x0 0 (K2 (aZ r n) 0 4)) k) (dDd r n)
theorem cTg : D215 r n xJ (xs x0 0 (K2 (aZ r n) 0 4)) (K2 (aZ r n) 0 4) = (K4 (bVz r n) 0 3 4 9) :=
 (cDb r n).trans
 ((by kernel_rfl))
theorem dFi : D215 r n zS (xs x0 0 (K2 (aZ r n) 0 4)) (K2 (aZ r n) 0 4) = (K5 (aSe r n) 0 3 4 9 15) :=
 (by kernel_rfl : D215 r n zS (xs x0 0 (K2 (aZ r n) 0 4)) (K2 (aZ r n) 0 4) = (fun (env : aV) (h : Hp) => aU (opr env (cC zS)) (D215 r n cVx (xs x0 0 (K2 (aZ r n) 0 4)) (K2 (aZ r n) 0 4) env h) (D215 r n xJ (xs x0 0 (K2 (aZ r n) 0 4)) (K2 (aZ r n) 0 4) env h))).trans (by rw [cTg r n]; kernel_rfl)
theorem cFf : D215 r n xY (xs x0 0 (K2 (aZ r n) 0 4)) (K2 (aZ r n) 0 4) = D215 r n bGm (xs x0 0 (K2 (aZ r n) 0 4)) (K5 (aSe r n) 0 3 4 9 15) :=
 congrArg (fun k => D215 r n bGm (xs x0 0 (K2 (aZ r n) 0 4)) k) (dFi r n)
theorem cTp : D215 r n xY (xs x0 0 (K2 (aZ r n) 0 4)) (K2 (aZ r n) 0 4) = (K4 (bRh r n) 0 3 4 9) :=
 (cFf r n).trans
 ((by kernel_rfl))
theorem dCp : D215 r n aAb (xs x0 0 (K2 (aZ r n) 0 4)) (K2 (aZ r n) 0 4) = (K5 (aTz r n) 0 3 4 9 10) :=
 (by kernel_rfl : D215 r n aAb (xs x0 0 (K2 (aZ r n) 0 4)) (K2 (aZ r n) 0 4) = (fun (env : aV) (h : Hp) => aU (opr env (cC aAb)) (D215 r n cUh (xs x0 0 (K2 (aZ r n) 0 4)) (K2 (aZ r n) 0 4) env h) (D215 r n xY (xs x0 0 (K2 (aZ r n) 0 4)) (K2 (aZ r n) 0 4) env h))).trans (by rw [cTp r n]; kernel_rfl)
theorem cMq : D215 r n aLg (xs x0 0 (K2 (aZ r n) 0 4)) (K2 (aZ r n) 0 4) = D215 r n bCl (xs x0 0 (K2 (aZ r n) 0 4)) (K5 (aTz r n) 0 3 4 9 10) :=
 congrArg (fun k => D215 r n bCl (xs x0 0 (K2 (aZ r n) 0 4)) k) (dCp r n)
theorem cUi : D215 r n aWw x0 (K2 (aZ r n) 0 4) = (K4 (aTg r n) 0 3 4 9) :=
 (by kernel_rfl : D215 r n aWw x0 (K2 (aZ r n) 0 4) = D215 r n aLg (xs x0 0 (K2 (aZ r n) 0 4)) (K2 (aZ r n) 0 4)).trans
 ((cMq r n).trans
 ((by kernel_rfl)))
theorem bKq : D215 r n aEz x0 r215 = D215 r n zR x0 (K2 (aZ r n) 0 4) :=
 congrArg (fun k => D215 r n zR x0 k) (cVi r n)
theorem bMi : D215 r n zR x0 (K2 (aZ r n) 0 4) = D215 r n bBc x0 (K4 (aTg r n) 0 3 4 9) :=
 congrArg (fun k => D215 r n bBc x0 k) (cUi r n)
theorem cSm : D215 r n aEz x0 r215 = (K3 (yU r n) 0 3 4) :=
 (bKq r n).trans
 ((bMi r n).trans
 ((by kernel_rfl)))
theorem dCn : D215 r n c215 x0 r215 = D215 r n aEm x0 (K3 (yU r n) 0 3 4) :=
 congrArg (fun k => D215 r n aEm x0 k) (cSm r n)
theorem cNu (q0 : dH) : D215 r n aEm x0 (K3 q0 0 3 4) = fun (env : aV) (h : Hp) =>
 bnd (bM (env 1) h) fun v1 h1 =>
 bnd (bA [(aC 0), (.s []), (aC 0), .l0] h1) fun v2 h2 =>
  q0 (env 0) v1 v2 h2 := by kernel_rfl
theorem bQj : (fun (env : aV) (h : Hp) =>
 bnd (bM (env 1) h) fun v1 h1 =>
 bnd (bA [(aC 0), (.s []), (aC 0), .l0] h1) fun v2 h2 =>
  yU r n (env 0) v1 v2 h2) = (K2 (s215 r n) 0 1) := by kernel_rfl
theorem eHv : D215 r n c215 x0 r215 = (K2 (s215 r n) 0 1) :=
 (dCn r n).trans
 ((cNu r n (yU r n)).trans (bQj r n))
theorem dLk : aE CF r n 215 args h = s215 r n (aP args 0) (aP args 1) h :=
 (by kernel_rfl : aE CF r n 215 args h = D215 r n c215 x0 r215 (aJ args) h).trans ((congrFun (congrFun (eHv r n) (aJ args)) h).trans (by kernel_rfl))
noncomputable def aJj (r : RT) (n : Nat) (x0 x1 : DV) (h0 : Hp) : aK :=
 bnd (r 211 [x0, x1] h0) fun v1 h1 =>
 bnd (aG 0 v1 h1) fun v2 h2 =>
 bnd (aG 1 v1 h2) fun v3 h3 =>
 bnd (bA [(.s []), (.b false), (.b false), (aC 0)] h3) fun v4 h4 =>
 bnd (aD 4 v4 v2 h4) fun _ h5 =>
 bnd (gD v3 true (aB 1 v4 h5) h5) fun v6 h6 =>
 bnd (gD v3 true (aA v6 h6) h6) fun v7 h7 =>
 bnd (aQ v3 v7 (.b false) h7) fun v8 h8 =>
 aU v8 (
 bnd (aB 3 v4 h8) fun v9 h9 =>
 bnd (aA v9 h9) fun v10 h10 =>
 bnd (r 187 [x0, (aC 8), v10, (aC 0)] h10) fun v11 h11 =>
 some (.t [], h11)) (
 aU v3 (
 bnd (aB 3 v4 h8) fun v12 h12 =>
 bnd (aA v12 h12) fun v13 h13 =>
 bnd (r 187 [x0, (aC 7), v13, (aC 0)] h13) fun v14 h14 =>
 some (.t [], h14)) (
 bnd (r 242 [x1] h8) fun v15 h15 =>
 aU v15 (
 bnd (r 243 [x0, x1] h15) fun v16 h16 =>
 bnd (r 187 [x0, (aC 9), v16, (aC 0)] h16) fun v17 h17 =>
 some (.t [], h17)) (
 bnd (r 213 [x0, x1, (aC 15)] h15) fun v18 h18 =>
 some (.t [], h18))))
noncomputable def s216 (r : RT) (n : Nat) (x0 x1 : DV) (h0 : Hp) : aK :=
 bnd (eG .eql x1 (.s [115, 101, 108, 102]) h0) fun v1 h1 =>
 aU v1 (
 bnd (r 187 [x0, (aC 1), (aC 0), (aC 0)] h1) fun v2 h2 =>
 some (.t [], h2)) (
 bnd (eG .eql x1 (.s [110, 105, 108]) h1) fun v3 h3 =>
 aU v3 (
 bnd (r 187 [x0, (aC 2), (aC 0), (aC 0)] h3) fun v4 h4 =>
 some (.t [], h4)) (
 bnd (eG .eql x1 (.s [116, 114, 117, 101]) h3) fun v5 h5 =>
 aU v5 (
 bnd (r 187 [x0, (aC 3), (aC 0), (aC 0)] h5) fun v6 h6 =>
 some (.t [], h6)) (
 bnd (eG .eql x1 (.s [102, 97, 108, 115, 101]) h5) fun v7 h7 =>
 aU v7 (
 bnd (r 187 [x0, (aC 4), (aC 0), (aC 0)] h7) fun v8 h8 =>
 some (.t [], h8)) (
 bnd (eG .eql x1 (.s [116, 104, 105, 115, 67, 111, 110, 116, 101, 120, 116]) h7) fun v9 h9 =>
 aU v9 (
 bnd (r 187 [x0, (aC 5), (aC 0), (aC 0)] h9) fun v10 h10 =>
 some (.t [], h10)) (
 bnd (eG .eql x1 (.s [115, 117, 112, 101, 114]) h9) fun v11 h11 =>
 aU v11 (
 bnd (r 213 [x0, x1, (aC 15)] h11) fun v12 h12 =>
       aJj r n x0 x1 h12) (
       aJj r n x0 x1 h11))))))
noncomputable abbrev c216 : Code := cf Tryz.f216
noncomputable abbrev dMe : Code := cR c216
noncomputable abbrev bPr : Code := cL c216
noncomputable abbrev r216 : K := aR CF Tryz.f216
noncomputable def D216 (r : RT) (n : Nat) (c : Code) (X : Nat → K) (k : K) : K := aM CF r 65 n c X r216 k
theorem dFw : D216 r n dMe x0 r216 = (K2 (aJj r n) 0 1) :=
 (by kernel_rfl)
theorem dSg : D216 r n c216 x0 r216 = D216 r n bPr x0 (K2 (aJj r n) 0 1) :=
 congrArg (fun k => D216 r n bPr x0 k) (dFw r n)
theorem dYn : D216 r n c216 x0 r216 = (K2 (s216 r n) 0 1) :=
 (dSg r n).trans
 ((by kernel_rfl))
theorem dKz : aE CF r n 216 args h = s216 r n (aP args 0) (aP args 1) h :=
 (by kernel_rfl : aE CF r n 216 args h = D216 r n c216 x0 r216 (aJ args) h).trans ((congrFun (congrFun (dYn r n) (aJ args)) h).trans (by kernel_rfl))
noncomputable def s217 (r : RT) (n : Nat) (x0 x1 : DV) (h0 : Hp) : aK :=
 bnd (bM x1 h0) fun v1 h1 =>
 bnd (aH 6 v1 h1) fun v2 h2 =>
 bnd (r 222 [x0, v2] h2) fun v3 h3 =>
 bnd (eO .not v3 h3) fun v4 h4 =>
 aU v4 (
 some (.t [], h4)) (
 bnd (aB 1 v1 h4) fun v5 h5 =>
 bnd (aA v5 h5) fun v6 h6 =>
 bnd (r 211 [x0, v6] h6) fun v7 h7 =>
 bnd (aG 0 v7 h7) fun v8 h8 =>
 bnd (aG 1 v7 h8) fun v9 h9 =>
 bnd (bA [(.s []), (.b false), (.b false), (aC 0)] h9) fun v10 h10 =>
 bnd (aD 4 v10 v8 h10) fun _ h11 =>
 bnd (aB 5 v1 h11) fun v12 h12 =>
 bnd (aA v12 h12) fun v13 h13 =>
 bnd (aI 6 v13 (aC 0) h13) fun v14 h14 =>
 bnd (aH 6 v14 h14) fun v15 h15 =>
 bnd (r 186 [x0, v15] h15) fun v16 h16 =>
 bnd (eO .not v9 h16) fun v17 h17 =>
 bnd (gD v17 true (aB 1 v1 h17) h17) fun v18 h18 =>
 bnd (gD v17 true (aA v18 h18) h18) fun v19 h19 =>
 bnd (gD v17 true (r 212 [v19] h19) h19) fun v20 h20 =>
 bnd (gD v17 true (eO .not v20 h20) h20) fun v21 h21 =>
 bnd (aQ v17 v21 (.b false) h21) fun v22 h22 =>
 bnd (gD v22 true (aB 1 v1 h22) h22) fun v23 h23 =>
 bnd (gD v22 true (aA v23 h23) h23) fun v24 h24 =>
 bnd (gD v22 true (r 242 [v24] h24) h24) fun v25 h25 =>
 bnd (gD v22 true (eO .not v25 h25) h25) fun v26 h26 =>
 bnd (aQ v22 v26 (.b false) h26) fun v27 h27 =>
 aU v27 (
 bnd (aB 1 v1 h27) fun v28 h28 =>
 bnd (aA v28 h28) fun v29 h29 =>
 bnd (r 213 [x0, v29, (aC 15)] h29) fun v30 h30 =>
 some (.t [], h30)) (
 bnd (eO .not v9 h27) fun v31 h31 =>
 bnd (gD v31 false (aB 2 v10 h31) h31) fun v32 h32 =>
 bnd (gD v31 false (aA v32 h32) h32) fun v33 h33 =>
 bnd (aQ v31 (.b true) v33 h33) fun v34 h34 =>
 bnd (gD v34 false (aB 1 v1 h34) h34) fun v35 h35 =>
 bnd (gD v34 false (aA v35 h35) h35) fun v36 h36 =>
 bnd (gD v34 false (r 212 [v36] h36) h36) fun v37 h37 =>
 bnd (aQ v34 (.b true) v37 h37) fun v38 h38 =>
 aU v38 (
 bnd (aB 1 v1 h38) fun v39 h39 =>
 bnd (aA v39 h39) fun v40 h40 =>
 bnd (r 213 [x0, v40, (aC 17)] h40) fun v41 h41 =>
 some (.t [], h41)) (
 bnd (aB 1 v10 h38) fun v42 h42 =>
 bnd (aA v42 h42) fun v43 h43 =>
 aU v43 (
 bnd (aB 3 v10 h43) fun v44 h44 =>
 bnd (aA v44 h44) fun v45 h45 =>
 bnd (r 187 [x0, (aC 11), v45, (aC 0)] h45) fun v46 h46 =>
 some (.t [], h46)) (
 bnd (aB 3 v10 h43) fun v47 h47 =>
 bnd (aA v47 h47) fun v48 h48 =>
 bnd (r 187 [x0, (aC 10), v48, (aC 0)] h48) fun v49 h49 =>
 some (.t [], h49)))))
noncomputable abbrev c217 : Code := cf Tryz.f217
noncomputable abbrev r217 : K := aR CF Tryz.f217
noncomputable def D217 (r : RT) (n : Nat) (c : Code) (X : Nat → K) (k : K) : K := aM CF r 69 n c X r217 k
theorem eIm : D217 r n c217 x0 r217 = (K2 (s217 r n) 0 1) :=
 (by kernel_rfl)
theorem dOh : aE CF r n 217 args h = s217 r n (aP args 0) (aP args 1) h :=
 (by kernel_rfl : aE CF r n 217 args h = D217 r n c217 x0 r217 (aJ args) h).trans ((congrFun (congrFun (eIm r n) (aJ args)) h).trans (by kernel_rfl))
noncomputable def s218 (r : RT) (n : Nat) (x0 x1 : DV) (h0 : Hp) : aK :=
 bnd (bM x1 h0) fun v1 h1 =>
 bnd (aB 5 v1 h1) fun v2 h2 =>
 bnd (aA v2 h2) fun v3 h3 =>
 bnd (bK v3 h3) fun v4 h4 =>
 bnd (aF .eql v4 (aC 0) h4) fun v5 h5 =>
 aU v5 (
 bnd (r 213 [x0, (.s []), (aC 1)] h5) fun v6 h6 =>
 some (.t [], h6)) (
 bnd (aH 6 v1 h5) fun v7 h7 =>
 bnd (r 244 [x0, v7] h7) fun v8 h8 =>
 bnd (gD v8 false (some (x0, h8)) h8) fun v9 h9 =>
 bnd (gD v8 false (aH 6 v1 h9) h9) fun v10 h10 =>
 bnd (gD v8 false (r 245 [v9, v10] h10) h10) fun v11 h11 =>
 bnd (aQ v8 (.b true) v11 h11) fun v12 h12 =>
 aU v12 (
 some (.t [], h12)) (
 bnd (aB 5 v1 h12) fun v13 h13 =>
 bnd (aA v13 h13) fun v14 h14 =>
 bnd (aI 6 v14 (aC 0) h14) fun v15 h15 =>
 bnd (aH 6 v15 h15) fun v16 h16 =>
 bnd (r 247 [x0, v16] h16) fun v17 h17 =>
 bnd (aB 1 v1 h17) fun v18 h18 =>
 bnd (aA v18 h18) fun v19 h19 =>
 cnd (aW (aA v18 h12) v19 && true) (
 bnd (aB 5 v1 h19) fun v20 h20 =>
 bnd (aA v20 h20) fun v21 h21 =>
 cnd (aW (aA v20 h12) v21 && true) (
 bnd (cT 6 v21 (some (aC 1)) none h21) fun v22 h22 =>
 cnd (aW (cT 6 v21 (some (aC 1)) none h12) v22 && true) (
 bnd (r 246 [x0, v17, v19, v22] h22) fun v23 h23 =>
 some (.t [], h23))))))
noncomputable abbrev c218 : Code := cf Tryz.f218
noncomputable abbrev r218 : K := aR CF Tryz.f218
noncomputable def D218 (r : RT) (n : Nat) (c : Code) (X : Nat → K) (k : K) : K := aM CF r 31 n c X r218 k
theorem dZa : D218 r n c218 x0 r218 = (K2 (s218 r n) 0 1) :=
 (by kernel_rfl)
theorem dVo : aE CF r n 218 args h = s218 r n (aP args 0) (aP args 1) h :=
 (by kernel_rfl : aE CF r n 218 args h = D218 r n c218 x0 r218 (aJ args) h).trans ((congrFun (congrFun (dZa r n) (aJ args)) h).trans (by kernel_rfl))
noncomputable def s220 (r : RT) (n : Nat) (x0 x1 : DV) (h0 : Hp) : aK :=
 bnd (bM x0 h0) fun v1 h1 =>
 bnd (bM x1 h1) fun v2 h2 =>
 bnd (aA v1 h2) fun v3 h3 =>
 bnd (r 248 [v3] h3) fun v4 h4 =>
 bnd (bA [(aC 0)] h4) fun v5 h5 =>
 bnd (aD 1 v5 v4 h5) fun _ h6 =>
 bnd (aA v1 h6) fun v7 h7 =>
 bnd (aA v2 h7) fun v8 h8 =>
 bnd (r 187 [v7, v8, (aC 0), (aC 0)] h8) fun v9 h9 =>
 some ((.f 249 [] [v1, v5, v2]), h9)
noncomputable abbrev c220 : Code := cf Tryz.f220
noncomputable abbrev r220 : K := aR CF Tryz.f220
noncomputable def D220 (r : RT) (n : Nat) (c : Code) (X : Nat → K) (k : K) : K := aM CF r 12 n c X r220 k
theorem eBe : D220 r n c220 x0 r220 = (K2 (s220 r n) 0 1) :=
 (by kernel_rfl)
theorem dTl : aE CF r n 220 args h = s220 r n (aP args 0) (aP args 1) h :=
 (by kernel_rfl : aE CF r n 220 args h = D220 r n c220 x0 r220 (aJ args) h).trans ((congrFun (congrFun (eBe r n) (aJ args)) h).trans (by kernel_rfl))
noncomputable def aHi (r : RT) (n : Nat) (x0 x4 : DV) (h0 : Hp) : aK :=
 bnd (aO x0 h0) fun v1 h1 =>
 bnd (aB 6 v1 h1) fun v2 h2 =>
 bnd (aD 1 v2 x4 h2) fun _ h3 =>
 some (.t [], h3)
noncomputable def bY (r : RT) (n : Nat) (x0 x3 x4 : DV) (h0 : Hp) : aK :=
 bnd (aB 5 x3 h0) fun v1 h1 =>
 bnd (aA v1 h1) fun v2 h2 =>
 bnd (bK v2 h2) fun v3 h3 =>
 bnd (aF .eql v3 (aC 0) h3) fun v4 h4 =>
 aU v4 (
 bnd (r 187 [x0, (aC 2), (aC 0), (aC 0)] h4) fun v5 h5 =>
  aHi r n x0 x4 h5) (
  aHi r n x0 x4 h4)
noncomputable def dE (r : RT) (n : Nat) (kk9 : dA) (x0 x3 x4 x35 x36 x37 : DV) (h0 : Hp) : aK :=
 bnd (aF .add x37 (aC 1) h0) fun v1 h1 =>
  kk9 x0 x3 x4 x35 x36 v1 h1
noncomputable def uD (r : RT) (n : Nat) (kk9 : dA) (x0 x3 x4 x6 x35 x36 x37 : DV) (h0 : Hp) : aK :=
 bnd (aH 6 x6 h0) fun v1 h1 =>
 bnd (r 186 [x0, v1] h1) fun v2 h2 =>
 bnd (aB 0 x6 h2) fun v3 h3 =>
 bnd (aA v3 h3) fun v4 h4 =>
 bnd (aF .eql v4 (aC 10) h4) fun v5 h5 =>
 aU v5 (
 bnd (r 187 [x0, (aC 2), (aC 0), (aC 0)] h5) fun v6 h6 =>
  dE r n kk9 x0 x3 x4 x35 x36 x37 h6) (
  dE r n kk9 x0 x3 x4 x35 x36 x37 h5)
noncomputable def pX (r : RT) (n : Nat) (kk9 : dA) (x0 x3 x4 x5 x6 x35 x36 x37 : DV) (h0 : Hp) : aK :=
 bnd (aF .gtr x5 (aC 0) h0) fun v1 h1 =>
 aU v1 (
 bnd (r 187 [x0, (aC 12), (aC 0), (aC 0)] h1) fun v2 h2 =>
  uD r n kk9 x0 x3 x4 x6 x35 x36 x37 h2) (
  uD r n kk9 x0 x3 x4 x6 x35 x36 x37 h1)
noncomputable def vB (r : RT) (n : Nat) (kk9 : dA) (x0 x3 x4 x35 x36 x37 : DV) (h0 : Hp) : aK :=
 bnd (aI 6 x35 x37 h0) fun v1 h1 =>
 bnd (aH 6 v1 h1) fun v2 h2 =>
 bnd (bA cQ h2) fun v3 h3 =>
 bnd (aD 6 v3 v2 h3) fun _ h4 =>
  pX r n kk9 x0 x3 x4 x37 v3 x35 x36 x37 h4
noncomputable def aNx (r : RT) (n : Nat) (kk9 : dA) (x0 x3 x4 x35 x36 x37 x38 : DV) (h0 : Hp) : aK :=
 aU x38 (
  vB r n kk9 x0 x3 x4 x35 x36 x37 h0) (
  bY r n x0 x3 x4 h0)
noncomputable def bAq (r : RT) (n : Nat) (kk9 : dA) (x0 x3 x4 x35 x36 x37 : DV) (h0 : Hp) : aK :=
 bnd (aF .lss x37 x36 h0) fun v1 h1 =>
  aNx r n kk9 x0 x3 x4 x35 x36 x37 v1 h1
noncomputable def wN (r : RT) (n : Nat) (m : Nat) : dA :=
 Nat.rec (motive := fun _ => dA) (fun _ _ _ _ _ _ _ => none) (fun _ ih => bAq r n ih) m
noncomputable def cCr (r : RT) (n : Nat) : dA := wN r n n
noncomputable def aSh (r : RT) (n : Nat) (x0 x3 x4 x35 x36 x37 : DV) (h0 : Hp) : aK :=
 cCr r n x0 x3 x4 x35 x36 x37 h0
noncomputable def aWg (r : RT) (n : Nat) (x0 x3 x4 : DV) (h0 : Hp) : aK :=
 bnd (aB 5 x3 h0) fun v1 h1 =>
 bnd (aA v1 h1) fun v2 h2 =>
 bnd (bK v2 h2) fun v3 h3 =>
  aSh r n x0 x3 x4 v2 v3 (aC 0) h3
noncomputable def aTf (r : RT) (n : Nat) (x0 x3 x4 : DV) (h0 : Hp) : aK :=
 bnd (aB 4 x3 h0) fun v1 h1 =>
 bnd (aA v1 h1) fun v2 h2 =>
 bnd (r 185 [x0, v2, (.b false)] h2) fun v3 h3 =>
  aWg r n x0 x3 x4 h3
noncomputable def aYz (r : RT) (n : Nat) (x0 x3 x4 : DV) (h0 : Hp) : aK :=
 bnd (aB 3 x3 h0) fun v1 h1 =>
 bnd (aA v1 h1) fun v2 h2 =>
 bnd (r 185 [x0, v2, (.b true)] h2) fun v3 h3 =>
  aTf r n x0 x3 x4 h3
noncomputable def aYu (r : RT) (n : Nat) (x0 x3 x4 : DV) (h0 : Hp) : aK :=
 bnd (aO x0 h0) fun v1 h1 =>
 bnd (aB 6 v1 h1) fun v2 h2 =>
 bnd (aD 1 v2 x4 h2) fun _ h3 =>
  aYz r n x0 x3 x4 h3
noncomputable def wQ (r : RT) (n : Nat) (x0 x3 : DV) (h0 : Hp) : aK :=
 bnd (aO x0 h0) fun v1 h1 =>
 bnd (aB 6 v1 h1) fun v2 h2 =>
 bnd (aA v2 h2) fun v3 h3 =>
 bnd (aO x0 h3) fun v4 h4 =>
 bnd (aB 6 v4 h4) fun v5 h5 =>
 bnd (aA v5 h5) fun v6 h6 =>
 bnd (bK v6 h6) fun v7 h7 =>
 bnd (aO x0 h7) fun v8 h8 =>
 bnd (aB 6 v8 h8) fun v9 h9 =>
 bnd (aA v9 h9) fun v10 h10 =>
 bnd (bK v10 h10) fun v11 h11 =>
 bnd (lF v3 none v7 v11 h11) fun v12 h12 =>
  aYu r n x0 x3 v12 h12
noncomputable def s221 (r : RT) (n : Nat) (x0 x1 : DV) (h0 : Hp) : aK :=
 bnd (bM x1 h0) fun v1 h1 =>
  wQ r n x0 v1 h1
noncomputable abbrev c221 : Code := cf Tryz.f221
noncomputable abbrev aDt : Code := cR c221
noncomputable abbrev aEp : Code := cR aDt
noncomputable abbrev aKj : Code := cR aEp
noncomputable abbrev aLp : Code := cR aKj
noncomputable abbrev aOi : Code := cR aLp
noncomputable abbrev aOp : Code := cR aOi
noncomputable abbrev dRs : Code := cR aOp
noncomputable abbrev bUh : Code := cL aOp
noncomputable abbrev xX : Code := cL aOi
noncomputable abbrev aMx : Code := cR xX
noncomputable abbrev uB : Code := cL aMx
noncomputable abbrev iO : Code := cL uB
noncomputable abbrev wD : Code := cR iO
noncomputable abbrev uH : Code := cR wD
noncomputable abbrev dEg : Code := cR uH
noncomputable abbrev uM : Code := cL uH
noncomputable abbrev wF : Code := cL uM
noncomputable abbrev uU : Code := cR wF
noncomputable abbrev cPm : Code := cR uU
noncomputable abbrev bHe : Code := cL uU
noncomputable abbrev aKw : Code := cL wF
noncomputable abbrev bIt : Code := cL wD
noncomputable abbrev bBh : Code := cL iO
noncomputable abbrev bEe : Code := cL xX
noncomputable abbrev bGg : Code := cL aLp
noncomputable abbrev bDj : Code := cL aKj
noncomputable abbrev bDq : Code := cL aEp
noncomputable abbrev bAs : Code := cL aDt
noncomputable abbrev aJl : Code := cL c221
noncomputable abbrev r221 : K := aR CF Tryz.f221
noncomputable def D221 (r : RT) (n : Nat) (c : Code) (X : Nat → K) (k : K) : K := aM CF r 65 n c X r221 k
theorem dBh : D221 r n dRs x0 r221 = (K2 (aHi r n) 0 4) :=
 (by kernel_rfl)
theorem bQm : D221 r n aOp x0 r221 = D221 r n bUh x0 (K2 (aHi r n) 0 4) :=
 congrArg (fun k => D221 r n bUh x0 k) (dBh r n)
theorem cSt : D221 r n aOp x0 r221 = (K3 (bY r n) 0 3 4) :=
 (bQm r n).trans
 ((by kernel_rfl))
theorem bRx (kk9 : dA) : D221 r n dEg (xs x0 0 (K3 (bY r n) 0 3 4)) (K6 kk9 0 3 4 35 36 37) = (K6 (dE r n kk9) 0 3 4 35 36 37) :=
 (by kernel_rfl)
theorem bXp (kk9 : dA) : D221 r n cPm (xs (xs x0 0 (K3 (bY r n) 0 3 4)) 1 (K6 (dE r n kk9) 0 3 4 35 36 37)) (K6 (dE r n kk9) 0 3 4 35 36 37) = (K7 (uD r n kk9) 0 3 4 6 35 36 37) :=
 (by kernel_rfl)
theorem bOi (kk9 : dA) : D221 r n uU (xs (xs x0 0 (K3 (bY r n) 0 3 4)) 1 (K6 (dE r n kk9) 0 3 4 35 36 37)) (K6 (dE r n kk9) 0 3 4 35 36 37) = D221 r n bHe (xs (xs x0 0 (K3 (bY r n) 0 3 4)) 1 (K6 (dE r n kk9) 0 3 4 35 36 37)) (K7 (uD r n kk9) 0 3 4 6 35 36 37) :=
 congrArg (fun k => D221 r n bHe (xs (xs x0 0 (K3 (bY r n) 0 3 4)) 1 (K6 (dE r n kk9) 0 3 4 35 36 37)) k) (bXp r n kk9)
theorem bQv (kk9 : dA) : D221 r n uU (xs (xs x0 0 (K3 (bY r n) 0 3 4)) 1 (K6 (dE r n kk9) 0 3 4 35 36 37)) (K6 (dE r n kk9) 0 3 4 35 36 37) = (K8 (pX r n kk9) 0 3 4 5 6 35 36 37) :=
 (bOi r n kk9).trans
 ((by kernel_rfl))
theorem bMy (kk9 : dA) : D221 r n uH (xs x0 0 (K3 (bY r n) 0 3 4)) (K6 kk9 0 3 4 35 36 37) = D221 r n uM (xs x0 0 (K3 (bY r n) 0 3 4)) (K6 (dE r n kk9) 0 3 4 35 36 37) :=
 congrArg (fun k => D221 r n uM (xs x0 0 (K3 (bY r n) 0 3 4)) k) (bRx r n kk9)
theorem bLu (kk9 : dA) : D221 r n wF (xs (xs x0 0 (K3 (bY r n) 0 3 4)) 1 (K6 (dE r n kk9) 0 3 4 35 36 37)) (K6 (dE r n kk9) 0 3 4 35 36 37) = D221 r n aKw (xs (xs x0 0 (K3 (bY r n) 0 3 4)) 1 (K6 (dE r n kk9) 0 3 4 35 36 37)) (K8 (pX r n kk9) 0 3 4 5 6 35 36 37) :=
 congrArg (fun k => D221 r n aKw (xs (xs x0 0 (K3 (bY r n) 0 3 4)) 1 (K6 (dE r n kk9) 0 3 4 35 36 37)) k) (bQv r n kk9)
theorem bOu (kk9 : dA) (q0 : TT8) (q1 : dH) (q2 : dA) : D221 r n aKw (xs (xs x0 0 (K3 q1 0 3 4)) 1 (K6 q2 0 3 4 35 36 37)) (K8 q0 0 3 4 5 6 35 36 37) = fun (env : aV) (h : Hp) =>
 bnd (aI 6 (env 35) (env 37) h) fun v1 h1 =>
 bnd (aH 6 v1 h1) fun v2 h2 =>
 bnd (bA cQ h2) fun v3 h3 =>
 bnd (aD 6 v3 v2 h3) fun _ h4 =>
  q0 (env 0) (env 3) (env 4) (env 37) v3 (env 35) (env 36) (env 37) h4 := by kernel_rfl
theorem aUj (kk9 : dA) : (fun (env : aV) (h : Hp) =>
 bnd (aI 6 (env 35) (env 37) h) fun v1 h1 =>
 bnd (aH 6 v1 h1) fun v2 h2 =>
 bnd (bA cQ h2) fun v3 h3 =>
 bnd (aD 6 v3 v2 h3) fun _ h4 =>
  pX r n kk9 (env 0) (env 3) (env 4) (env 37) v3 (env 35) (env 36) (env 37) h4) = (K6 (vB r n kk9) 0 3 4 35 36 37) := by kernel_rfl
theorem cIl (kk9 : dA) : D221 r n uH (xs x0 0 (K3 (bY r n) 0 3 4)) (K6 kk9 0 3 4 35 36 37) = (K6 (vB r n kk9) 0 3 4 35 36 37) :=
 (bMy r n kk9).trans
 ((by kernel_rfl : D221 r n uM (xs x0 0 (K3 (bY r n) 0 3 4)) (K6 (dE r n kk9) 0 3 4 35 36 37) = D221 r n wF (xs (xs x0 0 (K3 (bY r n) 0 3 4)) 1 (K6 (dE r n kk9) 0 3 4 35 36 37)) (K6 (dE r n kk9) 0 3 4 35 36 37)).trans
 ((bLu r n kk9).trans
 ((bOu r n kk9 (pX r n kk9) (bY r n) (dE r n kk9)).trans (aUj r n kk9))))
theorem bLm (kk9 : dA) : D221 r n wD (xs x0 0 (K3 (bY r n) 0 3 4)) (K6 kk9 0 3 4 35 36 37) = D221 r n bIt (xs x0 0 (K3 (bY r n) 0 3 4)) (K6 (vB r n kk9) 0 3 4 35 36 37) :=
 congrArg (fun k => D221 r n bIt (xs x0 0 (K3 (bY r n) 0 3 4)) k) (cIl r n kk9)
theorem cIx (kk9 : dA) : D221 r n wD (xs x0 0 (K3 (bY r n) 0 3 4)) (K6 kk9 0 3 4 35 36 37) = (K7 (aNx r n kk9) 0 3 4 35 36 37 38) :=
 (bLm r n kk9).trans
 ((by kernel_rfl))
theorem bWi (kk9 : dA) : D221 r n iO (xs x0 0 (K3 (bY r n) 0 3 4)) (K6 kk9 0 3 4 35 36 37) = D221 r n bBh (xs x0 0 (K3 (bY r n) 0 3 4)) (K7 (aNx r n kk9) 0 3 4 35 36 37 38) :=
 congrArg (fun k => D221 r n bBh (xs x0 0 (K3 (bY r n) 0 3 4)) k) (cIx r n kk9)
theorem cIz (kk9 : dA) : D221 r n iO (xs x0 0 (K3 (bY r n) 0 3 4)) (K6 kk9 0 3 4 35 36 37) = (K6 (bAq r n kk9) 0 3 4 35 36 37) :=
 (bWi r n kk9).trans
 ((by kernel_rfl))
theorem bYl (m : Nat) : aL (fun kk => D221 r n iO (xs x0 0 (K3 (bY r n) 0 3 4)) kk) m = (K6 (wN r n m) 0 3 4 35 36 37) := by
 induction m with
 | zero => exact (by kernel_rfl : aL (fun kk => D221 r n iO (xs x0 0 (K3 (bY r n) 0 3 4)) kk) 0 = (K6 (wN r n 0) 0 3 4 35 36 37))
 | succ m ih =>
  refine (by kernel_rfl : aL (fun kk => D221 r n iO (xs x0 0 (K3 (bY r n) 0 3 4)) kk) (m + 1) = D221 r n iO (xs x0 0 (K3 (bY r n) 0 3 4)) (aL (fun kk => D221 r n iO (xs x0 0 (K3 (bY r n) 0 3 4)) kk) m)).trans ?_
  rw [ih]
  exact (cIz r n (wN r n m)).trans (by kernel_rfl)
theorem dBc : D221 r n uB (xs x0 0 (K3 (bY r n) 0 3 4)) (K3 (bY r n) 0 3 4) = (K6 (cCr r n) 0 3 4 35 36 37) :=
 (by kernel_rfl : D221 r n uB (xs x0 0 (K3 (bY r n) 0 3 4)) (K3 (bY r n) 0 3 4) = aL (fun kk => D221 r n iO (xs x0 0 (K3 (bY r n) 0 3 4)) kk) n).trans ((bYl r n n).trans (by kernel_rfl))
theorem dFy : D221 r n aMx x0 (K3 (bY r n) 0 3 4) = (K6 (aSh r n) 0 3 4 35 36 37) :=
 (by kernel_rfl : D221 r n aMx x0 (K3 (bY r n) 0 3 4) = D221 r n uB (xs x0 0 (K3 (bY r n) 0 3 4)) (K3 (bY r n) 0 3 4)).trans
 ((dBc r n).trans (by kernel_rfl))
theorem cEm : D221 r n aOi x0 r221 = D221 r n xX x0 (K3 (bY r n) 0 3 4) :=
 congrArg (fun k => D221 r n xX x0 k) (cSt r n)
theorem cId : D221 r n xX x0 (K3 (bY r n) 0 3 4) = D221 r n bEe x0 (K6 (aSh r n) 0 3 4 35 36 37) :=
 congrArg (fun k => D221 r n bEe x0 k) (dFy r n)
theorem dEy : D221 r n aOi x0 r221 = (K3 (aWg r n) 0 3 4) :=
 (cEm r n).trans
 ((cId r n).trans
 ((by kernel_rfl)))
theorem bJu : D221 r n aLp x0 r221 = D221 r n bGg x0 (K3 (aWg r n) 0 3 4) :=
 congrArg (fun k => D221 r n bGg x0 k) (dEy r n)
theorem cRc : D221 r n aLp x0 r221 = (K3 (aTf r n) 0 3 4) :=
 (bJu r n).trans
 ((by kernel_rfl))
theorem bMs : D221 r n aKj x0 r221 = D221 r n bDj x0 (K3 (aTf r n) 0 3 4) :=
 congrArg (fun k => D221 r n bDj x0 k) (cRc r n)
theorem cVq : D221 r n aKj x0 r221 = (K3 (aYz r n) 0 3 4) :=
 (bMs r n).trans
 ((by kernel_rfl))
theorem bOc : D221 r n aEp x0 r221 = D221 r n bDq x0 (K3 (aYz r n) 0 3 4) :=
 congrArg (fun k => D221 r n bDq x0 k) (cVq r n)
theorem cZy : D221 r n aEp x0 r221 = (K3 (aYu r n) 0 3 4) :=
 (bOc r n).trans
 ((by kernel_rfl))
theorem bLq : D221 r n aDt x0 r221 = D221 r n bAs x0 (K3 (aYu r n) 0 3 4) :=
 congrArg (fun k => D221 r n bAs x0 k) (cZy r n)
theorem cZk : D221 r n aDt x0 r221 = (K2 (wQ r n) 0 3) :=
 (bLq r n).trans
 ((by kernel_rfl))
theorem cXm : D221 r n c221 x0 r221 = D221 r n aJl x0 (K2 (wQ r n) 0 3) :=
 congrArg (fun k => D221 r n aJl x0 k) (cZk r n)
theorem cYj (q0 : eN) : D221 r n aJl x0 (K2 q0 0 3) = fun (env : aV) (h : Hp) =>
 bnd (bM (env 1) h) fun v1 h1 =>
  q0 (env 0) v1 h1 := by kernel_rfl
theorem bWm : (fun (env : aV) (h : Hp) =>
 bnd (bM (env 1) h) fun v1 h1 =>
  wQ r n (env 0) v1 h1) = (K2 (s221 r n) 0 1) := by kernel_rfl
theorem eDk : D221 r n c221 x0 r221 = (K2 (s221 r n) 0 1) :=
 (cXm r n).trans
 ((cYj r n (wQ r n)).trans (bWm r n))
theorem dVe : aE CF r n 221 args h = s221 r n (aP args 0) (aP args 1) h :=
 (by kernel_rfl : aE CF r n 221 args h = D221 r n c221 x0 r221 (aJ args) h).trans ((congrFun (congrFun (eDk r n) (aJ args)) h).trans (by kernel_rfl))
noncomputable def aNj (r : RT) (n : Nat) (x3 : DV) (h0 : Hp) : aK :=
 bnd (aB 5 x3 h0) fun v1 h1 =>
 bnd (aA v1 h1) fun v2 h2 =>
 bnd (bK v2 h2) fun v3 h3 =>
 bnd (aF .eql v3 (aC 1) h3) fun v4 h4 =>
 some (v4, h4)
noncomputable def yI (r : RT) (n : Nat) (x0 x3 : DV) (h0 : Hp) : aK :=
 bnd (aB 5 x3 h0) fun v1 h1 =>
 bnd (aA v1 h1) fun v2 h2 =>
 bnd (bK v2 h2) fun v3 h3 =>
 bnd (aF .neq v3 (aC 1) h3) fun v4 h4 =>
 aU v4 (
 bnd (r 213 [x0, (.s []), (aC 1)] h4) fun v5 h5 =>
  aNj r n x3 h5) (
  aNj r n x3 h4)
noncomputable def s222 (r : RT) (n : Nat) (x0 x1 : DV) (h0 : Hp) : aK :=
 bnd (bM x1 h0) fun v1 h1 =>
  yI r n x0 v1 h1
noncomputable abbrev c222 : Code := cf Tryz.f222
noncomputable abbrev aLb : Code := cR c222
noncomputable abbrev dPf : Code := cR aLb
noncomputable abbrev cEz : Code := cL aLb
noncomputable abbrev aWx : Code := cL c222
noncomputable abbrev r222 : K := aR CF Tryz.f222
noncomputable def D222 (r : RT) (n : Nat) (c : Code) (X : Nat → K) (k : K) : K := aM CF r 15 n c X r222 k
theorem cVb : D222 r n dPf x0 r222 = (K1 (aNj r n) 3) :=
 (by kernel_rfl)
theorem cGv : D222 r n aLb x0 r222 = D222 r n cEz x0 (K1 (aNj r n) 3) :=
 congrArg (fun k => D222 r n cEz x0 k) (cVb r n)
theorem cQh : D222 r n aLb x0 r222 = (K2 (yI r n) 0 3) :=
 (cGv r n).trans
 ((by kernel_rfl))
theorem dTk : D222 r n c222 x0 r222 = D222 r n aWx x0 (K2 (yI r n) 0 3) :=
 congrArg (fun k => D222 r n aWx x0 k) (cQh r n)
theorem dJr (q0 : eN) : D222 r n aWx x0 (K2 q0 0 3) = fun (env : aV) (h : Hp) =>
 bnd (bM (env 1) h) fun v1 h1 =>
  q0 (env 0) v1 h1 := by kernel_rfl
theorem cSp : (fun (env : aV) (h : Hp) =>
 bnd (bM (env 1) h) fun v1 h1 =>
  yI r n (env 0) v1 h1) = (K2 (s222 r n) 0 1) := by kernel_rfl
theorem eHi : D222 r n c222 x0 r222 = (K2 (s222 r n) 0 1) :=
 (dTk r n).trans
 ((dJr r n (yI r n)).trans (cSp r n))
theorem dQk : aE CF r n 222 args h = s222 r n (aP args 0) (aP args 1) h :=
 (by kernel_rfl : aE CF r n 222 args h = D222 r n c222 x0 r222 (aJ args) h).trans ((congrFun (congrFun (eHi r n) (aJ args)) h).trans (by kernel_rfl))
noncomputable def s230 (r : RT) (n : Nat) (x0 : DV) (h0 : Hp) : aK :=
 bnd (r 203 [x0] h0) fun v1 h1 =>
 bnd (gD v1 false (some (x0, h1)) h1) fun v2 h2 =>
 bnd (gD v1 false (r 206 [v2] h2) h2) fun v3 h3 =>
 bnd (aQ v1 (.b true) v3 h3) fun v4 h4 =>
 some (v4, h4)
noncomputable abbrev c230 : Code := cf Tryz.f230
noncomputable abbrev r230 : K := aR CF Tryz.f230
noncomputable def D230 (r : RT) (n : Nat) (c : Code) (X : Nat → K) (k : K) : K := aM CF r 9 n c X r230 k
theorem dYs : D230 r n c230 x0 r230 = (K1 (s230 r n) 0) :=
 (by kernel_rfl)
theorem dPu : aE CF r n 230 args h = s230 r n (aP args 0) h :=
 (by kernel_rfl : aE CF r n 230 args h = D230 r n c230 x0 r230 (aJ args) h).trans ((congrFun (congrFun (dYs r n) (aJ args)) h).trans (by kernel_rfl))
end Go.Dd

namespace Go.Dd
open Go.Proofs
variable (r : RT) (n : Nat) (args : List DV) (h : Hp)
noncomputable def eR (r : RT) (n : Nat) (x4 x5 : DV) (h0 : Hp) : aK :=
 bnd (aH 6 x5 h0) fun v1 h1 =>
 bnd (aD 6 x4 v1 h1) fun _ h2 =>
 bnd (aH 6 x4 h2) fun v3 _ =>
 some (v3, h2)
noncomputable def aDx (r : RT) (n : Nat) (kk5 : dH) (x0 x4 x5 : DV) (h0 : Hp) : aK :=
 bnd (r 179 [x0, (aC 2), (.s [])] h0) fun v1 h1 =>
 aU v1 (
 bnd (aB 1 x5 h1) fun v2 h2 =>
 bnd (aA v2 h2) fun v3 h3 =>
 bnd (r 180 [x0] h3) fun v4 h4 =>
 cnd (aW (aA v2 h4) v3 && true) (
 bnd (dD 1 v4 h4) fun v5 h5 =>
 bnd (eG .add v3 v5 h5) fun v6 h6 =>
 bnd (aB 1 x5 h6) fun v7 h7 =>
 bnd (aD 1 v7 v6 h7) fun v8 h8 =>
 bnd (aB 5 x5 (resv 1 h8)) fun v9 h9 =>
 bnd (aA v9 h9) fun v10 h10 =>
 bnd (r 235 [x0] h10) fun v11 h11 =>
 cnd (aW (aA v9 h11) v10 && true) (
 bnd (r 234 [x0, v11] h11) fun v12 h12 =>
 cnd (aW (aA v9 h12) v10 && true) (
 bnd (r 233 [x0, v12] h12) fun v13 h13 =>
 cnd (aW (aA v9 h13) v10 && true) (
 bnd (aS (bD 0 h8.next) cQ 1 [(0, 6, v13)] h13) fun v14 h14 =>
 bnd (aX 6 104 v10 v14 h14) fun v15 h15 =>
 bnd (aB 5 x5 h15) fun v16 h16 =>
 bnd (aD 1 v16 v15 h16) fun v17 h17 =>
      kk5 x0 x4 x5 h17))))) (
      eR r n x4 x5 h1)
noncomputable def tG (r : RT) (n : Nat) (m : Nat) : dH :=
 Nat.rec (motive := fun _ => dH) (fun _ _ _ _ => none) (fun _ ih => aDx r n ih) m
noncomputable def cCv (r : RT) (n : Nat) : dH := tG r n n
noncomputable def yS (r : RT) (n : Nat) (x0 x4 x5 : DV) (h0 : Hp) : aK :=
 cCv r n x0 x4 x5 h0
noncomputable def aFr (r : RT) (n : Nat) (x0 x3 x4 : DV) (h0 : Hp) : aK :=
 bnd (aH 6 x3 h0) fun v1 h1 =>
 bnd (aN cQ 1 [(0, 6, v1)] h1) fun v2 h2 =>
 bnd (r 252 [(.s []), v2] h2) fun v3 h3 =>
 bnd (bA cQ h3) fun v4 h4 =>
 bnd (aD 6 v4 v3 h4) fun _ h5 =>
  yS r n x0 x4 v4 h5
noncomputable def aAf (r : RT) (n : Nat) (x0 x3 x4 : DV) (h0 : Hp) : aK :=
 bnd (r 179 [x0, (aC 2), (.s [])] h0) fun v1 h1 =>
 bnd (eO .not v1 h1) fun v2 h2 =>
 aU v2 (
 bnd (aH 6 x3 h2) fun v3 h3 =>
 bnd (aD 6 x4 v3 h3) fun _ h4 =>
 bnd (aH 6 x4 h4) fun v5 _ =>
 some (v5, h4)) (
  aFr r n x0 x3 x4 h2)
noncomputable def s232 (r : RT) (n : Nat) (x0 x1 : DV) (h0 : Hp) : aK :=
 bnd (bM x1 h0) fun v1 h1 =>
 bnd (bA cQ h1) fun v2 h2 =>
  aAf r n x0 v1 v2 h2
noncomputable abbrev c232 : Code := cf Tryz.f232
noncomputable abbrev aDc : Code := cR c232
noncomputable abbrev aHq : Code := cR aDc
noncomputable abbrev aLe : Code := cR aHq
noncomputable abbrev dJq : Code := cR aLe
noncomputable abbrev aOw : Code := cL aLe
noncomputable abbrev aCr : Code := cL aOw
noncomputable abbrev mL : Code := cL aCr
noncomputable abbrev aUh : Code := cL aHq
noncomputable abbrev bQc : Code := cL aDc
noncomputable abbrev aLh : Code := cL c232
noncomputable abbrev r232 : K := aR CF Tryz.f232
noncomputable def D232 (r : RT) (n : Nat) (c : Code) (X : Nat → K) (k : K) : K := aM CF r 34 n c X r232 k
theorem dAz : D232 r n dJq x0 r232 = (K2 (eR r n) 4 5) :=
 (by kernel_rfl)
theorem cCg (kk5 : dH) (q0 : eN) : D232 r n mL (xs x0 0 (K2 q0 4 5)) (K3 kk5 0 4 5) = fun (env : aV) (h : Hp) =>
 bnd (r 179 [(env 0), (aC 2), (.s [])] h) fun v1 h1 =>
 aU v1 (
 bnd (aB 1 (env 5) h1) fun v2 h2 =>
 bnd (aA v2 h2) fun v3 h3 =>
 bnd (r 180 [(env 0)] h3) fun v4 h4 =>
 cnd (aW (aA v2 h4) v3 && true) (
 bnd (dD 1 v4 h4) fun v5 h5 =>
 bnd (eG .add v3 v5 h5) fun v6 h6 =>
 bnd (aB 1 (env 5) h6) fun v7 h7 =>
 bnd (aD 1 v7 v6 h7) fun v8 h8 =>
 bnd (aB 5 (env 5) (resv 1 h8)) fun v9 h9 =>
 bnd (aA v9 h9) fun v10 h10 =>
 bnd (r 235 [(env 0)] h10) fun v11 h11 =>
 cnd (aW (aA v9 h11) v10 && true) (
 bnd (r 234 [(env 0), v11] h11) fun v12 h12 =>
 cnd (aW (aA v9 h12) v10 && true) (
 bnd (r 233 [(env 0), v12] h12) fun v13 h13 =>
 cnd (aW (aA v9 h13) v10 && true) (
 bnd (aS (bD 0 h8.next) cQ 1 [(0, 6, v13)] h13) fun v14 h14 =>
 bnd (aX 6 104 v10 v14 h14) fun v15 h15 =>
 bnd (aB 5 (env 5) h15) fun v16 h16 =>
 bnd (aD 1 v16 v15 h16) fun v17 h17 =>
      kk5 (env 0) (env 4) (env 5) h17))))) (
      q0 (env 4) (env 5) h1) := by kernel_rfl
theorem bNa (kk5 : dH) : (fun (env : aV) (h : Hp) =>
 bnd (r 179 [(env 0), (aC 2), (.s [])] h) fun v1 h1 =>
 aU v1 (
 bnd (aB 1 (env 5) h1) fun v2 h2 =>
 bnd (aA v2 h2) fun v3 h3 =>
 bnd (r 180 [(env 0)] h3) fun v4 h4 =>
 cnd (aW (aA v2 h4) v3 && true) (
 bnd (dD 1 v4 h4) fun v5 h5 =>
 bnd (eG .add v3 v5 h5) fun v6 h6 =>
 bnd (aB 1 (env 5) h6) fun v7 h7 =>
 bnd (aD 1 v7 v6 h7) fun v8 h8 =>
 bnd (aB 5 (env 5) (resv 1 h8)) fun v9 h9 =>
 bnd (aA v9 h9) fun v10 h10 =>
 bnd (r 235 [(env 0)] h10) fun v11 h11 =>
 cnd (aW (aA v9 h11) v10 && true) (
 bnd (r 234 [(env 0), v11] h11) fun v12 h12 =>
 cnd (aW (aA v9 h12) v10 && true) (
 bnd (r 233 [(env 0), v12] h12) fun v13 h13 =>
 cnd (aW (aA v9 h13) v10 && true) (
 bnd (aS (bD 0 h8.next) cQ 1 [(0, 6, v13)] h13) fun v14 h14 =>
 bnd (aX 6 104 v10 v14 h14) fun v15 h15 =>
 bnd (aB 5 (env 5) h15) fun v16 h16 =>
 bnd (aD 1 v16 v15 h16) fun v17 h17 =>
      kk5 (env 0) (env 4) (env 5) h17))))) (
      eR r n (env 4) (env 5) h1)) = (K3 (aDx r n kk5) 0 4 5) := by kernel_rfl
theorem cHx (kk5 : dH) : D232 r n mL (xs x0 0 (K2 (eR r n) 4 5)) (K3 kk5 0 4 5) = (K3 (aDx r n kk5) 0 4 5) :=
 (cCg r n kk5 (eR r n)).trans (bNa r n kk5)
theorem bXz (m : Nat) : aL (fun kk => D232 r n mL (xs x0 0 (K2 (eR r n) 4 5)) kk) m = (K3 (tG r n m) 0 4 5) := by
 induction m with
 | zero => exact (by kernel_rfl : aL (fun kk => D232 r n mL (xs x0 0 (K2 (eR r n) 4 5)) kk) 0 = (K3 (tG r n 0) 0 4 5))
 | succ m ih =>
  refine (by kernel_rfl : aL (fun kk => D232 r n mL (xs x0 0 (K2 (eR r n) 4 5)) kk) (m + 1) = D232 r n mL (xs x0 0 (K2 (eR r n) 4 5)) (aL (fun kk => D232 r n mL (xs x0 0 (K2 (eR r n) 4 5)) kk) m)).trans ?_
  rw [ih]
  exact (cHx r n (tG r n m)).trans (by kernel_rfl)
theorem cPl : D232 r n aCr (xs x0 0 (K2 (eR r n) 4 5)) (K2 (eR r n) 4 5) = (K3 (cCv r n) 0 4 5) :=
 (by kernel_rfl : D232 r n aCr (xs x0 0 (K2 (eR r n) 4 5)) (K2 (eR r n) 4 5) = aL (fun kk => D232 r n mL (xs x0 0 (K2 (eR r n) 4 5)) kk) n).trans ((bXz r n n).trans (by kernel_rfl))
theorem bUn : D232 r n aLe x0 r232 = D232 r n aOw x0 (K2 (eR r n) 4 5) :=
 congrArg (fun k => D232 r n aOw x0 k) (dAz r n)
theorem cRm : D232 r n aLe x0 r232 = (K3 (yS r n) 0 4 5) :=
 (bUn r n).trans
 ((by kernel_rfl : D232 r n aOw x0 (K2 (eR r n) 4 5) = D232 r n aCr (xs x0 0 (K2 (eR r n) 4 5)) (K2 (eR r n) 4 5)).trans
 ((cPl r n).trans (by kernel_rfl)))
theorem cHe : D232 r n aHq x0 r232 = D232 r n aUh x0 (K3 (yS r n) 0 4 5) :=
 congrArg (fun k => D232 r n aUh x0 k) (cRm r n)
theorem cBg (q0 : dH) : D232 r n aUh x0 (K3 q0 0 4 5) = fun (env : aV) (h : Hp) =>
 bnd (aH 6 (env 3) h) fun v1 h1 =>
 bnd (aN cQ 1 [(0, 6, v1)] h1) fun v2 h2 =>
 bnd (r 252 [(.s []), v2] h2) fun v3 h3 =>
 bnd (bA cQ h3) fun v4 h4 =>
 bnd (aD 6 v4 v3 h4) fun _ h5 =>
  q0 (env 0) (env 4) v4 h5 := by kernel_rfl
theorem bLb : (fun (env : aV) (h : Hp) =>
 bnd (aH 6 (env 3) h) fun v1 h1 =>
 bnd (aN cQ 1 [(0, 6, v1)] h1) fun v2 h2 =>
 bnd (r 252 [(.s []), v2] h2) fun v3 h3 =>
 bnd (bA cQ h3) fun v4 h4 =>
 bnd (aD 6 v4 v3 h4) fun _ h5 =>
  yS r n (env 0) (env 4) v4 h5) = (K3 (aFr r n) 0 3 4) := by kernel_rfl
theorem cZx : D232 r n aHq x0 r232 = (K3 (aFr r n) 0 3 4) :=
 (cHe r n).trans
 ((cBg r n (yS r n)).trans (bLb r n))
theorem cLk : D232 r n aDc x0 r232 = D232 r n bQc x0 (K3 (aFr r n) 0 3 4) :=
 congrArg (fun k => D232 r n bQc x0 k) (cZx r n)
theorem dAd : D232 r n aDc x0 r232 = (K3 (aAf r n) 0 3 4) :=
 (cLk r n).trans
 ((by kernel_rfl))
theorem dXj : D232 r n c232 x0 r232 = D232 r n aLh x0 (K3 (aAf r n) 0 3 4) :=
 congrArg (fun k => D232 r n aLh x0 k) (dAd r n)
theorem dKu (q0 : dH) : D232 r n aLh x0 (K3 q0 0 3 4) = fun (env : aV) (h : Hp) =>
 bnd (bM (env 1) h) fun v1 h1 =>
 bnd (bA cQ h1) fun v2 h2 =>
  q0 (env 0) v1 v2 h2 := by kernel_rfl
theorem cYa : (fun (env : aV) (h : Hp) =>
 bnd (bM (env 1) h) fun v1 h1 =>
 bnd (bA cQ h1) fun v2 h2 =>
  aAf r n (env 0) v1 v2 h2) = (K2 (s232 r n) 0 1) := by kernel_rfl
theorem dYm : D232 r n c232 x0 r232 = (K2 (s232 r n) 0 1) :=
 (dXj r n).trans
 ((dKu r n (aAf r n)).trans (cYa r n))
theorem dJw : aE CF r n 232 args h = s232 r n (aP args 0) (aP args 1) h :=
 (by kernel_rfl : aE CF r n 232 args h = D232 r n c232 x0 r232 (aJ args) h).trans ((congrFun (congrFun (dYm r n) (aJ args)) h).trans (by kernel_rfl))
noncomputable def fI (r : RT) (n : Nat) (x3 x4 : DV) (h0 : Hp) : aK :=
 bnd (aH 6 x3 h0) fun v1 h1 =>
 bnd (aD 6 x4 v1 h1) fun _ h2 =>
 bnd (aH 6 x4 h2) fun v3 _ =>
 some (v3, h2)
noncomputable def aHe (r : RT) (n : Nat) (kk3 : dH) (x0 x3 x4 : DV) (h0 : Hp) : aK :=
 bnd (r 179 [x0, (aC 3), (.s [])] h0) fun v1 h1 =>
 aU v1 (
 bnd (r 180 [x0] h1) fun v2 h2 =>
 bnd (bA [(aC 0), (.s []), (aC 0), (aC 0)] h2) fun v3 h3 =>
 bnd (aD 4 v3 v2 h3) fun _ h4 =>
 bnd (aB 1 v3 (resv 1 h4)) fun v5 h5 =>
 bnd (aA v5 h5) fun v6 h6 =>
 bnd (aH 6 x3 h6) fun v7 h7 =>
 bnd (r 235 [x0] h7) fun v8 h8 =>
 cnd (aW (aH 6 x3 h8) v7 && (aW (aA v5 h8) v6 && true)) (
 bnd (r 234 [x0, v8] h8) fun v9 h9 =>
 cnd (aW (aH 6 x3 h9) v7 && (aW (aA v5 h9) v6 && true)) (
 bnd (aS (bD 0 h4.next) [(aC 0), (.s []), (aC 0), .l0, .l0, .l0, (aC 0), (.s []), (aC 0), .l0, .l0, .l0] 2 [(0, 6, v7), (6, 6, v9)] h9) fun v10 h10 =>
 bnd (r 252 [v6, v10] h10) fun v11 h11 =>
 bnd (aD 6 x3 v11 h11) fun v12 h12 =>
      kk3 x0 x3 x4 h12))) (
      fI r n x3 x4 h1)
noncomputable def vC (r : RT) (n : Nat) (m : Nat) : dH :=
 Nat.rec (motive := fun _ => dH) (fun _ _ _ _ => none) (fun _ ih => aHe r n ih) m
noncomputable def bQd (r : RT) (n : Nat) : dH := vC r n n
noncomputable def aAd (r : RT) (n : Nat) (x0 x3 x4 : DV) (h0 : Hp) : aK :=
 bQd r n x0 x3 x4 h0
noncomputable def s233 (r : RT) (n : Nat) (x0 x1 : DV) (h0 : Hp) : aK :=
 bnd (bM x1 h0) fun v1 h1 =>
 bnd (bA cQ h1) fun v2 h2 =>
  aAd r n x0 v1 v2 h2
noncomputable abbrev c233 : Code := cf Tryz.f233
noncomputable abbrev aFj : Code := cR c233
noncomputable abbrev dWb : Code := cR aFj
noncomputable abbrev aKv : Code := cL aFj
noncomputable abbrev aJw : Code := cL aKv
noncomputable abbrev mX : Code := cL aJw
noncomputable abbrev aSt : Code := cL c233
noncomputable abbrev r233 : K := aR CF Tryz.f233
noncomputable def D233 (r : RT) (n : Nat) (c : Code) (X : Nat → K) (k : K) : K := aM CF r 20 n c X r233 k
theorem cQu : D233 r n dWb x0 r233 = (K2 (fI r n) 3 4) :=
 (by kernel_rfl)
theorem bUq (kk3 : dH) (q0 : eN) : D233 r n mX (xs x0 0 (K2 q0 3 4)) (K3 kk3 0 3 4) = fun (env : aV) (h : Hp) =>
 bnd (r 179 [(env 0), (aC 3), (.s [])] h) fun v1 h1 =>
 aU v1 (
 bnd (r 180 [(env 0)] h1) fun v2 h2 =>
 bnd (bA [(aC 0), (.s []), (aC 0), (aC 0)] h2) fun v3 h3 =>
 bnd (aD 4 v3 v2 h3) fun _ h4 =>
 bnd (aB 1 v3 (resv 1 h4)) fun v5 h5 =>
 bnd (aA v5 h5) fun v6 h6 =>
 bnd (aH 6 (env 3) h6) fun v7 h7 =>
 bnd (r 235 [(env 0)] h7) fun v8 h8 =>
 cnd (aW (aH 6 (env 3) h8) v7 && (aW (aA v5 h8) v6 && true)) (
 bnd (r 234 [(env 0), v8] h8) fun v9 h9 =>
 cnd (aW (aH 6 (env 3) h9) v7 && (aW (aA v5 h9) v6 && true)) (
 bnd (aS (bD 0 h4.next) [(aC 0), (.s []), (aC 0), .l0, .l0, .l0, (aC 0), (.s []), (aC 0), .l0, .l0, .l0] 2 [(0, 6, v7), (6, 6, v9)] h9) fun v10 h10 =>
 bnd (r 252 [v6, v10] h10) fun v11 h11 =>
 bnd (aD 6 (env 3) v11 h11) fun v12 h12 =>
      kk3 (env 0) (env 3) (env 4) h12))) (
      q0 (env 3) (env 4) h1) := by kernel_rfl
theorem bMl (kk3 : dH) : (fun (env : aV) (h : Hp) =>
 bnd (r 179 [(env 0), (aC 3), (.s [])] h) fun v1 h1 =>
 aU v1 (
 bnd (r 180 [(env 0)] h1) fun v2 h2 =>
 bnd (bA [(aC 0), (.s []), (aC 0), (aC 0)] h2) fun v3 h3 =>
 bnd (aD 4 v3 v2 h3) fun _ h4 =>
 bnd (aB 1 v3 (resv 1 h4)) fun v5 h5 =>
 bnd (aA v5 h5) fun v6 h6 =>
 bnd (aH 6 (env 3) h6) fun v7 h7 =>
 bnd (r 235 [(env 0)] h7) fun v8 h8 =>
 cnd (aW (aH 6 (env 3) h8) v7 && (aW (aA v5 h8) v6 && true)) (
 bnd (r 234 [(env 0), v8] h8) fun v9 h9 =>
 cnd (aW (aH 6 (env 3) h9) v7 && (aW (aA v5 h9) v6 && true)) (
 bnd (aS (bD 0 h4.next) [(aC 0), (.s []), (aC 0), .l0, .l0, .l0, (aC 0), (.s []), (aC 0), .l0, .l0, .l0] 2 [(0, 6, v7), (6, 6, v9)] h9) fun v10 h10 =>
 bnd (r 252 [v6, v10] h10) fun v11 h11 =>
 bnd (aD 6 (env 3) v11 h11) fun v12 h12 =>
      kk3 (env 0) (env 3) (env 4) h12))) (
      fI r n (env 3) (env 4) h1)) = (K3 (aHe r n kk3) 0 3 4) := by kernel_rfl
theorem cFr (kk3 : dH) : D233 r n mX (xs x0 0 (K2 (fI r n) 3 4)) (K3 kk3 0 3 4) = (K3 (aHe r n kk3) 0 3 4) :=
 (bUq r n kk3 (fI r n)).trans (bMl r n kk3)
theorem bRl (m : Nat) : aL (fun kk => D233 r n mX (xs x0 0 (K2 (fI r n) 3 4)) kk) m = (K3 (vC r n m) 0 3 4) := by
 induction m with
 | zero => exact (by kernel_rfl : aL (fun kk => D233 r n mX (xs x0 0 (K2 (fI r n) 3 4)) kk) 0 = (K3 (vC r n 0) 0 3 4))
 | succ m ih =>
  refine (by kernel_rfl : aL (fun kk => D233 r n mX (xs x0 0 (K2 (fI r n) 3 4)) kk) (m + 1) = D233 r n mX (xs x0 0 (K2 (fI r n) 3 4)) (aL (fun kk => D233 r n mX (xs x0 0 (K2 (fI r n) 3 4)) kk) m)).trans ?_
  rw [ih]
  exact (cFr r n (vC r n m)).trans (by kernel_rfl)
theorem cQz : D233 r n aJw (xs x0 0 (K2 (fI r n) 3 4)) (K2 (fI r n) 3 4) = (K3 (bQd r n) 0 3 4) :=
 (by kernel_rfl : D233 r n aJw (xs x0 0 (K2 (fI r n) 3 4)) (K2 (fI r n) 3 4) = aL (fun kk => D233 r n mX (xs x0 0 (K2 (fI r n) 3 4)) kk) n).trans ((bRl r n n).trans (by kernel_rfl))
theorem cEu : D233 r n aFj x0 r233 = D233 r n aKv x0 (K2 (fI r n) 3 4) :=
 congrArg (fun k => D233 r n aKv x0 k) (cQu r n)
theorem cYm : D233 r n aFj x0 r233 = (K3 (aAd r n) 0 3 4) :=
 (cEu r n).trans
 ((by kernel_rfl : D233 r n aKv x0 (K2 (fI r n) 3 4) = D233 r n aJw (xs x0 0 (K2 (fI r n) 3 4)) (K2 (fI r n) 3 4)).trans
 ((cQz r n).trans (by kernel_rfl)))
theorem dQs : D233 r n c233 x0 r233 = D233 r n aSt x0 (K3 (aAd r n) 0 3 4) :=
 congrArg (fun k => D233 r n aSt x0 k) (cYm r n)
theorem dKw (q0 : dH) : D233 r n aSt x0 (K3 q0 0 3 4) = fun (env : aV) (h : Hp) =>
 bnd (bM (env 1) h) fun v1 h1 =>
 bnd (bA cQ h1) fun v2 h2 =>
  q0 (env 0) v1 v2 h2 := by kernel_rfl
theorem dDj : (fun (env : aV) (h : Hp) =>
 bnd (bM (env 1) h) fun v1 h1 =>
 bnd (bA cQ h1) fun v2 h2 =>
  aAd r n (env 0) v1 v2 h2) = (K2 (s233 r n) 0 1) := by kernel_rfl
theorem dXy : D233 r n c233 x0 r233 = (K2 (s233 r n) 0 1) :=
 (dQs r n).trans
 ((dKw r n (aAd r n)).trans (dDj r n))
theorem dOg : aE CF r n 233 args h = s233 r n (aP args 0) (aP args 1) h :=
 (by kernel_rfl : aE CF r n 233 args h = D233 r n c233 x0 r233 (aJ args) h).trans ((congrFun (congrFun (dXy r n) (aJ args)) h).trans (by kernel_rfl))
noncomputable def fJ (r : RT) (n : Nat) (x3 x4 : DV) (h0 : Hp) : aK :=
 bnd (aH 6 x3 h0) fun v1 h1 =>
 bnd (aD 6 x4 v1 h1) fun _ h2 =>
 bnd (aH 6 x4 h2) fun v3 _ =>
 some (v3, h2)
noncomputable def aCy (r : RT) (n : Nat) (kk3 : dH) (x0 x3 x4 : DV) (h0 : Hp) : aK :=
 bnd (r 179 [x0, (aC 1), (.s [])] h0) fun v1 h1 =>
 aU v1 (
 bnd (r 180 [x0] (resv 1 h1)) fun v2 h2 =>
 bnd (dD 1 v2 h2) fun v3 h3 =>
 bnd (aH 6 x3 h3) fun v4 h4 =>
 cnd (aW (aH 6 x3 (resv 1 h1)) v4 && true) (
 bnd (aS (bD 0 h1.next) cQ 1 [(0, 6, v4)] h4) fun v5 h5 =>
 bnd (r 252 [v3, v5] h5) fun v6 h6 =>
 bnd (aD 6 x3 v6 h6) fun v7 h7 =>
      kk3 x0 x3 x4 h7)) (
      fJ r n x3 x4 h1)
noncomputable def uZ (r : RT) (n : Nat) (m : Nat) : dH :=
 Nat.rec (motive := fun _ => dH) (fun _ _ _ _ => none) (fun _ ih => aCy r n ih) m
noncomputable def cJh (r : RT) (n : Nat) : dH := uZ r n n
noncomputable def aAx (r : RT) (n : Nat) (x0 x3 x4 : DV) (h0 : Hp) : aK :=
 cJh r n x0 x3 x4 h0
noncomputable def s234 (r : RT) (n : Nat) (x0 x1 : DV) (h0 : Hp) : aK :=
 bnd (bM x1 h0) fun v1 h1 =>
 bnd (bA cQ h1) fun v2 h2 =>
  aAx r n x0 v1 v2 h2
noncomputable abbrev c234 : Code := cf Tryz.f234
noncomputable abbrev aKi : Code := cR c234
noncomputable abbrev dSf : Code := cR aKi
noncomputable abbrev aGq : Code := cL aKi
noncomputable abbrev aFo : Code := cL aGq
noncomputable abbrev mP : Code := cL aFo
noncomputable abbrev aWf : Code := cL c234
noncomputable abbrev r234 : K := aR CF Tryz.f234
noncomputable def D234 (r : RT) (n : Nat) (c : Code) (X : Nat → K) (k : K) : K := aM CF r 14 n c X r234 k
theorem cRw : D234 r n dSf x0 r234 = (K2 (fJ r n) 3 4) :=
 (by kernel_rfl)
theorem cIs (kk3 : dH) (q0 : eN) : D234 r n mP (xs x0 0 (K2 q0 3 4)) (K3 kk3 0 3 4) = fun (env : aV) (h : Hp) =>
 bnd (r 179 [(env 0), (aC 1), (.s [])] h) fun v1 h1 =>
 aU v1 (
 bnd (r 180 [(env 0)] (resv 1 h1)) fun v2 h2 =>
 bnd (dD 1 v2 h2) fun v3 h3 =>
 bnd (aH 6 (env 3) h3) fun v4 h4 =>
 cnd (aW (aH 6 (env 3) (resv 1 h1)) v4 && true) (
 bnd (aS (bD 0 h1.next) cQ 1 [(0, 6, v4)] h4) fun v5 h5 =>
 bnd (r 252 [v3, v5] h5) fun v6 h6 =>
 bnd (aD 6 (env 3) v6 h6) fun v7 h7 =>
      kk3 (env 0) (env 3) (env 4) h7)) (
      q0 (env 3) (env 4) h1) := by kernel_rfl
theorem bLo (kk3 : dH) : (fun (env : aV) (h : Hp) =>
 bnd (r 179 [(env 0), (aC 1), (.s [])] h) fun v1 h1 =>
 aU v1 (
 bnd (r 180 [(env 0)] (resv 1 h1)) fun v2 h2 =>
 bnd (dD 1 v2 h2) fun v3 h3 =>
 bnd (aH 6 (env 3) h3) fun v4 h4 =>
 cnd (aW (aH 6 (env 3) (resv 1 h1)) v4 && true) (
 bnd (aS (bD 0 h1.next) cQ 1 [(0, 6, v4)] h4) fun v5 h5 =>
 bnd (r 252 [v3, v5] h5) fun v6 h6 =>
 bnd (aD 6 (env 3) v6 h6) fun v7 h7 =>
      kk3 (env 0) (env 3) (env 4) h7)) (
      fJ r n (env 3) (env 4) h1)) = (K3 (aCy r n kk3) 0 3 4) := by kernel_rfl
theorem cFc (kk3 : dH) : D234 r n mP (xs x0 0 (K2 (fJ r n) 3 4)) (K3 kk3 0 3 4) = (K3 (aCy r n kk3) 0 3 4) :=
 (cIs r n kk3 (fJ r n)).trans (bLo r n kk3)
theorem cDc (m : Nat) : aL (fun kk => D234 r n mP (xs x0 0 (K2 (fJ r n) 3 4)) kk) m = (K3 (uZ r n m) 0 3 4) := by
 induction m with
 | zero => exact (by kernel_rfl : aL (fun kk => D234 r n mP (xs x0 0 (K2 (fJ r n) 3 4)) kk) 0 = (K3 (uZ r n 0) 0 3 4))
 | succ m ih =>
  refine (by kernel_rfl : aL (fun kk => D234 r n mP (xs x0 0 (K2 (fJ r n) 3 4)) kk) (m + 1) = D234 r n mP (xs x0 0 (K2 (fJ r n) 3 4)) (aL (fun kk => D234 r n mP (xs x0 0 (K2 (fJ r n) 3 4)) kk) m)).trans ?_
  rw [ih]
  exact (cFc r n (uZ r n m)).trans (by kernel_rfl)
theorem cQt : D234 r n aFo (xs x0 0 (K2 (fJ r n) 3 4)) (K2 (fJ r n) 3 4) = (K3 (cJh r n) 0 3 4) :=
 (by kernel_rfl : D234 r n aFo (xs x0 0 (K2 (fJ r n) 3 4)) (K2 (fJ r n) 3 4) = aL (fun kk => D234 r n mP (xs x0 0 (K2 (fJ r n) 3 4)) kk) n).trans ((cDc r n n).trans (by kernel_rfl))
theorem bZv : D234 r n aKi x0 r234 = D234 r n aGq x0 (K2 (fJ r n) 3 4) :=
 congrArg (fun k => D234 r n aGq x0 k) (cRw r n)
theorem cOj : D234 r n aKi x0 r234 = (K3 (aAx r n) 0 3 4) :=
 (bZv r n).trans
 ((by kernel_rfl : D234 r n aGq x0 (K2 (fJ r n) 3 4) = D234 r n aFo (xs x0 0 (K2 (fJ r n) 3 4)) (K2 (fJ r n) 3 4)).trans
 ((cQt r n).trans (by kernel_rfl)))
theorem dNk : D234 r n c234 x0 r234 = D234 r n aWf x0 (K3 (aAx r n) 0 3 4) :=
 congrArg (fun k => D234 r n aWf x0 k) (cOj r n)
theorem dRv (q0 : dH) : D234 r n aWf x0 (K3 q0 0 3 4) = fun (env : aV) (h : Hp) =>
 bnd (bM (env 1) h) fun v1 h1 =>
 bnd (bA cQ h1) fun v2 h2 =>
  q0 (env 0) v1 v2 h2 := by kernel_rfl
theorem dBx : (fun (env : aV) (h : Hp) =>
 bnd (bM (env 1) h) fun v1 h1 =>
 bnd (bA cQ h1) fun v2 h2 =>
  aAx r n (env 0) v1 v2 h2) = (K2 (s234 r n) 0 1) := by kernel_rfl
theorem eHk : D234 r n c234 x0 r234 = (K2 (s234 r n) 0 1) :=
 (dNk r n).trans
 ((dRv r n (aAx r n)).trans (dBx r n))
theorem dNo : aE CF r n 234 args h = s234 r n (aP args 0) (aP args 1) h :=
 (by kernel_rfl : aE CF r n 234 args h = D234 r n c234 x0 r234 (aJ args) h).trans ((congrFun (congrFun (eHk r n) (aJ args)) h).trans (by kernel_rfl))
noncomputable def oP (r : RT) (n : Nat) (x2 : DV) (h0 : Hp) : aK :=
 bnd (aT cQ [] h0) fun v1 h1 =>
 bnd (aD 6 x2 v1 h1) fun _ h2 =>
 bnd (aH 6 x2 h2) fun v3 _ =>
 some (v3, h2)
noncomputable def rJ (r : RT) (n : Nat) (x0 x2 : DV) (h0 : Hp) : aK :=
 bnd (r 183 [x0, (aC 0)] h0) fun v1 h1 =>
 bnd (bA [(aC 0), (.s []), (aC 0), (aC 0)] h1) fun v2 h2 =>
 bnd (aD 4 v2 v1 h2) fun _ h3 =>
 bnd (aO x0 h3) fun v4 h4 =>
 bnd (aB 3 v4 h4) fun v5 h5 =>
 bnd (aA v5 h5) fun v6 h6 =>
 bnd (aF .neq v6 (aC 0) h6) fun v7 h7 =>
 aU v7 (
  oP r n x2 h7) (
 bnd (aB 0 v2 h7) fun v8 h8 =>
 bnd (aA v8 h8) fun v9 h9 =>
 bnd (aF .eql v9 (aC 1) h9) fun v10 h10 =>
 aU v10 (
 bnd (r 180 [x0] h10) fun v11 h11 =>
 bnd (dD 1 v11 h11) fun v12 h12 =>
 bnd (aT cQ [(0, 1, (aC 5)), (1, 1, v12)] h12) fun v13 h13 =>
 bnd (aD 6 x2 v13 h13) fun _ h14 =>
 bnd (aH 6 x2 h14) fun v15 _ =>
 some (v15, h14)) (
 bnd (aB 0 v2 h10) fun v16 h16 =>
 bnd (aA v16 h16) fun v17 h17 =>
 bnd (aF .eql v17 (aC 7) h17) fun v18 h18 =>
 aU v18 (
 bnd (r 254 [x0, (.f 255 [x0] [])] h18) fun v19 h19 =>
 bnd (aD 6 x2 v19 h19) fun _ h20 =>
 bnd (aH 6 x2 h20) fun v21 _ =>
 some (v21, h20)) (
 bnd (r 179 [x0, (aC 10), (.s [40])] h18) fun v22 h22 =>
 aU v22 (
 bnd (r 254 [x0, (.f 256 [x0] [])] h22) fun v23 h23 =>
 bnd (aD 6 x2 v23 h23) fun _ h24 =>
 bnd (aH 6 x2 h24) fun v25 _ =>
 some (v25, h24)) (
 bnd (r 179 [x0, (aC 10), (.s [91])] h22) fun v26 h26 =>
 aU v26 (
 bnd (r 254 [x0, (.f 257 [x0] [])] h26) fun v27 h27 =>
 bnd (aD 6 x2 v27 h27) fun _ h28 =>
 bnd (aH 6 x2 h28) fun v29 _ =>
 some (v29, h28)) (
 bnd (aH 4 v2 h26) fun v30 h30 =>
 bnd (r 182 [x0, v30, (aC 13)] h30) fun v31 h31 =>
      oP r n x2 h31)))))
noncomputable def qY (r : RT) (n : Nat) (x0 x2 : DV) (h0 : Hp) : aK :=
 bnd (r 253 [x0] h0) fun v1 h1 =>
 bnd (aG 0 v1 h1) fun v2 h2 =>
 bnd (aG 1 v1 h2) fun v3 h3 =>
 bnd (bA cQ h3) fun v4 h4 =>
 bnd (aD 6 v4 v2 h4) fun _ h5 =>
 aU v3 (
 bnd (aH 6 v4 h5) fun v6 h6 =>
 bnd (aD 6 x2 v6 h6) fun _ h7 =>
 bnd (aH 6 x2 h7) fun v8 _ =>
 some (v8, h7)) (
  rJ r n x0 x2 h5)
noncomputable def s235 (r : RT) (n : Nat) (x0 : DV) (h0 : Hp) : aK :=
 bnd (bA cQ h0) fun v1 h1 =>
  qY r n x0 v1 h1
noncomputable abbrev c235 : Code := cf Tryz.f235
noncomputable abbrev aJk : Code := cR c235
noncomputable abbrev aNe : Code := cR aJk
noncomputable abbrev dUc : Code := cR aNe
noncomputable abbrev aTk : Code := cL aNe
noncomputable abbrev aXj : Code := cL aJk
noncomputable abbrev bAg : Code := cL c235
noncomputable abbrev r235 : K := aR CF Tryz.f235
noncomputable def D235 (r : RT) (n : Nat) (c : Code) (X : Nat → K) (k : K) : K := aM CF r 55 n c X r235 k
theorem dDx : D235 r n dUc x0 r235 = (K1 (oP r n) 2) :=
 (by kernel_rfl)
theorem bWh : D235 r n aNe x0 r235 = D235 r n aTk x0 (K1 (oP r n) 2) :=
 congrArg (fun k => D235 r n aTk x0 k) (dDx r n)
theorem bWs (q0 : TT1) : D235 r n aTk x0 (K1 q0 2) = fun (env : aV) (h : Hp) =>
 bnd (r 183 [(env 0), (aC 0)] h) fun v1 h1 =>
 bnd (bA [(aC 0), (.s []), (aC 0), (aC 0)] h1) fun v2 h2 =>
 bnd (aD 4 v2 v1 h2) fun _ h3 =>
 bnd (aO (env 0) h3) fun v4 h4 =>
 bnd (aB 3 v4 h4) fun v5 h5 =>
 bnd (aA v5 h5) fun v6 h6 =>
 bnd (aF .neq v6 (aC 0) h6) fun v7 h7 =>
 aU v7 (
   q0 (env 2) h7) (
 bnd (aB 0 v2 h7) fun v8 h8 =>
 bnd (aA v8 h8) fun v9 h9 =>
 bnd (aF .eql v9 (aC 1) h9) fun v10 h10 =>
 aU v10 (
 bnd (r 180 [(env 0)] h10) fun v11 h11 =>
 bnd (dD 1 v11 h11) fun v12 h12 =>
 bnd (aT cQ [(0, 1, (aC 5)), (1, 1, v12)] h12) fun v13 h13 =>
 bnd (aD 6 (env 2) v13 h13) fun _ h14 =>
 bnd (aH 6 (env 2) h14) fun v15 _ =>
 some (v15, h14)) (
 bnd (aB 0 v2 h10) fun v16 h16 =>
 bnd (aA v16 h16) fun v17 h17 =>
 bnd (aF .eql v17 (aC 7) h17) fun v18 h18 =>
 aU v18 (
 bnd (r 254 [(env 0), (.f 255 [(env 0)] [])] h18) fun v19 h19 =>
 bnd (aD 6 (env 2) v19 h19) fun _ h20 =>
 bnd (aH 6 (env 2) h20) fun v21 _ =>
 some (v21, h20)) (
 bnd (r 179 [(env 0), (aC 10), (.s [40])] h18) fun v22 h22 =>
 aU v22 (
 bnd (r 254 [(env 0), (.f 256 [(env 0)] [])] h22) fun v23 h23 =>
 bnd (aD 6 (env 2) v23 h23) fun _ h24 =>
 bnd (aH 6 (env 2) h24) fun v25 _ =>
 some (v25, h24)) (
 bnd (r 179 [(env 0), (aC 10), (.s [91])] h22) fun v26 h26 =>
 aU v26 (
 bnd (r 254 [(env 0), (.f 257 [(env 0)] [])] h26) fun v27 h27 =>
 bnd (aD 6 (env 2) v27 h27) fun _ h28 =>
 bnd (aH 6 (env 2) h28) fun v29 _ =>
 some (v29, h28)) (
 bnd (aH 4 v2 h26) fun v30 h30 =>
 bnd (r 182 [(env 0), v30, (aC 13)] h30) fun v31 h31 =>
       q0 (env 2) h31))))) := by kernel_rfl
theorem bOo : (fun (env : aV) (h : Hp) =>
 bnd (r 183 [(env 0), (aC 0)] h) fun v1 h1 =>
 bnd (bA [(aC 0), (.s []), (aC 0), (aC 0)] h1) fun v2 h2 =>
 bnd (aD 4 v2 v1 h2) fun _ h3 =>
 bnd (aO (env 0) h3) fun v4 h4 =>
 bnd (aB 3 v4 h4) fun v5 h5 =>
 bnd (aA v5 h5) fun v6 h6 =>
 bnd (aF .neq v6 (aC 0) h6) fun v7 h7 =>
 aU v7 (
   oP r n (env 2) h7) (
 bnd (aB 0 v2 h7) fun v8 h8 =>
 bnd (aA v8 h8) fun v9 h9 =>
 bnd (aF .eql v9 (aC 1) h9) fun v10 h10 =>
 aU v10 (
 bnd (r 180 [(env 0)] h10) fun v11 h11 =>
 bnd (dD 1 v11 h11) fun v12 h12 =>
 bnd (aT cQ [(0, 1, (aC 5)), (1, 1, v12)] h12) fun v13 h13 =>
 bnd (aD 6 (env 2) v13 h13) fun _ h14 =>
 bnd (aH 6 (env 2) h14) fun v15 _ =>
 some (v15, h14)) (
 bnd (aB 0 v2 h10) fun v16 h16 =>
 bnd (aA v16 h16) fun v17 h17 =>
 bnd (aF .eql v17 (aC 7) h17) fun v18 h18 =>
 aU v18 (
 bnd (r 254 [(env 0), (.f 255 [(env 0)] [])] h18) fun v19 h19 =>
 bnd (aD 6 (env 2) v19 h19) fun _ h20 =>
 bnd (aH 6 (env 2) h20) fun v21 _ =>
 some (v21, h20)) (
 bnd (r 179 [(env 0), (aC 10), (.s [40])] h18) fun v22 h22 =>
 aU v22 (
 bnd (r 254 [(env 0), (.f 256 [(env 0)] [])] h22) fun v23 h23 =>
 bnd (aD 6 (env 2) v23 h23) fun _ h24 =>
 bnd (aH 6 (env 2) h24) fun v25 _ =>
 some (v25, h24)) (
 bnd (r 179 [(env 0), (aC 10), (.s [91])] h22) fun v26 h26 =>
 aU v26 (
 bnd (r 254 [(env 0), (.f 257 [(env 0)] [])] h26) fun v27 h27 =>
 bnd (aD 6 (env 2) v27 h27) fun _ h28 =>
 bnd (aH 6 (env 2) h28) fun v29 _ =>
 some (v29, h28)) (
 bnd (aH 4 v2 h26) fun v30 h30 =>
 bnd (r 182 [(env 0), v30, (aC 13)] h30) fun v31 h31 =>
       oP r n (env 2) h31)))))) = (K2 (rJ r n) 0 2) := by kernel_rfl
theorem cVe : D235 r n aNe x0 r235 = (K2 (rJ r n) 0 2) :=
 (bWh r n).trans
 ((bWs r n (oP r n)).trans (bOo r n))
theorem cFt : D235 r n aJk x0 r235 = D235 r n aXj x0 (K2 (rJ r n) 0 2) :=
 congrArg (fun k => D235 r n aXj x0 k) (cVe r n)
theorem cNj (q0 : eN) : D235 r n aXj x0 (K2 q0 0 2) = fun (env : aV) (h : Hp) =>
 bnd (r 253 [(env 0)] h) fun v1 h1 =>
 bnd (aG 0 v1 h1) fun v2 h2 =>
 bnd (aG 1 v1 h2) fun v3 h3 =>
 bnd (bA cQ h3) fun v4 h4 =>
 bnd (aD 6 v4 v2 h4) fun _ h5 =>
 aU v3 (
 bnd (aH 6 v4 h5) fun v6 h6 =>
 bnd (aD 6 (env 2) v6 h6) fun _ h7 =>
 bnd (aH 6 (env 2) h7) fun v8 _ =>
 some (v8, h7)) (
   q0 (env 0) (env 2) h5) := by kernel_rfl
theorem bLr : (fun (env : aV) (h : Hp) =>
 bnd (r 253 [(env 0)] h) fun v1 h1 =>
 bnd (aG 0 v1 h1) fun v2 h2 =>
 bnd (aG 1 v1 h2) fun v3 h3 =>
 bnd (bA cQ h3) fun v4 h4 =>
 bnd (aD 6 v4 v2 h4) fun _ h5 =>
 aU v3 (
 bnd (aH 6 v4 h5) fun v6 h6 =>
 bnd (aD 6 (env 2) v6 h6) fun _ h7 =>
 bnd (aH 6 (env 2) h7) fun v8 _ =>
 some (v8, h7)) (
   rJ r n (env 0) (env 2) h5)) = (K2 (qY r n) 0 2) := by kernel_rfl
theorem cPz : D235 r n aJk x0 r235 = (K2 (qY r n) 0 2) :=
 (cFt r n).trans
 ((cNj r n (rJ r n)).trans (bLr r n))
theorem dUj : D235 r n c235 x0 r235 = D235 r n bAg x0 (K2 (qY r n) 0 2) :=
 congrArg (fun k => D235 r n bAg x0 k) (cPz r n)
theorem dSd (q0 : eN) : D235 r n bAg x0 (K2 q0 0 2) = fun (env : aV) (h : Hp) =>
 bnd (bA cQ h) fun v1 h1 =>
  q0 (env 0) v1 h1 := by kernel_rfl
theorem cVm : (fun (env : aV) (h : Hp) =>
 bnd (bA cQ h) fun v1 h1 =>
  qY r n (env 0) v1 h1) = (K1 (s235 r n) 0) := by kernel_rfl
theorem eCy : D235 r n c235 x0 r235 = (K1 (s235 r n) 0) :=
 (dUj r n).trans
 ((dSd r n (qY r n)).trans (cVm r n))
theorem dVv : aE CF r n 235 args h = s235 r n (aP args 0) h :=
 (by kernel_rfl : aE CF r n 235 args h = D235 r n c235 x0 r235 (aJ args) h).trans ((congrFun (congrFun (eCy r n) (aJ args)) h).trans (by kernel_rfl))
noncomputable def s237 (r : RT) (n : Nat) (x0 : DV) (h0 : Hp) : aK :=
 bnd (bA cQ h0) fun v1 h1 =>
 bnd (bA cQ h1) fun v2 h2 =>
 bnd (r 183 [x0, (aC 0)] h2) fun v3 h3 =>
 bnd (bA [(aC 0), (.s []), (aC 0), (aC 0)] h3) fun v4 h4 =>
 bnd (aD 4 v4 v3 h4) fun _ h5 =>
 bnd (aB 0 v4 h5) fun v6 h6 =>
 bnd (aA v6 h6) fun v7 h7 =>
 bnd (aF .eql v7 (aC 1) h7) fun v8 h8 =>
 aU v8 (
 bnd (r 180 [x0] h8) fun v9 h9 =>
 bnd (aB 1 v4 h9) fun v10 h10 =>
 bnd (aA v10 h10) fun v11 h11 =>
 bnd (aH 6 v2 h11) fun v12 h12 =>
 bnd (aN cQ 1 [(0, 6, v12)] h12) fun v13 h13 =>
 bnd (r 252 [v11, v13] h13) fun v14 h14 =>
 bnd (aD 6 v1 v14 h14) fun _ h15 =>
 bnd (aH 6 v1 h15) fun v16 _ =>
 some (v16, h15)) (
 bnd (aF .eql v7 (aC 3) h8) fun v17 h17 =>
 aU v17 (
 bnd (r 180 [x0] h17) fun v18 h18 =>
 bnd (aB 1 v4 (resv 1 h18)) fun v19 h19 =>
 bnd (aA v19 h19) fun v20 h20 =>
 bnd (aH 6 v2 h20) fun v21 h21 =>
 bnd (r 235 [x0] h21) fun v22 h22 =>
 cnd (aW (aH 6 v2 h22) v21 && (aW (aA v19 h22) v20 && true)) (
 bnd (r 234 [x0, v22] h22) fun v23 h23 =>
 cnd (aW (aH 6 v2 h23) v21 && (aW (aA v19 h23) v20 && true)) (
 bnd (aS (bD 0 h18.next) [(aC 0), (.s []), (aC 0), .l0, .l0, .l0, (aC 0), (.s []), (aC 0), .l0, .l0, .l0] 2 [(0, 6, v21), (6, 6, v23)] h23) fun v24 h24 =>
 bnd (r 252 [v20, v24] h24) fun v25 h25 =>
 bnd (aD 6 v1 v25 h25) fun v26 h26 =>
 bnd (aH 6 v1 h26) fun v27 _ =>
 some (v27, h26)))) (
 bnd (aF .eql v7 (aC 2) h17) fun v28 h28 =>
 aU v28 (
 bnd (aH 6 v2 h28) fun v29 h29 =>
 bnd (r 232 [x0, v29] h29) fun v30 h30 =>
 bnd (aD 6 v1 v30 h30) fun _ h31 =>
 bnd (aH 6 v1 h31) fun v32 _ =>
 some (v32, h31)) (
 bnd (aH 4 v4 h28) fun v33 h33 =>
 bnd (r 182 [x0, v33, (aC 13)] h33) fun v34 h34 =>
 bnd (aH 6 v2 h34) fun v35 h35 =>
 bnd (aD 6 v1 v35 h35) fun _ h36 =>
 bnd (aH 6 v1 h36) fun v37 _ =>
 some (v37, h36))))
noncomputable abbrev c237 : Code := cf Tryz.f237
noncomputable abbrev r237 : K := aR CF Tryz.f237
noncomputable def D237 (r : RT) (n : Nat) (c : Code) (X : Nat → K) (k : K) : K := aM CF r 40 n c X r237 k
theorem eFw : D237 r n c237 x0 r237 = (K1 (s237 r n) 0) :=
 (by kernel_rfl)
theorem dNx : aE CF r n 237 args h = s237 r n (aP args 0) h :=
 (by kernel_rfl : aE CF r n 237 args h = D237 r n c237 x0 r237 (aJ args) h).trans ((congrFun (congrFun (eFw r n) (aJ args)) h).trans (by kernel_rfl))
noncomputable def eS (r : RT) (n : Nat) (h0 : Hp) : aK :=
 some ((.i .i64 (Int.negSucc 0)), h0)
noncomputable def bFb (r : RT) (n : Nat) (kk4 : dB) (x0 x1 x7 x8 : DV) (h0 : Hp) : aK :=
 bnd (aF .lss x8 x7 h0) fun v1 h1 =>
 aU v1 (
 bnd (aI 4 x0 x8 h1) fun v2 h2 =>
 bnd (aH 4 v2 h2) fun v3 h3 =>
 bnd (cK CF r x1 [v3] h3) fun v4 h4 =>
 aU v4 (
 some (x8, h4)) (
 bnd (aF .add x8 (aC 1) h4) fun v5 h5 =>
    kk4 x0 x1 x7 v5 h5)) (
      eS r n h1)
noncomputable def vS (r : RT) (n : Nat) (m : Nat) : dB :=
 Nat.rec (motive := fun _ => dB) (fun _ _ _ _ _ => none) (fun _ ih => bFb r n ih) m
noncomputable def cAo (r : RT) (n : Nat) : dB := vS r n n
noncomputable def aZb (r : RT) (n : Nat) (x0 x1 x7 x8 : DV) (h0 : Hp) : aK :=
 cAo r n x0 x1 x7 x8 h0
noncomputable def aSg (r : RT) (n : Nat) (x0 x1 : DV) (h0 : Hp) : aK :=
 bnd (bK x0 h0) fun v1 h1 =>
  aZb r n x0 x1 v1 (aC 0) h1
noncomputable def s238 (r : RT) (n : Nat) (x0 x1 : DV) (h0 : Hp) : aK :=
 aSg r n x0 x1 h0
noncomputable abbrev c238 : Code := cf Tryz.f238
noncomputable abbrev aKo : Code := cR c238
noncomputable abbrev dIv : Code := cR aKo
noncomputable abbrev yJ : Code := cL aKo
noncomputable abbrev aXn : Code := cR yJ
noncomputable abbrev aIb : Code := cL aXn
noncomputable abbrev nX : Code := cL aIb
noncomputable abbrev cNg : Code := cL yJ
noncomputable abbrev cLc : Code := cL c238
noncomputable abbrev r238 : K := aR CF Tryz.f238
noncomputable def D238 (r : RT) (n : Nat) (c : Code) (X : Nat → K) (k : K) : K := aM CF r 19 n c X r238 k
theorem cNw : D238 r n dIv x0 r238 = (K0 (eS r n)) :=
 (by kernel_rfl)
theorem cIp (kk4 : dB) : D238 r n nX (xs x0 0 (K0 (eS r n))) (K4 kk4 0 1 7 8) = (K4 (bFb r n kk4) 0 1 7 8) :=
 (by kernel_rfl)
theorem bRt (m : Nat) : aL (fun kk => D238 r n nX (xs x0 0 (K0 (eS r n))) kk) m = (K4 (vS r n m) 0 1 7 8) := by
 induction m with
 | zero => exact (by kernel_rfl : aL (fun kk => D238 r n nX (xs x0 0 (K0 (eS r n))) kk) 0 = (K4 (vS r n 0) 0 1 7 8))
 | succ m ih =>
  refine (by kernel_rfl : aL (fun kk => D238 r n nX (xs x0 0 (K0 (eS r n))) kk) (m + 1) = D238 r n nX (xs x0 0 (K0 (eS r n))) (aL (fun kk => D238 r n nX (xs x0 0 (K0 (eS r n))) kk) m)).trans ?_
  rw [ih]
  exact (cIp r n (vS r n m)).trans (by kernel_rfl)
theorem dGe : D238 r n aIb (xs x0 0 (K0 (eS r n))) (K0 (eS r n)) = (K4 (cAo r n) 0 1 7 8) :=
 (by kernel_rfl : D238 r n aIb (xs x0 0 (K0 (eS r n))) (K0 (eS r n)) = aL (fun kk => D238 r n nX (xs x0 0 (K0 (eS r n))) kk) n).trans ((bRt r n n).trans (by kernel_rfl))
theorem cRu : D238 r n aXn x0 (K0 (eS r n)) = (K4 (aZb r n) 0 1 7 8) :=
 (by kernel_rfl : D238 r n aXn x0 (K0 (eS r n)) = D238 r n aIb (xs x0 0 (K0 (eS r n))) (K0 (eS r n))).trans
 ((dGe r n).trans (by kernel_rfl))
theorem bUs : D238 r n aKo x0 r238 = D238 r n yJ x0 (K0 (eS r n)) :=
 congrArg (fun k => D238 r n yJ x0 k) (cNw r n)
theorem bUy : D238 r n yJ x0 (K0 (eS r n)) = D238 r n cNg x0 (K4 (aZb r n) 0 1 7 8) :=
 congrArg (fun k => D238 r n cNg x0 k) (cRu r n)
theorem dFd : D238 r n aKo x0 r238 = (K2 (aSg r n) 0 1) :=
 (bUs r n).trans
 ((bUy r n).trans
 ((by kernel_rfl)))
theorem dMy : D238 r n c238 x0 r238 = D238 r n cLc x0 (K2 (aSg r n) 0 1) :=
 congrArg (fun k => D238 r n cLc x0 k) (dFd r n)
theorem eGv : D238 r n c238 x0 r238 = (K2 (s238 r n) 0 1) :=
 (dMy r n).trans
 ((by kernel_rfl))
theorem dUt : aE CF r n 238 args h = s238 r n (aP args 0) (aP args 1) h :=
 (by kernel_rfl : aE CF r n 238 args h = D238 r n c238 x0 r238 (aJ args) h).trans ((congrFun (congrFun (eGv r n) (aJ args)) h).trans (by kernel_rfl))
noncomputable def s239 (r : RT) (n : Nat) (x0 x1 : DV) (h0 : Hp) : aK :=
 bnd (bM x0 h0) fun v1 h1 =>
 bnd (aB 0 v1 h1) fun v2 h2 =>
 bnd (aA v2 h2) fun v3 h3 =>
 bnd (aA x1 h3) fun v4 h4 =>
 bnd (eG .eql v3 v4 h4) fun v5 h5 =>
 some (v5, h5)
noncomputable abbrev c239 : Code := cf Tryz.f239
noncomputable abbrev r239 : K := aR CF Tryz.f239
noncomputable def D239 (r : RT) (n : Nat) (c : Code) (X : Nat → K) (k : K) : K := aM CF r 8 n c X r239 k
theorem eEw : D239 r n c239 x0 r239 = (K2 (s239 r n) 0 1) :=
 (by kernel_rfl)
theorem dLv : aE CF r n 239 args h = s239 r n (aP args 0) (aP args 1) h :=
 (by kernel_rfl : aE CF r n 239 args h = D239 r n c239 x0 r239 (aJ args) h).trans ((congrFun (congrFun (eEw r n) (aJ args)) h).trans (by kernel_rfl))
noncomputable def s240 (r : RT) (n : Nat) (x0 x1 : DV) (h0 : Hp) : aK :=
 bnd (bM x0 h0) fun v1 h1 =>
 bnd (aH 4 v1 h1) fun v2 h2 =>
 bnd (aH 4 x1 h2) fun v3 h3 =>
 bnd (r 241 [v2, v3] h3) fun v4 h4 =>
 some (v4, h4)
noncomputable abbrev c240 : Code := cf Tryz.f240
noncomputable abbrev r240 : K := aR CF Tryz.f240
noncomputable def D240 (r : RT) (n : Nat) (c : Code) (X : Nat → K) (k : K) : K := aM CF r 7 n c X r240 k
theorem dYh : D240 r n c240 x0 r240 = (K2 (s240 r n) 0 1) :=
 (by kernel_rfl)
theorem dSz : aE CF r n 240 args h = s240 r n (aP args 0) (aP args 1) h :=
 (by kernel_rfl : aE CF r n 240 args h = D240 r n c240 x0 r240 (aJ args) h).trans ((congrFun (congrFun (dYh r n) (aJ args)) h).trans (by kernel_rfl))
noncomputable def s241 (r : RT) (n : Nat) (x0 x1 : DV) (h0 : Hp) : aK :=
 bnd (bM x0 h0) fun v1 h1 =>
 bnd (bM x1 h1) fun v2 h2 =>
 bnd (aB 0 v1 h2) fun v3 h3 =>
 bnd (aA v3 h3) fun v4 h4 =>
 bnd (aB 0 v2 h4) fun v5 h5 =>
 bnd (aA v5 h5) fun v6 h6 =>
 bnd (aF .eql v4 v6 h6) fun v7 h7 =>
 bnd (gD v7 true (aB 1 v1 h7) h7) fun v8 h8 =>
 bnd (gD v7 true (aA v8 h8) h8) fun v9 h9 =>
 bnd (gD v7 true (aB 1 v2 h9) h9) fun v10 h10 =>
 bnd (gD v7 true (aA v10 h10) h10) fun v11 h11 =>
 bnd (gD v7 true (eG .eql v9 v11 h11) h11) fun v12 h12 =>
 bnd (aQ v7 v12 (.b false) h12) fun v13 h13 =>
 bnd (gD v13 true (aB 2 v1 h13) h13) fun v14 h14 =>
 bnd (gD v13 true (aA v14 h14) h14) fun v15 h15 =>
 bnd (gD v13 true (aB 2 v2 h15) h15) fun v16 h16 =>
 bnd (gD v13 true (aA v16 h16) h16) fun v17 h17 =>
 bnd (gD v13 true (aF .eql v15 v17 h17) h17) fun v18 h18 =>
 bnd (aQ v13 v18 (.b false) h18) fun v19 h19 =>
 bnd (gD v19 true (aB 3 v1 h19) h19) fun v20 h20 =>
 bnd (gD v19 true (aA v20 h20) h20) fun v21 h21 =>
 bnd (gD v19 true (aB 3 v2 h21) h21) fun v22 h22 =>
 bnd (gD v19 true (aA v22 h22) h22) fun v23 h23 =>
 bnd (gD v19 true (r 259 [v21, v23, (.f 241 [] [])] h23) h23) fun v24 h24 =>
 bnd (aQ v19 v24 (.b false) h24) fun v25 h25 =>
 some (v25, h25)
noncomputable abbrev c241 : Code := cf Tryz.f241
noncomputable abbrev r241 : K := aR CF Tryz.f241
noncomputable def D241 (r : RT) (n : Nat) (c : Code) (X : Nat → K) (k : K) : K := aM CF r 31 n c X r241 k
theorem dYa : D241 r n c241 x0 r241 = (K2 (s241 r n) 0 1) :=
 (by kernel_rfl)
theorem dVx : aE CF r n 241 args h = s241 r n (aP args 0) (aP args 1) h :=
 (by kernel_rfl : aE CF r n 241 args h = D241 r n c241 x0 r241 (aJ args) h).trans ((congrFun (congrFun (dYa r n) (aJ args)) h).trans (by kernel_rfl))
noncomputable def s242 (r : RT) (n : Nat) (x0 : DV) (h0 : Hp) : aK :=
 bnd (eG .neq x0 (.s []) h0) fun v1 h1 =>
 bnd (gD v1 true (some (x0, h1)) h1) fun v2 h2 =>
 bnd (gD v1 true (fE v2 (aC 0) h2) h2) fun v3 h3 =>
 bnd (gD v1 true (aF .geq v3 (.i .u8 (Int.ofNat 65)) h3) h3) fun v4 h4 =>
 bnd (aQ v1 v4 (.b false) h4) fun v5 h5 =>
 bnd (gD v5 true (some (x0, h5)) h5) fun v6 h6 =>
 bnd (gD v5 true (fE v6 (aC 0) h6) h6) fun v7 h7 =>
 bnd (gD v5 true (aF .leq v7 (.i .u8 (Int.ofNat 90)) h7) h7) fun v8 h8 =>
 bnd (aQ v5 v8 (.b false) h8) fun v9 h9 =>
 some (v9, h9)
noncomputable abbrev c242 : Code := cf Tryz.f242
noncomputable abbrev r242 : K := aR CF Tryz.f242
noncomputable def D242 (r : RT) (n : Nat) (c : Code) (X : Nat → K) (k : K) : K := aM CF r 15 n c X r242 k
theorem eIs : D242 r n c242 x0 r242 = (K1 (s242 r n) 0) :=
 (by kernel_rfl)
theorem dMn : aE CF r n 242 args h = s242 r n (aP args 0) h :=
 (by kernel_rfl : aE CF r n 242 args h = D242 r n c242 x0 r242 (aJ args) h).trans ((congrFun (congrFun (eIs r n) (aJ args)) h).trans (by kernel_rfl))
noncomputable def s243 (r : RT) (n : Nat) (x0 x1 : DV) (h0 : Hp) : aK :=
 bnd (aT [(aC 0), (.s []), (aC 0), .l0] [(0, 1, (aC 3)), (1, 1, x1)] h0) fun v1 h1 =>
 bnd (lB [x0, v1] h1) fun v2 h2 =>
 some (v2, h2)
noncomputable abbrev c243 : Code := cf Tryz.f243
noncomputable abbrev r243 : K := aR CF Tryz.f243
noncomputable def D243 (r : RT) (n : Nat) (c : Code) (X : Nat → K) (k : K) : K := aM CF r 9 n c X r243 k
theorem dYt : D243 r n c243 x0 r243 = (K2 (s243 r n) 0 1) :=
 (by kernel_rfl)
theorem dRr : aE CF r n 243 args h = s243 r n (aP args 0) (aP args 1) h :=
 (by kernel_rfl : aE CF r n 243 args h = D243 r n c243 x0 r243 (aJ args) h).trans ((congrFun (congrFun (dYt r n) (aJ args)) h).trans (by kernel_rfl))
noncomputable def mN (r : RT) (n : Nat) (x2 x3 x5 x6 x9 : DV) (h0 : Hp) : aK :=
 bnd (aB 5 x3 h0) fun v1 h1 =>
 bnd (aA v1 h1) fun v2 h2 =>
 bnd (bK v2 h2) fun v3 h3 =>
 bnd (aF .neq v3 x9 h3) fun v4 h4 =>
 bnd (gD v4 false (aB 5 x3 h4) h4) fun v5 h5 =>
 bnd (gD v4 false (aA v5 h5) h5) fun v6 h6 =>
 bnd (gD v4 false (cT 6 v6 (some (aC 1)) none h6) h6) fun v7 h7 =>
 bnd (gD v4 false (r 266 [v7, (.f 267 [] [])] h7) h7) fun v8 h8 =>
 bnd (aQ v4 (.b true) v8 h8) fun v9 h9 =>
 aU v9 (
 some ((.b false), h9)) (
 bnd (aA x2 h9) fun v10 h10 =>
 bnd (aB 5 x3 h10) fun v11 h11 =>
 bnd (aA v11 h11) fun v12 h12 =>
 bnd (aI 6 v12 (aC 0) h12) fun v13 h13 =>
 bnd (aH 6 v13 h13) fun v14 h14 =>
 bnd (r 186 [v10, v14] h14) fun v15 h15 =>
 bnd (aA x2 h15) fun v16 h16 =>
 bnd (r 220 [v16, (aC 17)] h16) fun v17 h17 =>
 bnd (cK CF r x5 [] h17) fun v18 h18 =>
 bnd (aA x2 h18) fun v19 h19 =>
 bnd (r 220 [v19, (aC 16)] h19) fun v20 h20 =>
 bnd (cK CF r v17 [] h20) fun v21 h21 =>
 bnd (cK CF r x6 [] h21) fun v22 h22 =>
 bnd (cK CF r v20 [] h22) fun v23 h23 =>
 some ((.b true), h23))
noncomputable def aWj (r : RT) (n : Nat) (x2 x3 x7 x8 x9 : DV) (h0 : Hp) : aK :=
 bnd (aB 1 x3 h0) fun v1 h1 =>
 bnd (aA v1 h1) fun v2 h2 =>
 bnd (eG .eql v2 (.s [105, 102, 84, 114, 117, 101, 58]) h2) fun v3 h3 =>
 aU v3 (
 bnd (cK CF r x7 [(aC 1)] h3) fun v4 h4 =>
 bnd (cK CF r x8 [(aC 2)] h4) fun v5 h5 =>
  mN r n x2 x3 v4 v5 x9 h5) (
 bnd (eG .eql v2 (.s [105, 102, 70, 97, 108, 115, 101, 58]) h3) fun v6 h6 =>
 aU v6 (
 bnd (cK CF r x8 [(aC 2)] h6) fun v7 h7 =>
 bnd (cK CF r x7 [(aC 1)] h7) fun v8 h8 =>
      mN r n x2 x3 v7 v8 x9 h8) (
 bnd (eG .eql v2 (.s [97, 110, 100, 58]) h6) fun v9 h9 =>
 aU v9 (
 bnd (cK CF r x7 [(aC 1)] h9) fun v10 h10 =>
 bnd (cK CF r x8 [(aC 4)] h10) fun v11 h11 =>
    mN r n x2 x3 v10 v11 x9 h11) (
 bnd (eG .eql v2 (.s [111, 114, 58]) h9) fun v12 h12 =>
 aU v12 (
 bnd (cK CF r x8 [(aC 3)] h12) fun v13 h13 =>
 bnd (cK CF r x7 [(aC 1)] h13) fun v14 h14 =>
     mN r n x2 x3 v13 v14 x9 h14) (
 bnd (eG .eql v2 (.s [105, 102, 84, 114, 117, 101, 58, 105, 102, 70, 97, 108, 115, 101, 58]) h12) fun v15 h15 =>
 aU v15 (
 bnd (cK CF r x7 [(aC 1)] h15) fun v16 h16 =>
 bnd (cK CF r x7 [(aC 2)] h16) fun v17 h17 =>
      mN r n x2 x3 v16 v17 (aC 3) h17) (
 bnd (eG .eql v2 (.s [105, 102, 70, 97, 108, 115, 101, 58, 105, 102, 84, 114, 117, 101, 58]) h15) fun v18 h18 =>
 aU v18 (
 bnd (cK CF r x7 [(aC 2)] h18) fun v19 h19 =>
 bnd (cK CF r x7 [(aC 1)] h19) fun v20 h20 =>
       mN r n x2 x3 v19 v20 (aC 3) h20) (
 some ((.b false), h18)))))))
noncomputable def aYk (r : RT) (n : Nat) (x2 x3 x7 x8 : DV) (h0 : Hp) : aK :=
 aWj r n x2 x3 x7 x8 (aC 2) h0
noncomputable def aWi (r : RT) (n : Nat) (x2 x3 x7 : DV) (h0 : Hp) : aK :=
 aYk r n x2 x3 x7 (.f 264 [] [x2]) h0
noncomputable def aWk (r : RT) (n : Nat) (x2 x3 : DV) (h0 : Hp) : aK :=
 aWi r n x2 x3 (.f 262 [] [x2, x3]) h0
noncomputable def zL (r : RT) (n : Nat) (x2 x3 : DV) (h0 : Hp) : aK :=
 aWk r n x2 x3 h0
noncomputable def s244 (r : RT) (n : Nat) (x0 x1 : DV) (h0 : Hp) : aK :=
 bnd (bM x0 h0) fun v1 h1 =>
 bnd (bM x1 h1) fun v2 h2 =>
  zL r n v1 v2 h2
noncomputable abbrev c244 : Code := cf Tryz.f244
noncomputable abbrev aMa : Code := cR c244
noncomputable abbrev aNk : Code := cR aMa
noncomputable abbrev aFp : Code := cR aNk
noncomputable abbrev aKz : Code := cR aFp
noncomputable abbrev aJb : Code := cR aKz
noncomputable abbrev dWr : Code := cR aJb
noncomputable abbrev cFu : Code := cL aJb
noncomputable abbrev cFa : Code := cL aKz
noncomputable abbrev cCd : Code := cL aFp
noncomputable abbrev bEm : Code := cL aNk
noncomputable abbrev bDr : Code := cL aMa
noncomputable abbrev aIg : Code := cL c244
noncomputable abbrev r244 : K := aR CF Tryz.f244
noncomputable def D244 (r : RT) (n : Nat) (c : Code) (X : Nat → K) (k : K) : K := aM CF r 81 n c X r244 k
theorem cSn : D244 r n dWr x0 r244 = (K5 (mN r n) 2 3 5 6 9) :=
 (by kernel_rfl)
theorem bPu : D244 r n aJb x0 r244 = D244 r n cFu x0 (K5 (mN r n) 2 3 5 6 9) :=
 congrArg (fun k => D244 r n cFu x0 k) (cSn r n)
theorem cOi : D244 r n aJb x0 r244 = (K5 (aWj r n) 2 3 7 8 9) :=
 (bPu r n).trans
 ((by kernel_rfl))
theorem cBu : D244 r n aKz x0 r244 = D244 r n cFa x0 (K5 (aWj r n) 2 3 7 8 9) :=
 congrArg (fun k => D244 r n cFa x0 k) (cOi r n)
theorem dAi : D244 r n aKz x0 r244 = (K4 (aYk r n) 2 3 7 8) :=
 (cBu r n).trans
 ((by kernel_rfl))
theorem cAp : D244 r n aFp x0 r244 = D244 r n cCd x0 (K4 (aYk r n) 2 3 7 8) :=
 congrArg (fun k => D244 r n cCd x0 k) (dAi r n)
theorem cRp : D244 r n aFp x0 r244 = (K3 (aWi r n) 2 3 7) :=
 (cAp r n).trans
 ((by kernel_rfl))
theorem cDi : D244 r n aNk x0 r244 = D244 r n bEm x0 (K3 (aWi r n) 2 3 7) :=
 congrArg (fun k => D244 r n bEm x0 k) (cRp r n)
theorem cUb : D244 r n aNk x0 r244 = (K2 (aWk r n) 2 3) :=
 (cDi r n).trans
 ((by kernel_rfl))
theorem cBh : D244 r n aMa x0 r244 = D244 r n bDr x0 (K2 (aWk r n) 2 3) :=
 congrArg (fun k => D244 r n bDr x0 k) (cUb r n)
theorem dFc : D244 r n aMa x0 r244 = (K2 (zL r n) 2 3) :=
 (cBh r n).trans
 ((by kernel_rfl))
theorem dNe : D244 r n c244 x0 r244 = D244 r n aIg x0 (K2 (zL r n) 2 3) :=
 congrArg (fun k => D244 r n aIg x0 k) (dFc r n)
theorem dTy (q0 : eN) : D244 r n aIg x0 (K2 q0 2 3) = fun (env : aV) (h : Hp) =>
 bnd (bM (env 0) h) fun v1 h1 =>
 bnd (bM (env 1) h1) fun v2 h2 =>
  q0 v1 v2 h2 := by kernel_rfl
theorem cPh : (fun (env : aV) (h : Hp) =>
 bnd (bM (env 0) h) fun v1 h1 =>
 bnd (bM (env 1) h1) fun v2 h2 =>
  zL r n v1 v2 h2) = (K2 (s244 r n) 0 1) := by kernel_rfl
theorem eAb : D244 r n c244 x0 r244 = (K2 (s244 r n) 0 1) :=
 (dNe r n).trans
 ((dTy r n (zL r n)).trans (cPh r n))
theorem dRk : aE CF r n 244 args h = s244 r n (aP args 0) (aP args 1) h :=
 (by kernel_rfl : aE CF r n 244 args h = D244 r n c244 x0 r244 (aJ args) h).trans ((congrFun (congrFun (eAb r n) (aJ args)) h).trans (by kernel_rfl))
noncomputable def aGn (r : RT) (n : Nat) (x0 x3 x6 x7 : DV) (h0 : Hp) : aK :=
 bnd (aB 5 x3 h0) fun v1 h1 =>
 bnd (aA v1 h1) fun v2 h2 =>
 bnd (aI 6 v2 (aC 1) h2) fun v3 h3 =>
 bnd (aH 6 v3 h3) fun v4 h4 =>
 bnd (r 221 [x0, v4] h4) fun v5 h5 =>
 bnd (r 187 [x0, (aC 12), (aC 0), (aC 0)] h5) fun v6 h6 =>
 bnd (r 248 [x0] h6) fun v7 h7 =>
 bnd (r 187 [x0, (aC 16), (aC 0), (aC 0)] h7) fun v8 h8 =>
 bnd (r 250 [x0, v7, (aC 16), x6] h8) fun v9 h9 =>
 bnd (cK CF r x7 [] h9) fun v10 h10 =>
 bnd (r 187 [x0, (aC 2), (aC 0), (aC 0)] h10) fun v11 h11 =>
 some ((.b true), h11)
noncomputable def aSu (r : RT) (n : Nat) (x0 x3 x5 x6 x7 : DV) (h0 : Hp) : aK :=
 bnd (eO .not x5 h0) fun v1 h1 =>
 aU v1 (
 bnd (r 220 [x0, (aC 16)] h1) fun v2 h2 =>
 bnd (cK CF r x7 [] h2) fun v3 h3 =>
  aGn r n x0 x3 x6 v2 h3) (
  aGn r n x0 x3 x6 x7 h1)
noncomputable def aUi (r : RT) (n : Nat) (x0 x3 x5 x6 : DV) (h0 : Hp) : aK :=
 bnd (r 220 [x0, (aC 17)] h0) fun v1 h1 =>
  aSu r n x0 x3 x5 x6 v1 h1
noncomputable def aYg (r : RT) (n : Nat) (x0 x3 x5 x6 : DV) (h0 : Hp) : aK :=
 bnd (aB 5 x3 h0) fun v1 h1 =>
 bnd (aA v1 h1) fun v2 h2 =>
 bnd (aI 6 v2 (aC 0) h2) fun v3 h3 =>
 bnd (aH 6 v3 h3) fun v4 h4 =>
 bnd (r 221 [x0, v4] h4) fun v5 h5 =>
  aUi r n x0 x3 x5 x6 h5
noncomputable def aZa (r : RT) (n : Nat) (x0 x3 x5 : DV) (h0 : Hp) : aK :=
 bnd (r 248 [x0] h0) fun v1 h1 =>
  aYg r n x0 x3 x5 v1 h1
noncomputable def aUl (r : RT) (n : Nat) (x0 x3 x5 : DV) (h0 : Hp) : aK :=
 bnd (eO .not x5 h0) fun v1 h1 =>
 bnd (gD v1 true (aB 1 x3 h1) h1) fun v2 h2 =>
 bnd (gD v1 true (aA v2 h2) h2) fun v3 h3 =>
 bnd (gD v1 true (eG .neq v3 (.s [119, 104, 105, 108, 101, 70, 97, 108, 115, 101, 58]) h3) h3) fun v4 h4 =>
 bnd (aQ v1 v4 (.b false) h4) fun v5 h5 =>
 bnd (gD v5 false (aB 5 x3 h5) h5) fun v6 h6 =>
 bnd (gD v5 false (aA v6 h6) h6) fun v7 h7 =>
 bnd (gD v5 false (bK v7 h7) h7) fun v8 h8 =>
 bnd (gD v5 false (aF .neq v8 (aC 2) h8) h8) fun v9 h9 =>
 bnd (aQ v5 (.b true) v9 h9) fun v10 h10 =>
 bnd (gD v10 false (aB 5 x3 h10) h10) fun v11 h11 =>
 bnd (gD v10 false (aA v11 h11) h11) fun v12 h12 =>
 bnd (gD v10 false (aI 6 v12 (aC 0) h12) h12) fun v13 h13 =>
 bnd (gD v10 false (aH 6 v13 h13) h13) fun v14 h14 =>
 bnd (gD v10 false (r 268 [v14] h14) h14) fun v15 h15 =>
 bnd (gD v10 false (eO .not v15 h15) h15) fun v16 h16 =>
 bnd (aQ v10 (.b true) v16 h16) fun v17 h17 =>
 bnd (gD v17 false (aB 5 x3 h17) h17) fun v18 h18 =>
 bnd (gD v17 false (aA v18 h18) h18) fun v19 h19 =>
 bnd (gD v17 false (aI 6 v19 (aC 1) h19) h19) fun v20 h20 =>
 bnd (gD v17 false (aH 6 v20 h20) h20) fun v21 h21 =>
 bnd (gD v17 false (r 268 [v21] h21) h21) fun v22 h22 =>
 bnd (gD v17 false (eO .not v22 h22) h22) fun v23 h23 =>
 bnd (aQ v17 (.b true) v23 h23) fun v24 h24 =>
 aU v24 (
 some ((.b false), h24)) (
  aZa r n x0 x3 x5 h24)
noncomputable def yQ (r : RT) (n : Nat) (x0 x3 : DV) (h0 : Hp) : aK :=
 bnd (aB 1 x3 h0) fun v1 h1 =>
 bnd (aA v1 h1) fun v2 h2 =>
 bnd (eG .eql v2 (.s [119, 104, 105, 108, 101, 84, 114, 117, 101, 58]) h2) fun v3 h3 =>
  aUl r n x0 x3 v3 h3
noncomputable def s245 (r : RT) (n : Nat) (x0 x1 : DV) (h0 : Hp) : aK :=
 bnd (bM x1 h0) fun v1 h1 =>
  yQ r n x0 v1 h1
noncomputable abbrev c245 : Code := cf Tryz.f245
noncomputable abbrev aMe : Code := cR c245
noncomputable abbrev aLs : Code := cR aMe
noncomputable abbrev aMh : Code := cR aLs
noncomputable abbrev aGl : Code := cR aMh
noncomputable abbrev aJs : Code := cR aGl
noncomputable abbrev aEb : Code := cR aJs
noncomputable abbrev dNt : Code := cR aEb
noncomputable abbrev bWz : Code := cL aEb
noncomputable abbrev bWx : Code := cL aJs
noncomputable abbrev bBk : Code := cL aGl
noncomputable abbrev bFf : Code := cL aMh
noncomputable abbrev bJl : Code := cL aLs
noncomputable abbrev bAp : Code := cL aMe
noncomputable abbrev aJx : Code := cL c245
noncomputable abbrev r245 : K := aR CF Tryz.f245
noncomputable def D245 (r : RT) (n : Nat) (c : Code) (X : Nat → K) (k : K) : K := aM CF r 79 n c X r245 k
theorem dBa : D245 r n dNt x0 r245 = (K4 (aGn r n) 0 3 6 7) :=
 (by kernel_rfl)
theorem cKf : D245 r n aEb x0 r245 = D245 r n bWz x0 (K4 (aGn r n) 0 3 6 7) :=
 congrArg (fun k => D245 r n bWz x0 k) (dBa r n)
theorem cNt : D245 r n aEb x0 r245 = (K5 (aSu r n) 0 3 5 6 7) :=
 (cKf r n).trans
 ((by kernel_rfl))
theorem bXk : D245 r n aJs x0 r245 = D245 r n bWx x0 (K5 (aSu r n) 0 3 5 6 7) :=
 congrArg (fun k => D245 r n bWx x0 k) (cNt r n)
theorem cOv : D245 r n aJs x0 r245 = (K4 (aUi r n) 0 3 5 6) :=
 (bXk r n).trans
 ((by kernel_rfl))
theorem cEe : D245 r n aGl x0 r245 = D245 r n bBk x0 (K4 (aUi r n) 0 3 5 6) :=
 congrArg (fun k => D245 r n bBk x0 k) (cOv r n)
theorem dBj : D245 r n aGl x0 r245 = (K4 (aYg r n) 0 3 5 6) :=
 (cEe r n).trans
 ((by kernel_rfl))
theorem cKs : D245 r n aMh x0 r245 = D245 r n bFf x0 (K4 (aYg r n) 0 3 5 6) :=
 congrArg (fun k => D245 r n bFf x0 k) (dBj r n)
theorem cXk : D245 r n aMh x0 r245 = (K3 (aZa r n) 0 3 5) :=
 (cKs r n).trans
 ((by kernel_rfl))
theorem cJg : D245 r n aLs x0 r245 = D245 r n bJl x0 (K3 (aZa r n) 0 3 5) :=
 congrArg (fun k => D245 r n bJl x0 k) (cXk r n)
theorem dGb : D245 r n aLs x0 r245 = (K3 (aUl r n) 0 3 5) :=
 (cJg r n).trans
 ((by kernel_rfl))
theorem bTj : D245 r n aMe x0 r245 = D245 r n bAp x0 (K3 (aUl r n) 0 3 5) :=
 congrArg (fun k => D245 r n bAp x0 k) (dGb r n)
theorem dFo : D245 r n aMe x0 r245 = (K2 (yQ r n) 0 3) :=
 (bTj r n).trans
 ((by kernel_rfl))
theorem dLj : D245 r n c245 x0 r245 = D245 r n aJx x0 (K2 (yQ r n) 0 3) :=
 congrArg (fun k => D245 r n aJx x0 k) (dFo r n)
theorem dJb (q0 : eN) : D245 r n aJx x0 (K2 q0 0 3) = fun (env : aV) (h : Hp) =>
 bnd (bM (env 1) h) fun v1 h1 =>
  q0 (env 0) v1 h1 := by kernel_rfl
theorem cSj : (fun (env : aV) (h : Hp) =>
 bnd (bM (env 1) h) fun v1 h1 =>
  yQ r n (env 0) v1 h1) = (K2 (s245 r n) 0 1) := by kernel_rfl
theorem dYi : D245 r n c245 x0 r245 = (K2 (s245 r n) 0 1) :=
 (dLj r n).trans
 ((dJb r n (yQ r n)).trans (cSj r n))
theorem dNw : aE CF r n 245 args h = s245 r n (aP args 0) (aP args 1) h :=
 (by kernel_rfl : aE CF r n 245 args h = D245 r n c245 x0 r245 (aJ args) h).trans ((congrFun (congrFun (dYi r n) (aJ args)) h).trans (by kernel_rfl))
noncomputable def dX (r : RT) (n : Nat) (x0 x1 x2 x3 : DV) (h0 : Hp) : aK :=
 bnd (r 243 [x0, x2] h0) fun v1 h1 =>
 bnd (bK x3 h1) fun v2 h2 =>
 bnd (r 187 [x0, x1, v1, v2] h2) fun v3 h3 =>
 some (.t [], h3)
noncomputable def aGf (r : RT) (n : Nat) (kk3 : TT7) (x0 x1 x2 x3 x10 x11 x12 : DV) (h0 : Hp) : aK :=
 bnd (aF .lss x12 x11 h0) fun v1 h1 =>
 aU v1 (
 bnd (aI 6 x10 x12 h1) fun v2 h2 =>
 bnd (aH 6 v2 h2) fun v3 h3 =>
 bnd (bA cQ h3) fun v4 h4 =>
 bnd (aD 6 v4 v3 h4) fun _ h5 =>
 bnd (aH 6 v4 h5) fun v6 h6 =>
 bnd (r 186 [x0, v6] h6) fun v7 h7 =>
 bnd (aF .add x12 (aC 1) h7) fun v8 h8 =>
      kk3 x0 x1 x2 x3 x10 x11 v8 h8) (
      dX r n x0 x1 x2 x3 h1)
noncomputable def uJ (r : RT) (n : Nat) (m : Nat) : TT7 :=
 Nat.rec (motive := fun _ => TT7) (fun _ _ _ _ _ _ _ _ => none) (fun _ ih => aGf r n ih) m
noncomputable def cNd (r : RT) (n : Nat) : TT7 := uJ r n n
noncomputable def aUc (r : RT) (n : Nat) (x0 x1 x2 x3 x10 x11 x12 : DV) (h0 : Hp) : aK :=
 cNd r n x0 x1 x2 x3 x10 x11 x12 h0
noncomputable def s246 (r : RT) (n : Nat) (x0 x1 x2 x3 : DV) (h0 : Hp) : aK :=
 bnd (bK x3 h0) fun v1 h1 =>
  aUc r n x0 x1 x2 x3 x3 v1 (aC 0) h1
noncomputable abbrev c246 : Code := cf Tryz.f246
noncomputable abbrev dLo : Code := cR c246
noncomputable abbrev aAc : Code := cL c246
noncomputable abbrev aYt : Code := cR aAc
noncomputable abbrev aGt : Code := cL aYt
noncomputable abbrev mK : Code := cL aGt
noncomputable abbrev cLo : Code := cL aAc
noncomputable abbrev r246 : K := aR CF Tryz.f246
noncomputable def D246 (r : RT) (n : Nat) (c : Code) (X : Nat → K) (k : K) : K := aM CF r 28 n c X r246 k
theorem dBd : D246 r n dLo x0 r246 = (K4 (dX r n) 0 1 2 3) :=
 (by kernel_rfl)
theorem cLi (kk3 : TT7) (q0 : dB) : D246 r n mK (xs x0 0 (K4 q0 0 1 2 3)) (K7 kk3 0 1 2 3 10 11 12) = fun (env : aV) (h : Hp) =>
 bnd (aF .lss (env 12) (env 11) h) fun v1 h1 =>
 aU v1 (
 bnd (aI 6 (env 10) (env 12) h1) fun v2 h2 =>
 bnd (aH 6 v2 h2) fun v3 h3 =>
 bnd (bA cQ h3) fun v4 h4 =>
 bnd (aD 6 v4 v3 h4) fun _ h5 =>
 bnd (aH 6 v4 h5) fun v6 h6 =>
 bnd (r 186 [(env 0), v6] h6) fun v7 h7 =>
 bnd (aF .add (env 12) (aC 1) h7) fun v8 h8 =>
      kk3 (env 0) (env 1) (env 2) (env 3) (env 10) (env 11) v8 h8) (
      q0 (env 0) (env 1) (env 2) (env 3) h1) := by kernel_rfl
theorem bNn (kk3 : TT7) : (fun (env : aV) (h : Hp) =>
 bnd (aF .lss (env 12) (env 11) h) fun v1 h1 =>
 aU v1 (
 bnd (aI 6 (env 10) (env 12) h1) fun v2 h2 =>
 bnd (aH 6 v2 h2) fun v3 h3 =>
 bnd (bA cQ h3) fun v4 h4 =>
 bnd (aD 6 v4 v3 h4) fun _ h5 =>
 bnd (aH 6 v4 h5) fun v6 h6 =>
 bnd (r 186 [(env 0), v6] h6) fun v7 h7 =>
 bnd (aF .add (env 12) (aC 1) h7) fun v8 h8 =>
      kk3 (env 0) (env 1) (env 2) (env 3) (env 10) (env 11) v8 h8) (
      dX r n (env 0) (env 1) (env 2) (env 3) h1)) = (K7 (aGf r n kk3) 0 1 2 3 10 11 12) := by kernel_rfl
theorem cBi (kk3 : TT7) : D246 r n mK (xs x0 0 (K4 (dX r n) 0 1 2 3)) (K7 kk3 0 1 2 3 10 11 12) = (K7 (aGf r n kk3) 0 1 2 3 10 11 12) :=
 (cLi r n kk3 (dX r n)).trans (bNn r n kk3)
theorem cMl (m : Nat) : aL (fun kk => D246 r n mK (xs x0 0 (K4 (dX r n) 0 1 2 3)) kk) m = (K7 (uJ r n m) 0 1 2 3 10 11 12) := by
 induction m with
 | zero => exact (by kernel_rfl : aL (fun kk => D246 r n mK (xs x0 0 (K4 (dX r n) 0 1 2 3)) kk) 0 = (K7 (uJ r n 0) 0 1 2 3 10 11 12))
 | succ m ih =>
  refine (by kernel_rfl : aL (fun kk => D246 r n mK (xs x0 0 (K4 (dX r n) 0 1 2 3)) kk) (m + 1) = D246 r n mK (xs x0 0 (K4 (dX r n) 0 1 2 3)) (aL (fun kk => D246 r n mK (xs x0 0 (K4 (dX r n) 0 1 2 3)) kk) m)).trans ?_
  rw [ih]
  exact (cBi r n (uJ r n m)).trans (by kernel_rfl)
theorem dGc : D246 r n aGt (xs x0 0 (K4 (dX r n) 0 1 2 3)) (K4 (dX r n) 0 1 2 3) = (K7 (cNd r n) 0 1 2 3 10 11 12) :=
 (by kernel_rfl : D246 r n aGt (xs x0 0 (K4 (dX r n) 0 1 2 3)) (K4 (dX r n) 0 1 2 3) = aL (fun kk => D246 r n mK (xs x0 0 (K4 (dX r n) 0 1 2 3)) kk) n).trans ((cMl r n n).trans (by kernel_rfl))
theorem cRh : D246 r n aYt x0 (K4 (dX r n) 0 1 2 3) = (K7 (aUc r n) 0 1 2 3 10 11 12) :=
 (by kernel_rfl : D246 r n aYt x0 (K4 (dX r n) 0 1 2 3) = D246 r n aGt (xs x0 0 (K4 (dX r n) 0 1 2 3)) (K4 (dX r n) 0 1 2 3)).trans
 ((dGc r n).trans (by kernel_rfl))
theorem dUy : D246 r n c246 x0 r246 = D246 r n aAc x0 (K4 (dX r n) 0 1 2 3) :=
 congrArg (fun k => D246 r n aAc x0 k) (dBd r n)
theorem dMv : D246 r n aAc x0 (K4 (dX r n) 0 1 2 3) = D246 r n cLo x0 (K7 (aUc r n) 0 1 2 3 10 11 12) :=
 congrArg (fun k => D246 r n cLo x0 k) (cRh r n)
theorem eFe : D246 r n c246 x0 r246 = (K4 (s246 r n) 0 1 2 3) :=
 (dUy r n).trans
 ((dMv r n).trans
 ((by kernel_rfl)))
theorem dNd : aE CF r n 246 args h = s246 r n (aP args 0) (aP args 1) (aP args 2) (aP args 3) h :=
 (by kernel_rfl : aE CF r n 246 args h = D246 r n c246 x0 r246 (aJ args) h).trans ((congrFun (congrFun (eFe r n) (aJ args)) h).trans (by kernel_rfl))
noncomputable def s247 (r : RT) (n : Nat) (x0 x1 : DV) (h0 : Hp) : aK :=
 bnd (bM x1 h0) fun v1 h1 =>
 bnd (aH 6 v1 h1) fun v2 h2 =>
 bnd (r 269 [v2] h2) fun v3 h3 =>
 aU v3 (
 bnd (r 187 [x0, (aC 1), (aC 0), (aC 0)] h3) fun v4 h4 =>
 some ((aC 15), h4)) (
 bnd (aH 6 v1 h3) fun v5 h5 =>
 bnd (r 186 [x0, v5] h5) fun v6 h6 =>
 some ((aC 14), h6))
noncomputable abbrev c247 : Code := cf Tryz.f247
noncomputable abbrev r247 : K := aR CF Tryz.f247
noncomputable def D247 (r : RT) (n : Nat) (c : Code) (X : Nat → K) (k : K) : K := aM CF r 12 n c X r247 k
theorem eCu : D247 r n c247 x0 r247 = (K2 (s247 r n) 0 1) :=
 (by kernel_rfl)
theorem dNh : aE CF r n 247 args h = s247 r n (aP args 0) (aP args 1) h :=
 (by kernel_rfl : aE CF r n 247 args h = D247 r n c247 x0 r247 (aJ args) h).trans ((congrFun (congrFun (eCu r n) (aJ args)) h).trans (by kernel_rfl))
noncomputable def s248 (r : RT) (n : Nat) (x0 : DV) (h0 : Hp) : aK :=
 bnd (aO x0 h0) fun v1 h1 =>
 bnd (aB 0 v1 h1) fun v2 h2 =>
 bnd (aB 5 v2 h2) fun v3 h3 =>
 bnd (aA v3 h3) fun v4 h4 =>
 bnd (bK v4 h4) fun v5 h5 =>
 some (v5, h5)
noncomputable abbrev c248 : Code := cf Tryz.f248
noncomputable abbrev r248 : K := aR CF Tryz.f248
noncomputable def D248 (r : RT) (n : Nat) (c : Code) (X : Nat → K) (k : K) : K := aM CF r 9 n c X r248 k
theorem eBk : D248 r n c248 x0 r248 = (K1 (s248 r n) 0) :=
 (by kernel_rfl)
theorem dOq : aE CF r n 248 args h = s248 r n (aP args 0) h :=
 (by kernel_rfl : aE CF r n 248 args h = D248 r n c248 x0 r248 (aJ args) h).trans ((congrFun (congrFun (eBk r n) (aJ args)) h).trans (by kernel_rfl))
noncomputable def s249 (r : RT) (n : Nat) (x0 x1 x2 : DV) (h0 : Hp) : aK :=
 bnd (aA x0 h0) fun v1 h1 =>
 bnd (aA x1 h1) fun v2 h2 =>
 bnd (aA x2 h2) fun v3 h3 =>
 bnd (aA x0 h3) fun v4 h4 =>
 bnd (r 248 [v4] h4) fun v5 h5 =>
 cnd (aW (aA x2 h5) v3 && (aW (aA x1 h5) v2 && (aW (aA x0 h5) v1 && true))) (
 bnd (r 250 [v1, v2, v3, v5] h5) fun v6 h6 =>
 some (.t [], h6))
noncomputable abbrev c249 : Code := cf Tryz.f249
noncomputable abbrev r249 : K := aR CF Tryz.f249
noncomputable def D249 (r : RT) (n : Nat) (c : Code) (X : Nat → K) (k : K) : K := aM CF r 9 n c X r249 k
theorem eFo : D249 r n c249 x0 r249 = (K3 (s249 r n) 0 1 2) :=
 (by kernel_rfl)
theorem dXb : aE CF r n 249 args h = s249 r n (aP args 0) (aP args 1) (aP args 2) h :=
 (by kernel_rfl : aE CF r n 249 args h = D249 r n c249 x0 r249 (aJ args) h).trans ((congrFun (congrFun (eFo r n) (aJ args)) h).trans (by kernel_rfl))
noncomputable def s250 (r : RT) (n : Nat) (x0 x1 x2 x3 : DV) (h0 : Hp) : aK :=
 bnd (aO x0 h0) fun v1 h1 =>
 bnd (aB 0 v1 h1) fun v2 h2 =>
 bnd (aB 5 v2 h2) fun v3 h3 =>
 bnd (aA v3 h3) fun v4 h4 =>
 bnd (aF .and x3 (aC 255) h4) fun v5 h5 =>
 bnd (dF .shr x3 (.i .u64 (Int.ofNat 8)) h5) fun v6 h6 =>
 bnd (aT [(aC 0), (aC 0), (aC 0)] [(0, 1, x2), (1, 1, v5), (2, 1, v6)] h6) fun v7 h7 =>
 bnd (aI 3 v4 x1 h7) fun v8 h8 =>
 bnd (aD 3 v8 v7 h8) fun _ h9 =>
 some (.t [], h9)
noncomputable abbrev c250 : Code := cf Tryz.f250
noncomputable abbrev r250 : K := aR CF Tryz.f250
noncomputable def D250 (r : RT) (n : Nat) (c : Code) (X : Nat → K) (k : K) : K := aM CF r 21 n c X r250 k
theorem dZh : D250 r n c250 x0 r250 = (K4 (s250 r n) 0 1 2 3) :=
 (by kernel_rfl)
theorem dSb : aE CF r n 250 args h = s250 r n (aP args 0) (aP args 1) (aP args 2) (aP args 3) h :=
 (by kernel_rfl : aE CF r n 250 args h = D250 r n c250 x0 r250 (aJ args) h).trans ((congrFun (congrFun (dZh r n) (aJ args)) h).trans (by kernel_rfl))
noncomputable def s251 (r : RT) (n : Nat) (x0 x1 x2 x3 : DV) (h0 : Hp) : aK :=
 bnd (aI 1 x0 x2 h0) fun v1 h1 =>
 bnd (aA v1 h1) fun v2 h2 =>
 bnd (aI 1 x0 x1 h2) fun v3 h3 =>
 bnd (aA v3 h3) fun v4 h4 =>
 bnd (r 195 [v2, v4] h4) fun v5 h5 =>
 aU v5 (
 bnd (aO x3 h5) fun v6 h6 =>
 bnd (aA v6 h6) fun v7 h7 =>
 bnd (aF .add v7 (aC 1) h7) fun v8 h8 =>
 bnd (aO x3 h8) fun v9 h9 =>
 bnd (aD 1 v9 v8 h9) fun _ h10 =>
 some (.t [x2, x1], h10)) (
 some (.t [x1, x2], h5))
noncomputable abbrev c251 : Code := cf Tryz.f251
noncomputable abbrev r251 : K := aR CF Tryz.f251
noncomputable def D251 (r : RT) (n : Nat) (c : Code) (X : Nat → K) (k : K) : K := aM CF r 28 n c X r251 k
theorem eDb : D251 r n c251 x0 r251 = (K4 (s251 r n) 0 1 2 3) :=
 (by kernel_rfl)
theorem dNy : aE CF r n 251 args h = s251 r n (aP args 0) (aP args 1) (aP args 2) (aP args 3) h :=
 (by kernel_rfl : aE CF r n 251 args h = D251 r n c251 x0 r251 (aJ args) h).trans ((congrFun (congrFun (eDb r n) (aJ args)) h).trans (by kernel_rfl))
noncomputable def s252 (r : RT) (n : Nat) (x0 x1 : DV) (h0 : Hp) : aK :=
 bnd (bA cQ h0) fun v1 h1 =>
 bnd (aT cQ [(0, 1, (aC 7)), (1, 1, x0), (5, 1, x1)] h1) fun v2 h2 =>
 bnd (aD 6 v1 v2 h2) fun _ h3 =>
 bnd (aH 6 v1 h3) fun v4 _ =>
 some (v4, h3)
noncomputable abbrev c252 : Code := cf Tryz.f252
noncomputable abbrev r252 : K := aR CF Tryz.f252
noncomputable def D252 (r : RT) (n : Nat) (c : Code) (X : Nat → K) (k : K) : K := aM CF r 8 n c X r252 k
theorem eAu : D252 r n c252 x0 r252 = (K2 (s252 r n) 0 1) :=
 (by kernel_rfl)
theorem dWe : aE CF r n 252 args h = s252 r n (aP args 0) (aP args 1) h :=
 (by kernel_rfl : aE CF r n 252 args h = D252 r n c252 x0 r252 (aJ args) h).trans ((congrFun (congrFun (eAu r n) (aJ args)) h).trans (by kernel_rfl))
noncomputable def lQ (r : RT) (n : Nat) (x0 x2 x5 : DV) (h0 : Hp) : aK :=
 bnd (r 180 [x0] h0) fun v1 h1 =>
 bnd (aH 6 x5 h1) fun v2 h2 =>
 bnd (aD 6 x2 v2 h2) fun _ h3 =>
 bnd (aH 6 x2 h3) fun v4 _ =>
 some (.t [v4, (.b true)], h3)
noncomputable def rN (r : RT) (n : Nat) (x0 x2 x4 x5 : DV) (h0 : Hp) : aK :=
 bnd (aO x0 h0) fun v1 h1 =>
 bnd (aB 3 v1 h1) fun v2 h2 =>
 bnd (aA v2 h2) fun v3 h3 =>
 bnd (aF .neq v3 (aC 0) h3) fun v4 h4 =>
 aU v4 (
 bnd (aH 6 x5 h4) fun v5 h5 =>
 bnd (aD 6 x2 v5 h5) fun _ h6 =>
 bnd (aH 6 x2 h6) fun v7 _ =>
 some (.t [v7, (.b false)], h6)) (
 bnd (r 270 [x0] h4) fun v8 h8 =>
 aU v8 (
 bnd (r 180 [x0] h8) fun v9 h9 =>
 bnd (r 180 [x0] h9) fun v10 h10 =>
 bnd (dD 2 v10 h10) fun v11 h11 =>
 bnd (eO .neg v11 h11) fun v12 h12 =>
 bnd (aT cQ [(0, 1, (aC 1)), (2, 1, v12)] h12) fun v13 h13 =>
 bnd (aD 6 x2 v13 h13) fun _ h14 =>
 bnd (aH 6 x2 h14) fun v15 _ =>
 some (.t [v15, (.b true)], h14)) (
 bnd (aB 0 x4 h8) fun v16 h16 =>
 bnd (aA v16 h16) fun v17 h17 =>
 bnd (aF .eql v17 (aC 4) h17) fun v18 h18 =>
 aU v18 (
 bnd (aB 0 x5 h18) fun v19 h19 =>
 bnd (aD 1 v19 (aC 1) h19) fun _ h20 =>
    lQ r n x0 x2 x5 h20) (
 bnd (aB 0 x4 h18) fun v21 h21 =>
 bnd (aA v21 h21) fun v22 h22 =>
 bnd (aF .eql v22 (aC 5) h22) fun v23 h23 =>
 aU v23 (
 bnd (aB 0 x5 h23) fun v24 h24 =>
 bnd (aD 1 v24 (aC 2) h24) fun _ h25 =>
     lQ r n x0 x2 x5 h25) (
 bnd (aB 0 x4 h23) fun v26 h26 =>
 bnd (aA v26 h26) fun v27 h27 =>
 bnd (aF .eql v27 (aC 6) h27) fun v28 h28 =>
 aU v28 (
 bnd (aB 0 x5 h28) fun v29 h29 =>
 bnd (aD 1 v29 (aC 3) h29) fun _ h30 =>
      lQ r n x0 x2 x5 h30) (
 bnd (aH 6 x5 h28) fun v31 h31 =>
 bnd (aD 6 x2 v31 h31) fun _ h32 =>
 bnd (aH 6 x2 h32) fun v33 _ =>
 some (.t [v33, (.b false)], h32))))))
noncomputable def rY (r : RT) (n : Nat) (x0 x2 x4 : DV) (h0 : Hp) : aK :=
 bnd (aB 1 x4 h0) fun v1 h1 =>
 bnd (aA v1 h1) fun v2 h2 =>
 bnd (aB 2 x4 h2) fun v3 h3 =>
 bnd (aA v3 h3) fun v4 h4 =>
 bnd (aT cQ [(1, 1, v2), (2, 1, v4)] h4) fun v5 h5 =>
 bnd (bA cQ h5) fun v6 h6 =>
 bnd (aD 6 v6 v5 h6) fun _ h7 =>
  rN r n x0 x2 x4 v6 h7
noncomputable def rE (r : RT) (n : Nat) (x0 x2 : DV) (h0 : Hp) : aK :=
 bnd (r 183 [x0, (aC 0)] h0) fun v1 h1 =>
 bnd (bA [(aC 0), (.s []), (aC 0), (aC 0)] h1) fun v2 h2 =>
 bnd (aD 4 v2 v1 h2) fun _ h3 =>
  rY r n x0 x2 v2 h3
noncomputable def s253 (r : RT) (n : Nat) (x0 : DV) (h0 : Hp) : aK :=
 bnd (bA cQ h0) fun v1 h1 =>
  rE r n x0 v1 h1
noncomputable abbrev c253 : Code := cf Tryz.f253
noncomputable abbrev aEu : Code := cR c253
noncomputable abbrev aId : Code := cR aEu
noncomputable abbrev aEk : Code := cR aId
noncomputable abbrev dVj : Code := cR aEk
noncomputable abbrev aWb : Code := cL aEk
noncomputable abbrev aWh : Code := cL aId
noncomputable abbrev aRy : Code := cL aEu
noncomputable abbrev aWv : Code := cL c253
noncomputable abbrev r253 : K := aR CF Tryz.f253
noncomputable def D253 (r : RT) (n : Nat) (c : Code) (X : Nat → K) (k : K) : K := aM CF r 49 n c X r253 k
theorem cZz : D253 r n dVj x0 r253 = (K3 (lQ r n) 0 2 5) :=
 (by kernel_rfl)
theorem bRf : D253 r n aEk x0 r253 = D253 r n aWb x0 (K3 (lQ r n) 0 2 5) :=
 congrArg (fun k => D253 r n aWb x0 k) (cZz r n)
theorem cDw (q0 : dH) : D253 r n aWb x0 (K3 q0 0 2 5) = fun (env : aV) (h : Hp) =>
 bnd (aO (env 0) h) fun v1 h1 =>
 bnd (aB 3 v1 h1) fun v2 h2 =>
 bnd (aA v2 h2) fun v3 h3 =>
 bnd (aF .neq v3 (aC 0) h3) fun v4 h4 =>
 aU v4 (
 bnd (aH 6 (env 5) h4) fun v5 h5 =>
 bnd (aD 6 (env 2) v5 h5) fun _ h6 =>
 bnd (aH 6 (env 2) h6) fun v7 _ =>
 some (.t [v7, (.b false)], h6)) (
 bnd (r 270 [(env 0)] h4) fun v8 h8 =>
 aU v8 (
 bnd (r 180 [(env 0)] h8) fun v9 h9 =>
 bnd (r 180 [(env 0)] h9) fun v10 h10 =>
 bnd (dD 2 v10 h10) fun v11 h11 =>
 bnd (eO .neg v11 h11) fun v12 h12 =>
 bnd (aT cQ [(0, 1, (aC 1)), (2, 1, v12)] h12) fun v13 h13 =>
 bnd (aD 6 (env 2) v13 h13) fun _ h14 =>
 bnd (aH 6 (env 2) h14) fun v15 _ =>
 some (.t [v15, (.b true)], h14)) (
 bnd (aB 0 (env 4) h8) fun v16 h16 =>
 bnd (aA v16 h16) fun v17 h17 =>
 bnd (aF .eql v17 (aC 4) h17) fun v18 h18 =>
 aU v18 (
 bnd (aB 0 (env 5) h18) fun v19 h19 =>
 bnd (aD 1 v19 (aC 1) h19) fun _ h20 =>
     q0 (env 0) (env 2) (env 5) h20) (
 bnd (aB 0 (env 4) h18) fun v21 h21 =>
 bnd (aA v21 h21) fun v22 h22 =>
 bnd (aF .eql v22 (aC 5) h22) fun v23 h23 =>
 aU v23 (
 bnd (aB 0 (env 5) h23) fun v24 h24 =>
 bnd (aD 1 v24 (aC 2) h24) fun _ h25 =>
      q0 (env 0) (env 2) (env 5) h25) (
 bnd (aB 0 (env 4) h23) fun v26 h26 =>
 bnd (aA v26 h26) fun v27 h27 =>
 bnd (aF .eql v27 (aC 6) h27) fun v28 h28 =>
 aU v28 (
 bnd (aB 0 (env 5) h28) fun v29 h29 =>
 bnd (aD 1 v29 (aC 3) h29) fun _ h30 =>
       q0 (env 0) (env 2) (env 5) h30) (
 bnd (aH 6 (env 5) h28) fun v31 h31 =>
 bnd (aD 6 (env 2) v31 h31) fun _ h32 =>
 bnd (aH 6 (env 2) h32) fun v33 _ =>
 some (.t [v33, (.b false)], h32)))))) := by kernel_rfl
theorem bLp : (fun (env : aV) (h : Hp) =>
 bnd (aO (env 0) h) fun v1 h1 =>
 bnd (aB 3 v1 h1) fun v2 h2 =>
 bnd (aA v2 h2) fun v3 h3 =>
 bnd (aF .neq v3 (aC 0) h3) fun v4 h4 =>
 aU v4 (
 bnd (aH 6 (env 5) h4) fun v5 h5 =>
 bnd (aD 6 (env 2) v5 h5) fun _ h6 =>
 bnd (aH 6 (env 2) h6) fun v7 _ =>
 some (.t [v7, (.b false)], h6)) (
 bnd (r 270 [(env 0)] h4) fun v8 h8 =>
 aU v8 (
 bnd (r 180 [(env 0)] h8) fun v9 h9 =>
 bnd (r 180 [(env 0)] h9) fun v10 h10 =>
 bnd (dD 2 v10 h10) fun v11 h11 =>
 bnd (eO .neg v11 h11) fun v12 h12 =>
 bnd (aT cQ [(0, 1, (aC 1)), (2, 1, v12)] h12) fun v13 h13 =>
 bnd (aD 6 (env 2) v13 h13) fun _ h14 =>
 bnd (aH 6 (env 2) h14) fun v15 _ =>
 some (.t [v15, (.b true)], h14)) (
 bnd (aB 0 (env 4) h8) fun v16 h16 =>
 bnd (aA v16 h16) fun v17 h17 =>
 bnd (aF .eql v17 (aC 4) h17) fun v18 h18 =>
 aU v18 (
 bnd (aB 0 (env 5) h18) fun v19 h19 =>
 bnd (aD 1 v19 (aC 1) h19) fun _ h20 =>
     lQ r n (env 0) (env 2) (env 5) h20) (
 bnd (aB 0 (env 4) h18) fun v21 h21 =>
 bnd (aA v21 h21) fun v22 h22 =>
 bnd (aF .eql v22 (aC 5) h22) fun v23 h23 =>
 aU v23 (
 bnd (aB 0 (env 5) h23) fun v24 h24 =>
 bnd (aD 1 v24 (aC 2) h24) fun _ h25 =>
      lQ r n (env 0) (env 2) (env 5) h25) (
 bnd (aB 0 (env 4) h23) fun v26 h26 =>
 bnd (aA v26 h26) fun v27 h27 =>
 bnd (aF .eql v27 (aC 6) h27) fun v28 h28 =>
 aU v28 (
 bnd (aB 0 (env 5) h28) fun v29 h29 =>
 bnd (aD 1 v29 (aC 3) h29) fun _ h30 =>
       lQ r n (env 0) (env 2) (env 5) h30) (
 bnd (aH 6 (env 5) h28) fun v31 h31 =>
 bnd (aD 6 (env 2) v31 h31) fun _ h32 =>
 bnd (aH 6 (env 2) h32) fun v33 _ =>
 some (.t [v33, (.b false)], h32))))))) = (K4 (rN r n) 0 2 4 5) := by kernel_rfl
theorem cVl : D253 r n aEk x0 r253 = (K4 (rN r n) 0 2 4 5) :=
 (bRf r n).trans
 ((cDw r n (lQ r n)).trans (bLp r n))
theorem cIq : D253 r n aId x0 r253 = D253 r n aWh x0 (K4 (rN r n) 0 2 4 5) :=
 congrArg (fun k => D253 r n aWh x0 k) (cVl r n)
theorem cEg (q0 : dB) : D253 r n aWh x0 (K4 q0 0 2 4 5) = fun (env : aV) (h : Hp) =>
 bnd (aB 1 (env 4) h) fun v1 h1 =>
 bnd (aA v1 h1) fun v2 h2 =>
 bnd (aB 2 (env 4) h2) fun v3 h3 =>
 bnd (aA v3 h3) fun v4 h4 =>
 bnd (aT cQ [(1, 1, v2), (2, 1, v4)] h4) fun v5 h5 =>
 bnd (bA cQ h5) fun v6 h6 =>
 bnd (aD 6 v6 v5 h6) fun _ h7 =>
  q0 (env 0) (env 2) (env 4) v6 h7 := by kernel_rfl
theorem bKd : (fun (env : aV) (h : Hp) =>
 bnd (aB 1 (env 4) h) fun v1 h1 =>
 bnd (aA v1 h1) fun v2 h2 =>
 bnd (aB 2 (env 4) h2) fun v3 h3 =>
 bnd (aA v3 h3) fun v4 h4 =>
 bnd (aT cQ [(1, 1, v2), (2, 1, v4)] h4) fun v5 h5 =>
 bnd (bA cQ h5) fun v6 h6 =>
 bnd (aD 6 v6 v5 h6) fun _ h7 =>
  rN r n (env 0) (env 2) (env 4) v6 h7) = (K3 (rY r n) 0 2 4) := by kernel_rfl
theorem dGa : D253 r n aId x0 r253 = (K3 (rY r n) 0 2 4) :=
 (cIq r n).trans
 ((cEg r n (rN r n)).trans (bKd r n))
theorem bQl : D253 r n aEu x0 r253 = D253 r n aRy x0 (K3 (rY r n) 0 2 4) :=
 congrArg (fun k => D253 r n aRy x0 k) (dGa r n)
theorem cMi (q0 : dH) : D253 r n aRy x0 (K3 q0 0 2 4) = fun (env : aV) (h : Hp) =>
 bnd (r 183 [(env 0), (aC 0)] h) fun v1 h1 =>
 bnd (bA [(aC 0), (.s []), (aC 0), (aC 0)] h1) fun v2 h2 =>
 bnd (aD 4 v2 v1 h2) fun _ h3 =>
  q0 (env 0) (env 2) v2 h3 := by kernel_rfl
theorem bMu : (fun (env : aV) (h : Hp) =>
 bnd (r 183 [(env 0), (aC 0)] h) fun v1 h1 =>
 bnd (bA [(aC 0), (.s []), (aC 0), (aC 0)] h1) fun v2 h2 =>
 bnd (aD 4 v2 v1 h2) fun _ h3 =>
  rY r n (env 0) (env 2) v2 h3) = (K2 (rE r n) 0 2) := by kernel_rfl
theorem dBy : D253 r n aEu x0 r253 = (K2 (rE r n) 0 2) :=
 (bQl r n).trans
 ((cMi r n (rY r n)).trans (bMu r n))
theorem dLh : D253 r n c253 x0 r253 = D253 r n aWv x0 (K2 (rE r n) 0 2) :=
 congrArg (fun k => D253 r n aWv x0 k) (dBy r n)
theorem dMw (q0 : eN) : D253 r n aWv x0 (K2 q0 0 2) = fun (env : aV) (h : Hp) =>
 bnd (bA cQ h) fun v1 h1 =>
  q0 (env 0) v1 h1 := by kernel_rfl
theorem cQm : (fun (env : aV) (h : Hp) =>
 bnd (bA cQ h) fun v1 h1 =>
  rE r n (env 0) v1 h1) = (K1 (s253 r n) 0) := by kernel_rfl
theorem eHo : D253 r n c253 x0 r253 = (K1 (s253 r n) 0) :=
 (dLh r n).trans
 ((dMw r n (rE r n)).trans (cQm r n))
theorem dJp : aE CF r n 253 args h = s253 r n (aP args 0) h :=
 (by kernel_rfl : aE CF r n 253 args h = D253 r n c253 x0 r253 (aJ args) h).trans ((congrFun (congrFun (eHo r n) (aJ args)) h).trans (by kernel_rfl))
noncomputable def s254 (r : RT) (n : Nat) (x0 x1 : DV) (h0 : Hp) : aK :=
 bnd (bA cQ h0) fun v1 h1 =>
 bnd (r 180 [x0] h1) fun v2 h2 =>
 bnd (bA [(aC 0), (.s []), (aC 0), (aC 0)] h2) fun v3 h3 =>
 bnd (aD 4 v3 v2 h3) fun _ h4 =>
 bnd (aO x0 h4) fun v5 h5 =>
 bnd (aB 1 v5 h5) fun v6 h6 =>
 bnd (aA v6 h6) fun v7 h7 =>
 bnd (aF .eql v7 (aC 20) h7) fun v8 h8 =>
 aU v8 (
 bnd (aH 4 v3 h8) fun v9 h9 =>
 bnd (r 182 [x0, v9, (aC 14)] h9) fun v10 h10 =>
 bnd (aT cQ [] h10) fun v11 h11 =>
 bnd (aD 6 v1 v11 h11) fun _ h12 =>
 bnd (aH 6 v1 h12) fun v13 _ =>
 some (v13, h12)) (
 bnd (aO x0 h8) fun v14 h14 =>
 bnd (aB 1 v14 h14) fun v15 h15 =>
 bnd (aA v15 h15) fun v16 h16 =>
 bnd (aF .add v16 (aC 1) h16) fun v17 h17 =>
 bnd (aO x0 h17) fun v18 h18 =>
 bnd (aB 1 v18 h18) fun v19 h19 =>
 bnd (aD 1 v19 v17 h19) fun _ h20 =>
 bnd (cK CF r x1 [] h20) fun v21 h21 =>
 bnd (bA cQ h21) fun v22 h22 =>
 bnd (aD 6 v22 v21 h22) fun _ h23 =>
 bnd (aO x0 h23) fun v24 h24 =>
 bnd (aB 1 v24 h24) fun v25 h25 =>
 bnd (aA v25 h25) fun v26 h26 =>
 bnd (aF .sub v26 (aC 1) h26) fun v27 h27 =>
 bnd (aO x0 h27) fun v28 h28 =>
 bnd (aB 1 v28 h28) fun v29 h29 =>
 bnd (aD 1 v29 v27 h29) fun _ h30 =>
 bnd (aH 6 v22 h30) fun v31 h31 =>
 bnd (aD 6 v1 v31 h31) fun _ h32 =>
 bnd (aH 6 v1 h32) fun v33 _ =>
 some (v33, h32))
noncomputable abbrev c254 : Code := cf Tryz.f254
noncomputable abbrev r254 : K := aR CF Tryz.f254
noncomputable def D254 (r : RT) (n : Nat) (c : Code) (X : Nat → K) (k : K) : K := aM CF r 35 n c X r254 k
theorem dZw : D254 r n c254 x0 r254 = (K2 (s254 r n) 0 1) :=
 (by kernel_rfl)
theorem dMr : aE CF r n 254 args h = s254 r n (aP args 0) (aP args 1) h :=
 (by kernel_rfl : aE CF r n 254 args h = D254 r n c254 x0 r254 (aJ args) h).trans ((congrFun (congrFun (dZw r n) (aJ args)) h).trans (by kernel_rfl))
end Go.Dd

namespace Go.Dd
open Go.Proofs
variable (r : RT) (n : Nat) (args : List DV) (h : Hp)
noncomputable def cN (r : RT) (n : Nat) (x0 x2 x3 : DV) (h0 : Hp) : aK :=
 bnd (r 180 [x0] h0) fun v1 h1 =>
 bnd (aH 6 x3 h1) fun v2 h2 =>
 bnd (aD 6 x2 v2 h2) fun _ h3 =>
 bnd (aH 6 x2 h3) fun v4 _ =>
 some (v4, h3)
noncomputable def rK (r : RT) (n : Nat) (kk4 : dH) (x0 x2 x3 x4 : DV) (h0 : Hp) : aK :=
 bnd (aB 5 x3 h0) fun v1 h1 =>
 bnd (aA v1 h1) fun v2 h2 =>
 bnd (aH 6 x4 h2) fun v3 h3 =>
 bnd (aN cQ 1 [(0, 6, v3)] h3) fun v4 h4 =>
 bnd (aX 6 104 v2 v4 h4) fun v5 h5 =>
 bnd (aB 5 x3 h5) fun v6 h6 =>
 bnd (aD 1 v6 v5 h6) fun _ h7 =>
  kk4 x0 x2 x3 h7
noncomputable def zW (r : RT) (n : Nat) (kk4 : dH) (x0 x2 x3 x4 x5 : DV) (h0 : Hp) : aK :=
 aU x5 (
  rK r n kk4 x0 x2 x3 x4 h0) (
 bnd (r 179 [x0, (aC 7), (.s [])] h0) fun v1 h1 =>
 bnd (gD v1 false (some (x0, h1)) h1) fun v2 h2 =>
 bnd (gD v1 false (r 179 [v2, (aC 10), (.s [40])] h2) h2) fun v3 h3 =>
 bnd (aQ v1 (.b true) v3 h3) fun v4 h4 =>
 aU v4 (
 bnd (r 254 [x0, (.f 255 [x0] [])] h4) fun v5 h5 =>
 bnd (aD 6 x4 v5 h5) fun _ h6 =>
      rK r n kk4 x0 x2 x3 x4 h6) (
 bnd (r 183 [x0, (aC 0)] h4) fun v7 h7 =>
 bnd (r 182 [x0, v7, (aC 13)] h7) fun v8 h8 =>
      rK r n kk4 x0 x2 x3 x4 h8))
noncomputable def aHh (r : RT) (n : Nat) (kk4 : dH) (x0 x2 x3 : DV) (h0 : Hp) : aK :=
 bnd (r 253 [x0] h0) fun v1 h1 =>
 bnd (aG 0 v1 h1) fun v2 h2 =>
 bnd (aG 1 v1 h2) fun v3 h3 =>
 bnd (bA cQ h3) fun v4 h4 =>
 bnd (aD 6 v4 v2 h4) fun _ h5 =>
  zW r n kk4 x0 x2 x3 v4 v3 h5
noncomputable def bDu (r : RT) (n : Nat) (kk4 : dH) (x0 x2 x3 : DV) (h0 : Hp) : aK :=
 bnd (aO x0 h0) fun v1 h1 =>
 bnd (aB 3 v1 h1) fun v2 h2 =>
 bnd (aA v2 h2) fun v3 h3 =>
 bnd (aF .eql v3 (aC 0) h3) fun v4 h4 =>
 bnd (gD v4 true (some (x0, h4)) h4) fun v5 h5 =>
 bnd (gD v4 true (r 179 [v5, (aC 10), (.s [41])] h5) h5) fun v6 h6 =>
 bnd (gD v4 true (eO .not v6 h6) h6) fun v7 h7 =>
 bnd (aQ v4 v7 (.b false) h7) fun v8 h8 =>
 aU v8 (
   aHh r n kk4 x0 x2 x3 h8) (
   cN r n x0 x2 x3 h8)
noncomputable def vU (r : RT) (n : Nat) (m : Nat) : dH :=
 Nat.rec (motive := fun _ => dH) (fun _ _ _ _ => none) (fun _ ih => bDu r n ih) m
noncomputable def cMk (r : RT) (n : Nat) : dH := vU r n n
noncomputable def aAv (r : RT) (n : Nat) (x0 x2 x3 : DV) (h0 : Hp) : aK :=
 cMk r n x0 x2 x3 h0
noncomputable def rR (r : RT) (n : Nat) (x0 x2 : DV) (h0 : Hp) : aK :=
 bnd (aT cQ [(0, 1, (aC 4))] h0) fun v1 h1 =>
 bnd (bA cQ h1) fun v2 h2 =>
 bnd (aD 6 v2 v1 h2) fun _ h3 =>
  aAv r n x0 x2 v2 h3
noncomputable def s255 (r : RT) (n : Nat) (x0 : DV) (h0 : Hp) : aK :=
 bnd (bA cQ h0) fun v1 h1 =>
  rR r n x0 v1 h1
noncomputable abbrev c255 : Code := cf Tryz.f255
noncomputable abbrev aEy : Code := cR c255
noncomputable abbrev aHx : Code := cR aEy
noncomputable abbrev dKv : Code := cR aHx
noncomputable abbrev aIq : Code := cL aHx
noncomputable abbrev aOm : Code := cL aIq
noncomputable abbrev kE : Code := cL aOm
noncomputable abbrev aXg : Code := cR kE
noncomputable abbrev aPe : Code := cL aXg
noncomputable abbrev aLl : Code := cR aPe
noncomputable abbrev bCf : Code := cR aLl
noncomputable abbrev bIe : Code := cL aLl
noncomputable abbrev aEi : Code := cL aPe
noncomputable abbrev bBn : Code := cL kE
noncomputable abbrev aHl : Code := cL aEy
noncomputable abbrev aHs : Code := cL c255
noncomputable abbrev r255 : K := aR CF Tryz.f255
noncomputable def D255 (r : RT) (n : Nat) (c : Code) (X : Nat → K) (k : K) : K := aM CF r 48 n c X r255 k
theorem dCa : D255 r n dKv x0 r255 = (K3 (cN r n) 0 2 3) :=
 (by kernel_rfl)
theorem bUp (kk4 : dH) (q0 : dH) : D255 r n bCf (xs (xs x0 0 (K3 q0 0 2 3)) 1 (K3 kk4 0 2 3)) (K3 kk4 0 2 3) = fun (env : aV) (h : Hp) =>
 bnd (aB 5 (env 3) h) fun v1 h1 =>
 bnd (aA v1 h1) fun v2 h2 =>
 bnd (aH 6 (env 4) h2) fun v3 h3 =>
 bnd (aN cQ 1 [(0, 6, v3)] h3) fun v4 h4 =>
 bnd (aX 6 104 v2 v4 h4) fun v5 h5 =>
 bnd (aB 5 (env 3) h5) fun v6 h6 =>
 bnd (aD 1 v6 v5 h6) fun _ h7 =>
  kk4 (env 0) (env 2) (env 3) h7 := by kernel_rfl
theorem bMp (kk4 : dH) : (fun (env : aV) (h : Hp) =>
 bnd (aB 5 (env 3) h) fun v1 h1 =>
 bnd (aA v1 h1) fun v2 h2 =>
 bnd (aH 6 (env 4) h2) fun v3 h3 =>
 bnd (aN cQ 1 [(0, 6, v3)] h3) fun v4 h4 =>
 bnd (aX 6 104 v2 v4 h4) fun v5 h5 =>
 bnd (aB 5 (env 3) h5) fun v6 h6 =>
 bnd (aD 1 v6 v5 h6) fun _ h7 =>
  kk4 (env 0) (env 2) (env 3) h7) = (K4 (rK r n kk4) 0 2 3 4) := by kernel_rfl
theorem cXw (kk4 : dH) : D255 r n bCf (xs (xs x0 0 (K3 (cN r n) 0 2 3)) 1 (K3 kk4 0 2 3)) (K3 kk4 0 2 3) = (K4 (rK r n kk4) 0 2 3 4) :=
 (bUp r n kk4 (cN r n)).trans (bMp r n kk4)
theorem cBc (kk4 : dH) : D255 r n aLl (xs (xs x0 0 (K3 (cN r n) 0 2 3)) 1 (K3 kk4 0 2 3)) (K3 kk4 0 2 3) = D255 r n bIe (xs (xs x0 0 (K3 (cN r n) 0 2 3)) 1 (K3 kk4 0 2 3)) (K4 (rK r n kk4) 0 2 3 4) :=
 congrArg (fun k => D255 r n bIe (xs (xs x0 0 (K3 (cN r n) 0 2 3)) 1 (K3 kk4 0 2 3)) k) (cXw r n kk4)
theorem cRe (kk4 : dH) : D255 r n aLl (xs (xs x0 0 (K3 (cN r n) 0 2 3)) 1 (K3 kk4 0 2 3)) (K3 kk4 0 2 3) = (K5 (zW r n kk4) 0 2 3 4 5) :=
 (cBc r n kk4).trans
 ((by kernel_rfl))
theorem cJm (kk4 : dH) : D255 r n aPe (xs (xs x0 0 (K3 (cN r n) 0 2 3)) 1 (K3 kk4 0 2 3)) (K3 kk4 0 2 3) = D255 r n aEi (xs (xs x0 0 (K3 (cN r n) 0 2 3)) 1 (K3 kk4 0 2 3)) (K5 (zW r n kk4) 0 2 3 4 5) :=
 congrArg (fun k => D255 r n aEi (xs (xs x0 0 (K3 (cN r n) 0 2 3)) 1 (K3 kk4 0 2 3)) k) (cRe r n kk4)
theorem cLn (kk4 : dH) (q0 : cA) (q1 : dH) : D255 r n aEi (xs (xs x0 0 (K3 q1 0 2 3)) 1 (K3 kk4 0 2 3)) (K5 q0 0 2 3 4 5) = fun (env : aV) (h : Hp) =>
 bnd (r 253 [(env 0)] h) fun v1 h1 =>
 bnd (aG 0 v1 h1) fun v2 h2 =>
 bnd (aG 1 v1 h2) fun v3 h3 =>
 bnd (bA cQ h3) fun v4 h4 =>
 bnd (aD 6 v4 v2 h4) fun _ h5 =>
  q0 (env 0) (env 2) (env 3) v4 v3 h5 := by kernel_rfl
theorem bJo (kk4 : dH) : (fun (env : aV) (h : Hp) =>
 bnd (r 253 [(env 0)] h) fun v1 h1 =>
 bnd (aG 0 v1 h1) fun v2 h2 =>
 bnd (aG 1 v1 h2) fun v3 h3 =>
 bnd (bA cQ h3) fun v4 h4 =>
 bnd (aD 6 v4 v2 h4) fun _ h5 =>
  zW r n kk4 (env 0) (env 2) (env 3) v4 v3 h5) = (K3 (aHh r n kk4) 0 2 3) := by kernel_rfl
theorem dBk (kk4 : dH) : D255 r n aXg (xs x0 0 (K3 (cN r n) 0 2 3)) (K3 kk4 0 2 3) = (K3 (aHh r n kk4) 0 2 3) :=
 (by kernel_rfl : D255 r n aXg (xs x0 0 (K3 (cN r n) 0 2 3)) (K3 kk4 0 2 3) = D255 r n aPe (xs (xs x0 0 (K3 (cN r n) 0 2 3)) 1 (K3 kk4 0 2 3)) (K3 kk4 0 2 3)).trans
 ((cJm r n kk4).trans
 ((cLn r n kk4 (zW r n kk4) (cN r n)).trans (bJo r n kk4)))
theorem cBd (kk4 : dH) : D255 r n kE (xs x0 0 (K3 (cN r n) 0 2 3)) (K3 kk4 0 2 3) = D255 r n bBn (xs x0 0 (K3 (cN r n) 0 2 3)) (K3 (aHh r n kk4) 0 2 3) :=
 congrArg (fun k => D255 r n bBn (xs x0 0 (K3 (cN r n) 0 2 3)) k) (dBk r n kk4)
theorem cIb (kk4 : dH) : D255 r n kE (xs x0 0 (K3 (cN r n) 0 2 3)) (K3 kk4 0 2 3) = (K3 (bDu r n kk4) 0 2 3) :=
 (cBd r n kk4).trans
 ((by kernel_rfl))
theorem bXv (m : Nat) : aL (fun kk => D255 r n kE (xs x0 0 (K3 (cN r n) 0 2 3)) kk) m = (K3 (vU r n m) 0 2 3) := by
 induction m with
 | zero => exact (by kernel_rfl : aL (fun kk => D255 r n kE (xs x0 0 (K3 (cN r n) 0 2 3)) kk) 0 = (K3 (vU r n 0) 0 2 3))
 | succ m ih =>
  refine (by kernel_rfl : aL (fun kk => D255 r n kE (xs x0 0 (K3 (cN r n) 0 2 3)) kk) (m + 1) = D255 r n kE (xs x0 0 (K3 (cN r n) 0 2 3)) (aL (fun kk => D255 r n kE (xs x0 0 (K3 (cN r n) 0 2 3)) kk) m)).trans ?_
  rw [ih]
  exact (cIb r n (vU r n m)).trans (by kernel_rfl)
theorem dCs : D255 r n aOm (xs x0 0 (K3 (cN r n) 0 2 3)) (K3 (cN r n) 0 2 3) = (K3 (cMk r n) 0 2 3) :=
 (by kernel_rfl : D255 r n aOm (xs x0 0 (K3 (cN r n) 0 2 3)) (K3 (cN r n) 0 2 3) = aL (fun kk => D255 r n kE (xs x0 0 (K3 (cN r n) 0 2 3)) kk) n).trans ((bXv r n n).trans (by kernel_rfl))
theorem bZo : D255 r n aHx x0 r255 = D255 r n aIq x0 (K3 (cN r n) 0 2 3) :=
 congrArg (fun k => D255 r n aIq x0 k) (dCa r n)
theorem cWp : D255 r n aHx x0 r255 = (K3 (aAv r n) 0 2 3) :=
 (bZo r n).trans
 ((by kernel_rfl : D255 r n aIq x0 (K3 (cN r n) 0 2 3) = D255 r n aOm (xs x0 0 (K3 (cN r n) 0 2 3)) (K3 (cN r n) 0 2 3)).trans
 ((dCs r n).trans (by kernel_rfl)))
theorem bTk : D255 r n aEy x0 r255 = D255 r n aHl x0 (K3 (aAv r n) 0 2 3) :=
 congrArg (fun k => D255 r n aHl x0 k) (cWp r n)
theorem cCo (q0 : dH) : D255 r n aHl x0 (K3 q0 0 2 3) = fun (env : aV) (h : Hp) =>
 bnd (aT cQ [(0, 1, (aC 4))] h) fun v1 h1 =>
 bnd (bA cQ h1) fun v2 h2 =>
 bnd (aD 6 v2 v1 h2) fun _ h3 =>
  q0 (env 0) (env 2) v2 h3 := by kernel_rfl
theorem bKm : (fun (env : aV) (h : Hp) =>
 bnd (aT cQ [(0, 1, (aC 4))] h) fun v1 h1 =>
 bnd (bA cQ h1) fun v2 h2 =>
 bnd (aD 6 v2 v1 h2) fun _ h3 =>
  aAv r n (env 0) (env 2) v2 h3) = (K2 (rR r n) 0 2) := by kernel_rfl
theorem dAb : D255 r n aEy x0 r255 = (K2 (rR r n) 0 2) :=
 (bTk r n).trans
 ((cCo r n (aAv r n)).trans (bKm r n))
theorem dWc : D255 r n c255 x0 r255 = D255 r n aHs x0 (K2 (rR r n) 0 2) :=
 congrArg (fun k => D255 r n aHs x0 k) (dAb r n)
theorem dDr (q0 : eN) : D255 r n aHs x0 (K2 q0 0 2) = fun (env : aV) (h : Hp) =>
 bnd (bA cQ h) fun v1 h1 =>
  q0 (env 0) v1 h1 := by kernel_rfl
theorem cDl : (fun (env : aV) (h : Hp) =>
 bnd (bA cQ h) fun v1 h1 =>
  rR r n (env 0) v1 h1) = (K1 (s255 r n) 0) := by kernel_rfl
theorem dZr : D255 r n c255 x0 r255 = (K1 (s255 r n) 0) :=
 (dWc r n).trans
 ((dDr r n (rR r n)).trans (cDl r n))
theorem dOe : aE CF r n 255 args h = s255 r n (aP args 0) h :=
 (by kernel_rfl : aE CF r n 255 args h = D255 r n c255 x0 r255 (aJ args) h).trans ((congrFun (congrFun (dZr r n) (aJ args)) h).trans (by kernel_rfl))
noncomputable def s256 (r : RT) (n : Nat) (x0 : DV) (h0 : Hp) : aK :=
 bnd (bA cQ h0) fun v1 h1 =>
 bnd (r 181 [x0] h1) fun v2 h2 =>
 bnd (bA cQ h2) fun v3 h3 =>
 bnd (aD 6 v3 v2 h3) fun _ h4 =>
 bnd (r 156 [x0, (aC 10), (.s [41])] h4) fun v5 h5 =>
 bnd (aH 6 v3 h5) fun v6 h6 =>
 bnd (aD 6 v1 v6 h6) fun _ h7 =>
 bnd (aH 6 v1 h7) fun v8 _ =>
 some (v8, h7)
noncomputable abbrev c256 : Code := cf Tryz.f256
noncomputable abbrev r256 : K := aR CF Tryz.f256
noncomputable def D256 (r : RT) (n : Nat) (c : Code) (X : Nat → K) (k : K) : K := aM CF r 9 n c X r256 k
theorem eCe : D256 r n c256 x0 r256 = (K1 (s256 r n) 0) :=
 (by kernel_rfl)
theorem dKs : aE CF r n 256 args h = s256 r n (aP args 0) h :=
 (by kernel_rfl : aE CF r n 256 args h = D256 r n c256 x0 r256 (aJ args) h).trans ((congrFun (congrFun (eCe r n) (aJ args)) h).trans (by kernel_rfl))
noncomputable def aJg (r : RT) (n : Nat) (x0 x2 x3 : DV) (h0 : Hp) : aK :=
 bnd (r 154 [x0] h0) fun v1 h1 =>
 bnd (aB 4 x3 h1) fun v2 h2 =>
 bnd (aD 1 v2 v1 h2) fun _ h3 =>
 bnd (r 155 [x0] h3) fun v4 h4 =>
 bnd (aB 5 x3 h4) fun v5 h5 =>
 bnd (aD 1 v5 v4 h5) fun _ h6 =>
 bnd (r 156 [x0, (aC 10), (.s [93])] h6) fun v7 h7 =>
 bnd (aH 6 x3 h7) fun v8 h8 =>
 bnd (aD 6 x2 v8 h8) fun _ h9 =>
 bnd (aH 6 x2 h9) fun v10 _ =>
 some (v10, h9)
noncomputable def fC (r : RT) (n : Nat) (x0 x2 x3 : DV) (h0 : Hp) : aK :=
 bnd (aB 3 x3 h0) fun v1 h1 =>
 bnd (aA v1 h1) fun v2 h2 =>
 bnd (bK v2 h2) fun v3 h3 =>
 bnd (aF .gtr v3 (aC 0) h3) fun v4 h4 =>
 bnd (gD v4 true (some (x0, h4)) h4) fun v5 h5 =>
 bnd (gD v4 true (r 179 [v5, (aC 10), (.s [93])] h5) h5) fun v6 h6 =>
 bnd (gD v4 true (eO .not v6 h6) h6) fun v7 h7 =>
 bnd (aQ v4 v7 (.b false) h7) fun v8 h8 =>
 aU v8 (
 bnd (r 156 [x0, (aC 10), (.s [124])] h8) fun v9 h9 =>
  aJg r n x0 x2 x3 h9) (
  aJg r n x0 x2 x3 h8)
noncomputable def aHb (r : RT) (n : Nat) (kk5 : dH) (x0 x2 x3 : DV) (h0 : Hp) : aK :=
 bnd (r 179 [x0, (aC 8), (.s [])] h0) fun v1 h1 =>
 aU v1 (
 bnd (aB 3 x3 (resv 1 h1)) fun v2 h2 =>
 bnd (aA v2 h2) fun v3 h3 =>
 bnd (aB 3 x3 h3) fun v4 h4 =>
 bnd (aA v4 h4) fun v5 h5 =>
 bnd (r 184 [x0, (aC 8), v5] h5) fun v6 h6 =>
 cnd (aW (aA v2 h6) v3 && true) (
 bnd (aS (bD 0 h1.next) [(.s [])] 1 [(0, 1, v6)] h6) fun v7 h7 =>
 bnd (aX 1 16 v3 v7 h7) fun v8 h8 =>
 bnd (aB 3 x3 h8) fun v9 h9 =>
 bnd (aD 1 v9 v8 h9) fun v10 h10 =>
      kk5 x0 x2 x3 h10)) (
      fC r n x0 x2 x3 h1)
noncomputable def uO (r : RT) (n : Nat) (m : Nat) : dH :=
 Nat.rec (motive := fun _ => dH) (fun _ _ _ _ => none) (fun _ ih => aHb r n ih) m
noncomputable def bXc (r : RT) (n : Nat) : dH := uO r n n
noncomputable def aAg (r : RT) (n : Nat) (x0 x2 x3 : DV) (h0 : Hp) : aK :=
 bXc r n x0 x2 x3 h0
noncomputable def qU (r : RT) (n : Nat) (x0 x2 : DV) (h0 : Hp) : aK :=
 bnd (aT cQ [(0, 1, (aC 9))] h0) fun v1 h1 =>
 bnd (bA cQ h1) fun v2 h2 =>
 bnd (aD 6 v2 v1 h2) fun _ h3 =>
  aAg r n x0 x2 v2 h3
noncomputable def s257 (r : RT) (n : Nat) (x0 : DV) (h0 : Hp) : aK :=
 bnd (bA cQ h0) fun v1 h1 =>
  qU r n x0 v1 h1
noncomputable abbrev c257 : Code := cf Tryz.f257
noncomputable abbrev aDd : Code := cR c257
noncomputable abbrev aHt : Code := cR aDd
noncomputable abbrev aKx : Code := cR aHt
noncomputable abbrev dPo : Code := cR aKx
noncomputable abbrev cEq : Code := cL aKx
noncomputable abbrev aIz : Code := cL aHt
noncomputable abbrev aOb : Code := cL aIz
noncomputable abbrev mM : Code := cL aOb
noncomputable abbrev aXi : Code := cL aDd
noncomputable abbrev aOg : Code := cL c257
noncomputable abbrev r257 : K := aR CF Tryz.f257
noncomputable def D257 (r : RT) (n : Nat) (c : Code) (X : Nat → K) (k : K) : K := aM CF r 36 n c X r257 k
theorem cYv : D257 r n dPo x0 r257 = (K3 (aJg r n) 0 2 3) :=
 (by kernel_rfl)
theorem bYd : D257 r n aKx x0 r257 = D257 r n cEq x0 (K3 (aJg r n) 0 2 3) :=
 congrArg (fun k => D257 r n cEq x0 k) (cYv r n)
theorem cPx : D257 r n aKx x0 r257 = (K3 (fC r n) 0 2 3) :=
 (bYd r n).trans
 ((by kernel_rfl))
theorem bZd (kk5 : dH) (q0 : dH) : D257 r n mM (xs x0 0 (K3 q0 0 2 3)) (K3 kk5 0 2 3) = fun (env : aV) (h : Hp) =>
 bnd (r 179 [(env 0), (aC 8), (.s [])] h) fun v1 h1 =>
 aU v1 (
 bnd (aB 3 (env 3) (resv 1 h1)) fun v2 h2 =>
 bnd (aA v2 h2) fun v3 h3 =>
 bnd (aB 3 (env 3) h3) fun v4 h4 =>
 bnd (aA v4 h4) fun v5 h5 =>
 bnd (r 184 [(env 0), (aC 8), v5] h5) fun v6 h6 =>
 cnd (aW (aA v2 h6) v3 && true) (
 bnd (aS (bD 0 h1.next) [(.s [])] 1 [(0, 1, v6)] h6) fun v7 h7 =>
 bnd (aX 1 16 v3 v7 h7) fun v8 h8 =>
 bnd (aB 3 (env 3) h8) fun v9 h9 =>
 bnd (aD 1 v9 v8 h9) fun v10 h10 =>
      kk5 (env 0) (env 2) (env 3) h10)) (
      q0 (env 0) (env 2) (env 3) h1) := by kernel_rfl
theorem bMm (kk5 : dH) : (fun (env : aV) (h : Hp) =>
 bnd (r 179 [(env 0), (aC 8), (.s [])] h) fun v1 h1 =>
 aU v1 (
 bnd (aB 3 (env 3) (resv 1 h1)) fun v2 h2 =>
 bnd (aA v2 h2) fun v3 h3 =>
 bnd (aB 3 (env 3) h3) fun v4 h4 =>
 bnd (aA v4 h4) fun v5 h5 =>
 bnd (r 184 [(env 0), (aC 8), v5] h5) fun v6 h6 =>
 cnd (aW (aA v2 h6) v3 && true) (
 bnd (aS (bD 0 h1.next) [(.s [])] 1 [(0, 1, v6)] h6) fun v7 h7 =>
 bnd (aX 1 16 v3 v7 h7) fun v8 h8 =>
 bnd (aB 3 (env 3) h8) fun v9 h9 =>
 bnd (aD 1 v9 v8 h9) fun v10 h10 =>
      kk5 (env 0) (env 2) (env 3) h10)) (
      fC r n (env 0) (env 2) (env 3) h1)) = (K3 (aHb r n kk5) 0 2 3) := by kernel_rfl
theorem cHu (kk5 : dH) : D257 r n mM (xs x0 0 (K3 (fC r n) 0 2 3)) (K3 kk5 0 2 3) = (K3 (aHb r n kk5) 0 2 3) :=
 (bZd r n kk5 (fC r n)).trans (bMm r n kk5)
theorem cGs (m : Nat) : aL (fun kk => D257 r n mM (xs x0 0 (K3 (fC r n) 0 2 3)) kk) m = (K3 (uO r n m) 0 2 3) := by
 induction m with
 | zero => exact (by kernel_rfl : aL (fun kk => D257 r n mM (xs x0 0 (K3 (fC r n) 0 2 3)) kk) 0 = (K3 (uO r n 0) 0 2 3))
 | succ m ih =>
  refine (by kernel_rfl : aL (fun kk => D257 r n mM (xs x0 0 (K3 (fC r n) 0 2 3)) kk) (m + 1) = D257 r n mM (xs x0 0 (K3 (fC r n) 0 2 3)) (aL (fun kk => D257 r n mM (xs x0 0 (K3 (fC r n) 0 2 3)) kk) m)).trans ?_
  rw [ih]
  exact (cHu r n (uO r n m)).trans (by kernel_rfl)
theorem cWi : D257 r n aOb (xs x0 0 (K3 (fC r n) 0 2 3)) (K3 (fC r n) 0 2 3) = (K3 (bXc r n) 0 2 3) :=
 (by kernel_rfl : D257 r n aOb (xs x0 0 (K3 (fC r n) 0 2 3)) (K3 (fC r n) 0 2 3) = aL (fun kk => D257 r n mM (xs x0 0 (K3 (fC r n) 0 2 3)) kk) n).trans ((cGs r n n).trans (by kernel_rfl))
theorem cEs : D257 r n aHt x0 r257 = D257 r n aIz x0 (K3 (fC r n) 0 2 3) :=
 congrArg (fun k => D257 r n aIz x0 k) (cPx r n)
theorem cVr : D257 r n aHt x0 r257 = (K3 (aAg r n) 0 2 3) :=
 (cEs r n).trans
 ((by kernel_rfl : D257 r n aIz x0 (K3 (fC r n) 0 2 3) = D257 r n aOb (xs x0 0 (K3 (fC r n) 0 2 3)) (K3 (fC r n) 0 2 3)).trans
 ((cWi r n).trans (by kernel_rfl)))
theorem cJp : D257 r n aDd x0 r257 = D257 r n aXi x0 (K3 (aAg r n) 0 2 3) :=
 congrArg (fun k => D257 r n aXi x0 k) (cVr r n)
theorem cJy (q0 : dH) : D257 r n aXi x0 (K3 q0 0 2 3) = fun (env : aV) (h : Hp) =>
 bnd (aT cQ [(0, 1, (aC 9))] h) fun v1 h1 =>
 bnd (bA cQ h1) fun v2 h2 =>
 bnd (aD 6 v2 v1 h2) fun _ h3 =>
  q0 (env 0) (env 2) v2 h3 := by kernel_rfl
theorem bOk : (fun (env : aV) (h : Hp) =>
 bnd (aT cQ [(0, 1, (aC 9))] h) fun v1 h1 =>
 bnd (bA cQ h1) fun v2 h2 =>
 bnd (aD 6 v2 v1 h2) fun _ h3 =>
  aAg r n (env 0) (env 2) v2 h3) = (K2 (qU r n) 0 2) := by kernel_rfl
theorem cNy : D257 r n aDd x0 r257 = (K2 (qU r n) 0 2) :=
 (cJp r n).trans
 ((cJy r n (aAg r n)).trans (bOk r n))
theorem dTv : D257 r n c257 x0 r257 = D257 r n aOg x0 (K2 (qU r n) 0 2) :=
 congrArg (fun k => D257 r n aOg x0 k) (cNy r n)
theorem dPw (q0 : eN) : D257 r n aOg x0 (K2 q0 0 2) = fun (env : aV) (h : Hp) =>
 bnd (bA cQ h) fun v1 h1 =>
  q0 (env 0) v1 h1 := by kernel_rfl
theorem dBb : (fun (env : aV) (h : Hp) =>
 bnd (bA cQ h) fun v1 h1 =>
  qU r n (env 0) v1 h1) = (K1 (s257 r n) 0) := by kernel_rfl
theorem eAh : D257 r n c257 x0 r257 = (K1 (s257 r n) 0) :=
 (dTv r n).trans
 ((dPw r n (qU r n)).trans (dBb r n))
theorem dPe : aE CF r n 257 args h = s257 r n (aP args 0) h :=
 (by kernel_rfl : aE CF r n 257 args h = D257 r n c257 x0 r257 (aJ args) h).trans ((congrFun (congrFun (eAh r n) (aJ args)) h).trans (by kernel_rfl))
noncomputable def s258 (r : RT) (n : Nat) (x0 : DV) (h0 : Hp) : aK :=
 bnd (qR (.slice 145) true x0 .l0 h0) fun v1 h1 =>
 aU v1 (
 some (.l0, h1)) (
 bnd (aN [] 0 [] h1) fun v2 h2 =>
 bnd (aX 6 104 v2 x0 h2) fun v3 h3 =>
 some (v3, h3))
noncomputable abbrev c258 : Code := cf Tryz.f258
noncomputable abbrev r258 : K := aR CF Tryz.f258
noncomputable def D258 (r : RT) (n : Nat) (c : Code) (X : Nat → K) (k : K) : K := aM CF r 8 n c X r258 k
theorem eHc : D258 r n c258 x0 r258 = (K1 (s258 r n) 0) :=
 (by kernel_rfl)
theorem dXi : aE CF r n 258 args h = s258 r n (aP args 0) h :=
 (by kernel_rfl : aE CF r n 258 args h = D258 r n c258 x0 r258 (aJ args) h).trans ((congrFun (congrFun (eHc r n) (aJ args)) h).trans (by kernel_rfl))
noncomputable def eA (r : RT) (n : Nat) (h0 : Hp) : aK :=
 some ((.b true), h0)
noncomputable def aGw (r : RT) (n : Nat) (kk5 : cA) (x1 x2 x15 x16 x17 : DV) (h0 : Hp) : aK :=
 bnd (aF .lss x17 x16 h0) fun v1 h1 =>
 aU v1 (
 bnd (aI 4 x15 x17 h1) fun v2 h2 =>
 bnd (aH 4 v2 h2) fun v3 h3 =>
 bnd (bA [(aC 0), (.s []), (aC 0), .l0] h3) fun v4 h4 =>
 bnd (aD 4 v4 v3 h4) fun _ h5 =>
 bnd (aI 4 x1 x17 h5) fun v6 h6 =>
 bnd (aH 4 v6 h6) fun v7 h7 =>
 bnd (bA [(aC 0), (.s []), (aC 0), .l0] h7) fun v8 h8 =>
 bnd (aD 4 v8 v7 h8) fun _ h9 =>
 bnd (aH 4 v4 h9) fun v10 h10 =>
 bnd (aH 4 v8 h10) fun v11 h11 =>
 bnd (cK CF r x2 [v10, v11] h11) fun v12 h12 =>
 bnd (eO .not v12 h12) fun v13 h13 =>
 aU v13 (
 some ((.b false), h13)) (
 bnd (aF .add x17 (aC 1) h13) fun v14 h14 =>
    kk5 x1 x2 x15 x16 v14 h14)) (
      eA r n h1)
noncomputable def tX (r : RT) (n : Nat) (m : Nat) : cA :=
 Nat.rec (motive := fun _ => cA) (fun _ _ _ _ _ _ => none) (fun _ ih => aGw r n ih) m
noncomputable def bPh (r : RT) (n : Nat) : cA := tX r n n
noncomputable def aWd (r : RT) (n : Nat) (x1 x2 x15 x16 x17 : DV) (h0 : Hp) : aK :=
 bPh r n x1 x2 x15 x16 x17 h0
noncomputable def aSo (r : RT) (n : Nat) (x0 x1 x2 : DV) (h0 : Hp) : aK :=
 bnd (bK x0 h0) fun v1 h1 =>
  aWd r n x1 x2 x0 v1 (aC 0) h1
noncomputable def aUb (r : RT) (n : Nat) (x0 x1 x2 : DV) (h0 : Hp) : aK :=
 bnd (bK x0 h0) fun v1 h1 =>
 bnd (bK x1 h1) fun v2 h2 =>
 bnd (aF .neq v1 v2 h2) fun v3 h3 =>
 aU v3 (
 some ((.b false), h3)) (
  aSo r n x0 x1 x2 h3)
noncomputable def s259 (r : RT) (n : Nat) (x0 x1 x2 : DV) (h0 : Hp) : aK :=
 aUb r n x0 x1 x2 h0
noncomputable abbrev c259 : Code := cf Tryz.f259
noncomputable abbrev aKm : Code := cR c259
noncomputable abbrev aOj : Code := cR aKm
noncomputable abbrev dIq : Code := cR aOj
noncomputable abbrev xD : Code := cL aOj
noncomputable abbrev aXx : Code := cR xD
noncomputable abbrev aLv : Code := cL aXx
noncomputable abbrev mE : Code := cL aLv
noncomputable abbrev cIw : Code := cL xD
noncomputable abbrev bYw : Code := cL aKm
noncomputable abbrev bJj : Code := cL c259
noncomputable abbrev r259 : K := aR CF Tryz.f259
noncomputable def D259 (r : RT) (n : Nat) (c : Code) (X : Nat → K) (k : K) : K := aM CF r 32 n c X r259 k
theorem cZs : D259 r n dIq x0 r259 = (K0 (eA r n)) :=
 (by kernel_rfl)
theorem cNi (kk5 : cA) (q0 : Hp → aK) : D259 r n mE (xs x0 0 (K0 q0)) (K5 kk5 1 2 15 16 17) = fun (env : aV) (h : Hp) =>
 bnd (aF .lss (env 17) (env 16) h) fun v1 h1 =>
 aU v1 (
 bnd (aI 4 (env 15) (env 17) h1) fun v2 h2 =>
 bnd (aH 4 v2 h2) fun v3 h3 =>
 bnd (bA [(aC 0), (.s []), (aC 0), .l0] h3) fun v4 h4 =>
 bnd (aD 4 v4 v3 h4) fun _ h5 =>
 bnd (aI 4 (env 1) (env 17) h5) fun v6 h6 =>
 bnd (aH 4 v6 h6) fun v7 h7 =>
 bnd (bA [(aC 0), (.s []), (aC 0), .l0] h7) fun v8 h8 =>
 bnd (aD 4 v8 v7 h8) fun _ h9 =>
 bnd (aH 4 v4 h9) fun v10 h10 =>
 bnd (aH 4 v8 h10) fun v11 h11 =>
 bnd (cK CF r (env 2) [v10, v11] h11) fun v12 h12 =>
 bnd (eO .not v12 h12) fun v13 h13 =>
 aU v13 (
 some ((.b false), h13)) (
 bnd (aF .add (env 17) (aC 1) h13) fun v14 h14 =>
    kk5 (env 1) (env 2) (env 15) (env 16) v14 h14)) (
      q0 h1) := by kernel_rfl
theorem bNm (kk5 : cA) : (fun (env : aV) (h : Hp) =>
 bnd (aF .lss (env 17) (env 16) h) fun v1 h1 =>
 aU v1 (
 bnd (aI 4 (env 15) (env 17) h1) fun v2 h2 =>
 bnd (aH 4 v2 h2) fun v3 h3 =>
 bnd (bA [(aC 0), (.s []), (aC 0), .l0] h3) fun v4 h4 =>
 bnd (aD 4 v4 v3 h4) fun _ h5 =>
 bnd (aI 4 (env 1) (env 17) h5) fun v6 h6 =>
 bnd (aH 4 v6 h6) fun v7 h7 =>
 bnd (bA [(aC 0), (.s []), (aC 0), .l0] h7) fun v8 h8 =>
 bnd (aD 4 v8 v7 h8) fun _ h9 =>
 bnd (aH 4 v4 h9) fun v10 h10 =>
 bnd (aH 4 v8 h10) fun v11 h11 =>
 bnd (cK CF r (env 2) [v10, v11] h11) fun v12 h12 =>
 bnd (eO .not v12 h12) fun v13 h13 =>
 aU v13 (
 some ((.b false), h13)) (
 bnd (aF .add (env 17) (aC 1) h13) fun v14 h14 =>
    kk5 (env 1) (env 2) (env 15) (env 16) v14 h14)) (
      eA r n h1)) = (K5 (aGw r n kk5) 1 2 15 16 17) := by kernel_rfl
theorem bXl (kk5 : cA) : D259 r n mE (xs x0 0 (K0 (eA r n))) (K5 kk5 1 2 15 16 17) = (K5 (aGw r n kk5) 1 2 15 16 17) :=
 (cNi r n kk5 (eA r n)).trans (bNm r n kk5)
theorem cJe (m : Nat) : aL (fun kk => D259 r n mE (xs x0 0 (K0 (eA r n))) kk) m = (K5 (tX r n m) 1 2 15 16 17) := by
 induction m with
 | zero => exact (by kernel_rfl : aL (fun kk => D259 r n mE (xs x0 0 (K0 (eA r n))) kk) 0 = (K5 (tX r n 0) 1 2 15 16 17))
 | succ m ih =>
  refine (by kernel_rfl : aL (fun kk => D259 r n mE (xs x0 0 (K0 (eA r n))) kk) (m + 1) = D259 r n mE (xs x0 0 (K0 (eA r n))) (aL (fun kk => D259 r n mE (xs x0 0 (K0 (eA r n))) kk) m)).trans ?_
  rw [ih]
  exact (bXl r n (tX r n m)).trans (by kernel_rfl)
theorem cWu : D259 r n aLv (xs x0 0 (K0 (eA r n))) (K0 (eA r n)) = (K5 (bPh r n) 1 2 15 16 17) :=
 (by kernel_rfl : D259 r n aLv (xs x0 0 (K0 (eA r n))) (K0 (eA r n)) = aL (fun kk => D259 r n mE (xs x0 0 (K0 (eA r n))) kk) n).trans ((cJe r n n).trans (by kernel_rfl))
theorem dCw : D259 r n aXx x0 (K0 (eA r n)) = (K5 (aWd r n) 1 2 15 16 17) :=
 (by kernel_rfl : D259 r n aXx x0 (K0 (eA r n)) = D259 r n aLv (xs x0 0 (K0 (eA r n))) (K0 (eA r n))).trans
 ((cWu r n).trans (by kernel_rfl))
theorem bTx : D259 r n aOj x0 r259 = D259 r n xD x0 (K0 (eA r n)) :=
 congrArg (fun k => D259 r n xD x0 k) (cZs r n)
theorem cJo : D259 r n xD x0 (K0 (eA r n)) = D259 r n cIw x0 (K5 (aWd r n) 1 2 15 16 17) :=
 congrArg (fun k => D259 r n cIw x0 k) (dCw r n)
theorem cWn : D259 r n aOj x0 r259 = (K3 (aSo r n) 0 1 2) :=
 (bTx r n).trans
 ((cJo r n).trans
 ((by kernel_rfl)))
theorem bPd : D259 r n aKm x0 r259 = D259 r n bYw x0 (K3 (aSo r n) 0 1 2) :=
 congrArg (fun k => D259 r n bYw x0 k) (cWn r n)
theorem cYe : D259 r n aKm x0 r259 = (K3 (aUb r n) 0 1 2) :=
 (bPd r n).trans
 ((by kernel_rfl))
theorem dOp : D259 r n c259 x0 r259 = D259 r n bJj x0 (K3 (aUb r n) 0 1 2) :=
 congrArg (fun k => D259 r n bJj x0 k) (cYe r n)
theorem dYu : D259 r n c259 x0 r259 = (K3 (s259 r n) 0 1 2) :=
 (dOp r n).trans
 ((by kernel_rfl))
theorem dTg : aE CF r n 259 args h = s259 r n (aP args 0) (aP args 1) (aP args 2) h :=
 (by kernel_rfl : aE CF r n 259 args h = D259 r n c259 x0 r259 (aJ args) h).trans ((congrFun (congrFun (dYu r n) (aJ args)) h).trans (by kernel_rfl))
noncomputable def s260 (r : RT) (n : Nat) (h0 : Hp) : aK :=
 some (.t [], h0)
noncomputable abbrev c260 : Code := cf Tryz.f260
noncomputable abbrev r260 : K := aR CF Tryz.f260
noncomputable def D260 (r : RT) (n : Nat) (c : Code) (X : Nat → K) (k : K) : K := aM CF r 0 n c X r260 k
theorem eIu : D260 r n c260 x0 r260 = (K0 (s260 r n)) :=
 (by kernel_rfl)
theorem dPb : aE CF r n 260 args h = s260 r n h :=
 (by kernel_rfl : aE CF r n 260 args h = D260 r n c260 x0 r260 (aJ args) h).trans ((congrFun (congrFun (eIu r n) (aJ args)) h).trans (by kernel_rfl))
noncomputable def s261 (r : RT) (n : Nat) (h0 : Hp) : aK :=
 some (.t [], h0)
noncomputable abbrev c261 : Code := cf Tryz.f261
noncomputable abbrev r261 : K := aR CF Tryz.f261
noncomputable def D261 (r : RT) (n : Nat) (c : Code) (X : Nat → K) (k : K) : K := aM CF r 0 n c X r261 k
theorem dZv : D261 r n c261 x0 r261 = (K0 (s261 r n)) :=
 (by kernel_rfl)
theorem dVg : aE CF r n 261 args h = s261 r n h :=
 (by kernel_rfl : aE CF r n 261 args h = D261 r n c261 x0 r261 (aJ args) h).trans ((congrFun (congrFun (dZv r n) (aJ args)) h).trans (by kernel_rfl))
noncomputable def s262 (r : RT) (n : Nat) (x0 x1 x2 : DV) (h0 : Hp) : aK :=
 bnd (bM x0 h0) fun v1 h1 =>
 some ((.f 263 [] [x1, x2, v1]), h1)
noncomputable abbrev c262 : Code := cf Tryz.f262
noncomputable abbrev r262 : K := aR CF Tryz.f262
noncomputable def D262 (r : RT) (n : Nat) (c : Code) (X : Nat → K) (k : K) : K := aM CF r 6 n c X r262 k
theorem eGo : D262 r n c262 x0 r262 = (K3 (s262 r n) 0 1 2) :=
 (by kernel_rfl)
theorem dTc : aE CF r n 262 args h = s262 r n (aP args 0) (aP args 1) (aP args 2) h :=
 (by kernel_rfl : aE CF r n 262 args h = D262 r n c262 x0 r262 (aJ args) h).trans ((congrFun (congrFun (eGo r n) (aJ args)) h).trans (by kernel_rfl))
noncomputable def s263 (r : RT) (n : Nat) (x0 x1 x2 : DV) (h0 : Hp) : aK :=
 bnd (aA x0 h0) fun v1 h1 =>
 bnd (aB 5 x1 h1) fun v2 h2 =>
 bnd (aA v2 h2) fun v3 h3 =>
 bnd (aA x2 h3) fun v4 h4 =>
 bnd (aI 6 v3 v4 h4) fun v5 h5 =>
 bnd (aH 6 v5 h5) fun v6 h6 =>
 bnd (r 221 [v1, v6] h6) fun v7 h7 =>
 some (.t [], h7)
noncomputable abbrev c263 : Code := cf Tryz.f263
noncomputable abbrev r263 : K := aR CF Tryz.f263
noncomputable def D263 (r : RT) (n : Nat) (c : Code) (X : Nat → K) (k : K) : K := aM CF r 10 n c X r263 k
theorem eGu : D263 r n c263 x0 r263 = (K3 (s263 r n) 0 1 2) :=
 (by kernel_rfl)
theorem dKa : aE CF r n 263 args h = s263 r n (aP args 0) (aP args 1) (aP args 2) h :=
 (by kernel_rfl : aE CF r n 263 args h = D263 r n c263 x0 r263 (aJ args) h).trans ((congrFun (congrFun (eGu r n) (aJ args)) h).trans (by kernel_rfl))
noncomputable def s264 (r : RT) (n : Nat) (x0 x1 : DV) (h0 : Hp) : aK :=
 bnd (bM x0 h0) fun v1 h1 =>
 some ((.f 265 [] [x1, v1]), h1)
noncomputable abbrev c264 : Code := cf Tryz.f264
noncomputable abbrev r264 : K := aR CF Tryz.f264
noncomputable def D264 (r : RT) (n : Nat) (c : Code) (X : Nat → K) (k : K) : K := aM CF r 5 n c X r264 k
theorem eHl : D264 r n c264 x0 r264 = (K2 (s264 r n) 0 1) :=
 (by kernel_rfl)
theorem dWj : aE CF r n 264 args h = s264 r n (aP args 0) (aP args 1) h :=
 (by kernel_rfl : aE CF r n 264 args h = D264 r n c264 x0 r264 (aJ args) h).trans ((congrFun (congrFun (eHl r n) (aJ args)) h).trans (by kernel_rfl))
noncomputable def s265 (r : RT) (n : Nat) (x0 x1 : DV) (h0 : Hp) : aK :=
 bnd (aA x0 h0) fun v1 h1 =>
 bnd (aA x1 h1) fun v2 h2 =>
 bnd (r 187 [v1, v2, (aC 0), (aC 0)] h2) fun v3 h3 =>
 some (.t [], h3)
noncomputable abbrev c265 : Code := cf Tryz.f265
noncomputable abbrev r265 : K := aR CF Tryz.f265
noncomputable def D265 (r : RT) (n : Nat) (c : Code) (X : Nat → K) (k : K) : K := aM CF r 5 n c X r265 k
theorem eCd : D265 r n c265 x0 r265 = (K2 (s265 r n) 0 1) :=
 (by kernel_rfl)
theorem dLm : aE CF r n 265 args h = s265 r n (aP args 0) (aP args 1) h :=
 (by kernel_rfl : aE CF r n 265 args h = D265 r n c265 x0 r265 (aJ args) h).trans ((congrFun (congrFun (eCd r n) (aJ args)) h).trans (by kernel_rfl))
noncomputable def s266 (r : RT) (n : Nat) (x0 x1 : DV) (h0 : Hp) : aK :=
 bnd (r 271 [x0, x1] h0) fun v1 h1 =>
 bnd (aF .geq v1 (aC 0) h1) fun v2 h2 =>
 some (v2, h2)
noncomputable abbrev c266 : Code := cf Tryz.f266
noncomputable abbrev r266 : K := aR CF Tryz.f266
noncomputable def D266 (r : RT) (n : Nat) (c : Code) (X : Nat → K) (k : K) : K := aM CF r 9 n c X r266 k
theorem eIh : D266 r n c266 x0 r266 = (K2 (s266 r n) 0 1) :=
 (by kernel_rfl)
theorem dOd : aE CF r n 266 args h = s266 r n (aP args 0) (aP args 1) h :=
 (by kernel_rfl : aE CF r n 266 args h = D266 r n c266 x0 r266 (aJ args) h).trans ((congrFun (congrFun (eIh r n) (aJ args)) h).trans (by kernel_rfl))
noncomputable def s267 (r : RT) (n : Nat) (x0 : DV) (h0 : Hp) : aK :=
 bnd (bM x0 h0) fun v1 h1 =>
 bnd (aH 6 v1 h1) fun v2 h2 =>
 bnd (r 268 [v2] h2) fun v3 h3 =>
 bnd (eO .not v3 h3) fun v4 h4 =>
 some (v4, h4)
noncomputable abbrev c267 : Code := cf Tryz.f267
noncomputable abbrev r267 : K := aR CF Tryz.f267
noncomputable def D267 (r : RT) (n : Nat) (c : Code) (X : Nat → K) (k : K) : K := aM CF r 6 n c X r267 k
theorem eGp : D267 r n c267 x0 r267 = (K1 (s267 r n) 0) :=
 (by kernel_rfl)
theorem dSx : aE CF r n 267 args h = s267 r n (aP args 0) h :=
 (by kernel_rfl : aE CF r n 267 args h = D267 r n c267 x0 r267 (aJ args) h).trans ((congrFun (congrFun (eGp r n) (aJ args)) h).trans (by kernel_rfl))
noncomputable def s268 (r : RT) (n : Nat) (x0 : DV) (h0 : Hp) : aK :=
 bnd (bM x0 h0) fun v1 h1 =>
 bnd (aB 0 v1 h1) fun v2 h2 =>
 bnd (aA v2 h2) fun v3 h3 =>
 bnd (aF .eql v3 (aC 9) h3) fun v4 h4 =>
 bnd (gD v4 true (aB 3 v1 h4) h4) fun v5 h5 =>
 bnd (gD v4 true (aA v5 h5) h5) fun v6 h6 =>
 bnd (gD v4 true (bK v6 h6) h6) fun v7 h7 =>
 bnd (gD v4 true (aF .eql v7 (aC 0) h7) h7) fun v8 h8 =>
 bnd (aQ v4 v8 (.b false) h8) fun v9 h9 =>
 some (v9, h9)
noncomputable abbrev c268 : Code := cf Tryz.f268
noncomputable abbrev r268 : K := aR CF Tryz.f268
noncomputable def D268 (r : RT) (n : Nat) (c : Code) (X : Nat → K) (k : K) : K := aM CF r 12 n c X r268 k
theorem eFl : D268 r n c268 x0 r268 = (K1 (s268 r n) 0) :=
 (by kernel_rfl)
theorem dIs : aE CF r n 268 args h = s268 r n (aP args 0) h :=
 (by kernel_rfl : aE CF r n 268 args h = D268 r n c268 x0 r268 (aJ args) h).trans ((congrFun (congrFun (eFl r n) (aJ args)) h).trans (by kernel_rfl))
noncomputable def s269 (r : RT) (n : Nat) (x0 : DV) (h0 : Hp) : aK :=
 bnd (bM x0 h0) fun v1 h1 =>
 bnd (aB 0 v1 h1) fun v2 h2 =>
 bnd (aA v2 h2) fun v3 h3 =>
 bnd (aF .eql v3 (aC 5) h3) fun v4 h4 =>
 bnd (gD v4 true (aB 1 v1 h4) h4) fun v5 h5 =>
 bnd (gD v4 true (aA v5 h5) h5) fun v6 h6 =>
 bnd (gD v4 true (eG .eql v6 (.s [115, 117, 112, 101, 114]) h6) h6) fun v7 h7 =>
 bnd (aQ v4 v7 (.b false) h7) fun v8 h8 =>
 some (v8, h8)
noncomputable abbrev c269 : Code := cf Tryz.f269
noncomputable abbrev r269 : K := aR CF Tryz.f269
noncomputable def D269 (r : RT) (n : Nat) (c : Code) (X : Nat → K) (k : K) : K := aM CF r 11 n c X r269 k
theorem eFh : D269 r n c269 x0 r269 = (K1 (s269 r n) 0) :=
 (by kernel_rfl)
theorem dPm : aE CF r n 269 args h = s269 r n (aP args 0) h :=
 (by kernel_rfl : aE CF r n 269 args h = D269 r n c269 x0 r269 (aJ args) h).trans ((congrFun (congrFun (eFh r n) (aJ args)) h).trans (by kernel_rfl))
noncomputable def s270 (r : RT) (n : Nat) (x0 : DV) (h0 : Hp) : aK :=
 bnd (r 183 [x0, (aC 1)] h0) fun v1 h1 =>
 bnd (bA [(aC 0), (.s []), (aC 0), (aC 0)] h1) fun v2 h2 =>
 bnd (aD 4 v2 v1 h2) fun _ h3 =>
 bnd (r 179 [x0, (aC 3), (.s [45])] h3) fun v4 h4 =>
 bnd (gD v4 true (aB 0 v2 h4) h4) fun v5 h5 =>
 bnd (gD v4 true (aA v5 h5) h5) fun v6 h6 =>
 bnd (gD v4 true (aF .eql v6 (aC 4) h6) h6) fun v7 h7 =>
 bnd (aQ v4 v7 (.b false) h7) fun v8 h8 =>
 bnd (gD v8 true (aB 3 v2 h8) h8) fun v9 h9 =>
 bnd (gD v8 true (aA v9 h9) h9) fun v10 h10 =>
 bnd (gD v8 true (some (x0, h10)) h10) fun v11 h11 =>
 bnd (gD v8 true (r 183 [v11, (aC 0)] h11) h11) fun v12 h12 =>
 cnd (aW (gD v8 true (aA v9 h12) h12) v10 && true) (
 bnd (gD v8 true (dD 3 v12 h12) h12) fun v13 h13 =>
 bnd (gD v8 true (aF .add v13 (aC 1) h13) h13) fun v14 h14 =>
 bnd (gD v8 true (aF .eql v10 v14 h14) h14) fun v15 h15 =>
 bnd (aQ v8 v15 (.b false) h15) fun v16 h16 =>
 some (v16, h16))
noncomputable abbrev c270 : Code := cf Tryz.f270
noncomputable abbrev r270 : K := aR CF Tryz.f270
noncomputable def D270 (r : RT) (n : Nat) (c : Code) (X : Nat → K) (k : K) : K := aM CF r 22 n c X r270 k
theorem dYk : D270 r n c270 x0 r270 = (K1 (s270 r n) 0) :=
 (by kernel_rfl)
theorem dSr : aE CF r n 270 args h = s270 r n (aP args 0) h :=
 (by kernel_rfl : aE CF r n 270 args h = D270 r n c270 x0 r270 (aJ args) h).trans ((congrFun (congrFun (dYk r n) (aJ args)) h).trans (by kernel_rfl))
noncomputable def fF (r : RT) (n : Nat) (h0 : Hp) : aK :=
 some ((.i .i64 (Int.negSucc 0)), h0)
noncomputable def bGb (r : RT) (n : Nat) (kk4 : dB) (x0 x1 x7 x8 : DV) (h0 : Hp) : aK :=
 bnd (aF .lss x8 x7 h0) fun v1 h1 =>
 aU v1 (
 bnd (aI 6 x0 x8 h1) fun v2 h2 =>
 bnd (aH 6 v2 h2) fun v3 h3 =>
 bnd (cK CF r x1 [v3] h3) fun v4 h4 =>
 aU v4 (
 some (x8, h4)) (
 bnd (aF .add x8 (aC 1) h4) fun v5 h5 =>
    kk4 x0 x1 x7 v5 h5)) (
      fF r n h1)
noncomputable def tO (r : RT) (n : Nat) (m : Nat) : dB :=
 Nat.rec (motive := fun _ => dB) (fun _ _ _ _ _ => none) (fun _ ih => bGb r n ih) m
noncomputable def bYo (r : RT) (n : Nat) : dB := tO r n n
noncomputable def aYh (r : RT) (n : Nat) (x0 x1 x7 x8 : DV) (h0 : Hp) : aK :=
 bYo r n x0 x1 x7 x8 h0
noncomputable def aYo (r : RT) (n : Nat) (x0 x1 : DV) (h0 : Hp) : aK :=
 bnd (bK x0 h0) fun v1 h1 =>
  aYh r n x0 x1 v1 (aC 0) h1
noncomputable def s271 (r : RT) (n : Nat) (x0 x1 : DV) (h0 : Hp) : aK :=
 aYo r n x0 x1 h0
noncomputable abbrev c271 : Code := cf Tryz.f271
noncomputable abbrev aFe : Code := cR c271
noncomputable abbrev dUv : Code := cR aFe
noncomputable abbrev xW : Code := cL aFe
noncomputable abbrev aVn : Code := cR xW
noncomputable abbrev aKg : Code := cL aVn
noncomputable abbrev oQ : Code := cL aKg
noncomputable abbrev cLg : Code := cL xW
noncomputable abbrev cHb : Code := cL c271
noncomputable abbrev r271 : K := aR CF Tryz.f271
noncomputable def D271 (r : RT) (n : Nat) (c : Code) (X : Nat → K) (k : K) : K := aM CF r 19 n c X r271 k
theorem cUc : D271 r n dUv x0 r271 = (K0 (fF r n)) :=
 (by kernel_rfl)
theorem bYh (kk4 : dB) : D271 r n oQ (xs x0 0 (K0 (fF r n))) (K4 kk4 0 1 7 8) = (K4 (bGb r n kk4) 0 1 7 8) :=
 (by kernel_rfl)
theorem bSn (m : Nat) : aL (fun kk => D271 r n oQ (xs x0 0 (K0 (fF r n))) kk) m = (K4 (tO r n m) 0 1 7 8) := by
 induction m with
 | zero => exact (by kernel_rfl : aL (fun kk => D271 r n oQ (xs x0 0 (K0 (fF r n))) kk) 0 = (K4 (tO r n 0) 0 1 7 8))
 | succ m ih =>
  refine (by kernel_rfl : aL (fun kk => D271 r n oQ (xs x0 0 (K0 (fF r n))) kk) (m + 1) = D271 r n oQ (xs x0 0 (K0 (fF r n))) (aL (fun kk => D271 r n oQ (xs x0 0 (K0 (fF r n))) kk) m)).trans ?_
  rw [ih]
  exact (bYh r n (tO r n m)).trans (by kernel_rfl)
theorem cNq : D271 r n aKg (xs x0 0 (K0 (fF r n))) (K0 (fF r n)) = (K4 (bYo r n) 0 1 7 8) :=
 (by kernel_rfl : D271 r n aKg (xs x0 0 (K0 (fF r n))) (K0 (fF r n)) = aL (fun kk => D271 r n oQ (xs x0 0 (K0 (fF r n))) kk) n).trans ((bSn r n n).trans (by kernel_rfl))
theorem cPi : D271 r n aVn x0 (K0 (fF r n)) = (K4 (aYh r n) 0 1 7 8) :=
 (by kernel_rfl : D271 r n aVn x0 (K0 (fF r n)) = D271 r n aKg (xs x0 0 (K0 (fF r n))) (K0 (fF r n))).trans
 ((cNq r n).trans (by kernel_rfl))
theorem bZf : D271 r n aFe x0 r271 = D271 r n xW x0 (K0 (fF r n)) :=
 congrArg (fun k => D271 r n xW x0 k) (cUc r n)
theorem cLz : D271 r n xW x0 (K0 (fF r n)) = D271 r n cLg x0 (K4 (aYh r n) 0 1 7 8) :=
 congrArg (fun k => D271 r n cLg x0 k) (cPi r n)
theorem cQa : D271 r n aFe x0 r271 = (K2 (aYo r n) 0 1) :=
 (bZf r n).trans
 ((cLz r n).trans
 ((by kernel_rfl)))
theorem dUx : D271 r n c271 x0 r271 = D271 r n cHb x0 (K2 (aYo r n) 0 1) :=
 congrArg (fun k => D271 r n cHb x0 k) (cQa r n)
theorem dYe : D271 r n c271 x0 r271 = (K2 (s271 r n) 0 1) :=
 (dUx r n).trans
 ((by kernel_rfl))
theorem dKj : aE CF r n 271 args h = s271 r n (aP args 0) (aP args 1) h :=
 (by kernel_rfl : aE CF r n 271 args h = D271 r n c271 x0 r271 (aJ args) h).trans ((congrFun (congrFun (dYe r n) (aJ args)) h).trans (by kernel_rfl))
end Go.Dd

namespace Go.Dd
open Go.Proofs
section
variable (ih : RT) (m : Nat) (f : FuncId) (args : List DV) (h : Hp)
theorem cH {i : Nat} {s r : aK} (e1 : s = aE CF ih m i args h) (e2 : r = aE CF ih m f args h) : (bif Nat.beq f i then s else r) = aE CF ih m f args h := by
 cases e : Nat.beq f i with
 | false => exact e2
 | true => cases Nat.eq_of_beq_eq_true e; exact e1
theorem ndC {i : Nat} {a b : aK} (e1 : a = aE CF ih m f args h) (e2 : b = aE CF ih m f args h) : (bif Nat.blt f i then a else b) = aE CF ih m f args h := by
 cases Nat.blt f i with
 | false => exact e2
 | true => exact e1
noncomputable def qg0 : aK := bif Nat.beq f 7 then s7 ih m (aP args 0) h else bif Nat.beq f 9 then s9 ih m h else bif Nat.beq f 10 then s10 ih m (aP args 0) (aP args 1) h else bif Nat.beq f 11 then s11 ih m (aP args 0) (aP args 1) h else bif Nat.beq f 16 then s16 ih m h else bif Nat.beq f 17 then s17 ih m (aP args 0) h else bif Nat.beq f 19 then s19 ih m (aP args 0) (aP args 1) h else bif Nat.beq f 20 then s20 ih m (aP args 0) (aP args 1) h else aE CF ih m f args h
theorem eKj : qg0 ih m f args h = aE CF ih m f args h := cH ih m f args h (eKt ih m args h).symm (cH ih m f args h (eKo ih m args h).symm (cH ih m f args h (eEg ih m args h).symm (cH ih m f args h (eAa ih m args h).symm (cH ih m f args h (dHv ih m args h).symm (cH ih m f args h (dHd ih m args h).symm (cH ih m f args h (bRn ih m args h).symm (cH ih m f args h (dHl ih m args h).symm rfl)))))))
noncomputable def qg1 : aK := bif Nat.beq f 21 then s21 ih m (aP args 0) h else bif Nat.beq f 22 then s22 ih m (aP args 0) h else bif Nat.beq f 23 then s23 ih m h else bif Nat.beq f 33 then s33 ih m h else bif Nat.beq f 34 then s34 ih m (aP args 0) (aP args 1) h else bif Nat.beq f 36 then s36 ih m (aP args 0) (aP args 1) h else bif Nat.beq f 37 then s37 ih m (aP args 0) h else bif Nat.beq f 39 then s39 ih m (aP args 0) (aP args 1) (aP args 2) h else aE CF ih m f args h
theorem eMu : qg1 ih m f args h = aE CF ih m f args h := cH ih m f args h (eDi ih m args h).symm (cH ih m f args h (dZm ih m args h).symm (cH ih m f args h (dGs ih m args h).symm (cH ih m f args h (eFv ih m args h).symm (cH ih m f args h (eAr ih m args h).symm (cH ih m f args h (eGn ih m args h).symm (cH ih m f args h (eIl ih m args h).symm (cH ih m f args h (dYx ih m args h).symm rfl)))))))
noncomputable def qg2 : aK := bif Nat.beq f 41 then s41 ih m (aP args 0) (aP args 1) (aP args 2) h else bif Nat.beq f 43 then s43 ih m (aP args 0) (aP args 1) (aP args 2) h else bif Nat.beq f 44 then s44 ih m (aP args 0) h else bif Nat.beq f 47 then s47 ih m (aP args 0) (aP args 1) h else bif Nat.beq f 48 then s48 ih m (aP args 0) (aP args 1) (aP args 2) h else bif Nat.beq f 49 then s49 ih m (aP args 0) h else bif Nat.beq f 50 then s50 ih m (aP args 0) (aP args 1) h else bif Nat.beq f 51 then s51 ih m (aP args 0) (aP args 1) (aP args 2) (aP args 3) h else aE CF ih m f args h
theorem eNd : qg2 ih m f args h = aE CF ih m f args h := cH ih m f args h (eCi ih m args h).symm (cH ih m f args h (eGd ih m args h).symm (cH ih m f args h (eEo ih m args h).symm (cH ih m f args h (cHl ih m args h).symm (cH ih m f args h (dGx ih m args h).symm (cH ih m f args h (dXv ih m args h).symm (cH ih m f args h (dZi ih m args h).symm (cH ih m f args h (eAk ih m args h).symm rfl)))))))
noncomputable def qg3 : aK := bif Nat.beq f 53 then s53 ih m (aP args 0) (aP args 1) (aP args 2) h else bif Nat.beq f 54 then s54 ih m (aP args 0) (aP args 1) h else bif Nat.beq f 55 then s55 ih m (aP args 0) h else bif Nat.beq f 56 then s56 ih m (aP args 0) (aP args 1) h else bif Nat.beq f 58 then s58 ih m (aP args 0) (aP args 1) h else bif Nat.beq f 60 then s60 ih m (aP args 0) (aP args 1) h else bif Nat.beq f 63 then s63 ih m (aP args 0) (aP args 1) h else bif Nat.beq f 64 then s64 ih m (aP args 0) (aP args 1) h else aE CF ih m f args h
theorem eMp : qg3 ih m f args h = aE CF ih m f args h := cH ih m f args h (eGt ih m args h).symm (cH ih m f args h (eBv ih m args h).symm (cH ih m f args h (dYq ih m args h).symm (cH ih m f args h (dYf ih m args h).symm (cH ih m f args h (eGa ih m args h).symm (cH ih m f args h (eBy ih m args h).symm (cH ih m f args h (dXw ih m args h).symm (cH ih m f args h (eCq ih m args h).symm rfl)))))))
noncomputable def qg4 : aK := bif Nat.beq f 71 then s71 ih m (aP args 0) (aP args 1) h else bif Nat.beq f 72 then s72 ih m (aP args 0) (aP args 1) h else bif Nat.beq f 77 then s77 ih m (aP args 0) (aP args 1) h else bif Nat.beq f 79 then s79 ih m (aP args 0) h else bif Nat.beq f 86 then s86 ih m (aP args 0) (aP args 1) h else bif Nat.beq f 87 then s87 ih m (aP args 0) (aP args 1) (aP args 2) (aP args 3) h else bif Nat.beq f 91 then s91 ih m (aP args 0) h else bif Nat.beq f 92 then s92 ih m (aP args 0) (aP args 1) h else aE CF ih m f args h
theorem eLx : qg4 ih m f args h = aE CF ih m f args h := cH ih m f args h (eDr ih m args h).symm (cH ih m f args h (eFz ih m args h).symm (cH ih m f args h (eBl ih m args h).symm (cH ih m f args h (eCp ih m args h).symm (cH ih m f args h (eGc ih m args h).symm (cH ih m f args h (eAx ih m args h).symm (cH ih m f args h (eDd ih m args h).symm (cH ih m f args h (eIc ih m args h).symm rfl)))))))
noncomputable def qg5 : aK := bif Nat.beq f 93 then s93 ih m (aP args 0) (aP args 1) (aP args 2) h else bif Nat.beq f 96 then s96 ih m (aP args 0) (aP args 1) h else bif Nat.beq f 100 then s100 ih m (aP args 0) (aP args 1) h else bif Nat.beq f 101 then s101 ih m (aP args 0) (aP args 1) (aP args 2) h else bif Nat.beq f 102 then s102 ih m (aP args 0) (aP args 1) h else bif Nat.beq f 103 then s103 ih m (aP args 0) (aP args 1) h else bif Nat.beq f 110 then s110 ih m (aP args 0) (aP args 1) h else bif Nat.beq f 111 then s111 ih m (aP args 0) (aP args 1) (aP args 2) h else aE CF ih m f args h
theorem eOd : qg5 ih m f args h = aE CF ih m f args h := cH ih m f args h (eHn ih m args h).symm (cH ih m f args h (eDl ih m args h).symm (cH ih m f args h (dKx ih m args h).symm (cH ih m f args h (dLl ih m args h).symm (cH ih m f args h (dLg ih m args h).symm (cH ih m f args h (dNz ih m args h).symm (cH ih m f args h (dWd ih m args h).symm (cH ih m f args h (dSs ih m args h).symm rfl)))))))
noncomputable def qg6 : aK := bif Nat.beq f 116 then s116 ih m (aP args 0) (aP args 1) h else bif Nat.beq f 123 then s123 ih m (aP args 0) (aP args 1) h else bif Nat.beq f 132 then s132 ih m (aP args 0) (aP args 1) h else bif Nat.beq f 133 then s133 ih m (aP args 0) (aP args 1) h else bif Nat.beq f 134 then s134 ih m (aP args 0) h else bif Nat.beq f 135 then s135 ih m (aP args 0) (aP args 1) (aP args 2) h else bif Nat.beq f 136 then s136 ih m (aP args 0) (aP args 1) (aP args 2) h else bif Nat.beq f 137 then s137 ih m (aP args 0) (aP args 1) (aP args 2) (aP args 3) h else aE CF ih m f args h
theorem eNc : qg6 ih m f args h = aE CF ih m f args h := cH ih m f args h (dSj ih m args h).symm (cH ih m f args h (dJk ih m args h).symm (cH ih m f args h (dMs ih m args h).symm (cH ih m f args h (dLa ih m args h).symm (cH ih m f args h (dVy ih m args h).symm (cH ih m f args h (dOs ih m args h).symm (cH ih m f args h (dQm ih m args h).symm (cH ih m f args h (dVd ih m args h).symm rfl)))))))
noncomputable def qg7 : aK := bif Nat.beq f 141 then s141 ih m (aP args 0) (aP args 1) (aP args 2) h else bif Nat.beq f 142 then s142 ih m (aP args 0) (aP args 1) h else bif Nat.beq f 143 then s143 ih m (aP args 0) h else bif Nat.beq f 144 then s144 ih m (aP args 0) (aP args 1) h else bif Nat.beq f 145 then s145 ih m (aP args 0) h else bif Nat.beq f 146 then s146 ih m (aP args 0) (aP args 1) (aP args 2) h else bif Nat.beq f 147 then s147 ih m (aP args 0) h else bif Nat.beq f 148 then s148 ih m (aP args 0) (aP args 1) h else aE CF ih m f args h
theorem eJt : qg7 ih m f args h = aE CF ih m f args h := cH ih m f args h (dQh ih m args h).symm (cH ih m f args h (dKy ih m args h).symm (cH ih m f args h (dHz ih m args h).symm (cH ih m f args h (dXg ih m args h).symm (cH ih m f args h (dPl ih m args h).symm (cH ih m f args h (dSa ih m args h).symm (cH ih m f args h (dMt ih m args h).symm (cH ih m f args h (dUg ih m args h).symm rfl)))))))
noncomputable def qg8 : aK := bif Nat.beq f 149 then s149 ih m (aP args 0) (aP args 1) h else bif Nat.beq f 153 then s153 ih m (aP args 0) h else bif Nat.beq f 154 then s154 ih m (aP args 0) h else bif Nat.beq f 155 then s155 ih m (aP args 0) h else bif Nat.beq f 156 then s156 ih m (aP args 0) (aP args 1) (aP args 2) h else bif Nat.beq f 157 then s157 ih m (aP args 0) (aP args 1) h else bif Nat.beq f 158 then s158 ih m (aP args 0) h else bif Nat.beq f 159 then s159 ih m (aP args 0) (aP args 1) (aP args 2) h else aE CF ih m f args h
theorem eJn : qg8 ih m f args h = aE CF ih m f args h := cH ih m f args h (dIc ih m args h).symm (cH ih m f args h (dTs ih m args h).symm (cH ih m f args h (dQu ih m args h).symm (cH ih m f args h (dJe ih m args h).symm (cH ih m f args h (dWa ih m args h).symm (cH ih m f args h (dRc ih m args h).symm (cH ih m f args h (dPz ih m args h).symm (cH ih m f args h (dUe ih m args h).symm rfl)))))))
noncomputable def qg9 : aK := bif Nat.beq f 160 then s160 ih m (aP args 0) h else bif Nat.beq f 161 then s161 ih m (aP args 0) (aP args 1) h else bif Nat.beq f 163 then s163 ih m (aP args 0) (aP args 1) h else bif Nat.beq f 165 then s165 ih m (aP args 0) h else bif Nat.beq f 166 then s166 ih m (aP args 0) (aP args 1) h else bif Nat.beq f 167 then s167 ih m (aP args 0) (aP args 1) h else bif Nat.beq f 168 then s168 ih m (aP args 0) (aP args 1) h else bif Nat.beq f 169 then s169 ih m (aP args 0) h else aE CF ih m f args h
theorem eNx : qg9 ih m f args h = aE CF ih m f args h := cH ih m f args h (dPg ih m args h).symm (cH ih m f args h (dVs ih m args h).symm (cH ih m f args h (dIf ih m args h).symm (cH ih m f args h (dRo ih m args h).symm (cH ih m f args h (dSu ih m args h).symm (cH ih m f args h (dQy ih m args h).symm (cH ih m f args h (dVa ih m args h).symm (cH ih m f args h (dQg ih m args h).symm rfl)))))))
noncomputable def eHm : aK := bif Nat.beq f 170 then s170 ih m (aP args 0) (aP args 1) (aP args 2) (aP args 3) (aP args 4) (aP args 5) (aP args 6) (aP args 7) h else bif Nat.beq f 171 then s171 ih m (aP args 0) h else bif Nat.beq f 172 then s172 ih m (aP args 0) h else bif Nat.beq f 175 then s175 ih m (aP args 0) (aP args 1) (aP args 2) h else bif Nat.beq f 176 then s176 ih m (aP args 0) h else bif Nat.beq f 177 then s177 ih m (aP args 0) (aP args 1) h else bif Nat.beq f 178 then s178 ih m (aP args 0) h else bif Nat.beq f 179 then s179 ih m (aP args 0) (aP args 1) (aP args 2) h else aE CF ih m f args h
theorem eAs : eHm ih m f args h = aE CF ih m f args h := cH ih m f args h (dJu ih m args h).symm (cH ih m f args h (dTp ih m args h).symm (cH ih m f args h (dVt ih m args h).symm (cH ih m f args h (dUu ih m args h).symm (cH ih m f args h (dLp ih m args h).symm (cH ih m f args h (dWk ih m args h).symm (cH ih m f args h (dKb ih m args h).symm (cH ih m f args h (dTh ih m args h).symm rfl)))))))
noncomputable def eIi : aK := bif Nat.beq f 180 then s180 ih m (aP args 0) h else bif Nat.beq f 181 then s181 ih m (aP args 0) h else bif Nat.beq f 183 then s183 ih m (aP args 0) (aP args 1) h else bif Nat.beq f 184 then s184 ih m (aP args 0) (aP args 1) (aP args 2) h else bif Nat.beq f 185 then s185 ih m (aP args 0) (aP args 1) (aP args 2) h else bif Nat.beq f 186 then s186 ih m (aP args 0) (aP args 1) h else bif Nat.beq f 187 then s187 ih m (aP args 0) (aP args 1) (aP args 2) (aP args 3) h else bif Nat.beq f 188 then s188 ih m (aP args 0) h else aE CF ih m f args h
theorem eBq : eIi ih m f args h = aE CF ih m f args h := cH ih m f args h (dLi ih m args h).symm (cH ih m f args h (dTw ih m args h).symm (cH ih m f args h (dTq ih m args h).symm (cH ih m f args h (dSe ih m args h).symm (cH ih m f args h (dMq ih m args h).symm (cH ih m f args h (dOu ih m args h).symm (cH ih m f args h (dOn ih m args h).symm (cH ih m f args h (dIk ih m args h).symm rfl)))))))
noncomputable def eBj : aK := bif Nat.beq f 200 then s200 ih m (aP args 0) (aP args 1) h else bif Nat.beq f 201 then s201 ih m (aP args 0) (aP args 1) h else bif Nat.beq f 202 then s202 ih m (aP args 0) (aP args 1) h else bif Nat.beq f 203 then s203 ih m (aP args 0) h else bif Nat.beq f 204 then s204 ih m (aP args 0) h else bif Nat.beq f 205 then s205 ih m (aP args 0) h else bif Nat.beq f 206 then s206 ih m (aP args 0) h else bif Nat.beq f 207 then s207 ih m (aP args 0) h else aE CF ih m f args h
theorem eEj : eBj ih m f args h = aE CF ih m f args h := cH ih m f args h (dNm ih m args h).symm (cH ih m f args h (dPp ih m args h).symm (cH ih m f args h (dVc ih m args h).symm (cH ih m f args h (dJa ih m args h).symm (cH ih m f args h (dIi ih m args h).symm (cH ih m f args h (dKh ih m args h).symm (cH ih m f args h (dTu ih m args h).symm (cH ih m f args h (dOr ih m args h).symm rfl)))))))
noncomputable def eAi : aK := bif Nat.beq f 209 then s209 ih m (aP args 0) h else bif Nat.beq f 210 then s210 ih m (aP args 0) h else bif Nat.beq f 211 then s211 ih m (aP args 0) (aP args 1) h else bif Nat.beq f 212 then s212 ih m (aP args 0) h else bif Nat.beq f 215 then s215 ih m (aP args 0) (aP args 1) h else bif Nat.beq f 216 then s216 ih m (aP args 0) (aP args 1) h else bif Nat.beq f 217 then s217 ih m (aP args 0) (aP args 1) h else bif Nat.beq f 218 then s218 ih m (aP args 0) (aP args 1) h else aE CF ih m f args h
theorem eHr : eAi ih m f args h = aE CF ih m f args h := cH ih m f args h (dKg ih m args h).symm (cH ih m f args h (dWz ih m args h).symm (cH ih m f args h (dQo ih m args h).symm (cH ih m f args h (dTm ih m args h).symm (cH ih m f args h (dLk ih m args h).symm (cH ih m f args h (dKz ih m args h).symm (cH ih m f args h (dOh ih m args h).symm (cH ih m f args h (dVo ih m args h).symm rfl)))))))
noncomputable def eEb : aK := bif Nat.beq f 220 then s220 ih m (aP args 0) (aP args 1) h else bif Nat.beq f 221 then s221 ih m (aP args 0) (aP args 1) h else bif Nat.beq f 222 then s222 ih m (aP args 0) (aP args 1) h else bif Nat.beq f 230 then s230 ih m (aP args 0) h else bif Nat.beq f 232 then s232 ih m (aP args 0) (aP args 1) h else bif Nat.beq f 233 then s233 ih m (aP args 0) (aP args 1) h else bif Nat.beq f 234 then s234 ih m (aP args 0) (aP args 1) h else bif Nat.beq f 235 then s235 ih m (aP args 0) h else aE CF ih m f args h
theorem eEc : eEb ih m f args h = aE CF ih m f args h := cH ih m f args h (dTl ih m args h).symm (cH ih m f args h (dVe ih m args h).symm (cH ih m f args h (dQk ih m args h).symm (cH ih m f args h (dPu ih m args h).symm (cH ih m f args h (dJw ih m args h).symm (cH ih m f args h (dOg ih m args h).symm (cH ih m f args h (dNo ih m args h).symm (cH ih m f args h (dVv ih m args h).symm rfl)))))))
noncomputable def dZd : aK := bif Nat.beq f 237 then s237 ih m (aP args 0) h else bif Nat.beq f 238 then s238 ih m (aP args 0) (aP args 1) h else bif Nat.beq f 239 then s239 ih m (aP args 0) (aP args 1) h else bif Nat.beq f 240 then s240 ih m (aP args 0) (aP args 1) h else bif Nat.beq f 241 then s241 ih m (aP args 0) (aP args 1) h else bif Nat.beq f 242 then s242 ih m (aP args 0) h else bif Nat.beq f 243 then s243 ih m (aP args 0) (aP args 1) h else bif Nat.beq f 244 then s244 ih m (aP args 0) (aP args 1) h else aE CF ih m f args h
theorem dZt : dZd ih m f args h = aE CF ih m f args h := cH ih m f args h (dNx ih m args h).symm (cH ih m f args h (dUt ih m args h).symm (cH ih m f args h (dLv ih m args h).symm (cH ih m f args h (dSz ih m args h).symm (cH ih m f args h (dVx ih m args h).symm (cH ih m f args h (dMn ih m args h).symm (cH ih m f args h (dRr ih m args h).symm (cH ih m f args h (dRk ih m args h).symm rfl)))))))
noncomputable def eEk : aK := bif Nat.beq f 245 then s245 ih m (aP args 0) (aP args 1) h else bif Nat.beq f 246 then s246 ih m (aP args 0) (aP args 1) (aP args 2) (aP args 3) h else bif Nat.beq f 247 then s247 ih m (aP args 0) (aP args 1) h else bif Nat.beq f 248 then s248 ih m (aP args 0) h else bif Nat.beq f 249 then s249 ih m (aP args 0) (aP args 1) (aP args 2) h else bif Nat.beq f 250 then s250 ih m (aP args 0) (aP args 1) (aP args 2) (aP args 3) h else bif Nat.beq f 251 then s251 ih m (aP args 0) (aP args 1) (aP args 2) (aP args 3) h else bif Nat.beq f 252 then s252 ih m (aP args 0) (aP args 1) h else aE CF ih m f args h
theorem dZb : eEk ih m f args h = aE CF ih m f args h := cH ih m f args h (dNw ih m args h).symm (cH ih m f args h (dNd ih m args h).symm (cH ih m f args h (dNh ih m args h).symm (cH ih m f args h (dOq ih m args h).symm (cH ih m f args h (dXb ih m args h).symm (cH ih m f args h (dSb ih m args h).symm (cH ih m f args h (dNy ih m args h).symm (cH ih m f args h (dWe ih m args h).symm rfl)))))))
noncomputable def eGh : aK := bif Nat.beq f 253 then s253 ih m (aP args 0) h else bif Nat.beq f 254 then s254 ih m (aP args 0) (aP args 1) h else bif Nat.beq f 255 then s255 ih m (aP args 0) h else bif Nat.beq f 256 then s256 ih m (aP args 0) h else bif Nat.beq f 257 then s257 ih m (aP args 0) h else bif Nat.beq f 258 then s258 ih m (aP args 0) h else bif Nat.beq f 259 then s259 ih m (aP args 0) (aP args 1) (aP args 2) h else bif Nat.beq f 260 then s260 ih m h else aE CF ih m f args h
theorem eEs : eGh ih m f args h = aE CF ih m f args h := cH ih m f args h (dJp ih m args h).symm (cH ih m f args h (dMr ih m args h).symm (cH ih m f args h (dOe ih m args h).symm (cH ih m f args h (dKs ih m args h).symm (cH ih m f args h (dPe ih m args h).symm (cH ih m f args h (dXi ih m args h).symm (cH ih m f args h (dTg ih m args h).symm (cH ih m f args h (dPb ih m args h).symm rfl)))))))
noncomputable def dXn : aK := bif Nat.beq f 261 then s261 ih m h else bif Nat.beq f 262 then s262 ih m (aP args 0) (aP args 1) (aP args 2) h else bif Nat.beq f 263 then s263 ih m (aP args 0) (aP args 1) (aP args 2) h else bif Nat.beq f 264 then s264 ih m (aP args 0) (aP args 1) h else bif Nat.beq f 265 then s265 ih m (aP args 0) (aP args 1) h else bif Nat.beq f 266 then s266 ih m (aP args 0) (aP args 1) h else bif Nat.beq f 267 then s267 ih m (aP args 0) h else bif Nat.beq f 268 then s268 ih m (aP args 0) h else aE CF ih m f args h
theorem dYv : dXn ih m f args h = aE CF ih m f args h := cH ih m f args h (dVg ih m args h).symm (cH ih m f args h (dTc ih m args h).symm (cH ih m f args h (dKa ih m args h).symm (cH ih m f args h (dWj ih m args h).symm (cH ih m f args h (dLm ih m args h).symm (cH ih m f args h (dOd ih m args h).symm (cH ih m f args h (dSx ih m args h).symm (cH ih m f args h (dIs ih m args h).symm rfl)))))))
noncomputable def eDn : aK := bif Nat.beq f 269 then s269 ih m (aP args 0) h else bif Nat.beq f 270 then s270 ih m (aP args 0) h else bif Nat.beq f 271 then s271 ih m (aP args 0) (aP args 1) h else aE CF ih m f args h
theorem eHa : eDn ih m f args h = aE CF ih m f args h := cH ih m f args h (dPm ih m args h).symm (cH ih m f args h (dSr ih m args h).symm (cH ih m f args h (dKj ih m args h).symm rfl))
noncomputable def qd0 : aK := bif Nat.blt f 21 then qg0 ih m f args h else qg1 ih m f args h
theorem eNp : qd0 ih m f args h = aE CF ih m f args h := ndC ih m f args h (eKj ih m f args h) (eMu ih m f args h)
noncomputable def qd1 : aK := bif Nat.blt f 71 then qg3 ih m f args h else qg4 ih m f args h
theorem eOo : qd1 ih m f args h = aE CF ih m f args h := ndC ih m f args h (eMp ih m f args h) (eLx ih m f args h)
noncomputable def qd2 : aK := bif Nat.blt f 53 then qg2 ih m f args h else qd1 ih m f args h
theorem eNz : qd2 ih m f args h = aE CF ih m f args h := ndC ih m f args h (eNd ih m f args h) (eOo ih m f args h)
noncomputable def qd3 : aK := bif Nat.blt f 41 then qd0 ih m f args h else qd2 ih m f args h
theorem eJh : qd3 ih m f args h = aE CF ih m f args h := ndC ih m f args h (eNp ih m f args h) (eNz ih m f args h)
noncomputable def qd4 : aK := bif Nat.blt f 116 then qg5 ih m f args h else qg6 ih m f args h
theorem eOv : qd4 ih m f args h = aE CF ih m f args h := ndC ih m f args h (eOd ih m f args h) (eNc ih m f args h)
noncomputable def qd5 : aK := bif Nat.blt f 160 then qg8 ih m f args h else qg9 ih m f args h
theorem eJr : qd5 ih m f args h = aE CF ih m f args h := ndC ih m f args h (eJn ih m f args h) (eNx ih m f args h)
noncomputable def qd6 : aK := bif Nat.blt f 149 then qg7 ih m f args h else qd5 ih m f args h
theorem eOc : qd6 ih m f args h = aE CF ih m f args h := ndC ih m f args h (eJt ih m f args h) (eJr ih m f args h)
noncomputable def qd7 : aK := bif Nat.blt f 141 then qd4 ih m f args h else qd6 ih m f args h
theorem eNb : qd7 ih m f args h = aE CF ih m f args h := ndC ih m f args h (eOv ih m f args h) (eOc ih m f args h)
noncomputable def qd8 : aK := bif Nat.blt f 93 then qd3 ih m f args h else qd7 ih m f args h
theorem eLw : qd8 ih m f args h = aE CF ih m f args h := ndC ih m f args h (eJh ih m f args h) (eNb ih m f args h)
noncomputable def qd9 : aK := bif Nat.blt f 180 then eHm ih m f args h else eIi ih m f args h
theorem eNf : qd9 ih m f args h = aE CF ih m f args h := ndC ih m f args h (eAs ih m f args h) (eBq ih m f args h)
noncomputable def eAt : aK := bif Nat.blt f 220 then eAi ih m f args h else eEb ih m f args h
theorem eHt : eAt ih m f args h = aE CF ih m f args h := ndC ih m f args h (eHr ih m f args h) (eEc ih m f args h)
noncomputable def eBf : aK := bif Nat.blt f 209 then eBj ih m f args h else eAt ih m f args h
theorem eDm : eBf ih m f args h = aE CF ih m f args h := ndC ih m f args h (eEj ih m f args h) (eHt ih m f args h)
noncomputable def dXr : aK := bif Nat.blt f 200 then qd9 ih m f args h else eBf ih m f args h
theorem eDx : dXr ih m f args h = aE CF ih m f args h := ndC ih m f args h (eNf ih m f args h) (eDm ih m f args h)
noncomputable def eGy : aK := bif Nat.blt f 245 then dZd ih m f args h else eEk ih m f args h
theorem eEh : eGy ih m f args h = aE CF ih m f args h := ndC ih m f args h (dZt ih m f args h) (dZb ih m f args h)
noncomputable def eCw : aK := bif Nat.blt f 269 then dXn ih m f args h else eDn ih m f args h
theorem dZz : eCw ih m f args h = aE CF ih m f args h := ndC ih m f args h (dYv ih m f args h) (eHa ih m f args h)
noncomputable def eFb : aK := bif Nat.blt f 261 then eGh ih m f args h else eCw ih m f args h
theorem eAl : eFb ih m f args h = aE CF ih m f args h := ndC ih m f args h (eEs ih m f args h) (dZz ih m f args h)
noncomputable def eDy : aK := bif Nat.blt f 253 then eGy ih m f args h else eFb ih m f args h
theorem eDu : eDy ih m f args h = aE CF ih m f args h := ndC ih m f args h (eEh ih m f args h) (eAl ih m f args h)
noncomputable def eGf : aK := bif Nat.blt f 237 then dXr ih m f args h else eDy ih m f args h
theorem eAy : eGf ih m f args h = aE CF ih m f args h := ndC ih m f args h (eDx ih m f args h) (eDu ih m f args h)
noncomputable def eCf : aK := bif Nat.blt f 170 then qd8 ih m f args h else eGf ih m f args h
theorem eCl : eCf ih m f args h = aE CF ih m f args h := ndC ih m f args h (eLw ih m f args h) (eAy ih m f args h)
end
noncomputable def shB (ih : RT) (m : Nat) (f : FuncId) (args : List DV) (h : Hp) : aK := eCf ih m f args h
theorem bSq (ih : RT) (m : Nat) (f : FuncId) (args : List DV) (h : Hp) : shB ih m f args h = aE CF ih m f args h := eCl ih m f args h
noncomputable def jW (n : Nat) : FuncId → List DV → Hp → aK :=
 Nat.rec (motive := fun _ => FuncId → List DV → Hp → aK) (fun _ _ _ => none) (fun m ih => fun f args h => bif rgB f then iY CF ih m itm f args h else shB ih m f args h) n
theorem yF (f : FuncId) (hf : rgB f = false) (n : Nat) (args : List DV) (h : Hp) : jW (n + 1) f args h = aE CF (jW n) n f args h := by
 show (bif rgB f then iY CF (jW n) n itm f args h else shB (jW n) n f args h) = _
 rw [hf, cond_false, bSq]
theorem oW : ∀ n, jW n = fO CF n
 | 0 => rfl
 | n + 1 => by
  funext f args h
  show (bif rgB f then iY CF (jW n) n itm f args h else shB (jW n) n f args h) = (bif rgB f then iY CF (fO CF n) n itm f else aE CF (fO CF n) n f) args h
  rw [← oW n]
  cases rgB f with
  | true => rfl
  | false => exact bSq _ _ _ _ _
end Go.Dd

