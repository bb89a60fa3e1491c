/- A part of the proof: Q9 Qt HK: each text has a comment of its own. -/
import Derived.Test.YtilmobdncapnbaaGreatPu2
set_option linter.unusedVariables false
set_option linter.unusedSimpArgs false
set_option linter.constructorNameAsVariable false
set_option maxRecDepth 100000
namespace Go.Dd
open Go.Proofs
variable (r : RT) (n : Nat) (args : List DV) (h : Hp)
noncomputable def cE (r : RT) (n : Nat) (h0 : Hp) : aH :=
 some ((aE 0), h0)
noncomputable def aIa (r : RT) (n : Nat) (x1 x22 : DV) (h0 : Hp) : aH :=
 aT x22 (
 bnd (aB 2 x1 h0) fun v1 h1 =>
 bnd (aA v1 h1) fun v2 h2 =>
 bnd (gQ .neg v2 h2) fun v3 h3 =>
 some (v3, h3)) (
  cE r n h0)
noncomputable def bPo (r : RT) (n : Nat) (x1 x4 : DV) (h0 : Hp) : aH :=
 bnd (aD .eql x4 (aE 14) h0) fun v1 h1 =>
 aT v1 (
  aIa r n x1 v1 h1) (
 bnd (aD .eql x4 (aE 15) h1) fun v2 h2 =>
  aIa r n x1 v2 h2)
noncomputable def rQ (r : RT) (n : Nat) (x1 x4 x17 : DV) (h0 : Hp) : aH :=
 aT x17 (
 some ((.i .i64 (Int.negSucc 0)), h0)) (
  bPo r n x1 x4 h0)
noncomputable def bVl (r : RT) (n : Nat) (x1 x4 : DV) (h0 : Hp) : aH :=
 bnd (aD .eql x4 (aE 12) h0) fun v1 h1 =>
 aT v1 (
  rQ r n x1 x4 v1 h1) (
 bnd (aD .eql x4 (aE 17) h1) fun v2 h2 =>
 aT v2 (
   rQ r n x1 x4 v2 h2) (
 bnd (aD .eql x4 (aE 19) h2) fun v3 h3 =>
 aT v3 (
    rQ r n x1 x4 v3 h3) (
 bnd (aD .eql x4 (aE 20) h3) fun v4 h4 =>
    rQ r n x1 x4 v4 h4)))
noncomputable def iI (r : RT) (n : Nat) (x1 x4 x5 : DV) (h0 : Hp) : aH :=
 aT x5 (
 some ((aE 1), h0)) (
  bVl r n x1 x4 h0)
noncomputable def aSu (r : RT) (n : Nat) (x1 x4 : DV) (h0 : Hp) : aH :=
 bnd (aD .eql x4 (aE 1) h0) fun v1 h1 =>
 aT v1 (
  iI r n x1 x4 v1 h1) (
 bnd (aD .eql x4 (aE 2) h1) fun v2 h2 =>
 aT v2 (
   iI r n x1 x4 v2 h2) (
 bnd (aD .eql x4 (aE 3) h2) fun v3 h3 =>
 aT v3 (
    iI r n x1 x4 v3 h3) (
 bnd (aD .eql x4 (aE 4) h3) fun v4 h4 =>
 aT v4 (
     iI r n x1 x4 v4 h4) (
 bnd (aD .eql x4 (aE 5) h4) fun v5 h5 =>
 aT v5 (
      iI r n x1 x4 v5 h5) (
 bnd (aD .eql x4 (aE 6) h5) fun v6 h6 =>
 aT v6 (
       iI r n x1 x4 v6 h6) (
 bnd (aD .eql x4 (aE 7) h6) fun v7 h7 =>
 aT v7 (
        iI r n x1 x4 v7 h7) (
 bnd (aD .eql x4 (aE 8) h7) fun v8 h8 =>
 aT v8 (
         iI r n x1 x4 v8 h8) (
 bnd (aD .eql x4 (aE 9) h8) fun v9 h9 =>
 aT v9 (
          iI r n x1 x4 v9 h9) (
 bnd (aD .eql x4 (aE 13) h9) fun v10 h10 =>
 aT v10 (
           iI r n x1 x4 v10 h10) (
 bnd (aD .eql x4 (aE 18) h10) fun v11 h11 =>
           iI r n x1 x4 v11 h11))))))))))
noncomputable def wX (r : RT) (n : Nat) (x1 : DV) (h0 : Hp) : aH :=
 bnd (aB 0 x1 h0) fun v1 h1 =>
 bnd (aA v1 h1) fun v2 h2 =>
  aSu r n x1 v2 h2
noncomputable def s204 (r : RT) (n : Nat) (x0 : DV) (h0 : Hp) : aH :=
 bnd (bO x0 h0) fun v1 h1 =>
  wX r n v1 h1
noncomputable abbrev c204 : Code := cf Tryz.f204
noncomputable abbrev aFs : Code := cR c204
noncomputable abbrev cTx : Code := cR aFs
noncomputable abbrev yP : Code := cL aFs
noncomputable abbrev aSs : Code := cR yP
noncomputable abbrev aDe : Code := cL aSs
noncomputable abbrev xP : Code := cR aDe
noncomputable abbrev wY : Code := cR xP
noncomputable abbrev yM : Code := cR wY
noncomputable abbrev zB : Code := cR yM
noncomputable abbrev cMr : Code := cR zB
noncomputable abbrev aVd : Code := cL zB
noncomputable abbrev cFj : Code := cL yM
noncomputable abbrev aXw : Code := cL wY
noncomputable abbrev cDj : Code := cL xP
noncomputable abbrev aUx : Code := cL aDe
noncomputable abbrev bBa : Code := cL yP
noncomputable abbrev aDb : Code := cL c204
noncomputable abbrev r204 : K := aR CF Tryz.f204
noncomputable def D204 (r : RT) (n : Nat) (c : Code) (X : Nat → K) (k : K) : K := aM CF r 28 n c X r204 k
theorem cQi : D204 r n cTx x0 r204 = (K0 (cE r n)) :=
 (by kernel_rfl)
theorem cNk : D204 r n cMr (xs x0 0 (K0 (cE r n))) (K0 (cE r n)) = (K2 (aIa r n) 1 22) :=
 (by kernel_rfl)
theorem bQr : D204 r n zB (xs x0 0 (K0 (cE r n))) (K0 (cE r n)) = D204 r n aVd (xs x0 0 (K0 (cE r n))) (K2 (aIa r n) 1 22) :=
 congrArg (fun k => D204 r n aVd (xs x0 0 (K0 (cE r n))) k) (cNk r n)
theorem cMh : D204 r n zB (xs x0 0 (K0 (cE r n))) (K0 (cE r n)) = (K2 (bPo r n) 1 4) :=
 (bQr r n).trans
 ((by kernel_rfl))
theorem cEe : D204 r n yM (xs x0 0 (K0 (cE r n))) (K0 (cE r n)) = (K3 (rQ r n) 1 4 17) :=
 (by kernel_rfl : D204 r n yM (xs x0 0 (K0 (cE r n))) (K0 (cE r n)) = (fun (env : aV) (h : Hp) => aT (opr env (cC yM)) (D204 r n cFj (xs x0 0 (K0 (cE r n))) (K0 (cE r n)) env h) (D204 r n zB (xs x0 0 (K0 (cE r n))) (K0 (cE r n)) env h))).trans (by rw [cMh r n]; kernel_rfl)
theorem bRb : D204 r n wY (xs x0 0 (K0 (cE r n))) (K0 (cE r n)) = D204 r n aXw (xs x0 0 (K0 (cE r n))) (K3 (rQ r n) 1 4 17) :=
 congrArg (fun k => D204 r n aXw (xs x0 0 (K0 (cE r n))) k) (cEe r n)
theorem cLz : D204 r n wY (xs x0 0 (K0 (cE r n))) (K0 (cE r n)) = (K2 (bVl r n) 1 4) :=
 (bRb r n).trans
 ((by kernel_rfl))
theorem cLk : D204 r n xP (xs x0 0 (K0 (cE r n))) (K0 (cE r n)) = (K3 (iI r n) 1 4 5) :=
 (by kernel_rfl : D204 r n xP (xs x0 0 (K0 (cE r n))) (K0 (cE r n)) = (fun (env : aV) (h : Hp) => aT (opr env (cC xP)) (D204 r n cDj (xs x0 0 (K0 (cE r n))) (K0 (cE r n)) env h) (D204 r n wY (xs x0 0 (K0 (cE r n))) (K0 (cE r n)) env h))).trans (by rw [cLz r n]; kernel_rfl)
theorem bJz : D204 r n aDe (xs x0 0 (K0 (cE r n))) (K0 (cE r n)) = D204 r n aUx (xs x0 0 (K0 (cE r n))) (K3 (iI r n) 1 4 5) :=
 congrArg (fun k => D204 r n aUx (xs x0 0 (K0 (cE r n))) k) (cLk r n)
theorem cDp : D204 r n aSs x0 (K0 (cE r n)) = (K2 (aSu r n) 1 4) :=
 (by kernel_rfl : D204 r n aSs x0 (K0 (cE r n)) = D204 r n aDe (xs x0 0 (K0 (cE r n))) (K0 (cE r n))).trans
 ((bJz r n).trans
 ((by kernel_rfl)))
theorem bVy : D204 r n aFs x0 r204 = D204 r n yP x0 (K0 (cE r n)) :=
 congrArg (fun k => D204 r n yP x0 k) (cQi r n)
theorem bVd : D204 r n yP x0 (K0 (cE r n)) = D204 r n bBa x0 (K2 (aSu r n) 1 4) :=
 congrArg (fun k => D204 r n bBa x0 k) (cDp r n)
theorem cOd : D204 r n aFs x0 r204 = (K1 (wX r n) 1) :=
 (bVy r n).trans
 ((bVd r n).trans
 ((by kernel_rfl)))
theorem cWx : D204 r n c204 x0 r204 = D204 r n aDb x0 (K1 (wX r n) 1) :=
 congrArg (fun k => D204 r n aDb x0 k) (cOd r n)
theorem dDk (q0 : TT1) : D204 r n aDb x0 (K1 q0 1) = fun (env : aV) (h : Hp) =>
 bnd (bO (env 0) h) fun v1 h1 =>
  q0 v1 h1 := by kernel_rfl
theorem cMn : (fun (env : aV) (h : Hp) =>
 bnd (bO (env 0) h) fun v1 h1 =>
  wX r n v1 h1) = (K1 (s204 r n) 0) := by kernel_rfl
theorem dGh : D204 r n c204 x0 r204 = (K1 (s204 r n) 0) :=
 (cWx r n).trans
 ((dDk r n (wX r n)).trans (cMn r n))
theorem cVv : aF CF r n 204 args h = s204 r n (aU args 0) h :=
 (by kernel_rfl : aF CF r n 204 args h = D204 r n c204 x0 r204 (aI args) h).trans ((congrFun (congrFun (dGh r n) (aI args)) h).trans (by kernel_rfl))
noncomputable def dB (r : RT) (n : Nat) (h0 : Hp) : aH :=
 some ((aE 0), h0)
noncomputable def aGk (r : RT) (n : Nat) (x1 x13 : DV) (h0 : Hp) : aH :=
 aT x13 (
 bnd (aB 2 x1 h0) fun v1 h1 =>
 bnd (aA v1 h1) fun v2 h2 =>
 bnd (aD .add v2 (aE 1) h2) fun v3 h3 =>
 some (v3, h3)) (
  dB r n h0)
noncomputable def cAw (r : RT) (n : Nat) (x1 x4 : DV) (h0 : Hp) : aH :=
 bnd (aD .eql x4 (aE 14) h0) fun v1 h1 =>
 aT v1 (
  aGk r n x1 v1 h1) (
 bnd (aD .eql x4 (aE 15) h1) fun v2 h2 =>
  aGk r n x1 v2 h2)
noncomputable def lT (r : RT) (n : Nat) (x1 x4 x5 : DV) (h0 : Hp) : aH :=
 aT x5 (
 some ((aE 1), h0)) (
  cAw r n x1 x4 h0)
noncomputable def aQc (r : RT) (n : Nat) (x1 x4 : DV) (h0 : Hp) : aH :=
 bnd (aD .eql x4 (aE 12) h0) fun v1 h1 =>
 aT v1 (
  lT r n x1 x4 v1 h1) (
 bnd (aD .eql x4 (aE 13) h1) fun v2 h2 =>
 aT v2 (
   lT r n x1 x4 v2 h2) (
 bnd (aD .eql x4 (aE 10) h2) fun v3 h3 =>
 aT v3 (
    lT r n x1 x4 v3 h3) (
 bnd (aD .eql x4 (aE 11) h3) fun v4 h4 =>
 aT v4 (
     lT r n x1 x4 v4 h4) (
 bnd (aD .eql x4 (aE 17) h4) fun v5 h5 =>
 aT v5 (
      lT r n x1 x4 v5 h5) (
 bnd (aD .eql x4 (aE 20) h5) fun v6 h6 =>
 aT v6 (
       lT r n x1 x4 v6 h6) (
 bnd (aD .eql x4 (aE 19) h6) fun v7 h7 =>
       lT r n x1 x4 v7 h7))))))
noncomputable def zQ (r : RT) (n : Nat) (x1 : DV) (h0 : Hp) : aH :=
 bnd (aB 0 x1 h0) fun v1 h1 =>
 bnd (aA v1 h1) fun v2 h2 =>
  aQc r n x1 v2 h2
noncomputable def s205 (r : RT) (n : Nat) (x0 : DV) (h0 : Hp) : aH :=
 bnd (bO x0 h0) fun v1 h1 =>
  zQ r n v1 h1
noncomputable abbrev c205 : Code := cf Tryz.f205
noncomputable abbrev aHq : Code := cR c205
noncomputable abbrev cYk : Code := cR aHq
noncomputable abbrev zL : Code := cL aHq
noncomputable abbrev aQt : Code := cR zL
noncomputable abbrev aDn : Code := cL aQt
noncomputable abbrev zK : Code := cR aDn
noncomputable abbrev aAd : Code := cR zK
noncomputable abbrev cVn : Code := cR aAd
noncomputable abbrev bZs : Code := cL aAd
noncomputable abbrev cKc : Code := cL zK
noncomputable abbrev aWo : Code := cL aDn
noncomputable abbrev bBx : Code := cL zL
noncomputable abbrev aJy : Code := cL c205
noncomputable abbrev r205 : K := aR CF Tryz.f205
noncomputable def D205 (r : RT) (n : Nat) (c : Code) (X : Nat → K) (k : K) : K := aM CF r 19 n c X r205 k
theorem cKi : D205 r n cYk x0 r205 = (K0 (dB r n)) :=
 (by kernel_rfl)
theorem cEs : D205 r n cVn (xs x0 0 (K0 (dB r n))) (K0 (dB r n)) = (K2 (aGk r n) 1 13) :=
 (by kernel_rfl)
theorem bPm : D205 r n aAd (xs x0 0 (K0 (dB r n))) (K0 (dB r n)) = D205 r n bZs (xs x0 0 (K0 (dB r n))) (K2 (aGk r n) 1 13) :=
 congrArg (fun k => D205 r n bZs (xs x0 0 (K0 (dB r n))) k) (cEs r n)
theorem cQl : D205 r n aAd (xs x0 0 (K0 (dB r n))) (K0 (dB r n)) = (K2 (cAw r n) 1 4) :=
 (bPm r n).trans
 ((by kernel_rfl))
theorem cCz : D205 r n zK (xs x0 0 (K0 (dB r n))) (K0 (dB r n)) = (K3 (lT r n) 1 4 5) :=
 (by kernel_rfl : D205 r n zK (xs x0 0 (K0 (dB r n))) (K0 (dB r n)) = (fun (env : aV) (h : Hp) => aT (opr env (cC zK)) (D205 r n cKc (xs x0 0 (K0 (dB r n))) (K0 (dB r n)) env h) (D205 r n aAd (xs x0 0 (K0 (dB r n))) (K0 (dB r n)) env h))).trans (by rw [cQl r n]; kernel_rfl)
theorem bIh : D205 r n aDn (xs x0 0 (K0 (dB r n))) (K0 (dB r n)) = D205 r n aWo (xs x0 0 (K0 (dB r n))) (K3 (lT r n) 1 4 5) :=
 congrArg (fun k => D205 r n aWo (xs x0 0 (K0 (dB r n))) k) (cCz r n)
theorem cLa : D205 r n aQt x0 (K0 (dB r n)) = (K2 (aQc r n) 1 4) :=
 (by kernel_rfl : D205 r n aQt x0 (K0 (dB r n)) = D205 r n aDn (xs x0 0 (K0 (dB r n))) (K0 (dB r n))).trans
 ((bIh r n).trans
 ((by kernel_rfl)))
theorem bHn : D205 r n aHq x0 r205 = D205 r n zL x0 (K0 (dB r n)) :=
 congrArg (fun k => D205 r n zL x0 k) (cKi r n)
theorem bWu : D205 r n zL x0 (K0 (dB r n)) = D205 r n bBx x0 (K2 (aQc r n) 1 4) :=
 congrArg (fun k => D205 r n bBx x0 k) (cLa r n)
theorem cLc : D205 r n aHq x0 r205 = (K1 (zQ r n) 1) :=
 (bHn r n).trans
 ((bWu r n).trans
 ((by kernel_rfl)))
theorem cVa : D205 r n c205 x0 r205 = D205 r n aJy x0 (K1 (zQ r n) 1) :=
 congrArg (fun k => D205 r n aJy x0 k) (cLc r n)
theorem cYg (q0 : TT1) : D205 r n aJy x0 (K1 q0 1) = fun (env : aV) (h : Hp) =>
 bnd (bO (env 0) h) fun v1 h1 =>
  q0 v1 h1 := by kernel_rfl
theorem cGg : (fun (env : aV) (h : Hp) =>
 bnd (bO (env 0) h) fun v1 h1 =>
  zQ r n v1 h1) = (K1 (s205 r n) 0) := by kernel_rfl
theorem dIl : D205 r n c205 x0 r205 = (K1 (s205 r n) 0) :=
 (cVa r n).trans
 ((cYg r n (zQ r n)).trans (cGg r n))
theorem cYq : aF CF r n 205 args h = s205 r n (aU args 0) h :=
 (by kernel_rfl : aF CF r n 205 args h = D205 r n c205 x0 r205 (aI args) h).trans ((congrFun (congrFun (dIl r n) (aI args)) h).trans (by kernel_rfl))
noncomputable def s206 (r : RT) (n : Nat) (x0 x1 : DV) (h0 : Hp) : aH :=
 bnd (bN kM h0) fun v1 h1 =>
 bnd (bB kM [(0, 1, (aE 7)), (1, 1, x0), (5, 1, x1)] h1) fun v2 h2 =>
 bnd (aG 6 v1 v2 h2) fun _ h3 =>
 bnd (aK 6 v1 h3) fun v4 _ =>
 some (v4, h3)
noncomputable abbrev c206 : Code := cf Tryz.f206
noncomputable abbrev r206 : K := aR CF Tryz.f206
noncomputable def D206 (r : RT) (n : Nat) (c : Code) (X : Nat → K) (k : K) : K := aM CF r 8 n c X r206 k
theorem dKn : D206 r n c206 x0 r206 = (K2 (s206 r n) 0 1) :=
 (by kernel_rfl)
theorem dCe : aF CF r n 206 args h = s206 r n (aU args 0) (aU args 1) h :=
 (by kernel_rfl : aF CF r n 206 args h = D206 r n c206 x0 r206 (aI args) h).trans ((congrFun (congrFun (dKn r n) (aI args)) h).trans (by kernel_rfl))
noncomputable def lU (r : RT) (n : Nat) (x0 x2 x5 : DV) (h0 : Hp) : aH :=
 bnd (r 134 [x0] h0) fun v1 h1 =>
 bnd (aK 6 x5 h1) fun v2 h2 =>
 bnd (aG 6 x2 v2 h2) fun _ h3 =>
 bnd (aK 6 x2 h3) fun v4 _ =>
 some (.t [v4, (.b true)], h3)
noncomputable def qV (r : RT) (n : Nat) (x0 x2 x4 x5 : DV) (h0 : Hp) : aH :=
 bnd (aN x0 h0) fun v1 h1 =>
 bnd (aB 3 v1 h1) fun v2 h2 =>
 bnd (aA v2 h2) fun v3 h3 =>
 bnd (aD .neq v3 (aE 0) h3) fun v4 h4 =>
 aT v4 (
 bnd (aK 6 x5 h4) fun v5 h5 =>
 bnd (aG 6 x2 v5 h5) fun _ h6 =>
 bnd (aK 6 x2 h6) fun v7 _ =>
 some (.t [v7, (.b false)], h6)) (
 bnd (r 225 [x0] h4) fun v8 h8 =>
 aT v8 (
 bnd (r 134 [x0] h8) fun v9 h9 =>
 bnd (r 134 [x0] h9) fun v10 h10 =>
 bnd (fO 2 v10 h10) fun v11 h11 =>
 bnd (gQ .neg v11 h11) fun v12 h12 =>
 bnd (bB kM [(0, 1, (aE 1)), (2, 1, v12)] h12) fun v13 h13 =>
 bnd (aG 6 x2 v13 h13) fun _ h14 =>
 bnd (aK 6 x2 h14) fun v15 _ =>
 some (.t [v15, (.b true)], h14)) (
 bnd (aB 0 x4 h8) fun v16 h16 =>
 bnd (aA v16 h16) fun v17 h17 =>
 bnd (aD .eql v17 (aE 4) h17) fun v18 h18 =>
 aT v18 (
 bnd (aB 0 x5 h18) fun v19 h19 =>
 bnd (aG 1 v19 (aE 1) h19) fun _ h20 =>
    lU r n x0 x2 x5 h20) (
 bnd (aB 0 x4 h18) fun v21 h21 =>
 bnd (aA v21 h21) fun v22 h22 =>
 bnd (aD .eql v22 (aE 5) h22) fun v23 h23 =>
 aT v23 (
 bnd (aB 0 x5 h23) fun v24 h24 =>
 bnd (aG 1 v24 (aE 2) h24) fun _ h25 =>
     lU r n x0 x2 x5 h25) (
 bnd (aB 0 x4 h23) fun v26 h26 =>
 bnd (aA v26 h26) fun v27 h27 =>
 bnd (aD .eql v27 (aE 6) h27) fun v28 h28 =>
 aT v28 (
 bnd (aB 0 x5 h28) fun v29 h29 =>
 bnd (aG 1 v29 (aE 3) h29) fun _ h30 =>
      lU r n x0 x2 x5 h30) (
 bnd (aK 6 x5 h28) fun v31 h31 =>
 bnd (aG 6 x2 v31 h31) fun _ h32 =>
 bnd (aK 6 x2 h32) fun v33 _ =>
 some (.t [v33, (.b false)], h32))))))
noncomputable def qL (r : RT) (n : Nat) (x0 x2 x4 : DV) (h0 : Hp) : aH :=
 bnd (aB 1 x4 h0) fun v1 h1 =>
 bnd (aA v1 h1) fun v2 h2 =>
 bnd (aB 2 x4 h2) fun v3 h3 =>
 bnd (aA v3 h3) fun v4 h4 =>
 bnd (bB kM [(1, 1, v2), (2, 1, v4)] h4) fun v5 h5 =>
 bnd (bN kM h5) fun v6 h6 =>
 bnd (aG 6 v6 v5 h6) fun _ h7 =>
  qV r n x0 x2 x4 v6 h7
noncomputable def rC (r : RT) (n : Nat) (x0 x2 : DV) (h0 : Hp) : aH :=
 bnd (r 137 [x0, (aE 0)] h0) fun v1 h1 =>
 bnd (bN [(aE 0), (.s []), (aE 0), (aE 0)] h1) fun v2 h2 =>
 bnd (aG 4 v2 v1 h2) fun _ h3 =>
  qL r n x0 x2 v2 h3
noncomputable def s207 (r : RT) (n : Nat) (x0 : DV) (h0 : Hp) : aH :=
 bnd (bN kM h0) fun v1 h1 =>
  rC r n x0 v1 h1
noncomputable abbrev c207 : Code := cf Tryz.f207
noncomputable abbrev aFo : Code := cR c207
noncomputable abbrev aGr : Code := cR aFo
noncomputable abbrev aFf : Code := cR aGr
noncomputable abbrev cUo : Code := cR aFf
noncomputable abbrev aPq : Code := cL aFf
noncomputable abbrev aUc : Code := cL aGr
noncomputable abbrev aUf : Code := cL aFo
noncomputable abbrev aQi : Code := cL c207
noncomputable abbrev r207 : K := aR CF Tryz.f207
noncomputable def D207 (r : RT) (n : Nat) (c : Code) (X : Nat → K) (k : K) : K := aM CF r 49 n c X r207 k
theorem cKy : D207 r n cUo x0 r207 = (K3 (lU r n) 0 2 5) :=
 (by kernel_rfl)
theorem bSn : D207 r n aFf x0 r207 = D207 r n aPq x0 (K3 (lU r n) 0 2 5) :=
 congrArg (fun k => D207 r n aPq x0 k) (cKy r n)
theorem bYb (q0 : mF) : D207 r n aPq x0 (K3 q0 0 2 5) = fun (env : aV) (h : Hp) =>
 bnd (aN (env 0) h) fun v1 h1 =>
 bnd (aB 3 v1 h1) fun v2 h2 =>
 bnd (aA v2 h2) fun v3 h3 =>
 bnd (aD .neq v3 (aE 0) h3) fun v4 h4 =>
 aT v4 (
 bnd (aK 6 (env 5) h4) fun v5 h5 =>
 bnd (aG 6 (env 2) v5 h5) fun _ h6 =>
 bnd (aK 6 (env 2) h6) fun v7 _ =>
 some (.t [v7, (.b false)], h6)) (
 bnd (r 225 [(env 0)] h4) fun v8 h8 =>
 aT v8 (
 bnd (r 134 [(env 0)] h8) fun v9 h9 =>
 bnd (r 134 [(env 0)] h9) fun v10 h10 =>
 bnd (fO 2 v10 h10) fun v11 h11 =>
 bnd (gQ .neg v11 h11) fun v12 h12 =>
 bnd (bB kM [(0, 1, (aE 1)), (2, 1, v12)] h12) fun v13 h13 =>
 bnd (aG 6 (env 2) v13 h13) fun _ h14 =>
 bnd (aK 6 (env 2) h14) fun v15 _ =>
 some (.t [v15, (.b true)], h14)) (
 bnd (aB 0 (env 4) h8) fun v16 h16 =>
 bnd (aA v16 h16) fun v17 h17 =>
 bnd (aD .eql v17 (aE 4) h17) fun v18 h18 =>
 aT v18 (
 bnd (aB 0 (env 5) h18) fun v19 h19 =>
 bnd (aG 1 v19 (aE 1) h19) fun _ h20 =>
     q0 (env 0) (env 2) (env 5) h20) (
 bnd (aB 0 (env 4) h18) fun v21 h21 =>
 bnd (aA v21 h21) fun v22 h22 =>
 bnd (aD .eql v22 (aE 5) h22) fun v23 h23 =>
 aT v23 (
 bnd (aB 0 (env 5) h23) fun v24 h24 =>
 bnd (aG 1 v24 (aE 2) h24) fun _ h25 =>
      q0 (env 0) (env 2) (env 5) h25) (
 bnd (aB 0 (env 4) h23) fun v26 h26 =>
 bnd (aA v26 h26) fun v27 h27 =>
 bnd (aD .eql v27 (aE 6) h27) fun v28 h28 =>
 aT v28 (
 bnd (aB 0 (env 5) h28) fun v29 h29 =>
 bnd (aG 1 v29 (aE 3) h29) fun _ h30 =>
       q0 (env 0) (env 2) (env 5) h30) (
 bnd (aK 6 (env 5) h28) fun v31 h31 =>
 bnd (aG 6 (env 2) v31 h31) fun _ h32 =>
 bnd (aK 6 (env 2) h32) fun v33 _ =>
 some (.t [v33, (.b false)], h32)))))) := by kernel_rfl
theorem bDx : (fun (env : aV) (h : Hp) =>
 bnd (aN (env 0) h) fun v1 h1 =>
 bnd (aB 3 v1 h1) fun v2 h2 =>
 bnd (aA v2 h2) fun v3 h3 =>
 bnd (aD .neq v3 (aE 0) h3) fun v4 h4 =>
 aT v4 (
 bnd (aK 6 (env 5) h4) fun v5 h5 =>
 bnd (aG 6 (env 2) v5 h5) fun _ h6 =>
 bnd (aK 6 (env 2) h6) fun v7 _ =>
 some (.t [v7, (.b false)], h6)) (
 bnd (r 225 [(env 0)] h4) fun v8 h8 =>
 aT v8 (
 bnd (r 134 [(env 0)] h8) fun v9 h9 =>
 bnd (r 134 [(env 0)] h9) fun v10 h10 =>
 bnd (fO 2 v10 h10) fun v11 h11 =>
 bnd (gQ .neg v11 h11) fun v12 h12 =>
 bnd (bB kM [(0, 1, (aE 1)), (2, 1, v12)] h12) fun v13 h13 =>
 bnd (aG 6 (env 2) v13 h13) fun _ h14 =>
 bnd (aK 6 (env 2) h14) fun v15 _ =>
 some (.t [v15, (.b true)], h14)) (
 bnd (aB 0 (env 4) h8) fun v16 h16 =>
 bnd (aA v16 h16) fun v17 h17 =>
 bnd (aD .eql v17 (aE 4) h17) fun v18 h18 =>
 aT v18 (
 bnd (aB 0 (env 5) h18) fun v19 h19 =>
 bnd (aG 1 v19 (aE 1) h19) fun _ h20 =>
     lU r n (env 0) (env 2) (env 5) h20) (
 bnd (aB 0 (env 4) h18) fun v21 h21 =>
 bnd (aA v21 h21) fun v22 h22 =>
 bnd (aD .eql v22 (aE 5) h22) fun v23 h23 =>
 aT v23 (
 bnd (aB 0 (env 5) h23) fun v24 h24 =>
 bnd (aG 1 v24 (aE 2) h24) fun _ h25 =>
      lU r n (env 0) (env 2) (env 5) h25) (
 bnd (aB 0 (env 4) h23) fun v26 h26 =>
 bnd (aA v26 h26) fun v27 h27 =>
 bnd (aD .eql v27 (aE 6) h27) fun v28 h28 =>
 aT v28 (
 bnd (aB 0 (env 5) h28) fun v29 h29 =>
 bnd (aG 1 v29 (aE 3) h29) fun _ h30 =>
       lU r n (env 0) (env 2) (env 5) h30) (
 bnd (aK 6 (env 5) h28) fun v31 h31 =>
 bnd (aG 6 (env 2) v31 h31) fun _ h32 =>
 bnd (aK 6 (env 2) h32) fun v33 _ =>
 some (.t [v33, (.b false)], h32))))))) = (K4 (qV r n) 0 2 4 5) := by kernel_rfl
theorem cQz : D207 r n aFf x0 r207 = (K4 (qV r n) 0 2 4 5) :=
 (bSn r n).trans
 ((bYb r n (lU r n)).trans (bDx r n))
theorem bPz : D207 r n aGr x0 r207 = D207 r n aUc x0 (K4 (qV r n) 0 2 4 5) :=
 congrArg (fun k => D207 r n aUc x0 k) (cQz r n)
theorem bNq (q0 : dN) : D207 r n aUc x0 (K4 q0 0 2 4 5) = fun (env : aV) (h : Hp) =>
 bnd (aB 1 (env 4) h) fun v1 h1 =>
 bnd (aA v1 h1) fun v2 h2 =>
 bnd (aB 2 (env 4) h2) fun v3 h3 =>
 bnd (aA v3 h3) fun v4 h4 =>
 bnd (bB kM [(1, 1, v2), (2, 1, v4)] h4) fun v5 h5 =>
 bnd (bN kM h5) fun v6 h6 =>
 bnd (aG 6 v6 v5 h6) fun _ h7 =>
  q0 (env 0) (env 2) (env 4) v6 h7 := by kernel_rfl
theorem bFx : (fun (env : aV) (h : Hp) =>
 bnd (aB 1 (env 4) h) fun v1 h1 =>
 bnd (aA v1 h1) fun v2 h2 =>
 bnd (aB 2 (env 4) h2) fun v3 h3 =>
 bnd (aA v3 h3) fun v4 h4 =>
 bnd (bB kM [(1, 1, v2), (2, 1, v4)] h4) fun v5 h5 =>
 bnd (bN kM h5) fun v6 h6 =>
 bnd (aG 6 v6 v5 h6) fun _ h7 =>
  qV r n (env 0) (env 2) (env 4) v6 h7) = (K3 (qL r n) 0 2 4) := by kernel_rfl
theorem cOb : D207 r n aGr x0 r207 = (K3 (qL r n) 0 2 4) :=
 (bPz r n).trans
 ((bNq r n (qV r n)).trans (bFx r n))
theorem bYq : D207 r n aFo x0 r207 = D207 r n aUf x0 (K3 (qL r n) 0 2 4) :=
 congrArg (fun k => D207 r n aUf x0 k) (cOb r n)
theorem bRt (q0 : mF) : D207 r n aUf x0 (K3 q0 0 2 4) = fun (env : aV) (h : Hp) =>
 bnd (r 137 [(env 0), (aE 0)] h) fun v1 h1 =>
 bnd (bN [(aE 0), (.s []), (aE 0), (aE 0)] h1) fun v2 h2 =>
 bnd (aG 4 v2 v1 h2) fun _ h3 =>
  q0 (env 0) (env 2) v2 h3 := by kernel_rfl
theorem bGu : (fun (env : aV) (h : Hp) =>
 bnd (r 137 [(env 0), (aE 0)] h) fun v1 h1 =>
 bnd (bN [(aE 0), (.s []), (aE 0), (aE 0)] h1) fun v2 h2 =>
 bnd (aG 4 v2 v1 h2) fun _ h3 =>
  qL r n (env 0) (env 2) v2 h3) = (K2 (rC r n) 0 2) := by kernel_rfl
theorem cHv : D207 r n aFo x0 r207 = (K2 (rC r n) 0 2) :=
 (bYq r n).trans
 ((bRt r n (qL r n)).trans (bGu r n))
theorem cXb : D207 r n c207 x0 r207 = D207 r n aQi x0 (K2 (rC r n) 0 2) :=
 congrArg (fun k => D207 r n aQi x0 k) (cHv r n)
theorem dBy (q0 : pB) : D207 r n aQi x0 (K2 q0 0 2) = fun (env : aV) (h : Hp) =>
 bnd (bN kM h) fun v1 h1 =>
  q0 (env 0) v1 h1 := by kernel_rfl
theorem cBo : (fun (env : aV) (h : Hp) =>
 bnd (bN kM h) fun v1 h1 =>
  rC r n (env 0) v1 h1) = (K1 (s207 r n) 0) := by kernel_rfl
theorem dGi : D207 r n c207 x0 r207 = (K1 (s207 r n) 0) :=
 (cXb r n).trans
 ((dBy r n (rC r n)).trans (cBo r n))
theorem dDs : aF CF r n 207 args h = s207 r n (aU args 0) h :=
 (by kernel_rfl : aF CF r n 207 args h = D207 r n c207 x0 r207 (aI args) h).trans ((congrFun (congrFun (dGi r n) (aI args)) h).trans (by kernel_rfl))
noncomputable def s208 (r : RT) (n : Nat) (x0 x1 : DV) (h0 : Hp) : aH :=
 bnd (bN kM h0) fun v1 h1 =>
 bnd (r 134 [x0] h1) fun v2 h2 =>
 bnd (bN [(aE 0), (.s []), (aE 0), (aE 0)] h2) fun v3 h3 =>
 bnd (aG 4 v3 v2 h3) fun _ h4 =>
 bnd (aN x0 h4) fun v5 h5 =>
 bnd (aB 1 v5 h5) fun v6 h6 =>
 bnd (aA v6 h6) fun v7 h7 =>
 bnd (aD .eql v7 (aE 20) h7) fun v8 h8 =>
 aT v8 (
 bnd (aK 4 v3 h8) fun v9 h9 =>
 bnd (r 136 [x0, v9, (aE 14)] h9) fun v10 h10 =>
 bnd (bB kM [] h10) fun v11 h11 =>
 bnd (aG 6 v1 v11 h11) fun _ h12 =>
 bnd (aK 6 v1 h12) fun v13 _ =>
 some (v13, h12)) (
 bnd (aN x0 h8) fun v14 h14 =>
 bnd (aB 1 v14 h14) fun v15 h15 =>
 bnd (aA v15 h15) fun v16 h16 =>
 bnd (aD .add v16 (aE 1) h16) fun v17 h17 =>
 bnd (aN x0 h17) fun v18 h18 =>
 bnd (aB 1 v18 h18) fun v19 h19 =>
 bnd (aG 1 v19 v17 h19) fun _ h20 =>
 bnd (cX CF r x1 [] h20) fun v21 h21 =>
 bnd (bN kM h21) fun v22 h22 =>
 bnd (aG 6 v22 v21 h22) fun _ h23 =>
 bnd (aN x0 h23) fun v24 h24 =>
 bnd (aB 1 v24 h24) fun v25 h25 =>
 bnd (aA v25 h25) fun v26 h26 =>
 bnd (aD .sub v26 (aE 1) h26) fun v27 h27 =>
 bnd (aN x0 h27) fun v28 h28 =>
 bnd (aB 1 v28 h28) fun v29 h29 =>
 bnd (aG 1 v29 v27 h29) fun _ h30 =>
 bnd (aK 6 v22 h30) fun v31 h31 =>
 bnd (aG 6 v1 v31 h31) fun _ h32 =>
 bnd (aK 6 v1 h32) fun v33 _ =>
 some (v33, h32))
noncomputable abbrev c208 : Code := cf Tryz.f208
noncomputable abbrev r208 : K := aR CF Tryz.f208
noncomputable def D208 (r : RT) (n : Nat) (c : Code) (X : Nat → K) (k : K) : K := aM CF r 35 n c X r208 k
theorem dLm : D208 r n c208 x0 r208 = (K2 (s208 r n) 0 1) :=
 (by kernel_rfl)
theorem cUu : aF CF r n 208 args h = s208 r n (aU args 0) (aU args 1) h :=
 (by kernel_rfl : aF CF r n 208 args h = D208 r n c208 x0 r208 (aI args) h).trans ((congrFun (congrFun (dLm r n) (aI args)) h).trans (by kernel_rfl))
noncomputable def s223 (r : RT) (n : Nat) (x0 : DV) (h0 : Hp) : aH :=
 bnd (bO x0 h0) fun v1 h1 =>
 bnd (aB 0 v1 h1) fun v2 h2 =>
 bnd (aA v2 h2) fun v3 h3 =>
 bnd (aD .eql v3 (aE 5) h3) fun v4 h4 =>
 bnd (gD v4 true (aB 1 v1 h4) h4) fun v5 h5 =>
 bnd (gD v4 true (aA v5 h5) h5) fun v6 h6 =>
 bnd (gD v4 true (fN .eql v6 (.s [115, 117, 112, 101, 114]) h6) h6) fun v7 h7 =>
 bnd (aP v4 v7 (.b false) h7) fun v8 h8 =>
 some (v8, h8)
noncomputable abbrev c223 : Code := cf Tryz.f223
noncomputable abbrev r223 : K := aR CF Tryz.f223
noncomputable def D223 (r : RT) (n : Nat) (c : Code) (X : Nat → K) (k : K) : K := aM CF r 11 n c X r223 k
theorem dLl : D223 r n c223 x0 r223 = (K1 (s223 r n) 0) :=
 (by kernel_rfl)
theorem dEo : aF CF r n 223 args h = s223 r n (aU args 0) h :=
 (by kernel_rfl : aF CF r n 223 args h = D223 r n c223 x0 r223 (aI args) h).trans ((congrFun (congrFun (dLl r n) (aI args)) h).trans (by kernel_rfl))
noncomputable def s224 (r : RT) (n : Nat) (x0 : DV) (h0 : Hp) : aH :=
 bnd (aD .eql x0 (aE 16) h0) fun v1 h1 =>
 bnd (gD v1 false (some (x0, h1)) h1) fun v2 h2 =>
 bnd (gD v1 false (aD .eql v2 (aE 17) h2) h2) fun v3 h3 =>
 bnd (aP v1 (.b true) v3 h3) fun v4 h4 =>
 some (v4, h4)
noncomputable abbrev c224 : Code := cf Tryz.f224
noncomputable abbrev r224 : K := aR CF Tryz.f224
noncomputable def D224 (r : RT) (n : Nat) (c : Code) (X : Nat → K) (k : K) : K := aM CF r 9 n c X r224 k
theorem dMp : D224 r n c224 x0 r224 = (K1 (s224 r n) 0) :=
 (by kernel_rfl)
theorem dAq : aF CF r n 224 args h = s224 r n (aU args 0) h :=
 (by kernel_rfl : aF CF r n 224 args h = D224 r n c224 x0 r224 (aI args) h).trans ((congrFun (congrFun (dMp r n) (aI args)) h).trans (by kernel_rfl))
noncomputable def s225 (r : RT) (n : Nat) (x0 : DV) (h0 : Hp) : aH :=
 bnd (r 137 [x0, (aE 1)] h0) fun v1 h1 =>
 bnd (bN [(aE 0), (.s []), (aE 0), (aE 0)] h1) fun v2 h2 =>
 bnd (aG 4 v2 v1 h2) fun _ h3 =>
 bnd (r 133 [x0, (aE 3), (.s [45])] h3) fun v4 h4 =>
 bnd (gD v4 true (aB 0 v2 h4) h4) fun v5 h5 =>
 bnd (gD v4 true (aA v5 h5) h5) fun v6 h6 =>
 bnd (gD v4 true (aD .eql v6 (aE 4) h6) h6) fun v7 h7 =>
 bnd (aP v4 v7 (.b false) h7) fun v8 h8 =>
 bnd (gD v8 true (aB 3 v2 h8) h8) fun v9 h9 =>
 bnd (gD v8 true (aA v9 h9) h9) fun v10 h10 =>
 bnd (gD v8 true (some (x0, h10)) h10) fun v11 h11 =>
 bnd (gD v8 true (r 137 [v11, (aE 0)] h11) h11) fun v12 h12 =>
 cnd (bG (gD v8 true (aA v9 h12) h12) v10 && true) (
 bnd (gD v8 true (fO 3 v12 h12) h12) fun v13 h13 =>
 bnd (gD v8 true (aD .add v13 (aE 1) h13) h13) fun v14 h14 =>
 bnd (gD v8 true (aD .eql v10 v14 h14) h14) fun v15 h15 =>
 bnd (aP v8 v15 (.b false) h15) fun v16 h16 =>
 some (v16, h16))
noncomputable abbrev c225 : Code := cf Tryz.f225
noncomputable abbrev r225 : K := aR CF Tryz.f225
noncomputable def D225 (r : RT) (n : Nat) (c : Code) (X : Nat → K) (k : K) : K := aM CF r 22 n c X r225 k
theorem dKm : D225 r n c225 x0 r225 = (K1 (s225 r n) 0) :=
 (by kernel_rfl)
theorem dCw : aF CF r n 225 args h = s225 r n (aU args 0) h :=
 (by kernel_rfl : aF CF r n 225 args h = D225 r n c225 x0 r225 (aI args) h).trans ((congrFun (congrFun (dKm r n) (aI args)) h).trans (by kernel_rfl))
end Go.Dd

namespace Go.Dd
open Go.Proofs
section
variable (ih : RT) (m : Nat) (f : FuncId) (args : List DV) (h : Hp)
theorem cU {i : Nat} {s r : aH} (e1 : s = aF CF ih m i args h) (e2 : r = aF CF ih m f args h) : (bif Nat.beq f i then s else r) = aF CF ih m f args h := by
 cases e : Nat.beq f i with
 | false => exact e2
 | true => cases Nat.eq_of_beq_eq_true e; exact e1
theorem ndC {i : Nat} {a b : aH} (e1 : a = aF CF ih m f args h) (e2 : b = aF CF ih m f args h) : (bif Nat.blt f i then a else b) = aF CF ih m f args h := by
 cases Nat.blt f i with
 | false => exact e2
 | true => exact e1
noncomputable def qg0 : aH := bif Nat.beq f 12 then s12 ih m h else bif Nat.beq f 13 then s13 ih m h else bif Nat.beq f 14 then s14 ih m (aU args 0) (aU args 1) h else bif Nat.beq f 15 then s15 ih m (aU args 0) (aU args 1) h else bif Nat.beq f 16 then s16 ih m (aU args 0) (aU args 1) (aU args 2) (aU args 3) h else bif Nat.beq f 17 then s17 ih m (aU args 0) h else bif Nat.beq f 23 then s23 ih m (aU args 0) h else bif Nat.beq f 25 then s25 ih m (aU args 0) (aU args 1) h else aF CF ih m f args h
theorem dNg : qg0 ih m f args h = aF CF ih m f args h := cU ih m f args h (cSu ih m args h).symm (cU ih m f args h (cRm ih m args h).symm (cU ih m f args h (cRq ih m args h).symm (cU ih m f args h (cRr ih m args h).symm (cU ih m f args h (cRc ih m args h).symm (cU ih m f args h (dMd ih m args h).symm (cU ih m f args h (cSn ih m args h).symm (cU ih m f args h (cRv ih m args h).symm rfl)))))))
noncomputable def qg1 : aH := bif Nat.beq f 26 then s26 ih m (aU args 0) (aU args 1) h else bif Nat.beq f 29 then s29 ih m (aU args 0) (aU args 1) h else bif Nat.beq f 30 then s30 ih m (aU args 0) (aU args 1) h else bif Nat.beq f 32 then s32 ih m (aU args 0) (aU args 1) h else bif Nat.beq f 33 then s33 ih m (aU args 0) (aU args 1) h else bif Nat.beq f 34 then s34 ih m (aU args 0) (aU args 1) h else bif Nat.beq f 35 then s35 ih m (aU args 0) (aU args 1) h else bif Nat.beq f 36 then s36 ih m (aU args 0) h else aF CF ih m f args h
theorem dOc : qg1 ih m f args h = aF CF ih m f args h := cU ih m f args h (cRg ih m args h).symm (cU ih m f args h (cSe ih m args h).symm (cU ih m f args h (bQw ih m args h).symm (cU ih m f args h (dJt ih m args h).symm (cU ih m f args h (dMh ih m args h).symm (cU ih m f args h (dMb ih m args h).symm (cU ih m f args h (dKv ih m args h).symm (cU ih m f args h (dJh ih m args h).symm rfl)))))))
noncomputable def qg2 : aH := bif Nat.beq f 37 then s37 ih m (aU args 0) (aU args 1) h else bif Nat.beq f 39 then s39 ih m (aU args 0) h else bif Nat.beq f 40 then s40 ih m (aU args 0) h else bif Nat.beq f 42 then s42 ih m (aU args 0) (aU args 1) h else bif Nat.beq f 43 then s43 ih m (aU args 0) (aU args 1) h else bif Nat.beq f 44 then s44 ih m (aU args 0) (aU args 1) h else bif Nat.beq f 45 then s45 ih m (aU args 0) (aU args 1) h else bif Nat.beq f 46 then s46 ih m (aU args 0) (aU args 1) h else aF CF ih m f args h
theorem dNv : qg2 ih m f args h = aF CF ih m f args h := cU ih m f args h (dIo ih m args h).symm (cU ih m f args h (cSb ih m args h).symm (cU ih m f args h (dGe ih m args h).symm (cU ih m f args h (cSr ih m args h).symm (cU ih m f args h (cRl ih m args h).symm (cU ih m f args h (cSa ih m args h).symm (cU ih m f args h (cRj ih m args h).symm (cU ih m f args h (cRx ih m args h).symm rfl)))))))
noncomputable def qg3 : aH := bif Nat.beq f 51 then s51 ih m (aU args 0) (aU args 1) (aU args 2) h else bif Nat.beq f 52 then s52 ih m (aU args 0) (aU args 1) h else bif Nat.beq f 53 then s53 ih m (aU args 0) (aU args 1) h else bif Nat.beq f 54 then s54 ih m h else bif Nat.beq f 56 then s56 ih m (aU args 0) h else bif Nat.beq f 57 then s57 ih m (aU args 0) h else bif Nat.beq f 58 then s58 ih m (aU args 0) h else bif Nat.beq f 60 then s60 ih m (aU args 0) h else aF CF ih m f args h
theorem dPh : qg3 ih m f args h = aF CF ih m f args h := cU ih m f args h (cSo ih m args h).symm (cU ih m f args h (bUr ih m args h).symm (cU ih m f args h (cSg ih m args h).symm (cU ih m f args h (bGz ih m args h).symm (cU ih m f args h (dMg ih m args h).symm (cU ih m f args h (cRe ih m args h).symm (cU ih m f args h (dId ih m args h).symm (cU ih m f args h (dFe ih m args h).symm rfl)))))))
noncomputable def qg4 : aH := bif Nat.beq f 61 then s61 ih m (aU args 0) h else bif Nat.beq f 67 then s67 ih m (aU args 0) (aU args 1) h else bif Nat.beq f 71 then s71 ih m (aU args 0) h else bif Nat.beq f 73 then s73 ih m (aU args 0) (aU args 1) (aU args 2) h else bif Nat.beq f 75 then s75 ih m (aU args 0) (aU args 1) (aU args 2) h else bif Nat.beq f 77 then s77 ih m (aU args 0) (aU args 1) h else bif Nat.beq f 82 then s82 ih m (aU args 0) (aU args 1) (aU args 2) (aU args 3) h else bif Nat.beq f 83 then s83 ih m (aU args 0) (aU args 1) (aU args 2) h else aF CF ih m f args h
theorem dPn : qg4 ih m f args h = aF CF ih m f args h := cU ih m f args h (dHr ih m args h).symm (cU ih m f args h (dFo ih m args h).symm (cU ih m f args h (dLh ih m args h).symm (cU ih m f args h (cSp ih m args h).symm (cU ih m f args h (dFv ih m args h).symm (cU ih m f args h (dKf ih m args h).symm (cU ih m f args h (cRs ih m args h).symm (cU ih m f args h (cSc ih m args h).symm rfl)))))))
noncomputable def qg5 : aH := bif Nat.beq f 84 then s84 ih m (aU args 0) (aU args 1) h else bif Nat.beq f 89 then s89 ih m (aU args 0) (aU args 1) h else bif Nat.beq f 95 then s95 ih m (aU args 0) h else bif Nat.beq f 96 then s96 ih m (aU args 0) (aU args 1) h else bif Nat.beq f 97 then s97 ih m (aU args 0) h else bif Nat.beq f 98 then s98 ih m (aU args 0) (aU args 1) h else bif Nat.beq f 99 then s99 ih m (aU args 0) h else bif Nat.beq f 100 then s100 ih m (aU args 0) (aU args 1) h else aF CF ih m f args h
theorem dRe : qg5 ih m f args h = aF CF ih m f args h := cU ih m f args h (cRw ih m args h).symm (cU ih m f args h (bOe ih m args h).symm (cU ih m f args h (dIj ih m args h).symm (cU ih m f args h (cSl ih m args h).symm (cU ih m f args h (cRo ih m args h).symm (cU ih m f args h (cRz ih m args h).symm (cU ih m f args h (dKo ih m args h).symm (cU ih m f args h (cXd ih m args h).symm rfl)))))))
noncomputable def qg6 : aH := bif Nat.beq f 101 then s101 ih m (aU args 0) (aU args 1) (aU args 2) h else bif Nat.beq f 109 then s109 ih m (aU args 0) (aU args 1) (aU args 2) h else bif Nat.beq f 110 then s110 ih m (aU args 0) (aU args 1) h else bif Nat.beq f 111 then s111 ih m (aU args 0) h else bif Nat.beq f 112 then s112 ih m (aU args 0) (aU args 1) (aU args 2) h else bif Nat.beq f 113 then s113 ih m (aU args 0) (aU args 1) (aU args 2) h else bif Nat.beq f 114 then s114 ih m (aU args 0) (aU args 1) (aU args 2) (aU args 3) h else bif Nat.beq f 117 then s117 ih m (aU args 0) h else aF CF ih m f args h
theorem dOy : qg6 ih m f args h = aF CF ih m f args h := cU ih m f args h (cWg ih m args h).symm (cU ih m f args h (bKn ih m args h).symm (cU ih m f args h (dEt ih m args h).symm (cU ih m f args h (cTl ih m args h).symm (cU ih m f args h (cWk ih m args h).symm (cU ih m f args h (cTg ih m args h).symm (cU ih m f args h (dAx ih m args h).symm (cU ih m f args h (cXg ih m args h).symm rfl)))))))
noncomputable def qg7 : aH := bif Nat.beq f 120 then s120 ih m (aU args 0) (aU args 1) (aU args 2) h else bif Nat.beq f 121 then s121 ih m (aU args 0) (aU args 1) h else bif Nat.beq f 123 then s123 ih m (aU args 0) (aU args 1) (aU args 2) h else bif Nat.beq f 124 then s124 ih m (aU args 0) h else bif Nat.beq f 125 then s125 ih m (aU args 0) (aU args 1) h else bif Nat.beq f 126 then s126 ih m (aU args 0) (aU args 1) h else bif Nat.beq f 127 then s127 ih m (aU args 0) h else bif Nat.beq f 128 then s128 ih m (aU args 0) (aU args 1) h else aF CF ih m f args h
theorem dPp : qg7 ih m f args h = aF CF ih m f args h := cU ih m f args h (cZr ih m args h).symm (cU ih m f args h (cWi ih m args h).symm (cU ih m f args h (cUz ih m args h).symm (cU ih m f args h (cZb ih m args h).symm (cU ih m f args h (cYv ih m args h).symm (cU ih m f args h (dEx ih m args h).symm (cU ih m f args h (dEm ih m args h).symm (cU ih m f args h (cXf ih m args h).symm rfl)))))))
noncomputable def qg8 : aH := bif Nat.beq f 129 then s129 ih m (aU args 0) (aU args 1) (aU args 2) h else bif Nat.beq f 130 then s130 ih m (aU args 0) h else bif Nat.beq f 131 then s131 ih m (aU args 0) (aU args 1) h else bif Nat.beq f 132 then s132 ih m (aU args 0) h else bif Nat.beq f 133 then s133 ih m (aU args 0) (aU args 1) (aU args 2) h else bif Nat.beq f 134 then s134 ih m (aU args 0) h else bif Nat.beq f 135 then s135 ih m (aU args 0) h else bif Nat.beq f 137 then s137 ih m (aU args 0) (aU args 1) h else aF CF ih m f args h
theorem dOs : qg8 ih m f args h = aF CF ih m f args h := cU ih m f args h (cTr ih m args h).symm (cU ih m f args h (cWw ih m args h).symm (cU ih m f args h (cTu ih m args h).symm (cU ih m f args h (cYc ih m args h).symm (cU ih m f args h (dEi ih m args h).symm (cU ih m f args h (cUm ih m args h).symm (cU ih m f args h (cTh ih m args h).symm (cU ih m f args h (dBk ih m args h).symm rfl)))))))
noncomputable def qg9 : aH := bif Nat.beq f 138 then s138 ih m (aU args 0) (aU args 1) (aU args 2) h else bif Nat.beq f 139 then s139 ih m (aU args 0) (aU args 1) (aU args 2) h else bif Nat.beq f 140 then s140 ih m (aU args 0) (aU args 1) h else bif Nat.beq f 141 then s141 ih m (aU args 0) (aU args 1) (aU args 2) (aU args 3) h else bif Nat.beq f 142 then s142 ih m (aU args 0) h else bif Nat.beq f 143 then s143 ih m (aU args 0) (aU args 1) h else bif Nat.beq f 144 then s144 ih m (aU args 0) (aU args 1) h else bif Nat.beq f 145 then s145 ih m (aU args 0) (aU args 1) h else aF CF ih m f args h
theorem dNt : qg9 ih m f args h = aF CF ih m f args h := cU ih m f args h (dDt ih m args h).symm (cU ih m f args h (dCz ih m args h).symm (cU ih m f args h (cUv ih m args h).symm (cU ih m f args h (cYh ih m args h).symm (cU ih m f args h (dCf ih m args h).symm (cU ih m f args h (dDw ih m args h).symm (cU ih m f args h (dCl ih m args h).symm (cU ih m f args h (cXp ih m args h).symm rfl)))))))
noncomputable def dHk : aH := bif Nat.beq f 146 then s146 ih m (aU args 0) (aU args 1) h else bif Nat.beq f 147 then s147 ih m (aU args 0) (aU args 1) h else bif Nat.beq f 148 then s148 ih m (aU args 0) h else bif Nat.beq f 149 then s149 ih m (aU args 0) h else bif Nat.beq f 150 then s150 ih m (aU args 0) h else bif Nat.beq f 151 then s151 ih m (aU args 0) h else bif Nat.beq f 152 then s152 ih m (aU args 0) h else bif Nat.beq f 156 then s156 ih m (aU args 0) (aU args 1) h else aF CF ih m f args h
theorem dGv : dHk ih m f args h = aF CF ih m f args h := cU ih m f args h (dAh ih m args h).symm (cU ih m f args h (cWd ih m args h).symm (cU ih m f args h (cTq ih m args h).symm (cU ih m f args h (dBu ih m args h).symm (cU ih m f args h (dBv ih m args h).symm (cU ih m f args h (cZq ih m args h).symm (cU ih m f args h (cWs ih m args h).symm (cU ih m f args h (cZt ih m args h).symm rfl)))))))
noncomputable def dIq : aH := bif Nat.beq f 157 then s157 ih m (aU args 0) h else bif Nat.beq f 161 then s161 ih m (aU args 0) (aU args 1) h else bif Nat.beq f 163 then s163 ih m (aU args 0) (aU args 1) h else bif Nat.beq f 167 then s167 ih m (aU args 0) (aU args 1) h else bif Nat.beq f 168 then s168 ih m (aU args 0) (aU args 1) (aU args 2) h else bif Nat.beq f 169 then s169 ih m (aU args 0) (aU args 1) h else bif Nat.beq f 170 then s170 ih m (aU args 0) h else bif Nat.beq f 171 then s171 ih m (aU args 0) (aU args 1) h else aF CF ih m f args h
theorem dLu : dIq ih m f args h = aF CF ih m f args h := cU ih m f args h (dBf ih m args h).symm (cU ih m f args h (cWt ih m args h).symm (cU ih m f args h (dDv ih m args h).symm (cU ih m f args h (cTv ih m args h).symm (cU ih m f args h (dBd ih m args h).symm (cU ih m f args h (dAg ih m args h).symm (cU ih m f args h (cVy ih m args h).symm (cU ih m f args h (cTc ih m args h).symm rfl)))))))
noncomputable def dGq : aH := bif Nat.beq f 172 then s172 ih m (aU args 0) (aU args 1) (aU args 2) h else bif Nat.beq f 173 then s173 ih m (aU args 0) h else bif Nat.beq f 174 then s174 ih m (aU args 0) (aU args 1) h else bif Nat.beq f 175 then s175 ih m (aU args 0) (aU args 1) h else bif Nat.beq f 177 then s177 ih m (aU args 0) h else bif Nat.beq f 182 then s182 ih m (aU args 0) h else bif Nat.beq f 185 then s185 ih m (aU args 0) (aU args 1) h else bif Nat.beq f 186 then s186 ih m (aU args 0) (aU args 1) h else aF CF ih m f args h
theorem dFw : dGq ih m f args h = aF CF ih m f args h := cU ih m f args h (cXe ih m args h).symm (cU ih m f args h (cWr ih m args h).symm (cU ih m f args h (dAj ih m args h).symm (cU ih m f args h (cVr ih m args h).symm (cU ih m f args h (dBx ih m args h).symm (cU ih m f args h (dDd ih m args h).symm (cU ih m f args h (cWv ih m args h).symm (cU ih m f args h (cYr ih m args h).symm rfl)))))))
noncomputable def dGf : aH := bif Nat.beq f 187 then s187 ih m (aU args 0) (aU args 1) h else bif Nat.beq f 188 then s188 ih m (aU args 0) (aU args 1) h else bif Nat.beq f 189 then s189 ih m (aU args 0) (aU args 1) h else bif Nat.beq f 191 then s191 ih m (aU args 0) (aU args 1) h else bif Nat.beq f 192 then s192 ih m (aU args 0) (aU args 1) h else bif Nat.beq f 195 then s195 ih m (aU args 0) (aU args 1) h else bif Nat.beq f 196 then s196 ih m (aU args 0) h else bif Nat.beq f 200 then s200 ih m (aU args 0) (aU args 1) h else aF CF ih m f args h
theorem dKb : dGf ih m f args h = aF CF ih m f args h := cU ih m f args h (cWh ih m args h).symm (cU ih m f args h (dBo ih m args h).symm (cU ih m f args h (dCb ih m args h).symm (cU ih m f args h (dAu ih m args h).symm (cU ih m f args h (dDh ih m args h).symm (cU ih m f args h (cXh ih m args h).symm (cU ih m f args h (dEh ih m args h).symm (cU ih m f args h (cVq ih m args h).symm rfl)))))))
noncomputable def dIx : aH := bif Nat.beq f 201 then s201 ih m (aU args 0) (aU args 1) h else bif Nat.beq f 202 then s202 ih m (aU args 0) h else bif Nat.beq f 203 then s203 ih m (aU args 0) (aU args 1) (aU args 2) (aU args 3) (aU args 4) (aU args 5) (aU args 6) (aU args 7) h else bif Nat.beq f 204 then s204 ih m (aU args 0) h else bif Nat.beq f 205 then s205 ih m (aU args 0) h else bif Nat.beq f 206 then s206 ih m (aU args 0) (aU args 1) h else bif Nat.beq f 207 then s207 ih m (aU args 0) h else bif Nat.beq f 208 then s208 ih m (aU args 0) (aU args 1) h else aF CF ih m f args h
theorem dLs : dIx ih m f args h = aF CF ih m f args h := cU ih m f args h (dDb ih m args h).symm (cU ih m f args h (cZc ih m args h).symm (cU ih m f args h (dAw ih m args h).symm (cU ih m f args h (cVv ih m args h).symm (cU ih m f args h (cYq ih m args h).symm (cU ih m f args h (dCe ih m args h).symm (cU ih m f args h (dDs ih m args h).symm (cU ih m f args h (cUu ih m args h).symm rfl)))))))
noncomputable def dKu : aH := bif Nat.beq f 223 then s223 ih m (aU args 0) h else bif Nat.beq f 224 then s224 ih m (aU args 0) h else bif Nat.beq f 225 then s225 ih m (aU args 0) h else aF CF ih m f args h
theorem dHp : dKu ih m f args h = aF CF ih m f args h := cU ih m f args h (dEo ih m args h).symm (cU ih m f args h (dAq ih m args h).symm (cU ih m f args h (dCw ih m args h).symm rfl))
noncomputable def qd0 : aH := bif Nat.blt f 26 then qg0 ih m f args h else qg1 ih m f args h
theorem dRo : qd0 ih m f args h = aF CF ih m f args h := ndC ih m f args h (dNg ih m f args h) (dOc ih m f args h)
noncomputable def qd1 : aH := bif Nat.blt f 51 then qg2 ih m f args h else qg3 ih m f args h
theorem dOg : qd1 ih m f args h = aF CF ih m f args h := ndC ih m f args h (dNv ih m f args h) (dPh ih m f args h)
noncomputable def qd2 : aH := bif Nat.blt f 37 then qd0 ih m f args h else qd1 ih m f args h
theorem dRc : qd2 ih m f args h = aF CF ih m f args h := ndC ih m f args h (dRo ih m f args h) (dOg ih m f args h)
noncomputable def qd3 : aH := bif Nat.blt f 84 then qg4 ih m f args h else qg5 ih m f args h
theorem dSi : qd3 ih m f args h = aF CF ih m f args h := ndC ih m f args h (dPn ih m f args h) (dRe ih m f args h)
noncomputable def qd4 : aH := bif Nat.blt f 120 then qg6 ih m f args h else qg7 ih m f args h
theorem dNp : qd4 ih m f args h = aF CF ih m f args h := ndC ih m f args h (dOy ih m f args h) (dPp ih m f args h)
noncomputable def qd5 : aH := bif Nat.blt f 101 then qd3 ih m f args h else qd4 ih m f args h
theorem dOv : qd5 ih m f args h = aF CF ih m f args h := ndC ih m f args h (dSi ih m f args h) (dNp ih m f args h)
noncomputable def qd6 : aH := bif Nat.blt f 61 then qd2 ih m f args h else qd5 ih m f args h
theorem dPq : qd6 ih m f args h = aF CF ih m f args h := ndC ih m f args h (dRc ih m f args h) (dOv ih m f args h)
noncomputable def qd7 : aH := bif Nat.blt f 138 then qg8 ih m f args h else qg9 ih m f args h
theorem dPo : qd7 ih m f args h = aF CF ih m f args h := ndC ih m f args h (dOs ih m f args h) (dNt ih m f args h)
noncomputable def qd8 : aH := bif Nat.blt f 157 then dHk ih m f args h else dIq ih m f args h
theorem dNr : qd8 ih m f args h = aF CF ih m f args h := ndC ih m f args h (dGv ih m f args h) (dLu ih m f args h)
noncomputable def qd9 : aH := bif Nat.blt f 146 then qd7 ih m f args h else qd8 ih m f args h
theorem dPi : qd9 ih m f args h = aF CF ih m f args h := ndC ih m f args h (dPo ih m f args h) (dNr ih m f args h)
noncomputable def dIb : aH := bif Nat.blt f 187 then dGq ih m f args h else dGf ih m f args h
theorem dHg : dIb ih m f args h = aF CF ih m f args h := ndC ih m f args h (dFw ih m f args h) (dKb ih m f args h)
noncomputable def dFc : aH := bif Nat.blt f 223 then dIx ih m f args h else dKu ih m f args h
theorem dJq : dFc ih m f args h = aF CF ih m f args h := ndC ih m f args h (dLs ih m f args h) (dHp ih m f args h)
noncomputable def dJs : aH := bif Nat.blt f 201 then dIb ih m f args h else dFc ih m f args h
theorem dHx : dJs ih m f args h = aF CF ih m f args h := ndC ih m f args h (dHg ih m f args h) (dJq ih m f args h)
noncomputable def dGb : aH := bif Nat.blt f 172 then qd9 ih m f args h else dJs ih m f args h
theorem dMf : dGb ih m f args h = aF CF ih m f args h := ndC ih m f args h (dPi ih m f args h) (dHx ih m f args h)
noncomputable def dGc : aH := bif Nat.blt f 129 then qd6 ih m f args h else dGb ih m f args h
theorem dIt : dGc ih m f args h = aF CF ih m f args h := ndC ih m f args h (dPq ih m f args h) (dMf ih m f args h)
end
noncomputable def shB (ih : RT) (m : Nat) (f : FuncId) (args : List DV) (h : Hp) : aH := dGc ih m f args h
theorem bJe (ih : RT) (m : Nat) (f : FuncId) (args : List DV) (h : Hp) : shB ih m f args h = aF CF ih m f args h := dIt ih m f args h
noncomputable def dC (n : Nat) : FuncId → List DV → Hp → aH :=
 Nat.rec (motive := fun _ => FuncId → List DV → Hp → aH) (fun _ _ _ => none) (fun m ih => fun f args h => bif rgB f then mU CF ih m itm f args h else shB ih m f args h) n
theorem aKv (f : FuncId) (hf : rgB f = false) (n : Nat) (args : List DV) (h : Hp) : dC (n + 1) f args h = aF CF (dC n) n f args h := by
 show (bif rgB f then mU CF (dC n) n itm f args h else shB (dC n) n f args h) = _
 rw [hf, cond_false, bJe]
theorem vR : ∀ n, dC n = fT CF n
 | 0 => rfl
 | n + 1 => by
  funext f args h
  show (bif rgB f then mU CF (dC n) n itm f args h else shB (dC n) n f args h) = (bif rgB f then mU CF (fT CF n) n itm f else aF CF (fT CF n) n f) args h
  rw [← vR n]
  cases rgB f with
  | true => rfl
  | false => exact bJe _ _ _ _ _
end Go.Dd

namespace Go.Dd
noncomputable section
def mkW (l : List Nat) : Nat → WT → WT := List.rec (motive := fun _ => Nat → WT → WT) (fun _ t => t) (fun x _ ih i t => ih (Nat.add i 1) (t.set i (.ofNat x))) l
def bVm (l : List (Nat × Nat)) : WT → WT := List.rec (motive := fun _ => WT → WT) (fun t => t) (fun x _ ih t => ih (t.set x.1 (.ofNat x.2))) l
def mkP (l : List Nat) : WT → WT := List.rec (motive := fun _ => WT → WT) (fun t => t) (fun x _ ih t => ih (t.set x (.ofNat 1))) l
def pG (l : List Nat) : Nat → List Nat := List.rec (motive := fun _ => Nat → List Nat) (fun _ => []) (fun x _ ih n => bif Nat.beq n 0 then [] else x :: ih (Nat.sub n 1)) l
def dFk (f : Nat) : Nat → Pos := Nat.rec (motive := fun _ => Nat → Pos) (fun _ => .h) (fun _ ih n => bif Nat.beq n 1 then .h else bif Nat.beq (Nat.mod n 2) 0 then .o (ih (Nat.div n 2)) else .i (ih (Nat.div n 2))) f
def aS (n : Nat) : Pos := dFk 24 (Nat.add 1023 n)
def eK : List Nat := [79, 98, 106, 101, 99, 116]
def aDi : List Nat := [67, 108, 97, 115, 115]
def vT : List Nat := [84, 114, 117, 101]
def oW : List Nat := [70, 97, 108, 115, 101]
def dU : List Nat := [73, 110, 116, 101, 103, 101, 114]
def aDu : List Nat := [65, 114, 114, 97, 121]
def pT : List Nat := [83, 116, 114, 105, 110, 103]
def cHa : List Nat := [83, 121, 109, 98, 111, 108]
def rL : List Nat := [66, 108, 111, 99, 107]
def iR : List Nat := [67, 111, 110, 116, 101, 120, 116]
def aLs : List Nat := [77, 101, 115, 115, 97, 103, 101]
def dGx : List (List Nat × List Nat) := [
 (eK, [61, 32, 111, 116, 104, 101, 114, 32, 94, 115, 101, 108, 102, 32, 61, 61, 32, 111, 116, 104, 101, 114]),
 (eK, [61, 61, 32, 111, 116, 104, 101, 114, 32, 60, 112, 114, 105, 109, 105, 116, 105, 118, 101, 58, 32, 49, 48, 62]),
 (eK, [99, 108, 97, 115, 115, 32, 60, 112, 114, 105, 109, 105, 116, 105, 118, 101, 58, 32, 49, 49, 62]),
 (eK, [105, 115, 78, 105, 108, 32, 94, 115, 101, 108, 102, 32, 61, 61, 32, 110, 105, 108]),
 (eK, [110, 111, 116, 78, 105, 108, 32, 94, 40, 115, 101, 108, 102, 32, 61, 61, 32, 110, 105, 108, 41, 32, 61, 61, 32, 102, 97, 108, 115, 101]),
 (eK, [126, 61, 32, 111, 116, 104, 101, 114, 32, 94, 40, 115, 101, 108, 102, 32, 61, 32, 111, 116, 104, 101, 114, 41, 32, 61, 61, 32, 102, 97, 108, 115, 101]),
 (eK, [121, 111, 117, 114, 115, 101, 108, 102, 32, 94, 115, 101, 108, 102]),
 (eK, [105, 110, 115, 116, 86, 97, 114, 65, 116, 58, 32, 105, 32, 60, 112, 114, 105, 109, 105, 116, 105, 118, 101, 58, 32, 53, 48, 62]),
 (eK, [105, 110, 115, 116, 86, 97, 114, 65, 116, 58, 32, 105, 32, 112, 117, 116, 58, 32, 120, 32, 60, 112, 114, 105, 109, 105, 116, 105, 118, 101, 58, 32, 53, 49, 62]),
 (eK, [98, 101, 99, 111, 109, 101, 58, 32, 111, 116, 104, 101, 114, 32, 60, 112, 114, 105, 109, 105, 116, 105, 118, 101, 58, 32, 54, 48, 62]),
 (eK, [112, 101, 114, 102, 111, 114, 109, 58, 32, 115, 32, 60, 112, 114, 105, 109, 105, 116, 105, 118, 101, 58, 32, 51, 49, 62]),
 (eK, [112, 101, 114, 102, 111, 114, 109, 58, 32, 115, 32, 119, 105, 116, 104, 58, 32, 97, 32, 60, 112, 114, 105, 109, 105, 116, 105, 118, 101, 58, 32, 51, 50, 62]),
 (eK, [115, 104, 111, 119, 32, 60, 112, 114, 105, 109, 105, 116, 105, 118, 101, 58, 32, 55, 48, 62]),
 (eK, [101, 114, 114, 111, 114, 58, 32, 115, 32, 60, 112, 114, 105, 109, 105, 116, 105, 118, 101, 58, 32, 55, 49, 62]),
 (eK, [100, 111, 101, 115, 78, 111, 116, 85, 110, 100, 101, 114, 115, 116, 97, 110, 100, 58, 32, 109, 32, 60, 112, 114, 105, 109, 105, 116, 105, 118, 101, 58, 32, 55, 50, 62]),
 (eK, [109, 117, 115, 116, 66, 101, 66, 111, 111, 108, 101, 97, 110, 32, 60, 112, 114, 105, 109, 105, 116, 105, 118, 101, 58, 32, 55, 51, 62]),
 (aDi, [110, 101, 119, 32, 60, 112, 114, 105, 109, 105, 116, 105, 118, 101, 58, 32, 50, 51, 62]),
 (aDi, [110, 101, 119, 58, 32, 110, 32, 60, 112, 114, 105, 109, 105, 116, 105, 118, 101, 58, 32, 50, 52, 62]),
 (aDi, [110, 97, 109, 101, 32, 60, 112, 114, 105, 109, 105, 116, 105, 118, 101, 58, 32, 52, 48, 62]),
 (aDi, [115, 117, 112, 101, 114, 99, 108, 97, 115, 115, 32, 60, 112, 114, 105, 109, 105, 116, 105, 118, 101, 58, 32, 52, 49, 62]),
 (vT, [105, 102, 84, 114, 117, 101, 58, 32, 98, 32, 94, 98, 32, 118, 97, 108, 117, 101]),
 (vT, [105, 102, 70, 97, 108, 115, 101, 58, 32, 98, 32, 94, 110, 105, 108]),
 (vT, [105, 102, 84, 114, 117, 101, 58, 32, 97, 32, 105, 102, 70, 97, 108, 115, 101, 58, 32, 98, 32, 94, 97, 32, 118, 97, 108, 117, 101]),
 (vT, [105, 102, 70, 97, 108, 115, 101, 58, 32, 97, 32, 105, 102, 84, 114, 117, 101, 58, 32, 98, 32, 94, 98, 32, 118, 97, 108, 117, 101]),
 (vT, [97, 110, 100, 58, 32, 98, 32, 94, 98, 32, 118, 97, 108, 117, 101]),
 (vT, [111, 114, 58, 32, 98, 32, 94, 115, 101, 108, 102]),
 (vT, [110, 111, 116, 32, 94, 102, 97, 108, 115, 101]),
 (oW, [105, 102, 84, 114, 117, 101, 58, 32, 98, 32, 94, 110, 105, 108]),
 (oW, [105, 102, 70, 97, 108, 115, 101, 58, 32, 98, 32, 94, 98, 32, 118, 97, 108, 117, 101]),
 (oW, [105, 102, 84, 114, 117, 101, 58, 32, 97, 32, 105, 102, 70, 97, 108, 115, 101, 58, 32, 98, 32, 94, 98, 32, 118, 97, 108, 117, 101]),
 (oW, [105, 102, 70, 97, 108, 115, 101, 58, 32, 97, 32, 105, 102, 84, 114, 117, 101, 58, 32, 98, 32, 94, 97, 32, 118, 97, 108, 117, 101]),
 (oW, [97, 110, 100, 58, 32, 98, 32, 94, 115, 101, 108, 102]),
 (oW, [111, 114, 58, 32, 98, 32, 94, 98, 32, 118, 97, 108, 117, 101]),
 (oW, [110, 111, 116, 32, 94, 116, 114, 117, 101]),
 (dU, [43, 32, 110, 32, 60, 112, 114, 105, 109, 105, 116, 105, 118, 101, 58, 32, 49, 62, 32, 94, 115, 101, 108, 102, 32, 101, 114, 114, 111, 114, 58, 32, 35, 110, 117, 109, 98, 101, 114]),
 (dU, [45, 32, 110, 32, 60, 112, 114, 105, 109, 105, 116, 105, 118, 101, 58, 32, 50, 62, 32, 94, 115, 101, 108, 102, 32, 101, 114, 114, 111, 114, 58, 32, 35, 110, 117, 109, 98, 101, 114]),
 (dU, [42, 32, 110, 32, 60, 112, 114, 105, 109, 105, 116, 105, 118, 101, 58, 32, 51, 62, 32, 94, 115, 101, 108, 102, 32, 101, 114, 114, 111, 114, 58, 32, 35, 110, 117, 109, 98, 101, 114]),
 (dU, [47, 47, 32, 110, 32, 60, 112, 114, 105, 109, 105, 116, 105, 118, 101, 58, 32, 52, 62, 32, 94, 115, 101, 108, 102, 32, 101, 114, 114, 111, 114, 58, 32, 35, 110, 117, 109, 98, 101, 114]),
 (dU, [37, 32, 110, 32, 60, 112, 114, 105, 109, 105, 116, 105, 118, 101, 58, 32, 53, 62, 32, 94, 115, 101, 108, 102, 32, 101, 114, 114, 111, 114, 58, 32, 35, 110, 117, 109, 98, 101, 114]),
 (dU, [60, 32, 110, 32, 60, 112, 114, 105, 109, 105, 116, 105, 118, 101, 58, 32, 54, 62, 32, 94, 115, 101, 108, 102, 32, 101, 114, 114, 111, 114, 58, 32, 35, 110, 117, 109, 98, 101, 114]),
 (dU, [61, 32, 110, 32, 60, 112, 114, 105, 109, 105, 116, 105, 118, 101, 58, 32, 55, 62, 32, 94, 102, 97, 108, 115, 101]),
 (dU, [62, 32, 110, 32, 94, 110, 32, 60, 32, 115, 101, 108, 102]),
 (dU, [60, 61, 32, 110, 32, 94, 40, 110, 32, 60, 32, 115, 101, 108, 102, 41, 32, 110, 111, 116]),
 (dU, [62, 61, 32, 110, 32, 94, 40, 115, 101, 108, 102, 32, 60, 32, 110, 41, 32, 110, 111, 116]),
 (dU, [110, 101, 103, 97, 116, 101, 100, 32, 94, 48, 32, 45, 32, 115, 101, 108, 102]),
 (dU, [97, 98, 115, 32, 115, 101, 108, 102, 32, 60, 32, 48, 32, 105, 102, 84, 114, 117, 101, 58, 32, 91, 94, 115, 101, 108, 102, 32, 110, 101, 103, 97, 116, 101, 100, 93]),
 (dU, [109, 97, 120, 58, 32, 110, 32, 115, 101, 108, 102, 32, 60, 32, 110, 32, 105, 102, 84, 114, 117, 101, 58, 32, 91, 94, 110, 93]),
 (dU, [116, 105, 109, 101, 115, 82, 101, 112, 101, 97, 116, 58, 32, 98, 32, 124, 32, 105, 32, 124, 32, 105, 32, 58, 61, 32, 48, 46, 32, 91, 105, 32, 60, 32, 115, 101, 108, 102, 93, 32, 119, 104, 105, 108, 101, 84, 114, 117, 101, 58, 32, 91, 98, 32, 118, 97, 108, 117, 101, 46, 32, 105, 32, 58, 61, 32, 105, 32, 43, 32, 49, 93]),
 (dU, [116, 111, 58, 32, 110, 32, 100, 111, 58, 32, 98, 32, 124, 32, 105, 32, 124, 32, 105, 32, 58, 61, 32, 115, 101, 108, 102, 46, 32, 91, 105, 32, 60, 61, 32, 110, 93, 32, 119, 104, 105, 108, 101, 84, 114, 117, 101, 58, 32, 91, 98, 32, 118, 97, 108, 117, 101, 58, 32, 105, 46, 32, 105, 32, 58, 61, 32, 105, 32, 43, 32, 49, 93]),
 (aDu, [97, 116, 58, 32, 105, 32, 60, 112, 114, 105, 109, 105, 116, 105, 118, 101, 58, 32, 50, 48, 62, 32, 94, 115, 101, 108, 102, 32, 101, 114, 114, 111, 114, 58, 32, 35, 105, 110, 100, 101, 120]),
 (aDu, [97, 116, 58, 32, 105, 32, 112, 117, 116, 58, 32, 120, 32, 60, 112, 114, 105, 109, 105, 116, 105, 118, 101, 58, 32, 50, 49, 62, 32, 94, 115, 101, 108, 102, 32, 101, 114, 114, 111, 114, 58, 32, 35, 105, 110, 100, 101, 120]),
 (aDu, [115, 105, 122, 101, 32, 60, 112, 114, 105, 109, 105, 116, 105, 118, 101, 58, 32, 50, 50, 62]),
 (aDu, [100, 111, 58, 32, 98, 32, 49, 32, 116, 111, 58, 32, 115, 101, 108, 102, 32, 115, 105, 122, 101, 32, 100, 111, 58, 32, 91, 58, 105, 32, 124, 32, 98, 32, 118, 97, 108, 117, 101, 58, 32, 40, 115, 101, 108, 102, 32, 97, 116, 58, 32, 105, 41, 93]),
 (pT, [97, 116, 58, 32, 105, 32, 60, 112, 114, 105, 109, 105, 116, 105, 118, 101, 58, 32, 50, 48, 62, 32, 94, 115, 101, 108, 102, 32, 101, 114, 114, 111, 114, 58, 32, 35, 105, 110, 100, 101, 120]),
 (pT, [97, 116, 58, 32, 105, 32, 112, 117, 116, 58, 32, 120, 32, 60, 112, 114, 105, 109, 105, 116, 105, 118, 101, 58, 32, 50, 49, 62, 32, 94, 115, 101, 108, 102, 32, 101, 114, 114, 111, 114, 58, 32, 35, 105, 110, 100, 101, 120]),
 (pT, [115, 105, 122, 101, 32, 60, 112, 114, 105, 109, 105, 116, 105, 118, 101, 58, 32, 50, 50, 62]),
 (pT, [44, 32, 115, 32, 60, 112, 114, 105, 109, 105, 116, 105, 118, 101, 58, 32, 50, 53, 62, 32, 94, 115, 101, 108, 102, 32, 101, 114, 114, 111, 114, 58, 32, 35, 115, 116, 114, 105, 110, 103]),
 (pT, [61, 32, 115, 32, 60, 112, 114, 105, 109, 105, 116, 105, 118, 101, 58, 32, 50, 54, 62]),
 (cHa, [61, 32, 115, 32, 94, 115, 101, 108, 102, 32, 61, 61, 32, 115]),
 (rL, [118, 97, 108, 117, 101, 32, 60, 112, 114, 105, 109, 105, 116, 105, 118, 101, 58, 32, 51, 51, 62, 32, 94, 115, 101, 108, 102, 32, 101, 114, 114, 111, 114, 58, 32, 35, 97, 114, 103, 117, 109, 101, 110, 116, 115]),
 (rL, [118, 97, 108, 117, 101, 58, 32, 97, 32, 60, 112, 114, 105, 109, 105, 116, 105, 118, 101, 58, 32, 51, 52, 62, 32, 94, 115, 101, 108, 102, 32, 101, 114, 114, 111, 114, 58, 32, 35, 97, 114, 103, 117, 109, 101, 110, 116, 115]),
 (rL, [118, 97, 108, 117, 101, 58, 32, 97, 32, 118, 97, 108, 117, 101, 58, 32, 98, 32, 60, 112, 114, 105, 109, 105, 116, 105, 118, 101, 58, 32, 51, 53, 62, 32, 94, 115, 101, 108, 102, 32, 101, 114, 114, 111, 114, 58, 32, 35, 97, 114, 103, 117, 109, 101, 110, 116, 115]),
 (rL, [119, 104, 105, 108, 101, 84, 114, 117, 101, 58, 32, 98, 32, 91, 115, 101, 108, 102, 32, 118, 97, 108, 117, 101, 93, 32, 119, 104, 105, 108, 101, 84, 114, 117, 101, 58, 32, 91, 98, 32, 118, 97, 108, 117, 101, 93]),
 (rL, [101, 110, 115, 117, 114, 101, 58, 32, 98, 32, 60, 112, 114, 105, 109, 105, 116, 105, 118, 101, 58, 32, 57, 48, 62, 32, 124, 32, 118, 32, 100, 111, 110, 101, 32, 124, 32, 118, 32, 58, 61, 32, 115, 101, 108, 102, 32, 118, 97, 108, 117, 101, 46, 32, 100, 111, 110, 101, 32, 58, 61, 32, 116, 114, 117, 101, 46, 32, 98, 32, 118, 97, 108, 117, 101, 46, 32, 94, 118]),
 (rL, [105, 102, 67, 117, 114, 116, 97, 105, 108, 101, 100, 58, 32, 98, 32, 60, 112, 114, 105, 109, 105, 116, 105, 118, 101, 58, 32, 57, 49, 62, 32, 124, 32, 118, 32, 100, 111, 110, 101, 32, 124, 32, 118, 32, 58, 61, 32, 115, 101, 108, 102, 32, 118, 97, 108, 117, 101, 46, 32, 100, 111, 110, 101, 32, 58, 61, 32, 116, 114, 117, 101, 46, 32, 94, 118]),
 (iR, [115, 101, 110, 100, 101, 114, 32, 60, 112, 114, 105, 109, 105, 116, 105, 118, 101, 58, 32, 56, 48, 62]),
 (iR, [114, 101, 99, 101, 105, 118, 101, 114, 32, 60, 112, 114, 105, 109, 105, 116, 105, 118, 101, 58, 32, 56, 49, 62]),
 (iR, [115, 101, 108, 101, 99, 116, 111, 114, 32, 60, 112, 114, 105, 109, 105, 116, 105, 118, 101, 58, 32, 56, 50, 62]),
 (iR, [112, 99, 32, 60, 112, 114, 105, 109, 105, 116, 105, 118, 101, 58, 32, 56, 51, 62]),
 (iR, [116, 101, 109, 112, 65, 116, 58, 32, 105, 32, 60, 112, 114, 105, 109, 105, 116, 105, 118, 101, 58, 32, 56, 52, 62, 32, 94, 115, 101, 108, 102, 32, 101, 114, 114, 111, 114, 58, 32, 35, 105, 110, 100, 101, 120]),
 (iR, [116, 101, 109, 112, 65, 116, 58, 32, 105, 32, 112, 117, 116, 58, 32, 120, 32, 60, 112, 114, 105, 109, 105, 116, 105, 118, 101, 58, 32, 56, 53, 62, 32, 94, 115, 101, 108, 102, 32, 101, 114, 114, 111, 114, 58, 32, 35, 105, 110, 100, 101, 120]),
 (iR, [114, 101, 116, 117, 114, 110, 58, 32, 120, 32, 60, 112, 114, 105, 109, 105, 116, 105, 118, 101, 58, 32, 56, 54, 62, 32, 94, 115, 101, 108, 102, 32, 99, 97, 110, 110, 111, 116, 82, 101, 116, 117, 114, 110, 58, 32, 120]),
 (iR, [99, 97, 110, 110, 111, 116, 82, 101, 116, 117, 114, 110, 58, 32, 120, 32, 60, 112, 114, 105, 109, 105, 116, 105, 118, 101, 58, 32, 55, 52, 62]),
 (aLs, [115, 101, 108, 101, 99, 116, 111, 114, 32, 94, 115, 101, 108, 101, 99, 116, 111, 114]),
 (aLs, [97, 114, 103, 117, 109, 101, 110, 116, 115, 32, 94, 97, 114, 103, 117, 109, 101, 110, 116, 115])]
def dSc (l : List (List Nat × List Nat)) : Nat → List DV := List.rec (motive := fun _ => Nat → List DV) (fun _ => []) (fun _ _ ih p => .l (aS p) 0 2 2 :: ih (Nat.add p 1)) l
def bFv (l : List (List Nat × Nat)) : List (DV × DV) := List.rec (motive := fun _ => List (DV × DV)) [] (fun x _ ih => (.s x.1, .i .i64 (.ofNat x.2)) :: ih) l
def dGu (l : List Nat) : List DV := List.rec (motive := fun _ => List DV) [] (fun x _ ih => .i .i64 (.ofNat x) :: ih) l
def wsF : List Nat := [0, 0, 0, 24, 24, 1, 294, 0, 1, 322, 2670, 1, 24, 24, 2, 338, 6, 1, 364, 3024, 7, 24, 24, 3, 380, 6, 1, 426, 0, 7, 24, 24, 4, 442, 6, 1, 472, 0, 7, 24, 24, 5, 488, 60, 1, 512, 3738, 7, 24, 24, 6, 528, 60, 1, 554, 4204, 7, 24, 24, 7, 570, 6, 1, 600, 6046, 7, 24, 24, 8, 616, 114, 1, 656, 0, 7, 24, 24, 9, 672, 114, 1, 712, 0, 7, 24, 24, 10, 728, 6, 1, 754, 6538, 3, 24, 24, 11, 770, 6, 1, 798, 6942, 5, 24, 24, 12, 814, 186, 1, 842, 7018, 5, 24, 24, 13, 858, 6, 1, 884, 7746, 7, 24, 24, 14, 900, 6, 1, 930, 8508, 7, 24, 24, 15, 946, 6, 1, 974, 0, 7, 24, 24, 16, 990, 6, 5, 1086, 8632, 1, 26, 204, 17, 79, 98, 106, 101, 99, 116, 8, 168, 18, 294, 0, 0, 168, 19, 8, 168, 20, 6, 0, 22, 204, 21, 67, 108, 97, 115, 115, 8, 168, 22, 338, 312, 0, 168, 23, 8, 168, 24, 24, 328, 62, 204, 25, 85, 110, 100, 101, 102, 105, 110, 101, 100, 79, 98, 106, 101, 99, 116, 8, 168, 26, 380, 354, 0, 168, 27, 8, 168, 28, 42, 370, 30, 204, 29, 66, 111, 111, 108, 101, 97, 110, 8, 168, 30, 442, 416, 0, 168, 31, 8, 168, 32, 60, 432, 18, 204, 33, 84, 114, 117, 101, 8, 168, 34, 488, 462, 0, 168, 35, 8, 168, 36, 78, 478, 22, 204, 37, 70, 97, 108, 115, 101, 8, 168, 38, 528, 502, 0, 168, 39, 8, 168, 40, 96, 518, 30, 204, 41, 73, 110, 116, 101, 103, 101, 114, 8, 168, 42, 570, 544, 0, 168, 43, 8, 168, 44, 114, 560, 50, 204, 45, 83, 109, 97, 108, 108, 73, 110, 116, 101, 103, 101, 114, 8, 168, 46, 616, 590, 0, 168, 47, 8, 168, 48, 132, 606, 50, 204, 49, 76, 97, 114, 103, 101, 73, 110, 116, 101, 103, 101, 114, 8, 168, 50, 672, 646, 0, 168, 51, 8, 168, 52, 150, 662, 22, 204, 53, 65, 114, 114, 97, 121, 8, 168, 54, 728, 702, 0, 168, 55, 8, 168, 56, 168, 718, 26, 204, 57, 83, 116, 114, 105, 110, 103, 8, 168, 58, 770, 744, 0, 168, 59, 8, 168, 60, 186, 760, 26, 204, 61, 83, 121, 109, 98, 111, 108, 8, 168, 62, 814, 788, 0, 168, 63, 8, 168, 64, 204, 804, 22, 204, 65, 66, 108, 111, 99, 107, 8, 168, 66, 858, 832, 0, 168, 67, 8, 168, 68, 222, 848, 30, 204, 69, 67, 111, 110, 116, 101, 120, 116, 8, 168, 70, 900, 874, 0, 168, 71, 8, 168, 72, 240, 890, 26, 204, 73, 77, 101, 116, 104, 111, 100, 8, 168, 74, 946, 920, 0, 168, 75, 8, 168, 76, 258, 936, 30, 204, 77, 77, 101, 115, 115, 97, 103, 101, 8, 168, 78, 990, 964, 34, 204, 79, 115, 101, 108, 101, 99, 116, 111, 114, 8, 168, 80, 1020, 1010, 38, 204, 81, 97, 114, 103, 117, 109, 101, 110, 116, 115, 8, 168, 82, 1052, 1042, 8, 168, 83, 1020, 1052, 8, 168, 84, 276, 980, 6, 204, 85, 61, 8, 168, 86, 1106, 1076, 10, 204, 87, 61, 61, 8, 168, 88, 1124, 1114, 4, 168, 89, 1124, 50, 186, 90, 1, 0, 0, 7, 0, 0, 14, 0, 1, 20, 0, 0, 4, 168, 91, 1152, 28, 258, 92, 1106, 3, 3, 1, 1144, 1182, 6, 8, 168, 93, 1190, 0, 0, 168, 94, 26, 186, 95, 1, 0, 0, 20, 0, 0, 4, 168, 96, 1226, 28, 258, 97, 1124, 3, 3, 21, 1220, 1244, 6, 8, 168, 98, 1252, 1210, 22, 204, 99, 99, 108, 97, 115, 115, 8, 168, 100, 1282, 1134, 0, 168, 101, 26, 186, 102, 1, 0, 0, 20, 0, 0, 4, 168, 103, 1314, 28, 258, 104, 1282, 1, 1, 23, 1308, 1332, 6, 8, 168, 105, 1340, 1272, 22, 204, 106, 105, 115, 78, 105, 108, 8, 168, 107, 1370, 1298, 4, 168, 108, 1124, 50, 186, 109, 1, 0, 0, 2, 0, 0, 14, 0, 1, 20, 0, 0, 4, 168, 110, 1404, 28, 258, 111, 1370, 1, 1, 1, 1396, 1434, 6, 8, 168, 112, 1442, 1360, 26, 204, 113, 110, 111, 116, 78, 105, 108, 8, 168, 114, 1472, 1386, 4, 168, 115, 1124, 74, 186, 116, 1, 0, 0, 2, 0, 0, 14, 0, 1, 4, 0, 0, 14, 0, 1, 20, 0, 0, 4, 168, 117, 1508, 28, 258, 118, 1472, 1, 1, 1, 1500, 1550, 6, 8, 168, 119, 1558, 1462, 10, 204, 120, 126, 61, 8, 168, 121, 1588, 1490, 8, 168, 122, 1106, 1124, 74, 186, 123, 1, 0, 0, 7, 0, 0, 14, 0, 1, 4, 0, 0, 14, 1, 1, 20, 0, 0, 4, 168, 124, 1618, 28, 258, 125, 1588, 3, 3, 1, 1608, 1660, 6, 8, 168, 126, 1668, 1578, 34, 204, 127, 121, 111, 117, 114, 115, 101, 108, 102, 8, 168, 128, 1698, 1598, 0, 168, 129, 26, 186, 130, 1, 0, 0, 20, 0, 0, 4, 168, 131, 1736, 28, 258, 132, 1698, 1, 1, 1, 1730, 1754, 6, 8, 168, 133, 1762, 1688, 42, 204, 134, 105, 110, 115, 116, 86, 97, 114, 65, 116, 58, 8, 168, 135, 1792, 1720, 0, 168, 136, 26, 186, 137, 1, 0, 0, 20, 0, 0, 4, 168, 138, 1834, 28, 258, 139, 1792, 3, 3, 101, 1828, 1852, 6, 8, 168, 140, 1860, 1782, 58, 204, 141, 105, 110, 115, 116, 86, 97, 114, 65, 116, 58, 112, 117, 116, 58, 8, 168, 142, 1890, 1818, 0, 168, 143, 26, 186, 144, 1, 0, 0, 20, 0, 0, 4, 168, 145, 1940, 28, 258, 146, 1890, 5, 5, 103, 1934, 1958, 6, 8, 168, 147, 1966, 1880, 30, 204, 148, 98, 101, 99, 111, 109, 101, 58, 8, 168, 149, 1996, 1924, 0, 168, 150, 26, 186, 151, 1, 0, 0, 20, 0, 0, 4, 168, 152, 2032, 28, 258, 153, 1996, 3, 3, 121, 2026, 2050, 6, 8, 168, 154, 2058, 1986, 34, 204, 155, 112, 101, 114, 102, 111, 114, 109, 58, 8, 168, 156, 2088, 2016, 0, 168, 157, 26, 186, 158, 1, 0, 0, 20, 0, 0, 4, 168, 159, 2126, 28, 258, 160, 2088, 3, 3, 63, 2120, 2144, 6, 8, 168, 161, 2152, 2078, 54, 204, 162, 112, 101, 114, 102, 111, 114, 109, 58, 119, 105, 116, 104, 58, 8, 168, 163, 2182, 2110, 0, 168, 164, 26, 186, 165, 1, 0, 0, 20, 0, 0, 4, 168, 166, 2230, 28, 258, 167, 2182, 5, 5, 65, 2224, 2248, 6, 8, 168, 168, 2256, 2172, 18, 204, 169, 115, 104, 111, 119, 8, 168, 170, 2286, 2214, 0, 168, 171, 26, 186, 172, 1, 0, 0, 20, 0, 0, 4, 168, 173, 2316, 28, 258, 174, 2286, 1, 1, 141, 2310, 2334, 6, 8, 168, 175, 2342, 2276, 26, 204, 176, 101, 114, 114, 111, 114, 58, 8, 168, 177, 2372, 2300, 0, 168, 178, 26, 186, 179, 1, 0, 0, 20, 0, 0, 4, 168, 180, 2406, 28, 258, 181, 2372, 3, 3, 143, 2400, 2424, 6, 8, 168, 182, 2432, 2362, 74, 204, 183, 100, 111, 101, 115, 78, 111, 116, 85, 110, 100, 101, 114, 115, 116, 97, 110, 100, 58, 8, 168, 184, 2462, 2390, 0, 168, 185, 26, 186, 186, 1, 0, 0, 20, 0, 0, 4, 168, 187, 2520, 28, 258, 188, 2462, 3, 3, 145, 2514, 2538, 6, 8, 168, 189, 2546, 2452, 54, 204, 190, 109, 117, 115, 116, 66, 101, 66, 111, 111, 108, 101, 97, 110, 8, 168, 191, 2576, 2504, 0, 168, 192, 26, 186, 193, 1, 0, 0, 20, 0, 0, 4, 168, 194, 2624, 28, 258, 195, 2576, 1, 1, 147, 2618, 2642, 6, 8, 168, 196, 2650, 2566, 14, 204, 197, 110, 101, 119, 8, 168, 198, 2680, 2608, 0, 168, 199, 26, 186, 200, 1, 0, 0, 20, 0, 0, 4, 168, 201, 2708, 28, 258, 202, 2680, 1, 1, 47, 2702, 2726, 24, 8, 168, 203, 2734, 0, 18, 204, 204, 110, 101, 119, 58, 8, 168, 205, 2764, 2692, 0, 168, 206, 26, 186, 207, 1, 0, 0, 20, 0, 0, 4, 168, 208, 2794, 28, 258, 209, 2764, 3, 3, 49, 2788, 2812, 24, 8, 168, 210, 2820, 2754, 18, 204, 211, 110, 97, 109, 101, 8, 168, 212, 2850, 2778, 0, 168, 213, 26, 186, 214, 1, 0, 0, 20, 0, 0, 4, 168, 215, 2880, 28, 258, 216, 2850, 1, 1, 81, 2874, 2898, 24, 8, 168, 217, 2906, 2840, 42, 204, 218, 115, 117, 112, 101, 114, 99, 108, 97, 115, 115, 8, 168, 219, 2936, 2864, 0, 168, 220, 26, 186, 221, 1, 0, 0, 20, 0, 0, 4, 168, 222, 2978, 28, 258, 223, 2936, 1, 1, 83, 2972, 2996, 24, 8, 168, 224, 3004, 2926, 30, 204, 225, 105, 102, 84, 114, 117, 101, 58, 8, 168, 226, 3034, 2962, 22, 204, 227, 118, 97, 108, 117, 101, 8, 168, 228, 3064, 3054, 4, 168, 229, 3064, 38, 186, 230, 7, 0, 0, 14, 0, 0, 20, 0, 0, 4, 168, 231, 3098, 28, 258, 232, 3034, 3, 3, 1, 3090, 3122, 78, 8, 168, 233, 3130, 0, 34, 204, 234, 105, 102, 70, 97, 108, 115, 101, 58, 8, 168, 235, 3160, 3080, 0, 168, 236, 26, 186, 237, 2, 0, 0, 20, 0, 0, 4, 168, 238, 3198, 28, 258, 239, 3160, 3, 3, 1, 3192, 3216, 78, 8, 168, 240, 3224, 3150, 62, 204, 241, 105, 102, 84, 114, 117, 101, 58, 105, 102, 70, 97, 108, 115, 101, 58, 8, 168, 242, 3254, 3182, 4, 168, 243, 3064, 38, 186, 244, 7, 0, 0, 14, 0, 0, 20, 0, 0, 4, 168, 245, 3308, 28, 258, 246, 3254, 5, 5, 1, 3300, 3332, 78, 8, 168, 247, 3340, 3244, 62, 204, 248, 105, 102, 70, 97, 108, 115, 101, 58, 105, 102, 84, 114, 117, 101, 58, 8, 168, 249, 3370, 3290, 4, 168, 250, 3064, 38, 186, 251, 7, 1, 0, 14, 0, 0, 20, 0, 0, 4, 168, 252, 3424, 28, 258, 253, 3370, 5, 5, 1, 3416, 3448, 78, 8, 168, 254, 3456, 3360, 18, 204, 255, 97, 110, 100, 58, 8, 168, 256, 3486, 3406, 4, 168, 257, 3064, 38, 186, 258, 7, 0, 0, 14, 0, 0, 20, 0, 0, 4, 168, 259, 3518, 28, 258, 260, 3486, 3, 3, 1, 3510, 3542, 78, 8, 168, 261, 3550, 3476, 14, 204, 262, 111, 114, 58, 8, 168, 263, 3580, 3500, 0, 168, 264, 26, 186, 265, 1, 0, 0, 20, 0, 0, 4, 168, 266, 3608, 28, 258, 267, 3580, 3, 3, 1, 3602, 3626, 78, 8, 168, 268, 3634, 3570, 14, 204, 269, 110, 111, 116, 8, 168, 270, 3664, 3592, 0, 168, 271, 26, 186, 272, 4, 0, 0, 20, 0, 0, 4, 168, 273, 3692, 28, 258, 274, 3664, 1, 1, 1, 3686, 3710, 78, 8, 168, 275, 3718, 3654, 0, 168, 276, 26, 186, 277, 2, 0, 0, 20, 0, 0, 4, 168, 278, 3754, 28, 258, 279, 3034, 3, 3, 1, 3748, 3772, 96, 8, 168, 280, 3780, 0, 4, 168, 281, 3064, 38, 186, 282, 7, 0, 0, 14, 0, 0, 20, 0, 0, 4, 168, 283, 3818, 28, 258, 284, 3160, 3, 3, 1, 3810, 3842, 96, 8, 168, 285, 3850, 3800, 4, 168, 286, 3064, 38, 186, 287, 7, 1, 0, 14, 0, 0, 20, 0, 0, 4, 168, 288, 3888, 28, 258, 289, 3254, 5, 5, 1, 3880, 3912, 96, 8, 168, 290, 3920, 3870, 4, 168, 291, 3064, 38, 186, 292, 7, 0, 0, 14, 0, 0, 20, 0, 0, 4, 168, 293, 3958, 28, 258, 294, 3370, 5, 5, 1, 3950, 3982, 96, 8, 168, 295, 3990, 3940, 0, 168, 296, 26, 186, 297, 1, 0, 0, 20, 0, 0, 4, 168, 298, 4026, 28, 258, 299, 3486, 3, 3, 1, 4020, 4044, 96, 8, 168, 300, 4052, 4010, 4, 168, 301, 3064, 38, 186, 302, 7, 0, 0, 14, 0, 0, 20, 0, 0, 4, 168, 303, 4090, 28, 258, 304, 3580, 3, 3, 1, 4082, 4114, 96, 8, 168, 305, 4122, 4072, 0, 168, 306, 26, 186, 307, 3, 0, 0, 20, 0, 0, 4, 168, 308, 4158, 28, 258, 309, 3664, 1, 1, 1, 4152, 4176, 96, 8, 168, 310, 4184, 4142, 6, 204, 311, 43, 8, 168, 312, 4214, 3676, 26, 204, 313, 110, 117, 109, 98, 101, 114, 8, 168, 314, 4232, 4222, 8, 168, 315, 4232, 2372, 50, 186, 316, 1, 0, 0, 6, 0, 0, 14, 1, 1, 20, 0, 0, 4, 168, 317, 4270, 28, 258, 318, 4214, 3, 3, 3, 4260, 4300, 114, 8, 168, 319, 4308, 0, 6, 204, 320, 45, 8, 168, 321, 4338, 4250, 8, 168, 322, 4232, 2372, 50, 186, 323, 1, 0, 0, 6, 0, 0, 14, 1, 1, 20, 0, 0, 4, 168, 324, 4366, 28, 258, 325, 4338, 3, 3, 5, 4356, 4396, 114, 8, 168, 326, 4404, 4328, 6, 204, 327, 42, 8, 168, 328, 4434, 4346, 8, 168, 329, 4232, 2372, 50, 186, 330, 1, 0, 0, 6, 0, 0, 14, 1, 1, 20, 0, 0, 4, 168, 331, 4462, 28, 258, 332, 4434, 3, 3, 7, 4452, 4492, 114, 8, 168, 333, 4500, 4424, 10, 204, 334, 47, 47, 8, 168, 335, 4530, 4442, 8, 168, 336, 4232, 2372, 50, 186, 337, 1, 0, 0, 6, 0, 0, 14, 1, 1, 20, 0, 0, 4, 168, 338, 4560, 28, 258, 339, 4530, 3, 3, 9, 4550, 4590, 114, 8, 168, 340, 4598, 4520, 6, 204, 341, 37, 8, 168, 342, 4628, 4540, 8, 168, 343, 4232, 2372, 50, 186, 344, 1, 0, 0, 6, 0, 0, 14, 1, 1, 20, 0, 0, 4, 168, 345, 4656, 28, 258, 346, 4628, 3, 3, 11, 4646, 4686, 114, 8, 168, 347, 4694, 4618, 6, 204, 348, 60, 8, 168, 349, 4724, 4636, 8, 168, 350, 4232, 2372, 50, 186, 351, 1, 0, 0, 6, 0, 0, 14, 1, 1, 20, 0, 0, 4, 168, 352, 4752, 28, 258, 353, 4724, 3, 3, 13, 4742, 4782, 114, 8, 168, 354, 4790, 4714, 0, 168, 355, 26, 186, 356, 4, 0, 0, 20, 0, 0, 4, 168, 357, 4826, 28, 258, 358, 1106, 3, 3, 15, 4820, 4844, 114, 8, 168, 359, 4852, 4810, 6, 204, 360, 62, 8, 168, 361, 4882, 4732, 4, 168, 362, 4724, 50, 186, 363, 7, 0, 0, 1, 0, 0, 14, 0, 1, 20, 0, 0, 4, 168, 364, 4908, 28, 258, 365, 4882, 3, 3, 1, 4900, 4938, 114, 8, 168, 366, 4946, 4872, 10, 204, 367, 60, 61, 8, 168, 368, 4976, 4890, 8, 168, 369, 4724, 3664, 62, 186, 370, 7, 0, 0, 1, 0, 0, 14, 0, 1, 14, 1, 0, 20, 0, 0, 4, 168, 371, 5006, 28, 258, 372, 4976, 3, 3, 1, 4996, 5042, 114, 8, 168, 373, 5050, 4966, 10, 204, 374, 62, 61, 8, 168, 375, 5080, 4986, 8, 168, 376, 4724, 3664, 62, 186, 377, 1, 0, 0, 7, 0, 0, 14, 0, 1, 14, 1, 0, 20, 0, 0, 4, 168, 378, 5110, 28, 258, 379, 5080, 3, 3, 1, 5100, 5146, 114, 8, 168, 380, 5154, 5070, 30, 204, 381, 110, 101, 103, 97, 116, 101, 100, 8, 168, 382, 5184, 5090, 8, 168, 383, 1, 4338, 50, 186, 384, 6, 0, 0, 1, 0, 0, 14, 1, 1, 20, 0, 0, 4, 168, 385, 5224, 28, 258, 386, 5184, 1, 1, 1, 5214, 5254, 114, 8, 168, 387, 5262, 5174, 14, 204, 388, 97, 98, 115, 8, 168, 389, 5292, 5204, 12, 168, 390, 1, 4724, 5184, 158, 186, 391, 1, 0, 0, 6, 0, 0, 14, 1, 1, 17, 9, 0, 1, 0, 0, 14, 2, 0, 20, 0, 0, 2, 0, 0, 16, 10, 0, 2, 0, 0, 12, 0, 0, 1, 0, 0, 20, 0, 0, 4, 168, 392, 5326, 28, 258, 393, 5292, 1, 1, 1, 5314, 5410, 114, 8, 168, 394, 5418, 5282, 18, 204, 395, 109, 97, 120, 58, 8, 168, 396, 5448, 5304, 4, 168, 397, 4724, 146, 186, 398, 1, 0, 0, 7, 0, 0, 14, 0, 1, 17, 8, 0, 7, 0, 0, 20, 0, 0, 2, 0, 0, 16, 9, 0, 2, 0, 0, 12, 0, 0, 1, 0, 0, 20, 0, 0, 4, 168, 399, 5480, 28, 258, 400, 5448, 3, 3, 1, 5472, 5558, 114, 8, 168, 401, 5566, 5438, 50, 204, 402, 116, 105, 109, 101, 115, 82, 101, 112, 101, 97, 116, 58, 8, 168, 403, 5596, 5462, 20, 168, 404, 1, 4724, 3064, 3, 4214, 242, 186, 405, 6, 0, 0, 10, 1, 0, 12, 0, 0, 7, 1, 0, 1, 0, 0, 14, 1, 1, 17, 16, 0, 7, 0, 0, 14, 2, 0, 12, 0, 0, 7, 1, 0, 6, 3, 0, 14, 4, 1, 10, 1, 0, 12, 0, 0, 16, 3, 0, 2, 0, 0, 12, 0, 0, 1, 0, 0, 20, 0, 0, 4, 168, 406, 5652, 28, 258, 407, 5596, 3, 5, 1, 5636, 5778, 114, 8, 168, 408, 5786, 5586, 26, 204, 409, 116, 111, 58, 100, 111, 58, 8, 168, 410, 5816, 5626, 26, 204, 411, 118, 97, 108, 117, 101, 58, 8, 168, 412, 5844, 5834, 16, 168, 413, 4976, 5844, 3, 4214, 254, 186, 414, 1, 0, 0, 10, 2, 0, 12, 0, 0, 7, 2, 0, 7, 0, 0, 14, 0, 1, 17, 17, 0, 7, 1, 0, 7, 2, 0, 14, 1, 1, 12, 0, 0, 7, 2, 0, 6, 2, 0, 14, 3, 1, 10, 2, 0, 12, 0, 0, 16, 3, 0, 2, 0, 0, 12, 0, 0, 1, 0, 0, 20, 0, 0, 4, 168, 415, 5886, 28, 258, 416, 5816, 5, 7, 1, 5872, 6018, 114, 8, 168, 417, 6026, 5806, 14, 204, 418, 97, 116, 58, 8, 168, 419, 6056, 5862, 22, 204, 420, 105, 110, 100, 101, 120, 8, 168, 421, 6078, 6068, 8, 168, 422, 6078, 2372, 50, 186, 423, 1, 0, 0, 6, 0, 0, 14, 1, 1, 20, 0, 0, 4, 168, 424, 6114, 28, 258, 425, 6056, 3, 3, 41, 6104, 6144, 168, 8, 168, 426, 6152, 0, 30, 204, 427, 97, 116, 58, 112, 117, 116, 58, 8, 168, 428, 6182, 6094, 8, 168, 429, 6078, 2372, 50, 186, 430, 1, 0, 0, 6, 0, 0, 14, 1, 1, 20, 0, 0, 4, 168, 431, 6222, 28, 258, 432, 6182, 5, 5, 43, 6212, 6252, 168, 8, 168, 433, 6260, 6172, 18, 204, 434, 115, 105, 122, 101, 8, 168, 435, 6290, 6202, 0, 168, 436, 26, 186, 437, 1, 0, 0, 20, 0, 0, 4, 168, 438, 6320, 28, 258, 439, 6290, 1, 1, 45, 6314, 6338, 168, 8, 168, 440, 6346, 6280, 14, 204, 441, 100, 111, 58, 8, 168, 442, 6376, 6304, 20, 168, 443, 3, 6290, 6056, 5844, 5816, 182, 186, 444, 6, 0, 0, 1, 0, 0, 14, 1, 0, 18, 1, 1, 16, 11, 0, 7, 0, 0, 1, 0, 0, 7, 1, 0, 14, 2, 1, 14, 3, 1, 19, 0, 0, 14, 4, 2, 12, 0, 0, 1, 0, 0, 20, 0, 0, 4, 168, 445, 6414, 28, 258, 446, 6376, 3, 5, 1, 6398, 6510, 168, 8, 168, 447, 6518, 6366, 8, 168, 448, 6078, 2372, 50, 186, 449, 1, 0, 0, 6, 0, 0, 14, 1, 1, 20, 0, 0, 4, 168, 450, 6558, 28, 258, 451, 6056, 3, 3, 41, 6548, 6588, 186, 8, 168, 452, 6596, 0, 8, 168, 453, 6078, 2372, 50, 186, 454, 1, 0, 0, 6, 0, 0, 14, 1, 1, 20, 0, 0, 4, 168, 455, 6636, 28, 258, 456, 6182, 5, 5, 43, 6626, 6666, 186, 8, 168, 457, 6674, 6616, 0, 168, 458, 26, 186, 459, 1, 0, 0, 20, 0, 0, 4, 168, 460, 6710, 28, 258, 461, 6290, 1, 1, 45, 6704, 6728, 186, 8, 168, 462, 6736, 6694, 6, 204, 463, 44, 8, 168, 464, 6766, 6388, 26, 204, 465, 115, 116, 114, 105, 110, 103, 8, 168, 466, 6784, 6774, 8, 168, 467, 6784, 2372, 50, 186, 468, 1, 0, 0, 6, 0, 0, 14, 1, 1, 20, 0, 0, 4, 168, 469, 6822, 28, 258, 470, 6766, 3, 3, 51, 6812, 6852, 186, 8, 168, 471, 6860, 6756, 0, 168, 472, 26, 186, 473, 1, 0, 0, 20, 0, 0, 4, 168, 474, 6896, 28, 258, 475, 1106, 3, 3, 53, 6890, 6914, 186, 8, 168, 476, 6922, 6880, 4, 168, 477, 1124, 50, 186, 478, 1, 0, 0, 7, 0, 0, 14, 0, 1, 20, 0, 0, 4, 168, 479, 6960, 28, 258, 480, 1106, 3, 3, 1, 6952, 6990, 204, 8, 168, 481, 6998, 0, 8, 168, 482, 1052, 2372, 50, 186, 483, 1, 0, 0, 6, 0, 0, 14, 1, 1, 20, 0, 0, 4, 168, 484, 7038, 28, 258, 485, 3064, 1, 1, 67, 7028, 7068, 222, 8, 168, 486, 7076, 0, 8, 168, 487, 1052, 2372, 50, 186, 488, 1, 0, 0, 6, 0, 0, 14, 1, 1, 20, 0, 0, 4, 168, 489, 7116, 28, 258, 490, 5844, 3, 3, 69, 7106, 7146, 222, 8, 168, 491, 7154, 7096, 50, 204, 492, 118, 97, 108, 117, 101, 58, 118, 97, 108, 117, 101, 58, 8, 168, 493, 7184, 6802, 8, 168, 494, 1052, 2372, 50, 186, 495, 1, 0, 0, 6, 0, 0, 14, 1, 1, 20, 0, 0, 4, 168, 496, 7234, 28, 258, 497, 7184, 5, 5, 71, 7224, 7264, 222, 8, 168, 498, 7272, 7174, 42, 204, 499, 119, 104, 105, 108, 101, 84, 114, 117, 101, 58, 8, 168, 500, 7302, 7214, 4, 168, 501, 3064, 134, 186, 502, 1, 0, 0, 14, 0, 0, 17, 7, 0, 7, 0, 0, 14, 0, 0, 12, 0, 0, 16, 0, 0, 2, 0, 0, 12, 0, 0, 1, 0, 0, 20, 0, 0, 4, 168, 503, 7346, 28, 258, 504, 7302, 3, 3, 1, 7338, 7418, 222, 8, 168, 505, 7426, 7292, 30, 204, 506, 101, 110, 115, 117, 114, 101, 58, 8, 168, 507, 7456, 7328, 4, 168, 508, 3064, 146, 186, 509, 1, 0, 0, 14, 0, 0, 10, 1, 0, 12, 0, 0, 3, 0, 0, 10, 2, 0, 12, 0, 0, 7, 0, 0, 14, 0, 0, 12, 0, 0, 7, 1, 0, 20, 0, 0, 4, 168, 510, 7494, 28, 258, 511, 7456, 3, 7, 181, 7486, 7572, 222, 8, 168, 512, 7580, 7446, 50, 204, 513, 105, 102, 67, 117, 114, 116, 97, 105, 108, 101, 100, 58, 8, 168, 514, 7610, 7476, 4, 168, 515, 3064, 110, 186, 516, 1, 0, 0, 14, 0, 0, 10, 1, 0, 12, 0, 0, 3, 0, 0, 10, 2, 0, 12, 0, 0, 7, 1, 0, 20, 0, 0, 4, 168, 517, 7658, 28, 258, 518, 7610, 3, 7, 183, 7650, 7718, 222, 8, 168, 519, 7726, 7600, 26, 204, 520, 115, 101, 110, 100, 101, 114, 8, 168, 521, 7756, 7640, 0, 168, 522, 26, 186, 523, 1, 0, 0, 20, 0, 0, 4, 168, 524, 7790, 28, 258, 525, 7756, 1, 1, 161, 7784, 7808, 240, 8, 168, 526, 7816, 0, 34, 204, 527, 114, 101, 99, 101, 105, 118, 101, 114, 8, 168, 528, 7846, 7774, 0, 168, 529, 26, 186, 530, 1, 0, 0, 20, 0, 0, 4, 168, 531, 7884, 28, 258, 532, 7846, 1, 1, 163, 7878, 7902, 240, 8, 168, 533, 7910, 7836, 0, 168, 534, 26, 186, 535, 1, 0, 0, 20, 0, 0, 4, 168, 536, 7946, 28, 258, 537, 1020, 1, 1, 165, 7940, 7964, 240, 8, 168, 538, 7972, 7930, 10, 204, 539, 112, 99, 8, 168, 540, 8002, 7868, 0, 168, 541, 26, 186, 542, 1, 0, 0, 20, 0, 0, 4, 168, 543, 8028, 28, 258, 544, 8002, 1, 1, 167, 8022, 8046, 240, 8, 168, 545, 8054, 7992, 30, 204, 546, 116, 101, 109, 112, 65, 116, 58, 8, 168, 547, 8084, 8012, 8, 168, 548, 6078, 2372, 50, 186, 549, 1, 0, 0, 6, 0, 0, 14, 1, 1, 20, 0, 0, 4, 168, 550, 8124, 28, 258, 551, 8084, 3, 3, 169, 8114, 8154, 240, 8, 168, 552, 8162, 8074, 46, 204, 553, 116, 101, 109, 112, 65, 116, 58, 112, 117, 116, 58, 8, 168, 554, 8192, 8104, 8, 168, 555, 6078, 2372, 50, 186, 556, 1, 0, 0, 6, 0, 0, 14, 1, 1, 20, 0, 0, 4, 168, 557, 8240, 28, 258, 558, 8192, 5, 5, 171, 8230, 8270, 240, 8, 168, 559, 8278, 8182, 30, 204, 560, 114, 101, 116, 117, 114, 110, 58, 8, 168, 561, 8308, 8220, 54, 204, 562, 99, 97, 110, 110, 111, 116, 82, 101, 116, 117, 114, 110, 58, 8, 168, 563, 8338, 8328, 4, 168, 564, 8338, 50, 186, 565, 1, 0, 0, 7, 0, 0, 14, 0, 1, 20, 0, 0, 4, 168, 566, 8388, 28, 258, 567, 8308, 3, 3, 173, 8380, 8418, 240, 8, 168, 568, 8426, 8298, 0, 168, 569, 26, 186, 570, 1, 0, 0, 20, 0, 0, 4, 168, 571, 8462, 28, 258, 572, 8338, 3, 3, 149, 8456, 8480, 240, 8, 168, 573, 8488, 8446, 0, 168, 574, 26, 186, 575, 8, 0, 0, 20, 0, 0, 4, 168, 576, 8524, 28, 258, 577, 1020, 1, 1, 1, 8518, 8542, 276, 8, 168, 578, 8550, 0, 0, 168, 579, 26, 186, 580, 8, 1, 0, 20, 0, 0, 4, 168, 581, 8586, 28, 258, 582, 1052, 1, 1, 1, 8580, 8604, 276, 8, 168, 583, 8612, 8570]
def plF : List Nat := [3, 12, 21, 30, 39, 48, 57, 66, 75, 84, 93, 102, 111, 120, 129, 138, 147, 156, 161, 164, 169, 177, 182, 185, 190, 208, 213, 216, 221, 231, 236, 239, 244, 251, 256, 259, 264, 272, 277, 280, 285, 295, 300, 303, 308, 323, 328, 331, 336, 351, 356, 359, 364, 372, 377, 380, 385, 394, 399, 402, 407, 416, 421, 424, 429, 437, 442, 445, 450, 460, 465, 468, 473, 482, 487, 490, 495, 505, 510, 521, 526, 538, 543, 548, 553, 557, 562, 567, 572, 576, 591, 595, 605, 610, 613, 622, 626, 636, 641, 649, 654, 657, 666, 670, 680, 685, 693, 698, 702, 717, 721, 731, 736, 745, 750, 754, 775, 779, 789, 794, 799, 804, 809, 830, 834, 844, 849, 860, 865, 868, 877, 881, 891, 896, 909, 914, 917, 926, 930, 940, 945, 962, 967, 970, 979, 983, 993, 998, 1008, 1013, 1016, 1025, 1029, 1039, 1044, 1055, 1060, 1063, 1072, 1076, 1086, 1091, 1107, 1112, 1115, 1124, 1128, 1138, 1143, 1150, 1155, 1158, 1167, 1171, 1181, 1186, 1195, 1200, 1203, 1212, 1216, 1226, 1231, 1252, 1257, 1260, 1269, 1273, 1283, 1288, 1304, 1309, 1312, 1321, 1325, 1335, 1340, 1346, 1351, 1354, 1363, 1367, 1377, 1382, 1389, 1394, 1397, 1406, 1410, 1420, 1425, 1432, 1437, 1440, 1449, 1453, 1463, 1468, 1481, 1486, 1489, 1498, 1502, 1512, 1517, 1527, 1532, 1540, 1545, 1549, 1561, 1565, 1575, 1580, 1591, 1596, 1599, 1608, 1612, 1622, 1627, 1645, 1650, 1654, 1666, 1670, 1680, 1685, 1703, 1708, 1712, 1724, 1728, 1738, 1743, 1750, 1755, 1759, 1771, 1775, 1785, 1790, 1796, 1801, 1804, 1813, 1817, 1827, 1832, 1838, 1843, 1846, 1855, 1859, 1869, 1874, 1877, 1886, 1890, 1900, 1905, 1909, 1921, 1925, 1935, 1940, 1944, 1956, 1960, 1970, 1975, 1979, 1991, 1995, 2005, 2010, 2013, 2022, 2026, 2036, 2041, 2045, 2057, 2061, 2071, 2076, 2079, 2088, 2092, 2102, 2107, 2111, 2116, 2125, 2130, 2135, 2150, 2154, 2164, 2169, 2173, 2178, 2183, 2198, 2202, 2212, 2217, 2221, 2226, 2231, 2246, 2250, 2260, 2265, 2270, 2275, 2280, 2295, 2299, 2309, 2314, 2318, 2323, 2328, 2343, 2347, 2357, 2362, 2366, 2371, 2376, 2391, 2395, 2405, 2410, 2413, 2422, 2426, 2436, 2441, 2445, 2450, 2454, 2469, 2473, 2483, 2488, 2493, 2498, 2503, 2521, 2525, 2535, 2540, 2545, 2550, 2555, 2573, 2577, 2587, 2592, 2602, 2607, 2612, 2627, 2631, 2641, 2646, 2652, 2657, 2663, 2705, 2709, 2719, 2724, 2731, 2736, 2740, 2779, 2783, 2793, 2798, 2813, 2818, 2826, 2889, 2893, 2903, 2908, 2917, 2922, 2931, 2936, 2943, 3009, 3013, 3023, 3028, 3034, 3039, 3047, 3052, 3057, 3072, 3076, 3086, 3091, 3101, 3106, 3111, 3126, 3130, 3140, 3145, 3152, 3157, 3160, 3169, 3173, 3183, 3188, 3194, 3199, 3207, 3255, 3259, 3269, 3274, 3279, 3294, 3298, 3308, 3313, 3318, 3333, 3337, 3347, 3352, 3355, 3364, 3368, 3378, 3383, 3387, 3392, 3401, 3406, 3411, 3426, 3430, 3440, 3445, 3448, 3457, 3461, 3471, 3476, 3480, 3495, 3499, 3509, 3514, 3519, 3534, 3538, 3548, 3553, 3558, 3573, 3577, 3587, 3592, 3607, 3612, 3617, 3632, 3636, 3646, 3651, 3664, 3669, 3673, 3709, 3713, 3723, 3728, 3738, 3743, 3747, 3786, 3790, 3800, 3805, 3820, 3825, 3829, 3859, 3863, 3873, 3878, 3887, 3892, 3895, 3904, 3908, 3918, 3923, 3934, 3939, 3942, 3951, 3955, 3965, 3970, 3973, 3982, 3986, 3996, 4001, 4006, 4011, 4014, 4023, 4027, 4037, 4042, 4052, 4057, 4062, 4077, 4081, 4091, 4096, 4110, 4115, 4120, 4135, 4139, 4149, 4154, 4164, 4169, 4185, 4190, 4194, 4209, 4213, 4223, 4228, 4231, 4240, 4244, 4254, 4259, 4262, 4271, 4275, 4285, 4290, 4293, 4302, 4306, 4316]
def syF : List (List Nat × Nat) := [([79, 98, 106, 101, 99, 116], 294), ([67, 108, 97, 115, 115], 338), ([85, 110, 100, 101, 102, 105, 110, 101, 100, 79, 98, 106, 101, 99, 116], 380), ([66, 111, 111, 108, 101, 97, 110], 442), ([84, 114, 117, 101], 488), ([70, 97, 108, 115, 101], 528), ([73, 110, 116, 101, 103, 101, 114], 570), ([83, 109, 97, 108, 108, 73, 110, 116, 101, 103, 101, 114], 616), ([76, 97, 114, 103, 101, 73, 110, 116, 101, 103, 101, 114], 672), ([65, 114, 114, 97, 121], 728), ([83, 116, 114, 105, 110, 103], 770), ([83, 121, 109, 98, 111, 108], 814), ([66, 108, 111, 99, 107], 858), ([67, 111, 110, 116, 101, 120, 116], 900), ([77, 101, 116, 104, 111, 100], 946), ([77, 101, 115, 115, 97, 103, 101], 990), ([115, 101, 108, 101, 99, 116, 111, 114], 1020), ([97, 114, 103, 117, 109, 101, 110, 116, 115], 1052), ([61], 1106), ([61, 61], 1124), ([99, 108, 97, 115, 115], 1282), ([105, 115, 78, 105, 108], 1370), ([110, 111, 116, 78, 105, 108], 1472), ([126, 61], 1588), ([121, 111, 117, 114, 115, 101, 108, 102], 1698), ([105, 110, 115, 116, 86, 97, 114, 65, 116, 58], 1792), ([105, 110, 115, 116, 86, 97, 114, 65, 116, 58, 112, 117, 116, 58], 1890), ([98, 101, 99, 111, 109, 101, 58], 1996), ([112, 101, 114, 102, 111, 114, 109, 58], 2088), ([112, 101, 114, 102, 111, 114, 109, 58, 119, 105, 116, 104, 58], 2182), ([115, 104, 111, 119], 2286), ([101, 114, 114, 111, 114, 58], 2372), ([100, 111, 101, 115, 78, 111, 116, 85, 110, 100, 101, 114, 115, 116, 97, 110, 100, 58], 2462), ([109, 117, 115, 116, 66, 101, 66, 111, 111, 108, 101, 97, 110], 2576), ([110, 101, 119], 2680), ([110, 101, 119, 58], 2764), ([110, 97, 109, 101], 2850), ([115, 117, 112, 101, 114, 99, 108, 97, 115, 115], 2936), ([105, 102, 84, 114, 117, 101, 58], 3034), ([118, 97, 108, 117, 101], 3064), ([105, 102, 70, 97, 108, 115, 101, 58], 3160), ([105, 102, 84, 114, 117, 101, 58, 105, 102, 70, 97, 108, 115, 101, 58], 3254), ([105, 102, 70, 97, 108, 115, 101, 58, 105, 102, 84, 114, 117, 101, 58], 3370), ([97, 110, 100, 58], 3486), ([111, 114, 58], 3580), ([110, 111, 116], 3664), ([43], 4214), ([110, 117, 109, 98, 101, 114], 4232), ([45], 4338), ([42], 4434), ([47, 47], 4530), ([37], 4628), ([60], 4724), ([62], 4882), ([60, 61], 4976), ([62, 61], 5080), ([110, 101, 103, 97, 116, 101, 100], 5184), ([97, 98, 115], 5292), ([109, 97, 120, 58], 5448), ([116, 105, 109, 101, 115, 82, 101, 112, 101, 97, 116, 58], 5596), ([116, 111, 58, 100, 111, 58], 5816), ([118, 97, 108, 117, 101, 58], 5844), ([97, 116, 58], 6056), ([105, 110, 100, 101, 120], 6078), ([97, 116, 58, 112, 117, 116, 58], 6182), ([115, 105, 122, 101], 6290), ([100, 111, 58], 6376), ([44], 6766), ([115, 116, 114, 105, 110, 103], 6784), ([118, 97, 108, 117, 101, 58, 118, 97, 108, 117, 101, 58], 7184), ([119, 104, 105, 108, 101, 84, 114, 117, 101, 58], 7302), ([101, 110, 115, 117, 114, 101, 58], 7456), ([105, 102, 67, 117, 114, 116, 97, 105, 108, 101, 100, 58], 7610), ([115, 101, 110, 100, 101, 114], 7756), ([114, 101, 99, 101, 105, 118, 101, 114], 7846), ([112, 99], 8002), ([116, 101, 109, 112, 65, 116, 58], 8084), ([116, 101, 109, 112, 65, 116, 58, 112, 117, 116, 58], 8192), ([114, 101, 116, 117, 114, 110, 58], 8308), ([99, 97, 110, 110, 111, 116, 82, 101, 116, 117, 114, 110, 58], 8338)]
def clF : List (List Nat × Nat) := [([79, 98, 106, 101, 99, 116], 6), ([67, 108, 97, 115, 115], 24), ([85, 110, 100, 101, 102, 105, 110, 101, 100, 79, 98, 106, 101, 99, 116], 42), ([66, 111, 111, 108, 101, 97, 110], 60), ([84, 114, 117, 101], 78), ([70, 97, 108, 115, 101], 96), ([73, 110, 116, 101, 103, 101, 114], 114), ([83, 109, 97, 108, 108, 73, 110, 116, 101, 103, 101, 114], 132), ([76, 97, 114, 103, 101, 73, 110, 116, 101, 103, 101, 114], 150), ([65, 114, 114, 97, 121], 168), ([83, 116, 114, 105, 110, 103], 186), ([83, 121, 109, 98, 111, 108], 204), ([66, 108, 111, 99, 107], 222), ([67, 111, 110, 116, 101, 120, 116], 240), ([77, 101, 116, 104, 111, 100], 258), ([77, 101, 115, 115, 97, 103, 101], 276)]
def bXj (l : List (List Nat × Nat)) : Nat → List (List Nat × Nat) := List.rec (motive := fun _ => Nat → List (List Nat × Nat)) (fun _ => []) (fun x _ ih n => bif Nat.beq n 0 then [] else x :: ih (Nat.sub n 1)) l
def dJk (l : List (List Nat × List Nat)) : Nat → List (Pos × Ob) := List.rec (motive := fun _ => Nat → List (Pos × Ob)) (fun _ => []) (fun x _ ih p => (aS p, .row .ex [.s x.1, .s x.2]) :: ih (Nat.add p 1)) l
def dLj (l : List (List Nat × List Nat)) : Nat → List (List Nat × List Nat) := List.rec (motive := fun _ => Nat → List (List Nat × List Nat)) (fun _ => []) (fun x l ih n => bif Nat.beq n 0 then x :: l else ih (Nat.sub n 1)) l
def nD (N fin made ns : Nat) (roots : List Nat) (pt : List (Nat × Nat)) (k : Nat) : List (Pos × Ob) :=
 (aS 7, .row .ex [.p (aS 3) 0, .l (aS 4) 0 18 18, .m (aS 5), .m (aS 6)]) ::
 (aS 6, .mp (bFv clF)) :: (aS 5, .mp (bFv (bXj syF ns))) :: (aS 4, .row .ex (dGu roots)) ::
 (aS 3, .row .ex [.l (aS 1) 0 N N, .i .i64 (.ofNat fin), .i .i64 (.ofNat made), .m (aS 2)]) ::
 (aS 2, .mi (mkP (pG plF made) .e)) :: (aS 1, .big N (bVm pt (mkW (pG wsF fin) 0 .e))) ::
 (aS 431, .row .ex (dSc dGx 356)) :: dJk (dLj dGx k) (Nat.add 356 k)
def dAa (l : List (Pos × Ob)) : Tr Ob := List.rec (motive := fun _ => Tr Ob) .e (fun x _ ih => Tr.set x.2 x.1 ih) l
def hZ (nx : Nat) (l : List (Pos × Ob)) : Hp := ⟨aS nx, dAa l⟩
def gR (x y : Int) : Bool := match x, y with
 | .ofNat a, .ofNat b => Nat.beq a b
 | .negSucc a, .negSucc b => Nat.beq a b
 | _, _ => false
def wtE (t : WT) : WT → Bool := WT.rec (motive := fun _ => WT → Bool) (fun u => WT.rec (motive := fun _ => Bool) true (fun _ _ _ _ _ => false) u)
 (fun _ v _ ihl ihr u => WT.rec (motive := fun _ => Bool) false (fun l' v' r' _ _ => gR v v' && (ihl l' && ihr r')) u) t
def dvE (x y : DV) : Bool := match x, y with
 | .i .i64 a, .i .i64 b => gR a b
 | .s a, .s b => eqD a b
 | .p a o, .p b q => lD a b && Nat.beq o q
 | .l a o n c, .l b q m d => lD a b && (Nat.beq o q && (Nat.beq n m && Nat.beq c d))
 | .m a, .m b => lD a b
 | .b a, .b b => a == b
 | .l0, .l0 => true
 | .p0, .p0 => true
 | .m0, .m0 => true
 | _, _ => false
def cOk (l : List DV) : List DV → Bool := List.rec (motive := fun _ => List DV → Bool) (fun m => List.rec (motive := fun _ => Bool) true (fun _ _ _ => false) m)
 (fun x _ ih m => List.rec (motive := fun _ => Bool) false (fun y m _ => dvE x y && ih m) m) l
def dDl (l : List (DV × DV)) : List (DV × DV) → Bool := List.rec (motive := fun _ => List (DV × DV) → Bool) (fun m => List.rec (motive := fun _ => Bool) true (fun _ _ _ => false) m)
 (fun x _ ih m => List.rec (motive := fun _ => Bool) false (fun y m _ => dvE x.1 y.1 && (dvE x.2 y.2 && ih m)) m) l
def obE (o p : Ob) : Bool := match o, p with
 | .row .ex l, .row .ex m => cOk l m
 | .mp l, .mp m => dDl l m
 | .big n t, .big m u => Nat.beq n m && wtE t u
 | .mi t, .mi u => wtE t u
 | _, _ => false
def aWs (g : Tr Ob) (l : List (Pos × Ob)) : Bool := List.rec (motive := fun _ => Bool) true (fun x _ ih => (match g.get x.1 with
 | some o => obE o x.2
 | none => false) && ih) l
def lM (r : aH) (vs : List DV) (nx : Nat) (l : List (Pos × Ob)) : Bool := match r with
 | some (.t us, g) => cOk us vs && (lD g.next (aS nx) && aWs g.bl l)
 | _ => false
def itN (n : Nat) (K : DV → DV → DV → DV → Hp → aH) : DV → DV → DV → DV → Hp → aH :=
 Nat.rec (motive := fun _ => DV → DV → DV → DV → Hp → aH) K (fun _ ih => kG (dC 899) 899 ih) n
def cAm : DV → DV → DV → DV → Hp → aH := fun a b c d h => some (.t [a, b, c, d], h)
def kY (k : Nat) : List DV := [.p (aS 7) 0, .l (aS 431) 0 75 75, .i .i64 (.ofNat 75), .i .i64 (.ofNat k)]
def nI (k n : Nat) (h : Hp) : aH := itN n cAm (.p (aS 7) 0) (.l (aS 431) 0 75 75) (.i .i64 (.ofNat 75)) (.i .i64 (.ofNat k)) h
end
end Go.Dd

