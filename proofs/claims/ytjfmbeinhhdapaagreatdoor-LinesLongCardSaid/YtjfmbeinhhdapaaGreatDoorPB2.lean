/- A part of the proof: Q0 Q1 Q2 Q3 Q4 Q5 Q6 Q7 Q8: each text has a comment of its own. -/
import Derived.Test.YtjfmbeinhhdapaaGreatDoorPB1
set_option linter.unusedVariables false
set_option linter.unusedSimpArgs false
set_option linter.constructorNameAsVariable false
set_option maxRecDepth 100000
namespace Go.Dd
open Go.Proofs
variable (r : RT) (n : Nat) (args : List DV) (h : Hp)
noncomputable def bFr (r : RT) (n : Nat) (x0 : DV) (h0 : Hp) : aG :=
 bnd (r 8 [x0] h0) fun v1 h1 =>
 bnd (aC 0 v1 h1) fun v2 h2 =>
 bnd (aC 1 v1 h2) fun v3 h3 =>
 bnd (aC 2 v1 h3) fun v4 h4 =>
 bnd (r 9 [x0] h4) fun v5 h5 =>
 bnd (aC 0 v5 h5) fun v6 h6 =>
 bnd (aC 1 v5 h6) fun v7 h7 =>
 bnd (aC 2 v5 h7) fun v8 h8 =>
 bnd (r 10 [v2, v6] h8) fun v9 h9 =>
 bnd (gD v9 true (some (v3, h9)) h9) fun v10 h10 =>
 bnd (gD v9 true (some (v7, h10)) h10) fun v11 h11 =>
 bnd (gD v9 true (aD .eql v10 v11 h11) h11) fun v12 h12 =>
 bnd (aP v9 v12 (.b false) h12) fun v13 h13 =>
 bnd (gD v13 true (some (v4, h13)) h13) fun v14 h14 =>
 bnd (gD v13 true (some (v8, h14)) h14) fun v15 h15 =>
 bnd (gD v13 true (aD .eql v14 v15 h15) h15) fun v16 h16 =>
 bnd (aP v13 v16 (.b false) h16) fun v17 h17 =>
 bnd (gD v17 true (r 11 [] h17) h17) fun v18 h18 =>
 bnd (aP v17 v18 (.b false) h18) fun v19 h19 =>
 some (v19, h19)
noncomputable def cGl (r : RT) (n : Nat) (x0 : DV) (h0 : Hp) : aG :=
 bnd (cO x0 h0) fun v1 h1 =>
 bnd (aD .gtr v1 (.i .i64 (Int.ofNat 2000)) h1) fun v2 h2 =>
 aX v2 (
 bnd (cN x0 none (some (.i .i64 (Int.ofNat 2000))) h2) fun v3 h3 =>
  bFr r n v3 h3) (
  bFr r n x0 h2)
noncomputable def s3 (r : RT) (n : Nat) (x0 : DV) (h0 : Hp) : aG :=
 cGl r n x0 h0
noncomputable abbrev c3 : Code := cf Tryz.f3
noncomputable abbrev cHf : Code := cR c3
noncomputable abbrev dKh : Code := cR cHf
noncomputable abbrev dFa : Code := cL cHf
noncomputable abbrev dEn : Code := cL c3
noncomputable abbrev r3 : K := aQ CF Tryz.f3
noncomputable def D3 (r : RT) (n : Nat) (c : Code) (X : Nat → K) (k : K) : K := aM CF r 44 n c X r3 k
theorem dDf : D3 r n dKh x0 r3 = (K1 (bFr r n) 0) :=
 (by kernel_rfl)
theorem cYn : D3 r n cHf x0 r3 = D3 r n dFa x0 (K1 (bFr r n) 0) :=
 congrArg (fun k => D3 r n dFa x0 k) (dDf r n)
theorem dGo : D3 r n cHf x0 r3 = (K1 (cGl r n) 0) :=
 (cYn r n).trans
 ((by kernel_rfl))
theorem dLr : D3 r n c3 x0 r3 = D3 r n dEn x0 (K1 (cGl r n) 0) :=
 congrArg (fun k => D3 r n dEn x0 k) (dGo r n)
theorem s3m : D3 r n c3 x0 r3 = (K1 (s3 r n) 0) :=
 (dLr r n).trans
 ((by kernel_rfl))
theorem dHq : aF CF r n 3 args h = s3 r n (aW args 0) h :=
 (by kernel_rfl : aF CF r n 3 args h = D3 r n c3 x0 r3 (aI args) h).trans ((congrFun (congrFun (s3m r n) (aI args)) h).trans (by kernel_rfl))
noncomputable def gI (r : RT) (n : Nat) (x8 x9 x11 x12 x13 x14 : DV) (h0 : Hp) : aG :=
 bnd (eY x14 h0) fun v1 h1 =>
 bnd (r 8 [v1] h1) fun v2 h2 =>
 bnd (aC 0 v2 h2) fun v3 h3 =>
 bnd (aC 1 v2 h3) fun v4 h4 =>
 bnd (aC 2 v2 h4) fun v5 h5 =>
 bnd (eY x14 h5) fun v6 h6 =>
 bnd (cM .add v6 (.s [34]) h6) fun v7 h7 =>
 bnd (r 8 [v7] h7) fun v8 h8 =>
 bnd (aC 0 v8 h8) fun v9 h9 =>
 bnd (aC 1 v8 h9) fun v10 h10 =>
 bnd (aC 2 v8 h10) fun v11 h11 =>
 bnd (gD x13 true (some (x8, h11)) h11) fun v12 h12 =>
 bnd (gD x13 true (some (x11, h12)) h12) fun v13 h13 =>
 bnd (gD x13 true (aD .eql v12 v13 h13) h13) fun v14 h14 =>
 bnd (aP x13 v14 (.b false) h14) fun v15 h15 =>
 bnd (gD v15 true (some (x9, h15)) h15) fun v16 h16 =>
 bnd (gD v15 true (some (x12, h16)) h16) fun v17 h17 =>
 bnd (gD v15 true (aD .eql v16 v17 h17) h17) fun v18 h18 =>
 bnd (aP v15 v18 (.b false) h18) fun v19 h19 =>
 bnd (gD v19 true (some (v4, h19)) h19) fun v20 h20 =>
 bnd (gD v19 true (aD .eql v20 (.i .i64 (Int.ofNat 0)) h20) h20) fun v21 h21 =>
 bnd (aP v19 v21 (.b false) h21) fun v22 h22 =>
 bnd (gD v22 true (some (v5, h22)) h22) fun v23 h23 =>
 bnd (gD v22 true (aD .eql v23 (.i .i64 (Int.ofNat 0)) h23) h23) fun v24 h24 =>
 bnd (aP v22 v24 (.b false) h24) fun v25 h25 =>
 bnd (gD v25 true (some (v10, h25)) h25) fun v26 h26 =>
 bnd (gD v25 true (aD .eql v26 (.i .i64 (Int.ofNat 0)) h26) h26) fun v27 h27 =>
 bnd (aP v25 v27 (.b false) h27) fun v28 h28 =>
 bnd (gD v28 true (some (v11, h28)) h28) fun v29 h29 =>
 bnd (gD v28 true (aD .eql v29 (.i .i64 (Int.ofNat 31)) h29) h29) fun v30 h30 =>
 bnd (aP v28 v30 (.b false) h30) fun v31 h31 =>
 bnd (gD v31 true (r 11 [] h31) h31) fun v32 h32 =>
 bnd (aP v31 v32 (.b false) h32) fun v33 h33 =>
 some (v33, h33)
noncomputable def uP (r : RT) (n : Nat) (kk12 : TT7) (x8 x9 x11 x12 x13 x14 x15 : DV) (h0 : Hp) : aG :=
 bnd (cQ x14 h0) fun v1 h1 =>
 bnd (aD .lss x15 v1 h1) fun v2 h2 =>
 aX v2 (
 bnd (aE 1 x14 x15 h2) fun v3 h3 =>
 bnd (aH 1 v3 (.i .u8 (Int.ofNat 10)) h3) fun _ h4 =>
 bnd (aD .add x15 (.i .i64 (Int.ofNat 1)) h4) fun v5 h5 =>
      kk12 x8 x9 x11 x12 x13 x14 v5 h5) (
      gI r n x8 x9 x11 x12 x13 x14 h2)
noncomputable def qR (r : RT) (n : Nat) (m : Nat) : TT7 :=
 Nat.rec (motive := fun _ => TT7) (fun _ _ _ _ _ _ _ _ => none) (fun _ ih => uP r n ih) m
noncomputable def bRs (r : RT) (n : Nat) : TT7 := qR r n n
noncomputable def aWw (r : RT) (n : Nat) (x8 x9 x11 x12 x13 x14 x15 : DV) (h0 : Hp) : aG :=
 bRs r n x8 x9 x11 x12 x13 x14 x15 h0
noncomputable def bDw (r : RT) (n : Nat) (x8 x9 x11 x12 x13 x14 : DV) (h0 : Hp) : aG :=
 aWw r n x8 x9 x11 x12 x13 x14 (.i .i64 (Int.ofNat 0)) h0
noncomputable def bHh (r : RT) (n : Nat) (x8 x9 x11 x12 x13 : DV) (h0 : Hp) : aG :=
 bnd (bR 1 1 [(.i .u8 (Int.ofNat 0))] (.i .i64 (Int.ofNat 20000)) (.i .i64 (Int.ofNat 20000)) h0) fun v1 h1 =>
  bDw r n x8 x9 x11 x12 x13 v1 h1
noncomputable def cHx (r : RT) (n : Nat) (x7 x8 x9 x10 x11 x12 : DV) (h0 : Hp) : aG :=
 bnd (r 10 [x7, x10] h0) fun v1 h1 =>
  bHh r n x8 x9 x11 x12 v1 h1
noncomputable def cMk (r : RT) (n : Nat) (x5 x7 x8 x9 : DV) (h0 : Hp) : aG :=
 bnd (r 9 [x5] h0) fun v1 h1 =>
 bnd (aC 0 v1 h1) fun v2 h2 =>
 bnd (aC 1 v1 h2) fun v3 h3 =>
 bnd (aC 2 v1 h3) fun v4 h4 =>
  cHx r n x7 x8 x9 v2 v3 v4 h4
noncomputable def lE (r : RT) (n : Nat) (x5 : DV) (h0 : Hp) : aG :=
 bnd (r 8 [x5] h0) fun v1 h1 =>
 bnd (aC 0 v1 h1) fun v2 h2 =>
 bnd (aC 1 v1 h2) fun v3 h3 =>
 bnd (aC 2 v1 h3) fun v4 h4 =>
  cMk r n x5 v2 v3 v4 h4
noncomputable def tT (r : RT) (n : Nat) (kk14 : fB) (x0 x1 x5 x6 : DV) (h0 : Hp) : aG :=
 bnd (aD .rem x1 (.i .i64 (Int.ofNat 100)) h0) fun v1 h1 =>
 bnd (aD .lss x6 v1 h1) fun v2 h2 =>
 aX v2 (
 bnd (cM .add x5 x0 h2) fun v3 h3 =>
 bnd (cM .add v3 (.s [10]) h3) fun v4 h4 =>
 bnd (aD .add x6 (.i .i64 (Int.ofNat 1)) h4) fun v5 h5 =>
      kk14 x0 x1 v4 v5 h5) (
      lE r n x5 h2)
noncomputable def pW (r : RT) (n : Nat) (m : Nat) : fB :=
 Nat.rec (motive := fun _ => fB) (fun _ _ _ _ _ => none) (fun _ ih => tT r n ih) m
noncomputable def bJs (r : RT) (n : Nat) : fB := pW r n n
noncomputable def aXm (r : RT) (n : Nat) (x0 x1 x5 x6 : DV) (h0 : Hp) : aG :=
 bJs r n x0 x1 x5 x6 h0
noncomputable def cLa (r : RT) (n : Nat) (x0 x1 x5 : DV) (h0 : Hp) : aG :=
 aXm r n x0 x1 x5 (.i .i64 (Int.ofNat 0)) h0
noncomputable def bEk (r : RT) (n : Nat) (x0 x1 : DV) (h0 : Hp) : aG :=
 cLa r n x0 x1 (.s []) h0
noncomputable def bGb (r : RT) (n : Nat) (x0 x1 : DV) (h0 : Hp) : aG :=
 bnd (aD .lss x1 (.i .i64 (Int.ofNat 0)) h0) fun v1 h1 =>
 aX v1 (
 bnd (aD .add x1 (.i .i64 (Int.ofNat 1)) h1) fun v2 h2 =>
 bnd (jK .neg v2 h2) fun v3 h3 =>
  bEk r n x0 v3 h3) (
  bEk r n x0 x1 h1)
noncomputable def cCv (r : RT) (n : Nat) (x0 x1 : DV) (h0 : Hp) : aG :=
 bnd (cO x0 h0) fun v1 h1 =>
 bnd (aD .gtr v1 (.i .i64 (Int.ofNat 60)) h1) fun v2 h2 =>
 aX v2 (
 bnd (cN x0 none (some (.i .i64 (Int.ofNat 60))) h2) fun v3 h3 =>
  bGb r n v3 x1 h3) (
  bGb r n x0 x1 h2)
noncomputable def s4 (r : RT) (n : Nat) (x0 x1 : DV) (h0 : Hp) : aG :=
 cCv r n x0 x1 h0
noncomputable abbrev c4 : Code := cf Tryz.f4
noncomputable abbrev cBx : Code := cR c4
noncomputable abbrev cAn : Code := cR cBx
noncomputable abbrev cAc : Code := cR cAn
noncomputable abbrev cCa : Code := cR cAc
noncomputable abbrev cCt : Code := cR cCa
noncomputable abbrev cHz : Code := cR cCt
noncomputable abbrev cEv : Code := cR cHz
noncomputable abbrev cJo : Code := cR cEv
noncomputable abbrev cCq : Code := cR cJo
noncomputable abbrev dId : Code := cR cCq
noncomputable abbrev aMz : Code := cL cCq
noncomputable abbrev bNh : Code := cR aMz
noncomputable abbrev aXb : Code := cL bNh
noncomputable abbrev yS : Code := cL aXb
noncomputable abbrev cNi : Code := cL aMz
noncomputable abbrev bYb : Code := cL cJo
noncomputable abbrev cOm : Code := cL cEv
noncomputable abbrev cOr : Code := cL cHz
noncomputable abbrev cMs : Code := cL cCt
noncomputable abbrev aOm : Code := cL cCa
noncomputable abbrev bWf : Code := cR aOm
noncomputable abbrev aVf : Code := cL bWf
noncomputable abbrev aBe : Code := cL aVf
noncomputable abbrev cPv : Code := cL aOm
noncomputable abbrev cOq : Code := cL cAc
noncomputable abbrev cMz : Code := cL cAn
noncomputable abbrev cOi : Code := cL cBx
noncomputable abbrev cOd : Code := cL c4
noncomputable abbrev r4 : K := aQ CF Tryz.f4
noncomputable def D4 (r : RT) (n : Nat) (c : Code) (X : Nat → K) (k : K) : K := aM CF r 112 n c X r4 k
theorem dAy : D4 r n dId x0 r4 = (K6 (gI r n) 8 9 11 12 13 14) :=
 (by kernel_rfl)
theorem cBd (kk12 : TT7) : D4 r n yS (xs x0 2 (K6 (gI r n) 8 9 11 12 13 14)) (K7 kk12 8 9 11 12 13 14 15) = (K7 (uP r n kk12) 8 9 11 12 13 14 15) :=
 (by kernel_rfl)
theorem bZx (m : Nat) : aL (fun kk => D4 r n yS (xs x0 2 (K6 (gI r n) 8 9 11 12 13 14)) kk) m = (K7 (qR r n m) 8 9 11 12 13 14 15) := by
 induction m with
 | zero => exact (by kernel_rfl : aL (fun kk => D4 r n yS (xs x0 2 (K6 (gI r n) 8 9 11 12 13 14)) kk) 0 = (K7 (qR r n 0) 8 9 11 12 13 14 15))
 | succ m ih =>
  refine (by kernel_rfl : aL (fun kk => D4 r n yS (xs x0 2 (K6 (gI r n) 8 9 11 12 13 14)) kk) (m + 1) = D4 r n yS (xs x0 2 (K6 (gI r n) 8 9 11 12 13 14)) (aL (fun kk => D4 r n yS (xs x0 2 (K6 (gI r n) 8 9 11 12 13 14)) kk) m)).trans ?_
  rw [ih]
  exact (cBd r n (qR r n m)).trans (by kernel_rfl)
theorem cUc : D4 r n aXb (xs x0 2 (K6 (gI r n) 8 9 11 12 13 14)) (K6 (gI r n) 8 9 11 12 13 14) = (K7 (bRs r n) 8 9 11 12 13 14 15) :=
 (by kernel_rfl : D4 r n aXb (xs x0 2 (K6 (gI r n) 8 9 11 12 13 14)) (K6 (gI r n) 8 9 11 12 13 14) = aL (fun kk => D4 r n yS (xs x0 2 (K6 (gI r n) 8 9 11 12 13 14)) kk) n).trans ((bZx r n n).trans (by kernel_rfl))
theorem cXm : D4 r n bNh x0 (K6 (gI r n) 8 9 11 12 13 14) = (K7 (aWw r n) 8 9 11 12 13 14 15) :=
 (by kernel_rfl : D4 r n bNh x0 (K6 (gI r n) 8 9 11 12 13 14) = D4 r n aXb (xs x0 2 (K6 (gI r n) 8 9 11 12 13 14)) (K6 (gI r n) 8 9 11 12 13 14)).trans
 ((cUc r n).trans (by kernel_rfl))
theorem cQd : D4 r n cCq x0 r4 = D4 r n aMz x0 (K6 (gI r n) 8 9 11 12 13 14) :=
 congrArg (fun k => D4 r n aMz x0 k) (dAy r n)
theorem cWf : D4 r n aMz x0 (K6 (gI r n) 8 9 11 12 13 14) = D4 r n cNi x0 (K7 (aWw r n) 8 9 11 12 13 14 15) :=
 congrArg (fun k => D4 r n cNi x0 k) (cXm r n)
theorem dDz : D4 r n cCq x0 r4 = (K6 (bDw r n) 8 9 11 12 13 14) :=
 (cQd r n).trans
 ((cWf r n).trans
 ((by kernel_rfl)))
theorem cQq : D4 r n cJo x0 r4 = D4 r n bYb x0 (K6 (bDw r n) 8 9 11 12 13 14) :=
 congrArg (fun k => D4 r n bYb x0 k) (dDz r n)
theorem cRk (q0 : gU) : D4 r n bYb x0 (K6 q0 8 9 11 12 13 14) = fun (env : bC) (h : Hp) =>
 bnd (bR 1 1 [(.i .u8 (Int.ofNat 0))] (.i .i64 (Int.ofNat 20000)) (.i .i64 (Int.ofNat 20000)) h) fun v1 h1 =>
  q0 (env 8) (env 9) (env 11) (env 12) (env 13) v1 h1 := by kernel_rfl
theorem cFn : (fun (env : bC) (h : Hp) =>
 bnd (bR 1 1 [(.i .u8 (Int.ofNat 0))] (.i .i64 (Int.ofNat 20000)) (.i .i64 (Int.ofNat 20000)) h) fun v1 h1 =>
  bDw r n (env 8) (env 9) (env 11) (env 12) (env 13) v1 h1) = (K5 (bHh r n) 8 9 11 12 13) := by kernel_rfl
theorem dGa : D4 r n cJo x0 r4 = (K5 (bHh r n) 8 9 11 12 13) :=
 (cQq r n).trans
 ((cRk r n (bDw r n)).trans (cFn r n))
theorem cRb : D4 r n cEv x0 r4 = D4 r n cOm x0 (K5 (bHh r n) 8 9 11 12 13) :=
 congrArg (fun k => D4 r n cOm x0 k) (dGa r n)
theorem dDp : D4 r n cEv x0 r4 = (K6 (cHx r n) 7 8 9 10 11 12) :=
 (cRb r n).trans
 ((by kernel_rfl))
theorem cXr : D4 r n cHz x0 r4 = D4 r n cOr x0 (K6 (cHx r n) 7 8 9 10 11 12) :=
 congrArg (fun k => D4 r n cOr x0 k) (dDp r n)
theorem dDy : D4 r n cHz x0 r4 = (K4 (cMk r n) 5 7 8 9) :=
 (cXr r n).trans
 ((by kernel_rfl))
theorem cQu : D4 r n cCt x0 r4 = D4 r n cMs x0 (K4 (cMk r n) 5 7 8 9) :=
 congrArg (fun k => D4 r n cMs x0 k) (dDy r n)
theorem dFc : D4 r n cCt x0 r4 = (K1 (lE r n) 5) :=
 (cQu r n).trans
 ((by kernel_rfl))
theorem cLy (kk14 : fB) : D4 r n aBe (xs x0 0 (K1 (lE r n) 5)) (K4 kk14 0 1 5 6) = (K4 (tT r n kk14) 0 1 5 6) :=
 (by kernel_rfl)
theorem cGs (m : Nat) : aL (fun kk => D4 r n aBe (xs x0 0 (K1 (lE r n) 5)) kk) m = (K4 (pW r n m) 0 1 5 6) := by
 induction m with
 | zero => exact (by kernel_rfl : aL (fun kk => D4 r n aBe (xs x0 0 (K1 (lE r n) 5)) kk) 0 = (K4 (pW r n 0) 0 1 5 6))
 | succ m ih =>
  refine (by kernel_rfl : aL (fun kk => D4 r n aBe (xs x0 0 (K1 (lE r n) 5)) kk) (m + 1) = D4 r n aBe (xs x0 0 (K1 (lE r n) 5)) (aL (fun kk => D4 r n aBe (xs x0 0 (K1 (lE r n) 5)) kk) m)).trans ?_
  rw [ih]
  exact (cLy r n (pW r n m)).trans (by kernel_rfl)
theorem dBe : D4 r n aVf (xs x0 0 (K1 (lE r n) 5)) (K1 (lE r n) 5) = (K4 (bJs r n) 0 1 5 6) :=
 (by kernel_rfl : D4 r n aVf (xs x0 0 (K1 (lE r n) 5)) (K1 (lE r n) 5) = aL (fun kk => D4 r n aBe (xs x0 0 (K1 (lE r n) 5)) kk) n).trans ((cGs r n n).trans (by kernel_rfl))
theorem cZj : D4 r n bWf x0 (K1 (lE r n) 5) = (K4 (aXm r n) 0 1 5 6) :=
 (by kernel_rfl : D4 r n bWf x0 (K1 (lE r n) 5) = D4 r n aVf (xs x0 0 (K1 (lE r n) 5)) (K1 (lE r n) 5)).trans
 ((dBe r n).trans (by kernel_rfl))
theorem cRu : D4 r n cCa x0 r4 = D4 r n aOm x0 (K1 (lE r n) 5) :=
 congrArg (fun k => D4 r n aOm x0 k) (dFc r n)
theorem cRc : D4 r n aOm x0 (K1 (lE r n) 5) = D4 r n cPv x0 (K4 (aXm r n) 0 1 5 6) :=
 congrArg (fun k => D4 r n cPv x0 k) (cZj r n)
theorem dBr : D4 r n cCa x0 r4 = (K3 (cLa r n) 0 1 5) :=
 (cRu r n).trans
 ((cRc r n).trans
 ((by kernel_rfl)))
theorem cEg : D4 r n cAc x0 r4 = D4 r n cOq x0 (K3 (cLa r n) 0 1 5) :=
 congrArg (fun k => D4 r n cOq x0 k) (dBr r n)
theorem dHk : D4 r n cAc x0 r4 = (K2 (bEk r n) 0 1) :=
 (cEg r n).trans
 ((by kernel_rfl))
theorem cCn : D4 r n cAn x0 r4 = D4 r n cMz x0 (K2 (bEk r n) 0 1) :=
 congrArg (fun k => D4 r n cMz x0 k) (dHk r n)
theorem dIt : D4 r n cAn x0 r4 = (K2 (bGb r n) 0 1) :=
 (cCn r n).trans
 ((by kernel_rfl))
theorem cDj : D4 r n cBx x0 r4 = D4 r n cOi x0 (K2 (bGb r n) 0 1) :=
 congrArg (fun k => D4 r n cOi x0 k) (dIt r n)
theorem dEp : D4 r n cBx x0 r4 = (K2 (cCv r n) 0 1) :=
 (cDj r n).trans
 ((by kernel_rfl))
theorem dIy : D4 r n c4 x0 r4 = D4 r n cOd x0 (K2 (cCv r n) 0 1) :=
 congrArg (fun k => D4 r n cOd x0 k) (dEp r n)
theorem s4m : D4 r n c4 x0 r4 = (K2 (s4 r n) 0 1) :=
 (dIy r n).trans
 ((by kernel_rfl))
theorem dEe : aF CF r n 4 args h = s4 r n (aW args 0) (aW args 1) h :=
 (by kernel_rfl : aF CF r n 4 args h = D4 r n c4 x0 r4 (aI args) h).trans ((congrFun (congrFun (s4m r n) (aI args)) h).trans (by kernel_rfl))
noncomputable def bFm (r : RT) (n : Nat) (x1 : DV) (h0 : Hp) : aG :=
 bnd (aK 5 x1 h0) fun v1 h1 =>
 bnd (r 12 [v1] h1) fun v2 h2 =>
 bnd (aK 5 x1 h2) fun v3 h3 =>
 cnd (bI (aK 5 x1 h0) v3 && true) (
 bnd (r 13 [v3] h3) fun v4 h4 =>
 bnd (cM .eql v2 v4 h4) fun v5 h5 =>
 bnd (gD v5 true (r 11 [] h5) h5) fun v6 h6 =>
 bnd (aP v5 v6 (.b false) h6) fun v7 h7 =>
 some (v7, h7))
noncomputable def bEz (r : RT) (n : Nat) (x1 : DV) (h0 : Hp) : aG :=
 bnd (aB 2 x1 h0) fun v1 h1 =>
 bnd (aA v1 h1) fun v2 h2 =>
 bnd (cO v2 h2) fun v3 h3 =>
 bnd (aD .gtr v3 (.i .i64 (Int.ofNat 300)) h3) fun v4 h4 =>
 aX v4 (
 bnd (aB 2 x1 h4) fun v5 h5 =>
 bnd (aA v5 h5) fun v6 h6 =>
 bnd (cN v6 none (some (.i .i64 (Int.ofNat 300))) h6) fun v7 h7 =>
 bnd (aB 2 x1 h7) fun v8 h8 =>
 bnd (aH 1 v8 v7 h8) fun _ h9 =>
  bFm r n x1 h9) (
  bFm r n x1 h4)
noncomputable def bGu (r : RT) (n : Nat) (x1 : DV) (h0 : Hp) : aG :=
 bnd (aB 3 x1 h0) fun v1 h1 =>
 bnd (aA v1 h1) fun v2 h2 =>
 bnd (cO v2 h2) fun v3 h3 =>
 bnd (aD .gtr v3 (.i .i64 (Int.ofNat 300)) h3) fun v4 h4 =>
 aX v4 (
 bnd (aB 3 x1 h4) fun v5 h5 =>
 bnd (aA v5 h5) fun v6 h6 =>
 bnd (cN v6 none (some (.i .i64 (Int.ofNat 300))) h6) fun v7 h7 =>
 bnd (aB 3 x1 h7) fun v8 h8 =>
 bnd (aH 1 v8 v7 h8) fun _ h9 =>
  bEz r n x1 h9) (
  bEz r n x1 h4)
noncomputable def s5 (r : RT) (n : Nat) (x0 : DV) (h0 : Hp) : aG :=
 bnd (dB x0 h0) fun v1 h1 =>
  bGu r n v1 h1
noncomputable abbrev c5 : Code := cf Tryz.f5
noncomputable abbrev cHs : Code := cR c5
noncomputable abbrev cLo : Code := cR cHs
noncomputable abbrev dNk : Code := cR cLo
noncomputable abbrev dBv : Code := cL cLo
noncomputable abbrev dJo : Code := cL cHs
noncomputable abbrev cVm : Code := cL c5
noncomputable abbrev r5 : K := aQ CF Tryz.f5
noncomputable def D5 (r : RT) (n : Nat) (c : Code) (X : Nat → K) (k : K) : K := aM CF r 27 n c X r5 k
theorem dGv : D5 r n dNk x0 r5 = (K1 (bFm r n) 1) :=
 (by kernel_rfl)
theorem cQa : D5 r n cLo x0 r5 = D5 r n dBv x0 (K1 (bFm r n) 1) :=
 congrArg (fun k => D5 r n dBv x0 k) (dGv r n)
theorem dFq : D5 r n cLo x0 r5 = (K1 (bEz r n) 1) :=
 (cQa r n).trans
 ((by kernel_rfl))
theorem cUw : D5 r n cHs x0 r5 = D5 r n dJo x0 (K1 (bEz r n) 1) :=
 congrArg (fun k => D5 r n dJo x0 k) (dFq r n)
theorem dGc : D5 r n cHs x0 r5 = (K1 (bGu r n) 1) :=
 (cUw r n).trans
 ((by kernel_rfl))
theorem dOd : D5 r n c5 x0 r5 = D5 r n cVm x0 (K1 (bGu r n) 1) :=
 congrArg (fun k => D5 r n cVm x0 k) (dGc r n)
theorem dOr (q0 : TT1) : D5 r n cVm x0 (K1 q0 1) = fun (env : bC) (h : Hp) =>
 bnd (dB (env 0) h) fun v1 h1 =>
  q0 v1 h1 := by kernel_rfl
theorem dCr : (fun (env : bC) (h : Hp) =>
 bnd (dB (env 0) h) fun v1 h1 =>
  bGu r n v1 h1) = (K1 (s5 r n) 0) := by kernel_rfl
theorem s5m : D5 r n c5 x0 r5 = (K1 (s5 r n) 0) :=
 (dOd r n).trans
 ((dOr r n (bGu r n)).trans (dCr r n))
theorem dHy : aF CF r n 5 args h = s5 r n (aW args 0) h :=
 (by kernel_rfl : aF CF r n 5 args h = D5 r n c5 x0 r5 (aI args) h).trans ((congrFun (congrFun (s5m r n) (aI args)) h).trans (by kernel_rfl))
noncomputable def hY (r : RT) (n : Nat) (x0 x7 : DV) (h0 : Hp) : aG :=
 bnd (r 8 [x0] h0) fun v1 h1 =>
 bnd (aC 0 v1 h1) fun v2 h2 =>
 bnd (aC 1 v1 h2) fun v3 h3 =>
 bnd (aC 2 v1 h3) fun v4 h4 =>
 bnd (r 8 [x7] h4) fun v5 h5 =>
 bnd (aC 0 v5 h5) fun v6 h6 =>
 bnd (aC 1 v5 h6) fun v7 h7 =>
 bnd (aC 2 v5 h7) fun v8 h8 =>
 bnd (r 10 [v2, v6] h8) fun v9 h9 =>
 bnd (gD v9 true (some (v4, h9)) h9) fun v10 h10 =>
 bnd (gD v9 true (some (v8, h10)) h10) fun v11 h11 =>
 bnd (gD v9 true (aD .eql v10 v11 h11) h11) fun v12 h12 =>
 bnd (aP v9 v12 (.b false) h12) fun v13 h13 =>
 bnd (gD v13 true (some (v7, h13)) h13) fun v14 h14 =>
 bnd (gD v13 true (some (v3, h14)) h14) fun v15 h15 =>
 bnd (gD v13 true (aD .mul (.i .i64 (Int.ofNat 3)) v15 h15) h15) fun v16 h16 =>
 bnd (gD v13 true (aD .eql v14 v16 h16) h16) fun v17 h17 =>
 bnd (aP v13 v17 (.b false) h17) fun v18 h18 =>
 bnd (gD v18 true (r 11 [] h18) h18) fun v19 h19 =>
 bnd (aP v18 v19 (.b false) h19) fun v20 h20 =>
 some (v20, h20)
noncomputable def aDh (r : RT) (n : Nat) (kk9 : fB) (x0 x5 x7 x8 : DV) (h0 : Hp) : aG :=
 bnd (aD .add x8 (.i .i64 (Int.ofNat 1)) h0) fun v1 h1 =>
  kk9 x0 x5 x7 v1 h1
noncomputable def aWr (r : RT) (n : Nat) (kk9 : fB) (x0 x5 x7 x8 : DV) (h0 : Hp) : aG :=
 bnd (aD .add x8 (.i .i64 (Int.ofNat 1)) h0) fun v1 h1 =>
 bnd (cN x0 (some x8) (some v1) h1) fun v2 h2 =>
 bnd (cM .add x7 v2 h2) fun v3 h3 =>
 bnd (bY x0 x8 h3) fun v4 h4 =>
 bnd (aD .eql v4 (.i .u8 (Int.ofNat 10)) h4) fun v5 h5 =>
 aX v5 (
 bnd (cM .add v3 x5 h5) fun v6 h6 =>
 bnd (cM .add v6 (.s [10, 10]) h6) fun v7 h7 =>
  aDh r n kk9 x0 x5 v7 x8 h7) (
  aDh r n kk9 x0 x5 v3 x8 h5)
noncomputable def aDi (r : RT) (n : Nat) (kk9 : fB) (x0 x5 x7 x8 : DV) (h0 : Hp) : aG :=
 bnd (cO x0 h0) fun v1 h1 =>
 bnd (aD .lss x8 v1 h1) fun v2 h2 =>
 aX v2 (
   aWr r n kk9 x0 x5 x7 x8 h2) (
   hY r n x0 x7 h2)
noncomputable def yN (r : RT) (n : Nat) (m : Nat) : fB :=
 Nat.rec (motive := fun _ => fB) (fun _ _ _ _ _ => none) (fun _ ih => aDi r n ih) m
noncomputable def cXz (r : RT) (n : Nat) : fB := yN r n n
noncomputable def cJw (r : RT) (n : Nat) (x0 x5 x7 x8 : DV) (h0 : Hp) : aG :=
 cXz r n x0 x5 x7 x8 h0
noncomputable def cCu (r : RT) (n : Nat) (x0 x5 x7 : DV) (h0 : Hp) : aG :=
 cJw r n x0 x5 x7 (.i .i64 (Int.ofNat 0)) h0
noncomputable def hC (r : RT) (n : Nat) (x0 x5 : DV) (h0 : Hp) : aG :=
 bnd (cM .add x5 (.s [10, 10]) h0) fun v1 h1 =>
  cCu r n x0 x5 v1 h1
noncomputable def aDl (r : RT) (n : Nat) (kk13 : fB) (x0 x1 x5 x6 : DV) (h0 : Hp) : aG :=
 bnd (aD .add x6 (.i .i64 (Int.ofNat 1)) h0) fun v1 h1 =>
  kk13 x0 x1 x5 v1 h1
noncomputable def bAi (r : RT) (n : Nat) (kk13 : fB) (x0 x1 x5 x6 : DV) (h0 : Hp) : aG :=
 bnd (bY x1 x6 h0) fun v1 h1 =>
 bnd (aD .neq v1 (.i .u8 (Int.ofNat 10)) h1) fun v2 h2 =>
 aX v2 (
 bnd (aD .add x6 (.i .i64 (Int.ofNat 1)) h2) fun v3 h3 =>
 bnd (cN x1 (some x6) (some v3) h3) fun v4 h4 =>
 bnd (cM .add x5 v4 h4) fun v5 h5 =>
  aDl r n kk13 x0 x1 v5 x6 h5) (
  aDl r n kk13 x0 x1 x5 x6 h2)
noncomputable def uB (r : RT) (n : Nat) (kk13 : fB) (x0 x1 x5 x6 : DV) (h0 : Hp) : aG :=
 bnd (cO x1 h0) fun v1 h1 =>
 bnd (aD .lss x6 v1 h1) fun v2 h2 =>
 aX v2 (
   bAi r n kk13 x0 x1 x5 x6 h2) (
   hC r n x0 x5 h2)
noncomputable def qK (r : RT) (n : Nat) (m : Nat) : fB :=
 Nat.rec (motive := fun _ => fB) (fun _ _ _ _ _ => none) (fun _ ih => uB r n ih) m
noncomputable def bIr (r : RT) (n : Nat) : fB := qK r n n
noncomputable def aVt (r : RT) (n : Nat) (x0 x1 x5 x6 : DV) (h0 : Hp) : aG :=
 bIr r n x0 x1 x5 x6 h0
noncomputable def cAs (r : RT) (n : Nat) (x0 x1 x5 : DV) (h0 : Hp) : aG :=
 aVt r n x0 x1 x5 (.i .i64 (Int.ofNat 0)) h0
noncomputable def bDp (r : RT) (n : Nat) (x0 x1 : DV) (h0 : Hp) : aG :=
 cAs r n x0 x1 (.s [34]) h0
noncomputable def bDq (r : RT) (n : Nat) (x0 x1 : DV) (h0 : Hp) : aG :=
 bnd (cO x1 h0) fun v1 h1 =>
 bnd (aD .gtr v1 (.i .i64 (Int.ofNat 20)) h1) fun v2 h2 =>
 aX v2 (
 bnd (cN x1 none (some (.i .i64 (Int.ofNat 20))) h2) fun v3 h3 =>
  bDp r n x0 v3 h3) (
  bDp r n x0 x1 h2)
noncomputable def cGg (r : RT) (n : Nat) (x0 x1 : DV) (h0 : Hp) : aG :=
 bnd (cO x0 h0) fun v1 h1 =>
 bnd (aD .gtr v1 (.i .i64 (Int.ofNat 400)) h1) fun v2 h2 =>
 aX v2 (
 bnd (cN x0 none (some (.i .i64 (Int.ofNat 400))) h2) fun v3 h3 =>
  bDq r n v3 x1 h3) (
  bDq r n x0 x1 h2)
noncomputable def s6 (r : RT) (n : Nat) (x0 x1 : DV) (h0 : Hp) : aG :=
 cGg r n x0 x1 h0
noncomputable abbrev c6 : Code := cf Tryz.f6
noncomputable abbrev bZm : Code := cR c6
noncomputable abbrev cKg : Code := cR bZm
noncomputable abbrev cJu : Code := cR cKg
noncomputable abbrev bZs : Code := cR cJu
noncomputable abbrev cIu : Code := cR bZs
noncomputable abbrev cKy : Code := cR cIu
noncomputable abbrev dNt : Code := cR cKy
noncomputable abbrev bQd : Code := cL cKy
noncomputable abbrev cTt : Code := cR bQd
noncomputable abbrev aYm : Code := cL cTt
noncomputable abbrev pF : Code := cL aYm
noncomputable abbrev aVm : Code := cR pF
noncomputable abbrev dGy : Code := cR aVm
noncomputable abbrev cPa : Code := cL aVm
noncomputable abbrev cNr : Code := cL pF
noncomputable abbrev cOs : Code := cL bQd
noncomputable abbrev cPf : Code := cL cIu
noncomputable abbrev aOr : Code := cL bZs
noncomputable abbrev bMy : Code := cR aOr
noncomputable abbrev aXa : Code := cL bMy
noncomputable abbrev pI : Code := cL aXa
noncomputable abbrev aYf : Code := cR pI
noncomputable abbrev dEz : Code := cR aYf
noncomputable abbrev cPk : Code := cL aYf
noncomputable abbrev cPb : Code := cL pI
noncomputable abbrev cNc : Code := cL aOr
noncomputable abbrev cOc : Code := cL cJu
noncomputable abbrev cOo : Code := cL cKg
noncomputable abbrev cPo : Code := cL bZm
noncomputable abbrev cPc : Code := cL c6
noncomputable abbrev r6 : K := aQ CF Tryz.f6
noncomputable def D6 (r : RT) (n : Nat) (c : Code) (X : Nat → K) (k : K) : K := aM CF r 96 n c X r6 k
theorem dEq : D6 r n dNt x0 r6 = (K2 (hY r n) 0 7) :=
 (by kernel_rfl)
theorem cVg (kk9 : fB) : D6 r n dGy (xs x0 2 (K2 (hY r n) 0 7)) (K4 kk9 0 5 7 8) = (K4 (aDh r n kk9) 0 5 7 8) :=
 (by kernel_rfl)
theorem cDe (kk9 : fB) : D6 r n aVm (xs x0 2 (K2 (hY r n) 0 7)) (K4 kk9 0 5 7 8) = D6 r n cPa (xs x0 2 (K2 (hY r n) 0 7)) (K4 (aDh r n kk9) 0 5 7 8) :=
 congrArg (fun k => D6 r n cPa (xs x0 2 (K2 (hY r n) 0 7)) k) (cVg r n kk9)
theorem dAd (kk9 : fB) : D6 r n aVm (xs x0 2 (K2 (hY r n) 0 7)) (K4 kk9 0 5 7 8) = (K4 (aWr r n kk9) 0 5 7 8) :=
 (cDe r n kk9).trans
 ((by kernel_rfl))
theorem cVr (kk9 : fB) : D6 r n pF (xs x0 2 (K2 (hY r n) 0 7)) (K4 kk9 0 5 7 8) = D6 r n cNr (xs x0 2 (K2 (hY r n) 0 7)) (K4 (aWr r n kk9) 0 5 7 8) :=
 congrArg (fun k => D6 r n cNr (xs x0 2 (K2 (hY r n) 0 7)) k) (dAd r n kk9)
theorem cQe (kk9 : fB) : D6 r n pF (xs x0 2 (K2 (hY r n) 0 7)) (K4 kk9 0 5 7 8) = (K4 (aDi r n kk9) 0 5 7 8) :=
 (cVr r n kk9).trans
 ((by kernel_rfl))
theorem cRl (m : Nat) : aL (fun kk => D6 r n pF (xs x0 2 (K2 (hY r n) 0 7)) kk) m = (K4 (yN r n m) 0 5 7 8) := by
 induction m with
 | zero => exact (by kernel_rfl : aL (fun kk => D6 r n pF (xs x0 2 (K2 (hY r n) 0 7)) kk) 0 = (K4 (yN r n 0) 0 5 7 8))
 | succ m ih =>
  refine (by kernel_rfl : aL (fun kk => D6 r n pF (xs x0 2 (K2 (hY r n) 0 7)) kk) (m + 1) = D6 r n pF (xs x0 2 (K2 (hY r n) 0 7)) (aL (fun kk => D6 r n pF (xs x0 2 (K2 (hY r n) 0 7)) kk) m)).trans ?_
  rw [ih]
  exact (cQe r n (yN r n m)).trans (by kernel_rfl)
theorem dIc : D6 r n aYm (xs x0 2 (K2 (hY r n) 0 7)) (K2 (hY r n) 0 7) = (K4 (cXz r n) 0 5 7 8) :=
 (by kernel_rfl : D6 r n aYm (xs x0 2 (K2 (hY r n) 0 7)) (K2 (hY r n) 0 7) = aL (fun kk => D6 r n pF (xs x0 2 (K2 (hY r n) 0 7)) kk) n).trans ((cRl r n n).trans (by kernel_rfl))
theorem dEv : D6 r n cTt x0 (K2 (hY r n) 0 7) = (K4 (cJw r n) 0 5 7 8) :=
 (by kernel_rfl : D6 r n cTt x0 (K2 (hY r n) 0 7) = D6 r n aYm (xs x0 2 (K2 (hY r n) 0 7)) (K2 (hY r n) 0 7)).trans
 ((dIc r n).trans (by kernel_rfl))
theorem cXy : D6 r n cKy x0 r6 = D6 r n bQd x0 (K2 (hY r n) 0 7) :=
 congrArg (fun k => D6 r n bQd x0 k) (dEq r n)
theorem dAu : D6 r n bQd x0 (K2 (hY r n) 0 7) = D6 r n cOs x0 (K4 (cJw r n) 0 5 7 8) :=
 congrArg (fun k => D6 r n cOs x0 k) (dEv r n)
theorem dHr : D6 r n cKy x0 r6 = (K3 (cCu r n) 0 5 7) :=
 (cXy r n).trans
 ((dAu r n).trans
 ((by kernel_rfl)))
theorem cRi : D6 r n cIu x0 r6 = D6 r n cPf x0 (K3 (cCu r n) 0 5 7) :=
 congrArg (fun k => D6 r n cPf x0 k) (dHr r n)
theorem dHs : D6 r n cIu x0 r6 = (K2 (hC r n) 0 5) :=
 (cRi r n).trans
 ((by kernel_rfl))
theorem cZk (kk13 : fB) : D6 r n dEz (xs x0 0 (K2 (hC r n) 0 5)) (K4 kk13 0 1 5 6) = (K4 (aDl r n kk13) 0 1 5 6) :=
 (by kernel_rfl)
theorem cJx (kk13 : fB) : D6 r n aYf (xs x0 0 (K2 (hC r n) 0 5)) (K4 kk13 0 1 5 6) = D6 r n cPk (xs x0 0 (K2 (hC r n) 0 5)) (K4 (aDl r n kk13) 0 1 5 6) :=
 congrArg (fun k => D6 r n cPk (xs x0 0 (K2 (hC r n) 0 5)) k) (cZk r n kk13)
theorem cXp (kk13 : fB) : D6 r n aYf (xs x0 0 (K2 (hC r n) 0 5)) (K4 kk13 0 1 5 6) = (K4 (bAi r n kk13) 0 1 5 6) :=
 (cJx r n kk13).trans
 ((by kernel_rfl))
theorem cLp (kk13 : fB) : D6 r n pI (xs x0 0 (K2 (hC r n) 0 5)) (K4 kk13 0 1 5 6) = D6 r n cPb (xs x0 0 (K2 (hC r n) 0 5)) (K4 (bAi r n kk13) 0 1 5 6) :=
 congrArg (fun k => D6 r n cPb (xs x0 0 (K2 (hC r n) 0 5)) k) (cXp r n kk13)
theorem cEk (kk13 : fB) : D6 r n pI (xs x0 0 (K2 (hC r n) 0 5)) (K4 kk13 0 1 5 6) = (K4 (uB r n kk13) 0 1 5 6) :=
 (cLp r n kk13).trans
 ((by kernel_rfl))
theorem cLc (m : Nat) : aL (fun kk => D6 r n pI (xs x0 0 (K2 (hC r n) 0 5)) kk) m = (K4 (qK r n m) 0 1 5 6) := by
 induction m with
 | zero => exact (by kernel_rfl : aL (fun kk => D6 r n pI (xs x0 0 (K2 (hC r n) 0 5)) kk) 0 = (K4 (qK r n 0) 0 1 5 6))
 | succ m ih =>
  refine (by kernel_rfl : aL (fun kk => D6 r n pI (xs x0 0 (K2 (hC r n) 0 5)) kk) (m + 1) = D6 r n pI (xs x0 0 (K2 (hC r n) 0 5)) (aL (fun kk => D6 r n pI (xs x0 0 (K2 (hC r n) 0 5)) kk) m)).trans ?_
  rw [ih]
  exact (cEk r n (qK r n m)).trans (by kernel_rfl)
theorem cSm : D6 r n aXa (xs x0 0 (K2 (hC r n) 0 5)) (K2 (hC r n) 0 5) = (K4 (bIr r n) 0 1 5 6) :=
 (by kernel_rfl : D6 r n aXa (xs x0 0 (K2 (hC r n) 0 5)) (K2 (hC r n) 0 5) = aL (fun kk => D6 r n pI (xs x0 0 (K2 (hC r n) 0 5)) kk) n).trans ((cLc r n n).trans (by kernel_rfl))
theorem cRg : D6 r n bMy x0 (K2 (hC r n) 0 5) = (K4 (aVt r n) 0 1 5 6) :=
 (by kernel_rfl : D6 r n bMy x0 (K2 (hC r n) 0 5) = D6 r n aXa (xs x0 0 (K2 (hC r n) 0 5)) (K2 (hC r n) 0 5)).trans
 ((cSm r n).trans (by kernel_rfl))
theorem cVv : D6 r n bZs x0 r6 = D6 r n aOr x0 (K2 (hC r n) 0 5) :=
 congrArg (fun k => D6 r n aOr x0 k) (dHs r n)
theorem cYg : D6 r n aOr x0 (K2 (hC r n) 0 5) = D6 r n cNc x0 (K4 (aVt r n) 0 1 5 6) :=
 congrArg (fun k => D6 r n cNc x0 k) (cRg r n)
theorem dEw : D6 r n bZs x0 r6 = (K3 (cAs r n) 0 1 5) :=
 (cVv r n).trans
 ((cYg r n).trans
 ((by kernel_rfl)))
theorem bYu : D6 r n cJu x0 r6 = D6 r n cOc x0 (K3 (cAs r n) 0 1 5) :=
 congrArg (fun k => D6 r n cOc x0 k) (dEw r n)
theorem dEi : D6 r n cJu x0 r6 = (K2 (bDp r n) 0 1) :=
 (bYu r n).trans
 ((by kernel_rfl))
theorem bYz : D6 r n cKg x0 r6 = D6 r n cOo x0 (K2 (bDp r n) 0 1) :=
 congrArg (fun k => D6 r n cOo x0 k) (dEi r n)
theorem dHv : D6 r n cKg x0 r6 = (K2 (bDq r n) 0 1) :=
 (bYz r n).trans
 ((by kernel_rfl))
theorem cFv : D6 r n bZm x0 r6 = D6 r n cPo x0 (K2 (bDq r n) 0 1) :=
 congrArg (fun k => D6 r n cPo x0 k) (dHv r n)
theorem dDd : D6 r n bZm x0 r6 = (K2 (cGg r n) 0 1) :=
 (cFv r n).trans
 ((by kernel_rfl))
theorem dHg : D6 r n c6 x0 r6 = D6 r n cPc x0 (K2 (cGg r n) 0 1) :=
 congrArg (fun k => D6 r n cPc x0 k) (dDd r n)
theorem s6m : D6 r n c6 x0 r6 = (K2 (s6 r n) 0 1) :=
 (dHg r n).trans
 ((by kernel_rfl))
theorem dEb : aF CF r n 6 args h = s6 r n (aW args 0) (aW args 1) h :=
 (by kernel_rfl : aF CF r n 6 args h = D6 r n c6 x0 r6 (aI args) h).trans ((congrFun (congrFun (s6m r n) (aI args)) h).trans (by kernel_rfl))
noncomputable def s7 (r : RT) (n : Nat) (x0 : DV) (h0 : Hp) : aG :=
 bnd (r 14 [x0] h0) fun v1 h1 =>
 bnd (r 15 [v1] h1) fun v2 h2 =>
 bnd (aC 0 v2 h2) fun v3 h3 =>
 bnd (aC 1 v2 h3) fun v4 h4 =>
 bnd (r 16 [v1] h4) fun v5 h5 =>
 bnd (aC 0 v5 h5) fun v6 h6 =>
 bnd (aC 1 v5 h6) fun v7 h7 =>
 bnd (cM .eql v3 v6 h7) fun v8 h8 =>
 bnd (gD v8 true (some (v4, h8)) h8) fun v9 h9 =>
 bnd (gD v8 true (some (v7, h9)) h9) fun v10 h10 =>
 bnd (gD v8 true (aD .eql v9 v10 h10) h10) fun v11 h11 =>
 bnd (aP v8 v11 (.b false) h11) fun v12 h12 =>
 bnd (gD v12 true (r 11 [] h12) h12) fun v13 h13 =>
 bnd (aP v12 v13 (.b false) h13) fun v14 h14 =>
 some (v14, h14)
noncomputable abbrev c7 : Code := cf Tryz.f7
noncomputable abbrev r7 : K := aQ CF Tryz.f7
noncomputable def D7 (r : RT) (n : Nat) (c : Code) (X : Nat → K) (k : K) : K := aM CF r 30 n c X r7 k
theorem s7m : D7 r n c7 x0 r7 = (K1 (s7 r n) 0) :=
 (by kernel_rfl)
theorem dNy : aF CF r n 7 args h = s7 r n (aW args 0) h :=
 (by kernel_rfl : aF CF r n 7 args h = D7 r n c7 x0 r7 (aI args) h).trans ((congrFun (congrFun (s7m r n) (aI args)) h).trans (by kernel_rfl))
noncomputable def gC (r : RT) (n : Nat) (x5 : DV) (h0 : Hp) : aG :=
 some (.t [x5, (.i .i64 (Int.ofNat 0)), (.i .i64 (Int.ofNat 0))], h0)
noncomputable def aCg (r : RT) (n : Nat) (kk6 : fB) (x5 x14 x15 x16 : DV) (h0 : Hp) : aG :=
 bnd (aD .add x16 (.i .i64 (Int.ofNat 1)) h0) fun v1 h1 =>
  kk6 x5 x14 x15 v1 h1
noncomputable def bIg (r : RT) (n : Nat) (kk6 : fB) (x5 x14 x15 x16 : DV) (h0 : Hp) : aG :=
 bnd (aE 1 x14 x16 h0) fun v1 h1 =>
 bnd (aA v1 h1) fun v2 h2 =>
 bnd (cM .eql v2 (.s []) h2) fun v3 h3 =>
 bnd (gD v3 false (some (v2, h3)) h3) fun v4 h4 =>
 bnd (gD v3 false (bY v4 (.i .i64 (Int.ofNat 0)) h4) h4) fun v5 h5 =>
 bnd (gD v3 false (aD .eql v5 (.i .u8 (Int.ofNat 34)) h5) h5) fun v6 h6 =>
 bnd (aP v3 (.b true) v6 h6) fun v7 h7 =>
 aX v7 (
  aCg r n kk6 x5 x14 x15 x16 h7) (
 bnd (r 18 [v2] h7) fun v8 h8 =>
 bnd (aC 0 v8 h8) fun v9 h9 =>
 bnd (aC 1 v8 h9) fun v10 h10 =>
 bnd (cJ [(.i .i64 (Int.ofNat 0)), (.s []), (.s []), .l0, (.s []), (.i .i64 (Int.ofNat 0))] h10) fun v11 h11 =>
 bnd (aH 6 v11 v9 h11) fun _ h12 =>
 bnd (jK .not v10 h12) fun v13 h13 =>
 aX v13 (
 bnd (aD .add x16 (.i .i64 (Int.ofNat 1)) h13) fun v14 h14 =>
 some (.t [.l0, v14, (.i .i64 (Int.ofNat 30))], h14)) (
 bnd (cQ x5 h13) fun v15 h15 =>
 bnd (aD .eql v15 (.i .i64 (Int.ofNat 60)) h15) fun v16 h16 =>
 aX v16 (
 bnd (aD .add x16 (.i .i64 (Int.ofNat 1)) h16) fun v17 h17 =>
 some (.t [.l0, v17, (.i .i64 (Int.ofNat 31))], h17)) (
 bnd (aK 6 v11 h16) fun v18 h18 =>
 bnd (aN [(.i .i64 (Int.ofNat 0)), (.s []), (.s []), .l0, (.s []), (.i .i64 (Int.ofNat 0))] 1 [(0, 6, v18)] h18) fun v19 h19 =>
 bnd (bK 6 88 x5 v19 h19) fun v20 h20 =>
    aCg r n kk6 v20 x14 x15 x16 h20)))
noncomputable def bHs (r : RT) (n : Nat) (kk6 : fB) (x5 x14 x15 x16 x17 : DV) (h0 : Hp) : aG :=
 aX x17 (
  bIg r n kk6 x5 x14 x15 x16 h0) (
  gC r n x5 h0)
noncomputable def aDg (r : RT) (n : Nat) (kk6 : fB) (x5 x14 x15 x16 : DV) (h0 : Hp) : aG :=
 bnd (aD .lss x16 x15 h0) fun v1 h1 =>
  bHs r n kk6 x5 x14 x15 x16 v1 h1
noncomputable def vI (r : RT) (n : Nat) (m : Nat) : fB :=
 Nat.rec (motive := fun _ => fB) (fun _ _ _ _ _ => none) (fun _ ih => aDg r n ih) m
noncomputable def cSo (r : RT) (n : Nat) : fB := vI r n n
noncomputable def cKb (r : RT) (n : Nat) (x5 x14 x15 x16 : DV) (h0 : Hp) : aG :=
 cSo r n x5 x14 x15 x16 h0
noncomputable def cEs (r : RT) (n : Nat) (x0 x5 : DV) (h0 : Hp) : aG :=
 bnd (r 17 [x0, (.s [10])] h0) fun v1 h1 =>
 bnd (cQ v1 h1) fun v2 h2 =>
  cKb r n x5 v1 v2 (.i .i64 (Int.ofNat 0)) h2
noncomputable def cMm (r : RT) (n : Nat) (x0 : DV) (h0 : Hp) : aG :=
 cEs r n x0 .l0 h0
noncomputable def cGw (r : RT) (n : Nat) (x0 : DV) (h0 : Hp) : aG :=
 bnd (cO x0 h0) fun v1 h1 =>
 bnd (aD .gtr v1 (.i .i64 (Int.ofNat 20000)) h1) fun v2 h2 =>
 aX v2 (
 some (.t [.l0, (.i .i64 (Int.ofNat 0)), (.i .i64 (Int.ofNat 31))], h2)) (
  cMm r n x0 h2)
noncomputable def s8 (r : RT) (n : Nat) (x0 : DV) (h0 : Hp) : aG :=
 cGw r n x0 h0
noncomputable abbrev c8 : Code := cf Tryz.f8
noncomputable abbrev cLb : Code := cR c8
noncomputable abbrev cHw : Code := cR cLb
noncomputable abbrev cGq : Code := cR cHw
noncomputable abbrev dOn : Code := cR cGq
noncomputable abbrev bOl : Code := cL cGq
noncomputable abbrev dBa : Code := cR bOl
noncomputable abbrev bYt : Code := cL dBa
noncomputable abbrev aCh : Code := cL bYt
noncomputable abbrev cJa : Code := cR aCh
noncomputable abbrev aWl : Code := cR cJa
noncomputable abbrev dFs : Code := cR aWl
noncomputable abbrev bKv : Code := cL aWl
noncomputable abbrev cNn : Code := cL cJa
noncomputable abbrev cNz : Code := cL aCh
noncomputable abbrev cOa : Code := cL bOl
noncomputable abbrev cOx : Code := cL cHw
noncomputable abbrev cNv : Code := cL cLb
noncomputable abbrev cOz : Code := cL c8
noncomputable abbrev r8 : K := aQ CF Tryz.f8
noncomputable def D8 (r : RT) (n : Nat) (c : Code) (X : Nat → K) (k : K) : K := aM CF r 48 n c X r8 k
theorem dFb : D8 r n dOn x0 r8 = (K1 (gC r n) 5) :=
 (by kernel_rfl)
theorem dEf (kk6 : fB) : D8 r n dFs (xs x0 0 (K1 (gC r n) 5)) (K4 kk6 5 14 15 16) = (K4 (aCg r n kk6) 5 14 15 16) :=
 (by kernel_rfl)
theorem cSr (kk6 : fB) : D8 r n aWl (xs x0 0 (K1 (gC r n) 5)) (K4 kk6 5 14 15 16) = D8 r n bKv (xs x0 0 (K1 (gC r n) 5)) (K4 (aCg r n kk6) 5 14 15 16) :=
 congrArg (fun k => D8 r n bKv (xs x0 0 (K1 (gC r n) 5)) k) (dEf r n kk6)
theorem cWd (kk6 : fB) (q0 : fB) (q1 : TT1) : D8 r n bKv (xs x0 0 (K1 q1 5)) (K4 q0 5 14 15 16) = fun (env : bC) (h : Hp) =>
 bnd (aE 1 (env 14) (env 16) h) fun v1 h1 =>
 bnd (aA v1 h1) fun v2 h2 =>
 bnd (cM .eql v2 (.s []) h2) fun v3 h3 =>
 bnd (gD v3 false (some (v2, h3)) h3) fun v4 h4 =>
 bnd (gD v3 false (bY v4 (.i .i64 (Int.ofNat 0)) h4) h4) fun v5 h5 =>
 bnd (gD v3 false (aD .eql v5 (.i .u8 (Int.ofNat 34)) h5) h5) fun v6 h6 =>
 bnd (aP v3 (.b true) v6 h6) fun v7 h7 =>
 aX v7 (
   q0 (env 5) (env 14) (env 15) (env 16) h7) (
 bnd (r 18 [v2] h7) fun v8 h8 =>
 bnd (aC 0 v8 h8) fun v9 h9 =>
 bnd (aC 1 v8 h9) fun v10 h10 =>
 bnd (cJ [(.i .i64 (Int.ofNat 0)), (.s []), (.s []), .l0, (.s []), (.i .i64 (Int.ofNat 0))] h10) fun v11 h11 =>
 bnd (aH 6 v11 v9 h11) fun _ h12 =>
 bnd (jK .not v10 h12) fun v13 h13 =>
 aX v13 (
 bnd (aD .add (env 16) (.i .i64 (Int.ofNat 1)) h13) fun v14 h14 =>
 some (.t [.l0, v14, (.i .i64 (Int.ofNat 30))], h14)) (
 bnd (cQ (env 5) h13) fun v15 h15 =>
 bnd (aD .eql v15 (.i .i64 (Int.ofNat 60)) h15) fun v16 h16 =>
 aX v16 (
 bnd (aD .add (env 16) (.i .i64 (Int.ofNat 1)) h16) fun v17 h17 =>
 some (.t [.l0, v17, (.i .i64 (Int.ofNat 31))], h17)) (
 bnd (aK 6 v11 h16) fun v18 h18 =>
 bnd (aN [(.i .i64 (Int.ofNat 0)), (.s []), (.s []), .l0, (.s []), (.i .i64 (Int.ofNat 0))] 1 [(0, 6, v18)] h18) fun v19 h19 =>
 bnd (bK 6 88 (env 5) v19 h19) fun v20 h20 =>
     q0 v20 (env 14) (env 15) (env 16) h20))) := by kernel_rfl
theorem cFr (kk6 : fB) : (fun (env : bC) (h : Hp) =>
 bnd (aE 1 (env 14) (env 16) h) fun v1 h1 =>
 bnd (aA v1 h1) fun v2 h2 =>
 bnd (cM .eql v2 (.s []) h2) fun v3 h3 =>
 bnd (gD v3 false (some (v2, h3)) h3) fun v4 h4 =>
 bnd (gD v3 false (bY v4 (.i .i64 (Int.ofNat 0)) h4) h4) fun v5 h5 =>
 bnd (gD v3 false (aD .eql v5 (.i .u8 (Int.ofNat 34)) h5) h5) fun v6 h6 =>
 bnd (aP v3 (.b true) v6 h6) fun v7 h7 =>
 aX v7 (
   aCg r n kk6 (env 5) (env 14) (env 15) (env 16) h7) (
 bnd (r 18 [v2] h7) fun v8 h8 =>
 bnd (aC 0 v8 h8) fun v9 h9 =>
 bnd (aC 1 v8 h9) fun v10 h10 =>
 bnd (cJ [(.i .i64 (Int.ofNat 0)), (.s []), (.s []), .l0, (.s []), (.i .i64 (Int.ofNat 0))] h10) fun v11 h11 =>
 bnd (aH 6 v11 v9 h11) fun _ h12 =>
 bnd (jK .not v10 h12) fun v13 h13 =>
 aX v13 (
 bnd (aD .add (env 16) (.i .i64 (Int.ofNat 1)) h13) fun v14 h14 =>
 some (.t [.l0, v14, (.i .i64 (Int.ofNat 30))], h14)) (
 bnd (cQ (env 5) h13) fun v15 h15 =>
 bnd (aD .eql v15 (.i .i64 (Int.ofNat 60)) h15) fun v16 h16 =>
 aX v16 (
 bnd (aD .add (env 16) (.i .i64 (Int.ofNat 1)) h16) fun v17 h17 =>
 some (.t [.l0, v17, (.i .i64 (Int.ofNat 31))], h17)) (
 bnd (aK 6 v11 h16) fun v18 h18 =>
 bnd (aN [(.i .i64 (Int.ofNat 0)), (.s []), (.s []), .l0, (.s []), (.i .i64 (Int.ofNat 0))] 1 [(0, 6, v18)] h18) fun v19 h19 =>
 bnd (bK 6 88 (env 5) v19 h19) fun v20 h20 =>
     aCg r n kk6 v20 (env 14) (env 15) (env 16) h20)))) = (K4 (bIg r n kk6) 5 14 15 16) := by kernel_rfl
theorem dCx (kk6 : fB) : D8 r n aWl (xs x0 0 (K1 (gC r n) 5)) (K4 kk6 5 14 15 16) = (K4 (bIg r n kk6) 5 14 15 16) :=
 (cSr r n kk6).trans
 ((cWd r n kk6 (aCg r n kk6) (gC r n)).trans (cFr r n kk6))
theorem dAv (kk6 : fB) : D8 r n cJa (xs x0 0 (K1 (gC r n) 5)) (K4 kk6 5 14 15 16) = D8 r n cNn (xs x0 0 (K1 (gC r n) 5)) (K4 (bIg r n kk6) 5 14 15 16) :=
 congrArg (fun k => D8 r n cNn (xs x0 0 (K1 (gC r n) 5)) k) (dCx r n kk6)
theorem dFm (kk6 : fB) : D8 r n cJa (xs x0 0 (K1 (gC r n) 5)) (K4 kk6 5 14 15 16) = (K5 (bHs r n kk6) 5 14 15 16 17) :=
 (dAv r n kk6).trans
 ((by kernel_rfl))
theorem cRj (kk6 : fB) : D8 r n aCh (xs x0 0 (K1 (gC r n) 5)) (K4 kk6 5 14 15 16) = D8 r n cNz (xs x0 0 (K1 (gC r n) 5)) (K5 (bHs r n kk6) 5 14 15 16 17) :=
 congrArg (fun k => D8 r n cNz (xs x0 0 (K1 (gC r n) 5)) k) (dFm r n kk6)
theorem cWu (kk6 : fB) : D8 r n aCh (xs x0 0 (K1 (gC r n) 5)) (K4 kk6 5 14 15 16) = (K4 (aDg r n kk6) 5 14 15 16) :=
 (cRj r n kk6).trans
 ((by kernel_rfl))
theorem cQv (m : Nat) : aL (fun kk => D8 r n aCh (xs x0 0 (K1 (gC r n) 5)) kk) m = (K4 (vI r n m) 5 14 15 16) := by
 induction m with
 | zero => exact (by kernel_rfl : aL (fun kk => D8 r n aCh (xs x0 0 (K1 (gC r n) 5)) kk) 0 = (K4 (vI r n 0) 5 14 15 16))
 | succ m ih =>
  refine (by kernel_rfl : aL (fun kk => D8 r n aCh (xs x0 0 (K1 (gC r n) 5)) kk) (m + 1) = D8 r n aCh (xs x0 0 (K1 (gC r n) 5)) (aL (fun kk => D8 r n aCh (xs x0 0 (K1 (gC r n) 5)) kk) m)).trans ?_
  rw [ih]
  exact (cWu r n (vI r n m)).trans (by kernel_rfl)
theorem dCw : D8 r n bYt (xs x0 0 (K1 (gC r n) 5)) (K1 (gC r n) 5) = (K4 (cSo r n) 5 14 15 16) :=
 (by kernel_rfl : D8 r n bYt (xs x0 0 (K1 (gC r n) 5)) (K1 (gC r n) 5) = aL (fun kk => D8 r n aCh (xs x0 0 (K1 (gC r n) 5)) kk) n).trans ((cQv r n n).trans (by kernel_rfl))
theorem dGi : D8 r n dBa x0 (K1 (gC r n) 5) = (K4 (cKb r n) 5 14 15 16) :=
 (by kernel_rfl : D8 r n dBa x0 (K1 (gC r n) 5) = D8 r n bYt (xs x0 0 (K1 (gC r n) 5)) (K1 (gC r n) 5)).trans
 ((dCw r n).trans (by kernel_rfl))
theorem cQn : D8 r n cGq x0 r8 = D8 r n bOl x0 (K1 (gC r n) 5) :=
 congrArg (fun k => D8 r n bOl x0 k) (dFb r n)
theorem cWw : D8 r n bOl x0 (K1 (gC r n) 5) = D8 r n cOa x0 (K4 (cKb r n) 5 14 15 16) :=
 congrArg (fun k => D8 r n cOa x0 k) (dGi r n)
theorem dCa : D8 r n cGq x0 r8 = (K2 (cEs r n) 0 5) :=
 (cQn r n).trans
 ((cWw r n).trans
 ((by kernel_rfl)))
theorem cWi : D8 r n cHw x0 r8 = D8 r n cOx x0 (K2 (cEs r n) 0 5) :=
 congrArg (fun k => D8 r n cOx x0 k) (dCa r n)
theorem dIf : D8 r n cHw x0 r8 = (K1 (cMm r n) 0) :=
 (cWi r n).trans
 ((by kernel_rfl))
theorem cQy : D8 r n cLb x0 r8 = D8 r n cNv x0 (K1 (cMm r n) 0) :=
 congrArg (fun k => D8 r n cNv x0 k) (dIf r n)
theorem dDb : D8 r n cLb x0 r8 = (K1 (cGw r n) 0) :=
 (cQy r n).trans
 ((by kernel_rfl))
theorem dLs : D8 r n c8 x0 r8 = D8 r n cOz x0 (K1 (cGw r n) 0) :=
 congrArg (fun k => D8 r n cOz x0 k) (dDb r n)
theorem s8m : D8 r n c8 x0 r8 = (K1 (s8 r n) 0) :=
 (dLs r n).trans
 ((by kernel_rfl))
theorem dHb : aF CF r n 8 args h = s8 r n (aW args 0) h :=
 (by kernel_rfl : aF CF r n 8 args h = D8 r n c8 x0 r8 (aI args) h).trans ((congrFun (congrFun (s8m r n) (aI args)) h).trans (by kernel_rfl))
noncomputable def iE (r : RT) (n : Nat) (x5 : DV) (h0 : Hp) : aG :=
 some (.t [x5, (.i .i64 (Int.ofNat 0)), (.i .i64 (Int.ofNat 0))], h0)
noncomputable def aBy (r : RT) (n : Nat) (kk7 : gE) (x5 x6 x7 : DV) (h0 : Hp) : aG :=
 bnd (aD .add x7 (.i .i64 (Int.ofNat 1)) h0) fun v1 h1 =>
  kk7 x5 x6 v1 h1
noncomputable def bJn (r : RT) (n : Nat) (kk7 : gE) (x5 x6 x7 : DV) (h0 : Hp) : aG :=
 bnd (aE 1 x6 x7 h0) fun v1 h1 =>
 bnd (aA v1 h1) fun v2 h2 =>
 bnd (cO v2 h2) fun v3 h3 =>
 bnd (aD .eql v3 (.i .i64 (Int.ofNat 0)) h3) fun v4 h4 =>
 bnd (gD v4 false (some (x6, h4)) h4) fun v5 h5 =>
 bnd (gD v4 false (some (x7, h5)) h5) fun v6 h6 =>
 bnd (gD v4 false (aE 1 v5 v6 h6) h6) fun v7 h7 =>
 bnd (gD v4 false (aA v7 h7) h7) fun v8 h8 =>
 bnd (gD v4 false (bY v8 (.i .i64 (Int.ofNat 0)) h8) h8) fun v9 h9 =>
 bnd (gD v4 false (aD .eql v9 (.i .u8 (Int.ofNat 34)) h9) h9) fun v10 h10 =>
 bnd (aP v4 (.b true) v10 h10) fun v11 h11 =>
 aX v11 (
  aBy r n kk7 x5 x6 x7 h11) (
 bnd (aE 1 x6 x7 h11) fun v12 h12 =>
 bnd (aA v12 h12) fun v13 h13 =>
 bnd (r 20 [v13] h13) fun v14 h14 =>
 bnd (aC 0 v14 h14) fun v15 h15 =>
 bnd (aC 1 v14 h15) fun v16 h16 =>
 bnd (cJ [(.i .i64 (Int.ofNat 0)), (.s []), (.s []), .l0, (.s []), (.i .i64 (Int.ofNat 0))] h16) fun v17 h17 =>
 bnd (aH 6 v17 v15 h17) fun _ h18 =>
 bnd (jK .not v16 h18) fun v19 h19 =>
 aX v19 (
 bnd (aD .add x7 (.i .i64 (Int.ofNat 1)) h19) fun v20 h20 =>
 some (.t [.l0, v20, (.i .i64 (Int.ofNat 30))], h20)) (
 bnd (cQ x5 h19) fun v21 h21 =>
 bnd (aD .eql v21 (.i .i64 (Int.ofNat 60)) h21) fun v22 h22 =>
 aX v22 (
 bnd (aD .add x7 (.i .i64 (Int.ofNat 1)) h22) fun v23 h23 =>
 some (.t [.l0, v23, (.i .i64 (Int.ofNat 31))], h23)) (
 bnd (aK 6 v17 h22) fun v24 h24 =>
 bnd (aN [(.i .i64 (Int.ofNat 0)), (.s []), (.s []), .l0, (.s []), (.i .i64 (Int.ofNat 0))] 1 [(0, 6, v24)] h24) fun v25 h25 =>
 bnd (bK 6 88 x5 v25 h25) fun v26 h26 =>
    aBy r n kk7 v26 x6 x7 h26)))
noncomputable def aDc (r : RT) (n : Nat) (kk7 : gE) (x5 x6 x7 : DV) (h0 : Hp) : aG :=
 bnd (cQ x6 h0) fun v1 h1 =>
 bnd (aD .lss x7 v1 h1) fun v2 h2 =>
 aX v2 (
   bJn r n kk7 x5 x6 x7 h2) (
   iE r n x5 h2)
noncomputable def vD (r : RT) (n : Nat) (m : Nat) : gE :=
 Nat.rec (motive := fun _ => gE) (fun _ _ _ _ => none) (fun _ ih => aDc r n ih) m
noncomputable def cZc (r : RT) (n : Nat) : gE := vD r n n
noncomputable def cKn (r : RT) (n : Nat) (x5 x6 x7 : DV) (h0 : Hp) : aG :=
 cZc r n x5 x6 x7 h0
noncomputable def cHy (r : RT) (n : Nat) (x5 x6 : DV) (h0 : Hp) : aG :=
 cKn r n x5 x6 (.i .i64 (Int.ofNat 0)) h0
noncomputable def bYp (r : RT) (n : Nat) (x0 x5 : DV) (h0 : Hp) : aG :=
 bnd (r 19 [x0, (.i .u8 (Int.ofNat 10))] h0) fun v1 h1 =>
  cHy r n x5 v1 h1
noncomputable def cJe (r : RT) (n : Nat) (x0 : DV) (h0 : Hp) : aG :=
 bYp r n x0 .l0 h0
noncomputable def bYq (r : RT) (n : Nat) (x0 : DV) (h0 : Hp) : aG :=
 bnd (cO x0 h0) fun v1 h1 =>
 bnd (aD .gtr v1 (.i .i64 (Int.ofNat 20000)) h1) fun v2 h2 =>
 aX v2 (
 some (.t [.l0, (.i .i64 (Int.ofNat 0)), (.i .i64 (Int.ofNat 31))], h2)) (
  cJe r n x0 h2)
noncomputable def s9 (r : RT) (n : Nat) (x0 : DV) (h0 : Hp) : aG :=
 bYq r n x0 h0
noncomputable abbrev c9 : Code := cf Tryz.f9
noncomputable abbrev cDw : Code := cR c9
noncomputable abbrev cHr : Code := cR cDw
noncomputable abbrev cGz : Code := cR cHr
noncomputable abbrev cBg : Code := cR cGz
noncomputable abbrev dPt : Code := cR cBg
noncomputable abbrev bVw : Code := cL cBg
noncomputable abbrev cTi : Code := cR bVw
noncomputable abbrev cDi : Code := cL cTi
noncomputable abbrev aCi : Code := cL cDi
noncomputable abbrev aVu : Code := cR aCi
noncomputable abbrev dCd : Code := cR aVu
noncomputable abbrev bPn : Code := cL aVu
noncomputable abbrev cPx : Code := cL aCi
noncomputable abbrev cPq : Code := cL bVw
noncomputable abbrev cOl : Code := cL cGz
noncomputable abbrev cPs : Code := cL cHr
noncomputable abbrev cMv : Code := cL cDw
noncomputable abbrev cNx : Code := cL c9
noncomputable abbrev r9 : K := aQ CF Tryz.f9
noncomputable def D9 (r : RT) (n : Nat) (c : Code) (X : Nat → K) (k : K) : K := aM CF r 57 n c X r9 k
theorem dEu : D9 r n dPt x0 r9 = (K1 (iE r n) 5) :=
 (by kernel_rfl)
theorem dIp (kk7 : gE) : D9 r n dCd (xs x0 0 (K1 (iE r n) 5)) (K3 kk7 5 6 7) = (K3 (aBy r n kk7) 5 6 7) :=
 (by kernel_rfl)
theorem cTv (kk7 : gE) : D9 r n aVu (xs x0 0 (K1 (iE r n) 5)) (K3 kk7 5 6 7) = D9 r n bPn (xs x0 0 (K1 (iE r n) 5)) (K3 (aBy r n kk7) 5 6 7) :=
 congrArg (fun k => D9 r n bPn (xs x0 0 (K1 (iE r n) 5)) k) (dIp r n kk7)
theorem cVd (kk7 : gE) (q0 : gE) (q1 : TT1) : D9 r n bPn (xs x0 0 (K1 q1 5)) (K3 q0 5 6 7) = fun (env : bC) (h : Hp) =>
 bnd (aE 1 (env 6) (env 7) h) fun v1 h1 =>
 bnd (aA v1 h1) fun v2 h2 =>
 bnd (cO v2 h2) fun v3 h3 =>
 bnd (aD .eql v3 (.i .i64 (Int.ofNat 0)) h3) fun v4 h4 =>
 bnd (gD v4 false (some ((env 6), h4)) h4) fun v5 h5 =>
 bnd (gD v4 false (some ((env 7), h5)) h5) fun v6 h6 =>
 bnd (gD v4 false (aE 1 v5 v6 h6) h6) fun v7 h7 =>
 bnd (gD v4 false (aA v7 h7) h7) fun v8 h8 =>
 bnd (gD v4 false (bY v8 (.i .i64 (Int.ofNat 0)) h8) h8) fun v9 h9 =>
 bnd (gD v4 false (aD .eql v9 (.i .u8 (Int.ofNat 34)) h9) h9) fun v10 h10 =>
 bnd (aP v4 (.b true) v10 h10) fun v11 h11 =>
 aX v11 (
   q0 (env 5) (env 6) (env 7) h11) (
 bnd (aE 1 (env 6) (env 7) h11) fun v12 h12 =>
 bnd (aA v12 h12) fun v13 h13 =>
 bnd (r 20 [v13] h13) fun v14 h14 =>
 bnd (aC 0 v14 h14) fun v15 h15 =>
 bnd (aC 1 v14 h15) fun v16 h16 =>
 bnd (cJ [(.i .i64 (Int.ofNat 0)), (.s []), (.s []), .l0, (.s []), (.i .i64 (Int.ofNat 0))] h16) fun v17 h17 =>
 bnd (aH 6 v17 v15 h17) fun _ h18 =>
 bnd (jK .not v16 h18) fun v19 h19 =>
 aX v19 (
 bnd (aD .add (env 7) (.i .i64 (Int.ofNat 1)) h19) fun v20 h20 =>
 some (.t [.l0, v20, (.i .i64 (Int.ofNat 30))], h20)) (
 bnd (cQ (env 5) h19) fun v21 h21 =>
 bnd (aD .eql v21 (.i .i64 (Int.ofNat 60)) h21) fun v22 h22 =>
 aX v22 (
 bnd (aD .add (env 7) (.i .i64 (Int.ofNat 1)) h22) fun v23 h23 =>
 some (.t [.l0, v23, (.i .i64 (Int.ofNat 31))], h23)) (
 bnd (aK 6 v17 h22) fun v24 h24 =>
 bnd (aN [(.i .i64 (Int.ofNat 0)), (.s []), (.s []), .l0, (.s []), (.i .i64 (Int.ofNat 0))] 1 [(0, 6, v24)] h24) fun v25 h25 =>
 bnd (bK 6 88 (env 5) v25 h25) fun v26 h26 =>
     q0 v26 (env 6) (env 7) h26))) := by kernel_rfl
theorem cBn (kk7 : gE) : (fun (env : bC) (h : Hp) =>
 bnd (aE 1 (env 6) (env 7) h) fun v1 h1 =>
 bnd (aA v1 h1) fun v2 h2 =>
 bnd (cO v2 h2) fun v3 h3 =>
 bnd (aD .eql v3 (.i .i64 (Int.ofNat 0)) h3) fun v4 h4 =>
 bnd (gD v4 false (some ((env 6), h4)) h4) fun v5 h5 =>
 bnd (gD v4 false (some ((env 7), h5)) h5) fun v6 h6 =>
 bnd (gD v4 false (aE 1 v5 v6 h6) h6) fun v7 h7 =>
 bnd (gD v4 false (aA v7 h7) h7) fun v8 h8 =>
 bnd (gD v4 false (bY v8 (.i .i64 (Int.ofNat 0)) h8) h8) fun v9 h9 =>
 bnd (gD v4 false (aD .eql v9 (.i .u8 (Int.ofNat 34)) h9) h9) fun v10 h10 =>
 bnd (aP v4 (.b true) v10 h10) fun v11 h11 =>
 aX v11 (
   aBy r n kk7 (env 5) (env 6) (env 7) h11) (
 bnd (aE 1 (env 6) (env 7) h11) fun v12 h12 =>
 bnd (aA v12 h12) fun v13 h13 =>
 bnd (r 20 [v13] h13) fun v14 h14 =>
 bnd (aC 0 v14 h14) fun v15 h15 =>
 bnd (aC 1 v14 h15) fun v16 h16 =>
 bnd (cJ [(.i .i64 (Int.ofNat 0)), (.s []), (.s []), .l0, (.s []), (.i .i64 (Int.ofNat 0))] h16) fun v17 h17 =>
 bnd (aH 6 v17 v15 h17) fun _ h18 =>
 bnd (jK .not v16 h18) fun v19 h19 =>
 aX v19 (
 bnd (aD .add (env 7) (.i .i64 (Int.ofNat 1)) h19) fun v20 h20 =>
 some (.t [.l0, v20, (.i .i64 (Int.ofNat 30))], h20)) (
 bnd (cQ (env 5) h19) fun v21 h21 =>
 bnd (aD .eql v21 (.i .i64 (Int.ofNat 60)) h21) fun v22 h22 =>
 aX v22 (
 bnd (aD .add (env 7) (.i .i64 (Int.ofNat 1)) h22) fun v23 h23 =>
 some (.t [.l0, v23, (.i .i64 (Int.ofNat 31))], h23)) (
 bnd (aK 6 v17 h22) fun v24 h24 =>
 bnd (aN [(.i .i64 (Int.ofNat 0)), (.s []), (.s []), .l0, (.s []), (.i .i64 (Int.ofNat 0))] 1 [(0, 6, v24)] h24) fun v25 h25 =>
 bnd (bK 6 88 (env 5) v25 h25) fun v26 h26 =>
     aBy r n kk7 v26 (env 6) (env 7) h26)))) = (K3 (bJn r n kk7) 5 6 7) := by kernel_rfl
theorem dBo (kk7 : gE) : D9 r n aVu (xs x0 0 (K1 (iE r n) 5)) (K3 kk7 5 6 7) = (K3 (bJn r n kk7) 5 6 7) :=
 (cTv r n kk7).trans
 ((cVd r n kk7 (aBy r n kk7) (iE r n)).trans (cBn r n kk7))
theorem cWc (kk7 : gE) : D9 r n aCi (xs x0 0 (K1 (iE r n) 5)) (K3 kk7 5 6 7) = D9 r n cPx (xs x0 0 (K1 (iE r n) 5)) (K3 (bJn r n kk7) 5 6 7) :=
 congrArg (fun k => D9 r n cPx (xs x0 0 (K1 (iE r n) 5)) k) (dBo r n kk7)
theorem cQf (kk7 : gE) : D9 r n aCi (xs x0 0 (K1 (iE r n) 5)) (K3 kk7 5 6 7) = (K3 (aDc r n kk7) 5 6 7) :=
 (cWc r n kk7).trans
 ((by kernel_rfl))
theorem cVl (m : Nat) : aL (fun kk => D9 r n aCi (xs x0 0 (K1 (iE r n) 5)) kk) m = (K3 (vD r n m) 5 6 7) := by
 induction m with
 | zero => exact (by kernel_rfl : aL (fun kk => D9 r n aCi (xs x0 0 (K1 (iE r n) 5)) kk) 0 = (K3 (vD r n 0) 5 6 7))
 | succ m ih =>
  refine (by kernel_rfl : aL (fun kk => D9 r n aCi (xs x0 0 (K1 (iE r n) 5)) kk) (m + 1) = D9 r n aCi (xs x0 0 (K1 (iE r n) 5)) (aL (fun kk => D9 r n aCi (xs x0 0 (K1 (iE r n) 5)) kk) m)).trans ?_
  rw [ih]
  exact (cQf r n (vD r n m)).trans (by kernel_rfl)
theorem dIw : D9 r n cDi (xs x0 0 (K1 (iE r n) 5)) (K1 (iE r n) 5) = (K3 (cZc r n) 5 6 7) :=
 (by kernel_rfl : D9 r n cDi (xs x0 0 (K1 (iE r n) 5)) (K1 (iE r n) 5) = aL (fun kk => D9 r n aCi (xs x0 0 (K1 (iE r n) 5)) kk) n).trans ((cVl r n n).trans (by kernel_rfl))
theorem dIk : D9 r n cTi x0 (K1 (iE r n) 5) = (K3 (cKn r n) 5 6 7) :=
 (by kernel_rfl : D9 r n cTi x0 (K1 (iE r n) 5) = D9 r n cDi (xs x0 0 (K1 (iE r n) 5)) (K1 (iE r n) 5)).trans
 ((dIw r n).trans (by kernel_rfl))
theorem cZo : D9 r n cBg x0 r9 = D9 r n bVw x0 (K1 (iE r n) 5) :=
 congrArg (fun k => D9 r n bVw x0 k) (dEu r n)
theorem cRr : D9 r n bVw x0 (K1 (iE r n) 5) = D9 r n cPq x0 (K3 (cKn r n) 5 6 7) :=
 congrArg (fun k => D9 r n cPq x0 k) (dIk r n)
theorem dCg : D9 r n cBg x0 r9 = (K2 (cHy r n) 5 6) :=
 (cZo r n).trans
 ((cRr r n).trans
 ((by kernel_rfl)))
theorem cYs : D9 r n cGz x0 r9 = D9 r n cOl x0 (K2 (cHy r n) 5 6) :=
 congrArg (fun k => D9 r n cOl x0 k) (dCg r n)
theorem dHe : D9 r n cGz x0 r9 = (K2 (bYp r n) 0 5) :=
 (cYs r n).trans
 ((by kernel_rfl))
theorem cUj : D9 r n cHr x0 r9 = D9 r n cPs x0 (K2 (bYp r n) 0 5) :=
 congrArg (fun k => D9 r n cPs x0 k) (dHe r n)
theorem dDj : D9 r n cHr x0 r9 = (K1 (cJe r n) 0) :=
 (cUj r n).trans
 ((by kernel_rfl))
theorem cVq : D9 r n cDw x0 r9 = D9 r n cMv x0 (K1 (cJe r n) 0) :=
 congrArg (fun k => D9 r n cMv x0 k) (dDj r n)
theorem dCf : D9 r n cDw x0 r9 = (K1 (bYq r n) 0) :=
 (cVq r n).trans
 ((by kernel_rfl))
theorem dNs : D9 r n c9 x0 r9 = D9 r n cNx x0 (K1 (bYq r n) 0) :=
 congrArg (fun k => D9 r n cNx x0 k) (dCf r n)
theorem s9m : D9 r n c9 x0 r9 = (K1 (s9 r n) 0) :=
 (dNs r n).trans
 ((by kernel_rfl))
theorem dFi : aF CF r n 9 args h = s9 r n (aW args 0) h :=
 (by kernel_rfl : aF CF r n 9 args h = D9 r n c9 x0 r9 (aI args) h).trans ((congrFun (congrFun (s9m r n) (aI args)) h).trans (by kernel_rfl))
noncomputable def gT (r : RT) (n : Nat) (h0 : Hp) : aG :=
 some ((.b true), h0)
noncomputable def uQ (r : RT) (n : Nat) (kk5 : gE) (x0 x1 x5 : DV) (h0 : Hp) : aG :=
 bnd (cQ x0 h0) fun v1 h1 =>
 bnd (aD .lss x5 v1 h1) fun v2 h2 =>
 aX v2 (
 bnd (aE 6 x0 x5 h2) fun v3 h3 =>
 bnd (aK 6 v3 h3) fun v4 h4 =>
 bnd (aE 6 x1 x5 h4) fun v5 h5 =>
 bnd (aK 6 v5 h5) fun v6 h6 =>
 bnd (r 21 [v4, v6] h6) fun v7 h7 =>
 bnd (jK .not v7 h7) fun v8 h8 =>
 aX v8 (
 some ((.b false), h8)) (
 bnd (aD .add x5 (.i .i64 (Int.ofNat 1)) h8) fun v9 h9 =>
    kk5 x0 x1 v9 h9)) (
      gT r n h2)
noncomputable def qG (r : RT) (n : Nat) (m : Nat) : gE :=
 Nat.rec (motive := fun _ => gE) (fun _ _ _ _ => none) (fun _ ih => uQ r n ih) m
noncomputable def bPg (r : RT) (n : Nat) : gE := qG r n n
noncomputable def bCk (r : RT) (n : Nat) (x0 x1 x5 : DV) (h0 : Hp) : aG :=
 bPg r n x0 x1 x5 h0
noncomputable def aZe (r : RT) (n : Nat) (x0 x1 : DV) (h0 : Hp) : aG :=
 bCk r n x0 x1 (.i .i64 (Int.ofNat 0)) h0
noncomputable def aWi (r : RT) (n : Nat) (x0 x1 : DV) (h0 : Hp) : aG :=
 bnd (cQ x0 h0) fun v1 h1 =>
 bnd (cQ x1 h1) fun v2 h2 =>
 bnd (aD .neq v1 v2 h2) fun v3 h3 =>
 aX v3 (
 some ((.b false), h3)) (
  aZe r n x0 x1 h3)
noncomputable def s10 (r : RT) (n : Nat) (x0 x1 : DV) (h0 : Hp) : aG :=
 aWi r n x0 x1 h0
noncomputable abbrev c10 : Code := cf Tryz.f10
noncomputable abbrev aYd : Code := cR c10
noncomputable abbrev aZu : Code := cR aYd
noncomputable abbrev dFg : Code := cR aZu
noncomputable abbrev aMd : Code := cL aZu
noncomputable abbrev bVs : Code := cR aMd
noncomputable abbrev aXy : Code := cL bVs
noncomputable abbrev aBo : Code := cL aXy
noncomputable abbrev cPh : Code := cL aMd
noncomputable abbrev cNp : Code := cL aYd
noncomputable abbrev bMz : Code := cL c10
noncomputable abbrev r10 : K := aQ CF Tryz.f10
noncomputable def D10 (r : RT) (n : Nat) (c : Code) (X : Nat → K) (k : K) : K := aM CF r 29 n c X r10 k
theorem cUb : D10 r n dFg x0 r10 = (K0 (gT r n)) :=
 (by kernel_rfl)
theorem cGb (kk5 : gE) : D10 r n aBo (xs x0 0 (K0 (gT r n))) (K3 kk5 0 1 5) = (K3 (uQ r n kk5) 0 1 5) :=
 (by kernel_rfl)
theorem cAq (m : Nat) : aL (fun kk => D10 r n aBo (xs x0 0 (K0 (gT r n))) kk) m = (K3 (qG r n m) 0 1 5) := by
 induction m with
 | zero => exact (by kernel_rfl : aL (fun kk => D10 r n aBo (xs x0 0 (K0 (gT r n))) kk) 0 = (K3 (qG r n 0) 0 1 5))
 | succ m ih =>
  refine (by kernel_rfl : aL (fun kk => D10 r n aBo (xs x0 0 (K0 (gT r n))) kk) (m + 1) = D10 r n aBo (xs x0 0 (K0 (gT r n))) (aL (fun kk => D10 r n aBo (xs x0 0 (K0 (gT r n))) kk) m)).trans ?_
  rw [ih]
  exact (cGb r n (qG r n m)).trans (by kernel_rfl)
theorem cQb : D10 r n aXy (xs x0 0 (K0 (gT r n))) (K0 (gT r n)) = (K3 (bPg r n) 0 1 5) :=
 (by kernel_rfl : D10 r n aXy (xs x0 0 (K0 (gT r n))) (K0 (gT r n)) = aL (fun kk => D10 r n aBo (xs x0 0 (K0 (gT r n))) kk) n).trans ((cAq r n n).trans (by kernel_rfl))
theorem cRf : D10 r n bVs x0 (K0 (gT r n)) = (K3 (bCk r n) 0 1 5) :=
 (by kernel_rfl : D10 r n bVs x0 (K0 (gT r n)) = D10 r n aXy (xs x0 0 (K0 (gT r n))) (K0 (gT r n))).trans
 ((cQb r n).trans (by kernel_rfl))
theorem cHt : D10 r n aZu x0 r10 = D10 r n aMd x0 (K0 (gT r n)) :=
 congrArg (fun k => D10 r n aMd x0 k) (cUb r n)
theorem cBk : D10 r n aMd x0 (K0 (gT r n)) = D10 r n cPh x0 (K3 (bCk r n) 0 1 5) :=
 congrArg (fun k => D10 r n cPh x0 k) (cRf r n)
theorem cSh : D10 r n aZu x0 r10 = (K2 (aZe r n) 0 1) :=
 (cHt r n).trans
 ((cBk r n).trans
 ((by kernel_rfl)))
theorem cKv : D10 r n aYd x0 r10 = D10 r n cNp x0 (K2 (aZe r n) 0 1) :=
 congrArg (fun k => D10 r n cNp x0 k) (cSh r n)
theorem cZp : D10 r n aYd x0 r10 = (K2 (aWi r n) 0 1) :=
 (cKv r n).trans
 ((by kernel_rfl))
theorem dDw : D10 r n c10 x0 r10 = D10 r n bMz x0 (K2 (aWi r n) 0 1) :=
 congrArg (fun k => D10 r n bMz x0 k) (cZp r n)
theorem dKw : D10 r n c10 x0 r10 = (K2 (s10 r n) 0 1) :=
 (dDw r n).trans
 ((by kernel_rfl))
theorem cPn : aF CF r n 10 args h = s10 r n (aW args 0) (aW args 1) h :=
 (by kernel_rfl : aF CF r n 10 args h = D10 r n c10 x0 r10 (aI args) h).trans ((congrFun (congrFun (dKw r n) (aI args)) h).trans (by kernel_rfl))
noncomputable def s11 (r : RT) (n : Nat) (h0 : Hp) : aG :=
 bnd (r 22 [(.i .i64 (Int.ofNat 30000)), (.s [99, 108, 97, 115, 115, 32, 80, 111, 105, 110, 116, 32, 79, 98, 106, 101, 99, 116, 32, 120, 32, 121, 10, 109, 101, 116, 104, 111, 100, 32, 80, 111, 105, 110, 116, 32, 120, 32, 94, 120, 10, 100, 111, 32, 49, 48, 48, 32, 51, 32, 43, 32, 52, 10])] h0) fun v1 h1 =>
 bnd (aC 0 v1 h1) fun v2 h2 =>
 bnd (aC 1 v1 h2) fun v3 h3 =>
 bnd (aC 2 v1 h3) fun v4 h4 =>
 bnd (r 8 [(.s [101, 118, 101, 114, 121])] h4) fun v5 h5 =>
 bnd (aC 0 v5 h5) fun v6 h6 =>
 bnd (aC 1 v5 h6) fun v7 h7 =>
 bnd (aC 2 v5 h7) fun v8 h8 =>
 bnd (cM .eql v2 (.s [48, 32, 48, 32, 48, 32, 34, 34, 32, 34, 34, 10, 48, 32, 48, 32, 48, 32, 34, 34, 32, 34, 34, 10, 48, 32, 48, 32, 57, 54, 32, 34, 55, 34, 32, 34, 34, 10]) h8) fun v9 h9 =>
 bnd (gD v9 true (some (v3, h9)) h9) fun v10 h10 =>
 bnd (gD v9 true (aD .eql v10 (.i .i64 (Int.ofNat 0)) h10) h10) fun v11 h11 =>
 bnd (aP v9 v11 (.b false) h11) fun v12 h12 =>
 bnd (gD v12 true (some (v4, h12)) h12) fun v13 h13 =>
 bnd (gD v12 true (aD .eql v13 (.i .i64 (Int.ofNat 0)) h13) h13) fun v14 h14 =>
 bnd (aP v12 v14 (.b false) h14) fun v15 h15 =>
 bnd (gD v15 true (some (v7, h15)) h15) fun v16 h16 =>
 bnd (gD v15 true (aD .eql v16 (.i .i64 (Int.ofNat 1)) h16) h16) fun v17 h17 =>
 bnd (aP v15 v17 (.b false) h17) fun v18 h18 =>
 bnd (gD v18 true (some (v8, h18)) h18) fun v19 h19 =>
 bnd (gD v18 true (aD .eql v19 (.i .i64 (Int.ofNat 30)) h19) h19) fun v20 h20 =>
 bnd (aP v18 v20 (.b false) h20) fun v21 h21 =>
 some (v21, h21)
noncomputable abbrev c11 : Code := cf Tryz.f11
noncomputable abbrev r11 : K := aQ CF Tryz.f11
noncomputable def D11 (r : RT) (n : Nat) (c : Code) (X : Nat → K) (k : K) : K := aM CF r 35 n c X r11 k
theorem dPo : D11 r n c11 x0 r11 = (K0 (s11 r n)) :=
 (by kernel_rfl)
theorem cNk : aF CF r n 11 args h = s11 r n h :=
 (by kernel_rfl : aF CF r n 11 args h = D11 r n c11 x0 r11 (aI args) h).trans ((congrFun (congrFun (dPo r n) (aI args)) h).trans (by kernel_rfl))
noncomputable def s12 (r : RT) (n : Nat) (x0 : DV) (h0 : Hp) : aG :=
 bnd (dB x0 h0) fun v1 h1 =>
 bnd (aB 0 v1 (resv 1 h1)) fun v2 h2 =>
 bnd (aA v2 h2) fun v3 h3 =>
 bnd (kR [v3] h3) fun v4 h4 =>
 bnd (aB 1 v1 h4) fun v5 h5 =>
 bnd (aA v5 h5) fun v6 h6 =>
 cnd (bI (aA v5 (resv 1 h1)) v6 && true) (
 bnd (kR [v6] h6) fun v7 h7 =>
 bnd (aB 4 v1 h7) fun v8 h8 =>
 bnd (aA v8 h8) fun v9 h9 =>
 cnd (bI (aA v8 h4) v9 && (bI (aA v8 (resv 1 h1)) v9 && true)) (
 bnd (kR [v9] h9) fun v10 h10 =>
 bnd (aB 3 v1 h10) fun v11 h11 =>
 bnd (aA v11 h11) fun v12 h12 =>
 cnd (bI (aA v11 h7) v12 && (bI (aA v11 h4) v12 && (bI (aA v11 (resv 1 h1)) v12 && true))) (
 bnd (iZ [v12] h12) fun v13 h13 =>
 bnd (aB 2 v1 h13) fun v14 h14 =>
 bnd (aA v14 h14) fun v15 h15 =>
 cnd (bI (aA v14 h10) v15 && (bI (aA v14 h7) v15 && (bI (aA v14 h4) v15 && (bI (aA v14 (resv 1 h1)) v15 && true)))) (
 bnd (iZ [v15] h15) fun v16 h16 =>
 bnd (cG (cK 0 h1.next) [(.s []), (.s []), (.s []), (.s []), (.s [])] 5 [(0, 1, v4), (1, 1, v7), (2, 1, v10), (3, 1, v13), (4, 1, v16)] h16) fun v17 h17 =>
 bnd (rN [v17, (.s [32])] h17) fun v18 h18 =>
 bnd (cM .add v18 (.s [10]) h18) fun v19 h19 =>
 some (v19, h19)))))
noncomputable abbrev c12 : Code := cf Tryz.f12
noncomputable abbrev r12 : K := aQ CF Tryz.f12
noncomputable def D12 (r : RT) (n : Nat) (c : Code) (X : Nat → K) (k : K) : K := aM CF r 21 n c X r12 k
theorem dMz : D12 r n c12 x0 r12 = (K1 (s12 r n) 0) :=
 (by kernel_rfl)
theorem cOh : aF CF r n 12 args h = s12 r n (aW args 0) h :=
 (by kernel_rfl : aF CF r n 12 args h = D12 r n c12 x0 r12 (aI args) h).trans ((congrFun (congrFun (dMz r n) (aI args)) h).trans (by kernel_rfl))
noncomputable def s13 (r : RT) (n : Nat) (x0 : DV) (h0 : Hp) : aG :=
 bnd (dB x0 h0) fun v1 h1 =>
 bnd (aB 0 v1 h1) fun v2 h2 =>
 bnd (aA v2 h2) fun v3 h3 =>
 bnd (r 26 [v3] h3) fun v4 h4 =>
 bnd (cM .add v4 (.s [32]) h4) fun v5 h5 =>
 bnd (aB 1 v1 h5) fun v6 h6 =>
 bnd (aA v6 h6) fun v7 h7 =>
 cnd (bI (aA v6 h1) v7 && true) (
 bnd (r 26 [v7] h7) fun v8 h8 =>
 bnd (cM .add v5 v8 h8) fun v9 h9 =>
 bnd (cM .add v9 (.s [32]) h9) fun v10 h10 =>
 bnd (aB 4 v1 h10) fun v11 h11 =>
 bnd (aA v11 h11) fun v12 h12 =>
 cnd (bI (aA v11 h4) v12 && (bI (aA v11 h1) v12 && true)) (
 bnd (r 26 [v12] h12) fun v13 h13 =>
 bnd (cM .add v10 v13 h13) fun v14 h14 =>
 bnd (cM .add v14 (.s [32]) h14) fun v15 h15 =>
 bnd (aB 3 v1 h15) fun v16 h16 =>
 bnd (aA v16 h16) fun v17 h17 =>
 cnd (bI (aA v16 h8) v17 && (bI (aA v16 h4) v17 && (bI (aA v16 h1) v17 && true))) (
 bnd (r 27 [v17] h17) fun v18 h18 =>
 bnd (cM .add v15 v18 h18) fun v19 h19 =>
 bnd (cM .add v19 (.s [32]) h19) fun v20 h20 =>
 bnd (aB 2 v1 h20) fun v21 h21 =>
 bnd (aA v21 h21) fun v22 h22 =>
 cnd (bI (aA v21 h13) v22 && (bI (aA v21 h8) v22 && (bI (aA v21 h4) v22 && (bI (aA v21 h1) v22 && true)))) (
 bnd (r 27 [v22] h22) fun v23 h23 =>
 bnd (cM .add v20 v23 h23) fun v24 h24 =>
 bnd (cM .add v24 (.s [10]) h24) fun v25 h25 =>
 some (v25, h25)))))
noncomputable abbrev c13 : Code := cf Tryz.f13
noncomputable abbrev r13 : K := aQ CF Tryz.f13
noncomputable def D13 (r : RT) (n : Nat) (c : Code) (X : Nat → K) (k : K) : K := aM CF r 27 n c X r13 k
theorem dOx : D13 r n c13 x0 r13 = (K1 (s13 r n) 0) :=
 (by kernel_rfl)
theorem cOb : aF CF r n 13 args h = s13 r n (aW args 0) h :=
 (by kernel_rfl : aF CF r n 13 args h = D13 r n c13 x0 r13 (aI args) h).trans ((congrFun (congrFun (dOx r n) (aI args)) h).trans (by kernel_rfl))
end Go.Dd

namespace Go.Dd
open Go.Proofs
variable (r : RT) (n : Nat) (args : List DV) (h : Hp)
noncomputable def s17 (r : RT) (n : Nat) (x0 x1 : DV) (h0 : Hp) : aG :=
 bnd (mV [x0, x1, (.i .i64 (Int.ofNat 0)), (.i .i64 (Int.negSucc 0))] h0) fun v1 h1 =>
 some (v1, h1)
noncomputable abbrev c17 : Code := cf Tryz.f17
noncomputable abbrev r17 : K := aQ CF Tryz.f17
noncomputable def D17 (r : RT) (n : Nat) (c : Code) (X : Nat → K) (k : K) : K := aM CF r 8 n c X r17 k
theorem dJv : D17 r n c17 x0 r17 = (K2 (s17 r n) 0 1) :=
 (by kernel_rfl)
theorem cPe : aF CF r n 17 args h = s17 r n (aW args 0) (aW args 1) h :=
 (by kernel_rfl : aF CF r n 17 args h = D17 r n c17 x0 r17 (aI args) h).trans ((congrFun (congrFun (dJv r n) (aI args)) h).trans (by kernel_rfl))
noncomputable def s18 (r : RT) (n : Nat) (x0 : DV) (h0 : Hp) : aG :=
 bnd (cJ [(.i .i64 (Int.ofNat 0)), (.s []), (.s []), .l0, (.s []), (.i .i64 (Int.ofNat 0))] h0) fun v1 h1 =>
 bnd (cM .eql x0 (.s [99, 111, 108, 108, 101, 99, 116]) h1) fun v2 h2 =>
 aX v2 (
 bnd (bL [(.i .i64 (Int.ofNat 0)), (.s []), (.s []), .l0, (.s []), (.i .i64 (Int.ofNat 0))] [(0, 1, (.i .i64 (Int.ofNat 5)))] h2) fun v3 h3 =>
 bnd (aH 6 v1 v3 h3) fun _ h4 =>
 bnd (aK 6 v1 h4) fun v5 _ =>
 some (.t [v5, (.b true)], h4)) (
 bnd (cM .eql x0 (.s [102, 108, 117, 115, 104]) h2) fun v6 h6 =>
 aX v6 (
 bnd (bL [(.i .i64 (Int.ofNat 0)), (.s []), (.s []), .l0, (.s []), (.i .i64 (Int.ofNat 0))] [(0, 1, (.i .i64 (Int.ofNat 6)))] h6) fun v7 h7 =>
 bnd (aH 6 v1 v7 h7) fun _ h8 =>
 bnd (aK 6 v1 h8) fun v9 _ =>
 some (.t [v9, (.b true)], h8)) (
 bnd (cM .eql x0 (.s [105, 109, 97, 103, 101]) h6) fun v10 h10 =>
 aX v10 (
 bnd (bL [(.i .i64 (Int.ofNat 0)), (.s []), (.s []), .l0, (.s []), (.i .i64 (Int.ofNat 0))] [(0, 1, (.i .i64 (Int.ofNat 7)))] h10) fun v11 h11 =>
 bnd (aH 6 v1 v11 h11) fun _ h12 =>
 bnd (aK 6 v1 h12) fun v13 _ =>
 some (.t [v13, (.b true)], h12)) (
 bnd (uG [x0, (.s [32])] h10) fun v14 h14 =>
 bnd (aC 0 v14 h14) fun v15 h15 =>
 bnd (aC 1 v14 h15) fun v16 h16 =>
 bnd (aC 2 v14 h16) fun v17 h17 =>
 bnd (r 34 [] h17) fun v18 h18 =>
 bnd (eD .string .f0 true v18 v15 h18) fun v19 h19 =>
 bnd (aC 0 v19 h19) fun v20 h20 =>
 bnd (aC 1 v19 h20) fun v21 h21 =>
 bnd (jK .not v17 h21) fun v22 h22 =>
 bnd (gD v22 false (some (v21, h22)) h22) fun v23 h23 =>
 bnd (gD v22 false (jK .not v23 h23) h23) fun v24 h24 =>
 bnd (aP v22 (.b true) v24 h24) fun v25 h25 =>
 aX v25 (
 bnd (bL [(.i .i64 (Int.ofNat 0)), (.s []), (.s []), .l0, (.s []), (.i .i64 (Int.ofNat 0))] [] h25) fun v26 h26 =>
 bnd (aH 6 v1 v26 h26) fun _ h27 =>
 bnd (aK 6 v1 h27) fun v28 _ =>
 some (.t [v28, (.b false)], h27)) (
 bnd (jF CF r v20 [v16] h25) fun v29 h29 =>
 bnd (aC 0 v29 h29) fun v30 h30 =>
 bnd (aC 1 v29 h30) fun v31 h31 =>
 bnd (aH 6 v1 v30 h31) fun _ h32 =>
 bnd (aK 6 v1 h32) fun v33 _ =>
 some (.t [v33, v31], h32)))))
noncomputable abbrev c18 : Code := cf Tryz.f18
noncomputable abbrev r18 : K := aQ CF Tryz.f18
noncomputable def D18 (r : RT) (n : Nat) (c : Code) (X : Nat → K) (k : K) : K := aM CF r 43 n c X r18 k
theorem dLy : D18 r n c18 x0 r18 = (K1 (s18 r n) 0) :=
 (by kernel_rfl)
theorem cOe : aF CF r n 18 args h = s18 r n (aW args 0) h :=
 (by kernel_rfl : aF CF r n 18 args h = D18 r n c18 x0 r18 (aI args) h).trans ((congrFun (congrFun (dLy r n) (aI args)) h).trans (by kernel_rfl))
noncomputable def eP (r : RT) (n : Nat) (x5 : DV) (h0 : Hp) : aG :=
 some (x5, h0)
noncomputable def pG (r : RT) (n : Nat) (kk6 : dJ) (x0 x1 x5 x6 x7 : DV) (h0 : Hp) : aG :=
 bnd (aD .add x7 (.i .i64 (Int.ofNat 1)) h0) fun v1 h1 =>
  kk6 x0 x1 x5 x6 v1 h1
noncomputable def zZ (r : RT) (n : Nat) (kk6 : dJ) (x0 x1 x5 x6 x7 : DV) (h0 : Hp) : aG :=
 bnd (cO x0 h0) fun v1 h1 =>
 bnd (aD .eql x7 v1 h1) fun v2 h2 =>
 bnd (gD v2 false (some (x0, h2)) h2) fun v3 h3 =>
 bnd (gD v2 false (some (x7, h3)) h3) fun v4 h4 =>
 bnd (gD v2 false (bY v3 v4 h4) h4) fun v5 h5 =>
 bnd (gD v2 false (some (x1, h5)) h5) fun v6 h6 =>
 bnd (gD v2 false (aD .eql v5 v6 h6) h6) fun v7 h7 =>
 bnd (aP v2 (.b true) v7 h7) fun v8 h8 =>
 aX v8 (
 bnd (cN x0 (some x6) (some x7) h8) fun v9 h9 =>
 bnd (aN [(.s [])] 1 [(0, 1, v9)] h9) fun v10 h10 =>
 bnd (bK 1 16 x5 v10 h10) fun v11 h11 =>
 bnd (aD .add x7 (.i .i64 (Int.ofNat 1)) h11) fun v12 h12 =>
  pG r n kk6 x0 x1 v11 v12 x7 h12) (
  pG r n kk6 x0 x1 x5 x6 x7 h8)
noncomputable def lL (r : RT) (n : Nat) (kk6 : dJ) (x0 x1 x5 x6 x7 : DV) (h0 : Hp) : aG :=
 bnd (cO x0 h0) fun v1 h1 =>
 bnd (aD .leq x7 v1 h1) fun v2 h2 =>
 aX v2 (
   zZ r n kk6 x0 x1 x5 x6 x7 h2) (
   eP r n x5 h2)
noncomputable def mW (r : RT) (n : Nat) (m : Nat) : dJ :=
 Nat.rec (motive := fun _ => dJ) (fun _ _ _ _ _ _ => none) (fun _ ih => lL r n ih) m
noncomputable def cNa (r : RT) (n : Nat) : dJ := mW r n n
noncomputable def bLb (r : RT) (n : Nat) (x0 x1 x5 x6 x7 : DV) (h0 : Hp) : aG :=
 cNa r n x0 x1 x5 x6 x7 h0
noncomputable def bRv (r : RT) (n : Nat) (x0 x1 x5 x6 : DV) (h0 : Hp) : aG :=
 bLb r n x0 x1 x5 x6 (.i .i64 (Int.ofNat 0)) h0
noncomputable def bTv (r : RT) (n : Nat) (x0 x1 x5 : DV) (h0 : Hp) : aG :=
 bRv r n x0 x1 x5 (.i .i64 (Int.ofNat 0)) h0
noncomputable def bJv (r : RT) (n : Nat) (x0 x1 : DV) (h0 : Hp) : aG :=
 bTv r n x0 x1 .l0 h0
noncomputable def s19 (r : RT) (n : Nat) (x0 x1 : DV) (h0 : Hp) : aG :=
 bJv r n x0 x1 h0
noncomputable abbrev c19 : Code := cf Tryz.f19
noncomputable abbrev aYn : Code := cR c19
noncomputable abbrev aZg : Code := cR aYn
noncomputable abbrev aZb : Code := cR aZg
noncomputable abbrev dCz : Code := cR aZb
noncomputable abbrev aOa : Code := cL aZb
noncomputable abbrev bMm : Code := cR aOa
noncomputable abbrev bBe : Code := cL bMm
noncomputable abbrev pE : Code := cL bBe
noncomputable abbrev aYi : Code := cR pE
noncomputable abbrev cYa : Code := cR aYi
noncomputable abbrev aPy : Code := cL aYi
noncomputable abbrev bYd : Code := cL pE
noncomputable abbrev bJg : Code := cL aOa
noncomputable abbrev bRq : Code := cL aZg
noncomputable abbrev bVg : Code := cL aYn
noncomputable abbrev bYh : Code := cL c19
noncomputable abbrev r19 : K := aQ CF Tryz.f19
noncomputable def D19 (r : RT) (n : Nat) (c : Code) (X : Nat → K) (k : K) : K := aM CF r 35 n c X r19 k
theorem cXf : D19 r n dCz x0 r19 = (K1 (eP r n) 5) :=
 (by kernel_rfl)
theorem cZn (kk6 : dJ) : D19 r n cYa (xs x0 0 (K1 (eP r n) 5)) (K5 kk6 0 1 5 6 7) = (K5 (pG r n kk6) 0 1 5 6 7) :=
 (by kernel_rfl)
theorem cFl (kk6 : dJ) : D19 r n aYi (xs x0 0 (K1 (eP r n) 5)) (K5 kk6 0 1 5 6 7) = D19 r n aPy (xs x0 0 (K1 (eP r n) 5)) (K5 (pG r n kk6) 0 1 5 6 7) :=
 congrArg (fun k => D19 r n aPy (xs x0 0 (K1 (eP r n) 5)) k) (cZn r n kk6)
theorem cEt (kk6 : dJ) (q0 : dJ) (q1 : TT1) : D19 r n aPy (xs x0 0 (K1 q1 5)) (K5 q0 0 1 5 6 7) = fun (env : bC) (h : Hp) =>
 bnd (cO (env 0) h) fun v1 h1 =>
 bnd (aD .eql (env 7) v1 h1) fun v2 h2 =>
 bnd (gD v2 false (some ((env 0), h2)) h2) fun v3 h3 =>
 bnd (gD v2 false (some ((env 7), h3)) h3) fun v4 h4 =>
 bnd (gD v2 false (bY v3 v4 h4) h4) fun v5 h5 =>
 bnd (gD v2 false (some ((env 1), h5)) h5) fun v6 h6 =>
 bnd (gD v2 false (aD .eql v5 v6 h6) h6) fun v7 h7 =>
 bnd (aP v2 (.b true) v7 h7) fun v8 h8 =>
 aX v8 (
 bnd (cN (env 0) (some (env 6)) (some (env 7)) h8) fun v9 h9 =>
 bnd (aN [(.s [])] 1 [(0, 1, v9)] h9) fun v10 h10 =>
 bnd (bK 1 16 (env 5) v10 h10) fun v11 h11 =>
 bnd (aD .add (env 7) (.i .i64 (Int.ofNat 1)) h11) fun v12 h12 =>
      q0 (env 0) (env 1) v11 v12 (env 7) h12) (
      q0 (env 0) (env 1) (env 5) (env 6) (env 7) h8) := by kernel_rfl
theorem bOq (kk6 : dJ) : (fun (env : bC) (h : Hp) =>
 bnd (cO (env 0) h) fun v1 h1 =>
 bnd (aD .eql (env 7) v1 h1) fun v2 h2 =>
 bnd (gD v2 false (some ((env 0), h2)) h2) fun v3 h3 =>
 bnd (gD v2 false (some ((env 7), h3)) h3) fun v4 h4 =>
 bnd (gD v2 false (bY v3 v4 h4) h4) fun v5 h5 =>
 bnd (gD v2 false (some ((env 1), h5)) h5) fun v6 h6 =>
 bnd (gD v2 false (aD .eql v5 v6 h6) h6) fun v7 h7 =>
 bnd (aP v2 (.b true) v7 h7) fun v8 h8 =>
 aX v8 (
 bnd (cN (env 0) (some (env 6)) (some (env 7)) h8) fun v9 h9 =>
 bnd (aN [(.s [])] 1 [(0, 1, v9)] h9) fun v10 h10 =>
 bnd (bK 1 16 (env 5) v10 h10) fun v11 h11 =>
 bnd (aD .add (env 7) (.i .i64 (Int.ofNat 1)) h11) fun v12 h12 =>
      pG r n kk6 (env 0) (env 1) v11 v12 (env 7) h12) (
      pG r n kk6 (env 0) (env 1) (env 5) (env 6) (env 7) h8)) = (K5 (zZ r n kk6) 0 1 5 6 7) := by kernel_rfl
theorem dAf (kk6 : dJ) : D19 r n aYi (xs x0 0 (K1 (eP r n) 5)) (K5 kk6 0 1 5 6 7) = (K5 (zZ r n kk6) 0 1 5 6 7) :=
 (cFl r n kk6).trans
 ((cEt r n kk6 (pG r n kk6) (eP r n)).trans (bOq r n kk6))
theorem bZw (kk6 : dJ) : D19 r n pE (xs x0 0 (K1 (eP r n) 5)) (K5 kk6 0 1 5 6 7) = D19 r n bYd (xs x0 0 (K1 (eP r n) 5)) (K5 (zZ r n kk6) 0 1 5 6 7) :=
 congrArg (fun k => D19 r n bYd (xs x0 0 (K1 (eP r n) 5)) k) (dAf r n kk6)
theorem cAf (kk6 : dJ) : D19 r n pE (xs x0 0 (K1 (eP r n) 5)) (K5 kk6 0 1 5 6 7) = (K5 (lL r n kk6) 0 1 5 6 7) :=
 (bZw r n kk6).trans
 ((by kernel_rfl))
theorem cCe (m : Nat) : aL (fun kk => D19 r n pE (xs x0 0 (K1 (eP r n) 5)) kk) m = (K5 (mW r n m) 0 1 5 6 7) := by
 induction m with
 | zero => exact (by kernel_rfl : aL (fun kk => D19 r n pE (xs x0 0 (K1 (eP r n) 5)) kk) 0 = (K5 (mW r n 0) 0 1 5 6 7))
 | succ m ih =>
  refine (by kernel_rfl : aL (fun kk => D19 r n pE (xs x0 0 (K1 (eP r n) 5)) kk) (m + 1) = D19 r n pE (xs x0 0 (K1 (eP r n) 5)) (aL (fun kk => D19 r n pE (xs x0 0 (K1 (eP r n) 5)) kk) m)).trans ?_
  rw [ih]
  exact (cAf r n (mW r n m)).trans (by kernel_rfl)
theorem cRn : D19 r n bBe (xs x0 0 (K1 (eP r n) 5)) (K1 (eP r n) 5) = (K5 (cNa r n) 0 1 5 6 7) :=
 (by kernel_rfl : D19 r n bBe (xs x0 0 (K1 (eP r n) 5)) (K1 (eP r n) 5) = aL (fun kk => D19 r n pE (xs x0 0 (K1 (eP r n) 5)) kk) n).trans ((cCe r n n).trans (by kernel_rfl))
theorem cTp : D19 r n bMm x0 (K1 (eP r n) 5) = (K5 (bLb r n) 0 1 5 6 7) :=
 (by kernel_rfl : D19 r n bMm x0 (K1 (eP r n) 5) = D19 r n bBe (xs x0 0 (K1 (eP r n) 5)) (K1 (eP r n) 5)).trans
 ((cRn r n).trans (by kernel_rfl))
theorem cGt : D19 r n aZb x0 r19 = D19 r n aOa x0 (K1 (eP r n) 5) :=
 congrArg (fun k => D19 r n aOa x0 k) (cXf r n)
theorem bZb : D19 r n aOa x0 (K1 (eP r n) 5) = D19 r n bJg x0 (K5 (bLb r n) 0 1 5 6 7) :=
 congrArg (fun k => D19 r n bJg x0 k) (cTp r n)
theorem cQj : D19 r n aZb x0 r19 = (K4 (bRv r n) 0 1 5 6) :=
 (cGt r n).trans
 ((bZb r n).trans
 ((by kernel_rfl)))
theorem cLi : D19 r n aZg x0 r19 = D19 r n bRq x0 (K4 (bRv r n) 0 1 5 6) :=
 congrArg (fun k => D19 r n bRq x0 k) (cQj r n)
theorem cSj : D19 r n aZg x0 r19 = (K3 (bTv r n) 0 1 5) :=
 (cLi r n).trans
 ((by kernel_rfl))
theorem cIt : D19 r n aYn x0 r19 = D19 r n bVg x0 (K3 (bTv r n) 0 1 5) :=
 congrArg (fun k => D19 r n bVg x0 k) (cSj r n)
theorem cZf : D19 r n aYn x0 r19 = (K2 (bJv r n) 0 1) :=
 (cIt r n).trans
 ((by kernel_rfl))
theorem dIq : D19 r n c19 x0 r19 = D19 r n bYh x0 (K2 (bJv r n) 0 1) :=
 congrArg (fun k => D19 r n bYh x0 k) (cZf r n)
theorem dPf : D19 r n c19 x0 r19 = (K2 (s19 r n) 0 1) :=
 (dIq r n).trans
 ((by kernel_rfl))
theorem cMt : aF CF r n 19 args h = s19 r n (aW args 0) (aW args 1) h :=
 (by kernel_rfl : aF CF r n 19 args h = D19 r n c19 x0 r19 (aI args) h).trans ((congrFun (congrFun (dPf r n) (aI args)) h).trans (by kernel_rfl))
noncomputable def bG (r : RT) (n : Nat) (x2 x4 : DV) (h0 : Hp) : aG :=
 bnd (aK 6 x4 h0) fun v1 h1 =>
 bnd (aH 6 x2 v1 h1) fun _ h2 =>
 bnd (aK 6 x2 h2) fun v3 _ =>
 some (.t [v3, (.b false)], h2)
noncomputable def tB (r : RT) (n : Nat) (x2 x4 : DV) (h0 : Hp) : aG :=
 bnd (aK 6 x4 h0) fun v1 h1 =>
 bnd (aH 6 x2 v1 h1) fun _ h2 =>
 bnd (aK 6 x2 h2) fun v3 _ =>
 some (.t [v3, (.b true)], h2)
noncomputable def tV (r : RT) (n : Nat) (x2 x4 x5 : DV) (h0 : Hp) : aG :=
 bnd (aE 1 x5 (.i .i64 (Int.ofNat 0)) h0) fun v1 h1 =>
 bnd (aA v1 h1) fun v2 h2 =>
 bnd (cM .eql v2 (.s [102, 97, 115, 116]) h2) fun v3 h3 =>
 aX v3 (
 bnd (aB 5 x4 h3) fun v4 h4 =>
 bnd (aH 1 v4 (.i .i64 (Int.ofNat 1)) h4) fun _ h5 =>
  tB r n x2 x4 h5) (
  tB r n x2 x4 h3)
noncomputable def xS (r : RT) (n : Nat) (x2 x4 x5 : DV) (h0 : Hp) : aG :=
 bnd (aE 1 x5 (.i .i64 (Int.ofNat 1)) h0) fun v1 h1 =>
 bnd (aA v1 h1) fun v2 h2 =>
 bnd (aE 1 x5 (.i .i64 (Int.ofNat 2)) h2) fun v3 h3 =>
 bnd (aA v3 h3) fun v4 h4 =>
 bnd (bL [(.i .i64 (Int.ofNat 0)), (.s []), (.s []), .l0, (.s []), (.i .i64 (Int.ofNat 0))] [(0, 1, (.i .i64 (Int.ofNat 4))), (1, 1, v2), (4, 1, v4)] h4) fun v5 h5 =>
 bnd (aH 6 x4 v5 h5) fun v6 h6 =>
  tV r n x2 x4 x5 h6
noncomputable def aRk (r : RT) (n : Nat) (x2 x4 x5 x6 : DV) (h0 : Hp) : aG :=
 bnd (cQ x5 h0) fun v1 h1 =>
 bnd (aD .neq v1 (.i .i64 (Int.ofNat 3)) h1) fun v2 h2 =>
 bnd (gD v2 false (some (x6, h2)) h2) fun v3 h3 =>
 bnd (aP v2 (.b true) v3 h3) fun v4 h4 =>
 aX v4 (
 bnd (aK 6 x4 h4) fun v5 h5 =>
 bnd (aH 6 x2 v5 h5) fun _ h6 =>
 bnd (aK 6 x2 h6) fun v7 _ =>
 some (.t [v7, (.b false)], h6)) (
  xS r n x2 x4 x5 h4)
noncomputable def pV (r : RT) (n : Nat) (x2 x4 x5 x6 x43 x112 : DV) (h0 : Hp) : aG :=
 aX x112 (
  aRk r n x2 x4 x5 x6 h0) (
 bnd (cM .eql x43 (.s [101, 118, 101, 114, 121]) h0) fun v1 h1 =>
 aX v1 (
 bnd (cQ x5 h1) fun v2 h2 =>
 bnd (aD .neq v2 (.i .i64 (Int.ofNat 2)) h2) fun v3 h3 =>
 bnd (gD v3 false (some (x5, h3)) h3) fun v4 h4 =>
 bnd (gD v3 false (aE 1 v4 (.i .i64 (Int.ofNat 1)) h4) h4) fun v5 h5 =>
 bnd (gD v3 false (aA v5 h5) h5) fun v6 h6 =>
 bnd (gD v3 false (r 35 [v6] h6) h6) fun v7 h7 =>
 bnd (gD v3 false (aD .lss v7 (.i .i64 (Int.ofNat 0)) h7) h7) fun v8 h8 =>
 bnd (aP v3 (.b true) v8 h8) fun v9 h9 =>
 aX v9 (
 bnd (aK 6 x4 h9) fun v10 h10 =>
 bnd (aH 6 x2 v10 h10) fun _ h11 =>
 bnd (aK 6 x2 h11) fun v12 _ =>
 some (.t [v12, (.b false)], h11)) (
 bnd (aE 1 x5 (.i .i64 (Int.ofNat 1)) h9) fun v13 h13 =>
 bnd (aA v13 h13) fun v14 h14 =>
 bnd (r 35 [v14] h14) fun v15 h15 =>
 bnd (bL [(.i .i64 (Int.ofNat 0)), (.s []), (.s []), .l0, (.s []), (.i .i64 (Int.ofNat 0))] [(0, 1, (.i .i64 (Int.ofNat 8))), (5, 1, v15)] h15) fun v16 h16 =>
 bnd (aH 6 x2 v16 h16) fun _ h17 =>
 bnd (aK 6 x2 h17) fun v18 _ =>
 some (.t [v18, (.b true)], h17))) (
   bG r n x2 x4 h1))
noncomputable def aPg (r : RT) (n : Nat) (x2 x4 x5 x6 x43 : DV) (h0 : Hp) : aG :=
 bnd (cM .eql x43 (.s [102, 97, 115, 116]) h0) fun v1 h1 =>
 aX v1 (
  pV r n x2 x4 x5 x6 x43 v1 h1) (
 bnd (cM .eql x43 (.s [115, 108, 111, 119]) h1) fun v2 h2 =>
  pV r n x2 x4 x5 x6 x43 v2 h2)
noncomputable def aFf (r : RT) (n : Nat) (x0 x2 x4 x5 x6 x43 x86 : DV) (h0 : Hp) : aG :=
 aX x86 (
 bnd (cQ x5 h0) fun v1 h1 =>
 bnd (aD .lss v1 (.i .i64 (Int.ofNat 3)) h1) fun v2 h2 =>
 bnd (gD v2 false (some (x5, h2)) h2) fun v3 h3 =>
 bnd (gD v2 false (aE 1 v3 (.i .i64 (Int.ofNat 1)) h3) h3) fun v4 h4 =>
 bnd (gD v2 false (aA v4 h4) h4) fun v5 h5 =>
 bnd (gD v2 false (r 35 [v5] h5) h5) fun v6 h6 =>
 bnd (gD v2 false (aD .lss v6 (.i .i64 (Int.ofNat 0)) h6) h6) fun v7 h7 =>
 bnd (aP v2 (.b true) v7 h7) fun v8 h8 =>
 aX v8 (
 bnd (aK 6 x4 h8) fun v9 h9 =>
 bnd (aH 6 x2 v9 h9) fun _ h10 =>
 bnd (aK 6 x2 h10) fun v11 _ =>
 some (.t [v11, (.b false)], h10)) (
 bnd (aE 1 x5 (.i .i64 (Int.ofNat 1)) h8) fun v12 h12 =>
 bnd (aA v12 h12) fun v13 h13 =>
 bnd (r 35 [v13] h13) fun v14 h14 =>
 bnd (aE 1 x5 (.i .i64 (Int.ofNat 1)) h14) fun v15 h15 =>
 bnd (aA v15 h15) fun v16 h16 =>
 cnd (bI (aA v15 h8) v16 && true) (
 bnd (cO v16 h16) fun v17 h17 =>
 bnd (aD .add (.i .i64 (Int.ofNat 3)) v17 h17) fun v18 h18 =>
 bnd (aD .add v18 (.i .i64 (Int.ofNat 1)) h18) fun v19 h19 =>
 bnd (cN x0 (some v19) none h19) fun v20 h20 =>
 bnd (bL [(.i .i64 (Int.ofNat 0)), (.s []), (.s []), .l0, (.s []), (.i .i64 (Int.ofNat 0))] [(0, 1, (.i .i64 (Int.ofNat 3))), (5, 1, v14), (4, 1, v20)] h20) fun v21 h21 =>
 bnd (aH 6 x2 v21 h21) fun v22 h22 =>
 bnd (aK 6 x2 h22) fun v23 _ =>
 some (.t [v23, (.b true)], h22)))) (
  aPg r n x2 x4 x5 x6 x43 h0)
noncomputable def aOz (r : RT) (n : Nat) (x0 x2 x4 x5 x6 x43 : DV) (h0 : Hp) : aG :=
 bnd (cM .eql x43 (.s [100, 111]) h0) fun v1 h1 =>
  aFf r n x0 x2 x4 x5 x6 x43 v1 h1
noncomputable def aEc (r : RT) (n : Nat) (x0 x2 x4 x5 x6 x43 x62 : DV) (h0 : Hp) : aG :=
 aX x62 (
 bnd (cQ x5 h0) fun v1 h1 =>
 bnd (aD .lss v1 (.i .i64 (Int.ofNat 3)) h1) fun v2 h2 =>
 bnd (gD v2 false (some (x5, h2)) h2) fun v3 h3 =>
 bnd (gD v2 false (aE 1 v3 (.i .i64 (Int.ofNat 1)) h3) h3) fun v4 h4 =>
 bnd (gD v2 false (aA v4 h4) h4) fun v5 h5 =>
 bnd (gD v2 false (cM .eql v5 (.s []) h5) h5) fun v6 h6 =>
 bnd (aP v2 (.b true) v6 h6) fun v7 h7 =>
 aX v7 (
 bnd (aK 6 x4 h7) fun v8 h8 =>
 bnd (aH 6 x2 v8 h8) fun _ h9 =>
 bnd (aK 6 x2 h9) fun v10 _ =>
 some (.t [v10, (.b false)], h9)) (
 bnd (aE 1 x5 (.i .i64 (Int.ofNat 1)) h7) fun v11 h11 =>
 bnd (aA v11 h11) fun v12 h12 =>
 bnd (aE 1 x5 (.i .i64 (Int.ofNat 1)) h12) fun v13 h13 =>
 bnd (aA v13 h13) fun v14 h14 =>
 bnd (cO v14 h14) fun v15 h15 =>
 bnd (aD .add (.i .i64 (Int.ofNat 7)) v15 h15) fun v16 h16 =>
 bnd (aD .add v16 (.i .i64 (Int.ofNat 1)) h16) fun v17 h17 =>
 bnd (cN x0 (some v17) none h17) fun v18 h18 =>
 bnd (bL [(.i .i64 (Int.ofNat 0)), (.s []), (.s []), .l0, (.s []), (.i .i64 (Int.ofNat 0))] [(0, 1, (.i .i64 (Int.ofNat 2))), (1, 1, v12), (4, 1, v18)] h18) fun v19 h19 =>
 bnd (aH 6 x2 v19 h19) fun v20 h20 =>
 bnd (aK 6 x2 h20) fun v21 _ =>
 some (.t [v21, (.b true)], h20))) (
  aOz r n x0 x2 x4 x5 x6 x43 h0)
noncomputable def aQj (r : RT) (n : Nat) (x0 x2 x4 x5 x6 x43 : DV) (h0 : Hp) : aG :=
 bnd (cM .eql x43 (.s [109, 101, 116, 104, 111, 100]) h0) fun v1 h1 =>
  aEc r n x0 x2 x4 x5 x6 x43 v1 h1
noncomputable def bAz (r : RT) (n : Nat) (x0 x2 x4 x5 x6 x43 x44 : DV) (h0 : Hp) : aG :=
 aX x44 (
 bnd (cQ x5 h0) fun v1 h1 =>
 bnd (aD .lss v1 (.i .i64 (Int.ofNat 3)) h1) fun v2 h2 =>
 bnd (gD v2 false (some (x6, h2)) h2) fun v3 h3 =>
 bnd (aP v2 (.b true) v3 h3) fun v4 h4 =>
 aX v4 (
 bnd (aK 6 x4 h4) fun v5 h5 =>
 bnd (aH 6 x2 v5 h5) fun _ h6 =>
 bnd (aK 6 x2 h6) fun v7 _ =>
 some (.t [v7, (.b false)], h6)) (
 bnd (aE 1 x5 (.i .i64 (Int.ofNat 1)) h4) fun v8 h8 =>
 bnd (aA v8 h8) fun v9 h9 =>
 bnd (aE 1 x5 (.i .i64 (Int.ofNat 2)) h9) fun v10 h10 =>
 bnd (aA v10 h10) fun v11 h11 =>
 bnd (dN 1 x5 (some (.i .i64 (Int.ofNat 3))) none h11) fun v12 h12 =>
 bnd (bL [(.i .i64 (Int.ofNat 0)), (.s []), (.s []), .l0, (.s []), (.i .i64 (Int.ofNat 0))] [(0, 1, (.i .i64 (Int.ofNat 1))), (1, 1, v9), (2, 1, v11), (3, 1, v12)] h12) fun v13 h13 =>
 bnd (aH 6 x2 v13 h13) fun v14 h14 =>
 bnd (aK 6 x2 h14) fun v15 _ =>
 some (.t [v15, (.b true)], h14))) (
  aQj r n x0 x2 x4 x5 x6 x43 h0)
noncomputable def aWh (r : RT) (n : Nat) (x0 x2 x4 x5 x6 x43 : DV) (h0 : Hp) : aG :=
 bnd (cM .eql x43 (.s [99, 108, 97, 115, 115]) h0) fun v1 h1 =>
  bAz r n x0 x2 x4 x5 x6 x43 v1 h1
noncomputable def gB (r : RT) (n : Nat) (x0 x2 x4 x5 x6 : DV) (h0 : Hp) : aG :=
 bnd (aE 1 x5 (.i .i64 (Int.ofNat 0)) h0) fun v1 h1 =>
 bnd (aA v1 h1) fun v2 h2 =>
  aWh r n x0 x2 x4 x5 x6 v2 h2
noncomputable def oJ (r : RT) (n : Nat) (kk21 : gU) (x0 x2 x4 x5 x6 x7 : DV) (h0 : Hp) : aG :=
 bnd (cQ x5 h0) fun v1 h1 =>
 bnd (aD .lss x7 v1 h1) fun v2 h2 =>
 aX v2 (
 bnd (gD x6 false (some (x5, h2)) h2) fun v3 h3 =>
 bnd (gD x6 false (some (x7, h3)) h3) fun v4 h4 =>
 bnd (gD x6 false (aE 1 v3 v4 h4) h4) fun v5 h5 =>
 bnd (gD x6 false (aA v5 h5) h5) fun v6 h6 =>
 bnd (gD x6 false (cM .eql v6 (.s []) h6) h6) fun v7 h7 =>
 bnd (aP x6 (.b true) v7 h7) fun v8 h8 =>
 bnd (aD .add x7 (.i .i64 (Int.ofNat 1)) h8) fun v9 h9 =>
      kk21 x0 x2 x4 x5 v8 v9 h9) (
      gB r n x0 x2 x4 x5 x6 h2)
noncomputable def mM (r : RT) (n : Nat) (m : Nat) : gU :=
 Nat.rec (motive := fun _ => gU) (fun _ _ _ _ _ _ _ => none) (fun _ ih => oJ r n ih) m
noncomputable def aRp (r : RT) (n : Nat) : gU := mM r n n
noncomputable def aJp (r : RT) (n : Nat) (x0 x2 x4 x5 x6 x7 : DV) (h0 : Hp) : aG :=
 aRp r n x0 x2 x4 x5 x6 x7 h0
noncomputable def bAr (r : RT) (n : Nat) (x0 x2 x4 x5 x6 : DV) (h0 : Hp) : aG :=
 aJp r n x0 x2 x4 x5 x6 (.i .i64 (Int.ofNat 1)) h0
noncomputable def nD (r : RT) (n : Nat) (x0 x2 x4 x5 : DV) (h0 : Hp) : aG :=
 bAr r n x0 x2 x4 x5 (.b false) h0
noncomputable def mY (r : RT) (n : Nat) (x2 x4 : DV) (h0 : Hp) : aG :=
 bnd (aK 6 x4 h0) fun v1 h1 =>
 bnd (aB 0 x4 h1) fun v2 h2 =>
 bnd (aA v2 h2) fun v3 h3 =>
 bnd (aD .neq v3 (.i .i64 (Int.ofNat 0)) h3) fun v4 h4 =>
 bnd (aH 6 x2 v1 h4) fun v5 h5 =>
 cnd (bI (aA v2 h5) v3 && true) (
 bnd (aK 6 x2 h5) fun v6 _ =>
 some (.t [v6, v4], h5))
noncomputable def aEh (r : RT) (n : Nat) (x0 x2 x4 : DV) (h0 : Hp) : aG :=
 bnd (cM .eql x0 (.s [99, 111, 108, 108, 101, 99, 116]) h0) fun v1 h1 =>
 aX v1 (
 bnd (aB 0 x4 h1) fun v2 h2 =>
 bnd (aH 1 v2 (.i .i64 (Int.ofNat 5)) h2) fun _ h3 =>
  mY r n x2 x4 h3) (
 bnd (cM .eql x0 (.s [102, 108, 117, 115, 104]) h1) fun v4 h4 =>
 aX v4 (
 bnd (aB 0 x4 h4) fun v5 h5 =>
 bnd (aH 1 v5 (.i .i64 (Int.ofNat 6)) h5) fun _ h6 =>
      mY r n x2 x4 h6) (
 bnd (cM .eql x0 (.s [105, 109, 97, 103, 101]) h4) fun v7 h7 =>
 aX v7 (
 bnd (aB 0 x4 h7) fun v8 h8 =>
 bnd (aH 1 v8 (.i .i64 (Int.ofNat 7)) h8) fun _ h9 =>
    mY r n x2 x4 h9) (
    mY r n x2 x4 h7)))
noncomputable def aHy (r : RT) (n : Nat) (x0 x2 x4 x5 x12 : DV) (h0 : Hp) : aG :=
 aX x12 (
  aEh r n x0 x2 x4 h0) (
  nD r n x0 x2 x4 x5 h0)
noncomputable def aLl (r : RT) (n : Nat) (x0 x2 x4 x5 : DV) (h0 : Hp) : aG :=
 bnd (cQ x5 h0) fun v1 h1 =>
 bnd (aD .eql v1 (.i .i64 (Int.ofNat 1)) h1) fun v2 h2 =>
  aHy r n x0 x2 x4 x5 v2 h2
noncomputable def aDe (r : RT) (n : Nat) (x0 x2 x4 : DV) (h0 : Hp) : aG :=
 bnd (r 19 [x0, (.i .u8 (Int.ofNat 32))] h0) fun v1 h1 =>
  aLl r n x0 x2 x4 v1 h1
noncomputable def yH (r : RT) (n : Nat) (x0 x2 : DV) (h0 : Hp) : aG :=
 bnd (cJ [(.i .i64 (Int.ofNat 0)), (.s []), (.s []), .l0, (.s []), (.i .i64 (Int.ofNat 0))] h0) fun v1 h1 =>
  aDe r n x0 x2 v1 h1
noncomputable def s20 (r : RT) (n : Nat) (x0 : DV) (h0 : Hp) : aG :=
 bnd (cJ [(.i .i64 (Int.ofNat 0)), (.s []), (.s []), .l0, (.s []), (.i .i64 (Int.ofNat 0))] h0) fun v1 h1 =>
  yH r n x0 v1 h1
noncomputable abbrev c20 : Code := cf Tryz.f20
noncomputable abbrev aZv : Code := cR c20
noncomputable abbrev bBm : Code := cR aZv
noncomputable abbrev aWu : Code := cR bBm
noncomputable abbrev aYz : Code := cR aWu
noncomputable abbrev aYl : Code := cR aYz
noncomputable abbrev bAx : Code := cR aYl
noncomputable abbrev dBw : Code := cR bAx
noncomputable abbrev aNb : Code := cL bAx
noncomputable abbrev bIo : Code := cR aNb
noncomputable abbrev aIs : Code := cL bIo
noncomputable abbrev yO : Code := cR aIs
noncomputable abbrev zW : Code := cR yO
noncomputable abbrev aAc : Code := cR zW
noncomputable abbrev yC : Code := cR aAc
noncomputable abbrev xX : Code := cR yC
noncomputable abbrev aBd : Code := cR xX
noncomputable abbrev aBk : Code := cR aBd
noncomputable abbrev zF : Code := cL aBk
noncomputable abbrev aEd : Code := cR zF
noncomputable abbrev aJq : Code := cR aEd
noncomputable abbrev cSi : Code := cR aJq
noncomputable abbrev bNb : Code := cL aJq
noncomputable abbrev aUm : Code := cL aEd
noncomputable abbrev bQw : Code := cL zF
noncomputable abbrev cWk : Code := cR aBk
noncomputable abbrev bOh : Code := cL aBd
noncomputable abbrev cQz : Code := cL xX
noncomputable abbrev bKt : Code := cL yC
noncomputable abbrev dBf : Code := cL aAc
noncomputable abbrev bVq : Code := cL zW
noncomputable abbrev cXh : Code := cL yO
noncomputable abbrev bPh : Code := cL aIs
noncomputable abbrev bVx : Code := cL aNb
noncomputable abbrev xY : Code := cL aYl
noncomputable abbrev aPl : Code := cR xY
noncomputable abbrev aIv : Code := cL aPl
noncomputable abbrev pX : Code := cL aIv
noncomputable abbrev bOe : Code := cL xY
noncomputable abbrev bXc : Code := cL aYz
noncomputable abbrev aBt : Code := cL aWu
noncomputable abbrev aAq : Code := cR aBt
noncomputable abbrev zA : Code := cL aAq
noncomputable abbrev cUl : Code := cR zA
noncomputable abbrev bOw : Code := cL zA
noncomputable abbrev cZr : Code := cR aAq
noncomputable abbrev bPr : Code := cL aBt
noncomputable abbrev bSp : Code := cL bBm
noncomputable abbrev aUq : Code := cL aZv
noncomputable abbrev aTs : Code := cL c20
noncomputable abbrev r20 : K := aQ CF Tryz.f20
noncomputable def D20 (r : RT) (n : Nat) (c : Code) (X : Nat → K) (k : K) : K := aM CF r 154 n c X r20 k
theorem cYk : D20 r n dBw x0 r20 = (K2 (bG r n) 2 4) :=
 (by kernel_rfl)
theorem cMo : D20 r n cSi (xs x0 3 (K2 (bG r n) 2 4)) (K2 (bG r n) 2 4) = (K2 (tB r n) 2 4) :=
 (by kernel_rfl)
theorem bVh : D20 r n aJq (xs x0 3 (K2 (bG r n) 2 4)) (K2 (bG r n) 2 4) = D20 r n bNb (xs x0 3 (K2 (bG r n) 2 4)) (K2 (tB r n) 2 4) :=
 congrArg (fun k => D20 r n bNb (xs x0 3 (K2 (bG r n) 2 4)) k) (cMo r n)
theorem cMa : D20 r n aJq (xs x0 3 (K2 (bG r n) 2 4)) (K2 (bG r n) 2 4) = (K3 (tV r n) 2 4 5) :=
 (bVh r n).trans
 ((by kernel_rfl))
theorem bPz : D20 r n aEd (xs x0 3 (K2 (bG r n) 2 4)) (K2 (bG r n) 2 4) = D20 r n aUm (xs x0 3 (K2 (bG r n) 2 4)) (K3 (tV r n) 2 4 5) :=
 congrArg (fun k => D20 r n aUm (xs x0 3 (K2 (bG r n) 2 4)) k) (cMa r n)
theorem bHq (q0 : gE) (q1 : TT2) : D20 r n aUm (xs x0 3 (K2 q1 2 4)) (K3 q0 2 4 5) = fun (env : bC) (h : Hp) =>
 bnd (aE 1 (env 5) (.i .i64 (Int.ofNat 1)) h) fun v1 h1 =>
 bnd (aA v1 h1) fun v2 h2 =>
 bnd (aE 1 (env 5) (.i .i64 (Int.ofNat 2)) h2) fun v3 h3 =>
 bnd (aA v3 h3) fun v4 h4 =>
 bnd (bL [(.i .i64 (Int.ofNat 0)), (.s []), (.s []), .l0, (.s []), (.i .i64 (Int.ofNat 0))] [(0, 1, (.i .i64 (Int.ofNat 4))), (1, 1, v2), (4, 1, v4)] h4) fun v5 h5 =>
 bnd (aH 6 (env 4) v5 h5) fun v6 h6 =>
  q0 (env 2) (env 4) (env 5) h6 := by kernel_rfl
theorem bEi : (fun (env : bC) (h : Hp) =>
 bnd (aE 1 (env 5) (.i .i64 (Int.ofNat 1)) h) fun v1 h1 =>
 bnd (aA v1 h1) fun v2 h2 =>
 bnd (aE 1 (env 5) (.i .i64 (Int.ofNat 2)) h2) fun v3 h3 =>
 bnd (aA v3 h3) fun v4 h4 =>
 bnd (bL [(.i .i64 (Int.ofNat 0)), (.s []), (.s []), .l0, (.s []), (.i .i64 (Int.ofNat 0))] [(0, 1, (.i .i64 (Int.ofNat 4))), (1, 1, v2), (4, 1, v4)] h4) fun v5 h5 =>
 bnd (aH 6 (env 4) v5 h5) fun v6 h6 =>
  tV r n (env 2) (env 4) (env 5) h6) = (K3 (xS r n) 2 4 5) := by kernel_rfl
theorem cKf : D20 r n aEd (xs x0 3 (K2 (bG r n) 2 4)) (K2 (bG r n) 2 4) = (K3 (xS r n) 2 4 5) :=
 (bPz r n).trans
 ((bHq r n (tV r n) (bG r n)).trans (bEi r n))
theorem bRh : D20 r n zF (xs x0 3 (K2 (bG r n) 2 4)) (K2 (bG r n) 2 4) = D20 r n bQw (xs x0 3 (K2 (bG r n) 2 4)) (K3 (xS r n) 2 4 5) :=
 congrArg (fun k => D20 r n bQw (xs x0 3 (K2 (bG r n) 2 4)) k) (cKf r n)
theorem bYx : D20 r n zF (xs x0 3 (K2 (bG r n) 2 4)) (K2 (bG r n) 2 4) = (K4 (aRk r n) 2 4 5 6) :=
 (bRh r n).trans
 ((by kernel_rfl))
theorem cLt : D20 r n aBk (xs x0 3 (K2 (bG r n) 2 4)) (K2 (bG r n) 2 4) = (K6 (pV r n) 2 4 5 6 43 112) :=
 (by kernel_rfl : D20 r n aBk (xs x0 3 (K2 (bG r n) 2 4)) (K2 (bG r n) 2 4) = (fun (env : bC) (h : Hp) => aX (opr env (cC aBk)) (D20 r n zF (xs x0 3 (K2 (bG r n) 2 4)) (K2 (bG r n) 2 4) env h) (D20 r n cWk (xs x0 3 (K2 (bG r n) 2 4)) (K2 (bG r n) 2 4) env h))).trans (by rw [bYx r n]; kernel_rfl)
theorem bUo : D20 r n aBd (xs x0 3 (K2 (bG r n) 2 4)) (K2 (bG r n) 2 4) = D20 r n bOh (xs x0 3 (K2 (bG r n) 2 4)) (K6 (pV r n) 2 4 5 6 43 112) :=
 congrArg (fun k => D20 r n bOh (xs x0 3 (K2 (bG r n) 2 4)) k) (cLt r n)
theorem cBe : D20 r n aBd (xs x0 3 (K2 (bG r n) 2 4)) (K2 (bG r n) 2 4) = (K5 (aPg r n) 2 4 5 6 43) :=
 (bUo r n).trans
 ((by kernel_rfl))
theorem bZq : D20 r n xX (xs x0 3 (K2 (bG r n) 2 4)) (K2 (bG r n) 2 4) = (K7 (aFf r n) 0 2 4 5 6 43 86) :=
 (by kernel_rfl : D20 r n xX (xs x0 3 (K2 (bG r n) 2 4)) (K2 (bG r n) 2 4) = (fun (env : bC) (h : Hp) => aX (opr env (cC xX)) (D20 r n cQz (xs x0 3 (K2 (bG r n) 2 4)) (K2 (bG r n) 2 4) env h) (D20 r n aBd (xs x0 3 (K2 (bG r n) 2 4)) (K2 (bG r n) 2 4) env h))).trans (by rw [cBe r n]; kernel_rfl)
theorem bLq : D20 r n yC (xs x0 3 (K2 (bG r n) 2 4)) (K2 (bG r n) 2 4) = D20 r n bKt (xs x0 3 (K2 (bG r n) 2 4)) (K7 (aFf r n) 0 2 4 5 6 43 86) :=
 congrArg (fun k => D20 r n bKt (xs x0 3 (K2 (bG r n) 2 4)) k) (bZq r n)
theorem cMi : D20 r n yC (xs x0 3 (K2 (bG r n) 2 4)) (K2 (bG r n) 2 4) = (K6 (aOz r n) 0 2 4 5 6 43) :=
 (bLq r n).trans
 ((by kernel_rfl))
theorem cGm : D20 r n aAc (xs x0 3 (K2 (bG r n) 2 4)) (K2 (bG r n) 2 4) = (K7 (aEc r n) 0 2 4 5 6 43 62) :=
 (by kernel_rfl : D20 r n aAc (xs x0 3 (K2 (bG r n) 2 4)) (K2 (bG r n) 2 4) = (fun (env : bC) (h : Hp) => aX (opr env (cC aAc)) (D20 r n dBf (xs x0 3 (K2 (bG r n) 2 4)) (K2 (bG r n) 2 4) env h) (D20 r n yC (xs x0 3 (K2 (bG r n) 2 4)) (K2 (bG r n) 2 4) env h))).trans (by rw [cMi r n]; kernel_rfl)
theorem bXz : D20 r n zW (xs x0 3 (K2 (bG r n) 2 4)) (K2 (bG r n) 2 4) = D20 r n bVq (xs x0 3 (K2 (bG r n) 2 4)) (K7 (aEc r n) 0 2 4 5 6 43 62) :=
 congrArg (fun k => D20 r n bVq (xs x0 3 (K2 (bG r n) 2 4)) k) (cGm r n)
theorem cCi : D20 r n zW (xs x0 3 (K2 (bG r n) 2 4)) (K2 (bG r n) 2 4) = (K6 (aQj r n) 0 2 4 5 6 43) :=
 (bXz r n).trans
 ((by kernel_rfl))
theorem cZz : D20 r n yO (xs x0 3 (K2 (bG r n) 2 4)) (K2 (bG r n) 2 4) = (K7 (bAz r n) 0 2 4 5 6 43 44) :=
 (by kernel_rfl : D20 r n yO (xs x0 3 (K2 (bG r n) 2 4)) (K2 (bG r n) 2 4) = (fun (env : bC) (h : Hp) => aX (opr env (cC yO)) (D20 r n cXh (xs x0 3 (K2 (bG r n) 2 4)) (K2 (bG r n) 2 4) env h) (D20 r n zW (xs x0 3 (K2 (bG r n) 2 4)) (K2 (bG r n) 2 4) env h))).trans (by rw [cCi r n]; kernel_rfl)
theorem cBs : D20 r n aIs (xs x0 3 (K2 (bG r n) 2 4)) (K2 (bG r n) 2 4) = D20 r n bPh (xs x0 3 (K2 (bG r n) 2 4)) (K7 (bAz r n) 0 2 4 5 6 43 44) :=
 congrArg (fun k => D20 r n bPh (xs x0 3 (K2 (bG r n) 2 4)) k) (cZz r n)
theorem cVz : D20 r n bIo x0 (K2 (bG r n) 2 4) = (K6 (aWh r n) 0 2 4 5 6 43) :=
 (by kernel_rfl : D20 r n bIo x0 (K2 (bG r n) 2 4) = D20 r n aIs (xs x0 3 (K2 (bG r n) 2 4)) (K2 (bG r n) 2 4)).trans
 ((cBs r n).trans
 ((by kernel_rfl)))
theorem cKt : D20 r n bAx x0 r20 = D20 r n aNb x0 (K2 (bG r n) 2 4) :=
 congrArg (fun k => D20 r n aNb x0 k) (cYk r n)
theorem bXm : D20 r n aNb x0 (K2 (bG r n) 2 4) = D20 r n bVx x0 (K6 (aWh r n) 0 2 4 5 6 43) :=
 congrArg (fun k => D20 r n bVx x0 k) (cVz r n)
theorem cSv : D20 r n bAx x0 r20 = (K5 (gB r n) 0 2 4 5 6) :=
 (cKt r n).trans
 ((bXm r n).trans
 ((by kernel_rfl)))
theorem bJe (kk21 : gU) : D20 r n pX (xs x0 1 (K5 (gB r n) 0 2 4 5 6)) (K6 kk21 0 2 4 5 6 7) = (K6 (oJ r n kk21) 0 2 4 5 6 7) :=
 (by kernel_rfl)
theorem bRr (m : Nat) : aL (fun kk => D20 r n pX (xs x0 1 (K5 (gB r n) 0 2 4 5 6)) kk) m = (K6 (mM r n m) 0 2 4 5 6 7) := by
 induction m with
 | zero => exact (by kernel_rfl : aL (fun kk => D20 r n pX (xs x0 1 (K5 (gB r n) 0 2 4 5 6)) kk) 0 = (K6 (mM r n 0) 0 2 4 5 6 7))
 | succ m ih =>
  refine (by kernel_rfl : aL (fun kk => D20 r n pX (xs x0 1 (K5 (gB r n) 0 2 4 5 6)) kk) (m + 1) = D20 r n pX (xs x0 1 (K5 (gB r n) 0 2 4 5 6)) (aL (fun kk => D20 r n pX (xs x0 1 (K5 (gB r n) 0 2 4 5 6)) kk) m)).trans ?_
  rw [ih]
  exact (bJe r n (mM r n m)).trans (by kernel_rfl)
theorem cJj : D20 r n aIv (xs x0 1 (K5 (gB r n) 0 2 4 5 6)) (K5 (gB r n) 0 2 4 5 6) = (K6 (aRp r n) 0 2 4 5 6 7) :=
 (by kernel_rfl : D20 r n aIv (xs x0 1 (K5 (gB r n) 0 2 4 5 6)) (K5 (gB r n) 0 2 4 5 6) = aL (fun kk => D20 r n pX (xs x0 1 (K5 (gB r n) 0 2 4 5 6)) kk) n).trans ((bRr r n n).trans (by kernel_rfl))
theorem cMd : D20 r n aPl x0 (K5 (gB r n) 0 2 4 5 6) = (K6 (aJp r n) 0 2 4 5 6 7) :=
 (by kernel_rfl : D20 r n aPl x0 (K5 (gB r n) 0 2 4 5 6) = D20 r n aIv (xs x0 1 (K5 (gB r n) 0 2 4 5 6)) (K5 (gB r n) 0 2 4 5 6)).trans
 ((cJj r n).trans (by kernel_rfl))
theorem bUj : D20 r n aYl x0 r20 = D20 r n xY x0 (K5 (gB r n) 0 2 4 5 6) :=
 congrArg (fun k => D20 r n xY x0 k) (cSv r n)
theorem bKq : D20 r n xY x0 (K5 (gB r n) 0 2 4 5 6) = D20 r n bOe x0 (K6 (aJp r n) 0 2 4 5 6 7) :=
 congrArg (fun k => D20 r n bOe x0 k) (cMd r n)
theorem cSx : D20 r n aYl x0 r20 = (K5 (bAr r n) 0 2 4 5 6) :=
 (bUj r n).trans
 ((bKq r n).trans
 ((by kernel_rfl)))
theorem bLn : D20 r n aYz x0 r20 = D20 r n bXc x0 (K5 (bAr r n) 0 2 4 5 6) :=
 congrArg (fun k => D20 r n bXc x0 k) (cSx r n)
theorem cZa : D20 r n aYz x0 r20 = (K4 (nD r n) 0 2 4 5) :=
 (bLn r n).trans
 ((by kernel_rfl))
theorem cKo : D20 r n cUl x0 (K4 (nD r n) 0 2 4 5) = (K2 (mY r n) 2 4) :=
 (by kernel_rfl)
theorem bGy : D20 r n zA x0 (K4 (nD r n) 0 2 4 5) = D20 r n bOw x0 (K2 (mY r n) 2 4) :=
 congrArg (fun k => D20 r n bOw x0 k) (cKo r n)
theorem cJt : D20 r n zA x0 (K4 (nD r n) 0 2 4 5) = (K3 (aEh r n) 0 2 4) :=
 (bGy r n).trans
 ((by kernel_rfl))
theorem cCx : D20 r n aAq x0 (K4 (nD r n) 0 2 4 5) = (K5 (aHy r n) 0 2 4 5 12) :=
 (by kernel_rfl : D20 r n aAq x0 (K4 (nD r n) 0 2 4 5) = (fun (env : bC) (h : Hp) => aX (opr env (cC aAq)) (D20 r n zA x0 (K4 (nD r n) 0 2 4 5) env h) (D20 r n cZr x0 (K4 (nD r n) 0 2 4 5) env h))).trans (by rw [cJt r n]; kernel_rfl)
theorem bWp : D20 r n aWu x0 r20 = D20 r n aBt x0 (K4 (nD r n) 0 2 4 5) :=
 congrArg (fun k => D20 r n aBt x0 k) (cZa r n)
theorem bHu : D20 r n aBt x0 (K4 (nD r n) 0 2 4 5) = D20 r n bPr x0 (K5 (aHy r n) 0 2 4 5 12) :=
 congrArg (fun k => D20 r n bPr x0 k) (cCx r n)
theorem cZq : D20 r n aWu x0 r20 = (K4 (aLl r n) 0 2 4 5) :=
 (bWp r n).trans
 ((bHu r n).trans
 ((by kernel_rfl)))
theorem bMe : D20 r n bBm x0 r20 = D20 r n bSp x0 (K4 (aLl r n) 0 2 4 5) :=
 congrArg (fun k => D20 r n bSp x0 k) (cZq r n)
theorem dAp : D20 r n bBm x0 r20 = (K3 (aDe r n) 0 2 4) :=
 (bMe r n).trans
 ((by kernel_rfl))
theorem bIp : D20 r n aZv x0 r20 = D20 r n aUq x0 (K3 (aDe r n) 0 2 4) :=
 congrArg (fun k => D20 r n aUq x0 k) (dAp r n)
theorem bUn (q0 : gE) : D20 r n aUq x0 (K3 q0 0 2 4) = fun (env : bC) (h : Hp) =>
 bnd (cJ [(.i .i64 (Int.ofNat 0)), (.s []), (.s []), .l0, (.s []), (.i .i64 (Int.ofNat 0))] h) fun v1 h1 =>
  q0 (env 0) (env 2) v1 h1 := by kernel_rfl
theorem bCw : (fun (env : bC) (h : Hp) =>
 bnd (cJ [(.i .i64 (Int.ofNat 0)), (.s []), (.s []), .l0, (.s []), (.i .i64 (Int.ofNat 0))] h) fun v1 h1 =>
  aDe r n (env 0) (env 2) v1 h1) = (K2 (yH r n) 0 2) := by kernel_rfl
theorem cXu : D20 r n aZv x0 r20 = (K2 (yH r n) 0 2) :=
 (bIp r n).trans
 ((bUn r n (aDe r n)).trans (bCw r n))
theorem cSt : D20 r n c20 x0 r20 = D20 r n aTs x0 (K2 (yH r n) 0 2) :=
 congrArg (fun k => D20 r n aTs x0 k) (cXu r n)
theorem cZb (q0 : TT2) : D20 r n aTs x0 (K2 q0 0 2) = fun (env : bC) (h : Hp) =>
 bnd (cJ [(.i .i64 (Int.ofNat 0)), (.s []), (.s []), .l0, (.s []), (.i .i64 (Int.ofNat 0))] h) fun v1 h1 =>
  q0 (env 0) v1 h1 := by kernel_rfl
theorem bZc : (fun (env : bC) (h : Hp) =>
 bnd (cJ [(.i .i64 (Int.ofNat 0)), (.s []), (.s []), .l0, (.s []), (.i .i64 (Int.ofNat 0))] h) fun v1 h1 =>
  yH r n (env 0) v1 h1) = (K1 (s20 r n) 0) := by kernel_rfl
theorem dNg : D20 r n c20 x0 r20 = (K1 (s20 r n) 0) :=
 (cSt r n).trans
 ((cZb r n (yH r n)).trans (bZc r n))
theorem cOw : aF CF r n 20 args h = s20 r n (aW args 0) h :=
 (by kernel_rfl : aF CF r n 20 args h = D20 r n c20 x0 r20 (aI args) h).trans ((congrFun (congrFun (dNg r n) (aI args)) h).trans (by kernel_rfl))
noncomputable def gS (r : RT) (n : Nat) (h0 : Hp) : aG :=
 some ((.b true), h0)
noncomputable def tN (r : RT) (n : Nat) (kk5 : gE) (x2 x3 x5 : DV) (h0 : Hp) : aG :=
 bnd (aB 3 x2 h0) fun v1 h1 =>
 bnd (aA v1 h1) fun v2 h2 =>
 bnd (cQ v2 h2) fun v3 h3 =>
 bnd (aD .lss x5 v3 h3) fun v4 h4 =>
 aX v4 (
 bnd (aB 3 x2 h4) fun v5 h5 =>
 bnd (aA v5 h5) fun v6 h6 =>
 bnd (aE 1 v6 x5 h6) fun v7 h7 =>
 bnd (aA v7 h7) fun v8 h8 =>
 bnd (aB 3 x3 h8) fun v9 h9 =>
 bnd (aA v9 h9) fun v10 h10 =>
 bnd (aE 1 v10 x5 h10) fun v11 h11 =>
 bnd (aA v11 h11) fun v12 h12 =>
 bnd (cM .neq v8 v12 h12) fun v13 h13 =>
 aX v13 (
 some ((.b false), h13)) (
 bnd (aD .add x5 (.i .i64 (Int.ofNat 1)) h13) fun v14 h14 =>
    kk5 x2 x3 v14 h14)) (
      gS r n h4)
noncomputable def nQ (r : RT) (n : Nat) (m : Nat) : gE :=
 Nat.rec (motive := fun _ => gE) (fun _ _ _ _ => none) (fun _ ih => tN r n ih) m
noncomputable def cNg (r : RT) (n : Nat) : gE := nQ r n n
noncomputable def bXb (r : RT) (n : Nat) (x2 x3 x5 : DV) (h0 : Hp) : aG :=
 cNg r n x2 x3 x5 h0
noncomputable def bQf (r : RT) (n : Nat) (x2 x3 : DV) (h0 : Hp) : aG :=
 bXb r n x2 x3 (.i .i64 (Int.ofNat 0)) h0
noncomputable def aDa (r : RT) (n : Nat) (x2 x3 : DV) (h0 : Hp) : aG :=
 bnd (aB 0 x2 h0) fun v1 h1 =>
 bnd (aA v1 h1) fun v2 h2 =>
 bnd (aB 0 x3 h2) fun v3 h3 =>
 bnd (aA v3 h3) fun v4 h4 =>
 bnd (aD .neq v2 v4 h4) fun v5 h5 =>
 bnd (gD v5 false (aB 1 x2 h5) h5) fun v6 h6 =>
 bnd (gD v5 false (aA v6 h6) h6) fun v7 h7 =>
 bnd (gD v5 false (aB 1 x3 h7) h7) fun v8 h8 =>
 bnd (gD v5 false (aA v8 h8) h8) fun v9 h9 =>
 bnd (gD v5 false (cM .neq v7 v9 h9) h9) fun v10 h10 =>
 bnd (aP v5 (.b true) v10 h10) fun v11 h11 =>
 bnd (gD v11 false (aB 2 x2 h11) h11) fun v12 h12 =>
 bnd (gD v11 false (aA v12 h12) h12) fun v13 h13 =>
 bnd (gD v11 false (aB 2 x3 h13) h13) fun v14 h14 =>
 bnd (gD v11 false (aA v14 h14) h14) fun v15 h15 =>
 bnd (gD v11 false (cM .neq v13 v15 h15) h15) fun v16 h16 =>
 bnd (aP v11 (.b true) v16 h16) fun v17 h17 =>
 bnd (gD v17 false (aB 4 x2 h17) h17) fun v18 h18 =>
 bnd (gD v17 false (aA v18 h18) h18) fun v19 h19 =>
 bnd (gD v17 false (aB 4 x3 h19) h19) fun v20 h20 =>
 bnd (gD v17 false (aA v20 h20) h20) fun v21 h21 =>
 bnd (gD v17 false (cM .neq v19 v21 h21) h21) fun v22 h22 =>
 bnd (aP v17 (.b true) v22 h22) fun v23 h23 =>
 bnd (gD v23 false (aB 5 x2 h23) h23) fun v24 h24 =>
 bnd (gD v23 false (aA v24 h24) h24) fun v25 h25 =>
 bnd (gD v23 false (aB 5 x3 h25) h25) fun v26 h26 =>
 bnd (gD v23 false (aA v26 h26) h26) fun v27 h27 =>
 bnd (gD v23 false (aD .neq v25 v27 h27) h27) fun v28 h28 =>
 bnd (aP v23 (.b true) v28 h28) fun v29 h29 =>
 bnd (gD v29 false (aB 3 x2 h29) h29) fun v30 h30 =>
 bnd (gD v29 false (aA v30 h30) h30) fun v31 h31 =>
 bnd (gD v29 false (cQ v31 h31) h31) fun v32 h32 =>
 bnd (gD v29 false (aB 3 x3 h32) h32) fun v33 h33 =>
 bnd (gD v29 false (aA v33 h33) h33) fun v34 h34 =>
 bnd (gD v29 false (cQ v34 h34) h34) fun v35 h35 =>
 bnd (gD v29 false (aD .neq v32 v35 h35) h35) fun v36 h36 =>
 bnd (aP v29 (.b true) v36 h36) fun v37 h37 =>
 aX v37 (
 some ((.b false), h37)) (
  bQf r n x2 x3 h37)
noncomputable def s21 (r : RT) (n : Nat) (x0 x1 : DV) (h0 : Hp) : aG :=
 bnd (dB x0 h0) fun v1 h1 =>
 bnd (dB x1 h1) fun v2 h2 =>
  aDa r n v1 v2 h2
noncomputable abbrev c21 : Code := cf Tryz.f21
noncomputable abbrev aVi : Code := cR c21
noncomputable abbrev aVx : Code := cR aVi
noncomputable abbrev dDs : Code := cR aVx
noncomputable abbrev aMn : Code := cL aVx
noncomputable abbrev bTp : Code := cR aMn
noncomputable abbrev bCm : Code := cL bTp
noncomputable abbrev zM : Code := cL bCm
noncomputable abbrev cNj : Code := cL aMn
noncomputable abbrev cOg : Code := cL aVi
noncomputable abbrev aQz : Code := cL c21
noncomputable abbrev r21 : K := aQ CF Tryz.f21
noncomputable def D21 (r : RT) (n : Nat) (c : Code) (X : Nat → K) (k : K) : K := aM CF r 66 n c X r21 k
theorem cUa : D21 r n dDs x0 r21 = (K0 (gS r n)) :=
 (by kernel_rfl)
theorem cAb (kk5 : gE) : D21 r n zM (xs x0 0 (K0 (gS r n))) (K3 kk5 2 3 5) = (K3 (tN r n kk5) 2 3 5) :=
 (by kernel_rfl)
theorem cDk (m : Nat) : aL (fun kk => D21 r n zM (xs x0 0 (K0 (gS r n))) kk) m = (K3 (nQ r n m) 2 3 5) := by
 induction m with
 | zero => exact (by kernel_rfl : aL (fun kk => D21 r n zM (xs x0 0 (K0 (gS r n))) kk) 0 = (K3 (nQ r n 0) 2 3 5))
 | succ m ih =>
  refine (by kernel_rfl : aL (fun kk => D21 r n zM (xs x0 0 (K0 (gS r n))) kk) (m + 1) = D21 r n zM (xs x0 0 (K0 (gS r n))) (aL (fun kk => D21 r n zM (xs x0 0 (K0 (gS r n))) kk) m)).trans ?_
  rw [ih]
  exact (cAb r n (nQ r n m)).trans (by kernel_rfl)
theorem cWz : D21 r n bCm (xs x0 0 (K0 (gS r n))) (K0 (gS r n)) = (K3 (cNg r n) 2 3 5) :=
 (by kernel_rfl : D21 r n bCm (xs x0 0 (K0 (gS r n))) (K0 (gS r n)) = aL (fun kk => D21 r n zM (xs x0 0 (K0 (gS r n))) kk) n).trans ((cDk r n n).trans (by kernel_rfl))
theorem cYu : D21 r n bTp x0 (K0 (gS r n)) = (K3 (bXb r n) 2 3 5) :=
 (by kernel_rfl : D21 r n bTp x0 (K0 (gS r n)) = D21 r n bCm (xs x0 0 (K0 (gS r n))) (K0 (gS r n))).trans
 ((cWz r n).trans (by kernel_rfl))
theorem cIg : D21 r n aVx x0 r21 = D21 r n aMn x0 (K0 (gS r n)) :=
 congrArg (fun k => D21 r n aMn x0 k) (cUa r n)
theorem cGj : D21 r n aMn x0 (K0 (gS r n)) = D21 r n cNj x0 (K3 (bXb r n) 2 3 5) :=
 congrArg (fun k => D21 r n cNj x0 k) (cYu r n)
theorem cUf : D21 r n aVx x0 r21 = (K2 (bQf r n) 2 3) :=
 (cIg r n).trans
 ((cGj r n).trans
 ((by kernel_rfl)))
theorem cFa : D21 r n aVi x0 r21 = D21 r n cOg x0 (K2 (bQf r n) 2 3) :=
 congrArg (fun k => D21 r n cOg x0 k) (cUf r n)
theorem dBg : D21 r n aVi x0 r21 = (K2 (aDa r n) 2 3) :=
 (cFa r n).trans
 ((by kernel_rfl))
theorem dIv : D21 r n c21 x0 r21 = D21 r n aQz x0 (K2 (aDa r n) 2 3) :=
 congrArg (fun k => D21 r n aQz x0 k) (dBg r n)
theorem dJs (q0 : TT2) : D21 r n aQz x0 (K2 q0 2 3) = fun (env : bC) (h : Hp) =>
 bnd (dB (env 0) h) fun v1 h1 =>
 bnd (dB (env 1) h1) fun v2 h2 =>
  q0 v1 v2 h2 := by kernel_rfl
theorem cYd : (fun (env : bC) (h : Hp) =>
 bnd (dB (env 0) h) fun v1 h1 =>
 bnd (dB (env 1) h1) fun v2 h2 =>
  aDa r n v1 v2 h2) = (K2 (s21 r n) 0 1) := by kernel_rfl
theorem dOg : D21 r n c21 x0 r21 = (K2 (s21 r n) 0 1) :=
 (dIv r n).trans
 ((dJs r n (aDa r n)).trans (cYd r n))
theorem cMw : aF CF r n 21 args h = s21 r n (aW args 0) (aW args 1) h :=
 (by kernel_rfl : aF CF r n 21 args h = D21 r n c21 x0 r21 (aI args) h).trans ((congrFun (congrFun (dOg r n) (aI args)) h).trans (by kernel_rfl))
end Go.Dd

namespace Go.Dd
open Go.Proofs
variable (r : RT) (n : Nat) (args : List DV) (h : Hp)
noncomputable def gJ (r : RT) (n : Nat) (x11 : DV) (h0 : Hp) : aG :=
 some (.t [x11, (.i .i64 (Int.ofNat 0)), (.i .i64 (Int.ofNat 0))], h0)
noncomputable def aUk (r : RT) (n : Nat) (kk9 : dJ) (x10 x11 x32 x33 x34 : DV) (h0 : Hp) : aG :=
 bnd (aD .lss x34 x33 h0) fun v1 h1 =>
 aX v1 (
 bnd (aE 6 x32 x34 h1) fun v2 h2 =>
 bnd (aK 6 v2 h2) fun v3 h3 =>
 bnd (cJ [(.i .i64 (Int.ofNat 0)), (.s []), (.s []), .l0, (.s []), (.i .i64 (Int.ofNat 0))] h3) fun v4 h4 =>
 bnd (aH 6 v4 v3 h4) fun _ h5 =>
 bnd (aK 6 v4 h5) fun v6 h6 =>
 bnd (r 37 [x10, v6] h6) fun v7 h7 =>
 bnd (r 12 [v7] h7) fun v8 h8 =>
 bnd (cM .add x11 v8 h8) fun v9 h9 =>
 bnd (aD .add x34 (.i .i64 (Int.ofNat 1)) h9) fun v10 h10 =>
      kk9 x10 v9 x32 x33 v10 h10) (
      gJ r n x11 h1)
noncomputable def aGx (r : RT) (n : Nat) (m : Nat) : dJ :=
 Nat.rec (motive := fun _ => dJ) (fun _ _ _ _ _ _ => none) (fun _ ih => aUk r n ih) m
noncomputable def cNo (r : RT) (n : Nat) : dJ := aGx r n n
noncomputable def bIv (r : RT) (n : Nat) (x10 x11 x32 x33 x34 : DV) (h0 : Hp) : aG :=
 cNo r n x10 x11 x32 x33 x34 h0
noncomputable def bLk (r : RT) (n : Nat) (x7 x10 x11 : DV) (h0 : Hp) : aG :=
 bnd (cQ x7 h0) fun v1 h1 =>
  bIv r n x10 x11 x7 v1 (.i .i64 (Int.ofNat 0)) h1
noncomputable def bTs (r : RT) (n : Nat) (x7 x10 : DV) (h0 : Hp) : aG :=
 bLk r n x7 x10 (.s []) h0
noncomputable def bSu (r : RT) (n : Nat) (x7 x9 x10 : DV) (h0 : Hp) : aG :=
 bnd (aD .neq x9 (.i .i64 (Int.ofNat 0)) h0) fun v1 h1 =>
 aX v1 (
 some (.t [(.s []), (.i .i64 (Int.ofNat 0)), x9], h1)) (
  bTs r n x7 x10 h1)
noncomputable def bIh (r : RT) (n : Nat) (x0 x7 : DV) (h0 : Hp) : aG :=
 bnd (r 36 [x0] h0) fun v1 h1 =>
 bnd (aC 0 v1 h1) fun v2 h2 =>
 bnd (aC 1 v1 h2) fun v3 h3 =>
  bSu r n x7 v3 v2 h3
noncomputable def bLl (r : RT) (n : Nat) (x0 x7 x8 x9 : DV) (h0 : Hp) : aG :=
 bnd (aD .neq x9 (.i .i64 (Int.ofNat 0)) h0) fun v1 h1 =>
 aX v1 (
 some (.t [(.s []), x8, x9], h1)) (
  bIh r n x0 x7 h1)
noncomputable def bWj (r : RT) (n : Nat) (x0 x1 : DV) (h0 : Hp) : aG :=
 bnd (r 8 [x1] h0) fun v1 h1 =>
 bnd (aC 0 v1 h1) fun v2 h2 =>
 bnd (aC 1 v1 h2) fun v3 h3 =>
 bnd (aC 2 v1 h3) fun v4 h4 =>
  bLl r n x0 v2 v3 v4 h4
noncomputable def s22 (r : RT) (n : Nat) (x0 x1 : DV) (h0 : Hp) : aG :=
 bWj r n x0 x1 h0
noncomputable abbrev c22 : Code := cf Tryz.f22
noncomputable abbrev bCd : Code := cR c22
noncomputable abbrev bCh : Code := cR bCd
noncomputable abbrev aWy : Code := cR bCh
noncomputable abbrev aZp : Code := cR aWy
noncomputable abbrev aWg : Code := cR aZp
noncomputable abbrev aUx : Code := cR aWg
noncomputable abbrev dBu : Code := cR aUx
noncomputable abbrev aNt : Code := cL aUx
noncomputable abbrev bVi : Code := cR aNt
noncomputable abbrev aJi : Code := cL bVi
noncomputable abbrev nK : Code := cL aJi
noncomputable abbrev bPw : Code := cL aNt
noncomputable abbrev bIl : Code := cL aWg
noncomputable abbrev bWt : Code := cL aZp
noncomputable abbrev bUx : Code := cL aWy
noncomputable abbrev bSx : Code := cL bCh
noncomputable abbrev bTd : Code := cL bCd
noncomputable abbrev bOn : Code := cL c22
noncomputable abbrev r22 : K := aQ CF Tryz.f22
noncomputable def D22 (r : RT) (n : Nat) (c : Code) (X : Nat → K) (k : K) : K := aM CF r 46 n c X r22 k
theorem cSq : D22 r n dBu x0 r22 = (K1 (gJ r n) 11) :=
 (by kernel_rfl)
theorem cJp (kk9 : dJ) (q0 : TT1) : D22 r n nK (xs x0 0 (K1 q0 11)) (K5 kk9 10 11 32 33 34) = fun (env : bC) (h : Hp) =>
 bnd (aD .lss (env 34) (env 33) h) fun v1 h1 =>
 aX v1 (
 bnd (aE 6 (env 32) (env 34) h1) fun v2 h2 =>
 bnd (aK 6 v2 h2) fun v3 h3 =>
 bnd (cJ [(.i .i64 (Int.ofNat 0)), (.s []), (.s []), .l0, (.s []), (.i .i64 (Int.ofNat 0))] h3) fun v4 h4 =>
 bnd (aH 6 v4 v3 h4) fun _ h5 =>
 bnd (aK 6 v4 h5) fun v6 h6 =>
 bnd (r 37 [(env 10), v6] h6) fun v7 h7 =>
 bnd (r 12 [v7] h7) fun v8 h8 =>
 bnd (cM .add (env 11) v8 h8) fun v9 h9 =>
 bnd (aD .add (env 34) (.i .i64 (Int.ofNat 1)) h9) fun v10 h10 =>
      kk9 (env 10) v9 (env 32) (env 33) v10 h10) (
      q0 (env 11) h1) := by kernel_rfl
theorem bLx (kk9 : dJ) : (fun (env : bC) (h : Hp) =>
 bnd (aD .lss (env 34) (env 33) h) fun v1 h1 =>
 aX v1 (
 bnd (aE 6 (env 32) (env 34) h1) fun v2 h2 =>
 bnd (aK 6 v2 h2) fun v3 h3 =>
 bnd (cJ [(.i .i64 (Int.ofNat 0)), (.s []), (.s []), .l0, (.s []), (.i .i64 (Int.ofNat 0))] h3) fun v4 h4 =>
 bnd (aH 6 v4 v3 h4) fun _ h5 =>
 bnd (aK 6 v4 h5) fun v6 h6 =>
 bnd (r 37 [(env 10), v6] h6) fun v7 h7 =>
 bnd (r 12 [v7] h7) fun v8 h8 =>
 bnd (cM .add (env 11) v8 h8) fun v9 h9 =>
 bnd (aD .add (env 34) (.i .i64 (Int.ofNat 1)) h9) fun v10 h10 =>
      kk9 (env 10) v9 (env 32) (env 33) v10 h10) (
      gJ r n (env 11) h1)) = (K5 (aUk r n kk9) 10 11 32 33 34) := by kernel_rfl
theorem cGh (kk9 : dJ) : D22 r n nK (xs x0 0 (K1 (gJ r n) 11)) (K5 kk9 10 11 32 33 34) = (K5 (aUk r n kk9) 10 11 32 33 34) :=
 (cJp r n kk9 (gJ r n)).trans (bLx r n kk9)
theorem cCf (m : Nat) : aL (fun kk => D22 r n nK (xs x0 0 (K1 (gJ r n) 11)) kk) m = (K5 (aGx r n m) 10 11 32 33 34) := by
 induction m with
 | zero => exact (by kernel_rfl : aL (fun kk => D22 r n nK (xs x0 0 (K1 (gJ r n) 11)) kk) 0 = (K5 (aGx r n 0) 10 11 32 33 34))
 | succ m ih =>
  refine (by kernel_rfl : aL (fun kk => D22 r n nK (xs x0 0 (K1 (gJ r n) 11)) kk) (m + 1) = D22 r n nK (xs x0 0 (K1 (gJ r n) 11)) (aL (fun kk => D22 r n nK (xs x0 0 (K1 (gJ r n) 11)) kk) m)).trans ?_
  rw [ih]
  exact (cGh r n (aGx r n m)).trans (by kernel_rfl)
theorem dAh : D22 r n aJi (xs x0 0 (K1 (gJ r n) 11)) (K1 (gJ r n) 11) = (K5 (cNo r n) 10 11 32 33 34) :=
 (by kernel_rfl : D22 r n aJi (xs x0 0 (K1 (gJ r n) 11)) (K1 (gJ r n) 11) = aL (fun kk => D22 r n nK (xs x0 0 (K1 (gJ r n) 11)) kk) n).trans ((cCf r n n).trans (by kernel_rfl))
theorem cWg : D22 r n bVi x0 (K1 (gJ r n) 11) = (K5 (bIv r n) 10 11 32 33 34) :=
 (by kernel_rfl : D22 r n bVi x0 (K1 (gJ r n) 11) = D22 r n aJi (xs x0 0 (K1 (gJ r n) 11)) (K1 (gJ r n) 11)).trans
 ((dAh r n).trans (by kernel_rfl))
theorem cMh : D22 r n aUx x0 r22 = D22 r n aNt x0 (K1 (gJ r n) 11) :=
 congrArg (fun k => D22 r n aNt x0 k) (cSq r n)
theorem cMj : D22 r n aNt x0 (K1 (gJ r n) 11) = D22 r n bPw x0 (K5 (bIv r n) 10 11 32 33 34) :=
 congrArg (fun k => D22 r n bPw x0 k) (cWg r n)
theorem cYe : D22 r n aUx x0 r22 = (K3 (bLk r n) 7 10 11) :=
 (cMh r n).trans
 ((cMj r n).trans
 ((by kernel_rfl)))
theorem cCg : D22 r n aWg x0 r22 = D22 r n bIl x0 (K3 (bLk r n) 7 10 11) :=
 congrArg (fun k => D22 r n bIl x0 k) (cYe r n)
theorem cUo : D22 r n aWg x0 r22 = (K2 (bTs r n) 7 10) :=
 (cCg r n).trans
 ((by kernel_rfl))
theorem cAt : D22 r n aZp x0 r22 = D22 r n bWt x0 (K2 (bTs r n) 7 10) :=
 congrArg (fun k => D22 r n bWt x0 k) (cUo r n)
theorem cQo : D22 r n aZp x0 r22 = (K3 (bSu r n) 7 9 10) :=
 (cAt r n).trans
 ((by kernel_rfl))
theorem cJl : D22 r n aWy x0 r22 = D22 r n bUx x0 (K3 (bSu r n) 7 9 10) :=
 congrArg (fun k => D22 r n bUx x0 k) (cQo r n)
theorem cZi : D22 r n aWy x0 r22 = (K2 (bIh r n) 0 7) :=
 (cJl r n).trans
 ((by kernel_rfl))
theorem cCj : D22 r n bCh x0 r22 = D22 r n bSx x0 (K2 (bIh r n) 0 7) :=
 congrArg (fun k => D22 r n bSx x0 k) (cZi r n)
theorem cRe : D22 r n bCh x0 r22 = (K4 (bLl r n) 0 7 8 9) :=
 (cCj r n).trans
 ((by kernel_rfl))
theorem cFb : D22 r n bCd x0 r22 = D22 r n bTd x0 (K4 (bLl r n) 0 7 8 9) :=
 congrArg (fun k => D22 r n bTd x0 k) (cRe r n)
theorem cWa : D22 r n bCd x0 r22 = (K2 (bWj r n) 0 1) :=
 (cFb r n).trans
 ((by kernel_rfl))
theorem dEg : D22 r n c22 x0 r22 = D22 r n bOn x0 (K2 (bWj r n) 0 1) :=
 congrArg (fun k => D22 r n bOn x0 k) (cWa r n)
theorem dKt : D22 r n c22 x0 r22 = (K2 (s22 r n) 0 1) :=
 (dEg r n).trans
 ((by kernel_rfl))
theorem cPj : aF CF r n 22 args h = s22 r n (aW args 0) (aW args 1) h :=
 (by kernel_rfl : aF CF r n 22 args h = D22 r n c22 x0 r22 (aI args) h).trans ((congrFun (congrFun (dKt r n) (aI args)) h).trans (by kernel_rfl))
noncomputable def gQ (r : RT) (n : Nat) (x3 : DV) (h0 : Hp) : aG :=
 bnd (cM .add (.s [45]) x3 h0) fun v1 h1 =>
 some (v1, h1)
noncomputable def qM (r : RT) (n : Nat) (kk6 : TT2) (x0 x3 : DV) (h0 : Hp) : aG :=
 bnd (aD .lss x0 (.i .i64 (Int.ofNat 0)) h0) fun v1 h1 =>
 aX v1 (
 bnd (aD .rem x0 (.i .i64 (Int.ofNat 10)) h1) fun v2 h2 =>
 bnd (aD .sub (.i .i64 (Int.ofNat 48)) v2 h2) fun v3 h3 =>
 bnd (dR .u8 v3 h3) fun v4 h4 =>
 bnd (aN [(.i .u8 (Int.ofNat 0))] 1 [(0, 1, v4)] h4) fun v5 h5 =>
 bnd (eY v5 h5) fun v6 h6 =>
 bnd (cM .add v6 x3 h6) fun v7 h7 =>
 bnd (aD .quo x0 (.i .i64 (Int.ofNat 10)) h7) fun v8 h8 =>
      kk6 v8 v7 h8) (
      gQ r n x3 h1)
noncomputable def mX (r : RT) (n : Nat) (m : Nat) : TT2 :=
 Nat.rec (motive := fun _ => TT2) (fun _ _ _ => none) (fun _ ih => qM r n ih) m
noncomputable def bNr (r : RT) (n : Nat) : TT2 := mX r n n
noncomputable def aWp (r : RT) (n : Nat) (x0 x3 : DV) (h0 : Hp) : aG :=
 bNr r n x0 x3 h0
noncomputable def aZk (r : RT) (n : Nat) (x0 : DV) (h0 : Hp) : aG :=
 aWp r n x0 (.s []) h0
noncomputable def yZ (r : RT) (n : Nat) (x0 : DV) (h0 : Hp) : aG :=
 bnd (aD .gtr x0 (.i .i64 (Int.ofNat 0)) h0) fun v1 h1 =>
 aX v1 (
 bnd (aD .quo x0 (.i .i64 (Int.ofNat 10)) h1) fun v2 h2 =>
 bnd (r 26 [v2] h2) fun v3 h3 =>
 bnd (aD .rem x0 (.i .i64 (Int.ofNat 10)) h3) fun v4 h4 =>
 bnd (r 26 [v4] h4) fun v5 h5 =>
 bnd (cM .add v3 v5 h5) fun v6 h6 =>
 some (v6, h6)) (
  aZk r n x0 h1)
noncomputable def aAk (r : RT) (n : Nat) (x0 : DV) (h0 : Hp) : aG :=
 bnd (aD .geq x0 (.i .i64 (Int.ofNat 0)) h0) fun v1 h1 =>
 bnd (gD v1 true (some (x0, h1)) h1) fun v2 h2 =>
 bnd (gD v1 true (aD .lss v2 (.i .i64 (Int.ofNat 10)) h2) h2) fun v3 h3 =>
 bnd (aP v1 v3 (.b false) h3) fun v4 h4 =>
 aX v4 (
 bnd (aD .add (.i .i64 (Int.ofNat 48)) x0 h4) fun v5 h5 =>
 bnd (dR .u8 v5 h5) fun v6 h6 =>
 bnd (aN [(.i .u8 (Int.ofNat 0))] 1 [(0, 1, v6)] h6) fun v7 h7 =>
 bnd (eY v7 h7) fun v8 h8 =>
 some (v8, h8)) (
  yZ r n x0 h4)
noncomputable def s26 (r : RT) (n : Nat) (x0 : DV) (h0 : Hp) : aG :=
 aAk r n x0 h0
noncomputable abbrev c26 : Code := cf Tryz.f26
noncomputable abbrev bAl : Code := cR c26
noncomputable abbrev bAt : Code := cR bAl
noncomputable abbrev aYs : Code := cR bAt
noncomputable abbrev bBo : Code := cR aYs
noncomputable abbrev dGl : Code := cR bBo
noncomputable abbrev bBn : Code := cL bBo
noncomputable abbrev bAp : Code := cL bBn
noncomputable abbrev vG : Code := cL bAp
noncomputable abbrev cNf : Code := cL aYs
noncomputable abbrev bXt : Code := cL bAt
noncomputable abbrev aRs : Code := cL bAl
noncomputable abbrev bRl : Code := cL c26
noncomputable abbrev r26 : K := aQ CF Tryz.f26
noncomputable def D26 (r : RT) (n : Nat) (c : Code) (X : Nat → K) (k : K) : K := aM CF r 38 n c X r26 k
theorem cVw : D26 r n dGl x0 r26 = (K1 (gQ r n) 3) :=
 (by kernel_rfl)
theorem cGd (kk6 : TT2) (q0 : TT1) : D26 r n vG (xs x0 0 (K1 q0 3)) (K2 kk6 0 3) = fun (env : bC) (h : Hp) =>
 bnd (aD .lss (env 0) (.i .i64 (Int.ofNat 0)) h) fun v1 h1 =>
 aX v1 (
 bnd (aD .rem (env 0) (.i .i64 (Int.ofNat 10)) h1) fun v2 h2 =>
 bnd (aD .sub (.i .i64 (Int.ofNat 48)) v2 h2) fun v3 h3 =>
 bnd (dR .u8 v3 h3) fun v4 h4 =>
 bnd (aN [(.i .u8 (Int.ofNat 0))] 1 [(0, 1, v4)] h4) fun v5 h5 =>
 bnd (eY v5 h5) fun v6 h6 =>
 bnd (cM .add v6 (env 3) h6) fun v7 h7 =>
 bnd (aD .quo (env 0) (.i .i64 (Int.ofNat 10)) h7) fun v8 h8 =>
      kk6 v8 v7 h8) (
      q0 (env 3) h1) := by kernel_rfl
theorem bVm (kk6 : TT2) : (fun (env : bC) (h : Hp) =>
 bnd (aD .lss (env 0) (.i .i64 (Int.ofNat 0)) h) fun v1 h1 =>
 aX v1 (
 bnd (aD .rem (env 0) (.i .i64 (Int.ofNat 10)) h1) fun v2 h2 =>
 bnd (aD .sub (.i .i64 (Int.ofNat 48)) v2 h2) fun v3 h3 =>
 bnd (dR .u8 v3 h3) fun v4 h4 =>
 bnd (aN [(.i .u8 (Int.ofNat 0))] 1 [(0, 1, v4)] h4) fun v5 h5 =>
 bnd (eY v5 h5) fun v6 h6 =>
 bnd (cM .add v6 (env 3) h6) fun v7 h7 =>
 bnd (aD .quo (env 0) (.i .i64 (Int.ofNat 10)) h7) fun v8 h8 =>
      kk6 v8 v7 h8) (
      gQ r n (env 3) h1)) = (K2 (qM r n kk6) 0 3) := by kernel_rfl
theorem cDl (kk6 : TT2) : D26 r n vG (xs x0 0 (K1 (gQ r n) 3)) (K2 kk6 0 3) = (K2 (qM r n kk6) 0 3) :=
 (cGd r n kk6 (gQ r n)).trans (bVm r n kk6)
theorem bZp (m : Nat) : aL (fun kk => D26 r n vG (xs x0 0 (K1 (gQ r n) 3)) kk) m = (K2 (mX r n m) 0 3) := by
 induction m with
 | zero => exact (by kernel_rfl : aL (fun kk => D26 r n vG (xs x0 0 (K1 (gQ r n) 3)) kk) 0 = (K2 (mX r n 0) 0 3))
 | succ m ih =>
  refine (by kernel_rfl : aL (fun kk => D26 r n vG (xs x0 0 (K1 (gQ r n) 3)) kk) (m + 1) = D26 r n vG (xs x0 0 (K1 (gQ r n) 3)) (aL (fun kk => D26 r n vG (xs x0 0 (K1 (gQ r n) 3)) kk) m)).trans ?_
  rw [ih]
  exact (cDl r n (mX r n m)).trans (by kernel_rfl)
theorem cVp : D26 r n bAp (xs x0 0 (K1 (gQ r n) 3)) (K1 (gQ r n) 3) = (K2 (bNr r n) 0 3) :=
 (by kernel_rfl : D26 r n bAp (xs x0 0 (K1 (gQ r n) 3)) (K1 (gQ r n) 3) = aL (fun kk => D26 r n vG (xs x0 0 (K1 (gQ r n) 3)) kk) n).trans ((bZp r n n).trans (by kernel_rfl))
theorem cMr : D26 r n bBo x0 r26 = D26 r n bBn x0 (K1 (gQ r n) 3) :=
 congrArg (fun k => D26 r n bBn x0 k) (cVw r n)
theorem cSn : D26 r n bBo x0 r26 = (K2 (aWp r n) 0 3) :=
 (cMr r n).trans
 ((by kernel_rfl : D26 r n bBn x0 (K1 (gQ r n) 3) = D26 r n bAp (xs x0 0 (K1 (gQ r n) 3)) (K1 (gQ r n) 3)).trans
 ((cVp r n).trans (by kernel_rfl)))
theorem cHb : D26 r n aYs x0 r26 = D26 r n cNf x0 (K2 (aWp r n) 0 3) :=
 congrArg (fun k => D26 r n cNf x0 k) (cSn r n)
theorem cUi : D26 r n aYs x0 r26 = (K1 (aZk r n) 0) :=
 (cHb r n).trans
 ((by kernel_rfl))
theorem cIs : D26 r n bAt x0 r26 = D26 r n bXt x0 (K1 (aZk r n) 0) :=
 congrArg (fun k => D26 r n bXt x0 k) (cUi r n)
theorem cYp : D26 r n bAt x0 r26 = (K1 (yZ r n) 0) :=
 (cIs r n).trans
 ((by kernel_rfl))
theorem cEn : D26 r n bAl x0 r26 = D26 r n aRs x0 (K1 (yZ r n) 0) :=
 congrArg (fun k => D26 r n aRs x0 k) (cYp r n)
theorem cHo (q0 : TT1) : D26 r n aRs x0 (K1 q0 0) = fun (env : bC) (h : Hp) =>
 bnd (aD .geq (env 0) (.i .i64 (Int.ofNat 0)) h) fun v1 h1 =>
 bnd (gD v1 true (some ((env 0), h1)) h1) fun v2 h2 =>
 bnd (gD v1 true (aD .lss v2 (.i .i64 (Int.ofNat 10)) h2) h2) fun v3 h3 =>
 bnd (aP v1 v3 (.b false) h3) fun v4 h4 =>
 aX v4 (
 bnd (aD .add (.i .i64 (Int.ofNat 48)) (env 0) h4) fun v5 h5 =>
 bnd (dR .u8 v5 h5) fun v6 h6 =>
 bnd (aN [(.i .u8 (Int.ofNat 0))] 1 [(0, 1, v6)] h6) fun v7 h7 =>
 bnd (eY v7 h7) fun v8 h8 =>
 some (v8, h8)) (
   q0 (env 0) h4) := by kernel_rfl
theorem bXx : (fun (env : bC) (h : Hp) =>
 bnd (aD .geq (env 0) (.i .i64 (Int.ofNat 0)) h) fun v1 h1 =>
 bnd (gD v1 true (some ((env 0), h1)) h1) fun v2 h2 =>
 bnd (gD v1 true (aD .lss v2 (.i .i64 (Int.ofNat 10)) h2) h2) fun v3 h3 =>
 bnd (aP v1 v3 (.b false) h3) fun v4 h4 =>
 aX v4 (
 bnd (aD .add (.i .i64 (Int.ofNat 48)) (env 0) h4) fun v5 h5 =>
 bnd (dR .u8 v5 h5) fun v6 h6 =>
 bnd (aN [(.i .u8 (Int.ofNat 0))] 1 [(0, 1, v6)] h6) fun v7 h7 =>
 bnd (eY v7 h7) fun v8 h8 =>
 some (v8, h8)) (
   yZ r n (env 0) h4)) = (K1 (aAk r n) 0) := by kernel_rfl
theorem cWp : D26 r n bAl x0 r26 = (K1 (aAk r n) 0) :=
 (cEn r n).trans
 ((cHo r n (yZ r n)).trans (bXx r n))
theorem dCy : D26 r n c26 x0 r26 = D26 r n bRl x0 (K1 (aAk r n) 0) :=
 congrArg (fun k => D26 r n bRl x0 k) (cWp r n)
theorem dOt : D26 r n c26 x0 r26 = (K1 (s26 r n) 0) :=
 (dCy r n).trans
 ((by kernel_rfl))
theorem cNy : aF CF r n 26 args h = s26 r n (aW args 0) h :=
 (by kernel_rfl : aF CF r n 26 args h = D26 r n c26 x0 r26 (aI args) h).trans ((congrFun (congrFun (dOt r n) (aI args)) h).trans (by kernel_rfl))
noncomputable def dH (r : RT) (n : Nat) (x3 : DV) (h0 : Hp) : aG :=
 bnd (cM .add x3 (.s [34]) h0) fun v1 h1 =>
 some (v1, h1)
noncomputable def gG (r : RT) (n : Nat) (kk5 : gE) (x0 x3 x4 : DV) (h0 : Hp) : aG :=
 bnd (aD .add x4 (.i .i64 (Int.ofNat 1)) h0) fun v1 h1 =>
  kk5 x0 x3 v1 h1
noncomputable def aCz (r : RT) (n : Nat) (kk5 : gE) (x0 x3 x4 : DV) (h0 : Hp) : aG :=
 bnd (aD .add x4 (.i .i64 (Int.ofNat 1)) h0) fun v1 h1 =>
 bnd (cN x0 (some x4) (some v1) h1) fun v2 h2 =>
 bnd (cM .add x3 v2 h2) fun v3 h3 =>
  gG r n kk5 x0 v3 x4 h3
noncomputable def aWa (r : RT) (n : Nat) (kk5 : gE) (x0 x3 x4 : DV) (h0 : Hp) : aG :=
 bnd (bY x0 x4 h0) fun v1 h1 =>
 bnd (aD .eql v1 (.i .u8 (Int.ofNat 34)) h1) fun v2 h2 =>
 bnd (gD v2 false (some (x0, h2)) h2) fun v3 h3 =>
 bnd (gD v2 false (some (x4, h3)) h3) fun v4 h4 =>
 bnd (gD v2 false (bY v3 v4 h4) h4) fun v5 h5 =>
 bnd (gD v2 false (aD .eql v5 (.i .u8 (Int.ofNat 92)) h5) h5) fun v6 h6 =>
 bnd (aP v2 (.b true) v6 h6) fun v7 h7 =>
 aX v7 (
 bnd (cM .add x3 (.s [92]) h7) fun v8 h8 =>
  aCz r n kk5 x0 v8 x4 h8) (
  aCz r n kk5 x0 x3 x4 h7)
noncomputable def bAe (r : RT) (n : Nat) (kk5 : gE) (x0 x3 x4 : DV) (h0 : Hp) : aG :=
 bnd (bY x0 x4 h0) fun v1 h1 =>
 bnd (aD .eql v1 (.i .u8 (Int.ofNat 10)) h1) fun v2 h2 =>
 aX v2 (
 bnd (cM .add x3 (.s [92, 110]) h2) fun v3 h3 =>
  gG r n kk5 x0 v3 x4 h3) (
  aWa r n kk5 x0 x3 x4 h2)
noncomputable def sY (r : RT) (n : Nat) (kk5 : gE) (x0 x3 x4 : DV) (h0 : Hp) : aG :=
 bnd (cO x0 h0) fun v1 h1 =>
 bnd (aD .lss x4 v1 h1) fun v2 h2 =>
 aX v2 (
   bAe r n kk5 x0 x3 x4 h2) (
   dH r n x3 h2)
noncomputable def nG (r : RT) (n : Nat) (m : Nat) : gE :=
 Nat.rec (motive := fun _ => gE) (fun _ _ _ _ => none) (fun _ ih => sY r n ih) m
noncomputable def bIw (r : RT) (n : Nat) : gE := nG r n n
noncomputable def aWn (r : RT) (n : Nat) (x0 x3 x4 : DV) (h0 : Hp) : aG :=
 bIw r n x0 x3 x4 h0
noncomputable def aZz (r : RT) (n : Nat) (x0 x3 : DV) (h0 : Hp) : aG :=
 aWn r n x0 x3 (.i .i64 (Int.ofNat 0)) h0
noncomputable def bAn (r : RT) (n : Nat) (x0 : DV) (h0 : Hp) : aG :=
 aZz r n x0 (.s [34]) h0
noncomputable def s27 (r : RT) (n : Nat) (x0 : DV) (h0 : Hp) : aG :=
 bAn r n x0 h0
noncomputable abbrev c27 : Code := cf Tryz.f27
noncomputable abbrev aWj : Code := cR c27
noncomputable abbrev aVv : Code := cR aWj
noncomputable abbrev dDg : Code := cR aVv
noncomputable abbrev aNg : Code := cL aVv
noncomputable abbrev bSy : Code := cR aNg
noncomputable abbrev aWf : Code := cL bSy
noncomputable abbrev pK : Code := cL aWf
noncomputable abbrev bBr : Code := cR pK
noncomputable abbrev dIg : Code := cR bBr
noncomputable abbrev aEv : Code := cL bBr
noncomputable abbrev aEm : Code := cL aEv
noncomputable abbrev aJs : Code := cR aEm
noncomputable abbrev cSd : Code := cR aJs
noncomputable abbrev bTx : Code := cL aJs
noncomputable abbrev bMf : Code := cL aEm
noncomputable abbrev bTu : Code := cL pK
noncomputable abbrev bLg : Code := cL aNg
noncomputable abbrev bXk : Code := cL aWj
noncomputable abbrev bKj : Code := cL c27
noncomputable abbrev r27 : K := aQ CF Tryz.f27
noncomputable def D27 (r : RT) (n : Nat) (c : Code) (X : Nat → K) (k : K) : K := aM CF r 38 n c X r27 k
theorem dAw : D27 r n dDg x0 r27 = (K1 (dH r n) 3) :=
 (by kernel_rfl)
theorem cVn (kk5 : gE) : D27 r n dIg (xs x0 0 (K1 (dH r n) 3)) (K3 kk5 0 3 4) = (K3 (gG r n kk5) 0 3 4) :=
 (by kernel_rfl)
theorem cYx (kk5 : gE) : D27 r n cSd (xs (xs x0 0 (K1 (dH r n) 3)) 1 (K3 (gG r n kk5) 0 3 4)) (K3 (gG r n kk5) 0 3 4) = (K3 (aCz r n kk5) 0 3 4) :=
 (by kernel_rfl)
theorem cEj (kk5 : gE) : D27 r n aJs (xs (xs x0 0 (K1 (dH r n) 3)) 1 (K3 (gG r n kk5) 0 3 4)) (K3 (gG r n kk5) 0 3 4) = D27 r n bTx (xs (xs x0 0 (K1 (dH r n) 3)) 1 (K3 (gG r n kk5) 0 3 4)) (K3 (aCz r n kk5) 0 3 4) :=
 congrArg (fun k => D27 r n bTx (xs (xs x0 0 (K1 (dH r n) 3)) 1 (K3 (gG r n kk5) 0 3 4)) k) (cYx r n kk5)
theorem cWo (kk5 : gE) : D27 r n aJs (xs (xs x0 0 (K1 (dH r n) 3)) 1 (K3 (gG r n kk5) 0 3 4)) (K3 (gG r n kk5) 0 3 4) = (K3 (aWa r n kk5) 0 3 4) :=
 (cEj r n kk5).trans
 ((by kernel_rfl))
theorem cEi (kk5 : gE) : D27 r n bBr (xs x0 0 (K1 (dH r n) 3)) (K3 kk5 0 3 4) = D27 r n aEv (xs x0 0 (K1 (dH r n) 3)) (K3 (gG r n kk5) 0 3 4) :=
 congrArg (fun k => D27 r n aEv (xs x0 0 (K1 (dH r n) 3)) k) (cVn r n kk5)
theorem cFt (kk5 : gE) : D27 r n aEm (xs (xs x0 0 (K1 (dH r n) 3)) 1 (K3 (gG r n kk5) 0 3 4)) (K3 (gG r n kk5) 0 3 4) = D27 r n bMf (xs (xs x0 0 (K1 (dH r n) 3)) 1 (K3 (gG r n kk5) 0 3 4)) (K3 (aWa r n kk5) 0 3 4) :=
 congrArg (fun k => D27 r n bMf (xs (xs x0 0 (K1 (dH r n) 3)) 1 (K3 (gG r n kk5) 0 3 4)) k) (cWo r n kk5)
theorem cQi (kk5 : gE) : D27 r n bBr (xs x0 0 (K1 (dH r n) 3)) (K3 kk5 0 3 4) = (K3 (bAe r n kk5) 0 3 4) :=
 (cEi r n kk5).trans
 ((by kernel_rfl : D27 r n aEv (xs x0 0 (K1 (dH r n) 3)) (K3 (gG r n kk5) 0 3 4) = D27 r n aEm (xs (xs x0 0 (K1 (dH r n) 3)) 1 (K3 (gG r n kk5) 0 3 4)) (K3 (gG r n kk5) 0 3 4)).trans
 ((cFt r n kk5).trans
 ((by kernel_rfl))))
theorem cCy (kk5 : gE) : D27 r n pK (xs x0 0 (K1 (dH r n) 3)) (K3 kk5 0 3 4) = D27 r n bTu (xs x0 0 (K1 (dH r n) 3)) (K3 (bAe r n kk5) 0 3 4) :=
 congrArg (fun k => D27 r n bTu (xs x0 0 (K1 (dH r n) 3)) k) (cQi r n kk5)
theorem cFq (kk5 : gE) : D27 r n pK (xs x0 0 (K1 (dH r n) 3)) (K3 kk5 0 3 4) = (K3 (sY r n kk5) 0 3 4) :=
 (cCy r n kk5).trans
 ((by kernel_rfl))
theorem cLu (m : Nat) : aL (fun kk => D27 r n pK (xs x0 0 (K1 (dH r n) 3)) kk) m = (K3 (nG r n m) 0 3 4) := by
 induction m with
 | zero => exact (by kernel_rfl : aL (fun kk => D27 r n pK (xs x0 0 (K1 (dH r n) 3)) kk) 0 = (K3 (nG r n 0) 0 3 4))
 | succ m ih =>
  refine (by kernel_rfl : aL (fun kk => D27 r n pK (xs x0 0 (K1 (dH r n) 3)) kk) (m + 1) = D27 r n pK (xs x0 0 (K1 (dH r n) 3)) (aL (fun kk => D27 r n pK (xs x0 0 (K1 (dH r n) 3)) kk) m)).trans ?_
  rw [ih]
  exact (cFq r n (nG r n m)).trans (by kernel_rfl)
theorem cTq : D27 r n aWf (xs x0 0 (K1 (dH r n) 3)) (K1 (dH r n) 3) = (K3 (bIw r n) 0 3 4) :=
 (by kernel_rfl : D27 r n aWf (xs x0 0 (K1 (dH r n) 3)) (K1 (dH r n) 3) = aL (fun kk => D27 r n pK (xs x0 0 (K1 (dH r n) 3)) kk) n).trans ((cLu r n n).trans (by kernel_rfl))
theorem cSa : D27 r n bSy x0 (K1 (dH r n) 3) = (K3 (aWn r n) 0 3 4) :=
 (by kernel_rfl : D27 r n bSy x0 (K1 (dH r n) 3) = D27 r n aWf (xs x0 0 (K1 (dH r n) 3)) (K1 (dH r n) 3)).trans
 ((cTq r n).trans (by kernel_rfl))
theorem cGn : D27 r n aVv x0 r27 = D27 r n aNg x0 (K1 (dH r n) 3) :=
 congrArg (fun k => D27 r n aNg x0 k) (dAw r n)
theorem cKh : D27 r n aNg x0 (K1 (dH r n) 3) = D27 r n bLg x0 (K3 (aWn r n) 0 3 4) :=
 congrArg (fun k => D27 r n bLg x0 k) (cSa r n)
theorem cXi : D27 r n aVv x0 r27 = (K2 (aZz r n) 0 3) :=
 (cGn r n).trans
 ((cKh r n).trans
 ((by kernel_rfl)))
theorem cBh : D27 r n aWj x0 r27 = D27 r n bXk x0 (K2 (aZz r n) 0 3) :=
 congrArg (fun k => D27 r n bXk x0 k) (cXi r n)
theorem cTj : D27 r n aWj x0 r27 = (K1 (bAn r n) 0) :=
 (cBh r n).trans
 ((by kernel_rfl))
theorem dJk : D27 r n c27 x0 r27 = D27 r n bKj x0 (K1 (bAn r n) 0) :=
 congrArg (fun k => D27 r n bKj x0 k) (cTj r n)
theorem dOc : D27 r n c27 x0 r27 = (K1 (s27 r n) 0) :=
 (dJk r n).trans
 ((by kernel_rfl))
theorem cNm : aF CF r n 27 args h = s27 r n (aW args 0) h :=
 (by kernel_rfl : aF CF r n 27 args h = D27 r n c27 x0 r27 (aI args) h).trans ((congrFun (congrFun (dOc r n) (aI args)) h).trans (by kernel_rfl))
noncomputable def s30 (r : RT) (n : Nat) (x0 x1 : DV) (h0 : Hp) : aG :=
 bnd (r 45 [x0, x1] h0) fun v1 h1 =>
 some (v1, h1)
noncomputable abbrev c30 : Code := cf Tryz.f30
noncomputable abbrev r30 : K := aQ CF Tryz.f30
noncomputable def D30 (r : RT) (n : Nat) (c : Code) (X : Nat → K) (k : K) : K := aM CF r 8 n c X r30 k
theorem dJy : D30 r n c30 x0 r30 = (K2 (s30 r n) 0 1) :=
 (by kernel_rfl)
theorem dGm : aF CF r n 30 args h = s30 r n (aW args 0) (aW args 1) h :=
 (by kernel_rfl : aF CF r n 30 args h = D30 r n c30 x0 r30 (aI args) h).trans ((congrFun (congrFun (dJy r n) (aI args)) h).trans (by kernel_rfl))
noncomputable def s34 (r : RT) (n : Nat) (h0 : Hp) : aG :=
 bnd (dU h0) fun v1 h1 =>
 bnd (dQ .string v1 (.s [99, 108, 97, 115, 115]) (.f 50 [] []) h1) fun _ h2 =>
 bnd (dQ .string v1 (.s [109, 101, 116, 104, 111, 100]) (.f 51 [] []) h2) fun _ h3 =>
 bnd (dQ .string v1 (.s [100, 111]) (.f 52 [] []) h3) fun _ h4 =>
 bnd (r 53 [(.i .i64 (Int.ofNat 1))] h4) fun v5 h5 =>
 bnd (dQ .string v1 (.s [102, 97, 115, 116]) v5 h5) fun _ h6 =>
 bnd (r 53 [(.i .i64 (Int.ofNat 0))] h6) fun v7 h7 =>
 bnd (dQ .string v1 (.s [115, 108, 111, 119]) v7 h7) fun _ h8 =>
 bnd (dQ .string v1 (.s [101, 118, 101, 114, 121]) (.f 54 [] []) h8) fun _ h9 =>
 some (v1, h9)
noncomputable abbrev c34 : Code := cf Tryz.f34
noncomputable abbrev r34 : K := aQ CF Tryz.f34
noncomputable def D34 (r : RT) (n : Nat) (c : Code) (X : Nat → K) (k : K) : K := aM CF r 5 n c X r34 k
theorem dKx : D34 r n c34 x0 r34 = (K0 (s34 r n)) :=
 (by kernel_rfl)
theorem cOu : aF CF r n 34 args h = s34 r n h :=
 (by kernel_rfl : aF CF r n 34 args h = D34 r n c34 x0 r34 (aI args) h).trans ((congrFun (congrFun (dKx r n) (aI args)) h).trans (by kernel_rfl))
noncomputable def iG (r : RT) (n : Nat) (x3 : DV) (h0 : Hp) : aG :=
 some (x3, h0)
noncomputable def uD (r : RT) (n : Nat) (kk6 : gE) (x0 x3 x4 : DV) (h0 : Hp) : aG :=
 bnd (cO x0 h0) fun v1 h1 =>
 bnd (aD .lss x4 v1 h1) fun v2 h2 =>
 aX v2 (
 bnd (bY x0 x4 h2) fun v3 h3 =>
 bnd (aD .lss v3 (.i .u8 (Int.ofNat 48)) h3) fun v4 h4 =>
 bnd (gD v4 false (some (x0, h4)) h4) fun v5 h5 =>
 bnd (gD v4 false (some (x4, h5)) h5) fun v6 h6 =>
 bnd (gD v4 false (bY v5 v6 h6) h6) fun v7 h7 =>
 bnd (gD v4 false (aD .gtr v7 (.i .u8 (Int.ofNat 57)) h7) h7) fun v8 h8 =>
 bnd (aP v4 (.b true) v8 h8) fun v9 h9 =>
 aX v9 (
 some ((.i .i64 (Int.negSucc 0)), h9)) (
 bnd (aD .mul (.i .i64 (Int.ofNat 10)) x3 h9) fun v10 h10 =>
 bnd (bY x0 x4 h10) fun v11 h11 =>
 bnd (aD .sub v11 (.i .u8 (Int.ofNat 48)) h11) fun v12 h12 =>
 bnd (dR .i64 v12 h12) fun v13 h13 =>
 bnd (aD .add v10 v13 h13) fun v14 h14 =>
 bnd (aD .add x4 (.i .i64 (Int.ofNat 1)) h14) fun v15 h15 =>
    kk6 x0 v14 v15 h15)) (
      iG r n x3 h2)
noncomputable def qT (r : RT) (n : Nat) (m : Nat) : gE :=
 Nat.rec (motive := fun _ => gE) (fun _ _ _ _ => none) (fun _ ih => uD r n ih) m
noncomputable def cOn (r : RT) (n : Nat) : gE := qT r n n
noncomputable def bSv (r : RT) (n : Nat) (x0 x3 x4 : DV) (h0 : Hp) : aG :=
 cOn r n x0 x3 x4 h0
noncomputable def bUb (r : RT) (n : Nat) (x0 x3 : DV) (h0 : Hp) : aG :=
 bSv r n x0 x3 (.i .i64 (Int.ofNat 0)) h0
noncomputable def aVh (r : RT) (n : Nat) (x0 : DV) (h0 : Hp) : aG :=
 bUb r n x0 (.i .i64 (Int.ofNat 0)) h0
noncomputable def bAv (r : RT) (n : Nat) (x0 : DV) (h0 : Hp) : aG :=
 bnd (cO x0 h0) fun v1 h1 =>
 bnd (aD .lss v1 (.i .i64 (Int.ofNat 1)) h1) fun v2 h2 =>
 bnd (gD v2 false (some (x0, h2)) h2) fun v3 h3 =>
 bnd (gD v2 false (cO v3 h3) h3) fun v4 h4 =>
 bnd (gD v2 false (aD .gtr v4 (.i .i64 (Int.ofNat 9)) h4) h4) fun v5 h5 =>
 bnd (aP v2 (.b true) v5 h5) fun v6 h6 =>
 bnd (gD v6 false (some (x0, h6)) h6) fun v7 h7 =>
 bnd (gD v6 false (cO v7 h7) h7) fun v8 h8 =>
 bnd (gD v6 false (aD .gtr v8 (.i .i64 (Int.ofNat 1)) h8) h8) fun v9 h9 =>
 bnd (gD v6 false (some (v9, h9)) h9) fun v10 h10 =>
 bnd (gD v10 true (some (x0, h10)) h10) fun v11 h11 =>
 bnd (gD v10 true (bY v11 (.i .i64 (Int.ofNat 0)) h11) h11) fun v12 h12 =>
 bnd (gD v10 true (aD .eql v12 (.i .u8 (Int.ofNat 48)) h12) h12) fun v13 h13 =>
 bnd (gD v6 false (aP v10 v13 (.b false) h13) h13) fun v14 h14 =>
 bnd (aP v6 (.b true) v14 h14) fun v15 h15 =>
 aX v15 (
 some ((.i .i64 (Int.negSucc 0)), h15)) (
  aVh r n x0 h15)
noncomputable def s35 (r : RT) (n : Nat) (x0 : DV) (h0 : Hp) : aG :=
 bAv r n x0 h0
noncomputable abbrev c35 : Code := cf Tryz.f35
noncomputable abbrev aWx : Code := cR c35
noncomputable abbrev aXh : Code := cR aWx
noncomputable abbrev aVp : Code := cR aXh
noncomputable abbrev dDe : Code := cR aVp
noncomputable abbrev aMh : Code := cL aVp
noncomputable abbrev bMo : Code := cR aMh
noncomputable abbrev bBk : Code := cL bMo
noncomputable abbrev aBl : Code := cL bBk
noncomputable abbrev cPw : Code := cL aMh
noncomputable abbrev bSt : Code := cL aXh
noncomputable abbrev bMv : Code := cL aWx
noncomputable abbrev bOg : Code := cL c35
noncomputable abbrev r35 : K := aQ CF Tryz.f35
noncomputable def D35 (r : RT) (n : Nat) (c : Code) (X : Nat → K) (k : K) : K := aM CF r 48 n c X r35 k
theorem cQx : D35 r n dDe x0 r35 = (K1 (iG r n) 3) :=
 (by kernel_rfl)
theorem cJk (kk6 : gE) : D35 r n aBl (xs x0 0 (K1 (iG r n) 3)) (K3 kk6 0 3 4) = (K3 (uD r n kk6) 0 3 4) :=
 (by kernel_rfl)
theorem cAx (m : Nat) : aL (fun kk => D35 r n aBl (xs x0 0 (K1 (iG r n) 3)) kk) m = (K3 (qT r n m) 0 3 4) := by
 induction m with
 | zero => exact (by kernel_rfl : aL (fun kk => D35 r n aBl (xs x0 0 (K1 (iG r n) 3)) kk) 0 = (K3 (qT r n 0) 0 3 4))
 | succ m ih =>
  refine (by kernel_rfl : aL (fun kk => D35 r n aBl (xs x0 0 (K1 (iG r n) 3)) kk) (m + 1) = D35 r n aBl (xs x0 0 (K1 (iG r n) 3)) (aL (fun kk => D35 r n aBl (xs x0 0 (K1 (iG r n) 3)) kk) m)).trans ?_
  rw [ih]
  exact (cJk r n (qT r n m)).trans (by kernel_rfl)
theorem cUg : D35 r n bBk (xs x0 0 (K1 (iG r n) 3)) (K1 (iG r n) 3) = (K3 (cOn r n) 0 3 4) :=
 (by kernel_rfl : D35 r n bBk (xs x0 0 (K1 (iG r n) 3)) (K1 (iG r n) 3) = aL (fun kk => D35 r n aBl (xs x0 0 (K1 (iG r n) 3)) kk) n).trans ((cAx r n n).trans (by kernel_rfl))
theorem cUu : D35 r n bMo x0 (K1 (iG r n) 3) = (K3 (bSv r n) 0 3 4) :=
 (by kernel_rfl : D35 r n bMo x0 (K1 (iG r n) 3) = D35 r n bBk (xs x0 0 (K1 (iG r n) 3)) (K1 (iG r n) 3)).trans
 ((cUg r n).trans (by kernel_rfl))
theorem cBm : D35 r n aVp x0 r35 = D35 r n aMh x0 (K1 (iG r n) 3) :=
 congrArg (fun k => D35 r n aMh x0 k) (cQx r n)
theorem cIp : D35 r n aMh x0 (K1 (iG r n) 3) = D35 r n cPw x0 (K3 (bSv r n) 0 3 4) :=
 congrArg (fun k => D35 r n cPw x0 k) (cUu r n)
theorem cXw : D35 r n aVp x0 r35 = (K2 (bUb r n) 0 3) :=
 (cBm r n).trans
 ((cIp r n).trans
 ((by kernel_rfl)))
theorem cBt : D35 r n aXh x0 r35 = D35 r n bSt x0 (K2 (bUb r n) 0 3) :=
 congrArg (fun k => D35 r n bSt x0 k) (cXw r n)
theorem cQg : D35 r n aXh x0 r35 = (K1 (aVh r n) 0) :=
 (cBt r n).trans
 ((by kernel_rfl))
theorem cIi : D35 r n aWx x0 r35 = D35 r n bMv x0 (K1 (aVh r n) 0) :=
 congrArg (fun k => D35 r n bMv x0 k) (cQg r n)
theorem cXo : D35 r n aWx x0 r35 = (K1 (bAv r n) 0) :=
 (cIi r n).trans
 ((by kernel_rfl))
theorem dBn : D35 r n c35 x0 r35 = D35 r n bOg x0 (K1 (bAv r n) 0) :=
 congrArg (fun k => D35 r n bOg x0 k) (cXo r n)
theorem dKf : D35 r n c35 x0 r35 = (K1 (s35 r n) 0) :=
 (dBn r n).trans
 ((by kernel_rfl))
theorem cNw : aF CF r n 35 args h = s35 r n (aW args 0) h :=
 (by kernel_rfl : aF CF r n 35 args h = D35 r n c35 x0 r35 (aI args) h).trans ((congrFun (congrFun (dKf r n) (aI args)) h).trans (by kernel_rfl))
noncomputable def s36 (r : RT) (n : Nat) (x0 : DV) (h0 : Hp) : aG :=
 bnd (r 55 [x0] h0) fun v1 h1 =>
 bnd (aC 0 v1 h1) fun v2 h2 =>
 bnd (aC 1 v1 h2) fun v3 h3 =>
 bnd (aD .neq v3 (.i .i64 (Int.ofNat 0)) h3) fun v4 h4 =>
 aX v4 (
 some (.t [.p0, v3], h4)) (
 bnd (bL [.p0, .p0, .p0, .l0, (.i .i64 (Int.ofNat 0))] [] h4) fun v5 h5 =>
 bnd (dB v5 h5) fun v6 h6 =>
 bnd (r 56 [v6, v2] h6) fun v7 h7 =>
 some (.t [v6, (.i .i64 (Int.ofNat 0))], h7))
noncomputable abbrev c36 : Code := cf Tryz.f36
noncomputable abbrev r36 : K := aQ CF Tryz.f36
noncomputable def D36 (r : RT) (n : Nat) (c : Code) (X : Nat → K) (k : K) : K := aM CF r 21 n c X r36 k
theorem dPc : D36 r n c36 x0 r36 = (K1 (s36 r n) 0) :=
 (by kernel_rfl)
theorem cMu : aF CF r n 36 args h = s36 r n (aW args 0) h :=
 (by kernel_rfl : aF CF r n 36 args h = D36 r n c36 x0 r36 (aI args) h).trans ((congrFun (congrFun (dPc r n) (aI args)) h).trans (by kernel_rfl))
noncomputable def s45 (r : RT) (n : Nat) (x0 x1 : DV) (h0 : Hp) : aG :=
 bnd (aOt [x0, x1] h0) fun v1 h1 =>
 some (v1, h1)
noncomputable abbrev c45 : Code := cf Tryz.f45
noncomputable abbrev r45 : K := aQ CF Tryz.f45
noncomputable def D45 (r : RT) (n : Nat) (c : Code) (X : Nat → K) (k : K) : K := aM CF r 8 n c X r45 k
theorem dPu : D45 r n c45 x0 r45 = (K2 (s45 r n) 0 1) :=
 (by kernel_rfl)
theorem dEh : aF CF r n 45 args h = s45 r n (aW args 0) (aW args 1) h :=
 (by kernel_rfl : aF CF r n 45 args h = D45 r n c45 x0 r45 (aI args) h).trans ((congrFun (congrFun (dPu r n) (aI args)) h).trans (by kernel_rfl))
noncomputable def s50 (r : RT) (n : Nat) (x0 : DV) (h0 : Hp) : aG :=
 bnd (cJ [(.i .i64 (Int.ofNat 0)), (.s []), (.s []), .l0, (.s []), (.i .i64 (Int.ofNat 0))] h0) fun v1 h1 =>
 bnd (r 17 [x0, (.s [32])] h1) fun v2 h2 =>
 bnd (cQ v2 h2) fun v3 h3 =>
 bnd (aD .lss v3 (.i .i64 (Int.ofNat 2)) h3) fun v4 h4 =>
 bnd (gD v4 false (some (v2, h4)) h4) fun v5 h5 =>
 bnd (gD v4 false (r 73 [v5] h5) h5) fun v6 h6 =>
 bnd (gD v4 false (jK .not v6 h6) h6) fun v7 h7 =>
 bnd (aP v4 (.b true) v7 h7) fun v8 h8 =>
 aX v8 (
 bnd (bL [(.i .i64 (Int.ofNat 0)), (.s []), (.s []), .l0, (.s []), (.i .i64 (Int.ofNat 0))] [] h8) fun v9 h9 =>
 bnd (aH 6 v1 v9 h9) fun _ h10 =>
 bnd (aK 6 v1 h10) fun v11 _ =>
 some (.t [v11, (.b false)], h10)) (
 bnd (aE 1 v2 (.i .i64 (Int.ofNat 0)) h8) fun v12 h12 =>
 bnd (aA v12 h12) fun v13 h13 =>
 bnd (aE 1 v2 (.i .i64 (Int.ofNat 1)) h13) fun v14 h14 =>
 bnd (aA v14 h14) fun v15 h15 =>
 bnd (dN 1 v2 (some (.i .i64 (Int.ofNat 2))) none h15) fun v16 h16 =>
 bnd (bL [(.i .i64 (Int.ofNat 0)), (.s []), (.s []), .l0, (.s []), (.i .i64 (Int.ofNat 0))] [(0, 1, (.i .i64 (Int.ofNat 1))), (1, 1, v13), (2, 1, v15), (3, 1, v16)] h16) fun v17 h17 =>
 bnd (aH 6 v1 v17 h17) fun v18 h18 =>
 bnd (aK 6 v1 h18) fun v19 _ =>
 some (.t [v19, (.b true)], h18))
noncomputable abbrev c50 : Code := cf Tryz.f50
noncomputable abbrev r50 : K := aQ CF Tryz.f50
noncomputable def D50 (r : RT) (n : Nat) (c : Code) (X : Nat → K) (k : K) : K := aM CF r 25 n c X r50 k
theorem dMt : D50 r n c50 x0 r50 = (K1 (s50 r n) 0) :=
 (by kernel_rfl)
theorem cPi : aF CF r n 50 args h = s50 r n (aW args 0) h :=
 (by kernel_rfl : aF CF r n 50 args h = D50 r n c50 x0 r50 (aI args) h).trans ((congrFun (congrFun (dMt r n) (aI args)) h).trans (by kernel_rfl))
noncomputable def s51 (r : RT) (n : Nat) (x0 : DV) (h0 : Hp) : aG :=
 bnd (cJ [(.i .i64 (Int.ofNat 0)), (.s []), (.s []), .l0, (.s []), (.i .i64 (Int.ofNat 0))] h0) fun v1 h1 =>
 bnd (uG [x0, (.s [32])] h1) fun v2 h2 =>
 bnd (aC 0 v2 h2) fun v3 h3 =>
 bnd (aC 1 v2 h3) fun v4 h4 =>
 bnd (aC 2 v2 h4) fun v5 h5 =>
 bnd (bL [(.i .i64 (Int.ofNat 0)), (.s []), (.s []), .l0, (.s []), (.i .i64 (Int.ofNat 0))] [(0, 1, (.i .i64 (Int.ofNat 2))), (1, 1, v3), (4, 1, v4)] h5) fun v6 h6 =>
 bnd (gD v5 true (some (v3, h6)) h6) fun v7 h7 =>
 bnd (gD v5 true (cM .neq v7 (.s []) h7) h7) fun v8 h8 =>
 bnd (aP v5 v8 (.b false) h8) fun v9 h9 =>
 bnd (aH 6 v1 v6 h9) fun _ h10 =>
 bnd (aK 6 v1 h10) fun v11 _ =>
 some (.t [v11, v9], h10)
noncomputable abbrev c51 : Code := cf Tryz.f51
noncomputable abbrev r51 : K := aQ CF Tryz.f51
noncomputable def D51 (r : RT) (n : Nat) (c : Code) (X : Nat → K) (k : K) : K := aM CF r 21 n c X r51 k
theorem dLz : D51 r n c51 x0 r51 = (K1 (s51 r n) 0) :=
 (by kernel_rfl)
theorem cNb : aF CF r n 51 args h = s51 r n (aW args 0) h :=
 (by kernel_rfl : aF CF r n 51 args h = D51 r n c51 x0 r51 (aI args) h).trans ((congrFun (congrFun (dLz r n) (aI args)) h).trans (by kernel_rfl))
noncomputable def s52 (r : RT) (n : Nat) (x0 : DV) (h0 : Hp) : aG :=
 bnd (cJ [(.i .i64 (Int.ofNat 0)), (.s []), (.s []), .l0, (.s []), (.i .i64 (Int.ofNat 0))] h0) fun v1 h1 =>
 bnd (uG [x0, (.s [32])] h1) fun v2 h2 =>
 bnd (aC 0 v2 h2) fun v3 h3 =>
 bnd (aC 1 v2 h3) fun v4 h4 =>
 bnd (aC 2 v2 h4) fun v5 h5 =>
 bnd (gK [v3] h5) fun v6 h6 =>
 bnd (aC 0 v6 h6) fun v7 h7 =>
 bnd (aC 1 v6 h7) fun v8 h8 =>
 bnd (bL [(.i .i64 (Int.ofNat 0)), (.s []), (.s []), .l0, (.s []), (.i .i64 (Int.ofNat 0))] [(0, 1, (.i .i64 (Int.ofNat 3))), (5, 1, v7), (4, 1, v4)] h8) fun v9 h9 =>
 bnd (gD v5 true (some (v8, h9)) h9) fun v10 h10 =>
 bnd (aP v5 v10 (.b false) h10) fun v11 h11 =>
 bnd (aH 6 v1 v9 h11) fun _ h12 =>
 bnd (aK 6 v1 h12) fun v13 _ =>
 some (.t [v13, v11], h12)
noncomputable abbrev c52 : Code := cf Tryz.f52
noncomputable abbrev r52 : K := aQ CF Tryz.f52
noncomputable def D52 (r : RT) (n : Nat) (c : Code) (X : Nat → K) (k : K) : K := aM CF r 27 n c X r52 k
theorem dLn : D52 r n c52 x0 r52 = (K1 (s52 r n) 0) :=
 (by kernel_rfl)
theorem cOf : aF CF r n 52 args h = s52 r n (aW args 0) h :=
 (by kernel_rfl : aF CF r n 52 args h = D52 r n c52 x0 r52 (aI args) h).trans ((congrFun (congrFun (dLn r n) (aI args)) h).trans (by kernel_rfl))
noncomputable def s53 (r : RT) (n : Nat) (x0 : DV) (h0 : Hp) : aG :=
 bnd (dB x0 h0) fun v1 h1 =>
 some ((.f 75 [] [v1]), h1)
noncomputable abbrev c53 : Code := cf Tryz.f53
noncomputable abbrev r53 : K := aQ CF Tryz.f53
noncomputable def D53 (r : RT) (n : Nat) (c : Code) (X : Nat → K) (k : K) : K := aM CF r 4 n c X r53 k
theorem dMm : D53 r n c53 x0 r53 = (K1 (s53 r n) 0) :=
 (by kernel_rfl)
theorem cOj : aF CF r n 53 args h = s53 r n (aW args 0) h :=
 (by kernel_rfl : aF CF r n 53 args h = D53 r n c53 x0 r53 (aI args) h).trans ((congrFun (congrFun (dMm r n) (aI args)) h).trans (by kernel_rfl))
noncomputable def s54 (r : RT) (n : Nat) (x0 : DV) (h0 : Hp) : aG :=
 bnd (cJ [(.i .i64 (Int.ofNat 0)), (.s []), (.s []), .l0, (.s []), (.i .i64 (Int.ofNat 0))] h0) fun v1 h1 =>
 bnd (gK [x0] h1) fun v2 h2 =>
 bnd (aC 0 v2 h2) fun v3 h3 =>
 bnd (aC 1 v2 h3) fun v4 h4 =>
 bnd (bL [(.i .i64 (Int.ofNat 0)), (.s []), (.s []), .l0, (.s []), (.i .i64 (Int.ofNat 0))] [(0, 1, (.i .i64 (Int.ofNat 8))), (5, 1, v3)] h4) fun v5 h5 =>
 bnd (aH 6 v1 v5 h5) fun _ h6 =>
 bnd (aK 6 v1 h6) fun v7 _ =>
 some (.t [v7, v4], h6)
noncomputable abbrev c54 : Code := cf Tryz.f54
noncomputable abbrev r54 : K := aQ CF Tryz.f54
noncomputable def D54 (r : RT) (n : Nat) (c : Code) (X : Nat → K) (k : K) : K := aM CF r 14 n c X r54 k
theorem dPh : D54 r n c54 x0 r54 = (K1 (s54 r n) 0) :=
 (by kernel_rfl)
theorem cPr : aF CF r n 54 args h = s54 r n (aW args 0) h :=
 (by kernel_rfl : aF CF r n 54 args h = D54 r n c54 x0 r54 (aI args) h).trans ((congrFun (congrFun (dPh r n) (aI args)) h).trans (by kernel_rfl))
end Go.Dd

namespace Go.Dd
open Go.Proofs
variable (r : RT) (n : Nat) (args : List DV) (h : Hp)
noncomputable def fG (r : RT) (n : Nat) (x5 : DV) (h0 : Hp) : aG :=
 some (.t [x5, (.i .i64 (Int.ofNat 0))], h0)
noncomputable def lI (r : RT) (n : Nat) (kk9 : fB) (x5 x155 x156 x157 : DV) (h0 : Hp) : aG :=
 bnd (aD .lss x157 x156 h0) fun v1 h1 =>
 aX v1 (
 bnd (aE 1 x155 x157 h1) fun v2 h2 =>
 bnd (aA v2 h2) fun v3 h3 =>
 bnd (aE 1 v3 (.i .i64 (Int.ofNat 0)) h3) fun v4 h4 =>
 bnd (aA v4 h4) fun v5 h5 =>
 bnd (aE 1 v3 (.i .i64 (Int.ofNat 1)) h5) fun v6 h6 =>
 bnd (aA v6 h6) fun v7 h7 =>
 bnd (r 87 [x5, v5, v7] h7) fun v8 h8 =>
 bnd (aC 0 v8 h8) fun v9 h9 =>
 bnd (aC 1 v8 h9) fun v10 h10 =>
 bnd (aC 2 v8 h10) fun v11 h11 =>
 bnd (aC 3 v8 h11) fun v12 h12 =>
 bnd (aD .neq v12 (.i .i64 (Int.ofNat 0)) h12) fun v13 h13 =>
 aX v13 (
 some (.t [.p0, v12], h13)) (
 bnd (aD .add x157 (.i .i64 (Int.ofNat 1)) h13) fun v14 h14 =>
    kk9 x5 x155 x156 v14 h14)) (
      fG r n x5 h1)
noncomputable def lK (r : RT) (n : Nat) (m : Nat) : fB :=
 Nat.rec (motive := fun _ => fB) (fun _ _ _ _ _ => none) (fun _ ih => lI r n ih) m
noncomputable def aXs (r : RT) (n : Nat) : fB := lK r n n
noncomputable def bLa (r : RT) (n : Nat) (x5 x155 x156 x157 : DV) (h0 : Hp) : aG :=
 aXs r n x5 x155 x156 x157 h0
noncomputable def bE (r : RT) (n : Nat) (x5 : DV) (h0 : Hp) : aG :=
 bnd (r 86 [] h0) fun v1 h1 =>
 bnd (cQ v1 h1) fun v2 h2 =>
  bLa r n x5 v1 v2 (.i .i64 (Int.ofNat 0)) h2
noncomputable def aV (r : RT) (n : Nat) (kk11 : dJ) (x4 x5 x59 x60 x61 : DV) (h0 : Hp) : aG :=
 bnd (aD .add x61 (.i .i64 (Int.ofNat 1)) h0) fun v1 h1 =>
  kk11 x4 x5 x59 x60 v1 h1
noncomputable def fF (r : RT) (n : Nat) (kk11 : dJ) (x4 x5 x8 x9 x59 x60 x61 : DV) (h0 : Hp) : aG :=
 bnd (aY x5 h0) fun v1 h1 =>
 bnd (aB 1 v1 h1) fun v2 h2 =>
 bnd (aA v2 h2) fun v3 h3 =>
 bnd (aY x5 h3) fun v4 h4 =>
 bnd (aB 1 v4 h4) fun v5 h5 =>
 bnd (aA v5 h5) fun v6 h6 =>
 bnd (aE 1 v6 (.i .i64 (Int.ofNat 1)) h6) fun v7 h7 =>
 bnd (aA v7 h7) fun v8 h8 =>
 bnd (r 85 [x5, x9, v8] h8) fun v9 h9 =>
 cnd (bI (aA v2 h9) v3 && true) (
 bnd (aC 0 v9 h9) fun v10 h10 =>
 bnd (aC 1 v9 h10) fun v11 h11 =>
 bnd (aE 1 v3 (.i .i64 (Int.ofNat 1)) h11) fun v12 h12 =>
 bnd (aH 1 v12 v10 h12) fun v13 h13 =>
 bnd (aY x5 h13) fun v14 h14 =>
 bnd (aB 3 v14 h14) fun v15 h15 =>
 bnd (aA v15 h15) fun v16 h16 =>
 bnd (aB 0 x8 h16) fun v17 h17 =>
 bnd (aA v17 h17) fun v18 h18 =>
 bnd (dQ .string v16 v18 x9 h18) fun v19 h19 =>
  aV r n kk11 x4 x5 x59 x60 x61 h19)
noncomputable def aYq (r : RT) (n : Nat) (kk11 : dJ) (kk25 : aRd) (x4 x5 x8 x9 x59 x60 x61 x117 x118 x119 : DV) (h0 : Hp) : aG :=
 bnd (aD .lss x119 x118 h0) fun v1 h1 =>
 aX v1 (
 bnd (aE 1 x117 x119 h1) fun v2 h2 =>
 bnd (aA v2 h2) fun v3 h3 =>
 bnd (aOb [x4, x9, x119, v3] h3) fun v4 h4 =>
 bnd (aD .add x119 (.i .i64 (Int.ofNat 1)) h4) fun v5 h5 =>
      kk25 x4 x5 x8 x9 x59 x60 x61 x117 x118 v5 h5) (
      fF r n kk11 x4 x5 x8 x9 x59 x60 x61 h1)
noncomputable def wG (r : RT) (n : Nat) (kk11 : dJ) (m : Nat) : aRd :=
 Nat.rec (motive := fun _ => aRd) (fun _ _ _ _ _ _ _ _ _ _ _ => none) (fun _ ih => aYq r n kk11 ih) m
noncomputable def bNw (r : RT) (n : Nat) (kk11 : dJ) : aRd := wG r n kk11 n
noncomputable def zB (r : RT) (n : Nat) (kk11 : dJ) (x4 x5 x8 x9 x59 x60 x61 x117 x118 x119 : DV) (h0 : Hp) : aG :=
 bNw r n kk11 x4 x5 x8 x9 x59 x60 x61 x117 x118 x119 h0
noncomputable def aGt (r : RT) (n : Nat) (kk11 : dJ) (x4 x5 x8 x9 x10 x12 x13 x19 x59 x60 x61 : DV) (h0 : Hp) : aG :=
 bnd (r 83 [x13] (resv 1 h0)) fun v1 h1 =>
 bnd (aB 2 x8 h1) fun v2 h2 =>
 bnd (aA v2 h2) fun v3 h3 =>
 cnd (bI (aA v2 (resv 1 h0)) v3 && true) (
 bnd (r 83 [v3] h3) fun v4 h4 =>
 bnd (cG (cK 0 h0.next) [(.i .i64 (Int.ofNat 0)), (.i .i64 (Int.ofNat 0)), (.i .i64 (Int.ofNat 0)), (.i .i64 (Int.ofNat 0)), (.i .i64 (Int.ofNat 0)), (.i .i64 (Int.ofNat 0))] 6 [(0, 1, x10), (1, 1, x12), (2, 1, v1), (3, 1, x19), (4, 1, (.i .i64 (Int.ofNat 0))), (5, 1, v4)] h4) fun v5 h5 =>
 bnd (cQ v5 h5) fun v6 h6 =>
  zB r n kk11 x4 x5 x8 x9 x59 x60 x61 v5 v6 (.i .i64 (Int.ofNat 0)) h6)
noncomputable def qI (r : RT) (n : Nat) (kk11 : dJ) (x4 x5 x8 x9 x10 x12 x13 x14 x59 x60 x61 : DV) (h0 : Hp) : aG :=
 bnd (r 82 [x5, x14] h0) fun v1 h1 =>
 bnd (aC 0 v1 h1) fun v2 h2 =>
 bnd (aC 1 v1 h2) fun v3 h3 =>
  aGt r n kk11 x4 x5 x8 x9 x10 x12 x13 v2 x59 x60 x61 h3
noncomputable def zV (r : RT) (n : Nat) (kk11 : dJ) (x4 x5 x7 x8 x9 x10 x12 x13 x14 x59 x60 x61 : DV) (h0 : Hp) : aG :=
 bnd (aD .eql x7 (.i .i64 (Int.ofNat 15)) h0) fun v1 h1 =>
 aX v1 (
 bnd (r 81 [x5, (.s [115, 101, 108, 101, 99, 116, 111, 114])] h1) fun v2 h2 =>
 bnd (aC 0 v2 h2) fun v3 h3 =>
 bnd (aC 1 v2 h3) fun v4 h4 =>
 bnd (r 81 [x5, (.s [97, 114, 103, 117, 109, 101, 110, 116, 115])] h4) fun v5 h5 =>
 bnd (aC 0 v5 h5) fun v6 h6 =>
 bnd (aC 1 v5 h6) fun v7 h7 =>
 bnd (aN [(.i .i64 (Int.ofNat 0)), (.i .i64 (Int.ofNat 0))] 2 [(0, 1, v3), (1, 1, v6)] h7) fun v8 h8 =>
  qI r n kk11 x4 x5 x8 x9 x10 x12 (.i .i64 (Int.ofNat 2)) v8 x59 x60 x61 h8) (
  qI r n kk11 x4 x5 x8 x9 x10 x12 x13 x14 x59 x60 x61 h1)
noncomputable def aUl (r : RT) (n : Nat) (kk11 : dJ) (x4 x5 x7 x8 x9 x10 x12 x13 x14 x59 x60 x61 : DV) (h0 : Hp) : aG :=
 bnd (aB 1 x8 h0) fun v1 h1 =>
 bnd (aA v1 h1) fun v2 h2 =>
 bnd (aD .geq v2 (.i .i64 (Int.ofNat 0)) h2) fun v3 h3 =>
 aX v3 (
 bnd (aB 1 x8 h3) fun v4 h4 =>
 bnd (aA v4 h4) fun v5 h5 =>
 bnd (r 79 [x5, v5] h5) fun v6 h6 =>
  zV r n kk11 x4 x5 x7 x8 x9 x10 v6 x13 x14 x59 x60 x61 h6) (
  zV r n kk11 x4 x5 x7 x8 x9 x10 x12 x13 x14 x59 x60 x61 h3)
noncomputable def aTn (r : RT) (n : Nat) (kk11 : dJ) (x4 x5 x7 x8 x9 x10 x59 x60 x61 : DV) (h0 : Hp) : aG :=
 aUl r n kk11 x4 x5 x7 x8 x9 x10 (.i .i64 (Int.ofNat 0)) (.i .i64 (Int.ofNat 0)) .l0 x59 x60 x61 h0
noncomputable def aRc (r : RT) (n : Nat) (kk11 : dJ) (x4 x5 x7 x8 x9 x59 x60 x61 : DV) (h0 : Hp) : aG :=
 bnd (aB 0 x8 h0) fun v1 h1 =>
 bnd (aA v1 h1) fun v2 h2 =>
 bnd (r 81 [x5, v2] h2) fun v3 h3 =>
 bnd (aC 0 v3 h3) fun v4 h4 =>
 bnd (aC 1 v3 h4) fun v5 h5 =>
  aTn r n kk11 x4 x5 x7 x8 x9 v4 x59 x60 x61 h5
noncomputable def aSi (r : RT) (n : Nat) (kk11 : dJ) (x4 x5 x7 x8 x9 x59 x60 x61 : DV) (h0 : Hp) : aG :=
 bnd (r 79 [x5, (.i .i64 (Int.ofNat 1))] h0) fun v1 h1 =>
 bnd (lZ [x4, x9, v1] h1) fun v2 h2 =>
  aRc r n kk11 x4 x5 x7 x8 x9 x59 x60 x61 h2
noncomputable def yX (r : RT) (n : Nat) (kk11 : dJ) (x4 x5 x7 x8 x59 x60 x61 : DV) (h0 : Hp) : aG :=
 bnd (r 79 [x5, x7] h0) fun v1 h1 =>
  aSi r n kk11 x4 x5 x7 x8 v1 x59 x60 x61 h1
noncomputable def aEe (r : RT) (n : Nat) (kk11 : dJ) (x4 x5 x59 x60 x61 : DV) (h0 : Hp) : aG :=
 bnd (aE 3 x59 x61 h0) fun v1 h1 =>
 bnd (aK 3 v1 h1) fun v2 h2 =>
 bnd (cJ [(.s []), (.i .i64 (Int.ofNat 0)), (.i .i64 (Int.ofNat 0))] h2) fun v3 h3 =>
 bnd (aH 3 v3 v2 h3) fun _ h4 =>
  yX r n kk11 x4 x5 x61 v3 x59 x60 x61 h4
noncomputable def aQk (r : RT) (n : Nat) (kk11 : dJ) (x4 x5 x59 x60 x61 x62 : DV) (h0 : Hp) : aG :=
 aX x62 (
  aEe r n kk11 x4 x5 x59 x60 x61 h0) (
  bE r n x5 h0)
noncomputable def aXp (r : RT) (n : Nat) (kk11 : dJ) (x4 x5 x59 x60 x61 : DV) (h0 : Hp) : aG :=
 bnd (aD .lss x61 x60 h0) fun v1 h1 =>
  aQk r n kk11 x4 x5 x59 x60 x61 v1 h1
noncomputable def wC (r : RT) (n : Nat) (m : Nat) : dJ :=
 Nat.rec (motive := fun _ => dJ) (fun _ _ _ _ _ _ => none) (fun _ ih => aXp r n ih) m
noncomputable def bWu (r : RT) (n : Nat) : dJ := wC r n n
noncomputable def aTq (r : RT) (n : Nat) (x4 x5 x59 x60 x61 : DV) (h0 : Hp) : aG :=
 bWu r n x4 x5 x59 x60 x61 h0
noncomputable def iF (r : RT) (n : Nat) (x4 x5 : DV) (h0 : Hp) : aG :=
 bnd (r 78 [] h0) fun v1 h1 =>
 bnd (cQ v1 h1) fun v2 h2 =>
  aTq r n x4 x5 v1 v2 (.i .i64 (Int.ofNat 0)) h2
noncomputable def aVd (r : RT) (n : Nat) (kk27 : gE) (x4 x5 x43 : DV) (h0 : Hp) : aG :=
 bnd (aD .lss x43 (.i .i64 (Int.ofNat 16)) h0) fun v1 h1 =>
 aX v1 (
 bnd (aY x5 h1) fun v2 h2 =>
 bnd (aB 1 v2 h2) fun v3 h3 =>
 bnd (aA v3 h3) fun v4 h4 =>
 bnd (aD .add (.i .i64 (Int.ofNat 2)) x43 h4) fun v5 h5 =>
 bnd (vF [x4, (.i .i64 (Int.ofNat 0)), (.i .i64 (Int.ofNat 0)), (.i .i64 (Int.ofNat 6))] h5) fun v6 h6 =>
 cnd (bI (aA v3 h6) v4 && true) (
 bnd (aC 0 v6 h6) fun v7 h7 =>
 bnd (aC 1 v6 h7) fun v8 h8 =>
 bnd (aE 1 v4 v5 h8) fun v9 h9 =>
 bnd (aH 1 v9 v7 h9) fun v10 h10 =>
 bnd (aD .add x43 (.i .i64 (Int.ofNat 1)) h10) fun v11 h11 =>
      kk27 x4 x5 v11 h11)) (
      iF r n x4 x5 h1)
noncomputable def xM (r : RT) (n : Nat) (m : Nat) : gE :=
 Nat.rec (motive := fun _ => gE) (fun _ _ _ _ => none) (fun _ ih => aVd r n ih) m
noncomputable def bHy (r : RT) (n : Nat) : gE := xM r n n
noncomputable def aUn (r : RT) (n : Nat) (x4 x5 x43 : DV) (h0 : Hp) : aG :=
 bHy r n x4 x5 x43 h0
noncomputable def aMs (r : RT) (n : Nat) (x4 x5 : DV) (h0 : Hp) : aG :=
 aUn r n x4 x5 (.i .i64 (Int.ofNat 0)) h0
noncomputable def aZs (r : RT) (n : Nat) (x4 : DV) (h0 : Hp) : aG :=
 bnd (bR 1 8 [(.i .i64 (Int.ofNat 0))] (.i .i64 (Int.ofNat 18)) (.i .i64 (Int.ofNat 18)) h0) fun v1 h1 =>
 bnd (dU h1) fun v2 h2 =>
 bnd (dU h2) fun v3 h3 =>
 bnd (bL [.p0, .l0, .m0, .m0] [(0, 1, x4), (1, 1, v1), (2, 1, v2), (3, 1, v3)] h3) fun v4 h4 =>
 bnd (dB v4 h4) fun v5 h5 =>
  aMs r n x4 v5 h5
noncomputable def bYg (r : RT) (n : Nat) (x0 x4 : DV) (h0 : Hp) : aG :=
 bnd (pEq (.pointer 181) true x4 .p0 h0) fun v1 h1 =>
 aX v1 (
 some (.t [.p0, (.i .i64 (Int.ofNat 1))], h1)) (
 bnd (aD .lss x0 (.i .i64 (Int.ofNat 16384)) h1) fun v2 h2 =>
 aX v2 (
 some (.t [.p0, (.i .i64 (Int.ofNat 4))], h2)) (
   aZs r n x4 h2))
noncomputable def bRb (r : RT) (n : Nat) (x0 : DV) (h0 : Hp) : aG :=
 bnd (aRh [x0] h0) fun v1 h1 =>
  bYg r n x0 v1 h1
noncomputable def s55 (r : RT) (n : Nat) (x0 : DV) (h0 : Hp) : aG :=
 bRb r n x0 h0
noncomputable abbrev c55 : Code := cf Tryz.f55
noncomputable abbrev aXn : Code := cR c55
noncomputable abbrev aXo : Code := cR aXn
noncomputable abbrev bCb : Code := cR aXo
noncomputable abbrev bCj : Code := cR bCb
noncomputable abbrev aZl : Code := cR bCj
noncomputable abbrev aXc : Code := cR aZl
noncomputable abbrev dCq : Code := cR aXc
noncomputable abbrev aLp : Code := cL aXc
noncomputable abbrev bXv : Code := cR aLp
noncomputable abbrev aJl : Code := cL bXv
noncomputable abbrev pR : Code := cL aJl
noncomputable abbrev bIc : Code := cL aLp
noncomputable abbrev aAf : Code := cL aZl
noncomputable abbrev aQr : Code := cR aAf
noncomputable abbrev aGw : Code := cL aQr
noncomputable abbrev lJ : Code := cL aGw
noncomputable abbrev aKa : Code := cR lJ
noncomputable abbrev aEa : Code := cR aKa
noncomputable abbrev cRz : Code := cR aEa
noncomputable abbrev aGs : Code := cL aEa
noncomputable abbrev aFs : Code := cL aGs
noncomputable abbrev aJn : Code := cR aFs
noncomputable abbrev aJc : Code := cR aJn
noncomputable abbrev aIl : Code := cR aJc
noncomputable abbrev aHr : Code := cR aIl
noncomputable abbrev aFl : Code := cR aHr
noncomputable abbrev aIh : Code := cR aFl
noncomputable abbrev aLd : Code := cR aIh
noncomputable abbrev aIx : Code := cR aLd
noncomputable abbrev cUy : Code := cR aIx
noncomputable abbrev aAa : Code := cL aIx
noncomputable abbrev aQv : Code := cR aAa
noncomputable abbrev aGe : Code := cL aQv
noncomputable abbrev qO : Code := cL aGe
noncomputable abbrev aRf : Code := cL aAa
noncomputable abbrev bXu : Code := cL aLd
noncomputable abbrev aPh : Code := cL aIh
noncomputable abbrev bLy : Code := cL aFl
noncomputable abbrev bWn : Code := cL aHr
noncomputable abbrev bIj : Code := cL aIl
noncomputable abbrev bPf : Code := cL aJc
noncomputable abbrev bOm : Code := cL aJn
noncomputable abbrev aUt : Code := cL aFs
noncomputable abbrev bUs : Code := cL aKa
noncomputable abbrev bJw : Code := cL lJ
noncomputable abbrev bKd : Code := cL aAf
noncomputable abbrev aBm : Code := cL bCj
noncomputable abbrev aSd : Code := cR aBm
noncomputable abbrev aIk : Code := cL aSd
noncomputable abbrev pU : Code := cL aIk
noncomputable abbrev bUf : Code := cL aBm
noncomputable abbrev aRy : Code := cL bCb
noncomputable abbrev bIi : Code := cL aXo
noncomputable abbrev bQm : Code := cL aXn
noncomputable abbrev bTo : Code := cL c55
noncomputable abbrev r55 : K := aQ CF Tryz.f55
noncomputable def D55 (r : RT) (n : Nat) (c : Code) (X : Nat → K) (k : K) : K := aM CF r 179 n c X r55 k
theorem bHz : D55 r n dCq x0 r55 = (K1 (fG r n) 5) :=
 (by kernel_rfl)
theorem aZo (kk9 : fB) : D55 r n pR (xs x0 7 (K1 (fG r n) 5)) (K4 kk9 5 155 156 157) = (K4 (lI r n kk9) 5 155 156 157) :=
 (by kernel_rfl)
theorem cDz (m : Nat) : aL (fun kk => D55 r n pR (xs x0 7 (K1 (fG r n) 5)) kk) m = (K4 (lK r n m) 5 155 156 157) := by
 induction m with
 | zero => exact (by kernel_rfl : aL (fun kk => D55 r n pR (xs x0 7 (K1 (fG r n) 5)) kk) 0 = (K4 (lK r n 0) 5 155 156 157))
 | succ m ih =>
  refine (by kernel_rfl : aL (fun kk => D55 r n pR (xs x0 7 (K1 (fG r n) 5)) kk) (m + 1) = D55 r n pR (xs x0 7 (K1 (fG r n) 5)) (aL (fun kk => D55 r n pR (xs x0 7 (K1 (fG r n) 5)) kk) m)).trans ?_
  rw [ih]
  exact (aZo r n (lK r n m)).trans (by kernel_rfl)
theorem bXn : D55 r n aJl (xs x0 7 (K1 (fG r n) 5)) (K1 (fG r n) 5) = (K4 (aXs r n) 5 155 156 157) :=
 (by kernel_rfl : D55 r n aJl (xs x0 7 (K1 (fG r n) 5)) (K1 (fG r n) 5) = aL (fun kk => D55 r n pR (xs x0 7 (K1 (fG r n) 5)) kk) n).trans ((cDz r n n).trans (by kernel_rfl))
theorem dAl : D55 r n bXv x0 (K1 (fG r n) 5) = (K4 (bLa r n) 5 155 156 157) :=
 (by kernel_rfl : D55 r n bXv x0 (K1 (fG r n) 5) = D55 r n aJl (xs x0 7 (K1 (fG r n) 5)) (K1 (fG r n) 5)).trans
 ((bXn r n).trans (by kernel_rfl))
theorem cGf : D55 r n aXc x0 r55 = D55 r n aLp x0 (K1 (fG r n) 5) :=
 congrArg (fun k => D55 r n aLp x0 k) (bHz r n)
theorem cJf : D55 r n aLp x0 (K1 (fG r n) 5) = D55 r n bIc x0 (K4 (bLa r n) 5 155 156 157) :=
 congrArg (fun k => D55 r n bIc x0 k) (dAl r n)
theorem cWq : D55 r n aXc x0 r55 = (K1 (bE r n) 5) :=
 (cGf r n).trans
 ((cJf r n).trans
 ((by kernel_rfl)))
theorem cGk (kk11 : dJ) : D55 r n cRz (xs x0 3 (K1 (bE r n) 5)) (K5 kk11 4 5 59 60 61) = (K5 (aV r n kk11) 4 5 59 60 61) :=
 (by kernel_rfl)
theorem bZy (kk11 : dJ) : D55 r n cUy (xs (xs x0 3 (K1 (bE r n) 5)) 4 (K5 (aV r n kk11) 4 5 59 60 61)) (K5 (aV r n kk11) 4 5 59 60 61) = (K7 (fF r n kk11) 4 5 8 9 59 60 61) :=
 (by kernel_rfl)
theorem bPi (kk11 : dJ) (kk25 : aRd) : D55 r n qO (xs (xs (xs x0 3 (K1 (bE r n) 5)) 4 (K5 (aV r n kk11) 4 5 59 60 61)) 5 (K7 (fF r n kk11) 4 5 8 9 59 60 61)) (K10 kk25 4 5 8 9 59 60 61 117 118 119) = (K10 (aYq r n kk11 kk25) 4 5 8 9 59 60 61 117 118 119) :=
 (by kernel_rfl)
theorem bJz (kk11 : dJ) (m : Nat) : aL (fun kk => D55 r n qO (xs (xs (xs x0 3 (K1 (bE r n) 5)) 4 (K5 (aV r n kk11) 4 5 59 60 61)) 5 (K7 (fF r n kk11) 4 5 8 9 59 60 61)) kk) m = (K10 (wG r n kk11 m) 4 5 8 9 59 60 61 117 118 119) := by
 induction m with
 | zero => exact (by kernel_rfl : aL (fun kk => D55 r n qO (xs (xs (xs x0 3 (K1 (bE r n) 5)) 4 (K5 (aV r n kk11) 4 5 59 60 61)) 5 (K7 (fF r n kk11) 4 5 8 9 59 60 61)) kk) 0 = (K10 (wG r n kk11 0) 4 5 8 9 59 60 61 117 118 119))
 | succ m ih =>
  refine (by kernel_rfl : aL (fun kk => D55 r n qO (xs (xs (xs x0 3 (K1 (bE r n) 5)) 4 (K5 (aV r n kk11) 4 5 59 60 61)) 5 (K7 (fF r n kk11) 4 5 8 9 59 60 61)) kk) (m + 1) = D55 r n qO (xs (xs (xs x0 3 (K1 (bE r n) 5)) 4 (K5 (aV r n kk11) 4 5 59 60 61)) 5 (K7 (fF r n kk11) 4 5 8 9 59 60 61)) (aL (fun kk => D55 r n qO (xs (xs (xs x0 3 (K1 (bE r n) 5)) 4 (K5 (aV r n kk11) 4 5 59 60 61)) 5 (K7 (fF r n kk11) 4 5 8 9 59 60 61)) kk) m)).trans ?_
  rw [ih]
  exact (bPi r n kk11 (wG r n kk11 m)).trans (by kernel_rfl)
theorem cFe (kk11 : dJ) : D55 r n aGe (xs (xs (xs x0 3 (K1 (bE r n) 5)) 4 (K5 (aV r n kk11) 4 5 59 60 61)) 5 (K7 (fF r n kk11) 4 5 8 9 59 60 61)) (K7 (fF r n kk11) 4 5 8 9 59 60 61) = (K10 (bNw r n kk11) 4 5 8 9 59 60 61 117 118 119) :=
 (by kernel_rfl : D55 r n aGe (xs (xs (xs x0 3 (K1 (bE r n) 5)) 4 (K5 (aV r n kk11) 4 5 59 60 61)) 5 (K7 (fF r n kk11) 4 5 8 9 59 60 61)) (K7 (fF r n kk11) 4 5 8 9 59 60 61) = aL (fun kk => D55 r n qO (xs (xs (xs x0 3 (K1 (bE r n) 5)) 4 (K5 (aV r n kk11) 4 5 59 60 61)) 5 (K7 (fF r n kk11) 4 5 8 9 59 60 61)) kk) n).trans ((bJz r n kk11 n).trans (by kernel_rfl))
theorem cHq (kk11 : dJ) : D55 r n aQv (xs (xs x0 3 (K1 (bE r n) 5)) 4 (K5 (aV r n kk11) 4 5 59 60 61)) (K7 (fF r n kk11) 4 5 8 9 59 60 61) = (K10 (zB r n kk11) 4 5 8 9 59 60 61 117 118 119) :=
 (by kernel_rfl : D55 r n aQv (xs (xs x0 3 (K1 (bE r n) 5)) 4 (K5 (aV r n kk11) 4 5 59 60 61)) (K7 (fF r n kk11) 4 5 8 9 59 60 61) = D55 r n aGe (xs (xs (xs x0 3 (K1 (bE r n) 5)) 4 (K5 (aV r n kk11) 4 5 59 60 61)) 5 (K7 (fF r n kk11) 4 5 8 9 59 60 61)) (K7 (fF r n kk11) 4 5 8 9 59 60 61)).trans
 ((cFe r n kk11).trans (by kernel_rfl))
theorem bOo (kk11 : dJ) : D55 r n aIx (xs (xs x0 3 (K1 (bE r n) 5)) 4 (K5 (aV r n kk11) 4 5 59 60 61)) (K5 (aV r n kk11) 4 5 59 60 61) = D55 r n aAa (xs (xs x0 3 (K1 (bE r n) 5)) 4 (K5 (aV r n kk11) 4 5 59 60 61)) (K7 (fF r n kk11) 4 5 8 9 59 60 61) :=
 congrArg (fun k => D55 r n aAa (xs (xs x0 3 (K1 (bE r n) 5)) 4 (K5 (aV r n kk11) 4 5 59 60 61)) k) (bZy r n kk11)
theorem bMb (kk11 : dJ) : D55 r n aAa (xs (xs x0 3 (K1 (bE r n) 5)) 4 (K5 (aV r n kk11) 4 5 59 60 61)) (K7 (fF r n kk11) 4 5 8 9 59 60 61) = D55 r n aRf (xs (xs x0 3 (K1 (bE r n) 5)) 4 (K5 (aV r n kk11) 4 5 59 60 61)) (K10 (zB r n kk11) 4 5 8 9 59 60 61 117 118 119) :=
 congrArg (fun k => D55 r n aRf (xs (xs x0 3 (K1 (bE r n) 5)) 4 (K5 (aV r n kk11) 4 5 59 60 61)) k) (cHq r n kk11)
theorem bLv (kk11 : dJ) (q0 : aRd) (q1 : TT1) (q2 : dJ) : D55 r n aRf (xs (xs x0 3 (K1 q1 5)) 4 (K5 q2 4 5 59 60 61)) (K10 q0 4 5 8 9 59 60 61 117 118 119) = fun (env : bC) (h : Hp) =>
 bnd (r 83 [(env 13)] (resv 1 h)) fun v1 h1 =>
 bnd (aB 2 (env 8) h1) fun v2 h2 =>
 bnd (aA v2 h2) fun v3 h3 =>
 cnd (bI (aA v2 (resv 1 h)) v3 && true) (
 bnd (r 83 [v3] h3) fun v4 h4 =>
 bnd (cG (cK 0 h.next) [(.i .i64 (Int.ofNat 0)), (.i .i64 (Int.ofNat 0)), (.i .i64 (Int.ofNat 0)), (.i .i64 (Int.ofNat 0)), (.i .i64 (Int.ofNat 0)), (.i .i64 (Int.ofNat 0))] 6 [(0, 1, (env 10)), (1, 1, (env 12)), (2, 1, v1), (3, 1, (env 19)), (4, 1, (.i .i64 (Int.ofNat 0))), (5, 1, v4)] h4) fun v5 h5 =>
 bnd (cQ v5 h5) fun v6 h6 =>
  q0 (env 4) (env 5) (env 8) (env 9) (env 59) (env 60) (env 61) v5 v6 (.i .i64 (Int.ofNat 0)) h6) := by kernel_rfl
theorem bCu (kk11 : dJ) : (fun (env : bC) (h : Hp) =>
 bnd (r 83 [(env 13)] (resv 1 h)) fun v1 h1 =>
 bnd (aB 2 (env 8) h1) fun v2 h2 =>
 bnd (aA v2 h2) fun v3 h3 =>
 cnd (bI (aA v2 (resv 1 h)) v3 && true) (
 bnd (r 83 [v3] h3) fun v4 h4 =>
 bnd (cG (cK 0 h.next) [(.i .i64 (Int.ofNat 0)), (.i .i64 (Int.ofNat 0)), (.i .i64 (Int.ofNat 0)), (.i .i64 (Int.ofNat 0)), (.i .i64 (Int.ofNat 0)), (.i .i64 (Int.ofNat 0))] 6 [(0, 1, (env 10)), (1, 1, (env 12)), (2, 1, v1), (3, 1, (env 19)), (4, 1, (.i .i64 (Int.ofNat 0))), (5, 1, v4)] h4) fun v5 h5 =>
 bnd (cQ v5 h5) fun v6 h6 =>
  zB r n kk11 (env 4) (env 5) (env 8) (env 9) (env 59) (env 60) (env 61) v5 v6 (.i .i64 (Int.ofNat 0)) h6)) = (K11 (aGt r n kk11) 4 5 8 9 10 12 13 19 59 60 61) := by kernel_rfl
theorem cEf (kk11 : dJ) : D55 r n aIx (xs (xs x0 3 (K1 (bE r n) 5)) 4 (K5 (aV r n kk11) 4 5 59 60 61)) (K5 (aV r n kk11) 4 5 59 60 61) = (K11 (aGt r n kk11) 4 5 8 9 10 12 13 19 59 60 61) :=
 (bOo r n kk11).trans
 ((bMb r n kk11).trans
 ((bLv r n kk11 (zB r n kk11) (bE r n) (aV r n kk11)).trans (bCu r n kk11)))
theorem bNk (kk11 : dJ) : D55 r n aLd (xs (xs x0 3 (K1 (bE r n) 5)) 4 (K5 (aV r n kk11) 4 5 59 60 61)) (K5 (aV r n kk11) 4 5 59 60 61) = D55 r n bXu (xs (xs x0 3 (K1 (bE r n) 5)) 4 (K5 (aV r n kk11) 4 5 59 60 61)) (K11 (aGt r n kk11) 4 5 8 9 10 12 13 19 59 60 61) :=
 congrArg (fun k => D55 r n bXu (xs (xs x0 3 (K1 (bE r n) 5)) 4 (K5 (aV r n kk11) 4 5 59 60 61)) k) (cEf r n kk11)
theorem cFw (kk11 : dJ) : D55 r n aLd (xs (xs x0 3 (K1 (bE r n) 5)) 4 (K5 (aV r n kk11) 4 5 59 60 61)) (K5 (aV r n kk11) 4 5 59 60 61) = (K11 (qI r n kk11) 4 5 8 9 10 12 13 14 59 60 61) :=
 (bNk r n kk11).trans
 ((by kernel_rfl))
theorem bTy (kk11 : dJ) : D55 r n aIh (xs (xs x0 3 (K1 (bE r n) 5)) 4 (K5 (aV r n kk11) 4 5 59 60 61)) (K5 (aV r n kk11) 4 5 59 60 61) = D55 r n aPh (xs (xs x0 3 (K1 (bE r n) 5)) 4 (K5 (aV r n kk11) 4 5 59 60 61)) (K11 (qI r n kk11) 4 5 8 9 10 12 13 14 59 60 61) :=
 congrArg (fun k => D55 r n aPh (xs (xs x0 3 (K1 (bE r n) 5)) 4 (K5 (aV r n kk11) 4 5 59 60 61)) k) (cFw r n kk11)
theorem bTe (kk11 : dJ) (q0 : dBs) (q1 : TT1) (q2 : dJ) : D55 r n aPh (xs (xs x0 3 (K1 q1 5)) 4 (K5 q2 4 5 59 60 61)) (K11 q0 4 5 8 9 10 12 13 14 59 60 61) = fun (env : bC) (h : Hp) =>
 bnd (aD .eql (env 7) (.i .i64 (Int.ofNat 15)) h) fun v1 h1 =>
 aX v1 (
 bnd (r 81 [(env 5), (.s [115, 101, 108, 101, 99, 116, 111, 114])] h1) fun v2 h2 =>
 bnd (aC 0 v2 h2) fun v3 h3 =>
 bnd (aC 1 v2 h3) fun v4 h4 =>
 bnd (r 81 [(env 5), (.s [97, 114, 103, 117, 109, 101, 110, 116, 115])] h4) fun v5 h5 =>
 bnd (aC 0 v5 h5) fun v6 h6 =>
 bnd (aC 1 v5 h6) fun v7 h7 =>
 bnd (aN [(.i .i64 (Int.ofNat 0)), (.i .i64 (Int.ofNat 0))] 2 [(0, 1, v3), (1, 1, v6)] h7) fun v8 h8 =>
      q0 (env 4) (env 5) (env 8) (env 9) (env 10) (env 12) (.i .i64 (Int.ofNat 2)) v8 (env 59) (env 60) (env 61) h8) (
      q0 (env 4) (env 5) (env 8) (env 9) (env 10) (env 12) (env 13) (env 14) (env 59) (env 60) (env 61) h1) := by kernel_rfl
theorem bFe (kk11 : dJ) : (fun (env : bC) (h : Hp) =>
 bnd (aD .eql (env 7) (.i .i64 (Int.ofNat 15)) h) fun v1 h1 =>
 aX v1 (
 bnd (r 81 [(env 5), (.s [115, 101, 108, 101, 99, 116, 111, 114])] h1) fun v2 h2 =>
 bnd (aC 0 v2 h2) fun v3 h3 =>
 bnd (aC 1 v2 h3) fun v4 h4 =>
 bnd (r 81 [(env 5), (.s [97, 114, 103, 117, 109, 101, 110, 116, 115])] h4) fun v5 h5 =>
 bnd (aC 0 v5 h5) fun v6 h6 =>
 bnd (aC 1 v5 h6) fun v7 h7 =>
 bnd (aN [(.i .i64 (Int.ofNat 0)), (.i .i64 (Int.ofNat 0))] 2 [(0, 1, v3), (1, 1, v6)] h7) fun v8 h8 =>
      qI r n kk11 (env 4) (env 5) (env 8) (env 9) (env 10) (env 12) (.i .i64 (Int.ofNat 2)) v8 (env 59) (env 60) (env 61) h8) (
      qI r n kk11 (env 4) (env 5) (env 8) (env 9) (env 10) (env 12) (env 13) (env 14) (env 59) (env 60) (env 61) h1)) = (K12 (zV r n kk11) 4 5 7 8 9 10 12 13 14 59 60 61) := by kernel_rfl
theorem cJq (kk11 : dJ) : D55 r n aIh (xs (xs x0 3 (K1 (bE r n) 5)) 4 (K5 (aV r n kk11) 4 5 59 60 61)) (K5 (aV r n kk11) 4 5 59 60 61) = (K12 (zV r n kk11) 4 5 7 8 9 10 12 13 14 59 60 61) :=
 (bTy r n kk11).trans
 ((bTe r n kk11 (qI r n kk11) (bE r n) (aV r n kk11)).trans (bFe r n kk11))
theorem bKg (kk11 : dJ) : D55 r n aFl (xs (xs x0 3 (K1 (bE r n) 5)) 4 (K5 (aV r n kk11) 4 5 59 60 61)) (K5 (aV r n kk11) 4 5 59 60 61) = D55 r n bLy (xs (xs x0 3 (K1 (bE r n) 5)) 4 (K5 (aV r n kk11) 4 5 59 60 61)) (K12 (zV r n kk11) 4 5 7 8 9 10 12 13 14 59 60 61) :=
 congrArg (fun k => D55 r n bLy (xs (xs x0 3 (K1 (bE r n) 5)) 4 (K5 (aV r n kk11) 4 5 59 60 61)) k) (cJq r n kk11)
theorem cDh (kk11 : dJ) : D55 r n aFl (xs (xs x0 3 (K1 (bE r n) 5)) 4 (K5 (aV r n kk11) 4 5 59 60 61)) (K5 (aV r n kk11) 4 5 59 60 61) = (K12 (aUl r n kk11) 4 5 7 8 9 10 12 13 14 59 60 61) :=
 (bKg r n kk11).trans
 ((by kernel_rfl))
theorem bCq (kk11 : dJ) : D55 r n aHr (xs (xs x0 3 (K1 (bE r n) 5)) 4 (K5 (aV r n kk11) 4 5 59 60 61)) (K5 (aV r n kk11) 4 5 59 60 61) = D55 r n bWn (xs (xs x0 3 (K1 (bE r n) 5)) 4 (K5 (aV r n kk11) 4 5 59 60 61)) (K12 (aUl r n kk11) 4 5 7 8 9 10 12 13 14 59 60 61) :=
 congrArg (fun k => D55 r n bWn (xs (xs x0 3 (K1 (bE r n) 5)) 4 (K5 (aV r n kk11) 4 5 59 60 61)) k) (cDh r n kk11)
theorem cKw (kk11 : dJ) : D55 r n aHr (xs (xs x0 3 (K1 (bE r n) 5)) 4 (K5 (aV r n kk11) 4 5 59 60 61)) (K5 (aV r n kk11) 4 5 59 60 61) = (K9 (aTn r n kk11) 4 5 7 8 9 10 59 60 61) :=
 (bCq r n kk11).trans
 ((by kernel_rfl))
theorem bHi (kk11 : dJ) : D55 r n aIl (xs (xs x0 3 (K1 (bE r n) 5)) 4 (K5 (aV r n kk11) 4 5 59 60 61)) (K5 (aV r n kk11) 4 5 59 60 61) = D55 r n bIj (xs (xs x0 3 (K1 (bE r n) 5)) 4 (K5 (aV r n kk11) 4 5 59 60 61)) (K9 (aTn r n kk11) 4 5 7 8 9 10 59 60 61) :=
 congrArg (fun k => D55 r n bIj (xs (xs x0 3 (K1 (bE r n) 5)) 4 (K5 (aV r n kk11) 4 5 59 60 61)) k) (cKw r n kk11)
theorem cIm (kk11 : dJ) : D55 r n aIl (xs (xs x0 3 (K1 (bE r n) 5)) 4 (K5 (aV r n kk11) 4 5 59 60 61)) (K5 (aV r n kk11) 4 5 59 60 61) = (K8 (aRc r n kk11) 4 5 7 8 9 59 60 61) :=
 (bHi r n kk11).trans
 ((by kernel_rfl))
theorem bHf (kk11 : dJ) : D55 r n aJc (xs (xs x0 3 (K1 (bE r n) 5)) 4 (K5 (aV r n kk11) 4 5 59 60 61)) (K5 (aV r n kk11) 4 5 59 60 61) = D55 r n bPf (xs (xs x0 3 (K1 (bE r n) 5)) 4 (K5 (aV r n kk11) 4 5 59 60 61)) (K8 (aRc r n kk11) 4 5 7 8 9 59 60 61) :=
 congrArg (fun k => D55 r n bPf (xs (xs x0 3 (K1 (bE r n) 5)) 4 (K5 (aV r n kk11) 4 5 59 60 61)) k) (cIm r n kk11)
theorem cIy (kk11 : dJ) : D55 r n aJc (xs (xs x0 3 (K1 (bE r n) 5)) 4 (K5 (aV r n kk11) 4 5 59 60 61)) (K5 (aV r n kk11) 4 5 59 60 61) = (K8 (aSi r n kk11) 4 5 7 8 9 59 60 61) :=
 (bHf r n kk11).trans
 ((by kernel_rfl))
theorem bDz (kk11 : dJ) : D55 r n aJn (xs (xs x0 3 (K1 (bE r n) 5)) 4 (K5 (aV r n kk11) 4 5 59 60 61)) (K5 (aV r n kk11) 4 5 59 60 61) = D55 r n bOm (xs (xs x0 3 (K1 (bE r n) 5)) 4 (K5 (aV r n kk11) 4 5 59 60 61)) (K8 (aSi r n kk11) 4 5 7 8 9 59 60 61) :=
 congrArg (fun k => D55 r n bOm (xs (xs x0 3 (K1 (bE r n) 5)) 4 (K5 (aV r n kk11) 4 5 59 60 61)) k) (cIy r n kk11)
theorem cBj (kk11 : dJ) : D55 r n aJn (xs (xs x0 3 (K1 (bE r n) 5)) 4 (K5 (aV r n kk11) 4 5 59 60 61)) (K5 (aV r n kk11) 4 5 59 60 61) = (K7 (yX r n kk11) 4 5 7 8 59 60 61) :=
 (bDz r n kk11).trans
 ((by kernel_rfl))
theorem bDj (kk11 : dJ) : D55 r n aEa (xs x0 3 (K1 (bE r n) 5)) (K5 kk11 4 5 59 60 61) = D55 r n aGs (xs x0 3 (K1 (bE r n) 5)) (K5 (aV r n kk11) 4 5 59 60 61) :=
 congrArg (fun k => D55 r n aGs (xs x0 3 (K1 (bE r n) 5)) k) (cGk r n kk11)
theorem bEb (kk11 : dJ) : D55 r n aFs (xs (xs x0 3 (K1 (bE r n) 5)) 4 (K5 (aV r n kk11) 4 5 59 60 61)) (K5 (aV r n kk11) 4 5 59 60 61) = D55 r n aUt (xs (xs x0 3 (K1 (bE r n) 5)) 4 (K5 (aV r n kk11) 4 5 59 60 61)) (K7 (yX r n kk11) 4 5 7 8 59 60 61) :=
 congrArg (fun k => D55 r n aUt (xs (xs x0 3 (K1 (bE r n) 5)) 4 (K5 (aV r n kk11) 4 5 59 60 61)) k) (cBj r n kk11)
theorem bFb (kk11 : dJ) (q0 : TT7) (q1 : TT1) (q2 : dJ) : D55 r n aUt (xs (xs x0 3 (K1 q1 5)) 4 (K5 q2 4 5 59 60 61)) (K7 q0 4 5 7 8 59 60 61) = fun (env : bC) (h : Hp) =>
 bnd (aE 3 (env 59) (env 61) h) fun v1 h1 =>
 bnd (aK 3 v1 h1) fun v2 h2 =>
 bnd (cJ [(.s []), (.i .i64 (Int.ofNat 0)), (.i .i64 (Int.ofNat 0))] h2) fun v3 h3 =>
 bnd (aH 3 v3 v2 h3) fun _ h4 =>
  q0 (env 4) (env 5) (env 61) v3 (env 59) (env 60) (env 61) h4 := by kernel_rfl
theorem aPd (kk11 : dJ) : (fun (env : bC) (h : Hp) =>
 bnd (aE 3 (env 59) (env 61) h) fun v1 h1 =>
 bnd (aK 3 v1 h1) fun v2 h2 =>
 bnd (cJ [(.s []), (.i .i64 (Int.ofNat 0)), (.i .i64 (Int.ofNat 0))] h2) fun v3 h3 =>
 bnd (aH 3 v3 v2 h3) fun _ h4 =>
  yX r n kk11 (env 4) (env 5) (env 61) v3 (env 59) (env 60) (env 61) h4) = (K5 (aEe r n kk11) 4 5 59 60 61) := by kernel_rfl
theorem cAl (kk11 : dJ) : D55 r n aEa (xs x0 3 (K1 (bE r n) 5)) (K5 kk11 4 5 59 60 61) = (K5 (aEe r n kk11) 4 5 59 60 61) :=
 (bDj r n kk11).trans
 ((by kernel_rfl : D55 r n aGs (xs x0 3 (K1 (bE r n) 5)) (K5 (aV r n kk11) 4 5 59 60 61) = D55 r n aFs (xs (xs x0 3 (K1 (bE r n) 5)) 4 (K5 (aV r n kk11) 4 5 59 60 61)) (K5 (aV r n kk11) 4 5 59 60 61)).trans
 ((bEb r n kk11).trans
 ((bFb r n kk11 (yX r n kk11) (bE r n) (aV r n kk11)).trans (aPd r n kk11))))
theorem bGe (kk11 : dJ) : D55 r n aKa (xs x0 3 (K1 (bE r n) 5)) (K5 kk11 4 5 59 60 61) = D55 r n bUs (xs x0 3 (K1 (bE r n) 5)) (K5 (aEe r n kk11) 4 5 59 60 61) :=
 congrArg (fun k => D55 r n bUs (xs x0 3 (K1 (bE r n) 5)) k) (cAl r n kk11)
theorem cJz (kk11 : dJ) : D55 r n aKa (xs x0 3 (K1 (bE r n) 5)) (K5 kk11 4 5 59 60 61) = (K6 (aQk r n kk11) 4 5 59 60 61 62) :=
 (bGe r n kk11).trans
 ((by kernel_rfl))
theorem bDs (kk11 : dJ) : D55 r n lJ (xs x0 3 (K1 (bE r n) 5)) (K5 kk11 4 5 59 60 61) = D55 r n bJw (xs x0 3 (K1 (bE r n) 5)) (K6 (aQk r n kk11) 4 5 59 60 61 62) :=
 congrArg (fun k => D55 r n bJw (xs x0 3 (K1 (bE r n) 5)) k) (cJz r n kk11)
theorem bRg (kk11 : dJ) : D55 r n lJ (xs x0 3 (K1 (bE r n) 5)) (K5 kk11 4 5 59 60 61) = (K5 (aXp r n kk11) 4 5 59 60 61) :=
 (bDs r n kk11).trans
 ((by kernel_rfl))
theorem bHn (m : Nat) : aL (fun kk => D55 r n lJ (xs x0 3 (K1 (bE r n) 5)) kk) m = (K5 (wC r n m) 4 5 59 60 61) := by
 induction m with
 | zero => exact (by kernel_rfl : aL (fun kk => D55 r n lJ (xs x0 3 (K1 (bE r n) 5)) kk) 0 = (K5 (wC r n 0) 4 5 59 60 61))
 | succ m ih =>
  refine (by kernel_rfl : aL (fun kk => D55 r n lJ (xs x0 3 (K1 (bE r n) 5)) kk) (m + 1) = D55 r n lJ (xs x0 3 (K1 (bE r n) 5)) (aL (fun kk => D55 r n lJ (xs x0 3 (K1 (bE r n) 5)) kk) m)).trans ?_
  rw [ih]
  exact (bRg r n (wC r n m)).trans (by kernel_rfl)
theorem cKz : D55 r n aGw (xs x0 3 (K1 (bE r n) 5)) (K1 (bE r n) 5) = (K5 (bWu r n) 4 5 59 60 61) :=
 (by kernel_rfl : D55 r n aGw (xs x0 3 (K1 (bE r n) 5)) (K1 (bE r n) 5) = aL (fun kk => D55 r n lJ (xs x0 3 (K1 (bE r n) 5)) kk) n).trans ((bHn r n n).trans (by kernel_rfl))
theorem cDm : D55 r n aQr x0 (K1 (bE r n) 5) = (K5 (aTq r n) 4 5 59 60 61) :=
 (by kernel_rfl : D55 r n aQr x0 (K1 (bE r n) 5) = D55 r n aGw (xs x0 3 (K1 (bE r n) 5)) (K1 (bE r n) 5)).trans
 ((cKz r n).trans (by kernel_rfl))
theorem bJh : D55 r n aZl x0 r55 = D55 r n aAf x0 (K1 (bE r n) 5) :=
 congrArg (fun k => D55 r n aAf x0 k) (cWq r n)
theorem bTa : D55 r n aAf x0 (K1 (bE r n) 5) = D55 r n bKd x0 (K5 (aTq r n) 4 5 59 60 61) :=
 congrArg (fun k => D55 r n bKd x0 k) (cDm r n)
theorem dBh : D55 r n aZl x0 r55 = (K2 (iF r n) 4 5) :=
 (bJh r n).trans
 ((bTa r n).trans
 ((by kernel_rfl)))
theorem bIy (kk27 : gE) : D55 r n pU (xs x0 1 (K2 (iF r n) 4 5)) (K3 kk27 4 5 43) = (K3 (aVd r n kk27) 4 5 43) :=
 (by kernel_rfl)
theorem bSr (m : Nat) : aL (fun kk => D55 r n pU (xs x0 1 (K2 (iF r n) 4 5)) kk) m = (K3 (xM r n m) 4 5 43) := by
 induction m with
 | zero => exact (by kernel_rfl : aL (fun kk => D55 r n pU (xs x0 1 (K2 (iF r n) 4 5)) kk) 0 = (K3 (xM r n 0) 4 5 43))
 | succ m ih =>
  refine (by kernel_rfl : aL (fun kk => D55 r n pU (xs x0 1 (K2 (iF r n) 4 5)) kk) (m + 1) = D55 r n pU (xs x0 1 (K2 (iF r n) 4 5)) (aL (fun kk => D55 r n pU (xs x0 1 (K2 (iF r n) 4 5)) kk) m)).trans ?_
  rw [ih]
  exact (bIy r n (xM r n m)).trans (by kernel_rfl)
theorem cKl : D55 r n aIk (xs x0 1 (K2 (iF r n) 4 5)) (K2 (iF r n) 4 5) = (K3 (bHy r n) 4 5 43) :=
 (by kernel_rfl : D55 r n aIk (xs x0 1 (K2 (iF r n) 4 5)) (K2 (iF r n) 4 5) = aL (fun kk => D55 r n pU (xs x0 1 (K2 (iF r n) 4 5)) kk) n).trans ((bSr r n n).trans (by kernel_rfl))
theorem cAe : D55 r n aSd x0 (K2 (iF r n) 4 5) = (K3 (aUn r n) 4 5 43) :=
 (by kernel_rfl : D55 r n aSd x0 (K2 (iF r n) 4 5) = D55 r n aIk (xs x0 1 (K2 (iF r n) 4 5)) (K2 (iF r n) 4 5)).trans
 ((cKl r n).trans (by kernel_rfl))
theorem bYi : D55 r n bCj x0 r55 = D55 r n aBm x0 (K2 (iF r n) 4 5) :=
 congrArg (fun k => D55 r n aBm x0 k) (dBh r n)
theorem bQj : D55 r n aBm x0 (K2 (iF r n) 4 5) = D55 r n bUf x0 (K3 (aUn r n) 4 5 43) :=
 congrArg (fun k => D55 r n bUf x0 k) (cAe r n)
theorem cYq : D55 r n bCj x0 r55 = (K2 (aMs r n) 4 5) :=
 (bYi r n).trans
 ((bQj r n).trans
 ((by kernel_rfl)))
theorem bQn : D55 r n bCb x0 r55 = D55 r n aRy x0 (K2 (aMs r n) 4 5) :=
 congrArg (fun k => D55 r n aRy x0 k) (cYq r n)
theorem bIz (q0 : TT2) : D55 r n aRy x0 (K2 q0 4 5) = fun (env : bC) (h : Hp) =>
 bnd (bR 1 8 [(.i .i64 (Int.ofNat 0))] (.i .i64 (Int.ofNat 18)) (.i .i64 (Int.ofNat 18)) h) fun v1 h1 =>
 bnd (dU h1) fun v2 h2 =>
 bnd (dU h2) fun v3 h3 =>
 bnd (bL [.p0, .l0, .m0, .m0] [(0, 1, (env 4)), (1, 1, v1), (2, 1, v2), (3, 1, v3)] h3) fun v4 h4 =>
 bnd (dB v4 h4) fun v5 h5 =>
  q0 (env 4) v5 h5 := by kernel_rfl
theorem bGx : (fun (env : bC) (h : Hp) =>
 bnd (bR 1 8 [(.i .i64 (Int.ofNat 0))] (.i .i64 (Int.ofNat 18)) (.i .i64 (Int.ofNat 18)) h) fun v1 h1 =>
 bnd (dU h1) fun v2 h2 =>
 bnd (dU h2) fun v3 h3 =>
 bnd (bL [.p0, .l0, .m0, .m0] [(0, 1, (env 4)), (1, 1, v1), (2, 1, v2), (3, 1, v3)] h3) fun v4 h4 =>
 bnd (dB v4 h4) fun v5 h5 =>
  aMs r n (env 4) v5 h5) = (K1 (aZs r n) 4) := by kernel_rfl
theorem cQc : D55 r n bCb x0 r55 = (K1 (aZs r n) 4) :=
 (bQn r n).trans
 ((bIz r n (aMs r n)).trans (bGx r n))
theorem bLr : D55 r n aXo x0 r55 = D55 r n bIi x0 (K1 (aZs r n) 4) :=
 congrArg (fun k => D55 r n bIi x0 k) (cQc r n)
theorem cXx : D55 r n aXo x0 r55 = (K2 (bYg r n) 0 4) :=
 (bLr r n).trans
 ((by kernel_rfl))
theorem bUr : D55 r n aXn x0 r55 = D55 r n bQm x0 (K2 (bYg r n) 0 4) :=
 congrArg (fun k => D55 r n bQm x0 k) (cXx r n)
theorem cUh : D55 r n aXn x0 r55 = (K1 (bRb r n) 0) :=
 (bUr r n).trans
 ((by kernel_rfl))
theorem dAa : D55 r n c55 x0 r55 = D55 r n bTo x0 (K1 (bRb r n) 0) :=
 congrArg (fun k => D55 r n bTo x0 k) (cUh r n)
theorem dOo : D55 r n c55 x0 r55 = (K1 (s55 r n) 0) :=
 (dAa r n).trans
 ((by kernel_rfl))
theorem dGw : aF CF r n 55 args h = s55 r n (aW args 0) h :=
 (by kernel_rfl : aF CF r n 55 args h = D55 r n c55 x0 r55 (aI args) h).trans ((congrFun (congrFun (dOo r n) (aI args)) h).trans (by kernel_rfl))
noncomputable def s73 (r : RT) (n : Nat) (x0 : DV) (h0 : Hp) : aG :=
 bnd (r 123 [x0, (.s [])] h0) fun v1 h1 =>
 bnd (jK .not v1 h1) fun v2 h2 =>
 some (v2, h2)
noncomputable abbrev c73 : Code := cf Tryz.f73
noncomputable abbrev r73 : K := aQ CF Tryz.f73
noncomputable def D73 (r : RT) (n : Nat) (c : Code) (X : Nat → K) (k : K) : K := aM CF r 6 n c X r73 k
theorem dJw : D73 r n c73 x0 r73 = (K1 (s73 r n) 0) :=
 (by kernel_rfl)
theorem cNe : aF CF r n 73 args h = s73 r n (aW args 0) h :=
 (by kernel_rfl : aF CF r n 73 args h = D73 r n c73 x0 r73 (aI args) h).trans ((congrFun (congrFun (dJw r n) (aI args)) h).trans (by kernel_rfl))
noncomputable def s75 (r : RT) (n : Nat) (x0 x1 : DV) (h0 : Hp) : aG :=
 bnd (cJ [(.i .i64 (Int.ofNat 0)), (.s []), (.s []), .l0, (.s []), (.i .i64 (Int.ofNat 0))] h0) fun v1 h1 =>
 bnd (r 17 [x0, (.s [32])] h1) fun v2 h2 =>
 bnd (cQ v2 h2) fun v3 h3 =>
 bnd (aD .neq v3 (.i .i64 (Int.ofNat 2)) h3) fun v4 h4 =>
 bnd (gD v4 false (some (v2, h4)) h4) fun v5 h5 =>
 bnd (gD v4 false (r 73 [v5] h5) h5) fun v6 h6 =>
 bnd (gD v4 false (jK .not v6 h6) h6) fun v7 h7 =>
 bnd (aP v4 (.b true) v7 h7) fun v8 h8 =>
 aX v8 (
 bnd (bL [(.i .i64 (Int.ofNat 0)), (.s []), (.s []), .l0, (.s []), (.i .i64 (Int.ofNat 0))] [] h8) fun v9 h9 =>
 bnd (aH 6 v1 v9 h9) fun _ h10 =>
 bnd (aK 6 v1 h10) fun v11 _ =>
 some (.t [v11, (.b false)], h10)) (
 bnd (aE 1 v2 (.i .i64 (Int.ofNat 0)) h8) fun v12 h12 =>
 bnd (aA v12 h12) fun v13 h13 =>
 bnd (aE 1 v2 (.i .i64 (Int.ofNat 1)) h13) fun v14 h14 =>
 bnd (aA v14 h14) fun v15 h15 =>
 bnd (aA x1 h15) fun v16 h16 =>
 bnd (bL [(.i .i64 (Int.ofNat 0)), (.s []), (.s []), .l0, (.s []), (.i .i64 (Int.ofNat 0))] [(0, 1, (.i .i64 (Int.ofNat 4))), (1, 1, v13), (4, 1, v15), (5, 1, v16)] h16) fun v17 h17 =>
 bnd (aH 6 v1 v17 h17) fun v18 h18 =>
 bnd (aK 6 v1 h18) fun v19 _ =>
 some (.t [v19, (.b true)], h18))
noncomputable abbrev c75 : Code := cf Tryz.f75
noncomputable abbrev r75 : K := aQ CF Tryz.f75
noncomputable def D75 (r : RT) (n : Nat) (c : Code) (X : Nat → K) (k : K) : K := aM CF r 25 n c X r75 k
theorem dNh : D75 r n c75 x0 r75 = (K2 (s75 r n) 0 1) :=
 (by kernel_rfl)
theorem cOp : aF CF r n 75 args h = s75 r n (aW args 0) (aW args 1) h :=
 (by kernel_rfl : aF CF r n 75 args h = D75 r n c75 x0 r75 (aI args) h).trans ((congrFun (congrFun (dNh r n) (aI args)) h).trans (by kernel_rfl))
noncomputable def s79 (r : RT) (n : Nat) (x0 x1 : DV) (h0 : Hp) : aG :=
 bnd (aD .lss x1 (aO 0) h0) fun v1 h1 =>
 bnd (gD v1 false (some (x1, h1)) h1) fun v2 h2 =>
 bnd (gD v1 false (aD .geq v2 (aO 16) h2) h2) fun v3 h3 =>
 bnd (aP v1 (.b true) v3 h3) fun v4 h4 =>
 aX v4 (
 some ((aO 0), h4)) (
 bnd (aY x0 h4) fun v5 h5 =>
 bnd (aB 1 v5 h5) fun v6 h6 =>
 bnd (aA v6 h6) fun v7 h7 =>
 bnd (aD .add (aO 2) x1 h7) fun v8 h8 =>
 bnd (aE 1 v7 v8 h8) fun v9 h9 =>
 bnd (aA v9 h9) fun v10 h10 =>
 some (v10, h10))
noncomputable abbrev c79 : Code := cf Tryz.f79
noncomputable abbrev r79 : K := aQ CF Tryz.f79
noncomputable def D79 (r : RT) (n : Nat) (c : Code) (X : Nat → K) (k : K) : K := aM CF r 19 n c X r79 k
theorem dMo : D79 r n c79 x0 r79 = (K2 (s79 r n) 0 1) :=
 (by kernel_rfl)
theorem dEd : aF CF r n 79 args h = s79 r n (aW args 0) (aW args 1) h :=
 (by kernel_rfl : aF CF r n 79 args h = D79 r n c79 x0 r79 (aI args) h).trans ((congrFun (congrFun (dMo r n) (aI args)) h).trans (by kernel_rfl))
noncomputable def s81 (r : RT) (n : Nat) (x0 x1 : DV) (h0 : Hp) : aG :=
 bnd (cO x1 h0) fun v1 h1 =>
 bnd (aD .lss v1 (aO 1) h1) fun v2 h2 =>
 bnd (gD v2 false (some (x1, h2)) h2) fun v3 h3 =>
 bnd (gD v2 false (cO v3 h3) h3) fun v4 h4 =>
 bnd (gD v2 false (aD .gtr v4 (aO 60) h4) h4) fun v5 h5 =>
 bnd (aP v2 (.b true) v5 h5) fun v6 h6 =>
 aX v6 (
 some (.t [(aO 0), (aO 1)], h6)) (
 bnd (aY x0 h6) fun v7 h7 =>
 bnd (aB 2 v7 h7) fun v8 h8 =>
 bnd (aA v8 h8) fun v9 h9 =>
 bnd (eD .string (aO 0) false v9 x1 h9) fun v10 h10 =>
 bnd (aD .neq v10 (aO 0) h10) fun v11 h11 =>
 aX v11 (
 some (.t [v10, (aO 0)], h11)) (
 bnd (r 79 [x0, (aO 11)] h11) fun v12 h12 =>
 bnd (r 129 [x0, v12, x1] h12) fun v13 h13 =>
 bnd (aC 0 v13 h13) fun v14 h14 =>
 bnd (aC 1 v13 h14) fun v15 h15 =>
 bnd (aD .neq v15 (aO 0) h15) fun v16 h16 =>
 aX v16 (
 some (.t [(aO 0), v15], h16)) (
 bnd (aY x0 h16) fun v17 h17 =>
 bnd (aB 1 v17 h17) fun v18 h18 =>
 bnd (aA v18 h18) fun v19 h19 =>
 bnd (aE 1 v19 (aO 0) h19) fun v20 h20 =>
 bnd (aA v20 h20) fun v21 h21 =>
 bnd (r 85 [x0, v14, v21] h21) fun v22 h22 =>
 bnd (aC 0 v22 h22) fun v23 h23 =>
 bnd (aC 1 v22 h23) fun v24 h24 =>
 bnd (aD .neq v24 (aO 0) h24) fun v25 h25 =>
 aX v25 (
 some (.t [(aO 0), v24], h25)) (
 bnd (aY x0 h25) fun v26 h26 =>
 bnd (aB 1 v26 h26) fun v27 h27 =>
 bnd (aA v27 h27) fun v28 h28 =>
 bnd (aY x0 h28) fun v29 h29 =>
 bnd (aB 2 v29 h29) fun v30 h30 =>
 bnd (aA v30 h30) fun v31 h31 =>
 bnd (aE 1 v28 (aO 0) h31) fun v32 h32 =>
 bnd (aH 1 v32 v23 h32) fun v33 h33 =>
 bnd (iU .string (aO 0) v31 x1 h33) fun v34 h34 =>
 bnd (aC 1 v34 h34) fun v35 h35 =>
 bnd (fR v31 v35 v14 h35) fun v36 h36 =>
 some (.t [v14, (aO 0)], h36)))))
noncomputable abbrev c81 : Code := cf Tryz.f81
noncomputable abbrev r81 : K := aQ CF Tryz.f81
noncomputable def D81 (r : RT) (n : Nat) (c : Code) (X : Nat → K) (k : K) : K := aM CF r 68 n c X r81 k
theorem dNq : D81 r n c81 x0 r81 = (K2 (s81 r n) 0 1) :=
 (by kernel_rfl)
theorem dGu : aF CF r n 81 args h = s81 r n (aW args 0) (aW args 1) h :=
 (by kernel_rfl : aF CF r n 81 args h = D81 r n c81 x0 r81 (aI args) h).trans ((congrFun (congrFun (dNq r n) (aI args)) h).trans (by kernel_rfl))
noncomputable def s82 (r : RT) (n : Nat) (x0 x1 : DV) (h0 : Hp) : aG :=
 bnd (dB x0 h0) fun v1 h1 =>
 bnd (cQ x1 h1) fun v2 h2 =>
 bnd (aD .gtr v2 (aO 250) h2) fun v3 h3 =>
 bnd (gD v3 false (some (x1, h3)) h3) fun v4 h4 =>
 bnd (gD v3 false (some ((.f 131 [] [v1]), h4)) h4) fun v5 h5 =>
 bnd (gD v3 false (r 130 [v4, v5] h5) h5) fun v6 h6 =>
 bnd (aP v3 (.b true) v6 h6) fun v7 h7 =>
 aX v7 (
 some (.t [(aO 0), (aO 1)], h7)) (
 bnd (aA v1 h7) fun v8 h8 =>
 bnd (aA v1 h8) fun v9 h9 =>
 bnd (r 79 [v9, (aO 9)] h9) fun v10 h10 =>
 cnd (bI (aA v1 h10) v8 && true) (
 bnd (r 133 [v8, v10, (aO 0), x1] h10) fun v11 h11 =>
 bnd (aC 0 v11 h11) fun v12 h12 =>
 bnd (aC 1 v11 h12) fun v13 h13 =>
 some (.t [v12, v13], h13)))
noncomputable abbrev c82 : Code := cf Tryz.f82
noncomputable abbrev r82 : K := aQ CF Tryz.f82
noncomputable def D82 (r : RT) (n : Nat) (c : Code) (X : Nat → K) (k : K) : K := aM CF r 21 n c X r82 k
theorem dMp : D82 r n c82 x0 r82 = (K2 (s82 r n) 0 1) :=
 (by kernel_rfl)
theorem dIu : aF CF r n 82 args h = s82 r n (aW args 0) (aW args 1) h :=
 (by kernel_rfl : aF CF r n 82 args h = D82 r n c82 x0 r82 (aI args) h).trans ((congrFun (congrFun (dMp r n) (aI args)) h).trans (by kernel_rfl))
noncomputable def s83 (r : RT) (n : Nat) (x0 : DV) (h0 : Hp) : aG :=
 bnd (qS [x0] h0) fun v1 h1 =>
 bnd (aC 0 v1 h1) fun v2 h2 =>
 bnd (aC 1 v1 h2) fun v3 h3 =>
 some (v2, h3)
noncomputable abbrev c83 : Code := cf Tryz.f83
noncomputable abbrev r83 : K := aQ CF Tryz.f83
noncomputable def D83 (r : RT) (n : Nat) (c : Code) (X : Nat → K) (k : K) : K := aM CF r 11 n c X r83 k
theorem dMu : D83 r n c83 x0 r83 = (K1 (s83 r n) 0) :=
 (by kernel_rfl)
theorem dEx : aF CF r n 83 args h = s83 r n (aW args 0) h :=
 (by kernel_rfl : aF CF r n 83 args h = D83 r n c83 x0 r83 (aI args) h).trans ((congrFun (congrFun (dMu r n) (aI args)) h).trans (by kernel_rfl))
noncomputable def s85 (r : RT) (n : Nat) (x0 x1 x2 : DV) (h0 : Hp) : aG :=
 bnd (r 79 [x0, (aO 9)] h0) fun v1 h1 =>
 bnd (aN [(aO 0), (aO 0)] 2 [(0, 1, x1), (1, 1, x2)] h1) fun v2 h2 =>
 bnd (r 133 [x0, v1, (aO 0), v2] h2) fun v3 h3 =>
 bnd (aC 0 v3 h3) fun v4 h4 =>
 bnd (aC 1 v3 h4) fun v5 h5 =>
 some (.t [v4, v5], h5)
noncomputable abbrev c85 : Code := cf Tryz.f85
noncomputable abbrev r85 : K := aQ CF Tryz.f85
noncomputable def D85 (r : RT) (n : Nat) (c : Code) (X : Nat → K) (k : K) : K := aM CF r 17 n c X r85 k
theorem dKg : D85 r n c85 x0 r85 = (K3 (s85 r n) 0 1 2) :=
 (by kernel_rfl)
theorem dHw : aF CF r n 85 args h = s85 r n (aW args 0) (aW args 1) (aW args 2) h :=
 (by kernel_rfl : aF CF r n 85 args h = D85 r n c85 x0 r85 (aI args) h).trans ((congrFun (congrFun (dKg r n) (aI args)) h).trans (by kernel_rfl))
noncomputable def s87 (r : RT) (n : Nat) (x0 x1 x2 : DV) (h0 : Hp) : aG :=
 bnd (r 137 [x0, x1] h0) fun v1 h1 =>
 bnd (aD .eql v1 (aO 0) h1) fun v2 h2 =>
 aX v2 (
 some (.t [(aO 0), (aO 0), (.s []), (aO 24)], h2)) (
 bnd (r 138 [x2] h2) fun v3 h3 =>
 bnd (aC 0 v3 h3) fun v4 h4 =>
 bnd (aC 1 v3 h4) fun v5 h5 =>
 bnd (aC 2 v3 h5) fun v6 h6 =>
 bnd (cJ zr6 h6) fun v7 h7 =>
 bnd (aH 6 v7 v4 h7) fun _ h8 =>
 bnd (aD .neq v6 (aO 0) h8) fun v9 h9 =>
 aX v9 (
 some (.t [(aO 0), v5, (.s []), v6], h9)) (
 bnd (aK 6 v7 (resv 1 h9)) fun v10 h10 =>
 bnd (r 140 [x0, v1] h10) fun v11 h11 =>
 cnd (bI (aK 6 v7 h11) v10 && true) (
 bnd (r 139 [v10, v11] h11) fun v12 h12 =>
 bnd (aC 0 v12 h12) fun v13 h13 =>
 bnd (aC 1 v12 h13) fun v14 h14 =>
 bnd (aC 2 v12 h14) fun v15 h15 =>
 bnd (nA (cK 0 h9.next) [(.s []), (aO 0), (aO 0), (aO 0), .l0, .l0] h15) fun v16 h16 =>
 bnd (aH 6 v16 v13 h16) fun v17 h17 =>
 bnd (aD .neq v15 (aO 0) h17) fun v18 h18 =>
 aX v18 (
 some (.t [(aO 0), (aO 0), v14, v15], h18)) (
 bnd (aK 6 v16 h18) fun v19 h19 =>
 bnd (r 141 [x0, v1, v19] h19) fun v20 h20 =>
 bnd (aC 0 v20 h20) fun v21 h21 =>
 bnd (aC 1 v20 h21) fun v22 h22 =>
 bnd (aD .neq v22 (aO 0) h22) fun v23 h23 =>
 aX v23 (
 some (.t [(aO 0), (aO 0), (.s []), v22], h23)) (
 some (.t [v21, (aO 0), (.s []), (aO 0)], h23))))))
noncomputable abbrev c87 : Code := cf Tryz.f87
noncomputable abbrev r87 : K := aQ CF Tryz.f87
noncomputable def D87 (r : RT) (n : Nat) (c : Code) (X : Nat → K) (k : K) : K := aM CF r 56 n c X r87 k
theorem dOk : D87 r n c87 x0 r87 = (K3 (s87 r n) 0 1 2) :=
 (by kernel_rfl)
theorem dCv : aF CF r n 87 args h = s87 r n (aW args 0) (aW args 1) (aW args 2) h :=
 (by kernel_rfl : aF CF r n 87 args h = D87 r n c87 x0 r87 (aI args) h).trans ((congrFun (congrFun (dOk r n) (aI args)) h).trans (by kernel_rfl))
end Go.Dd

namespace Go.Dd
open Go.Proofs
variable (r : RT) (n : Nat) (args : List DV) (h : Hp)
noncomputable def s123 (r : RT) (n : Nat) (x0 x1 : DV) (h0 : Hp) : aG :=
 bnd (r 193 [x0, x1] h0) fun v1 h1 =>
 bnd (aD .geq v1 (.i .i64 (Int.ofNat 0)) h1) fun v2 h2 =>
 some (v2, h2)
noncomputable abbrev c123 : Code := cf Tryz.f123
noncomputable abbrev r123 : K := aQ CF Tryz.f123
noncomputable def D123 (r : RT) (n : Nat) (c : Code) (X : Nat → K) (k : K) : K := aM CF r 9 n c X r123 k
theorem dGd : D123 r n c123 x0 r123 = (K2 (s123 r n) 0 1) :=
 (by kernel_rfl)
theorem bKy : aF CF r n 123 args h = s123 r n (aW args 0) (aW args 1) h :=
 (by kernel_rfl : aF CF r n 123 args h = D123 r n c123 x0 r123 (aI args) h).trans ((congrFun (congrFun (dGd r n) (aI args)) h).trans (by kernel_rfl))
noncomputable def eN (r : RT) (n : Nat) (x0 x1 x8 : DV) (h0 : Hp) : aG :=
 bnd (r 133 [x0, x1, (aO 2), x8] h0) fun v1 h1 =>
 bnd (aC 0 v1 h1) fun v2 h2 =>
 bnd (aC 1 v1 h2) fun v3 h3 =>
 some (.t [v2, v3], h3)
noncomputable def aFx (r : RT) (n : Nat) (kk5 : gU) (x0 x1 x2 x8 x11 x12 : DV) (h0 : Hp) : aG :=
 bnd (aD .lss x12 x11 h0) fun v1 h1 =>
 aX v1 (
 bnd (bY x2 x12 h1) fun v2 h2 =>
 bnd (dR .i64 v2 h2) fun v3 h3 =>
 bnd (aN [(aO 0)] 1 [(0, 1, v3)] h3) fun v4 h4 =>
 bnd (bK 1 8 x8 v4 h4) fun v5 h5 =>
 bnd (aD .add x12 (aO 1) h5) fun v6 h6 =>
      kk5 x0 x1 x2 v5 x11 v6 h6) (
      eN r n x0 x1 x8 h1)
noncomputable def wP (r : RT) (n : Nat) (m : Nat) : gU :=
 Nat.rec (motive := fun _ => gU) (fun _ _ _ _ _ _ _ => none) (fun _ ih => aFx r n ih) m
noncomputable def bPa (r : RT) (n : Nat) : gU := wP r n n
noncomputable def aQh (r : RT) (n : Nat) (x0 x1 x2 x8 x11 x12 : DV) (h0 : Hp) : aG :=
 bPa r n x0 x1 x2 x8 x11 x12 h0
noncomputable def aSs (r : RT) (n : Nat) (x0 x1 x2 x8 : DV) (h0 : Hp) : aG :=
 bnd (cO x2 h0) fun v1 h1 =>
  aQh r n x0 x1 x2 x8 v1 (aO 0) h1
noncomputable def aTm (r : RT) (n : Nat) (x0 x1 x2 : DV) (h0 : Hp) : aG :=
 aSs r n x0 x1 x2 .l0 h0
noncomputable def s129 (r : RT) (n : Nat) (x0 x1 x2 : DV) (h0 : Hp) : aG :=
 aTm r n x0 x1 x2 h0
noncomputable abbrev c129 : Code := cf Tryz.f129
noncomputable abbrev aKc : Code := cR c129
noncomputable abbrev aJo : Code := cR aKc
noncomputable abbrev cTz : Code := cR aJo
noncomputable abbrev aBv : Code := cL aJo
noncomputable abbrev aPp : Code := cR aBv
noncomputable abbrev aKy : Code := cL aPp
noncomputable abbrev nP : Code := cL aKy
noncomputable abbrev bKn : Code := cL aBv
noncomputable abbrev bRd : Code := cL aKc
noncomputable abbrev bAm : Code := cL c129
noncomputable abbrev r129 : K := aQ CF Tryz.f129
noncomputable def D129 (r : RT) (n : Nat) (c : Code) (X : Nat → K) (k : K) : K := aM CF r 29 n c X r129 k
theorem cHn : D129 r n cTz x0 r129 = (K3 (eN r n) 0 1 8) :=
 (by kernel_rfl)
theorem bOv (kk5 : gU) (q0 : gE) : D129 r n nP (xs x0 0 (K3 q0 0 1 8)) (K6 kk5 0 1 2 8 11 12) = fun (env : bC) (h : Hp) =>
 bnd (aD .lss (env 12) (env 11) h) fun v1 h1 =>
 aX v1 (
 bnd (bY (env 2) (env 12) h1) fun v2 h2 =>
 bnd (dR .i64 v2 h2) fun v3 h3 =>
 bnd (aN [(aO 0)] 1 [(0, 1, v3)] h3) fun v4 h4 =>
 bnd (bK 1 8 (env 8) v4 h4) fun v5 h5 =>
 bnd (aD .add (env 12) (aO 1) h5) fun v6 h6 =>
      kk5 (env 0) (env 1) (env 2) v5 (env 11) v6 h6) (
      q0 (env 0) (env 1) (env 8) h1) := by kernel_rfl
theorem bDn (kk5 : gU) : (fun (env : bC) (h : Hp) =>
 bnd (aD .lss (env 12) (env 11) h) fun v1 h1 =>
 aX v1 (
 bnd (bY (env 2) (env 12) h1) fun v2 h2 =>
 bnd (dR .i64 v2 h2) fun v3 h3 =>
 bnd (aN [(aO 0)] 1 [(0, 1, v3)] h3) fun v4 h4 =>
 bnd (bK 1 8 (env 8) v4 h4) fun v5 h5 =>
 bnd (aD .add (env 12) (aO 1) h5) fun v6 h6 =>
      kk5 (env 0) (env 1) (env 2) v5 (env 11) v6 h6) (
      eN r n (env 0) (env 1) (env 8) h1)) = (K6 (aFx r n kk5) 0 1 2 8 11 12) := by kernel_rfl
theorem bPx (kk5 : gU) : D129 r n nP (xs x0 0 (K3 (eN r n) 0 1 8)) (K6 kk5 0 1 2 8 11 12) = (K6 (aFx r n kk5) 0 1 2 8 11 12) :=
 (bOv r n kk5 (eN r n)).trans (bDn r n kk5)
theorem bLf (m : Nat) : aL (fun kk => D129 r n nP (xs x0 0 (K3 (eN r n) 0 1 8)) kk) m = (K6 (wP r n m) 0 1 2 8 11 12) := by
 induction m with
 | zero => exact (by kernel_rfl : aL (fun kk => D129 r n nP (xs x0 0 (K3 (eN r n) 0 1 8)) kk) 0 = (K6 (wP r n 0) 0 1 2 8 11 12))
 | succ m ih =>
  refine (by kernel_rfl : aL (fun kk => D129 r n nP (xs x0 0 (K3 (eN r n) 0 1 8)) kk) (m + 1) = D129 r n nP (xs x0 0 (K3 (eN r n) 0 1 8)) (aL (fun kk => D129 r n nP (xs x0 0 (K3 (eN r n) 0 1 8)) kk) m)).trans ?_
  rw [ih]
  exact (bPx r n (wP r n m)).trans (by kernel_rfl)
theorem cHp : D129 r n aKy (xs x0 0 (K3 (eN r n) 0 1 8)) (K3 (eN r n) 0 1 8) = (K6 (bPa r n) 0 1 2 8 11 12) :=
 (by kernel_rfl : D129 r n aKy (xs x0 0 (K3 (eN r n) 0 1 8)) (K3 (eN r n) 0 1 8) = aL (fun kk => D129 r n nP (xs x0 0 (K3 (eN r n) 0 1 8)) kk) n).trans ((bLf r n n).trans (by kernel_rfl))
theorem cDf : D129 r n aPp x0 (K3 (eN r n) 0 1 8) = (K6 (aQh r n) 0 1 2 8 11 12) :=
 (by kernel_rfl : D129 r n aPp x0 (K3 (eN r n) 0 1 8) = D129 r n aKy (xs x0 0 (K3 (eN r n) 0 1 8)) (K3 (eN r n) 0 1 8)).trans
 ((cHp r n).trans (by kernel_rfl))
theorem bHl : D129 r n aJo x0 r129 = D129 r n aBv x0 (K3 (eN r n) 0 1 8) :=
 congrArg (fun k => D129 r n aBv x0 k) (cHn r n)
theorem bPd : D129 r n aBv x0 (K3 (eN r n) 0 1 8) = D129 r n bKn x0 (K6 (aQh r n) 0 1 2 8 11 12) :=
 congrArg (fun k => D129 r n bKn x0 k) (cDf r n)
theorem cIf : D129 r n aJo x0 r129 = (K4 (aSs r n) 0 1 2 8) :=
 (bHl r n).trans
 ((bPd r n).trans
 ((by kernel_rfl)))
theorem bVk : D129 r n aKc x0 r129 = D129 r n bRd x0 (K4 (aSs r n) 0 1 2 8) :=
 congrArg (fun k => D129 r n bRd x0 k) (cIf r n)
theorem cEw : D129 r n aKc x0 r129 = (K3 (aTm r n) 0 1 2) :=
 (bVk r n).trans
 ((by kernel_rfl))
theorem cYr : D129 r n c129 x0 r129 = D129 r n bAm x0 (K3 (aTm r n) 0 1 2) :=
 congrArg (fun k => D129 r n bAm x0 k) (cEw r n)
theorem dFd : D129 r n c129 x0 r129 = (K3 (s129 r n) 0 1 2) :=
 (cYr r n).trans
 ((by kernel_rfl))
theorem cQm : aF CF r n 129 args h = s129 r n (aW args 0) (aW args 1) (aW args 2) h :=
 (by kernel_rfl : aF CF r n 129 args h = D129 r n c129 x0 r129 (aI args) h).trans ((congrFun (congrFun (dFd r n) (aI args)) h).trans (by kernel_rfl))
noncomputable def s130 (r : RT) (n : Nat) (x0 x1 : DV) (h0 : Hp) : aG :=
 bnd (r 199 [x0, x1] h0) fun v1 h1 =>
 bnd (aD .geq v1 (aO 0) h1) fun v2 h2 =>
 some (v2, h2)
noncomputable abbrev c130 : Code := cf Tryz.f130
noncomputable abbrev r130 : K := aQ CF Tryz.f130
noncomputable def D130 (r : RT) (n : Nat) (c : Code) (X : Nat → K) (k : K) : K := aM CF r 9 n c X r130 k
theorem dEs : D130 r n c130 x0 r130 = (K2 (s130 r n) 0 1) :=
 (by kernel_rfl)
theorem cWb : aF CF r n 130 args h = s130 r n (aW args 0) (aW args 1) h :=
 (by kernel_rfl : aF CF r n 130 args h = D130 r n c130 x0 r130 (aI args) h).trans ((congrFun (congrFun (dEs r n) (aI args)) h).trans (by kernel_rfl))
noncomputable def s131 (r : RT) (n : Nat) (x0 x1 : DV) (h0 : Hp) : aG :=
 bnd (aA x1 h0) fun v1 h1 =>
 bnd (aY v1 h1) fun v2 h2 =>
 bnd (aB 0 v2 h2) fun v3 h3 =>
 bnd (aA v3 h3) fun v4 h4 =>
 bnd (bNs [v4, x0] h4) fun v5 h5 =>
 bnd (jK .not v5 h5) fun v6 h6 =>
 some (v6, h6)
noncomputable abbrev c131 : Code := cf Tryz.f131
noncomputable abbrev r131 : K := aQ CF Tryz.f131
noncomputable def D131 (r : RT) (n : Nat) (c : Code) (X : Nat → K) (k : K) : K := aM CF r 11 n c X r131 k
theorem dFz : D131 r n c131 x0 r131 = (K2 (s131 r n) 0 1) :=
 (by kernel_rfl)
theorem dAs : aF CF r n 131 args h = s131 r n (aW args 0) (aW args 1) h :=
 (by kernel_rfl : aF CF r n 131 args h = D131 r n c131 x0 r131 (aI args) h).trans ((congrFun (congrFun (dFz r n) (aI args)) h).trans (by kernel_rfl))
noncomputable def fD (r : RT) (n : Nat) (x10 : DV) (h0 : Hp) : aG :=
 some (.t [x10, (aO 0)], h0)
noncomputable def aVs (r : RT) (n : Nat) (kk6 : dJ) (x0 x10 x29 x30 x31 : DV) (h0 : Hp) : aG :=
 bnd (aD .lss x31 x30 h0) fun v1 h1 =>
 aX v1 (
 bnd (aE 1 x29 x31 h1) fun v2 h2 =>
 bnd (aA v2 h2) fun v3 h3 =>
 bnd (aY x0 h3) fun v4 h4 =>
 bnd (aB 0 v4 h4) fun v5 h5 =>
 bnd (aA v5 h5) fun v6 h6 =>
 bnd (aOb [v6, x10, x31, v3] h6) fun v7 h7 =>
 bnd (aD .add x31 (aO 1) h7) fun v8 h8 =>
      kk6 x0 x10 x29 x30 v8 h8) (
      fD r n x10 h1)
noncomputable def xI (r : RT) (n : Nat) (m : Nat) : dJ :=
 Nat.rec (motive := fun _ => dJ) (fun _ _ _ _ _ _ => none) (fun _ ih => aVs r n ih) m
noncomputable def bMr (r : RT) (n : Nat) : dJ := xI r n n
noncomputable def aRw (r : RT) (n : Nat) (x0 x10 x29 x30 x31 : DV) (h0 : Hp) : aG :=
 bMr r n x0 x10 x29 x30 x31 h0
noncomputable def aRt (r : RT) (n : Nat) (x0 x3 x10 : DV) (h0 : Hp) : aG :=
 bnd (cQ x3 h0) fun v1 h1 =>
  aRw r n x0 x10 x3 v1 (aO 0) h1
noncomputable def aSn (r : RT) (n : Nat) (x0 x3 x10 x11 : DV) (h0 : Hp) : aG :=
 bnd (aD .neq x11 (aO 0) h0) fun v1 h1 =>
 aX v1 (
 some (.t [(aO 0), x11], h1)) (
  aRt r n x0 x3 x10 h1)
noncomputable def aQl (r : RT) (n : Nat) (x0 x1 x2 x3 : DV) (h0 : Hp) : aG :=
 bnd (aY x0 h0) fun v1 h1 =>
 bnd (aB 0 v1 h1) fun v2 h2 =>
 bnd (aA v2 h2) fun v3 h3 =>
 bnd (cQ x3 h3) fun v4 h4 =>
 bnd (vF [v3, x1, x2, v4] h4) fun v5 h5 =>
 bnd (aC 0 v5 h5) fun v6 h6 =>
 bnd (aC 1 v5 h6) fun v7 h7 =>
  aSn r n x0 x3 v6 v7 h7
noncomputable def s133 (r : RT) (n : Nat) (x0 x1 x2 x3 : DV) (h0 : Hp) : aG :=
 aQl r n x0 x1 x2 x3 h0
noncomputable abbrev c133 : Code := cf Tryz.f133
noncomputable abbrev aFn : Code := cR c133
noncomputable abbrev aGn : Code := cR aFn
noncomputable abbrev aFo : Code := cR aGn
noncomputable abbrev cRw : Code := cR aFo
noncomputable abbrev aBr : Code := cL aFo
noncomputable abbrev aPa : Code := cR aBr
noncomputable abbrev aFe : Code := cL aPa
noncomputable abbrev qW : Code := cL aFe
noncomputable abbrev bWr : Code := cL aBr
noncomputable abbrev bBz : Code := cL aGn
noncomputable abbrev aWd : Code := cL aFn
noncomputable abbrev aWv : Code := cL c133
noncomputable abbrev r133 : K := aQ CF Tryz.f133
noncomputable def D133 (r : RT) (n : Nat) (c : Code) (X : Nat → K) (k : K) : K := aM CF r 46 n c X r133 k
theorem cFp : D133 r n cRw x0 r133 = (K1 (fD r n) 10) :=
 (by kernel_rfl)
theorem bHx (kk6 : dJ) : D133 r n qW (xs x0 0 (K1 (fD r n) 10)) (K5 kk6 0 10 29 30 31) = (K5 (aVs r n kk6) 0 10 29 30 31) :=
 (by kernel_rfl)
theorem bNl (m : Nat) : aL (fun kk => D133 r n qW (xs x0 0 (K1 (fD r n) 10)) kk) m = (K5 (xI r n m) 0 10 29 30 31) := by
 induction m with
 | zero => exact (by kernel_rfl : aL (fun kk => D133 r n qW (xs x0 0 (K1 (fD r n) 10)) kk) 0 = (K5 (xI r n 0) 0 10 29 30 31))
 | succ m ih =>
  refine (by kernel_rfl : aL (fun kk => D133 r n qW (xs x0 0 (K1 (fD r n) 10)) kk) (m + 1) = D133 r n qW (xs x0 0 (K1 (fD r n) 10)) (aL (fun kk => D133 r n qW (xs x0 0 (K1 (fD r n) 10)) kk) m)).trans ?_
  rw [ih]
  exact (bHx r n (xI r n m)).trans (by kernel_rfl)
theorem cEx : D133 r n aFe (xs x0 0 (K1 (fD r n) 10)) (K1 (fD r n) 10) = (K5 (bMr r n) 0 10 29 30 31) :=
 (by kernel_rfl : D133 r n aFe (xs x0 0 (K1 (fD r n) 10)) (K1 (fD r n) 10) = aL (fun kk => D133 r n qW (xs x0 0 (K1 (fD r n) 10)) kk) n).trans ((bNl r n n).trans (by kernel_rfl))
theorem cMe : D133 r n aPa x0 (K1 (fD r n) 10) = (K5 (aRw r n) 0 10 29 30 31) :=
 (by kernel_rfl : D133 r n aPa x0 (K1 (fD r n) 10) = D133 r n aFe (xs x0 0 (K1 (fD r n) 10)) (K1 (fD r n) 10)).trans
 ((cEx r n).trans (by kernel_rfl))
theorem bLp : D133 r n aFo x0 r133 = D133 r n aBr x0 (K1 (fD r n) 10) :=
 congrArg (fun k => D133 r n aBr x0 k) (cFp r n)
theorem bKr : D133 r n aBr x0 (K1 (fD r n) 10) = D133 r n bWr x0 (K5 (aRw r n) 0 10 29 30 31) :=
 congrArg (fun k => D133 r n bWr x0 k) (cMe r n)
theorem cFo : D133 r n aFo x0 r133 = (K3 (aRt r n) 0 3 10) :=
 (bLp r n).trans
 ((bKr r n).trans
 ((by kernel_rfl)))
theorem bQt : D133 r n aGn x0 r133 = D133 r n bBz x0 (K3 (aRt r n) 0 3 10) :=
 congrArg (fun k => D133 r n bBz x0 k) (cFo r n)
theorem cJs : D133 r n aGn x0 r133 = (K4 (aSn r n) 0 3 10 11) :=
 (bQt r n).trans
 ((by kernel_rfl))
theorem bKe : D133 r n aFn x0 r133 = D133 r n aWd x0 (K4 (aSn r n) 0 3 10 11) :=
 congrArg (fun k => D133 r n aWd x0 k) (cJs r n)
theorem cHa : D133 r n aFn x0 r133 = (K4 (aQl r n) 0 1 2 3) :=
 (bKe r n).trans
 ((by kernel_rfl))
theorem cTl : D133 r n c133 x0 r133 = D133 r n aWv x0 (K4 (aQl r n) 0 1 2 3) :=
 congrArg (fun k => D133 r n aWv x0 k) (cHa r n)
theorem dCh : D133 r n c133 x0 r133 = (K4 (s133 r n) 0 1 2 3) :=
 (cTl r n).trans
 ((by kernel_rfl))
theorem cXe : aF CF r n 133 args h = s133 r n (aW args 0) (aW args 1) (aW args 2) (aW args 3) h :=
 (by kernel_rfl : aF CF r n 133 args h = D133 r n c133 x0 r133 (aI args) h).trans ((congrFun (congrFun (dCh r n) (aI args)) h).trans (by kernel_rfl))
noncomputable def s139 (r : RT) (n : Nat) (x0 x1 : DV) (h0 : Hp) : aG :=
 bnd (dB x0 h0) fun v1 h1 =>
 bnd (cJ [(.s []), (aO 0), (aO 0), (aO 0), .l0, .l0] h1) fun v2 h2 =>
 bnd (aK 6 v1 h2) fun v3 h3 =>
 bnd (r 155 [v3, x1, (.b false)] h3) fun v4 h4 =>
 bnd (aC 0 v4 h4) fun v5 h5 =>
 bnd (aC 1 v4 h5) fun v6 h6 =>
 bnd (aC 2 v4 h6) fun v7 h7 =>
 bnd (aH 6 v2 v5 h7) fun _ h8 =>
 bnd (aK 6 v2 h8) fun v9 _ =>
 some (.t [v9, v6, v7], h8)
noncomputable abbrev c139 : Code := cf Tryz.f139
noncomputable abbrev r139 : K := aQ CF Tryz.f139
noncomputable def D139 (r : RT) (n : Nat) (c : Code) (X : Nat → K) (k : K) : K := aM CF r 13 n c X r139 k
theorem dJt : D139 r n c139 x0 r139 = (K2 (s139 r n) 0 1) :=
 (by kernel_rfl)
theorem cWh : aF CF r n 139 args h = s139 r n (aW args 0) (aW args 1) h :=
 (by kernel_rfl : aF CF r n 139 args h = D139 r n c139 x0 r139 (aI args) h).trans ((congrFun (congrFun (dJt r n) (aI args)) h).trans (by kernel_rfl))
noncomputable def s141 (r : RT) (n : Nat) (x0 x1 x2 : DV) (h0 : Hp) : aG :=
 bnd (dB x2 h0) fun v1 h1 =>
 bnd (aK 6 v1 h1) fun v2 h2 =>
 bnd (r 158 [x0, x1, v2] h2) fun v3 h3 =>
 bnd (aC 0 v3 h3) fun v4 h4 =>
 bnd (aC 1 v3 h4) fun v5 h5 =>
 bnd (aD .neq v5 (aO 0) h5) fun v6 h6 =>
 aX v6 (
 some (.t [(aO 0), v5], h6)) (
 bnd (r 204 [x0, v4, (aO 0)] h6) fun v7 h7 =>
 bnd (r 207 [x0, x1, v7, v4] h7) fun v8 h8 =>
 bnd (aD .neq v8 (aO 0) h8) fun v9 h9 =>
 aX v9 (
 some (.t [(aO 0), v8], h9)) (
 some (.t [v4, (aO 0)], h9)))
noncomputable abbrev c141 : Code := cf Tryz.f141
noncomputable abbrev r141 : K := aQ CF Tryz.f141
noncomputable def D141 (r : RT) (n : Nat) (c : Code) (X : Nat → K) (k : K) : K := aM CF r 32 n c X r141 k
theorem dCp : D141 r n c141 x0 r141 = (K3 (s141 r n) 0 1 2) :=
 (by kernel_rfl)
theorem cWm : aF CF r n 141 args h = s141 r n (aW args 0) (aW args 1) (aW args 2) h :=
 (by kernel_rfl : aF CF r n 141 args h = D141 r n c141 x0 r141 (aI args) h).trans ((congrFun (congrFun (dCp r n) (aI args)) h).trans (by kernel_rfl))
end Go.Dd

namespace Go.Dd
open Go.Proofs
variable (r : RT) (n : Nat) (args : List DV) (h : Hp)
noncomputable def s153 (r : RT) (n : Nat) (x0 x1 : DV) (h0 : Hp) : aG :=
 bnd (cJ zr6 h0) fun v1 h1 =>
 bnd (r 218 [x0] h1) fun v2 h2 =>
 bnd (aC 0 v2 h2) fun v3 h3 =>
 bnd (aC 1 v2 h3) fun v4 h4 =>
 bnd (aC 2 v2 h4) fun v5 h5 =>
 bnd (aD .neq v5 (aO 0) h5) fun v6 h6 =>
 aX v6 (
 bnd (bL zr6 [] h6) fun v7 h7 =>
 bnd (aH 6 v1 v7 h7) fun _ h8 =>
 bnd (aK 6 v1 h8) fun v9 _ =>
 some (.t [v9, v4, v5], h8)) (
 bnd (bL [.l0, (aO 0), (aO 0), (aO 0)] [(0, 1, v3)] h6) fun v10 h10 =>
 bnd (dB v10 h10) fun v11 h11 =>
 bnd (jF CF r x1 [v11] h11) fun v12 h12 =>
 bnd (cJ zr6 h12) fun v13 h13 =>
 bnd (aH 6 v13 v12 h13) fun _ h14 =>
 bnd (r 219 [v11] h14) fun v15 h15 =>
 bnd (aB 4 v13 h15) fun v16 h16 =>
 bnd (aH 1 v16 v15 h16) fun _ h17 =>
 bnd (r 220 [v11] h17) fun v18 h18 =>
 bnd (aB 5 v13 h18) fun v19 h19 =>
 bnd (aH 1 v19 v18 h19) fun _ h20 =>
 bnd (r 221 [v11, (aO 0), (.s [])] h20) fun v21 h21 =>
 bnd (aY v11 h21) fun v22 h22 =>
 bnd (aB 3 v22 h22) fun v23 h23 =>
 bnd (aA v23 h23) fun v24 h24 =>
 bnd (aD .neq v24 (aO 0) h24) fun v25 h25 =>
 aX v25 (
 bnd (bL zr6 [] h25) fun v26 h26 =>
 bnd (aY v11 h26) fun v27 h27 =>
 bnd (aB 2 v27 h27) fun v28 h28 =>
 bnd (aA v28 h28) fun v29 h29 =>
 bnd (aY v11 h29) fun v30 h30 =>
 bnd (aB 3 v30 h30) fun v31 h31 =>
 bnd (aA v31 h31) fun v32 h32 =>
 bnd (aH 6 v1 v26 h32) fun v33 h33 =>
 cnd (bI (aA v31 h33) v32 && (bI (aA v28 h33) v29 && true)) (
 bnd (aK 6 v1 h33) fun v34 _ =>
 some (.t [v34, v29, v32], h33))) (
 bnd (aK 6 v13 h25) fun v35 h35 =>
 bnd (aH 6 v1 v35 h35) fun _ h36 =>
 bnd (aK 6 v1 h36) fun v37 _ =>
 some (.t [v37, (aO 0), (aO 0)], h36)))
noncomputable abbrev c153 : Code := cf Tryz.f153
noncomputable abbrev r153 : K := aQ CF Tryz.f153
noncomputable def D153 (r : RT) (n : Nat) (c : Code) (X : Nat → K) (k : K) : K := aM CF r 52 n c X r153 k
theorem dIn : D153 r n c153 x0 r153 = (K2 (s153 r n) 0 1) :=
 (by kernel_rfl)
theorem cXa : aF CF r n 153 args h = s153 r n (aW args 0) (aW args 1) h :=
 (by kernel_rfl : aF CF r n 153 args h = D153 r n c153 x0 r153 (aI args) h).trans ((congrFun (congrFun (dIn r n) (aI args)) h).trans (by kernel_rfl))
noncomputable def s158 (r : RT) (n : Nat) (x0 x1 x2 : DV) (h0 : Hp) : aG :=
 bnd (dB x2 h0) fun v1 h1 =>
 bnd (r 203 [x0, x1] h1) fun v2 h2 =>
 bnd (jK .not v2 h2) fun v3 h3 =>
 aX v3 (
 some (.t [(aO 0), (aO 24)], h3)) (
 bnd (aK 6 v1 h3) fun v4 h4 =>
 bnd (r 217 [x0, x1] h4) fun v5 h5 =>
 cnd (bI (aK 6 v1 h5) v4 && true) (
 bnd (r 224 [v4, v5] h5) fun v6 h6 =>
 bnd (aD .neq v6 (aO 0) h6) fun v7 h7 =>
 aX v7 (
 some (.t [(aO 0), v6], h7)) (
 bnd (aB 0 v1 h7) fun v8 h8 =>
 bnd (aA v8 h8) fun v9 h9 =>
 bnd (r 81 [x0, v9] h9) fun v10 h10 =>
 bnd (aC 0 v10 h10) fun v11 h11 =>
 bnd (aC 1 v10 h11) fun v12 h12 =>
 bnd (aD .neq v12 (aO 0) h12) fun v13 h13 =>
 aX v13 (
 some (.t [(aO 0), v12], h13)) (
 bnd (aB 4 v1 h13) fun v14 h14 =>
 bnd (aA v14 h14) fun v15 h15 =>
 bnd (bL [(aO 0), (.s []), (aO 0), .l0] [(0, 1, (aO 4)), (3, 1, v15)] h15) fun v16 h16 =>
 bnd (r 225 [x0, v16] h16) fun v17 h17 =>
 bnd (aC 0 v17 h17) fun v18 h18 =>
 bnd (aC 1 v17 h18) fun v19 h19 =>
 bnd (aD .neq v19 (aO 0) h19) fun v20 h20 =>
 aX v20 (
 some (.t [(aO 0), v19], h20)) (
 bnd (aB 5 v1 h20) fun v21 h21 =>
 bnd (aA v21 h21) fun v22 h22 =>
 bnd (r 226 [v22] h22) fun v23 h23 =>
 bnd (aC 0 v23 h23) fun v24 h24 =>
 bnd (aC 1 v23 h24) fun v25 h25 =>
 bnd (r 227 [x0, v24] h25) fun v26 h26 =>
 bnd (aC 0 v26 h26) fun v27 h27 =>
 bnd (aC 1 v26 h27) fun v28 h28 =>
 bnd (aD .neq v28 (aO 0) h28) fun v29 h29 =>
 aX v29 (
 some (.t [(aO 0), v28], h29)) (
 bnd (r 79 [x0, (aO 14)] (resv 1 h29)) fun v30 h30 =>
 bnd (aB 1 v1 h30) fun v31 h31 =>
 bnd (aA v31 h31) fun v32 h32 =>
 cnd (bI (aA v31 (resv 1 h29)) v32 && true) (
 bnd (r 83 [v32] h32) fun v33 h33 =>
 bnd (aB 2 v1 h33) fun v34 h34 =>
 bnd (aA v34 h34) fun v35 h35 =>
 cnd (bI (aA v34 h30) v35 && (bI (aA v34 (resv 1 h29)) v35 && true)) (
 bnd (r 83 [v35] h35) fun v36 h36 =>
 bnd (aB 3 v1 h36) fun v37 h37 =>
 bnd (aA v37 h37) fun v38 h38 =>
 cnd (bI (aA v37 h33) v38 && (bI (aA v37 h30) v38 && (bI (aA v37 (resv 1 h29)) v38 && true))) (
 bnd (r 83 [v38] h38) fun v39 h39 =>
 bnd (cG (cK 0 h29.next) [(aO 0), (aO 0), (aO 0), (aO 0), (aO 0), (aO 0), (aO 0)] 7 [(0, 1, v11), (1, 1, v33), (2, 1, v36), (3, 1, v39), (4, 1, v18), (5, 1, v27), (6, 1, x1)] h39) fun v40 h40 =>
 bnd (r 133 [x0, v30, (aO 0), v40] h40) fun v41 h41 =>
 bnd (aC 0 v41 h41) fun v42 h42 =>
 bnd (aC 1 v41 h42) fun v43 h43 =>
 some (.t [v42, v43], h43))))))))))
noncomputable abbrev c158 : Code := cf Tryz.f158
noncomputable abbrev r158 : K := aQ CF Tryz.f158
noncomputable def D158 (r : RT) (n : Nat) (c : Code) (X : Nat → K) (k : K) : K := aM CF r 83 n c X r158 k
theorem dJa : D158 r n c158 x0 r158 = (K3 (s158 r n) 0 1 2) :=
 (by kernel_rfl)
theorem cUq : aF CF r n 158 args h = s158 r n (aW args 0) (aW args 1) (aW args 2) h :=
 (by kernel_rfl : aF CF r n 158 args h = D158 r n c158 x0 r158 (aI args) h).trans ((congrFun (congrFun (dJa r n) (aI args)) h).trans (by kernel_rfl))
noncomputable def eU (r : RT) (n : Nat) (h0 : Hp) : aG :=
 some ((.i .i64 (Int.negSucc 0)), h0)
noncomputable def oO (r : RT) (n : Nat) (kk4 : fB) (x0 x1 x7 x8 : DV) (h0 : Hp) : aG :=
 bnd (aD .lss x8 x7 h0) fun v1 h1 =>
 aX v1 (
 bnd (aE 1 x0 x8 h1) fun v2 h2 =>
 bnd (aA v2 h2) fun v3 h3 =>
 bnd (cM .eql x1 v3 h3) fun v4 h4 =>
 aX v4 (
 some (x8, h4)) (
 bnd (aD .add x8 (.i .i64 (Int.ofNat 1)) h4) fun v5 h5 =>
    kk4 x0 x1 x7 v5 h5)) (
      eU r n h1)
noncomputable def mL (r : RT) (n : Nat) (m : Nat) : fB :=
 Nat.rec (motive := fun _ => fB) (fun _ _ _ _ _ => none) (fun _ ih => oO r n ih) m
noncomputable def aTw (r : RT) (n : Nat) : fB := mL r n n
noncomputable def aIb (r : RT) (n : Nat) (x0 x1 x7 x8 : DV) (h0 : Hp) : aG :=
 aTw r n x0 x1 x7 x8 h0
noncomputable def aKj (r : RT) (n : Nat) (x0 x1 : DV) (h0 : Hp) : aG :=
 bnd (cQ x0 h0) fun v1 h1 =>
  aIb r n x0 x1 v1 (.i .i64 (Int.ofNat 0)) h1
noncomputable def s193 (r : RT) (n : Nat) (x0 x1 : DV) (h0 : Hp) : aG :=
 aKj r n x0 x1 h0
noncomputable abbrev c193 : Code := cf Tryz.f193
noncomputable abbrev aDx : Code := cR c193
noncomputable abbrev cVb : Code := cR aDx
noncomputable abbrev aBu : Code := cL aDx
noncomputable abbrev aUv : Code := cR aBu
noncomputable abbrev aGi : Code := cL aUv
noncomputable abbrev pZ : Code := cL aGi
noncomputable abbrev bIb : Code := cL aBu
noncomputable abbrev bWe : Code := cL c193
noncomputable abbrev r193 : K := aQ CF Tryz.f193
noncomputable def D193 (r : RT) (n : Nat) (c : Code) (X : Nat → K) (k : K) : K := aM CF r 19 n c X r193 k
theorem cIv : D193 r n cVb x0 r193 = (K0 (eU r n)) :=
 (by kernel_rfl)
theorem bOp (kk4 : fB) : D193 r n pZ (xs x0 0 (K0 (eU r n))) (K4 kk4 0 1 7 8) = (K4 (oO r n kk4) 0 1 7 8) :=
 (by kernel_rfl)
theorem bQz (m : Nat) : aL (fun kk => D193 r n pZ (xs x0 0 (K0 (eU r n))) kk) m = (K4 (mL r n m) 0 1 7 8) := by
 induction m with
 | zero => exact (by kernel_rfl : aL (fun kk => D193 r n pZ (xs x0 0 (K0 (eU r n))) kk) 0 = (K4 (mL r n 0) 0 1 7 8))
 | succ m ih =>
  refine (by kernel_rfl : aL (fun kk => D193 r n pZ (xs x0 0 (K0 (eU r n))) kk) (m + 1) = D193 r n pZ (xs x0 0 (K0 (eU r n))) (aL (fun kk => D193 r n pZ (xs x0 0 (K0 (eU r n))) kk) m)).trans ?_
  rw [ih]
  exact (bOp r n (mL r n m)).trans (by kernel_rfl)
theorem cHm : D193 r n aGi (xs x0 0 (K0 (eU r n))) (K0 (eU r n)) = (K4 (aTw r n) 0 1 7 8) :=
 (by kernel_rfl : D193 r n aGi (xs x0 0 (K0 (eU r n))) (K0 (eU r n)) = aL (fun kk => D193 r n pZ (xs x0 0 (K0 (eU r n))) kk) n).trans ((bQz r n n).trans (by kernel_rfl))
theorem cLm : D193 r n aUv x0 (K0 (eU r n)) = (K4 (aIb r n) 0 1 7 8) :=
 (by kernel_rfl : D193 r n aUv x0 (K0 (eU r n)) = D193 r n aGi (xs x0 0 (K0 (eU r n))) (K0 (eU r n))).trans
 ((cHm r n).trans (by kernel_rfl))
theorem bOy : D193 r n aDx x0 r193 = D193 r n aBu x0 (K0 (eU r n)) :=
 congrArg (fun k => D193 r n aBu x0 k) (cIv r n)
theorem bTz : D193 r n aBu x0 (K0 (eU r n)) = D193 r n bIb x0 (K4 (aIb r n) 0 1 7 8) :=
 congrArg (fun k => D193 r n bIb x0 k) (cLm r n)
theorem cIz : D193 r n aDx x0 r193 = (K2 (aKj r n) 0 1) :=
 (bOy r n).trans
 ((bTz r n).trans
 ((by kernel_rfl)))
theorem cUr : D193 r n c193 x0 r193 = D193 r n bWe x0 (K2 (aKj r n) 0 1) :=
 congrArg (fun k => D193 r n bWe x0 k) (cIz r n)
theorem dFe : D193 r n c193 x0 r193 = (K2 (s193 r n) 0 1) :=
 (cUr r n).trans
 ((by kernel_rfl))
theorem bQx : aF CF r n 193 args h = s193 r n (aW args 0) (aW args 1) h :=
 (by kernel_rfl : aF CF r n 193 args h = D193 r n c193 x0 r193 (aI args) h).trans ((congrFun (congrFun (dFe r n) (aI args)) h).trans (by kernel_rfl))
noncomputable def s203 (r : RT) (n : Nat) (x0 x1 : DV) (h0 : Hp) : aG :=
 bnd (aY x0 h0) fun v1 h1 =>
 bnd (aB 0 v1 h1) fun v2 h2 =>
 bnd (aA v2 h2) fun v3 h3 =>
 bnd (isF [v3, x1] h3) fun v4 h4 =>
 bnd (gD v4 true (some (x0, h4)) h4) fun v5 h5 =>
 bnd (gD v4 true (aY v5 h5) h5) fun v6 h6 =>
 bnd (gD v4 true (aB 0 v6 h6) h6) fun v7 h7 =>
 bnd (gD v4 true (aA v7 h7) h7) fun v8 h8 =>
 bnd (gD v4 true (some (x1, h8)) h8) fun v9 h9 =>
 bnd (gD v4 true (tS [v8, v9] h9) h9) fun v10 h10 =>
 bnd (gD v4 true (some (x0, h10)) h10) fun v11 h11 =>
 bnd (gD v4 true (r 79 [v11, (aO 1)] h11) h11) fun v12 h12 =>
 bnd (gD v4 true (aD .eql v10 v12 h12) h12) fun v13 h13 =>
 bnd (aP v4 v13 (.b false) h13) fun v14 h14 =>
 bnd (gD v14 true (some (x0, h14)) h14) fun v15 h15 =>
 bnd (gD v14 true (aY v15 h15) h15) fun v16 h16 =>
 bnd (gD v14 true (aB 0 v16 h16) h16) fun v17 h17 =>
 bnd (gD v14 true (aA v17 h17) h17) fun v18 h18 =>
 bnd (gD v14 true (some (x1, h18)) h18) fun v19 h19 =>
 bnd (gD v14 true (rQ [v18, v19] h19) h19) fun v20 h20 =>
 bnd (gD v14 true (aD .eql v20 (aO 6) h20) h20) fun v21 h21 =>
 bnd (aP v14 v21 (.b false) h21) fun v22 h22 =>
 some (v22, h22)
noncomputable abbrev c203 : Code := cf Tryz.f203
noncomputable abbrev r203 : K := aQ CF Tryz.f203
noncomputable def D203 (r : RT) (n : Nat) (c : Code) (X : Nat → K) (k : K) : K := aM CF r 31 n c X r203 k
theorem dHo : D203 r n c203 x0 r203 = (K2 (s203 r n) 0 1) :=
 (by kernel_rfl)
theorem cTr : aF CF r n 203 args h = s203 r n (aW args 0) (aW args 1) h :=
 (by kernel_rfl : aF CF r n 203 args h = D203 r n c203 x0 r203 (aI args) h).trans ((congrFun (congrFun (dHo r n) (aI args)) h).trans (by kernel_rfl))
noncomputable def s204 (r : RT) (n : Nat) (x0 x1 x2 : DV) (h0 : Hp) : aG :=
 bnd (aY x0 h0) fun v1 h1 =>
 bnd (aB 0 v1 h1) fun v2 h2 =>
 bnd (aA v2 h2) fun v3 h3 =>
 bnd (bLw [v3, x1, x2] h3) fun v4 h4 =>
 bnd (aC 0 v4 h4) fun v5 h5 =>
 bnd (aC 1 v4 h5) fun v6 h6 =>
 some (v5, h6)
noncomputable abbrev c204 : Code := cf Tryz.f204
noncomputable abbrev r204 : K := aQ CF Tryz.f204
noncomputable def D204 (r : RT) (n : Nat) (c : Code) (X : Nat → K) (k : K) : K := aM CF r 20 n c X r204 k
theorem dDx : D204 r n c204 x0 r204 = (K3 (s204 r n) 0 1 2) :=
 (by kernel_rfl)
theorem cVf : aF CF r n 204 args h = s204 r n (aW args 0) (aW args 1) (aW args 2) h :=
 (by kernel_rfl : aF CF r n 204 args h = D204 r n c204 x0 r204 (aI args) h).trans ((congrFun (congrFun (dDx r n) (aI args)) h).trans (by kernel_rfl))
noncomputable def s206 (r : RT) (n : Nat) (x0 x1 : DV) (h0 : Hp) : aG :=
 bnd (r 203 [x0, x1] h0) fun v1 h1 =>
 bnd (jK .not v1 h1) fun v2 h2 =>
 aX v2 (
 some ((aO 0), h2)) (
 bnd (r 204 [x0, x1, (aO 1)] h2) fun v3 h3 =>
 some (v3, h3))
noncomputable abbrev c206 : Code := cf Tryz.f206
noncomputable abbrev r206 : K := aQ CF Tryz.f206
noncomputable def D206 (r : RT) (n : Nat) (c : Code) (X : Nat → K) (k : K) : K := aM CF r 12 n c X r206 k
theorem dHu : D206 r n c206 x0 r206 = (K2 (s206 r n) 0 1) :=
 (by kernel_rfl)
theorem cRv : aF CF r n 206 args h = s206 r n (aW args 0) (aW args 1) h :=
 (by kernel_rfl : aF CF r n 206 args h = D206 r n c206 x0 r206 (aI args) h).trans ((congrFun (congrFun (dHu r n) (aI args)) h).trans (by kernel_rfl))
noncomputable def fC (r : RT) (n : Nat) (x0 x1 x3 : DV) (h0 : Hp) : aG :=
 bnd (r 204 [x0, x1, (aO 4)] h0) fun v1 h1 =>
 bnd (r 85 [x0, x3, v1] h1) fun v2 h2 =>
 bnd (aC 0 v2 h2) fun v3 h3 =>
 bnd (aC 1 v2 h3) fun v4 h4 =>
 bnd (aD .neq v4 (aO 0) h4) fun v5 h5 =>
 aX v5 (
 some (v4, h5)) (
 bnd (aY x0 h5) fun v6 h6 =>
 bnd (aB 0 v6 h6) fun v7 h7 =>
 bnd (aA v7 h7) fun v8 h8 =>
 bnd (aOb [v8, x1, (aO 4), v3] h8) fun v9 h9 =>
 some (v9, h9))
noncomputable def aYa (r : RT) (n : Nat) (kk5 : gU) (x0 x1 x2 x3 x9 x10 : DV) (h0 : Hp) : aG :=
 bnd (aD .gtr x10 (aO 0) h0) fun v1 h1 =>
 bnd (gD v1 true (some (x0, h1)) h1) fun v2 h2 =>
 bnd (gD v1 true (aY v2 h2) h2) fun v3 h3 =>
 bnd (gD v1 true (aB 0 v3 h3) h3) fun v4 h4 =>
 bnd (gD v1 true (aA v4 h4) h4) fun v5 h5 =>
 bnd (gD v1 true (some (x9, h5)) h5) fun v6 h6 =>
 bnd (gD v1 true (isF [v5, v6] h6) h6) fun v7 h7 =>
 bnd (aP v1 v7 (.b false) h7) fun v8 h8 =>
 aX v8 (
 bnd (r 204 [x0, x9, (aO 0)] h8) fun v9 h9 =>
 bnd (r 204 [x0, v9, (aO 0)] h9) fun v10 h10 =>
 bnd (aD .eql v10 x2 h10) fun v11 h11 =>
 aX v11 (
 bnd (aY x0 h11) fun v12 h12 =>
 bnd (aB 0 v12 h12) fun v13 h13 =>
 bnd (aA v13 h13) fun v14 h14 =>
 bnd (aOb [v14, x9, (aO 0), x3] h14) fun v15 h15 =>
 some (v15, h15)) (
 bnd (r 204 [x0, x9, (aO 1)] h11) fun v16 h16 =>
 bnd (aD .sub x10 (aO 1) h16) fun v17 h17 =>
    kk5 x0 x1 x2 x3 v16 v17 h17)) (
      fC r n x0 x1 x3 h8)
noncomputable def xH (r : RT) (n : Nat) (m : Nat) : gU :=
 Nat.rec (motive := fun _ => gU) (fun _ _ _ _ _ _ _ => none) (fun _ ih => aYa r n ih) m
noncomputable def bSk (r : RT) (n : Nat) : gU := xH r n n
noncomputable def aPc (r : RT) (n : Nat) (x0 x1 x2 x3 x9 x10 : DV) (h0 : Hp) : aG :=
 bSk r n x0 x1 x2 x3 x9 x10 h0
noncomputable def aQi (r : RT) (n : Nat) (x0 x1 x2 x3 x9 : DV) (h0 : Hp) : aG :=
 bnd (aY x0 h0) fun v1 h1 =>
 bnd (aB 0 v1 h1) fun v2 h2 =>
 bnd (aA v2 h2) fun v3 h3 =>
 bnd (aNz [v3] h3) fun v4 h4 =>
  aPc r n x0 x1 x2 x3 x9 v4 h4
noncomputable def aQf (r : RT) (n : Nat) (x0 x1 x2 x3 : DV) (h0 : Hp) : aG :=
 bnd (r 204 [x0, x1, (aO 4)] h0) fun v1 h1 =>
  aQi r n x0 x1 x2 x3 v1 h1
noncomputable def s207 (r : RT) (n : Nat) (x0 x1 x2 x3 : DV) (h0 : Hp) : aG :=
 aQf r n x0 x1 x2 x3 h0
noncomputable abbrev c207 : Code := cf Tryz.f207
noncomputable abbrev aJm : Code := cR c207
noncomputable abbrev aJw : Code := cR aJm
noncomputable abbrev dAe : Code := cR aJw
noncomputable abbrev aBf : Code := cL aJw
noncomputable abbrev aSy : Code := cR aBf
noncomputable abbrev aIg : Code := cL aSy
noncomputable abbrev qH : Code := cL aIg
noncomputable abbrev bJj : Code := cL aBf
noncomputable abbrev bXy : Code := cL aJm
noncomputable abbrev aXd : Code := cL c207
noncomputable abbrev r207 : K := aQ CF Tryz.f207
noncomputable def D207 (r : RT) (n : Nat) (c : Code) (X : Nat → K) (k : K) : K := aM CF r 69 n c X r207 k
theorem bZd : D207 r n dAe x0 r207 = (K3 (fC r n) 0 1 3) :=
 (by kernel_rfl)
theorem bOs (kk5 : gU) : D207 r n qH (xs x0 0 (K3 (fC r n) 0 1 3)) (K6 kk5 0 1 2 3 9 10) = (K6 (aYa r n kk5) 0 1 2 3 9 10) :=
 (by kernel_rfl)
theorem bOt (m : Nat) : aL (fun kk => D207 r n qH (xs x0 0 (K3 (fC r n) 0 1 3)) kk) m = (K6 (xH r n m) 0 1 2 3 9 10) := by
 induction m with
 | zero => exact (by kernel_rfl : aL (fun kk => D207 r n qH (xs x0 0 (K3 (fC r n) 0 1 3)) kk) 0 = (K6 (xH r n 0) 0 1 2 3 9 10))
 | succ m ih =>
  refine (by kernel_rfl : aL (fun kk => D207 r n qH (xs x0 0 (K3 (fC r n) 0 1 3)) kk) (m + 1) = D207 r n qH (xs x0 0 (K3 (fC r n) 0 1 3)) (aL (fun kk => D207 r n qH (xs x0 0 (K3 (fC r n) 0 1 3)) kk) m)).trans ?_
  rw [ih]
  exact (bOs r n (xH r n m)).trans (by kernel_rfl)
theorem cLq : D207 r n aIg (xs x0 0 (K3 (fC r n) 0 1 3)) (K3 (fC r n) 0 1 3) = (K6 (bSk r n) 0 1 2 3 9 10) :=
 (by kernel_rfl : D207 r n aIg (xs x0 0 (K3 (fC r n) 0 1 3)) (K3 (fC r n) 0 1 3) = aL (fun kk => D207 r n qH (xs x0 0 (K3 (fC r n) 0 1 3)) kk) n).trans ((bOt r n n).trans (by kernel_rfl))
theorem cLr : D207 r n aSy x0 (K3 (fC r n) 0 1 3) = (K6 (aPc r n) 0 1 2 3 9 10) :=
 (by kernel_rfl : D207 r n aSy x0 (K3 (fC r n) 0 1 3) = D207 r n aIg (xs x0 0 (K3 (fC r n) 0 1 3)) (K3 (fC r n) 0 1 3)).trans
 ((cLq r n).trans (by kernel_rfl))
theorem bLi : D207 r n aJw x0 r207 = D207 r n aBf x0 (K3 (fC r n) 0 1 3) :=
 congrArg (fun k => D207 r n aBf x0 k) (bZd r n)
theorem bLo : D207 r n aBf x0 (K3 (fC r n) 0 1 3) = D207 r n bJj x0 (K6 (aPc r n) 0 1 2 3 9 10) :=
 congrArg (fun k => D207 r n bJj x0 k) (cLr r n)
theorem cIj : D207 r n aJw x0 r207 = (K5 (aQi r n) 0 1 2 3 9) :=
 (bLi r n).trans
 ((bLo r n).trans
 ((by kernel_rfl)))
theorem bTl : D207 r n aJm x0 r207 = D207 r n bXy x0 (K5 (aQi r n) 0 1 2 3 9) :=
 congrArg (fun k => D207 r n bXy x0 k) (cIj r n)
theorem cKr : D207 r n aJm x0 r207 = (K4 (aQf r n) 0 1 2 3) :=
 (bTl r n).trans
 ((by kernel_rfl))
theorem cTw : D207 r n c207 x0 r207 = D207 r n aXd x0 (K4 (aQf r n) 0 1 2 3) :=
 congrArg (fun k => D207 r n aXd x0 k) (cKr r n)
theorem dGx : D207 r n c207 x0 r207 = (K4 (s207 r n) 0 1 2 3) :=
 (cTw r n).trans
 ((by kernel_rfl))
theorem cWe : aF CF r n 207 args h = s207 r n (aW args 0) (aW args 1) (aW args 2) (aW args 3) h :=
 (by kernel_rfl : aF CF r n 207 args h = D207 r n c207 x0 r207 (aI args) h).trans ((congrFun (congrFun (dGx r n) (aI args)) h).trans (by kernel_rfl))
end Go.Dd

namespace Go.Dd
open Go.Proofs
variable (r : RT) (n : Nat) (args : List DV) (h : Hp)
noncomputable def fE (r : RT) (n : Nat) (x0 x6 : DV) (h0 : Hp) : aG :=
 bnd (cO x0 h0) fun v1 h1 =>
 bnd (bL [(aO 0), (.s []), (aO 0), (aO 0)] [(3, 1, v1)] h1) fun v2 h2 =>
 bnd (aN [(aO 0), (.s []), (aO 0), (aO 0)] 1 [(0, 4, v2)] h2) fun v3 h3 =>
 bnd (bK 4 40 x6 v3 h3) fun v4 h4 =>
 some (.t [v4, (aO 0), (aO 0)], h4)
noncomputable def aIc (r : RT) (n : Nat) (kk7 : gE) (x0 x5 x6 : DV) (h0 : Hp) : aG :=
 bnd (r 287 [(.s [9, 10, 13, 32])] h0) fun v1 h1 =>
 bnd (cO x0 h1) fun v2 h2 =>
 bnd (r 286 [x5, v1, v2] h2) fun v3 h3 =>
 bnd (aY x5 h3) fun v4 h4 =>
 bnd (aB 1 v4 h4) fun v5 h5 =>
 bnd (aA v5 h5) fun v6 h6 =>
 bnd (cO x0 h6) fun v7 h7 =>
 bnd (aD .geq v6 v7 h7) fun v8 h8 =>
 aX v8 (
   fE r n x0 x6 h8) (
 bnd (aY x5 h8) fun v9 h9 =>
 bnd (aB 1 v9 h9) fun v10 h10 =>
 bnd (aA v10 h10) fun v11 h11 =>
 bnd (bY x0 v11 h11) fun v12 h12 =>
 bnd (aD .eql v12 (.i .u8 (Int.ofNat 34)) h12) fun v13 h13 =>
 aX v13 (
 bnd (aY x5 h13) fun v14 h14 =>
 bnd (aB 1 v14 h14) fun v15 h15 =>
 bnd (aA v15 h15) fun v16 h16 =>
 bnd (aD .add v16 (aO 1) h16) fun v17 h17 =>
 bnd (cN x0 (some v17) none h17) fun v18 h18 =>
 bnd (r 30 [v18, (.i .u8 (Int.ofNat 34))] h18) fun v19 h19 =>
 bnd (aD .lss v19 (aO 0) h19) fun v20 h20 =>
 aX v20 (
 bnd (aY x5 h20) fun v21 h21 =>
 bnd (aB 1 v21 h21) fun v22 h22 =>
 bnd (aA v22 h22) fun v23 h23 =>
 some (.t [.l0, v23, (aO 11)], h23)) (
 bnd (aY x5 h20) fun v24 h24 =>
 bnd (aB 1 v24 h24) fun v25 h25 =>
 bnd (aA v25 h25) fun v26 h26 =>
 bnd (aD .add v19 (aO 2) h26) fun v27 h27 =>
 bnd (aD .add v26 v27 h27) fun v28 h28 =>
 bnd (aY x5 h28) fun v29 h29 =>
 bnd (aB 1 v29 h29) fun v30 h30 =>
 bnd (aH 1 v30 v28 h30) fun _ h31 =>
     kk7 x0 x5 x6 h31)) (
 bnd (r 288 [x5] h13) fun v32 h32 =>
 bnd (aC 0 v32 h32) fun v33 h33 =>
 bnd (aC 1 v32 h33) fun v34 h34 =>
 bnd (cJ [(aO 0), (.s []), (aO 0), (aO 0)] h34) fun v35 h35 =>
 bnd (aH 4 v35 v33 h35) fun _ h36 =>
 bnd (aD .neq v34 (aO 0) h36) fun v37 h37 =>
 aX v37 (
 bnd (aB 3 v35 h37) fun v38 h38 =>
 bnd (aA v38 h38) fun v39 h39 =>
 some (.t [.l0, v39, v34], h39)) (
 bnd (aK 4 v35 h37) fun v40 h40 =>
 bnd (aN [(aO 0), (.s []), (aO 0), (aO 0)] 1 [(0, 4, v40)] h40) fun v41 h41 =>
 bnd (bK 4 40 x6 v41 h41) fun v42 h42 =>
     kk7 x0 x5 v42 h42)))
noncomputable def wB (r : RT) (n : Nat) (m : Nat) : gE :=
 Nat.rec (motive := fun _ => gE) (fun _ _ _ _ => none) (fun _ ih => aIc r n ih) m
noncomputable def bQs (r : RT) (n : Nat) : gE := wB r n n
noncomputable def aSb (r : RT) (n : Nat) (x0 x5 x6 : DV) (h0 : Hp) : aG :=
 bQs r n x0 x5 x6 h0
noncomputable def aQb (r : RT) (n : Nat) (x0 x5 x6 : DV) (h0 : Hp) : aG :=
 aSb r n x0 x5 x6 h0
noncomputable def aAi (r : RT) (n : Nat) (x0 x5 : DV) (h0 : Hp) : aG :=
 aQb r n x0 x5 .l0 h0
noncomputable def aHs (r : RT) (n : Nat) (x0 : DV) (h0 : Hp) : aG :=
 bnd (bL [(.s []), (aO 0)] [(0, 1, x0)] h0) fun v1 h1 =>
 bnd (dB v1 h1) fun v2 h2 =>
  aAi r n x0 v2 h2
noncomputable def aQs (r : RT) (n : Nat) (x0 : DV) (h0 : Hp) : aG :=
 bnd (cO x0 h0) fun v1 h1 =>
 bnd (aD .gtr v1 (aO 2000) h1) fun v2 h2 =>
 aX v2 (
 some (.t [.l0, (aO 0), (aO 12)], h2)) (
  aHs r n x0 h2)
noncomputable def s218 (r : RT) (n : Nat) (x0 : DV) (h0 : Hp) : aG :=
 aQs r n x0 h0
noncomputable abbrev c218 : Code := cf Tryz.f218
noncomputable abbrev aQw : Code := cR c218
noncomputable abbrev aJz : Code := cL aQw
noncomputable abbrev aHq : Code := cR aJz
noncomputable abbrev aLa : Code := cR aHq
noncomputable abbrev aGg : Code := cR aLa
noncomputable abbrev aIt : Code := cR aGg
noncomputable abbrev cYj : Code := cR aIt
noncomputable abbrev aGf : Code := cL aIt
noncomputable abbrev aGp : Code := cL aGf
noncomputable abbrev lC : Code := cL aGp
noncomputable abbrev aWe : Code := cL aGg
noncomputable abbrev bAa : Code := cL aLa
noncomputable abbrev aIe : Code := cL aHq
noncomputable abbrev bCf : Code := cL aJz
noncomputable abbrev aYp : Code := cL c218
noncomputable abbrev r218 : K := aQ CF Tryz.f218
noncomputable def D218 (r : RT) (n : Nat) (c : Code) (X : Nat → K) (k : K) : K := aM CF r 80 n c X r218 k
theorem cEh : D218 r n cYj x0 r218 = (K2 (fE r n) 0 6) :=
 (by kernel_rfl)
theorem bLs (kk7 : gE) (q0 : TT2) : D218 r n lC (xs x0 0 (K2 q0 0 6)) (K3 kk7 0 5 6) = fun (env : bC) (h : Hp) =>
 bnd (r 287 [(.s [9, 10, 13, 32])] h) fun v1 h1 =>
 bnd (cO (env 0) h1) fun v2 h2 =>
 bnd (r 286 [(env 5), v1, v2] h2) fun v3 h3 =>
 bnd (aY (env 5) h3) fun v4 h4 =>
 bnd (aB 1 v4 h4) fun v5 h5 =>
 bnd (aA v5 h5) fun v6 h6 =>
 bnd (cO (env 0) h6) fun v7 h7 =>
 bnd (aD .geq v6 v7 h7) fun v8 h8 =>
 aX v8 (
   q0 (env 0) (env 6) h8) (
 bnd (aY (env 5) h8) fun v9 h9 =>
 bnd (aB 1 v9 h9) fun v10 h10 =>
 bnd (aA v10 h10) fun v11 h11 =>
 bnd (bY (env 0) v11 h11) fun v12 h12 =>
 bnd (aD .eql v12 (.i .u8 (Int.ofNat 34)) h12) fun v13 h13 =>
 aX v13 (
 bnd (aY (env 5) h13) fun v14 h14 =>
 bnd (aB 1 v14 h14) fun v15 h15 =>
 bnd (aA v15 h15) fun v16 h16 =>
 bnd (aD .add v16 (aO 1) h16) fun v17 h17 =>
 bnd (cN (env 0) (some v17) none h17) fun v18 h18 =>
 bnd (r 30 [v18, (.i .u8 (Int.ofNat 34))] h18) fun v19 h19 =>
 bnd (aD .lss v19 (aO 0) h19) fun v20 h20 =>
 aX v20 (
 bnd (aY (env 5) h20) fun v21 h21 =>
 bnd (aB 1 v21 h21) fun v22 h22 =>
 bnd (aA v22 h22) fun v23 h23 =>
 some (.t [.l0, v23, (aO 11)], h23)) (
 bnd (aY (env 5) h20) fun v24 h24 =>
 bnd (aB 1 v24 h24) fun v25 h25 =>
 bnd (aA v25 h25) fun v26 h26 =>
 bnd (aD .add v19 (aO 2) h26) fun v27 h27 =>
 bnd (aD .add v26 v27 h27) fun v28 h28 =>
 bnd (aY (env 5) h28) fun v29 h29 =>
 bnd (aB 1 v29 h29) fun v30 h30 =>
 bnd (aH 1 v30 v28 h30) fun _ h31 =>
     kk7 (env 0) (env 5) (env 6) h31)) (
 bnd (r 288 [(env 5)] h13) fun v32 h32 =>
 bnd (aC 0 v32 h32) fun v33 h33 =>
 bnd (aC 1 v32 h33) fun v34 h34 =>
 bnd (cJ [(aO 0), (.s []), (aO 0), (aO 0)] h34) fun v35 h35 =>
 bnd (aH 4 v35 v33 h35) fun _ h36 =>
 bnd (aD .neq v34 (aO 0) h36) fun v37 h37 =>
 aX v37 (
 bnd (aB 3 v35 h37) fun v38 h38 =>
 bnd (aA v38 h38) fun v39 h39 =>
 some (.t [.l0, v39, v34], h39)) (
 bnd (aK 4 v35 h37) fun v40 h40 =>
 bnd (aN [(aO 0), (.s []), (aO 0), (aO 0)] 1 [(0, 4, v40)] h40) fun v41 h41 =>
 bnd (bK 4 40 (env 6) v41 h41) fun v42 h42 =>
     kk7 (env 0) (env 5) v42 h42))) := by kernel_rfl
theorem bFp (kk7 : gE) : (fun (env : bC) (h : Hp) =>
 bnd (r 287 [(.s [9, 10, 13, 32])] h) fun v1 h1 =>
 bnd (cO (env 0) h1) fun v2 h2 =>
 bnd (r 286 [(env 5), v1, v2] h2) fun v3 h3 =>
 bnd (aY (env 5) h3) fun v4 h4 =>
 bnd (aB 1 v4 h4) fun v5 h5 =>
 bnd (aA v5 h5) fun v6 h6 =>
 bnd (cO (env 0) h6) fun v7 h7 =>
 bnd (aD .geq v6 v7 h7) fun v8 h8 =>
 aX v8 (
   fE r n (env 0) (env 6) h8) (
 bnd (aY (env 5) h8) fun v9 h9 =>
 bnd (aB 1 v9 h9) fun v10 h10 =>
 bnd (aA v10 h10) fun v11 h11 =>
 bnd (bY (env 0) v11 h11) fun v12 h12 =>
 bnd (aD .eql v12 (.i .u8 (Int.ofNat 34)) h12) fun v13 h13 =>
 aX v13 (
 bnd (aY (env 5) h13) fun v14 h14 =>
 bnd (aB 1 v14 h14) fun v15 h15 =>
 bnd (aA v15 h15) fun v16 h16 =>
 bnd (aD .add v16 (aO 1) h16) fun v17 h17 =>
 bnd (cN (env 0) (some v17) none h17) fun v18 h18 =>
 bnd (r 30 [v18, (.i .u8 (Int.ofNat 34))] h18) fun v19 h19 =>
 bnd (aD .lss v19 (aO 0) h19) fun v20 h20 =>
 aX v20 (
 bnd (aY (env 5) h20) fun v21 h21 =>
 bnd (aB 1 v21 h21) fun v22 h22 =>
 bnd (aA v22 h22) fun v23 h23 =>
 some (.t [.l0, v23, (aO 11)], h23)) (
 bnd (aY (env 5) h20) fun v24 h24 =>
 bnd (aB 1 v24 h24) fun v25 h25 =>
 bnd (aA v25 h25) fun v26 h26 =>
 bnd (aD .add v19 (aO 2) h26) fun v27 h27 =>
 bnd (aD .add v26 v27 h27) fun v28 h28 =>
 bnd (aY (env 5) h28) fun v29 h29 =>
 bnd (aB 1 v29 h29) fun v30 h30 =>
 bnd (aH 1 v30 v28 h30) fun _ h31 =>
     kk7 (env 0) (env 5) (env 6) h31)) (
 bnd (r 288 [(env 5)] h13) fun v32 h32 =>
 bnd (aC 0 v32 h32) fun v33 h33 =>
 bnd (aC 1 v32 h33) fun v34 h34 =>
 bnd (cJ [(aO 0), (.s []), (aO 0), (aO 0)] h34) fun v35 h35 =>
 bnd (aH 4 v35 v33 h35) fun _ h36 =>
 bnd (aD .neq v34 (aO 0) h36) fun v37 h37 =>
 aX v37 (
 bnd (aB 3 v35 h37) fun v38 h38 =>
 bnd (aA v38 h38) fun v39 h39 =>
 some (.t [.l0, v39, v34], h39)) (
 bnd (aK 4 v35 h37) fun v40 h40 =>
 bnd (aN [(aO 0), (.s []), (aO 0), (aO 0)] 1 [(0, 4, v40)] h40) fun v41 h41 =>
 bnd (bK 4 40 (env 6) v41 h41) fun v42 h42 =>
     kk7 (env 0) (env 5) v42 h42)))) = (K3 (aIc r n kk7) 0 5 6) := by kernel_rfl
theorem bUa (kk7 : gE) : D218 r n lC (xs x0 0 (K2 (fE r n) 0 6)) (K3 kk7 0 5 6) = (K3 (aIc r n kk7) 0 5 6) :=
 (bLs r n kk7 (fE r n)).trans (bFp r n kk7)
theorem bSh (m : Nat) : aL (fun kk => D218 r n lC (xs x0 0 (K2 (fE r n) 0 6)) kk) m = (K3 (wB r n m) 0 5 6) := by
 induction m with
 | zero => exact (by kernel_rfl : aL (fun kk => D218 r n lC (xs x0 0 (K2 (fE r n) 0 6)) kk) 0 = (K3 (wB r n 0) 0 5 6))
 | succ m ih =>
  refine (by kernel_rfl : aL (fun kk => D218 r n lC (xs x0 0 (K2 (fE r n) 0 6)) kk) (m + 1) = D218 r n lC (xs x0 0 (K2 (fE r n) 0 6)) (aL (fun kk => D218 r n lC (xs x0 0 (K2 (fE r n) 0 6)) kk) m)).trans ?_
  rw [ih]
  exact (bUa r n (wB r n m)).trans (by kernel_rfl)
theorem cAu : D218 r n aGp (xs x0 0 (K2 (fE r n) 0 6)) (K2 (fE r n) 0 6) = (K3 (bQs r n) 0 5 6) :=
 (by kernel_rfl : D218 r n aGp (xs x0 0 (K2 (fE r n) 0 6)) (K2 (fE r n) 0 6) = aL (fun kk => D218 r n lC (xs x0 0 (K2 (fE r n) 0 6)) kk) n).trans ((bSh r n n).trans (by kernel_rfl))
theorem bRn : D218 r n aIt x0 r218 = D218 r n aGf x0 (K2 (fE r n) 0 6) :=
 congrArg (fun k => D218 r n aGf x0 k) (cEh r n)
theorem cDd : D218 r n aIt x0 r218 = (K3 (aSb r n) 0 5 6) :=
 (bRn r n).trans
 ((by kernel_rfl : D218 r n aGf x0 (K2 (fE r n) 0 6) = D218 r n aGp (xs x0 0 (K2 (fE r n) 0 6)) (K2 (fE r n) 0 6)).trans
 ((cAu r n).trans (by kernel_rfl)))
theorem bTb : D218 r n aGg x0 r218 = D218 r n aWe x0 (K3 (aSb r n) 0 5 6) :=
 congrArg (fun k => D218 r n aWe x0 k) (cDd r n)
theorem cId : D218 r n aGg x0 r218 = (K3 (aQb r n) 0 5 6) :=
 (bTb r n).trans
 ((by kernel_rfl))
theorem bWy : D218 r n aLa x0 r218 = D218 r n bAa x0 (K3 (aQb r n) 0 5 6) :=
 congrArg (fun k => D218 r n bAa x0 k) (cId r n)
theorem cBq : D218 r n aLa x0 r218 = (K2 (aAi r n) 0 5) :=
 (bWy r n).trans
 ((by kernel_rfl))
theorem bXe : D218 r n aHq x0 r218 = D218 r n aIe x0 (K2 (aAi r n) 0 5) :=
 congrArg (fun k => D218 r n aIe x0 k) (cBq r n)
theorem bWo (q0 : TT2) : D218 r n aIe x0 (K2 q0 0 5) = fun (env : bC) (h : Hp) =>
 bnd (bL [(.s []), (aO 0)] [(0, 1, (env 0))] h) fun v1 h1 =>
 bnd (dB v1 h1) fun v2 h2 =>
  q0 (env 0) v2 h2 := by kernel_rfl
theorem bDa : (fun (env : bC) (h : Hp) =>
 bnd (bL [(.s []), (aO 0)] [(0, 1, (env 0))] h) fun v1 h1 =>
 bnd (dB v1 h1) fun v2 h2 =>
  aAi r n (env 0) v2 h2) = (K1 (aHs r n) 0) := by kernel_rfl
theorem cBp : D218 r n aHq x0 r218 = (K1 (aHs r n) 0) :=
 (bXe r n).trans
 ((bWo r n (aAi r n)).trans (bDa r n))
theorem bRy : D218 r n aJz x0 r218 = D218 r n bCf x0 (K1 (aHs r n) 0) :=
 congrArg (fun k => D218 r n bCf x0 k) (cBp r n)
theorem cIo : D218 r n aQw x0 r218 = (K1 (aQs r n) 0) :=
 (by kernel_rfl : D218 r n aQw x0 r218 = D218 r n aJz x0 r218).trans
 ((bRy r n).trans
 ((by kernel_rfl)))
theorem cZl : D218 r n c218 x0 r218 = D218 r n aYp x0 (K1 (aQs r n) 0) :=
 congrArg (fun k => D218 r n aYp x0 k) (cIo r n)
theorem dFk : D218 r n c218 x0 r218 = (K1 (s218 r n) 0) :=
 (cZl r n).trans
 ((by kernel_rfl))
theorem cSc : aF CF r n 218 args h = s218 r n (aW args 0) h :=
 (by kernel_rfl : aF CF r n 218 args h = D218 r n c218 x0 r218 (aI args) h).trans ((congrFun (congrFun (dFk r n) (aI args)) h).trans (by kernel_rfl))
noncomputable def s221 (r : RT) (n : Nat) (x0 x1 x2 : DV) (h0 : Hp) : aG :=
 bnd (cJ [(aO 0), (.s []), (aO 0), (aO 0)] h0) fun v1 h1 =>
 bnd (r 289 [x0, x1, x2] h1) fun v2 h2 =>
 bnd (jK .not v2 h2) fun v3 h3 =>
 aX v3 (
 bnd (r 293 [x0, (aO 0)] h3) fun v4 h4 =>
 bnd (r 292 [x0, v4, (aO 13)] h4) fun v5 h5 =>
 bnd (bL [(aO 0), (.s []), (aO 0), (aO 0)] [] h5) fun v6 h6 =>
 bnd (aH 4 v1 v6 h6) fun _ h7 =>
 bnd (aK 4 v1 h7) fun v8 _ =>
 some (v8, h7)) (
 bnd (r 290 [x0] h3) fun v9 h9 =>
 bnd (aH 4 v1 v9 h9) fun _ h10 =>
 bnd (aK 4 v1 h10) fun v11 _ =>
 some (v11, h10))
noncomputable abbrev c221 : Code := cf Tryz.f221
noncomputable abbrev r221 : K := aQ CF Tryz.f221
noncomputable def D221 (r : RT) (n : Nat) (c : Code) (X : Nat → K) (k : K) : K := aM CF r 19 n c X r221 k
theorem dCi : D221 r n c221 x0 r221 = (K3 (s221 r n) 0 1 2) :=
 (by kernel_rfl)
theorem cVx : aF CF r n 221 args h = s221 r n (aW args 0) (aW args 1) (aW args 2) h :=
 (by kernel_rfl : aF CF r n 221 args h = D221 r n c221 x0 r221 (aI args) h).trans ((congrFun (congrFun (dCi r n) (aI args)) h).trans (by kernel_rfl))
noncomputable def s223 (r : RT) (n : Nat) (x0 : DV) (h0 : Hp) : aG :=
 bnd (dB x0 h0) fun v1 h1 =>
 bnd (aB 0 v1 h1) fun v2 h2 =>
 bnd (aA v2 h2) fun v3 h3 =>
 bnd (r 297 [v3] h3) fun v4 h4 =>
 bnd (aC 0 v4 h4) fun v5 h5 =>
 bnd (aC 1 v4 h5) fun v6 h6 =>
 bnd (aB 0 v1 h6) fun v7 h7 =>
 bnd (aA v7 h7) fun v8 h8 =>
 bnd (aD .geq v8 (aO 1) h8) fun v9 h9 =>
 bnd (gD v9 true (aB 0 v1 h9) h9) fun v10 h10 =>
 bnd (gD v9 true (aA v10 h10) h10) fun v11 h11 =>
 bnd (gD v9 true (aD .leq v11 (aO 20) h11) h11) fun v12 h12 =>
 bnd (aP v9 v12 (.b false) h12) fun v13 h13 =>
 bnd (gD v13 true (aB 1 v1 h13) h13) fun v14 h14 =>
 bnd (gD v13 true (aA v14 h14) h14) fun v15 h15 =>
 bnd (gD v13 true (some (v5, h15)) h15) fun v16 h16 =>
 bnd (gD v13 true (r 298 [v15, v16] h16) h16) fun v17 h17 =>
 bnd (aP v13 v17 (.b false) h17) fun v18 h18 =>
 bnd (gD v18 true (aB 2 v1 h18) h18) fun v19 h19 =>
 bnd (gD v18 true (aA v19 h19) h19) fun v20 h20 =>
 bnd (gD v18 true (some (v6, h20)) h20) fun v21 h21 =>
 bnd (gD v18 true (r 298 [v20, v21] h21) h21) fun v22 h22 =>
 bnd (aP v18 v22 (.b false) h22) fun v23 h23 =>
 some (v23, h23)
noncomputable abbrev c223 : Code := cf Tryz.f223
noncomputable abbrev r223 : K := aQ CF Tryz.f223
noncomputable def D223 (r : RT) (n : Nat) (c : Code) (X : Nat → K) (k : K) : K := aM CF r 31 n c X r223 k
theorem dDv : D223 r n c223 x0 r223 = (K1 (s223 r n) 0) :=
 (by kernel_rfl)
theorem cZs : aF CF r n 223 args h = s223 r n (aW args 0) h :=
 (by kernel_rfl : aF CF r n 223 args h = D223 r n c223 x0 r223 (aI args) h).trans ((congrFun (congrFun (dDv r n) (aI args)) h).trans (by kernel_rfl))
noncomputable def s224 (r : RT) (n : Nat) (x0 x1 : DV) (h0 : Hp) : aG :=
 bnd (dB x0 h0) fun v1 h1 =>
 bnd (aK 6 v1 h1) fun v2 h2 =>
 bnd (r 299 [v2, x1] h2) fun v3 h3 =>
 bnd (aC 0 v3 h3) fun v4 h4 =>
 bnd (aC 1 v3 h4) fun v5 h5 =>
 some (v5, h5)
noncomputable abbrev c224 : Code := cf Tryz.f224
noncomputable abbrev r224 : K := aQ CF Tryz.f224
noncomputable def D224 (r : RT) (n : Nat) (c : Code) (X : Nat → K) (k : K) : K := aM CF r 14 n c X r224 k
theorem dEr : D224 r n c224 x0 r224 = (K2 (s224 r n) 0 1) :=
 (by kernel_rfl)
theorem cXs : aF CF r n 224 args h = s224 r n (aW args 0) (aW args 1) h :=
 (by kernel_rfl : aF CF r n 224 args h = D224 r n c224 x0 r224 (aI args) h).trans ((congrFun (congrFun (dEr r n) (aI args)) h).trans (by kernel_rfl))
end Go.Dd

namespace Go.Dd
open Go.Proofs
variable (r : RT) (n : Nat) (args : List DV) (h : Hp)
noncomputable def eL (r : RT) (n : Nat) (x4 : DV) (h0 : Hp) : aG :=
 some (.t [x4, (aO 0)], h0)
noncomputable def aKw (r : RT) (n : Nat) (kk6 : fB) (x4 x10 x11 x12 : DV) (h0 : Hp) : aG :=
 bnd (aD .lss x12 x11 h0) fun v1 h1 =>
 aX v1 (
 bnd (aE 3 x10 x12 h1) fun v2 h2 =>
 bnd (aK 3 v2 h2) fun v3 h3 =>
 bnd (cJ [(aO 0), (aO 0), (aO 0)] h3) fun v4 h4 =>
 bnd (aH 3 v4 v3 h4) fun _ h5 =>
 bnd (aK 3 v4 h5) fun v6 h6 =>
 bnd (r 223 [v6] h6) fun v7 h7 =>
 bnd (jK .not v7 h7) fun v8 h8 =>
 aX v8 (
 some (.t [.l0, (aO 19)], h8)) (
 bnd (aB 0 v4 h8) fun v9 h9 =>
 bnd (aA v9 h9) fun v10 h10 =>
 bnd (dR .u8 v10 h10) fun v11 h11 =>
 bnd (aB 1 v4 h11) fun v12 h12 =>
 bnd (aA v12 h12) fun v13 h13 =>
 bnd (dR .u8 v13 h13) fun v14 h14 =>
 bnd (aB 2 v4 h14) fun v15 h15 =>
 bnd (aA v15 h15) fun v16 h16 =>
 bnd (dR .u8 v16 h16) fun v17 h17 =>
 bnd (aN [(.i .u8 (Int.ofNat 0)), (.i .u8 (Int.ofNat 0)), (.i .u8 (Int.ofNat 0))] 3 [(0, 1, v11), (1, 1, v14), (2, 1, v17)] h17) fun v18 h18 =>
 bnd (bK 1 1 x4 v18 h18) fun v19 h19 =>
 bnd (aD .add x12 (aO 1) h19) fun v20 h20 =>
    kk6 v19 x10 x11 v20 h20)) (
      eL r n x4 h1)
noncomputable def xA (r : RT) (n : Nat) (m : Nat) : fB :=
 Nat.rec (motive := fun _ => fB) (fun _ _ _ _ _ => none) (fun _ ih => aKw r n ih) m
noncomputable def bQu (r : RT) (n : Nat) : fB := xA r n n
noncomputable def aUe (r : RT) (n : Nat) (x4 x10 x11 x12 : DV) (h0 : Hp) : aG :=
 bQu r n x4 x10 x11 x12 h0
noncomputable def aPk (r : RT) (n : Nat) (x0 x4 : DV) (h0 : Hp) : aG :=
 bnd (cQ x0 h0) fun v1 h1 =>
  aUe r n x4 x0 v1 (aO 0) h1
noncomputable def aQq (r : RT) (n : Nat) (x0 : DV) (h0 : Hp) : aG :=
 aPk r n x0 .l0 h0
noncomputable def aRq (r : RT) (n : Nat) (x0 : DV) (h0 : Hp) : aG :=
 bnd (cQ x0 h0) fun v1 h1 =>
 bnd (aD .gtr v1 (aO 400) h1) fun v2 h2 =>
 aX v2 (
 some (.t [.l0, (aO 19)], h2)) (
  aQq r n x0 h2)
noncomputable def s226 (r : RT) (n : Nat) (x0 : DV) (h0 : Hp) : aG :=
 aRq r n x0 h0
noncomputable abbrev c226 : Code := cf Tryz.f226
noncomputable abbrev aEs : Code := cR c226
noncomputable abbrev aHt : Code := cR aEs
noncomputable abbrev aFp : Code := cR aHt
noncomputable abbrev cXn : Code := cR aFp
noncomputable abbrev aAv : Code := cL aFp
noncomputable abbrev aTh : Code := cR aAv
noncomputable abbrev aHm : Code := cL aTh
noncomputable abbrev nF : Code := cL aHm
noncomputable abbrev bOd : Code := cL aAv
noncomputable abbrev bBg : Code := cL aHt
noncomputable abbrev bBi : Code := cL aEs
noncomputable abbrev aVg : Code := cL c226
noncomputable abbrev r226 : K := aQ CF Tryz.f226
noncomputable def D226 (r : RT) (n : Nat) (c : Code) (X : Nat → K) (k : K) : K := aM CF r 33 n c X r226 k
theorem bZn : D226 r n cXn x0 r226 = (K1 (eL r n) 4) :=
 (by kernel_rfl)
theorem bPq (kk6 : fB) (q0 : TT1) : D226 r n nF (xs x0 0 (K1 q0 4)) (K4 kk6 4 10 11 12) = fun (env : bC) (h : Hp) =>
 bnd (aD .lss (env 12) (env 11) h) fun v1 h1 =>
 aX v1 (
 bnd (aE 3 (env 10) (env 12) h1) fun v2 h2 =>
 bnd (aK 3 v2 h2) fun v3 h3 =>
 bnd (cJ [(aO 0), (aO 0), (aO 0)] h3) fun v4 h4 =>
 bnd (aH 3 v4 v3 h4) fun _ h5 =>
 bnd (aK 3 v4 h5) fun v6 h6 =>
 bnd (r 223 [v6] h6) fun v7 h7 =>
 bnd (jK .not v7 h7) fun v8 h8 =>
 aX v8 (
 some (.t [.l0, (aO 19)], h8)) (
 bnd (aB 0 v4 h8) fun v9 h9 =>
 bnd (aA v9 h9) fun v10 h10 =>
 bnd (dR .u8 v10 h10) fun v11 h11 =>
 bnd (aB 1 v4 h11) fun v12 h12 =>
 bnd (aA v12 h12) fun v13 h13 =>
 bnd (dR .u8 v13 h13) fun v14 h14 =>
 bnd (aB 2 v4 h14) fun v15 h15 =>
 bnd (aA v15 h15) fun v16 h16 =>
 bnd (dR .u8 v16 h16) fun v17 h17 =>
 bnd (aN [(.i .u8 (Int.ofNat 0)), (.i .u8 (Int.ofNat 0)), (.i .u8 (Int.ofNat 0))] 3 [(0, 1, v11), (1, 1, v14), (2, 1, v17)] h17) fun v18 h18 =>
 bnd (bK 1 1 (env 4) v18 h18) fun v19 h19 =>
 bnd (aD .add (env 12) (aO 1) h19) fun v20 h20 =>
    kk6 v19 (env 10) (env 11) v20 h20)) (
      q0 (env 4) h1) := by kernel_rfl
theorem bEn (kk6 : fB) : (fun (env : bC) (h : Hp) =>
 bnd (aD .lss (env 12) (env 11) h) fun v1 h1 =>
 aX v1 (
 bnd (aE 3 (env 10) (env 12) h1) fun v2 h2 =>
 bnd (aK 3 v2 h2) fun v3 h3 =>
 bnd (cJ [(aO 0), (aO 0), (aO 0)] h3) fun v4 h4 =>
 bnd (aH 3 v4 v3 h4) fun _ h5 =>
 bnd (aK 3 v4 h5) fun v6 h6 =>
 bnd (r 223 [v6] h6) fun v7 h7 =>
 bnd (jK .not v7 h7) fun v8 h8 =>
 aX v8 (
 some (.t [.l0, (aO 19)], h8)) (
 bnd (aB 0 v4 h8) fun v9 h9 =>
 bnd (aA v9 h9) fun v10 h10 =>
 bnd (dR .u8 v10 h10) fun v11 h11 =>
 bnd (aB 1 v4 h11) fun v12 h12 =>
 bnd (aA v12 h12) fun v13 h13 =>
 bnd (dR .u8 v13 h13) fun v14 h14 =>
 bnd (aB 2 v4 h14) fun v15 h15 =>
 bnd (aA v15 h15) fun v16 h16 =>
 bnd (dR .u8 v16 h16) fun v17 h17 =>
 bnd (aN [(.i .u8 (Int.ofNat 0)), (.i .u8 (Int.ofNat 0)), (.i .u8 (Int.ofNat 0))] 3 [(0, 1, v11), (1, 1, v14), (2, 1, v17)] h17) fun v18 h18 =>
 bnd (bK 1 1 (env 4) v18 h18) fun v19 h19 =>
 bnd (aD .add (env 12) (aO 1) h19) fun v20 h20 =>
    kk6 v19 (env 10) (env 11) v20 h20)) (
      eL r n (env 4) h1)) = (K4 (aKw r n kk6) 4 10 11 12) := by kernel_rfl
theorem bSq (kk6 : fB) : D226 r n nF (xs x0 0 (K1 (eL r n) 4)) (K4 kk6 4 10 11 12) = (K4 (aKw r n kk6) 4 10 11 12) :=
 (bPq r n kk6 (eL r n)).trans (bEn r n kk6)
theorem bMa (m : Nat) : aL (fun kk => D226 r n nF (xs x0 0 (K1 (eL r n) 4)) kk) m = (K4 (xA r n m) 4 10 11 12) := by
 induction m with
 | zero => exact (by kernel_rfl : aL (fun kk => D226 r n nF (xs x0 0 (K1 (eL r n) 4)) kk) 0 = (K4 (xA r n 0) 4 10 11 12))
 | succ m ih =>
  refine (by kernel_rfl : aL (fun kk => D226 r n nF (xs x0 0 (K1 (eL r n) 4)) kk) (m + 1) = D226 r n nF (xs x0 0 (K1 (eL r n) 4)) (aL (fun kk => D226 r n nF (xs x0 0 (K1 (eL r n) 4)) kk) m)).trans ?_
  rw [ih]
  exact (bSq r n (xA r n m)).trans (by kernel_rfl)
theorem cHd : D226 r n aHm (xs x0 0 (K1 (eL r n) 4)) (K1 (eL r n) 4) = (K4 (bQu r n) 4 10 11 12) :=
 (by kernel_rfl : D226 r n aHm (xs x0 0 (K1 (eL r n) 4)) (K1 (eL r n) 4) = aL (fun kk => D226 r n nF (xs x0 0 (K1 (eL r n) 4)) kk) n).trans ((bMa r n n).trans (by kernel_rfl))
theorem cAm : D226 r n aTh x0 (K1 (eL r n) 4) = (K4 (aUe r n) 4 10 11 12) :=
 (by kernel_rfl : D226 r n aTh x0 (K1 (eL r n) 4) = D226 r n aHm (xs x0 0 (K1 (eL r n) 4)) (K1 (eL r n) 4)).trans
 ((cHd r n).trans (by kernel_rfl))
theorem bRe : D226 r n aFp x0 r226 = D226 r n aAv x0 (K1 (eL r n) 4) :=
 congrArg (fun k => D226 r n aAv x0 k) (bZn r n)
theorem bXl : D226 r n aAv x0 (K1 (eL r n) 4) = D226 r n bOd x0 (K4 (aUe r n) 4 10 11 12) :=
 congrArg (fun k => D226 r n bOd x0 k) (cAm r n)
theorem cBi : D226 r n aFp x0 r226 = (K2 (aPk r n) 0 4) :=
 (bRe r n).trans
 ((bXl r n).trans
 ((by kernel_rfl)))
theorem bUm : D226 r n aHt x0 r226 = D226 r n bBg x0 (K2 (aPk r n) 0 4) :=
 congrArg (fun k => D226 r n bBg x0 k) (cBi r n)
theorem cLk : D226 r n aHt x0 r226 = (K1 (aQq r n) 0) :=
 (bUm r n).trans
 ((by kernel_rfl))
theorem bOf : D226 r n aEs x0 r226 = D226 r n bBi x0 (K1 (aQq r n) 0) :=
 congrArg (fun k => D226 r n bBi x0 k) (cLk r n)
theorem cLz : D226 r n aEs x0 r226 = (K1 (aRq r n) 0) :=
 (bOf r n).trans
 ((by kernel_rfl))
theorem cQr : D226 r n c226 x0 r226 = D226 r n aVg x0 (K1 (aRq r n) 0) :=
 congrArg (fun k => D226 r n aVg x0 k) (cLz r n)
theorem dHf : D226 r n c226 x0 r226 = (K1 (s226 r n) 0) :=
 (cQr r n).trans
 ((by kernel_rfl))
theorem cVe : aF CF r n 226 args h = s226 r n (aW args 0) h :=
 (by kernel_rfl : aF CF r n 226 args h = D226 r n c226 x0 r226 (aI args) h).trans ((congrFun (congrFun (dHf r n) (aI args)) h).trans (by kernel_rfl))
noncomputable def s234 (r : RT) (n : Nat) (x0 x1 : DV) (h0 : Hp) : aG :=
 bnd (aY x0 h0) fun v1 h1 =>
 bnd (aB 0 v1 h1) fun v2 h2 =>
 bnd (aA v2 h2) fun v3 h3 =>
 bnd (isF [v3, x1] h3) fun v4 h4 =>
 aX v4 (
 bnd (aY x0 h4) fun v5 h5 =>
 bnd (aB 0 v5 h5) fun v6 h6 =>
 bnd (aA v6 h6) fun v7 h7 =>
 bnd (tS [v7, x1] h7) fun v8 h8 =>
 some (v8, h8)) (
 bnd (kK [x1] h4) fun v9 h9 =>
 aX v9 (
 bnd (r 79 [x0, (aO 7)] h9) fun v10 h10 =>
 some (v10, h10)) (
 bnd (aD .eql x1 (aO 0) h9) fun v11 h11 =>
 aX v11 (
 bnd (r 79 [x0, (aO 2)] h11) fun v12 h12 =>
 some (v12, h12)) (
 bnd (aD .eql x1 (aO 2) h11) fun v13 h13 =>
 aX v13 (
 bnd (r 79 [x0, (aO 4)] h13) fun v14 h14 =>
 some (v14, h14)) (
 bnd (aD .eql x1 (aO 4) h13) fun v15 h15 =>
 aX v15 (
 bnd (r 79 [x0, (aO 5)] h15) fun v16 h16 =>
 some (v16, h16)) (
 some ((aO 0), h15))))))
noncomputable abbrev c234 : Code := cf Tryz.f234
noncomputable abbrev r234 : K := aQ CF Tryz.f234
noncomputable def D234 (r : RT) (n : Nat) (c : Code) (X : Nat → K) (k : K) : K := aM CF r 38 n c X r234 k
theorem dGt : D234 r n c234 x0 r234 = (K2 (s234 r n) 0 1) :=
 (by kernel_rfl)
theorem dAb : aF CF r n 234 args h = s234 r n (aW args 0) (aW args 1) h :=
 (by kernel_rfl : aF CF r n 234 args h = D234 r n c234 x0 r234 (aI args) h).trans ((congrFun (congrFun (dGt r n) (aI args)) h).trans (by kernel_rfl))
noncomputable def fU (r : RT) (n : Nat) (x0 x7 : DV) (h0 : Hp) : aG :=
 bnd (aY x0 h0) fun v1 h1 =>
 bnd (aB 0 v1 h1) fun v2 h2 =>
 bnd (aA v2 h2) fun v3 h3 =>
 bnd (aY x0 h3) fun v4 h4 =>
 bnd (aB 1 v4 h4) fun v5 h5 =>
 bnd (aA v5 h5) fun v6 h6 =>
 bnd (cN v3 (some x7) (some v6) h6) fun v7 h7 =>
 some (v7, h7)
noncomputable def aVr (r : RT) (n : Nat) (kk4 : fB) (x0 x1 x2 x7 : DV) (h0 : Hp) : aG :=
 bnd (aY x0 h0) fun v1 h1 =>
 bnd (aB 1 v1 h1) fun v2 h2 =>
 bnd (aA v2 h2) fun v3 h3 =>
 bnd (aY x0 h3) fun v4 h4 =>
 bnd (aB 0 v4 h4) fun v5 h5 =>
 bnd (aA v5 h5) fun v6 h6 =>
 bnd (cO v6 h6) fun v7 h7 =>
 bnd (aD .lss v3 v7 h7) fun v8 h8 =>
 bnd (gD v8 true (some (x0, h8)) h8) fun v9 h9 =>
 bnd (gD v8 true (aY v9 h9) h9) fun v10 h10 =>
 bnd (gD v8 true (aB 1 v10 h10) h10) fun v11 h11 =>
 bnd (gD v8 true (aA v11 h11) h11) fun v12 h12 =>
 bnd (gD v8 true (some (x7, h12)) h12) fun v13 h13 =>
 bnd (gD v8 true (aD .sub v12 v13 h13) h13) fun v14 h14 =>
 bnd (gD v8 true (some (x2, h14)) h14) fun v15 h15 =>
 bnd (gD v8 true (aD .lss v14 v15 h15) h15) fun v16 h16 =>
 bnd (aP v8 v16 (.b false) h16) fun v17 h17 =>
 bnd (gD v17 true (some (x1, h17)) h17) fun v18 h18 =>
 bnd (gD v17 true (some (x0, h18)) h18) fun v19 h19 =>
 bnd (gD v17 true (aY v19 h19) h19) fun v20 h20 =>
 bnd (gD v17 true (aB 0 v20 h20) h20) fun v21 h21 =>
 bnd (gD v17 true (aA v21 h21) h21) fun v22 h22 =>
 bnd (gD v17 true (some (x0, h22)) h22) fun v23 h23 =>
 bnd (gD v17 true (aY v23 h23) h23) fun v24 h24 =>
 bnd (gD v17 true (aB 1 v24 h24) h24) fun v25 h25 =>
 bnd (gD v17 true (aA v25 h25) h25) fun v26 h26 =>
 bnd (gD v17 true (bY v22 v26 h26) h26) fun v27 h27 =>
 bnd (gD v17 true (jF CF r v18 [v27] h27) h27) fun v28 h28 =>
 bnd (aP v17 v28 (.b false) h28) fun v29 h29 =>
 aX v29 (
 bnd (aY x0 h29) fun v30 h30 =>
 bnd (aB 1 v30 h30) fun v31 h31 =>
 bnd (aA v31 h31) fun v32 h32 =>
 bnd (aD .add v32 (aO 1) h32) fun v33 h33 =>
 bnd (aY x0 h33) fun v34 h34 =>
 bnd (aB 1 v34 h34) fun v35 h35 =>
 bnd (aH 1 v35 v33 h35) fun _ h36 =>
      kk4 x0 x1 x2 x7 h36) (
      fU r n x0 x7 h29)
noncomputable def wS (r : RT) (n : Nat) (m : Nat) : fB :=
 Nat.rec (motive := fun _ => fB) (fun _ _ _ _ _ => none) (fun _ ih => aVr r n ih) m
noncomputable def bOb (r : RT) (n : Nat) : fB := wS r n n
noncomputable def aTp (r : RT) (n : Nat) (x0 x1 x2 x7 : DV) (h0 : Hp) : aG :=
 bOb r n x0 x1 x2 x7 h0
noncomputable def aQm (r : RT) (n : Nat) (x0 x1 x2 : DV) (h0 : Hp) : aG :=
 bnd (aY x0 h0) fun v1 h1 =>
 bnd (aB 1 v1 h1) fun v2 h2 =>
 bnd (aA v2 h2) fun v3 h3 =>
  aTp r n x0 x1 x2 v3 h3
noncomputable def s286 (r : RT) (n : Nat) (x0 x1 x2 : DV) (h0 : Hp) : aG :=
 aQm r n x0 x1 x2 h0
noncomputable abbrev c286 : Code := cf Tryz.f286
noncomputable abbrev aFz : Code := cR c286
noncomputable abbrev aIf : Code := cR aFz
noncomputable abbrev cXq : Code := cR aIf
noncomputable abbrev aKg : Code := cL aIf
noncomputable abbrev aIo : Code := cL aKg
noncomputable abbrev pY : Code := cL aIo
noncomputable abbrev bNm : Code := cL aFz
noncomputable abbrev bNp : Code := cL c286
noncomputable abbrev r286 : K := aQ CF Tryz.f286
noncomputable def D286 (r : RT) (n : Nat) (c : Code) (X : Nat → K) (k : K) : K := aM CF r 62 n c X r286 k
theorem bYn : D286 r n cXq x0 r286 = (K2 (fU r n) 0 7) :=
 (by kernel_rfl)
theorem bRt (kk4 : fB) : D286 r n pY (xs x0 0 (K2 (fU r n) 0 7)) (K4 kk4 0 1 2 7) = (K4 (aVr r n kk4) 0 1 2 7) :=
 (by kernel_rfl)
theorem bJd (m : Nat) : aL (fun kk => D286 r n pY (xs x0 0 (K2 (fU r n) 0 7)) kk) m = (K4 (wS r n m) 0 1 2 7) := by
 induction m with
 | zero => exact (by kernel_rfl : aL (fun kk => D286 r n pY (xs x0 0 (K2 (fU r n) 0 7)) kk) 0 = (K4 (wS r n 0) 0 1 2 7))
 | succ m ih =>
  refine (by kernel_rfl : aL (fun kk => D286 r n pY (xs x0 0 (K2 (fU r n) 0 7)) kk) (m + 1) = D286 r n pY (xs x0 0 (K2 (fU r n) 0 7)) (aL (fun kk => D286 r n pY (xs x0 0 (K2 (fU r n) 0 7)) kk) m)).trans ?_
  rw [ih]
  exact (bRt r n (wS r n m)).trans (by kernel_rfl)
theorem cHc : D286 r n aIo (xs x0 0 (K2 (fU r n) 0 7)) (K2 (fU r n) 0 7) = (K4 (bOb r n) 0 1 2 7) :=
 (by kernel_rfl : D286 r n aIo (xs x0 0 (K2 (fU r n) 0 7)) (K2 (fU r n) 0 7) = aL (fun kk => D286 r n pY (xs x0 0 (K2 (fU r n) 0 7)) kk) n).trans ((bJd r n n).trans (by kernel_rfl))
theorem bUt : D286 r n aIf x0 r286 = D286 r n aKg x0 (K2 (fU r n) 0 7) :=
 congrArg (fun k => D286 r n aKg x0 k) (bYn r n)
theorem cEp : D286 r n aIf x0 r286 = (K4 (aTp r n) 0 1 2 7) :=
 (bUt r n).trans
 ((by kernel_rfl : D286 r n aKg x0 (K2 (fU r n) 0 7) = D286 r n aIo (xs x0 0 (K2 (fU r n) 0 7)) (K2 (fU r n) 0 7)).trans
 ((cHc r n).trans (by kernel_rfl)))
theorem bWg : D286 r n aFz x0 r286 = D286 r n bNm x0 (K4 (aTp r n) 0 1 2 7) :=
 congrArg (fun k => D286 r n bNm x0 k) (cEp r n)
theorem cLh : D286 r n aFz x0 r286 = (K3 (aQm r n) 0 1 2) :=
 (bWg r n).trans
 ((by kernel_rfl))
theorem cQt : D286 r n c286 x0 r286 = D286 r n bNp x0 (K3 (aQm r n) 0 1 2) :=
 congrArg (fun k => D286 r n bNp x0 k) (cLh r n)
theorem dEj : D286 r n c286 x0 r286 = (K3 (s286 r n) 0 1 2) :=
 (cQt r n).trans
 ((by kernel_rfl))
theorem dAq : aF CF r n 286 args h = s286 r n (aW args 0) (aW args 1) (aW args 2) h :=
 (by kernel_rfl : aF CF r n 286 args h = D286 r n c286 x0 r286 (aI args) h).trans ((congrFun (congrFun (dEj r n) (aI args)) h).trans (by kernel_rfl))
noncomputable def s287 (r : RT) (n : Nat) (x0 : DV) (h0 : Hp) : aG :=
 bnd (dB x0 h0) fun v1 h1 =>
 some ((.f 338 [] [v1]), h1)
noncomputable abbrev c287 : Code := cf Tryz.f287
noncomputable abbrev r287 : K := aQ CF Tryz.f287
noncomputable def D287 (r : RT) (n : Nat) (c : Code) (X : Nat → K) (k : K) : K := aM CF r 4 n c X r287 k
theorem dIh : D287 r n c287 x0 r287 = (K1 (s287 r n) 0) :=
 (by kernel_rfl)
theorem cXj : aF CF r n 287 args h = s287 r n (aW args 0) h :=
 (by kernel_rfl : aF CF r n 287 args h = D287 r n c287 x0 r287 (aI args) h).trans ((congrFun (congrFun (dIh r n) (aI args)) h).trans (by kernel_rfl))
noncomputable def iR (r : RT) (n : Nat) (x2 x4 x5 : DV) (h0 : Hp) : aG :=
 bnd (aK 4 x4 h0) fun v1 h1 =>
 bnd (aH 4 x2 v1 h1) fun _ h2 =>
 bnd (aK 4 x2 h2) fun v3 _ =>
 some (.t [v3, x5], h2)
noncomputable def aRj (r : RT) (n : Nat) (x0 x2 x4 x5 x6 : DV) (h0 : Hp) : aG :=
 bnd (r 340 [x6] h0) fun v1 h1 =>
 aX v1 (
 bnd (aB 0 x4 h1) fun v2 h2 =>
 bnd (aH 1 v2 (aO 1) h2) fun _ h3 =>
 bnd (r 341 [x0] h3) fun v4 h4 =>
 bnd (aC 0 v4 h4) fun v5 h5 =>
 bnd (aC 1 v4 h5) fun v6 h6 =>
 bnd (aB 1 x4 h6) fun v7 h7 =>
 bnd (aH 1 v7 v5 h7) fun _ h8 =>
 bnd (aD .eql v6 (aO 0) h8) fun v9 h9 =>
 bnd (gD v9 true (some (x0, h9)) h9) fun v10 h10 =>
 bnd (gD v9 true (r 342 [v10] h10) h10) fun v11 h11 =>
 bnd (aP v9 v11 (.b false) h11) fun v12 h12 =>
 aX v12 (
 bnd (aB 1 x4 h12) fun v13 h13 =>
 bnd (aA v13 h13) fun v14 h14 =>
 bnd (cM .add v14 (.s [58]) h14) fun v15 h15 =>
 bnd (aB 0 x4 h15) fun v16 h16 =>
 bnd (aH 1 v16 (aO 2) h16) fun _ h17 =>
 bnd (aB 1 x4 h17) fun v18 h18 =>
 bnd (aH 1 v18 v15 h18) fun _ h19 =>
      iR r n x2 x4 v6 h19) (
      iR r n x2 x4 v6 h12)) (
 bnd (r 343 [x6] h1) fun v20 h20 =>
 aX v20 (
 bnd (aB 0 x4 h20) fun v21 h21 =>
 bnd (aH 1 v21 (aO 4) h21) fun _ h22 =>
 bnd (r 344 [x0] h22) fun v23 h23 =>
 bnd (aC 0 v23 h23) fun v24 h24 =>
 bnd (aC 1 v23 h24) fun v25 h25 =>
 bnd (aB 2 x4 h25) fun v26 h26 =>
 bnd (aH 1 v26 v24 h26) fun _ h27 =>
      iR r n x2 x4 v25 h27) (
 bnd (aD .eql x6 (.i .u8 (Int.ofNat 39)) h20) fun v28 h28 =>
 aX v28 (
 bnd (aY x0 h28) fun v29 h29 =>
 bnd (aB 1 v29 h29) fun v30 h30 =>
 bnd (aA v30 h30) fun v31 h31 =>
 bnd (aD .add v31 (aO 1) h31) fun v32 h32 =>
 bnd (aY x0 h32) fun v33 h33 =>
 bnd (aB 1 v33 h33) fun v34 h34 =>
 bnd (aH 1 v34 v32 h34) fun _ h35 =>
 bnd (aB 0 x4 h35) fun v36 h36 =>
 bnd (aH 1 v36 (aO 5) h36) fun _ h37 =>
 bnd (r 345 [x0] h37) fun v38 h38 =>
 bnd (aC 0 v38 h38) fun v39 h39 =>
 bnd (aC 1 v38 h39) fun v40 h40 =>
 bnd (aB 1 x4 h40) fun v41 h41 =>
 bnd (aH 1 v41 v39 h41) fun _ h42 =>
    iR r n x2 x4 v40 h42) (
 bnd (aD .eql x6 (.i .u8 (Int.ofNat 35)) h28) fun v43 h43 =>
 bnd (gD v43 true (some (x0, h43)) h43) fun v44 h44 =>
 bnd (gD v43 true (r 339 [v44, (aO 1)] h44) h44) fun v45 h45 =>
 bnd (gD v43 true (aD .eql v45 (.i .u8 (Int.ofNat 40)) h45) h45) fun v46 h46 =>
 bnd (aP v43 v46 (.b false) h46) fun v47 h47 =>
 aX v47 (
 bnd (aY x0 h47) fun v48 h48 =>
 bnd (aB 1 v48 h48) fun v49 h49 =>
 bnd (aA v49 h49) fun v50 h50 =>
 bnd (aD .add v50 (aO 2) h50) fun v51 h51 =>
 bnd (aY x0 h51) fun v52 h52 =>
 bnd (aB 1 v52 h52) fun v53 h53 =>
 bnd (aH 1 v53 v51 h53) fun _ h54 =>
 bnd (aB 0 x4 h54) fun v55 h55 =>
 bnd (aH 1 v55 (aO 7) h55) fun _ h56 =>
     iR r n x2 x4 x5 h56) (
 bnd (aD .eql x6 (.i .u8 (Int.ofNat 35)) h47) fun v57 h57 =>
 aX v57 (
 bnd (aY x0 h57) fun v58 h58 =>
 bnd (aB 1 v58 h58) fun v59 h59 =>
 bnd (aA v59 h59) fun v60 h60 =>
 bnd (aD .add v60 (aO 1) h60) fun v61 h61 =>
 bnd (aY x0 h61) fun v62 h62 =>
 bnd (aB 1 v62 h62) fun v63 h63 =>
 bnd (aH 1 v63 v61 h63) fun _ h64 =>
 bnd (aB 0 x4 h64) fun v65 h65 =>
 bnd (aH 1 v65 (aO 6) h65) fun _ h66 =>
 bnd (r 346 [x0] h66) fun v67 h67 =>
 bnd (aC 0 v67 h67) fun v68 h68 =>
 bnd (aC 1 v67 h68) fun v69 h69 =>
 bnd (aB 1 x4 h69) fun v70 h70 =>
 bnd (aH 1 v70 v68 h70) fun _ h71 =>
      iR r n x2 x4 v69 h71) (
 bnd (aD .eql x6 (.i .u8 (Int.ofNat 58)) h57) fun v72 h72 =>
 bnd (gD v72 true (some (x0, h72)) h72) fun v73 h73 =>
 bnd (gD v72 true (r 339 [v73, (aO 1)] h73) h73) fun v74 h74 =>
 bnd (gD v72 true (aD .eql v74 (.i .u8 (Int.ofNat 61)) h74) h74) fun v75 h75 =>
 bnd (aP v72 v75 (.b false) h75) fun v76 h76 =>
 aX v76 (
 bnd (aY x0 h76) fun v77 h77 =>
 bnd (aB 1 v77 h77) fun v78 h78 =>
 bnd (aA v78 h78) fun v79 h79 =>
 bnd (aD .add v79 (aO 2) h79) fun v80 h80 =>
 bnd (aY x0 h80) fun v81 h81 =>
 bnd (aB 1 v81 h81) fun v82 h82 =>
 bnd (aH 1 v82 v80 h82) fun _ h83 =>
 bnd (aB 0 x4 h83) fun v84 h84 =>
 bnd (aH 1 v84 (aO 9) h84) fun _ h85 =>
       iR r n x2 x4 x5 h85) (
 bnd (aD .eql x6 (.i .u8 (Int.ofNat 58)) h76) fun v86 h86 =>
 bnd (gD v86 true (some (x0, h86)) h86) fun v87 h87 =>
 bnd (gD v86 true (r 339 [v87, (aO 1)] h87) h87) fun v88 h88 =>
 bnd (gD v86 true (r 340 [v88] h88) h88) fun v89 h89 =>
 bnd (aP v86 v89 (.b false) h89) fun v90 h90 =>
 aX v90 (
 bnd (aY x0 h90) fun v91 h91 =>
 bnd (aB 1 v91 h91) fun v92 h92 =>
 bnd (aA v92 h92) fun v93 h93 =>
 bnd (aD .add v93 (aO 1) h93) fun v94 h94 =>
 bnd (aY x0 h94) fun v95 h95 =>
 bnd (aB 1 v95 h95) fun v96 h96 =>
 bnd (aH 1 v96 v94 h96) fun _ h97 =>
 bnd (aB 0 x4 h97) fun v98 h98 =>
 bnd (aH 1 v98 (aO 8) h98) fun _ h99 =>
 bnd (r 341 [x0] h99) fun v100 h100 =>
 bnd (aC 0 v100 h100) fun v101 h101 =>
 bnd (aC 1 v100 h101) fun v102 h102 =>
 bnd (aB 1 x4 h102) fun v103 h103 =>
 bnd (aH 1 v103 v101 h103) fun _ h104 =>
        iR r n x2 x4 v102 h104) (
 bnd (r 287 [(.s [43, 45, 42, 47, 60, 62, 61, 126, 44, 64, 38, 37])] h90) fun v105 h105 =>
 bnd (jF CF r v105 [x6] h105) fun v106 h106 =>
 aX v106 (
 bnd (r 287 [(.s [43, 45, 42, 47, 60, 62, 61, 126, 44, 64, 38, 37])] h106) fun v107 h107 =>
 bnd (r 286 [x0, v107, (aO 2)] h107) fun v108 h108 =>
 bnd (aB 0 x4 h108) fun v109 h109 =>
 bnd (aH 1 v109 (aO 3) h109) fun _ h110 =>
 bnd (aB 1 x4 h110) fun v111 h111 =>
 bnd (aH 1 v111 v108 h111) fun _ h112 =>
         iR r n x2 x4 x5 h112) (
 bnd (r 287 [(.s [94, 46, 59, 40, 41, 91, 93, 124])] h106) fun v113 h113 =>
 bnd (jF CF r v113 [x6] h113) fun v114 h114 =>
 aX v114 (
 bnd (r 287 [(.s [94, 46, 59, 40, 41, 91, 93, 124])] h114) fun v115 h115 =>
 bnd (r 286 [x0, v115, (aO 1)] h115) fun v116 h116 =>
 bnd (aB 0 x4 h116) fun v117 h117 =>
 bnd (aH 1 v117 (aO 10) h117) fun _ h118 =>
 bnd (aB 1 x4 h118) fun v119 h119 =>
 bnd (aH 1 v119 v116 h119) fun _ h120 =>
          iR r n x2 x4 x5 h120) (
          iR r n x2 x4 (aO 10) h114)))))))))
noncomputable def aTe (r : RT) (n : Nat) (x0 x2 x4 x5 : DV) (h0 : Hp) : aG :=
 bnd (r 339 [x0, (aO 0)] h0) fun v1 h1 =>
  aRj r n x0 x2 x4 x5 v1 h1
noncomputable def aBs (r : RT) (n : Nat) (x0 x2 x4 : DV) (h0 : Hp) : aG :=
 aTe r n x0 x2 x4 (aO 0) h0
noncomputable def uI (r : RT) (n : Nat) (x0 x2 : DV) (h0 : Hp) : aG :=
 bnd (aY x0 h0) fun v1 h1 =>
 bnd (aB 1 v1 h1) fun v2 h2 =>
 bnd (aA v2 h2) fun v3 h3 =>
 bnd (bL [(aO 0), (.s []), (aO 0), (aO 0)] [(3, 1, v3)] h3) fun v4 h4 =>
 bnd (cJ [(aO 0), (.s []), (aO 0), (aO 0)] h4) fun v5 h5 =>
 bnd (aH 4 v5 v4 h5) fun _ h6 =>
  aBs r n x0 x2 v5 h6
noncomputable def s288 (r : RT) (n : Nat) (x0 : DV) (h0 : Hp) : aG :=
 bnd (cJ [(aO 0), (.s []), (aO 0), (aO 0)] h0) fun v1 h1 =>
  uI r n x0 v1 h1
noncomputable abbrev c288 : Code := cf Tryz.f288
noncomputable abbrev aKb : Code := cR c288
noncomputable abbrev aGc : Code := cR aKb
noncomputable abbrev aFy : Code := cR aGc
noncomputable abbrev aEz : Code := cR aFy
noncomputable abbrev cRh : Code := cR aEz
noncomputable abbrev bQa : Code := cL aEz
noncomputable abbrev bRu : Code := cL aFy
noncomputable abbrev bXf : Code := cL aGc
noncomputable abbrev aRm : Code := cL aKb
noncomputable abbrev aIz : Code := cL c288
noncomputable abbrev r288 : K := aQ CF Tryz.f288
noncomputable def D288 (r : RT) (n : Nat) (c : Code) (X : Nat → K) (k : K) : K := aM CF r 153 n c X r288 k
theorem bYm : D288 r n cRh x0 r288 = (K3 (iR r n) 2 4 5) :=
 (by kernel_rfl)
theorem bYk : D288 r n aEz x0 r288 = D288 r n bQa x0 (K3 (iR r n) 2 4 5) :=
 congrArg (fun k => D288 r n bQa x0 k) (bYm r n)
theorem cFu : D288 r n aEz x0 r288 = (K5 (aRj r n) 0 2 4 5 6) :=
 (bYk r n).trans
 ((by kernel_rfl))
theorem bOj : D288 r n aFy x0 r288 = D288 r n bRu x0 (K5 (aRj r n) 0 2 4 5 6) :=
 congrArg (fun k => D288 r n bRu x0 k) (cFu r n)
theorem cFj : D288 r n aFy x0 r288 = (K4 (aTe r n) 0 2 4 5) :=
 (bOj r n).trans
 ((by kernel_rfl))
theorem bPv : D288 r n aGc x0 r288 = D288 r n bXf x0 (K4 (aTe r n) 0 2 4 5) :=
 congrArg (fun k => D288 r n bXf x0 k) (cFj r n)
theorem cCm : D288 r n aGc x0 r288 = (K3 (aBs r n) 0 2 4) :=
 (bPv r n).trans
 ((by kernel_rfl))
theorem bRm : D288 r n aKb x0 r288 = D288 r n aRm x0 (K3 (aBs r n) 0 2 4) :=
 congrArg (fun k => D288 r n aRm x0 k) (cCm r n)
theorem bVa (q0 : gE) : D288 r n aRm x0 (K3 q0 0 2 4) = fun (env : bC) (h : Hp) =>
 bnd (aY (env 0) h) fun v1 h1 =>
 bnd (aB 1 v1 h1) fun v2 h2 =>
 bnd (aA v2 h2) fun v3 h3 =>
 bnd (bL [(aO 0), (.s []), (aO 0), (aO 0)] [(3, 1, v3)] h3) fun v4 h4 =>
 bnd (cJ [(aO 0), (.s []), (aO 0), (aO 0)] h4) fun v5 h5 =>
 bnd (aH 4 v5 v4 h5) fun _ h6 =>
  q0 (env 0) (env 2) v5 h6 := by kernel_rfl
theorem bFu : (fun (env : bC) (h : Hp) =>
 bnd (aY (env 0) h) fun v1 h1 =>
 bnd (aB 1 v1 h1) fun v2 h2 =>
 bnd (aA v2 h2) fun v3 h3 =>
 bnd (bL [(aO 0), (.s []), (aO 0), (aO 0)] [(3, 1, v3)] h3) fun v4 h4 =>
 bnd (cJ [(aO 0), (.s []), (aO 0), (aO 0)] h4) fun v5 h5 =>
 bnd (aH 4 v5 v4 h5) fun _ h6 =>
  aBs r n (env 0) (env 2) v5 h6) = (K2 (uI r n) 0 2) := by kernel_rfl
theorem cAh : D288 r n aKb x0 r288 = (K2 (uI r n) 0 2) :=
 (bRm r n).trans
 ((bVa r n (aBs r n)).trans (bFu r n))
theorem cXk : D288 r n c288 x0 r288 = D288 r n aIz x0 (K2 (uI r n) 0 2) :=
 congrArg (fun k => D288 r n aIz x0 k) (cAh r n)
theorem cTd (q0 : TT2) : D288 r n aIz x0 (K2 q0 0 2) = fun (env : bC) (h : Hp) =>
 bnd (cJ [(aO 0), (.s []), (aO 0), (aO 0)] h) fun v1 h1 =>
  q0 (env 0) v1 h1 := by kernel_rfl
theorem cHk : (fun (env : bC) (h : Hp) =>
 bnd (cJ [(aO 0), (.s []), (aO 0), (aO 0)] h) fun v1 h1 =>
  uI r n (env 0) v1 h1) = (K1 (s288 r n) 0) := by kernel_rfl
theorem dCl : D288 r n c288 x0 r288 = (K1 (s288 r n) 0) :=
 (cXk r n).trans
 ((cTd r n (uI r n)).trans (cHk r n))
theorem cZt : aF CF r n 288 args h = s288 r n (aW args 0) h :=
 (by kernel_rfl : aF CF r n 288 args h = D288 r n c288 x0 r288 (aI args) h).trans ((congrFun (congrFun (dCl r n) (aI args)) h).trans (by kernel_rfl))
noncomputable def s289 (r : RT) (n : Nat) (x0 x1 x2 : DV) (h0 : Hp) : aG :=
 bnd (r 293 [x0, (aO 0)] h0) fun v1 h1 =>
 bnd (cJ [(aO 0), (.s []), (aO 0), (aO 0)] h1) fun v2 h2 =>
 bnd (aH 4 v2 v1 h2) fun _ h3 =>
 bnd (aY x0 h3) fun v4 h4 =>
 bnd (aB 3 v4 h4) fun v5 h5 =>
 bnd (aA v5 h5) fun v6 h6 =>
 bnd (aD .eql v6 (aO 0) h6) fun v7 h7 =>
 bnd (gD v7 true (aB 0 v2 h7) h7) fun v8 h8 =>
 bnd (gD v7 true (aA v8 h8) h8) fun v9 h9 =>
 bnd (gD v7 true (some (x1, h9)) h9) fun v10 h10 =>
 bnd (gD v7 true (aD .eql v9 v10 h10) h10) fun v11 h11 =>
 bnd (aP v7 v11 (.b false) h11) fun v12 h12 =>
 bnd (gD v12 true (some (x2, h12)) h12) fun v13 h13 =>
 bnd (gD v12 true (cM .eql v13 (.s []) h13) h13) fun v14 h14 =>
 bnd (gD v12 true (some (v14, h14)) h14) fun v15 h15 =>
 bnd (gD v15 false (aB 1 v2 h15) h15) fun v16 h16 =>
 bnd (gD v15 false (aA v16 h16) h16) fun v17 h17 =>
 bnd (gD v15 false (some (x2, h17)) h17) fun v18 h18 =>
 bnd (gD v15 false (cM .eql v17 v18 h18) h18) fun v19 h19 =>
 bnd (gD v12 true (aP v15 (.b true) v19 h19) h19) fun v20 h20 =>
 bnd (aP v12 v20 (.b false) h20) fun v21 h21 =>
 some (v21, h21)
noncomputable abbrev c289 : Code := cf Tryz.f289
noncomputable abbrev r289 : K := aQ CF Tryz.f289
noncomputable def D289 (r : RT) (n : Nat) (c : Code) (X : Nat → K) (k : K) : K := aM CF r 31 n c X r289 k
theorem dHn : D289 r n c289 x0 r289 = (K3 (s289 r n) 0 1 2) :=
 (by kernel_rfl)
theorem cQp : aF CF r n 289 args h = s289 r n (aW args 0) (aW args 1) (aW args 2) h :=
 (by kernel_rfl : aF CF r n 289 args h = D289 r n c289 x0 r289 (aI args) h).trans ((congrFun (congrFun (dHn r n) (aI args)) h).trans (by kernel_rfl))
noncomputable def aEq (r : RT) (n : Nat) (x2 x3 : DV) (h0 : Hp) : aG :=
 bnd (aK 4 x3 h0) fun v1 h1 =>
 bnd (aH 4 x2 v1 h1) fun _ h2 =>
 bnd (aK 4 x2 h2) fun v3 _ =>
 some (v3, h2)
noncomputable def yK (r : RT) (n : Nat) (x0 x2 x3 : DV) (h0 : Hp) : aG :=
 bnd (aB 0 x3 h0) fun v1 h1 =>
 bnd (aA v1 h1) fun v2 h2 =>
 bnd (aD .neq v2 (aO 0) h2) fun v3 h3 =>
 aX v3 (
 bnd (aY x0 h3) fun v4 h4 =>
 bnd (aB 0 v4 h4) fun v5 h5 =>
 bnd (aA v5 h5) fun v6 h6 =>
 bnd (dN 4 v6 (some (aO 1)) none h6) fun v7 h7 =>
 bnd (aY x0 h7) fun v8 h8 =>
 bnd (aB 0 v8 h8) fun v9 h9 =>
 bnd (aH 1 v9 v7 h9) fun _ h10 =>
  aEq r n x2 x3 h10) (
  aEq r n x2 x3 h3)
noncomputable def uA (r : RT) (n : Nat) (x0 x2 : DV) (h0 : Hp) : aG :=
 bnd (r 293 [x0, (aO 0)] h0) fun v1 h1 =>
 bnd (cJ [(aO 0), (.s []), (aO 0), (aO 0)] h1) fun v2 h2 =>
 bnd (aH 4 v2 v1 h2) fun _ h3 =>
  yK r n x0 x2 v2 h3
noncomputable def s290 (r : RT) (n : Nat) (x0 : DV) (h0 : Hp) : aG :=
 bnd (cJ [(aO 0), (.s []), (aO 0), (aO 0)] h0) fun v1 h1 =>
  uA r n x0 v1 h1
noncomputable abbrev c290 : Code := cf Tryz.f290
noncomputable abbrev aJx : Code := cR c290
noncomputable abbrev aEw : Code := cR aJx
noncomputable abbrev cXd : Code := cR aEw
noncomputable abbrev bNv : Code := cL aEw
noncomputable abbrev aSe : Code := cL aJx
noncomputable abbrev aUh : Code := cL c290
noncomputable abbrev r290 : K := aQ CF Tryz.f290
noncomputable def D290 (r : RT) (n : Nat) (c : Code) (X : Nat → K) (k : K) : K := aM CF r 18 n c X r290 k
theorem cJr : D290 r n cXd x0 r290 = (K2 (aEq r n) 2 3) :=
 (by kernel_rfl)
theorem bWc : D290 r n aEw x0 r290 = D290 r n bNv x0 (K2 (aEq r n) 2 3) :=
 congrArg (fun k => D290 r n bNv x0 k) (cJr r n)
theorem cJy : D290 r n aEw x0 r290 = (K3 (yK r n) 0 2 3) :=
 (bWc r n).trans
 ((by kernel_rfl))
theorem bRi : D290 r n aJx x0 r290 = D290 r n aSe x0 (K3 (yK r n) 0 2 3) :=
 congrArg (fun k => D290 r n aSe x0 k) (cJy r n)
theorem bNe (q0 : gE) : D290 r n aSe x0 (K3 q0 0 2 3) = fun (env : bC) (h : Hp) =>
 bnd (r 293 [(env 0), (aO 0)] h) fun v1 h1 =>
 bnd (cJ [(aO 0), (.s []), (aO 0), (aO 0)] h1) fun v2 h2 =>
 bnd (aH 4 v2 v1 h2) fun _ h3 =>
  q0 (env 0) (env 2) v2 h3 := by kernel_rfl
theorem bEh : (fun (env : bC) (h : Hp) =>
 bnd (r 293 [(env 0), (aO 0)] h) fun v1 h1 =>
 bnd (cJ [(aO 0), (.s []), (aO 0), (aO 0)] h1) fun v2 h2 =>
 bnd (aH 4 v2 v1 h2) fun _ h3 =>
  yK r n (env 0) (env 2) v2 h3) = (K2 (uA r n) 0 2) := by kernel_rfl
theorem cLd : D290 r n aJx x0 r290 = (K2 (uA r n) 0 2) :=
 (bRi r n).trans
 ((bNe r n (yK r n)).trans (bEh r n))
theorem cWs : D290 r n c290 x0 r290 = D290 r n aUh x0 (K2 (uA r n) 0 2) :=
 congrArg (fun k => D290 r n aUh x0 k) (cLd r n)
theorem cZv (q0 : TT2) : D290 r n aUh x0 (K2 q0 0 2) = fun (env : bC) (h : Hp) =>
 bnd (cJ [(aO 0), (.s []), (aO 0), (aO 0)] h) fun v1 h1 =>
  q0 (env 0) v1 h1 := by kernel_rfl
theorem cAv : (fun (env : bC) (h : Hp) =>
 bnd (cJ [(aO 0), (.s []), (aO 0), (aO 0)] h) fun v1 h1 =>
  uA r n (env 0) v1 h1) = (K1 (s290 r n) 0) := by kernel_rfl
theorem dGb : D290 r n c290 x0 r290 = (K1 (s290 r n) 0) :=
 (cWs r n).trans
 ((cZv r n (uA r n)).trans (cAv r n))
theorem cYh : aF CF r n 290 args h = s290 r n (aW args 0) h :=
 (by kernel_rfl : aF CF r n 290 args h = D290 r n c290 x0 r290 (aI args) h).trans ((congrFun (congrFun (dGb r n) (aI args)) h).trans (by kernel_rfl))
end Go.Dd

namespace Go.Dd
open Go.Proofs
variable (r : RT) (n : Nat) (args : List DV) (h : Hp)
noncomputable def s293 (r : RT) (n : Nat) (x0 x1 : DV) (h0 : Hp) : aG :=
 bnd (cJ [(aO 0), (.s []), (aO 0), (aO 0)] h0) fun v1 h1 =>
 bnd (aY x0 h1) fun v2 h2 =>
 bnd (aB 0 v2 h2) fun v3 h3 =>
 bnd (aA v3 h3) fun v4 h4 =>
 bnd (aY x0 h4) fun v5 h5 =>
 bnd (aB 0 v5 h5) fun v6 h6 =>
 bnd (aA v6 h6) fun v7 h7 =>
 bnd (cQ v7 h7) fun v8 h8 =>
 bnd (aD .sub v8 (aO 1) h8) fun v9 h9 =>
 bnd (bZr x1 v9 h9) fun v10 h10 =>
 bnd (aE 4 v4 v10 h10) fun v11 h11 =>
 bnd (aK 4 v11 h11) fun v12 h12 =>
 bnd (aH 4 v1 v12 h12) fun v13 h13 =>
 bnd (aK 4 v1 h13) fun v14 _ =>
 some (v14, h13)
noncomputable abbrev c293 : Code := cf Tryz.f293
noncomputable abbrev r293 : K := aQ CF Tryz.f293
noncomputable def D293 (r : RT) (n : Nat) (c : Code) (X : Nat → K) (k : K) : K := aM CF r 19 n c X r293 k
theorem dIo : D293 r n c293 x0 r293 = (K2 (s293 r n) 0 1) :=
 (by kernel_rfl)
theorem cVc : aF CF r n 293 args h = s293 r n (aW args 0) (aW args 1) h :=
 (by kernel_rfl : aF CF r n 293 args h = D293 r n c293 x0 r293 (aI args) h).trans ((congrFun (congrFun (dIo r n) (aI args)) h).trans (by kernel_rfl))
noncomputable def tZ (r : RT) (n : Nat) (x0 x3 x11 x14 : DV) (h0 : Hp) : aG :=
 aX x14 (
 bnd (aK 6 x3 h0) fun v1 h1 =>
 bnd (r 352 [x0, v1] h1) fun v2 h2 =>
 bnd (aRl [x0, v2] h2) fun v3 h3 =>
 bnd (r 296 [x0, (aO 6), v3, (aO 0)] h3) fun v4 h4 =>
 some (.t [], h4)) (
 bnd (aD .eql x11 (aO 5) h0) fun v5 h5 =>
 aX v5 (
 bnd (aB 1 x3 h5) fun v6 h6 =>
 bnd (aA v6 h6) fun v7 h7 =>
 bnd (r 353 [x0, v7] h7) fun v8 h8 =>
 some (.t [], h8)) (
 bnd (aD .eql x11 (aO 6) h5) fun v9 h9 =>
 aX v9 (
 bnd (aK 6 x3 h9) fun v10 h10 =>
 bnd (r 354 [x0, v10] h10) fun v11 h11 =>
 some (.t [], h11)) (
 bnd (aD .eql x11 (aO 7) h9) fun v12 h12 =>
 aX v12 (
 bnd (aK 6 x3 h12) fun v13 h13 =>
 bnd (r 355 [x0, v13] h13) fun v14 h14 =>
 some (.t [], h14)) (
 bnd (aD .eql x11 (aO 8) h12) fun v15 h15 =>
 aX v15 (
 bnd (aK 6 x3 h15) fun v16 h16 =>
 bnd (r 356 [x0, v16] h16) fun v17 h17 =>
 some (.t [], h17)) (
 bnd (aD .eql x11 (aO 9) h15) fun v18 h18 =>
 aX v18 (
 bnd (aY x0 h18) fun v19 h19 =>
 bnd (aB 0 v19 h19) fun v20 h20 =>
 bnd (aB 2 v20 h20) fun v21 h21 =>
 bnd (aA v21 h21) fun v22 h22 =>
 bnd (aB 3 x3 h22) fun v23 h23 =>
 bnd (aA v23 h23) fun v24 h24 =>
 bnd (cQ v24 h24) fun v25 h25 =>
 bnd (r 296 [x0, (aO 18), v22, v25] h25) fun v26 h26 =>
 bnd (r 357 [x0, (aO 16)] h26) fun v27 h27 =>
 bnd (aK 6 x3 h27) fun v28 h28 =>
 bnd (r 358 [x0, v28] h28) fun v29 h29 =>
 bnd (r 296 [x0, (aO 19), (aO 0), (aO 0)] h29) fun v30 h30 =>
 bnd (jF CF r v27 [] h30) fun v31 h31 =>
 some (.t [], h31)) (
 bnd (aD .eql x11 (aO 10) h18) fun v32 h32 =>
 aX v32 (
 bnd (aK 6 x3 h32) fun v33 h33 =>
 bnd (r 359 [x0, v33] h33) fun v34 h34 =>
 aX v34 (
 bnd (aB 5 x3 h34) fun v35 h35 =>
 bnd (aA v35 h35) fun v36 h36 =>
 bnd (aE 6 v36 (aO 0) h36) fun v37 h37 =>
 bnd (aK 6 v37 h37) fun v38 h38 =>
 bnd (r 295 [x0, v38] h38) fun v39 h39 =>
 bnd (r 296 [x0, (aO 20), (aO 0), (aO 0)] h39) fun v40 h40 =>
 some (.t [], h40)) (
 some (.t [], h34))) (
 bnd (r 350 [x0, (.s []), (aO 1)] h32) fun v41 h41 =>
 some (.t [], h41))))))))
noncomputable def aSh (r : RT) (n : Nat) (x0 x3 x11 : DV) (h0 : Hp) : aG :=
 bnd (aD .eql x11 (aO 1) h0) fun v1 h1 =>
 aX v1 (
  tZ r n x0 x3 x11 v1 h1) (
 bnd (aD .eql x11 (aO 2) h1) fun v2 h2 =>
 aX v2 (
   tZ r n x0 x3 x11 v2 h2) (
 bnd (aD .eql x11 (aO 3) h2) fun v3 h3 =>
 aX v3 (
    tZ r n x0 x3 x11 v3 h3) (
 bnd (aD .eql x11 (aO 4) h3) fun v4 h4 =>
    tZ r n x0 x3 x11 v4 h4)))
noncomputable def aTu (r : RT) (n : Nat) (x0 x3 : DV) (h0 : Hp) : aG :=
 bnd (aB 0 x3 h0) fun v1 h1 =>
 bnd (aA v1 h1) fun v2 h2 =>
  aSh r n x0 x3 v2 h2
noncomputable def aBp (r : RT) (n : Nat) (x0 x3 : DV) (h0 : Hp) : aG :=
 bnd (aY x0 h0) fun v1 h1 =>
 bnd (aB 8 v1 h1) fun v2 h2 =>
 bnd (aA v2 h2) fun v3 h3 =>
 bnd (aD .neq v3 (aO 0) h3) fun v4 h4 =>
 aX v4 (
 some (.t [], h4)) (
  aTu r n x0 x3 h4)
noncomputable def s295 (r : RT) (n : Nat) (x0 x1 : DV) (h0 : Hp) : aG :=
 bnd (dB x1 h0) fun v1 h1 =>
  aBp r n x0 v1 h1
noncomputable abbrev c295 : Code := cf Tryz.f295
noncomputable abbrev aLi : Code := cR c295
noncomputable abbrev aHn : Code := cR aLi
noncomputable abbrev aTo : Code := cR aHn
noncomputable abbrev aIi : Code := cL aTo
noncomputable abbrev cUx : Code := cR aIi
noncomputable abbrev bIq : Code := cL aIi
noncomputable abbrev bMi : Code := cL aHn
noncomputable abbrev bKh : Code := cL aLi
noncomputable abbrev aTc : Code := cL c295
noncomputable abbrev r295 : K := aQ CF Tryz.f295
noncomputable def D295 (r : RT) (n : Nat) (c : Code) (X : Nat → K) (k : K) : K := aM CF r 81 n c X r295 k
theorem cIa : D295 r n cUx (xs x0 0 r295) r295 = (K4 (tZ r n) 0 3 11 14) :=
 (by kernel_rfl)
theorem bSi : D295 r n aIi (xs x0 0 r295) r295 = D295 r n bIq (xs x0 0 r295) (K4 (tZ r n) 0 3 11 14) :=
 congrArg (fun k => D295 r n bIq (xs x0 0 r295) k) (cIa r n)
theorem cBu : D295 r n aTo x0 r295 = (K3 (aSh r n) 0 3 11) :=
 (by kernel_rfl : D295 r n aTo x0 r295 = D295 r n aIi (xs x0 0 r295) r295).trans
 ((bSi r n).trans
 ((by kernel_rfl)))
theorem bWx : D295 r n aHn x0 r295 = D295 r n bMi x0 (K3 (aSh r n) 0 3 11) :=
 congrArg (fun k => D295 r n bMi x0 k) (cBu r n)
theorem bYy : D295 r n aHn x0 r295 = (K2 (aTu r n) 0 3) :=
 (bWx r n).trans
 ((by kernel_rfl))
theorem bTn : D295 r n aLi x0 r295 = D295 r n bKh x0 (K2 (aTu r n) 0 3) :=
 congrArg (fun k => D295 r n bKh x0 k) (bYy r n)
theorem cJn : D295 r n aLi x0 r295 = (K2 (aBp r n) 0 3) :=
 (bTn r n).trans
 ((by kernel_rfl))
theorem cSk : D295 r n c295 x0 r295 = D295 r n aTc x0 (K2 (aBp r n) 0 3) :=
 congrArg (fun k => D295 r n aTc x0 k) (cJn r n)
theorem cZy (q0 : TT2) : D295 r n aTc x0 (K2 q0 0 3) = fun (env : bC) (h : Hp) =>
 bnd (dB (env 1) h) fun v1 h1 =>
  q0 (env 0) v1 h1 := by kernel_rfl
theorem cIn : (fun (env : bC) (h : Hp) =>
 bnd (dB (env 1) h) fun v1 h1 =>
  aBp r n (env 0) v1 h1) = (K2 (s295 r n) 0 1) := by kernel_rfl
theorem dJd : D295 r n c295 x0 r295 = (K2 (s295 r n) 0 1) :=
 (cSk r n).trans
 ((cZy r n (aBp r n)).trans (cIn r n))
theorem cSf : aF CF r n 295 args h = s295 r n (aW args 0) (aW args 1) h :=
 (by kernel_rfl : aF CF r n 295 args h = D295 r n c295 x0 r295 (aI args) h).trans ((congrFun (congrFun (dJd r n) (aI args)) h).trans (by kernel_rfl))
noncomputable def s296 (r : RT) (n : Nat) (x0 x1 x2 x3 : DV) (h0 : Hp) : aG :=
 bnd (aY x0 h0) fun v1 h1 =>
 bnd (aB 0 v1 h1) fun v2 h2 =>
 bnd (aB 5 v2 h2) fun v3 h3 =>
 bnd (aA v3 h3) fun v4 h4 =>
 bnd (bL [(aO 0), (aO 0), (aO 0)] [(0, 1, x1), (1, 1, x2), (2, 1, x3)] h4) fun v5 h5 =>
 bnd (aN [(aO 0), (aO 0), (aO 0)] 1 [(0, 3, v5)] h5) fun v6 h6 =>
 bnd (bK 3 24 v4 v6 h6) fun v7 h7 =>
 bnd (aY x0 h7) fun v8 h8 =>
 bnd (aB 0 v8 h8) fun v9 h9 =>
 bnd (aB 5 v9 h9) fun v10 h10 =>
 bnd (aH 1 v10 v7 h10) fun _ h11 =>
 some (.t [], h11)
noncomputable abbrev c296 : Code := cf Tryz.f296
noncomputable abbrev r296 : K := aQ CF Tryz.f296
noncomputable def D296 (r : RT) (n : Nat) (c : Code) (X : Nat → K) (k : K) : K := aM CF r 23 n c X r296 k
theorem dJp : D296 r n c296 x0 r296 = (K4 (s296 r n) 0 1 2 3) :=
 (by kernel_rfl)
theorem cXc : aF CF r n 296 args h = s296 r n (aW args 0) (aW args 1) (aW args 2) (aW args 3) h :=
 (by kernel_rfl : aF CF r n 296 args h = D296 r n c296 x0 r296 (aI args) h).trans ((congrFun (congrFun (dJp r n) (aI args)) h).trans (by kernel_rfl))
noncomputable def cI (r : RT) (n : Nat) (x2 x3 : DV) (h0 : Hp) : aG :=
 some (.t [x2, x3], h0)
noncomputable def dE (r : RT) (n : Nat) (x3 : DV) (h0 : Hp) : aG :=
 cI r n (.b true) x3 h0
noncomputable def dW (r : RT) (n : Nat) (h0 : Hp) : aG :=
 dE r n (.b true) h0
noncomputable def qV (r : RT) (n : Nat) (x2 x3 : DV) (h0 : Hp) : aG :=
 cI r n x2 x3 h0
noncomputable def nU (r : RT) (n : Nat) (x2 x3 x11 : DV) (h0 : Hp) : aG :=
 aX x11 (
  dE r n x3 h0) (
  qV r n x2 x3 h0)
noncomputable def yA (r : RT) (n : Nat) (x2 x3 x4 : DV) (h0 : Hp) : aG :=
 bnd (aD .eql x4 (aO 6) h0) fun v1 h1 =>
 aX v1 (
  nU r n x2 x3 v1 h1) (
 bnd (aD .eql x4 (aO 7) h1) fun v2 h2 =>
 aX v2 (
   nU r n x2 x3 v2 h2) (
 bnd (aD .eql x4 (aO 8) h2) fun v3 h3 =>
 aX v3 (
    nU r n x2 x3 v3 h3) (
 bnd (aD .eql x4 (aO 9) h3) fun v4 h4 =>
 aX v4 (
     nU r n x2 x3 v4 h4) (
 bnd (aD .eql x4 (aO 10) h4) fun v5 h5 =>
 aX v5 (
      nU r n x2 x3 v5 h5) (
 bnd (aD .eql x4 (aO 11) h5) fun v6 h6 =>
      nU r n x2 x3 v6 h6)))))
noncomputable def pT (r : RT) (n : Nat) (x2 x3 x4 x5 : DV) (h0 : Hp) : aG :=
 aX x5 (
  dW r n h0) (
  yA r n x2 x3 x4 h0)
noncomputable def aSf (r : RT) (n : Nat) (x2 x3 x4 : DV) (h0 : Hp) : aG :=
 bnd (aD .eql x4 (aO 14) h0) fun v1 h1 =>
 aX v1 (
  pT r n x2 x3 x4 v1 h1) (
 bnd (aD .eql x4 (aO 15) h1) fun v2 h2 =>
 aX v2 (
   pT r n x2 x3 x4 v2 h2) (
 bnd (aD .eql x4 (aO 16) h2) fun v3 h3 =>
 aX v3 (
    pT r n x2 x3 x4 v3 h3) (
 bnd (aD .eql x4 (aO 17) h3) fun v4 h4 =>
 aX v4 (
     pT r n x2 x3 x4 v4 h4) (
 bnd (aD .eql x4 (aO 18) h4) fun v5 h5 =>
     pT r n x2 x3 x4 v5 h5))))
noncomputable def aSv (r : RT) (n : Nat) (x0 x2 x3 : DV) (h0 : Hp) : aG :=
 aSf r n x2 x3 x0 h0
noncomputable def s297 (r : RT) (n : Nat) (x0 : DV) (h0 : Hp) : aG :=
 aSv r n x0 (.b false) (.b false) h0
noncomputable abbrev c297 : Code := cf Tryz.f297
noncomputable abbrev aEt : Code := cR c297
noncomputable abbrev cTs : Code := cR aEt
noncomputable abbrev aAy : Code := cL aEt
noncomputable abbrev aPm : Code := cR aAy
noncomputable abbrev aFa : Code := cL aPm
noncomputable abbrev cYw : Code := cR aFa
noncomputable abbrev aHd : Code := cL aFa
noncomputable abbrev aIa : Code := cL aHd
noncomputable abbrev cVt : Code := cR aIa
noncomputable abbrev xD : Code := cL aIa
noncomputable abbrev wY : Code := cL xD
noncomputable abbrev cJc : Code := cR wY
noncomputable abbrev rO : Code := cL wY
noncomputable abbrev vY : Code := cR rO
noncomputable abbrev cKp : Code := cR vY
noncomputable abbrev aYg : Code := cL vY
noncomputable abbrev rH : Code := cL rO
noncomputable abbrev bZa : Code := cR rH
noncomputable abbrev bBu : Code := cL rH
noncomputable abbrev aVc : Code := cL aAy
noncomputable abbrev aVq : Code := cL c297
noncomputable abbrev r297 : K := aQ CF Tryz.f297
noncomputable def D297 (r : RT) (n : Nat) (c : Code) (X : Nat → K) (k : K) : K := aM CF r 20 n c X r297 k
theorem cIr : D297 r n cTs x0 r297 = (K2 (cI r n) 2 3) :=
 (by kernel_rfl)
theorem cIk : D297 r n cYw (xs x0 0 (K2 (cI r n) 2 3)) (K2 (cI r n) 2 3) = (K1 (dE r n) 3) :=
 (by kernel_rfl)
theorem cEa : D297 r n cVt (xs (xs x0 0 (K2 (cI r n) 2 3)) 2 (K1 (dE r n) 3)) (K1 (dE r n) 3) = (K0 (dW r n)) :=
 (by kernel_rfl)
theorem cBc : D297 r n cJc (xs (xs (xs x0 0 (K2 (cI r n) 2 3)) 2 (K1 (dE r n) 3)) 1 (K0 (dW r n))) (K0 (dW r n)) = (K2 (qV r n) 2 3) :=
 (by kernel_rfl)
theorem bYl : D297 r n cKp (xs (xs (xs x0 0 (K2 (cI r n) 2 3)) 2 (K1 (dE r n) 3)) 1 (K0 (dW r n))) (K2 (qV r n) 2 3) = (K3 (nU r n) 2 3 11) :=
 (by kernel_rfl)
theorem bPl : D297 r n vY (xs (xs (xs x0 0 (K2 (cI r n) 2 3)) 2 (K1 (dE r n) 3)) 1 (K0 (dW r n))) (K2 (qV r n) 2 3) = D297 r n aYg (xs (xs (xs x0 0 (K2 (cI r n) 2 3)) 2 (K1 (dE r n) 3)) 1 (K0 (dW r n))) (K3 (nU r n) 2 3 11) :=
 congrArg (fun k => D297 r n aYg (xs (xs (xs x0 0 (K2 (cI r n) 2 3)) 2 (K1 (dE r n) 3)) 1 (K0 (dW r n))) k) (bYl r n)
theorem cGu : D297 r n vY (xs (xs (xs x0 0 (K2 (cI r n) 2 3)) 2 (K1 (dE r n) 3)) 1 (K0 (dW r n))) (K2 (qV r n) 2 3) = (K3 (yA r n) 2 3 4) :=
 (bPl r n).trans
 ((by kernel_rfl))
theorem cMp : D297 r n bZa (xs (xs (xs x0 0 (K2 (cI r n) 2 3)) 2 (K1 (dE r n) 3)) 1 (K0 (dW r n))) (K3 (yA r n) 2 3 4) = (K4 (pT r n) 2 3 4 5) :=
 (by kernel_rfl)
theorem bOi : D297 r n aFa (xs x0 0 (K2 (cI r n) 2 3)) (K2 (cI r n) 2 3) = D297 r n aHd (xs x0 0 (K2 (cI r n) 2 3)) (K1 (dE r n) 3) :=
 congrArg (fun k => D297 r n aHd (xs x0 0 (K2 (cI r n) 2 3)) k) (cIk r n)
theorem bXs : D297 r n aIa (xs (xs x0 0 (K2 (cI r n) 2 3)) 2 (K1 (dE r n) 3)) (K1 (dE r n) 3) = D297 r n xD (xs (xs x0 0 (K2 (cI r n) 2 3)) 2 (K1 (dE r n) 3)) (K0 (dW r n)) :=
 congrArg (fun k => D297 r n xD (xs (xs x0 0 (K2 (cI r n) 2 3)) 2 (K1 (dE r n) 3)) k) (cEa r n)
theorem bKx : D297 r n wY (xs (xs (xs x0 0 (K2 (cI r n) 2 3)) 2 (K1 (dE r n) 3)) 1 (K0 (dW r n))) (K0 (dW r n)) = D297 r n rO (xs (xs (xs x0 0 (K2 (cI r n) 2 3)) 2 (K1 (dE r n) 3)) 1 (K0 (dW r n))) (K2 (qV r n) 2 3) :=
 congrArg (fun k => D297 r n rO (xs (xs (xs x0 0 (K2 (cI r n) 2 3)) 2 (K1 (dE r n) 3)) 1 (K0 (dW r n))) k) (cBc r n)
theorem bVy : D297 r n rO (xs (xs (xs x0 0 (K2 (cI r n) 2 3)) 2 (K1 (dE r n) 3)) 1 (K0 (dW r n))) (K2 (qV r n) 2 3) = D297 r n rH (xs (xs (xs x0 0 (K2 (cI r n) 2 3)) 2 (K1 (dE r n) 3)) 1 (K0 (dW r n))) (K3 (yA r n) 2 3 4) :=
 congrArg (fun k => D297 r n rH (xs (xs (xs x0 0 (K2 (cI r n) 2 3)) 2 (K1 (dE r n) 3)) 1 (K0 (dW r n))) k) (cGu r n)
theorem bIa : D297 r n rH (xs (xs (xs x0 0 (K2 (cI r n) 2 3)) 2 (K1 (dE r n) 3)) 1 (K0 (dW r n))) (K3 (yA r n) 2 3 4) = D297 r n bBu (xs (xs (xs x0 0 (K2 (cI r n) 2 3)) 2 (K1 (dE r n) 3)) 1 (K0 (dW r n))) (K4 (pT r n) 2 3 4 5) :=
 congrArg (fun k => D297 r n bBu (xs (xs (xs x0 0 (K2 (cI r n) 2 3)) 2 (K1 (dE r n) 3)) 1 (K0 (dW r n))) k) (cMp r n)
theorem cFm : D297 r n aPm x0 (K2 (cI r n) 2 3) = (K3 (aSf r n) 2 3 4) :=
 (by kernel_rfl : D297 r n aPm x0 (K2 (cI r n) 2 3) = D297 r n aFa (xs x0 0 (K2 (cI r n) 2 3)) (K2 (cI r n) 2 3)).trans
 ((bOi r n).trans
 ((by kernel_rfl : D297 r n aHd (xs x0 0 (K2 (cI r n) 2 3)) (K1 (dE r n) 3) = D297 r n aIa (xs (xs x0 0 (K2 (cI r n) 2 3)) 2 (K1 (dE r n) 3)) (K1 (dE r n) 3)).trans
 ((bXs r n).trans
 ((by kernel_rfl : D297 r n xD (xs (xs x0 0 (K2 (cI r n) 2 3)) 2 (K1 (dE r n) 3)) (K0 (dW r n)) = D297 r n wY (xs (xs (xs x0 0 (K2 (cI r n) 2 3)) 2 (K1 (dE r n) 3)) 1 (K0 (dW r n))) (K0 (dW r n))).trans
 ((bKx r n).trans
 ((bVy r n).trans
 ((bIa r n).trans
 ((by kernel_rfl)))))))))
theorem bWv : D297 r n aEt x0 r297 = D297 r n aAy x0 (K2 (cI r n) 2 3) :=
 congrArg (fun k => D297 r n aAy x0 k) (cIr r n)
theorem bIn : D297 r n aAy x0 (K2 (cI r n) 2 3) = D297 r n aVc x0 (K3 (aSf r n) 2 3 4) :=
 congrArg (fun k => D297 r n aVc x0 k) (cFm r n)
theorem cMq : D297 r n aEt x0 r297 = (K3 (aSv r n) 0 2 3) :=
 (bWv r n).trans
 ((bIn r n).trans
 ((by kernel_rfl)))
theorem cPy : D297 r n c297 x0 r297 = D297 r n aVq x0 (K3 (aSv r n) 0 2 3) :=
 congrArg (fun k => D297 r n aVq x0 k) (cMq r n)
theorem dFx : D297 r n c297 x0 r297 = (K1 (s297 r n) 0) :=
 (cPy r n).trans
 ((by kernel_rfl))
theorem cZw : aF CF r n 297 args h = s297 r n (aW args 0) h :=
 (by kernel_rfl : aF CF r n 297 args h = D297 r n c297 x0 r297 (aI args) h).trans ((congrFun (congrFun (dFx r n) (aI args)) h).trans (by kernel_rfl))
noncomputable def s298 (r : RT) (n : Nat) (x0 x1 : DV) (h0 : Hp) : aG :=
 bnd (aD .eql x0 (aO 0) h0) fun v1 h1 =>
 bnd (gD v1 false (some (x1, h1)) h1) fun v2 h2 =>
 bnd (gD v1 false (some (v2, h2)) h2) fun v3 h3 =>
 bnd (gD v3 true (some (x0, h3)) h3) fun v4 h4 =>
 bnd (gD v3 true (aD .gtr v4 (aO 0) h4) h4) fun v5 h5 =>
 bnd (gD v1 false (aP v3 v5 (.b false) h5) h5) fun v6 h6 =>
 bnd (gD v1 false (some (v6, h6)) h6) fun v7 h7 =>
 bnd (gD v7 true (some (x0, h7)) h7) fun v8 h8 =>
 bnd (gD v7 true (aD .leq v8 (aO 255) h8) h8) fun v9 h9 =>
 bnd (gD v1 false (aP v7 v9 (.b false) h9) h9) fun v10 h10 =>
 bnd (aP v1 (.b true) v10 h10) fun v11 h11 =>
 some (v11, h11)
noncomputable abbrev c298 : Code := cf Tryz.f298
noncomputable abbrev r298 : K := aQ CF Tryz.f298
noncomputable def D298 (r : RT) (n : Nat) (c : Code) (X : Nat → K) (k : K) : K := aM CF r 18 n c X r298 k
theorem dDr : D298 r n c298 x0 r298 = (K2 (s298 r n) 0 1) :=
 (by kernel_rfl)
theorem cVh : aF CF r n 298 args h = s298 r n (aW args 0) (aW args 1) h :=
 (by kernel_rfl : aF CF r n 298 args h = D298 r n c298 x0 r298 (aI args) h).trans ((congrFun (congrFun (dDr r n) (aI args)) h).trans (by kernel_rfl))
noncomputable def eM (r : RT) (n : Nat) (x2 : DV) (h0 : Hp) : aG :=
 bnd (aB 5 x2 h0) fun v1 h1 =>
 bnd (aA v1 h1) fun v2 h2 =>
 bnd (r 365 [v2] h2) fun v3 h3 =>
 bnd (aB 5 x2 h3) fun v4 h4 =>
 bnd (aA v4 h4) fun v5 h5 =>
 bnd (r 366 [v5, v3] h5) fun v6 h6 =>
 bnd (jK .not v6 h6) fun v7 h7 =>
 aX v7 (
 some (.t [.l0, (aO 19)], h7)) (
 bnd (aB 5 x2 h7) fun v8 h8 =>
 bnd (aA v8 h8) fun v9 h9 =>
 bnd (r 367 [v9, v3] h9) fun v10 h10 =>
 bnd (aC 0 v10 h10) fun v11 h11 =>
 bnd (aC 1 v10 h11) fun v12 h12 =>
 bnd (jK .not v12 h12) fun v13 h13 =>
 aX v13 (
 some (.t [.l0, (aO 19)], h13)) (
 some (.t [v11, (aO 0)], h13)))
noncomputable def aHw (r : RT) (n : Nat) (kk7 : dJ) (x1 x2 x60 x61 x62 : DV) (h0 : Hp) : aG :=
 bnd (aD .lss x62 x61 h0) fun v1 h1 =>
 aX v1 (
 bnd (aE 3 x60 x62 h1) fun v2 h2 =>
 bnd (aK 3 v2 h2) fun v3 h3 =>
 bnd (cJ [(aO 0), (aO 0), (aO 0)] h3) fun v4 h4 =>
 bnd (aH 3 v4 v3 h4) fun _ h5 =>
 bnd (aK 3 v4 h5) fun v6 h6 =>
 bnd (r 223 [v6] h6) fun v7 h7 =>
 bnd (jK .not v7 h7) fun v8 h8 =>
 bnd (gD v8 false (aK 6 x2 h8) h8) fun v9 h9 =>
 bnd (gD v8 false (aK 3 v4 h9) h9) fun v10 h10 =>
 bnd (gD v8 false (some (x1, h10)) h10) fun v11 h11 =>
 bnd (gD v8 false (r 364 [v9, v10, v11] h11) h11) fun v12 h12 =>
 bnd (gD v8 false (jK .not v12 h12) h12) fun v13 h13 =>
 bnd (aP v8 (.b true) v13 h13) fun v14 h14 =>
 aX v14 (
 some (.t [.l0, (aO 19)], h14)) (
 bnd (aD .add x62 (aO 1) h14) fun v15 h15 =>
    kk7 x1 x2 x60 x61 v15 h15)) (
      eM r n x2 h1)
noncomputable def xB (r : RT) (n : Nat) (m : Nat) : dJ :=
 Nat.rec (motive := fun _ => dJ) (fun _ _ _ _ _ _ => none) (fun _ ih => aHw r n ih) m
noncomputable def bIs (r : RT) (n : Nat) : dJ := xB r n n
noncomputable def aTz (r : RT) (n : Nat) (x1 x2 x60 x61 x62 : DV) (h0 : Hp) : aG :=
 bIs r n x1 x2 x60 x61 x62 h0
noncomputable def aUb (r : RT) (n : Nat) (x1 x2 : DV) (h0 : Hp) : aG :=
 bnd (aB 5 x2 h0) fun v1 h1 =>
 bnd (aA v1 h1) fun v2 h2 =>
 bnd (cQ v2 h2) fun v3 h3 =>
  aTz r n x1 x2 v2 v3 (aO 0) h3
noncomputable def aSu (r : RT) (n : Nat) (x1 x2 x6 x7 : DV) (h0 : Hp) : aG :=
 bnd (jK .not x6 h0) fun v1 h1 =>
 bnd (gD v1 false (some (x7, h1)) h1) fun v2 h2 =>
 bnd (aP v1 (.b true) v2 h2) fun v3 h3 =>
 bnd (gD v3 false (aB 4 x2 h3) h3) fun v4 h4 =>
 bnd (gD v3 false (aA v4 h4) h4) fun v5 h5 =>
 bnd (gD v3 false (cQ v5 h5) h5) fun v6 h6 =>
 bnd (gD v3 false (aD .gtr v6 (aO 60) h6) h6) fun v7 h7 =>
 bnd (aP v3 (.b true) v7 h7) fun v8 h8 =>
 bnd (gD v8 false (aB 5 x2 h8) h8) fun v9 h9 =>
 bnd (gD v8 false (aA v9 h9) h9) fun v10 h10 =>
 bnd (gD v8 false (cQ v10 h10) h10) fun v11 h11 =>
 bnd (gD v8 false (r 360 [v11, (aO 1), (aO 400)] h11) h11) fun v12 h12 =>
 bnd (gD v8 false (jK .not v12 h12) h12) fun v13 h13 =>
 bnd (aP v8 (.b true) v13 h13) fun v14 h14 =>
 aX v14 (
 some (.t [.l0, (aO 19)], h14)) (
  aUb r n x1 x2 h14)
noncomputable def aQy (r : RT) (n : Nat) (x1 x2 x6 : DV) (h0 : Hp) : aG :=
 bnd (aB 4 x2 h0) fun v1 h1 =>
 bnd (aA v1 h1) fun v2 h2 =>
 bnd (r 361 [v2, (.f 362 [] [])] h2) fun v3 h3 =>
  aSu r n x1 x2 x6 v3 h3
noncomputable def aAt (r : RT) (n : Nat) (x1 x2 : DV) (h0 : Hp) : aG :=
 bnd (r 360 [x1, (aO 0), (aO 8)] h0) fun v1 h1 =>
 bnd (gD v1 true (aB 0 x2 h1) h1) fun v2 h2 =>
 bnd (gD v1 true (aA v2 h2) h2) fun v3 h3 =>
 bnd (gD v1 true (cO v3 h3) h3) fun v4 h4 =>
 bnd (gD v1 true (r 360 [v4, (aO 1), (aO 60)] h4) h4) fun v5 h5 =>
 bnd (aP v1 v5 (.b false) h5) fun v6 h6 =>
 bnd (gD v6 true (aB 1 x2 h6) h6) fun v7 h7 =>
 bnd (gD v6 true (aA v7 h7) h7) fun v8 h8 =>
 bnd (gD v6 true (r 360 [v8, (aO 0), (aO 4)] h8) h8) fun v9 h9 =>
 bnd (aP v6 v9 (.b false) h9) fun v10 h10 =>
 bnd (gD v10 true (aB 2 x2 h10) h10) fun v11 h11 =>
 bnd (gD v10 true (aA v11 h11) h11) fun v12 h12 =>
 bnd (gD v10 true (aB 1 x2 h12) h12) fun v13 h13 =>
 bnd (gD v10 true (aA v13 h13) h13) fun v14 h14 =>
 bnd (gD v10 true (r 360 [v12, v14, (aO 24)] h14) h14) fun v15 h15 =>
 bnd (aP v10 v15 (.b false) h15) fun v16 h16 =>
 bnd (gD v16 true (aB 3 x2 h16) h16) fun v17 h17 =>
 bnd (gD v16 true (aA v17 h17) h17) fun v18 h18 =>
 bnd (gD v16 true (r 360 [v18, (aO 0), (aO 255)] h18) h18) fun v19 h19 =>
 bnd (aP v16 v19 (.b false) h19) fun v20 h20 =>
  aQy r n x1 x2 v20 h20
noncomputable def s299 (r : RT) (n : Nat) (x0 x1 : DV) (h0 : Hp) : aG :=
 bnd (dB x0 h0) fun v1 h1 =>
  aAt r n x1 v1 h1
noncomputable abbrev c299 : Code := cf Tryz.f299
noncomputable abbrev aKe : Code := cR c299
noncomputable abbrev aKx : Code := cR aKe
noncomputable abbrev aGh : Code := cR aKx
noncomputable abbrev aFi : Code := cR aGh
noncomputable abbrev cVk : Code := cR aFi
noncomputable abbrev zP : Code := cL aFi
noncomputable abbrev aOx : Code := cR zP
noncomputable abbrev aGl : Code := cL aOx
noncomputable abbrev oB : Code := cL aGl
noncomputable abbrev aVn : Code := cL zP
noncomputable abbrev bBh : Code := cL aGh
noncomputable abbrev bBa : Code := cL aKx
noncomputable abbrev aYc : Code := cL aKe
noncomputable abbrev aEr : Code := cL c299
noncomputable abbrev r299 : K := aQ CF Tryz.f299
noncomputable def D299 (r : RT) (n : Nat) (c : Code) (X : Nat → K) (k : K) : K := aM CF r 95 n c X r299 k
theorem cDq : D299 r n cVk x0 r299 = (K1 (eM r n) 2) :=
 (by kernel_rfl)
theorem bRf (kk7 : dJ) (q0 : TT1) : D299 r n oB (xs x0 0 (K1 q0 2)) (K5 kk7 1 2 60 61 62) = fun (env : bC) (h : Hp) =>
 bnd (aD .lss (env 62) (env 61) h) fun v1 h1 =>
 aX v1 (
 bnd (aE 3 (env 60) (env 62) h1) fun v2 h2 =>
 bnd (aK 3 v2 h2) fun v3 h3 =>
 bnd (cJ [(aO 0), (aO 0), (aO 0)] h3) fun v4 h4 =>
 bnd (aH 3 v4 v3 h4) fun _ h5 =>
 bnd (aK 3 v4 h5) fun v6 h6 =>
 bnd (r 223 [v6] h6) fun v7 h7 =>
 bnd (jK .not v7 h7) fun v8 h8 =>
 bnd (gD v8 false (aK 6 (env 2) h8) h8) fun v9 h9 =>
 bnd (gD v8 false (aK 3 v4 h9) h9) fun v10 h10 =>
 bnd (gD v8 false (some ((env 1), h10)) h10) fun v11 h11 =>
 bnd (gD v8 false (r 364 [v9, v10, v11] h11) h11) fun v12 h12 =>
 bnd (gD v8 false (jK .not v12 h12) h12) fun v13 h13 =>
 bnd (aP v8 (.b true) v13 h13) fun v14 h14 =>
 aX v14 (
 some (.t [.l0, (aO 19)], h14)) (
 bnd (aD .add (env 62) (aO 1) h14) fun v15 h15 =>
    kk7 (env 1) (env 2) (env 60) (env 61) v15 h15)) (
      q0 (env 2) h1) := by kernel_rfl
theorem bGl (kk7 : dJ) : (fun (env : bC) (h : Hp) =>
 bnd (aD .lss (env 62) (env 61) h) fun v1 h1 =>
 aX v1 (
 bnd (aE 3 (env 60) (env 62) h1) fun v2 h2 =>
 bnd (aK 3 v2 h2) fun v3 h3 =>
 bnd (cJ [(aO 0), (aO 0), (aO 0)] h3) fun v4 h4 =>
 bnd (aH 3 v4 v3 h4) fun _ h5 =>
 bnd (aK 3 v4 h5) fun v6 h6 =>
 bnd (r 223 [v6] h6) fun v7 h7 =>
 bnd (jK .not v7 h7) fun v8 h8 =>
 bnd (gD v8 false (aK 6 (env 2) h8) h8) fun v9 h9 =>
 bnd (gD v8 false (aK 3 v4 h9) h9) fun v10 h10 =>
 bnd (gD v8 false (some ((env 1), h10)) h10) fun v11 h11 =>
 bnd (gD v8 false (r 364 [v9, v10, v11] h11) h11) fun v12 h12 =>
 bnd (gD v8 false (jK .not v12 h12) h12) fun v13 h13 =>
 bnd (aP v8 (.b true) v13 h13) fun v14 h14 =>
 aX v14 (
 some (.t [.l0, (aO 19)], h14)) (
 bnd (aD .add (env 62) (aO 1) h14) fun v15 h15 =>
    kk7 (env 1) (env 2) (env 60) (env 61) v15 h15)) (
      eM r n (env 2) h1)) = (K5 (aHw r n kk7) 1 2 60 61 62) := by kernel_rfl
theorem bId (kk7 : dJ) : D299 r n oB (xs x0 0 (K1 (eM r n) 2)) (K5 kk7 1 2 60 61 62) = (K5 (aHw r n kk7) 1 2 60 61 62) :=
 (bRf r n kk7 (eM r n)).trans (bGl r n kk7)
theorem bNi (m : Nat) : aL (fun kk => D299 r n oB (xs x0 0 (K1 (eM r n) 2)) kk) m = (K5 (xB r n m) 1 2 60 61 62) := by
 induction m with
 | zero => exact (by kernel_rfl : aL (fun kk => D299 r n oB (xs x0 0 (K1 (eM r n) 2)) kk) 0 = (K5 (xB r n 0) 1 2 60 61 62))
 | succ m ih =>
  refine (by kernel_rfl : aL (fun kk => D299 r n oB (xs x0 0 (K1 (eM r n) 2)) kk) (m + 1) = D299 r n oB (xs x0 0 (K1 (eM r n) 2)) (aL (fun kk => D299 r n oB (xs x0 0 (K1 (eM r n) 2)) kk) m)).trans ?_
  rw [ih]
  exact (bId r n (xB r n m)).trans (by kernel_rfl)
theorem bZl : D299 r n aGl (xs x0 0 (K1 (eM r n) 2)) (K1 (eM r n) 2) = (K5 (bIs r n) 1 2 60 61 62) :=
 (by kernel_rfl : D299 r n aGl (xs x0 0 (K1 (eM r n) 2)) (K1 (eM r n) 2) = aL (fun kk => D299 r n oB (xs x0 0 (K1 (eM r n) 2)) kk) n).trans ((bNi r n n).trans (by kernel_rfl))
theorem cHl : D299 r n aOx x0 (K1 (eM r n) 2) = (K5 (aTz r n) 1 2 60 61 62) :=
 (by kernel_rfl : D299 r n aOx x0 (K1 (eM r n) 2) = D299 r n aGl (xs x0 0 (K1 (eM r n) 2)) (K1 (eM r n) 2)).trans
 ((bZl r n).trans (by kernel_rfl))
theorem bLd : D299 r n aFi x0 r299 = D299 r n zP x0 (K1 (eM r n) 2) :=
 congrArg (fun k => D299 r n zP x0 k) (cDq r n)
theorem bVf : D299 r n zP x0 (K1 (eM r n) 2) = D299 r n aVn x0 (K5 (aTz r n) 1 2 60 61 62) :=
 congrArg (fun k => D299 r n aVn x0 k) (cHl r n)
theorem cFs : D299 r n aFi x0 r299 = (K2 (aUb r n) 1 2) :=
 (bLd r n).trans
 ((bVf r n).trans
 ((by kernel_rfl)))
theorem bYa : D299 r n aGh x0 r299 = D299 r n bBh x0 (K2 (aUb r n) 1 2) :=
 congrArg (fun k => D299 r n bBh x0 k) (cFs r n)
theorem cIl : D299 r n aGh x0 r299 = (K4 (aSu r n) 1 2 6 7) :=
 (bYa r n).trans
 ((by kernel_rfl))
theorem bUv : D299 r n aKx x0 r299 = D299 r n bBa x0 (K4 (aSu r n) 1 2 6 7) :=
 congrArg (fun k => D299 r n bBa x0 k) (cIl r n)
theorem cKu : D299 r n aKx x0 r299 = (K3 (aQy r n) 1 2 6) :=
 (bUv r n).trans
 ((by kernel_rfl))
theorem bJm : D299 r n aKe x0 r299 = D299 r n aYc x0 (K3 (aQy r n) 1 2 6) :=
 congrArg (fun k => D299 r n aYc x0 k) (cKu r n)
theorem cCc : D299 r n aKe x0 r299 = (K2 (aAt r n) 1 2) :=
 (bJm r n).trans
 ((by kernel_rfl))
theorem cRt : D299 r n c299 x0 r299 = D299 r n aEr x0 (K2 (aAt r n) 1 2) :=
 congrArg (fun k => D299 r n aEr x0 k) (cCc r n)
theorem cSp (q0 : TT2) : D299 r n aEr x0 (K2 q0 1 2) = fun (env : bC) (h : Hp) =>
 bnd (dB (env 0) h) fun v1 h1 =>
  q0 (env 1) v1 h1 := by kernel_rfl
theorem cLx : (fun (env : bC) (h : Hp) =>
 bnd (dB (env 0) h) fun v1 h1 =>
  aAt r n (env 1) v1 h1) = (K2 (s299 r n) 0 1) := by kernel_rfl
theorem dHt : D299 r n c299 x0 r299 = (K2 (s299 r n) 0 1) :=
 (cRt r n).trans
 ((cSp r n (aAt r n)).trans (cLx r n))
theorem cUv : aF CF r n 299 args h = s299 r n (aW args 0) (aW args 1) h :=
 (by kernel_rfl : aF CF r n 299 args h = D299 r n c299 x0 r299 (aI args) h).trans ((congrFun (congrFun (dHt r n) (aI args)) h).trans (by kernel_rfl))
end Go.Dd

