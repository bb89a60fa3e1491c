/- A part of the proof: Q1 Q2 Q3 Q4 Q5 Q6 Q7 Q8 Q9: each text has a comment of its own. -/
import Derived.Test.YtjfmbeinhhdapaaGreatDoorPD1
set_option linter.unusedVariables false
set_option linter.unusedSimpArgs false
set_option linter.constructorNameAsVariable false
set_option maxRecDepth 100000
namespace Go.Dd
open Go.Proofs
variable (r : RT) (n : Nat) (args : List DV) (h : Hp)
noncomputable def s17 (r : RT) (n : Nat) (x0 x1 : DV) (h0 : Hp) : aG :=
 bnd (oW [x0, x1, (aJ 0), (.i .i64 (Int.negSucc 0))] h0) fun v1 h1 =>
 some (v1, h1)
noncomputable abbrev c17 : Code := cf Tryz.f17
noncomputable abbrev r17 : K := aO CF Tryz.f17
noncomputable def D17 (r : RT) (n : Nat) (c : Code) (X : Nat → K) (k : K) : K := aM CF r 8 n c X r17 k
theorem dXa : D17 r n c17 x0 r17 = (K2 (s17 r n) 0 1) :=
 (by kernel_rfl)
theorem dTs : aF CF r n 17 args h = s17 r n (aS args 0) (aS args 1) h :=
 (by kernel_rfl : aF CF r n 17 args h = D17 r n c17 x0 r17 (aH args) h).trans ((congrFun (congrFun (dXa r n) (aH args)) h).trans (by kernel_rfl))
noncomputable def s18 (r : RT) (n : Nat) (x0 : DV) (h0 : Hp) : aG :=
 bnd (bQ [(aJ 0), (.s []), (.s []), .l0, (.s []), (aJ 0)] h0) fun v1 h1 =>
 bnd (bW .eql x0 (.s [99, 111, 108, 108, 101, 99, 116]) h1) fun v2 h2 =>
 aT v2 (
 bnd (bL [(aJ 0), (.s []), (.s []), .l0, (.s []), (aJ 0)] [(0, 1, (aJ 5))] h2) fun v3 h3 =>
 bnd (aI 6 v1 v3 h3) fun _ h4 =>
 bnd (aK 6 v1 h4) fun v5 _ =>
 some (.t [v5, (.b true)], h4)) (
 bnd (bW .eql x0 (.s [102, 108, 117, 115, 104]) h2) fun v6 h6 =>
 aT v6 (
 bnd (bL [(aJ 0), (.s []), (.s []), .l0, (.s []), (aJ 0)] [(0, 1, (aJ 6))] h6) fun v7 h7 =>
 bnd (aI 6 v1 v7 h7) fun _ h8 =>
 bnd (aK 6 v1 h8) fun v9 _ =>
 some (.t [v9, (.b true)], h8)) (
 bnd (bW .eql x0 (.s [105, 109, 97, 103, 101]) h6) fun v10 h10 =>
 aT v10 (
 bnd (bL [(aJ 0), (.s []), (.s []), .l0, (.s []), (aJ 0)] [(0, 1, (aJ 7))] h10) fun v11 h11 =>
 bnd (aI 6 v1 v11 h11) fun _ h12 =>
 bnd (aK 6 v1 h12) fun v13 _ =>
 some (.t [v13, (.b true)], h12)) (
 bnd (aGp [x0, (.s [32])] h10) fun v14 h14 =>
 bnd (aC 0 v14 h14) fun v15 h15 =>
 bnd (aC 1 v14 h15) fun v16 h16 =>
 bnd (aC 2 v14 h16) fun v17 h17 =>
 bnd (r 34 [] h17) fun v18 h18 =>
 bnd (eC .string .f0 true v18 v15 h18) fun v19 h19 =>
 bnd (aC 0 v19 h19) fun v20 h20 =>
 bnd (aC 1 v19 h20) fun v21 h21 =>
 bnd (hZ .not v17 h21) fun v22 h22 =>
 bnd (gD v22 false (some (v21, h22)) h22) fun v23 h23 =>
 bnd (gD v22 false (hZ .not v23 h23) h23) fun v24 h24 =>
 bnd (aN v22 (.b true) v24 h24) fun v25 h25 =>
 aT v25 (
 bnd (bL [(aJ 0), (.s []), (.s []), .l0, (.s []), (aJ 0)] [] h25) fun v26 h26 =>
 bnd (aI 6 v1 v26 h26) fun _ h27 =>
 bnd (aK 6 v1 h27) fun v28 _ =>
 some (.t [v28, (.b false)], h27)) (
 bnd (gX CF r v20 [v16] h25) fun v29 h29 =>
 bnd (aC 0 v29 h29) fun v30 h30 =>
 bnd (aC 1 v29 h30) fun v31 h31 =>
 bnd (aI 6 v1 v30 h31) fun _ h32 =>
 bnd (aK 6 v1 h32) fun v33 _ =>
 some (.t [v33, v31], h32)))))
noncomputable abbrev c18 : Code := cf Tryz.f18
noncomputable abbrev r18 : K := aO CF Tryz.f18
noncomputable def D18 (r : RT) (n : Nat) (c : Code) (X : Nat → K) (k : K) : K := aM CF r 43 n c X r18 k
theorem dWr : D18 r n c18 x0 r18 = (K1 (s18 r n) 0) :=
 (by kernel_rfl)
theorem dPz : aF CF r n 18 args h = s18 r n (aS args 0) h :=
 (by kernel_rfl : aF CF r n 18 args h = D18 r n c18 x0 r18 (aH args) h).trans ((congrFun (congrFun (dWr r n) (aH args)) h).trans (by kernel_rfl))
noncomputable def eK (r : RT) (n : Nat) (x5 : DV) (h0 : Hp) : aG :=
 some (x5, h0)
noncomputable def aAh (r : RT) (n : Nat) (kk6 : cI) (x0 x1 x5 x6 x7 : DV) (h0 : Hp) : aG :=
 bnd (aD .add x7 (aJ 1) h0) fun v1 h1 =>
  kk6 x0 x1 x5 x6 v1 h1
noncomputable def bBb (r : RT) (n : Nat) (kk6 : cI) (x0 x1 x5 x6 x7 : DV) (h0 : Hp) : aG :=
 bnd (cJ x0 h0) fun v1 h1 =>
 bnd (aD .eql x7 v1 h1) fun v2 h2 =>
 bnd (gD v2 false (some (x0, h2)) h2) fun v3 h3 =>
 bnd (gD v2 false (some (x7, h3)) h3) fun v4 h4 =>
 bnd (gD v2 false (bY v3 v4 h4) h4) fun v5 h5 =>
 bnd (gD v2 false (some (x1, h5)) h5) fun v6 h6 =>
 bnd (gD v2 false (aD .eql v5 v6 h6) h6) fun v7 h7 =>
 bnd (aN v2 (.b true) v7 h7) fun v8 h8 =>
 aT v8 (
 bnd (cP x0 (some x6) (some x7) h8) fun v9 h9 =>
 bnd (aP [(.s [])] 1 [(0, 1, v9)] h9) fun v10 h10 =>
 bnd (bF 1 16 x5 v10 h10) fun v11 h11 =>
 bnd (aD .add x7 (aJ 1) h11) fun v12 h12 =>
  aAh r n kk6 x0 x1 v11 v12 x7 h12) (
  aAh r n kk6 x0 x1 x5 x6 x7 h8)
noncomputable def bQy (r : RT) (n : Nat) (kk6 : cI) (x0 x1 x5 x6 x7 : DV) (h0 : Hp) : aG :=
 bnd (cJ x0 h0) fun v1 h1 =>
 bnd (aD .leq x7 v1 h1) fun v2 h2 =>
 aT v2 (
   bBb r n kk6 x0 x1 x5 x6 x7 h2) (
   eK r n x5 h2)
noncomputable def aIr (r : RT) (n : Nat) (m : Nat) : cI :=
 Nat.rec (motive := fun _ => cI) (fun _ _ _ _ _ _ => none) (fun _ ih => bQy r n ih) m
noncomputable def cVp (r : RT) (n : Nat) : cI := aIr r n n
noncomputable def cEp (r : RT) (n : Nat) (x0 x1 x5 x6 x7 : DV) (h0 : Hp) : aG :=
 cVp r n x0 x1 x5 x6 x7 h0
noncomputable def bSq (r : RT) (n : Nat) (x0 x1 x5 x6 : DV) (h0 : Hp) : aG :=
 cEp r n x0 x1 x5 x6 (aJ 0) h0
noncomputable def bKo (r : RT) (n : Nat) (x0 x1 x5 : DV) (h0 : Hp) : aG :=
 bSq r n x0 x1 x5 (aJ 0) h0
noncomputable def bQt (r : RT) (n : Nat) (x0 x1 : DV) (h0 : Hp) : aG :=
 bKo r n x0 x1 .l0 h0
noncomputable def s19 (r : RT) (n : Nat) (x0 x1 : DV) (h0 : Hp) : aG :=
 bQt r n x0 x1 h0
noncomputable abbrev c19 : Code := cf Tryz.f19
noncomputable abbrev bBd : Code := cR c19
noncomputable abbrev aYd : Code := cR bBd
noncomputable abbrev aZk : Code := cR aYd
noncomputable abbrev dQj : Code := cR aZk
noncomputable abbrev aMh : Code := cL aZk
noncomputable abbrev bPw : Code := cR aMh
noncomputable abbrev aZs : Code := cL bPw
noncomputable abbrev oH : Code := cL aZs
noncomputable abbrev bEn : Code := cR oH
noncomputable abbrev dDd : Code := cR bEn
noncomputable abbrev aPl : Code := cL bEn
noncomputable abbrev cEn : Code := cL oH
noncomputable abbrev bVm : Code := cL aMh
noncomputable abbrev bQc : Code := cL aYd
noncomputable abbrev cDq : Code := cL bBd
noncomputable abbrev bKg : Code := cL c19
noncomputable abbrev r19 : K := aO CF Tryz.f19
noncomputable def D19 (r : RT) (n : Nat) (c : Code) (X : Nat → K) (k : K) : K := aM CF r 35 n c X r19 k
theorem dAk : D19 r n dQj x0 r19 = (K1 (eK r n) 5) :=
 (by kernel_rfl)
theorem dLb (kk6 : cI) : D19 r n dDd (xs x0 0 (K1 (eK r n) 5)) (K5 kk6 0 1 5 6 7) = (K5 (aAh r n kk6) 0 1 5 6 7) :=
 (by kernel_rfl)
theorem cQa (kk6 : cI) : D19 r n bEn (xs x0 0 (K1 (eK r n) 5)) (K5 kk6 0 1 5 6 7) = D19 r n aPl (xs x0 0 (K1 (eK r n) 5)) (K5 (aAh r n kk6) 0 1 5 6 7) :=
 congrArg (fun k => D19 r n aPl (xs x0 0 (K1 (eK r n) 5)) k) (dLb r n kk6)
theorem cUl (kk6 : cI) (q0 : cI) (q1 : TT1) : D19 r n aPl (xs x0 0 (K1 q1 5)) (K5 q0 0 1 5 6 7) = fun (env : aZ) (h : Hp) =>
 bnd (cJ (env 0) h) fun v1 h1 =>
 bnd (aD .eql (env 7) v1 h1) fun v2 h2 =>
 bnd (gD v2 false (some ((env 0), h2)) h2) fun v3 h3 =>
 bnd (gD v2 false (some ((env 7), h3)) h3) fun v4 h4 =>
 bnd (gD v2 false (bY v3 v4 h4) h4) fun v5 h5 =>
 bnd (gD v2 false (some ((env 1), h5)) h5) fun v6 h6 =>
 bnd (gD v2 false (aD .eql v5 v6 h6) h6) fun v7 h7 =>
 bnd (aN v2 (.b true) v7 h7) fun v8 h8 =>
 aT v8 (
 bnd (cP (env 0) (some (env 6)) (some (env 7)) h8) fun v9 h9 =>
 bnd (aP [(.s [])] 1 [(0, 1, v9)] h9) fun v10 h10 =>
 bnd (bF 1 16 (env 5) v10 h10) fun v11 h11 =>
 bnd (aD .add (env 7) (aJ 1) h11) fun v12 h12 =>
      q0 (env 0) (env 1) v11 v12 (env 7) h12) (
      q0 (env 0) (env 1) (env 5) (env 6) (env 7) h8) := by kernel_rfl
theorem cEg (kk6 : cI) : (fun (env : aZ) (h : Hp) =>
 bnd (cJ (env 0) h) fun v1 h1 =>
 bnd (aD .eql (env 7) v1 h1) fun v2 h2 =>
 bnd (gD v2 false (some ((env 0), h2)) h2) fun v3 h3 =>
 bnd (gD v2 false (some ((env 7), h3)) h3) fun v4 h4 =>
 bnd (gD v2 false (bY v3 v4 h4) h4) fun v5 h5 =>
 bnd (gD v2 false (some ((env 1), h5)) h5) fun v6 h6 =>
 bnd (gD v2 false (aD .eql v5 v6 h6) h6) fun v7 h7 =>
 bnd (aN v2 (.b true) v7 h7) fun v8 h8 =>
 aT v8 (
 bnd (cP (env 0) (some (env 6)) (some (env 7)) h8) fun v9 h9 =>
 bnd (aP [(.s [])] 1 [(0, 1, v9)] h9) fun v10 h10 =>
 bnd (bF 1 16 (env 5) v10 h10) fun v11 h11 =>
 bnd (aD .add (env 7) (aJ 1) h11) fun v12 h12 =>
      aAh r n kk6 (env 0) (env 1) v11 v12 (env 7) h12) (
      aAh r n kk6 (env 0) (env 1) (env 5) (env 6) (env 7) h8)) = (K5 (bBb r n kk6) 0 1 5 6 7) := by kernel_rfl
theorem dDe (kk6 : cI) : D19 r n bEn (xs x0 0 (K1 (eK r n) 5)) (K5 kk6 0 1 5 6 7) = (K5 (bBb r n kk6) 0 1 5 6 7) :=
 (cQa r n kk6).trans
 ((cUl r n kk6 (aAh r n kk6) (eK r n)).trans (cEg r n kk6))
theorem cSj (kk6 : cI) : D19 r n oH (xs x0 0 (K1 (eK r n) 5)) (K5 kk6 0 1 5 6 7) = D19 r n cEn (xs x0 0 (K1 (eK r n) 5)) (K5 (bBb r n kk6) 0 1 5 6 7) :=
 congrArg (fun k => D19 r n cEn (xs x0 0 (K1 (eK r n) 5)) k) (dDe r n kk6)
theorem cGr (kk6 : cI) : D19 r n oH (xs x0 0 (K1 (eK r n) 5)) (K5 kk6 0 1 5 6 7) = (K5 (bQy r n kk6) 0 1 5 6 7) :=
 (cSj r n kk6).trans
 ((by kernel_rfl))
theorem cMv (m : Nat) : aL (fun kk => D19 r n oH (xs x0 0 (K1 (eK r n) 5)) kk) m = (K5 (aIr r n m) 0 1 5 6 7) := by
 induction m with
 | zero => exact (by kernel_rfl : aL (fun kk => D19 r n oH (xs x0 0 (K1 (eK r n) 5)) kk) 0 = (K5 (aIr r n 0) 0 1 5 6 7))
 | succ m ih =>
  refine (by kernel_rfl : aL (fun kk => D19 r n oH (xs x0 0 (K1 (eK r n) 5)) kk) (m + 1) = D19 r n oH (xs x0 0 (K1 (eK r n) 5)) (aL (fun kk => D19 r n oH (xs x0 0 (K1 (eK r n) 5)) kk) m)).trans ?_
  rw [ih]
  exact (cGr r n (aIr r n m)).trans (by kernel_rfl)
theorem dFs : D19 r n aZs (xs x0 0 (K1 (eK r n) 5)) (K1 (eK r n) 5) = (K5 (cVp r n) 0 1 5 6 7) :=
 (by kernel_rfl : D19 r n aZs (xs x0 0 (K1 (eK r n) 5)) (K1 (eK r n) 5) = aL (fun kk => D19 r n oH (xs x0 0 (K1 (eK r n) 5)) kk) n).trans ((cMv r n n).trans (by kernel_rfl))
theorem dDl : D19 r n bPw x0 (K1 (eK r n) 5) = (K5 (cEp r n) 0 1 5 6 7) :=
 (by kernel_rfl : D19 r n bPw x0 (K1 (eK r n) 5) = D19 r n aZs (xs x0 0 (K1 (eK r n) 5)) (K1 (eK r n) 5)).trans
 ((dFs r n).trans (by kernel_rfl))
theorem cLs : D19 r n aZk x0 r19 = D19 r n aMh x0 (K1 (eK r n) 5) :=
 congrArg (fun k => D19 r n aMh x0 k) (dAk r n)
theorem cPq : D19 r n aMh x0 (K1 (eK r n) 5) = D19 r n bVm x0 (K5 (cEp r n) 0 1 5 6 7) :=
 congrArg (fun k => D19 r n bVm x0 k) (dDl r n)
theorem dFp : D19 r n aZk x0 r19 = (K4 (bSq r n) 0 1 5 6) :=
 (cLs r n).trans
 ((cPq r n).trans
 ((by kernel_rfl)))
theorem cPe : D19 r n aYd x0 r19 = D19 r n bQc x0 (K4 (bSq r n) 0 1 5 6) :=
 congrArg (fun k => D19 r n bQc x0 k) (dFp r n)
theorem dGb : D19 r n aYd x0 r19 = (K3 (bKo r n) 0 1 5) :=
 (cPe r n).trans
 ((by kernel_rfl))
theorem cLt : D19 r n bBd x0 r19 = D19 r n cDq x0 (K3 (bKo r n) 0 1 5) :=
 congrArg (fun k => D19 r n cDq x0 k) (dGb r n)
theorem dJw : D19 r n bBd x0 r19 = (K2 (bQt r n) 0 1) :=
 (cLt r n).trans
 ((by kernel_rfl))
theorem dTp : D19 r n c19 x0 r19 = D19 r n bKg x0 (K2 (bQt r n) 0 1) :=
 congrArg (fun k => D19 r n bKg x0 k) (dJw r n)
theorem eBh : D19 r n c19 x0 r19 = (K2 (s19 r n) 0 1) :=
 (dTp r n).trans
 ((by kernel_rfl))
theorem dUz : aF CF r n 19 args h = s19 r n (aS args 0) (aS args 1) h :=
 (by kernel_rfl : aF CF r n 19 args h = D19 r n c19 x0 r19 (aH args) h).trans ((congrFun (congrFun (eBh r n) (aH args)) h).trans (by kernel_rfl))
noncomputable def bG (r : RT) (n : Nat) (x2 x4 : DV) (h0 : Hp) : aG :=
 bnd (aK 6 x4 h0) fun v1 h1 =>
 bnd (aI 6 x2 v1 h1) fun _ h2 =>
 bnd (aK 6 x2 h2) fun v3 _ =>
 some (.t [v3, (.b false)], h2)
noncomputable def aCy (r : RT) (n : Nat) (x2 x4 : DV) (h0 : Hp) : aG :=
 bnd (aK 6 x4 h0) fun v1 h1 =>
 bnd (aI 6 x2 v1 h1) fun _ h2 =>
 bnd (aK 6 x2 h2) fun v3 _ =>
 some (.t [v3, (.b true)], h2)
noncomputable def yD (r : RT) (n : Nat) (x2 x4 x5 : DV) (h0 : Hp) : aG :=
 bnd (aE 1 x5 (aJ 0) h0) fun v1 h1 =>
 bnd (aA v1 h1) fun v2 h2 =>
 bnd (bW .eql v2 (.s [102, 97, 115, 116]) h2) fun v3 h3 =>
 aT v3 (
 bnd (aB 5 x4 h3) fun v4 h4 =>
 bnd (aI 1 v4 (aJ 1) h4) fun _ h5 =>
  aCy r n x2 x4 h5) (
  aCy r n x2 x4 h3)
noncomputable def aJj (r : RT) (n : Nat) (x2 x4 x5 : DV) (h0 : Hp) : aG :=
 bnd (aE 1 x5 (aJ 1) h0) fun v1 h1 =>
 bnd (aA v1 h1) fun v2 h2 =>
 bnd (aE 1 x5 (aJ 2) h2) fun v3 h3 =>
 bnd (aA v3 h3) fun v4 h4 =>
 bnd (bL [(aJ 0), (.s []), (.s []), .l0, (.s []), (aJ 0)] [(0, 1, (aJ 4)), (1, 1, v2), (4, 1, v4)] h4) fun v5 h5 =>
 bnd (aI 6 x4 v5 h5) fun v6 h6 =>
  yD r n x2 x4 x5 h6
noncomputable def cAf (r : RT) (n : Nat) (x2 x4 x5 x6 : DV) (h0 : Hp) : aG :=
 bnd (bV x5 h0) fun v1 h1 =>
 bnd (aD .neq v1 (aJ 3) h1) fun v2 h2 =>
 bnd (gD v2 false (some (x6, h2)) h2) fun v3 h3 =>
 bnd (aN v2 (.b true) v3 h3) fun v4 h4 =>
 aT v4 (
 bnd (aK 6 x4 h4) fun v5 h5 =>
 bnd (aI 6 x2 v5 h5) fun _ h6 =>
 bnd (aK 6 x2 h6) fun v7 _ =>
 some (.t [v7, (.b false)], h6)) (
  aJj r n x2 x4 x5 h4)
noncomputable def aKd (r : RT) (n : Nat) (x2 x4 x5 x6 x43 x112 : DV) (h0 : Hp) : aG :=
 aT x112 (
  cAf r n x2 x4 x5 x6 h0) (
 bnd (bW .eql x43 (.s [101, 118, 101, 114, 121]) h0) fun v1 h1 =>
 aT v1 (
 bnd (bV x5 h1) fun v2 h2 =>
 bnd (aD .neq v2 (aJ 2) h2) fun v3 h3 =>
 bnd (gD v3 false (some (x5, h3)) h3) fun v4 h4 =>
 bnd (gD v3 false (aE 1 v4 (aJ 1) h4) h4) fun v5 h5 =>
 bnd (gD v3 false (aA v5 h5) h5) fun v6 h6 =>
 bnd (gD v3 false (r 35 [v6] h6) h6) fun v7 h7 =>
 bnd (gD v3 false (aD .lss v7 (aJ 0) h7) h7) fun v8 h8 =>
 bnd (aN v3 (.b true) v8 h8) fun v9 h9 =>
 aT v9 (
 bnd (aK 6 x4 h9) fun v10 h10 =>
 bnd (aI 6 x2 v10 h10) fun _ h11 =>
 bnd (aK 6 x2 h11) fun v12 _ =>
 some (.t [v12, (.b false)], h11)) (
 bnd (aE 1 x5 (aJ 1) h9) fun v13 h13 =>
 bnd (aA v13 h13) fun v14 h14 =>
 bnd (r 35 [v14] h14) fun v15 h15 =>
 bnd (bL [(aJ 0), (.s []), (.s []), .l0, (.s []), (aJ 0)] [(0, 1, (aJ 8)), (5, 1, v15)] h15) fun v16 h16 =>
 bnd (aI 6 x2 v16 h16) fun _ h17 =>
 bnd (aK 6 x2 h17) fun v18 _ =>
 some (.t [v18, (.b true)], h17))) (
   bG r n x2 x4 h1))
noncomputable def bXp (r : RT) (n : Nat) (x2 x4 x5 x6 x43 : DV) (h0 : Hp) : aG :=
 bnd (bW .eql x43 (.s [102, 97, 115, 116]) h0) fun v1 h1 =>
 aT v1 (
  aKd r n x2 x4 x5 x6 x43 v1 h1) (
 bnd (bW .eql x43 (.s [115, 108, 111, 119]) h1) fun v2 h2 =>
  aKd r n x2 x4 x5 x6 x43 v2 h2)
noncomputable def aWa (r : RT) (n : Nat) (x0 x2 x4 x5 x6 x43 x86 : DV) (h0 : Hp) : aG :=
 aT x86 (
 bnd (bV x5 h0) fun v1 h1 =>
 bnd (aD .lss v1 (aJ 3) h1) fun v2 h2 =>
 bnd (gD v2 false (some (x5, h2)) h2) fun v3 h3 =>
 bnd (gD v2 false (aE 1 v3 (aJ 1) h3) h3) fun v4 h4 =>
 bnd (gD v2 false (aA v4 h4) h4) fun v5 h5 =>
 bnd (gD v2 false (r 35 [v5] h5) h5) fun v6 h6 =>
 bnd (gD v2 false (aD .lss v6 (aJ 0) h6) h6) fun v7 h7 =>
 bnd (aN v2 (.b true) v7 h7) fun v8 h8 =>
 aT v8 (
 bnd (aK 6 x4 h8) fun v9 h9 =>
 bnd (aI 6 x2 v9 h9) fun _ h10 =>
 bnd (aK 6 x2 h10) fun v11 _ =>
 some (.t [v11, (.b false)], h10)) (
 bnd (aE 1 x5 (aJ 1) h8) fun v12 h12 =>
 bnd (aA v12 h12) fun v13 h13 =>
 bnd (r 35 [v13] h13) fun v14 h14 =>
 bnd (aE 1 x5 (aJ 1) h14) fun v15 h15 =>
 bnd (aA v15 h15) fun v16 h16 =>
 cnd (bB (aA v15 h8) v16 && true) (
 bnd (cJ v16 h16) fun v17 h17 =>
 bnd (aD .add (aJ 3) v17 h17) fun v18 h18 =>
 bnd (aD .add v18 (aJ 1) h18) fun v19 h19 =>
 bnd (cP x0 (some v19) none h19) fun v20 h20 =>
 bnd (bL [(aJ 0), (.s []), (.s []), .l0, (.s []), (aJ 0)] [(0, 1, (aJ 3)), (5, 1, v14), (4, 1, v20)] h20) fun v21 h21 =>
 bnd (aI 6 x2 v21 h21) fun v22 h22 =>
 bnd (aK 6 x2 h22) fun v23 _ =>
 some (.t [v23, (.b true)], h22)))) (
  bXp r n x2 x4 x5 x6 x43 h0)
noncomputable def cAv (r : RT) (n : Nat) (x0 x2 x4 x5 x6 x43 : DV) (h0 : Hp) : aG :=
 bnd (bW .eql x43 (.s [100, 111]) h0) fun v1 h1 =>
  aWa r n x0 x2 x4 x5 x6 x43 v1 h1
noncomputable def aVq (r : RT) (n : Nat) (x0 x2 x4 x5 x6 x43 x62 : DV) (h0 : Hp) : aG :=
 aT x62 (
 bnd (bV x5 h0) fun v1 h1 =>
 bnd (aD .lss v1 (aJ 3) h1) fun v2 h2 =>
 bnd (gD v2 false (some (x5, h2)) h2) fun v3 h3 =>
 bnd (gD v2 false (aE 1 v3 (aJ 1) h3) h3) fun v4 h4 =>
 bnd (gD v2 false (aA v4 h4) h4) fun v5 h5 =>
 bnd (gD v2 false (bW .eql v5 (.s []) h5) h5) fun v6 h6 =>
 bnd (aN v2 (.b true) v6 h6) fun v7 h7 =>
 aT v7 (
 bnd (aK 6 x4 h7) fun v8 h8 =>
 bnd (aI 6 x2 v8 h8) fun _ h9 =>
 bnd (aK 6 x2 h9) fun v10 _ =>
 some (.t [v10, (.b false)], h9)) (
 bnd (aE 1 x5 (aJ 1) h7) fun v11 h11 =>
 bnd (aA v11 h11) fun v12 h12 =>
 bnd (aE 1 x5 (aJ 1) h12) fun v13 h13 =>
 bnd (aA v13 h13) fun v14 h14 =>
 bnd (cJ v14 h14) fun v15 h15 =>
 bnd (aD .add (aJ 7) v15 h15) fun v16 h16 =>
 bnd (aD .add v16 (aJ 1) h16) fun v17 h17 =>
 bnd (cP x0 (some v17) none h17) fun v18 h18 =>
 bnd (bL [(aJ 0), (.s []), (.s []), .l0, (.s []), (aJ 0)] [(0, 1, (aJ 2)), (1, 1, v12), (4, 1, v18)] h18) fun v19 h19 =>
 bnd (aI 6 x2 v19 h19) fun v20 h20 =>
 bnd (aK 6 x2 h20) fun v21 _ =>
 some (.t [v21, (.b true)], h20))) (
  cAv r n x0 x2 x4 x5 x6 x43 h0)
noncomputable def bMg (r : RT) (n : Nat) (x0 x2 x4 x5 x6 x43 : DV) (h0 : Hp) : aG :=
 bnd (bW .eql x43 (.s [109, 101, 116, 104, 111, 100]) h0) fun v1 h1 =>
  aVq r n x0 x2 x4 x5 x6 x43 v1 h1
noncomputable def bUr (r : RT) (n : Nat) (x0 x2 x4 x5 x6 x43 x44 : DV) (h0 : Hp) : aG :=
 aT x44 (
 bnd (bV x5 h0) fun v1 h1 =>
 bnd (aD .lss v1 (aJ 3) h1) fun v2 h2 =>
 bnd (gD v2 false (some (x6, h2)) h2) fun v3 h3 =>
 bnd (aN v2 (.b true) v3 h3) fun v4 h4 =>
 aT v4 (
 bnd (aK 6 x4 h4) fun v5 h5 =>
 bnd (aI 6 x2 v5 h5) fun _ h6 =>
 bnd (aK 6 x2 h6) fun v7 _ =>
 some (.t [v7, (.b false)], h6)) (
 bnd (aE 1 x5 (aJ 1) h4) fun v8 h8 =>
 bnd (aA v8 h8) fun v9 h9 =>
 bnd (aE 1 x5 (aJ 2) h9) fun v10 h10 =>
 bnd (aA v10 h10) fun v11 h11 =>
 bnd (cS 1 x5 (some (aJ 3)) none h11) fun v12 h12 =>
 bnd (bL [(aJ 0), (.s []), (.s []), .l0, (.s []), (aJ 0)] [(0, 1, (aJ 1)), (1, 1, v9), (2, 1, v11), (3, 1, v12)] h12) fun v13 h13 =>
 bnd (aI 6 x2 v13 h13) fun v14 h14 =>
 bnd (aK 6 x2 h14) fun v15 _ =>
 some (.t [v15, (.b true)], h14))) (
  bMg r n x0 x2 x4 x5 x6 x43 h0)
noncomputable def bZd (r : RT) (n : Nat) (x0 x2 x4 x5 x6 x43 : DV) (h0 : Hp) : aG :=
 bnd (bW .eql x43 (.s [99, 108, 97, 115, 115]) h0) fun v1 h1 =>
  bUr r n x0 x2 x4 x5 x6 x43 v1 h1
noncomputable def gW (r : RT) (n : Nat) (x0 x2 x4 x5 x6 : DV) (h0 : Hp) : aG :=
 bnd (aE 1 x5 (aJ 0) h0) fun v1 h1 =>
 bnd (aA v1 h1) fun v2 h2 =>
  bZd r n x0 x2 x4 x5 x6 v2 h2
noncomputable def bAk (r : RT) (n : Nat) (kk21 : gJ) (x0 x2 x4 x5 x6 x7 : DV) (h0 : Hp) : aG :=
 bnd (bV x5 h0) fun v1 h1 =>
 bnd (aD .lss x7 v1 h1) fun v2 h2 =>
 aT v2 (
 bnd (gD x6 false (some (x5, h2)) h2) fun v3 h3 =>
 bnd (gD x6 false (some (x7, h3)) h3) fun v4 h4 =>
 bnd (gD x6 false (aE 1 v3 v4 h4) h4) fun v5 h5 =>
 bnd (gD x6 false (aA v5 h5) h5) fun v6 h6 =>
 bnd (gD x6 false (bW .eql v6 (.s []) h6) h6) fun v7 h7 =>
 bnd (aN x6 (.b true) v7 h7) fun v8 h8 =>
 bnd (aD .add x7 (aJ 1) h8) fun v9 h9 =>
      kk21 x0 x2 x4 x5 v8 v9 h9) (
      gW r n x0 x2 x4 x5 x6 h2)
noncomputable def uD (r : RT) (n : Nat) (m : Nat) : gJ :=
 Nat.rec (motive := fun _ => gJ) (fun _ _ _ _ _ _ _ => none) (fun _ ih => bAk r n ih) m
noncomputable def bZq (r : RT) (n : Nat) : gJ := uD r n n
noncomputable def aVl (r : RT) (n : Nat) (x0 x2 x4 x5 x6 x7 : DV) (h0 : Hp) : aG :=
 bZq r n x0 x2 x4 x5 x6 x7 h0
noncomputable def cAe (r : RT) (n : Nat) (x0 x2 x4 x5 x6 : DV) (h0 : Hp) : aG :=
 aVl r n x0 x2 x4 x5 x6 (aJ 1) h0
noncomputable def mY (r : RT) (n : Nat) (x0 x2 x4 x5 : DV) (h0 : Hp) : aG :=
 cAe r n x0 x2 x4 x5 (.b false) h0
noncomputable def sN (r : RT) (n : Nat) (x2 x4 : DV) (h0 : Hp) : aG :=
 bnd (aK 6 x4 h0) fun v1 h1 =>
 bnd (aB 0 x4 h1) fun v2 h2 =>
 bnd (aA v2 h2) fun v3 h3 =>
 bnd (aD .neq v3 (aJ 0) h3) fun v4 h4 =>
 bnd (aI 6 x2 v1 h4) fun v5 h5 =>
 cnd (bB (aA v2 h5) v3 && true) (
 bnd (aK 6 x2 h5) fun v6 _ =>
 some (.t [v6, v4], h5))
noncomputable def bYq (r : RT) (n : Nat) (x0 x2 x4 : DV) (h0 : Hp) : aG :=
 bnd (bW .eql x0 (.s [99, 111, 108, 108, 101, 99, 116]) h0) fun v1 h1 =>
 aT v1 (
 bnd (aB 0 x4 h1) fun v2 h2 =>
 bnd (aI 1 v2 (aJ 5) h2) fun _ h3 =>
  sN r n x2 x4 h3) (
 bnd (bW .eql x0 (.s [102, 108, 117, 115, 104]) h1) fun v4 h4 =>
 aT v4 (
 bnd (aB 0 x4 h4) fun v5 h5 =>
 bnd (aI 1 v5 (aJ 6) h5) fun _ h6 =>
      sN r n x2 x4 h6) (
 bnd (bW .eql x0 (.s [105, 109, 97, 103, 101]) h4) fun v7 h7 =>
 aT v7 (
 bnd (aB 0 x4 h7) fun v8 h8 =>
 bnd (aI 1 v8 (aJ 7) h8) fun _ h9 =>
    sN r n x2 x4 h9) (
    sN r n x2 x4 h7)))
noncomputable def aRi (r : RT) (n : Nat) (x0 x2 x4 x5 x12 : DV) (h0 : Hp) : aG :=
 aT x12 (
  bYq r n x0 x2 x4 h0) (
  mY r n x0 x2 x4 x5 h0)
noncomputable def cCg (r : RT) (n : Nat) (x0 x2 x4 x5 : DV) (h0 : Hp) : aG :=
 bnd (bV x5 h0) fun v1 h1 =>
 bnd (aD .eql v1 (aJ 1) h1) fun v2 h2 =>
  aRi r n x0 x2 x4 x5 v2 h2
noncomputable def aNk (r : RT) (n : Nat) (x0 x2 x4 : DV) (h0 : Hp) : aG :=
 bnd (r 19 [x0, (.i .u8 (Int.ofNat 32))] h0) fun v1 h1 =>
  cCg r n x0 x2 x4 v1 h1
noncomputable def aBu (r : RT) (n : Nat) (x0 x2 : DV) (h0 : Hp) : aG :=
 bnd (bQ [(aJ 0), (.s []), (.s []), .l0, (.s []), (aJ 0)] h0) fun v1 h1 =>
  aNk r n x0 x2 v1 h1
noncomputable def s20 (r : RT) (n : Nat) (x0 : DV) (h0 : Hp) : aG :=
 bnd (bQ [(aJ 0), (.s []), (.s []), .l0, (.s []), (aJ 0)] h0) fun v1 h1 =>
  aBu r n x0 v1 h1
noncomputable abbrev c20 : Code := cf Tryz.f20
noncomputable abbrev aZm : Code := cR c20
noncomputable abbrev aXg : Code := cR aZm
noncomputable abbrev aZv : Code := cR aXg
noncomputable abbrev aYu : Code := cR aZv
noncomputable abbrev bBz : Code := cR aYu
noncomputable abbrev aXr : Code := cR bBz
noncomputable abbrev dOc : Code := cR aXr
noncomputable abbrev aNl : Code := cL aXr
noncomputable abbrev bOg : Code := cR aNl
noncomputable abbrev aEr : Code := cL bOg
noncomputable abbrev aAj : Code := cR aEr
noncomputable abbrev aAu : Code := cR aAj
noncomputable abbrev wM : Code := cR aAu
noncomputable abbrev yQ : Code := cR wM
noncomputable abbrev yK : Code := cR yQ
noncomputable abbrev zG : Code := cR yK
noncomputable abbrev aAl : Code := cR zG
noncomputable abbrev xX : Code := cL aAl
noncomputable abbrev aKh : Code := cR xX
noncomputable abbrev aKr : Code := cR aKh
noncomputable abbrev dIp : Code := cR aKr
noncomputable abbrev bRr : Code := cL aKr
noncomputable abbrev aSc : Code := cL aKh
noncomputable abbrev bYm : Code := cL xX
noncomputable abbrev dCr : Code := cR aAl
noncomputable abbrev cDe : Code := cL zG
noncomputable abbrev dGw : Code := cL yK
noncomputable abbrev bVa : Code := cL yQ
noncomputable abbrev cZd : Code := cL wM
noncomputable abbrev bVw : Code := cL aAu
noncomputable abbrev dIu : Code := cL aAj
noncomputable abbrev bNn : Code := cL aEr
noncomputable abbrev bQa : Code := cL aNl
noncomputable abbrev xT : Code := cL bBz
noncomputable abbrev aSx : Code := cR xT
noncomputable abbrev aEx : Code := cL aSx
noncomputable abbrev oP : Code := cL aEx
noncomputable abbrev bRg : Code := cL xT
noncomputable abbrev bYg : Code := cL aYu
noncomputable abbrev yA : Code := cL aZv
noncomputable abbrev xH : Code := cR yA
noncomputable abbrev aAx : Code := cL xH
noncomputable abbrev cYr : Code := cR aAx
noncomputable abbrev bPj : Code := cL aAx
noncomputable abbrev dMa : Code := cR xH
noncomputable abbrev cCw : Code := cL yA
noncomputable abbrev bTf : Code := cL aXg
noncomputable abbrev aOs : Code := cL aZm
noncomputable abbrev aQj : Code := cL c20
noncomputable abbrev r20 : K := aO CF Tryz.f20
noncomputable def D20 (r : RT) (n : Nat) (c : Code) (X : Nat → K) (k : K) : K := aM CF r 154 n c X r20 k
theorem dEm : D20 r n dOc x0 r20 = (K2 (bG r n) 2 4) :=
 (by kernel_rfl)
theorem cHr : D20 r n dIp (xs x0 3 (K2 (bG r n) 2 4)) (K2 (bG r n) 2 4) = (K2 (aCy r n) 2 4) :=
 (by kernel_rfl)
theorem cDc : D20 r n aKr (xs x0 3 (K2 (bG r n) 2 4)) (K2 (bG r n) 2 4) = D20 r n bRr (xs x0 3 (K2 (bG r n) 2 4)) (K2 (aCy r n) 2 4) :=
 congrArg (fun k => D20 r n bRr (xs x0 3 (K2 (bG r n) 2 4)) k) (cHr r n)
theorem cHf : D20 r n aKr (xs x0 3 (K2 (bG r n) 2 4)) (K2 (bG r n) 2 4) = (K3 (yD r n) 2 4 5) :=
 (cDc r n).trans
 ((by kernel_rfl))
theorem bQb : D20 r n aKh (xs x0 3 (K2 (bG r n) 2 4)) (K2 (bG r n) 2 4) = D20 r n aSc (xs x0 3 (K2 (bG r n) 2 4)) (K3 (yD r n) 2 4 5) :=
 congrArg (fun k => D20 r n aSc (xs x0 3 (K2 (bG r n) 2 4)) k) (cHf r n)
theorem bUu (q0 : fG) (q1 : pR) : D20 r n aSc (xs x0 3 (K2 q1 2 4)) (K3 q0 2 4 5) = fun (env : aZ) (h : Hp) =>
 bnd (aE 1 (env 5) (aJ 1) h) fun v1 h1 =>
 bnd (aA v1 h1) fun v2 h2 =>
 bnd (aE 1 (env 5) (aJ 2) h2) fun v3 h3 =>
 bnd (aA v3 h3) fun v4 h4 =>
 bnd (bL [(aJ 0), (.s []), (.s []), .l0, (.s []), (aJ 0)] [(0, 1, (aJ 4)), (1, 1, v2), (4, 1, v4)] h4) fun v5 h5 =>
 bnd (aI 6 (env 4) v5 h5) fun v6 h6 =>
  q0 (env 2) (env 4) (env 5) h6 := by kernel_rfl
theorem bHj : (fun (env : aZ) (h : Hp) =>
 bnd (aE 1 (env 5) (aJ 1) h) fun v1 h1 =>
 bnd (aA v1 h1) fun v2 h2 =>
 bnd (aE 1 (env 5) (aJ 2) h2) fun v3 h3 =>
 bnd (aA v3 h3) fun v4 h4 =>
 bnd (bL [(aJ 0), (.s []), (.s []), .l0, (.s []), (aJ 0)] [(0, 1, (aJ 4)), (1, 1, v2), (4, 1, v4)] h4) fun v5 h5 =>
 bnd (aI 6 (env 4) v5 h5) fun v6 h6 =>
  yD r n (env 2) (env 4) (env 5) h6) = (K3 (aJj r n) 2 4 5) := by kernel_rfl
theorem cMj : D20 r n aKh (xs x0 3 (K2 (bG r n) 2 4)) (K2 (bG r n) 2 4) = (K3 (aJj r n) 2 4 5) :=
 (bQb r n).trans
 ((bUu r n (yD r n) (bG r n)).trans (bHj r n))
theorem bJw : D20 r n xX (xs x0 3 (K2 (bG r n) 2 4)) (K2 (bG r n) 2 4) = D20 r n bYm (xs x0 3 (K2 (bG r n) 2 4)) (K3 (aJj r n) 2 4 5) :=
 congrArg (fun k => D20 r n bYm (xs x0 3 (K2 (bG r n) 2 4)) k) (cMj r n)
theorem cJs : D20 r n xX (xs x0 3 (K2 (bG r n) 2 4)) (K2 (bG r n) 2 4) = (K4 (cAf r n) 2 4 5 6) :=
 (bJw r n).trans
 ((by kernel_rfl))
theorem cUe : D20 r n aAl (xs x0 3 (K2 (bG r n) 2 4)) (K2 (bG r n) 2 4) = (K6 (aKd r n) 2 4 5 6 43 112) :=
 (by kernel_rfl : D20 r n aAl (xs x0 3 (K2 (bG r n) 2 4)) (K2 (bG r n) 2 4) = (fun (env : aZ) (h : Hp) => aT (opr env (cC aAl)) (D20 r n xX (xs x0 3 (K2 (bG r n) 2 4)) (K2 (bG r n) 2 4) env h) (D20 r n dCr (xs x0 3 (K2 (bG r n) 2 4)) (K2 (bG r n) 2 4) env h))).trans (by rw [cJs r n]; kernel_rfl)
theorem bMb : D20 r n zG (xs x0 3 (K2 (bG r n) 2 4)) (K2 (bG r n) 2 4) = D20 r n cDe (xs x0 3 (K2 (bG r n) 2 4)) (K6 (aKd r n) 2 4 5 6 43 112) :=
 congrArg (fun k => D20 r n cDe (xs x0 3 (K2 (bG r n) 2 4)) k) (cUe r n)
theorem cTq : D20 r n zG (xs x0 3 (K2 (bG r n) 2 4)) (K2 (bG r n) 2 4) = (K5 (bXp r n) 2 4 5 6 43) :=
 (bMb r n).trans
 ((by kernel_rfl))
theorem cLg : D20 r n yK (xs x0 3 (K2 (bG r n) 2 4)) (K2 (bG r n) 2 4) = (K7 (aWa r n) 0 2 4 5 6 43 86) :=
 (by kernel_rfl : D20 r n yK (xs x0 3 (K2 (bG r n) 2 4)) (K2 (bG r n) 2 4) = (fun (env : aZ) (h : Hp) => aT (opr env (cC yK)) (D20 r n dGw (xs x0 3 (K2 (bG r n) 2 4)) (K2 (bG r n) 2 4) env h) (D20 r n zG (xs x0 3 (K2 (bG r n) 2 4)) (K2 (bG r n) 2 4) env h))).trans (by rw [cTq r n]; kernel_rfl)
theorem bPh : D20 r n yQ (xs x0 3 (K2 (bG r n) 2 4)) (K2 (bG r n) 2 4) = D20 r n bVa (xs x0 3 (K2 (bG r n) 2 4)) (K7 (aWa r n) 0 2 4 5 6 43 86) :=
 congrArg (fun k => D20 r n bVa (xs x0 3 (K2 (bG r n) 2 4)) k) (cLg r n)
theorem cUb : D20 r n yQ (xs x0 3 (K2 (bG r n) 2 4)) (K2 (bG r n) 2 4) = (K6 (cAv r n) 0 2 4 5 6 43) :=
 (bPh r n).trans
 ((by kernel_rfl))
theorem cJo : D20 r n wM (xs x0 3 (K2 (bG r n) 2 4)) (K2 (bG r n) 2 4) = (K7 (aVq r n) 0 2 4 5 6 43 62) :=
 (by kernel_rfl : D20 r n wM (xs x0 3 (K2 (bG r n) 2 4)) (K2 (bG r n) 2 4) = (fun (env : aZ) (h : Hp) => aT (opr env (cC wM)) (D20 r n cZd (xs x0 3 (K2 (bG r n) 2 4)) (K2 (bG r n) 2 4) env h) (D20 r n yQ (xs x0 3 (K2 (bG r n) 2 4)) (K2 (bG r n) 2 4) env h))).trans (by rw [cUb r n]; kernel_rfl)
theorem bPx : D20 r n aAu (xs x0 3 (K2 (bG r n) 2 4)) (K2 (bG r n) 2 4) = D20 r n bVw (xs x0 3 (K2 (bG r n) 2 4)) (K7 (aVq r n) 0 2 4 5 6 43 62) :=
 congrArg (fun k => D20 r n bVw (xs x0 3 (K2 (bG r n) 2 4)) k) (cJo r n)
theorem cKb : D20 r n aAu (xs x0 3 (K2 (bG r n) 2 4)) (K2 (bG r n) 2 4) = (K6 (bMg r n) 0 2 4 5 6 43) :=
 (bPx r n).trans
 ((by kernel_rfl))
theorem dEs : D20 r n aAj (xs x0 3 (K2 (bG r n) 2 4)) (K2 (bG r n) 2 4) = (K7 (bUr r n) 0 2 4 5 6 43 44) :=
 (by kernel_rfl : D20 r n aAj (xs x0 3 (K2 (bG r n) 2 4)) (K2 (bG r n) 2 4) = (fun (env : aZ) (h : Hp) => aT (opr env (cC aAj)) (D20 r n dIu (xs x0 3 (K2 (bG r n) 2 4)) (K2 (bG r n) 2 4) env h) (D20 r n aAu (xs x0 3 (K2 (bG r n) 2 4)) (K2 (bG r n) 2 4) env h))).trans (by rw [cKb r n]; kernel_rfl)
theorem cOp : D20 r n aEr (xs x0 3 (K2 (bG r n) 2 4)) (K2 (bG r n) 2 4) = D20 r n bNn (xs x0 3 (K2 (bG r n) 2 4)) (K7 (bUr r n) 0 2 4 5 6 43 44) :=
 congrArg (fun k => D20 r n bNn (xs x0 3 (K2 (bG r n) 2 4)) k) (dEs r n)
theorem dJj : D20 r n bOg x0 (K2 (bG r n) 2 4) = (K6 (bZd r n) 0 2 4 5 6 43) :=
 (by kernel_rfl : D20 r n bOg x0 (K2 (bG r n) 2 4) = D20 r n aEr (xs x0 3 (K2 (bG r n) 2 4)) (K2 (bG r n) 2 4)).trans
 ((cOp r n).trans
 ((by kernel_rfl)))
theorem cTc : D20 r n aXr x0 r20 = D20 r n aNl x0 (K2 (bG r n) 2 4) :=
 congrArg (fun k => D20 r n aNl x0 k) (dEm r n)
theorem bWe : D20 r n aNl x0 (K2 (bG r n) 2 4) = D20 r n bQa x0 (K6 (bZd r n) 0 2 4 5 6 43) :=
 congrArg (fun k => D20 r n bQa x0 k) (dJj r n)
theorem cYw : D20 r n aXr x0 r20 = (K5 (gW r n) 0 2 4 5 6) :=
 (cTc r n).trans
 ((bWe r n).trans
 ((by kernel_rfl)))
theorem bVb (kk21 : gJ) : D20 r n oP (xs x0 1 (K5 (gW r n) 0 2 4 5 6)) (K6 kk21 0 2 4 5 6 7) = (K6 (bAk r n kk21) 0 2 4 5 6 7) :=
 (by kernel_rfl)
theorem bNv (m : Nat) : aL (fun kk => D20 r n oP (xs x0 1 (K5 (gW r n) 0 2 4 5 6)) kk) m = (K6 (uD r n m) 0 2 4 5 6 7) := by
 induction m with
 | zero => exact (by kernel_rfl : aL (fun kk => D20 r n oP (xs x0 1 (K5 (gW r n) 0 2 4 5 6)) kk) 0 = (K6 (uD r n 0) 0 2 4 5 6 7))
 | succ m ih =>
  refine (by kernel_rfl : aL (fun kk => D20 r n oP (xs x0 1 (K5 (gW r n) 0 2 4 5 6)) kk) (m + 1) = D20 r n oP (xs x0 1 (K5 (gW r n) 0 2 4 5 6)) (aL (fun kk => D20 r n oP (xs x0 1 (K5 (gW r n) 0 2 4 5 6)) kk) m)).trans ?_
  rw [ih]
  exact (bVb r n (uD r n m)).trans (by kernel_rfl)
theorem cOj : D20 r n aEx (xs x0 1 (K5 (gW r n) 0 2 4 5 6)) (K5 (gW r n) 0 2 4 5 6) = (K6 (bZq r n) 0 2 4 5 6 7) :=
 (by kernel_rfl : D20 r n aEx (xs x0 1 (K5 (gW r n) 0 2 4 5 6)) (K5 (gW r n) 0 2 4 5 6) = aL (fun kk => D20 r n oP (xs x0 1 (K5 (gW r n) 0 2 4 5 6)) kk) n).trans ((bNv r n n).trans (by kernel_rfl))
theorem cQw : D20 r n aSx x0 (K5 (gW r n) 0 2 4 5 6) = (K6 (aVl r n) 0 2 4 5 6 7) :=
 (by kernel_rfl : D20 r n aSx x0 (K5 (gW r n) 0 2 4 5 6) = D20 r n aEx (xs x0 1 (K5 (gW r n) 0 2 4 5 6)) (K5 (gW r n) 0 2 4 5 6)).trans
 ((cOj r n).trans (by kernel_rfl))
theorem bQo : D20 r n bBz x0 r20 = D20 r n xT x0 (K5 (gW r n) 0 2 4 5 6) :=
 congrArg (fun k => D20 r n xT x0 k) (cYw r n)
theorem bMd : D20 r n xT x0 (K5 (gW r n) 0 2 4 5 6) = D20 r n bRg x0 (K6 (aVl r n) 0 2 4 5 6 7) :=
 congrArg (fun k => D20 r n bRg x0 k) (cQw r n)
theorem dFe : D20 r n bBz x0 r20 = (K5 (cAe r n) 0 2 4 5 6) :=
 (bQo r n).trans
 ((bMd r n).trans
 ((by kernel_rfl)))
theorem cEh : D20 r n aYu x0 r20 = D20 r n bYg x0 (K5 (cAe r n) 0 2 4 5 6) :=
 congrArg (fun k => D20 r n bYg x0 k) (dFe r n)
theorem dIl : D20 r n aYu x0 r20 = (K4 (mY r n) 0 2 4 5) :=
 (cEh r n).trans
 ((by kernel_rfl))
theorem cOr : D20 r n cYr x0 (K4 (mY r n) 0 2 4 5) = (K2 (sN r n) 2 4) :=
 (by kernel_rfl)
theorem bFg : D20 r n aAx x0 (K4 (mY r n) 0 2 4 5) = D20 r n bPj x0 (K2 (sN r n) 2 4) :=
 congrArg (fun k => D20 r n bPj x0 k) (cOr r n)
theorem cFm : D20 r n aAx x0 (K4 (mY r n) 0 2 4 5) = (K3 (bYq r n) 0 2 4) :=
 (bFg r n).trans
 ((by kernel_rfl))
theorem cGu : D20 r n xH x0 (K4 (mY r n) 0 2 4 5) = (K5 (aRi r n) 0 2 4 5 12) :=
 (by kernel_rfl : D20 r n xH x0 (K4 (mY r n) 0 2 4 5) = (fun (env : aZ) (h : Hp) => aT (opr env (cC xH)) (D20 r n aAx x0 (K4 (mY r n) 0 2 4 5) env h) (D20 r n dMa x0 (K4 (mY r n) 0 2 4 5) env h))).trans (by rw [cFm r n]; kernel_rfl)
theorem bNo : D20 r n aZv x0 r20 = D20 r n yA x0 (K4 (mY r n) 0 2 4 5) :=
 congrArg (fun k => D20 r n yA x0 k) (dIl r n)
theorem cAm : D20 r n yA x0 (K4 (mY r n) 0 2 4 5) = D20 r n cCw x0 (K5 (aRi r n) 0 2 4 5 12) :=
 congrArg (fun k => D20 r n cCw x0 k) (cGu r n)
theorem cZu : D20 r n aZv x0 r20 = (K4 (cCg r n) 0 2 4 5) :=
 (bNo r n).trans
 ((cAm r n).trans
 ((by kernel_rfl)))
theorem bLd : D20 r n aXg x0 r20 = D20 r n bTf x0 (K4 (cCg r n) 0 2 4 5) :=
 congrArg (fun k => D20 r n bTf x0 k) (cZu r n)
theorem dGl : D20 r n aXg x0 r20 = (K3 (aNk r n) 0 2 4) :=
 (bLd r n).trans
 ((by kernel_rfl))
theorem bWg : D20 r n aZm x0 r20 = D20 r n aOs x0 (K3 (aNk r n) 0 2 4) :=
 congrArg (fun k => D20 r n aOs x0 k) (dGl r n)
theorem cBg (q0 : fG) : D20 r n aOs x0 (K3 q0 0 2 4) = fun (env : aZ) (h : Hp) =>
 bnd (bQ [(aJ 0), (.s []), (.s []), .l0, (.s []), (aJ 0)] h) fun v1 h1 =>
  q0 (env 0) (env 2) v1 h1 := by kernel_rfl
theorem bFo : (fun (env : aZ) (h : Hp) =>
 bnd (bQ [(aJ 0), (.s []), (.s []), .l0, (.s []), (aJ 0)] h) fun v1 h1 =>
  aNk r n (env 0) (env 2) v1 h1) = (K2 (aBu r n) 0 2) := by kernel_rfl
theorem dCw : D20 r n aZm x0 r20 = (K2 (aBu r n) 0 2) :=
 (bWg r n).trans
 ((cBg r n (aNk r n)).trans (bFo r n))
theorem dIb : D20 r n c20 x0 r20 = D20 r n aQj x0 (K2 (aBu r n) 0 2) :=
 congrArg (fun k => D20 r n aQj x0 k) (dCw r n)
theorem dBs (q0 : pR) : D20 r n aQj x0 (K2 q0 0 2) = fun (env : aZ) (h : Hp) =>
 bnd (bQ [(aJ 0), (.s []), (.s []), .l0, (.s []), (aJ 0)] h) fun v1 h1 =>
  q0 (env 0) v1 h1 := by kernel_rfl
theorem cSp : (fun (env : aZ) (h : Hp) =>
 bnd (bQ [(aJ 0), (.s []), (.s []), .l0, (.s []), (aJ 0)] h) fun v1 h1 =>
  aBu r n (env 0) v1 h1) = (K1 (s20 r n) 0) := by kernel_rfl
theorem dZr : D20 r n c20 x0 r20 = (K1 (s20 r n) 0) :=
 (dIb r n).trans
 ((dBs r n (aBu r n)).trans (cSp r n))
theorem dPe : aF CF r n 20 args h = s20 r n (aS args 0) h :=
 (by kernel_rfl : aF CF r n 20 args h = D20 r n c20 x0 r20 (aH args) h).trans ((congrFun (congrFun (dZr r n) (aH args)) h).trans (by kernel_rfl))
noncomputable def gO (r : RT) (n : Nat) (h0 : Hp) : aG :=
 some ((.b true), h0)
noncomputable def cCd (r : RT) (n : Nat) (kk5 : fG) (x2 x3 x5 : DV) (h0 : Hp) : aG :=
 bnd (aB 3 x2 h0) fun v1 h1 =>
 bnd (aA v1 h1) fun v2 h2 =>
 bnd (bV v2 h2) fun v3 h3 =>
 bnd (aD .lss x5 v3 h3) fun v4 h4 =>
 aT v4 (
 bnd (aB 3 x2 h4) fun v5 h5 =>
 bnd (aA v5 h5) fun v6 h6 =>
 bnd (aE 1 v6 x5 h6) fun v7 h7 =>
 bnd (aA v7 h7) fun v8 h8 =>
 bnd (aB 3 x3 h8) fun v9 h9 =>
 bnd (aA v9 h9) fun v10 h10 =>
 bnd (aE 1 v10 x5 h10) fun v11 h11 =>
 bnd (aA v11 h11) fun v12 h12 =>
 bnd (bW .neq v8 v12 h12) fun v13 h13 =>
 aT v13 (
 some ((.b false), h13)) (
 bnd (aD .add x5 (aJ 1) h13) fun v14 h14 =>
    kk5 x2 x3 v14 h14)) (
      gO r n h4)
noncomputable def aKg (r : RT) (n : Nat) (m : Nat) : fG :=
 Nat.rec (motive := fun _ => fG) (fun _ _ _ _ => none) (fun _ ih => cCd r n ih) m
noncomputable def cVt (r : RT) (n : Nat) : fG := aKg r n n
noncomputable def cEo (r : RT) (n : Nat) (x2 x3 x5 : DV) (h0 : Hp) : aG :=
 cVt r n x2 x3 x5 h0
noncomputable def bRm (r : RT) (n : Nat) (x2 x3 : DV) (h0 : Hp) : aG :=
 cEo r n x2 x3 (aJ 0) h0
noncomputable def aOf (r : RT) (n : Nat) (x2 x3 : DV) (h0 : Hp) : aG :=
 bnd (aB 0 x2 h0) fun v1 h1 =>
 bnd (aA v1 h1) fun v2 h2 =>
 bnd (aB 0 x3 h2) fun v3 h3 =>
 bnd (aA v3 h3) fun v4 h4 =>
 bnd (aD .neq v2 v4 h4) fun v5 h5 =>
 bnd (gD v5 false (aB 1 x2 h5) h5) fun v6 h6 =>
 bnd (gD v5 false (aA v6 h6) h6) fun v7 h7 =>
 bnd (gD v5 false (aB 1 x3 h7) h7) fun v8 h8 =>
 bnd (gD v5 false (aA v8 h8) h8) fun v9 h9 =>
 bnd (gD v5 false (bW .neq v7 v9 h9) h9) fun v10 h10 =>
 bnd (aN v5 (.b true) v10 h10) fun v11 h11 =>
 bnd (gD v11 false (aB 2 x2 h11) h11) fun v12 h12 =>
 bnd (gD v11 false (aA v12 h12) h12) fun v13 h13 =>
 bnd (gD v11 false (aB 2 x3 h13) h13) fun v14 h14 =>
 bnd (gD v11 false (aA v14 h14) h14) fun v15 h15 =>
 bnd (gD v11 false (bW .neq v13 v15 h15) h15) fun v16 h16 =>
 bnd (aN v11 (.b true) v16 h16) fun v17 h17 =>
 bnd (gD v17 false (aB 4 x2 h17) h17) fun v18 h18 =>
 bnd (gD v17 false (aA v18 h18) h18) fun v19 h19 =>
 bnd (gD v17 false (aB 4 x3 h19) h19) fun v20 h20 =>
 bnd (gD v17 false (aA v20 h20) h20) fun v21 h21 =>
 bnd (gD v17 false (bW .neq v19 v21 h21) h21) fun v22 h22 =>
 bnd (aN v17 (.b true) v22 h22) fun v23 h23 =>
 bnd (gD v23 false (aB 5 x2 h23) h23) fun v24 h24 =>
 bnd (gD v23 false (aA v24 h24) h24) fun v25 h25 =>
 bnd (gD v23 false (aB 5 x3 h25) h25) fun v26 h26 =>
 bnd (gD v23 false (aA v26 h26) h26) fun v27 h27 =>
 bnd (gD v23 false (aD .neq v25 v27 h27) h27) fun v28 h28 =>
 bnd (aN v23 (.b true) v28 h28) fun v29 h29 =>
 bnd (gD v29 false (aB 3 x2 h29) h29) fun v30 h30 =>
 bnd (gD v29 false (aA v30 h30) h30) fun v31 h31 =>
 bnd (gD v29 false (bV v31 h31) h31) fun v32 h32 =>
 bnd (gD v29 false (aB 3 x3 h32) h32) fun v33 h33 =>
 bnd (gD v29 false (aA v33 h33) h33) fun v34 h34 =>
 bnd (gD v29 false (bV v34 h34) h34) fun v35 h35 =>
 bnd (gD v29 false (aD .neq v32 v35 h35) h35) fun v36 h36 =>
 bnd (aN v29 (.b true) v36 h36) fun v37 h37 =>
 aT v37 (
 some ((.b false), h37)) (
  bRm r n x2 x3 h37)
noncomputable def s21 (r : RT) (n : Nat) (x0 x1 : DV) (h0 : Hp) : aG :=
 bnd (cH x0 h0) fun v1 h1 =>
 bnd (cH x1 h1) fun v2 h2 =>
  aOf r n v1 v2 h2
noncomputable abbrev c21 : Code := cf Tryz.f21
noncomputable abbrev bAx : Code := cR c21
noncomputable abbrev bCv : Code := cR bAx
noncomputable abbrev dNz : Code := cR bCv
noncomputable abbrev aMj : Code := cL bCv
noncomputable abbrev bUn : Code := cR aMj
noncomputable abbrev bCk : Code := cL bUn
noncomputable abbrev zB : Code := cL bCk
noncomputable abbrev cVl : Code := cL aMj
noncomputable abbrev cWd : Code := cL bAx
noncomputable abbrev aRx : Code := cL c21
noncomputable abbrev r21 : K := aO CF Tryz.f21
noncomputable def D21 (r : RT) (n : Nat) (c : Code) (X : Nat → K) (k : K) : K := aM CF r 66 n c X r21 k
theorem dFg : D21 r n dNz x0 r21 = (K0 (gO r n)) :=
 (by kernel_rfl)
theorem cRz (kk5 : fG) : D21 r n zB (xs x0 0 (K0 (gO r n))) (K3 kk5 2 3 5) = (K3 (cCd r n kk5) 2 3 5) :=
 (by kernel_rfl)
theorem cRw (m : Nat) : aL (fun kk => D21 r n zB (xs x0 0 (K0 (gO r n))) kk) m = (K3 (aKg r n m) 2 3 5) := by
 induction m with
 | zero => exact (by kernel_rfl : aL (fun kk => D21 r n zB (xs x0 0 (K0 (gO r n))) kk) 0 = (K3 (aKg r n 0) 2 3 5))
 | succ m ih =>
  refine (by kernel_rfl : aL (fun kk => D21 r n zB (xs x0 0 (K0 (gO r n))) kk) (m + 1) = D21 r n zB (xs x0 0 (K0 (gO r n))) (aL (fun kk => D21 r n zB (xs x0 0 (K0 (gO r n))) kk) m)).trans ?_
  rw [ih]
  exact (cRz r n (aKg r n m)).trans (by kernel_rfl)
theorem dIt : D21 r n bCk (xs x0 0 (K0 (gO r n))) (K0 (gO r n)) = (K3 (cVt r n) 2 3 5) :=
 (by kernel_rfl : D21 r n bCk (xs x0 0 (K0 (gO r n))) (K0 (gO r n)) = aL (fun kk => D21 r n zB (xs x0 0 (K0 (gO r n))) kk) n).trans ((cRw r n n).trans (by kernel_rfl))
theorem dFw : D21 r n bUn x0 (K0 (gO r n)) = (K3 (cEo r n) 2 3 5) :=
 (by kernel_rfl : D21 r n bUn x0 (K0 (gO r n)) = D21 r n bCk (xs x0 0 (K0 (gO r n))) (K0 (gO r n))).trans
 ((dIt r n).trans (by kernel_rfl))
theorem cIo : D21 r n bCv x0 r21 = D21 r n aMj x0 (K0 (gO r n)) :=
 congrArg (fun k => D21 r n aMj x0 k) (dFg r n)
theorem cKy : D21 r n aMj x0 (K0 (gO r n)) = D21 r n cVl x0 (K3 (cEo r n) 2 3 5) :=
 congrArg (fun k => D21 r n cVl x0 k) (dFw r n)
theorem cYv : D21 r n bCv x0 r21 = (K2 (bRm r n) 2 3) :=
 (cIo r n).trans
 ((cKy r n).trans
 ((by kernel_rfl)))
theorem cQt : D21 r n bAx x0 r21 = D21 r n cWd x0 (K2 (bRm r n) 2 3) :=
 congrArg (fun k => D21 r n cWd x0 k) (cYv r n)
theorem dFo : D21 r n bAx x0 r21 = (K2 (aOf r n) 2 3) :=
 (cQt r n).trans
 ((by kernel_rfl))
theorem dPd : D21 r n c21 x0 r21 = D21 r n aRx x0 (K2 (aOf r n) 2 3) :=
 congrArg (fun k => D21 r n aRx x0 k) (dFo r n)
theorem dSh (q0 : pR) : D21 r n aRx x0 (K2 q0 2 3) = fun (env : aZ) (h : Hp) =>
 bnd (cH (env 0) h) fun v1 h1 =>
 bnd (cH (env 1) h1) fun v2 h2 =>
  q0 v1 v2 h2 := by kernel_rfl
theorem dHq : (fun (env : aZ) (h : Hp) =>
 bnd (cH (env 0) h) fun v1 h1 =>
 bnd (cH (env 1) h1) fun v2 h2 =>
  aOf r n v1 v2 h2) = (K2 (s21 r n) 0 1) := by kernel_rfl
theorem dYn : D21 r n c21 x0 r21 = (K2 (s21 r n) 0 1) :=
 (dPd r n).trans
 ((dSh r n (aOf r n)).trans (dHq r n))
theorem dOy : aF CF r n 21 args h = s21 r n (aS args 0) (aS args 1) h :=
 (by kernel_rfl : aF CF r n 21 args h = D21 r n c21 x0 r21 (aH args) h).trans ((congrFun (congrFun (dYn r n) (aH args)) h).trans (by kernel_rfl))
end Go.Dd

namespace Go.Dd
open Go.Proofs
variable (r : RT) (n : Nat) (args : List DV) (h : Hp)
noncomputable def fY (r : RT) (n : Nat) (x11 : DV) (h0 : Hp) : aG :=
 some (.t [x11, (.i .i64 (Int.ofNat 0)), (.i .i64 (Int.ofNat 0))], h0)
noncomputable def aUr (r : RT) (n : Nat) (kk9 : cI) (x10 x11 x32 x33 x34 : DV) (h0 : Hp) : aG :=
 bnd (aD .lss x34 x33 h0) fun v1 h1 =>
 aT v1 (
 bnd (aE 6 x32 x34 h1) fun v2 h2 =>
 bnd (aK 6 v2 h2) fun v3 h3 =>
 bnd (bQ [(.i .i64 (Int.ofNat 0)), (.s []), (.s []), .l0, (.s []), (.i .i64 (Int.ofNat 0))] h3) fun v4 h4 =>
 bnd (aI 6 v4 v3 h4) fun _ h5 =>
 bnd (aK 6 v4 h5) fun v6 h6 =>
 bnd (r 37 [x10, v6] h6) fun v7 h7 =>
 bnd (r 12 [v7] h7) fun v8 h8 =>
 bnd (bW .add x11 v8 h8) fun v9 h9 =>
 bnd (aD .add x34 (.i .i64 (Int.ofNat 1)) h9) fun v10 h10 =>
      kk9 x10 v9 x32 x33 v10 h10) (
      fY r n x11 h1)
noncomputable def aIh (r : RT) (n : Nat) (m : Nat) : cI :=
 Nat.rec (motive := fun _ => cI) (fun _ _ _ _ _ _ => none) (fun _ ih => aUr r n ih) m
noncomputable def cVu (r : RT) (n : Nat) : cI := aIh r n n
noncomputable def cBk (r : RT) (n : Nat) (x10 x11 x32 x33 x34 : DV) (h0 : Hp) : aG :=
 cVu r n x10 x11 x32 x33 x34 h0
noncomputable def bTj (r : RT) (n : Nat) (x7 x10 x11 : DV) (h0 : Hp) : aG :=
 bnd (bV x7 h0) fun v1 h1 =>
  cBk r n x10 x11 x7 v1 (.i .i64 (Int.ofNat 0)) h1
noncomputable def cDp (r : RT) (n : Nat) (x7 x10 : DV) (h0 : Hp) : aG :=
 bTj r n x7 x10 (.s []) h0
noncomputable def bQf (r : RT) (n : Nat) (x7 x9 x10 : DV) (h0 : Hp) : aG :=
 bnd (aD .neq x9 (.i .i64 (Int.ofNat 0)) h0) fun v1 h1 =>
 aT v1 (
 some (.t [(.s []), (.i .i64 (Int.ofNat 0)), x9], h1)) (
  cDp r n x7 x10 h1)
noncomputable def bNx (r : RT) (n : Nat) (x0 x7 : DV) (h0 : Hp) : aG :=
 bnd (r 36 [x0] h0) fun v1 h1 =>
 bnd (aC 0 v1 h1) fun v2 h2 =>
 bnd (aC 1 v1 h2) fun v3 h3 =>
  bQf r n x7 v3 v2 h3
noncomputable def cBa (r : RT) (n : Nat) (x0 x7 x8 x9 : DV) (h0 : Hp) : aG :=
 bnd (aD .neq x9 (.i .i64 (Int.ofNat 0)) h0) fun v1 h1 =>
 aT v1 (
 some (.t [(.s []), x8, x9], h1)) (
  bNx r n x0 x7 h1)
noncomputable def bRs (r : RT) (n : Nat) (x0 x1 : DV) (h0 : Hp) : aG :=
 bnd (r 8 [x1] h0) fun v1 h1 =>
 bnd (aC 0 v1 h1) fun v2 h2 =>
 bnd (aC 1 v1 h2) fun v3 h3 =>
 bnd (aC 2 v1 h3) fun v4 h4 =>
  cBa r n x0 v2 v3 v4 h4
noncomputable def s22 (r : RT) (n : Nat) (x0 x1 : DV) (h0 : Hp) : aG :=
 bRs r n x0 x1 h0
noncomputable abbrev c22 : Code := cf Tryz.f22
noncomputable abbrev bBx : Code := cR c22
noncomputable abbrev bDw : Code := cR bBx
noncomputable abbrev bCh : Code := cR bDw
noncomputable abbrev bCc : Code := cR bCh
noncomputable abbrev aZi : Code := cR bCc
noncomputable abbrev aYc : Code := cR aZi
noncomputable abbrev dTh : Code := cR aYc
noncomputable abbrev aNa : Code := cL aYc
noncomputable abbrev bLu : Code := cR aNa
noncomputable abbrev aHm : Code := cL bLu
noncomputable abbrev mV : Code := cL aHm
noncomputable abbrev bTc : Code := cL aNa
noncomputable abbrev bVk : Code := cL aZi
noncomputable abbrev bSz : Code := cL bCc
noncomputable abbrev bQw : Code := cL bCh
noncomputable abbrev cEq : Code := cL bDw
noncomputable abbrev cCu : Code := cL bBx
noncomputable abbrev bUb : Code := cL c22
noncomputable abbrev r22 : K := aO CF Tryz.f22
noncomputable def D22 (r : RT) (n : Nat) (c : Code) (X : Nat → K) (k : K) : K := aM CF r 46 n c X r22 k
theorem dGn : D22 r n dTh x0 r22 = (K1 (fY r n) 11) :=
 (by kernel_rfl)
theorem cKl (kk9 : cI) (q0 : TT1) : D22 r n mV (xs x0 0 (K1 q0 11)) (K5 kk9 10 11 32 33 34) = fun (env : aZ) (h : Hp) =>
 bnd (aD .lss (env 34) (env 33) h) fun v1 h1 =>
 aT v1 (
 bnd (aE 6 (env 32) (env 34) h1) fun v2 h2 =>
 bnd (aK 6 v2 h2) fun v3 h3 =>
 bnd (bQ [(.i .i64 (Int.ofNat 0)), (.s []), (.s []), .l0, (.s []), (.i .i64 (Int.ofNat 0))] h3) fun v4 h4 =>
 bnd (aI 6 v4 v3 h4) fun _ h5 =>
 bnd (aK 6 v4 h5) fun v6 h6 =>
 bnd (r 37 [(env 10), v6] h6) fun v7 h7 =>
 bnd (r 12 [v7] h7) fun v8 h8 =>
 bnd (bW .add (env 11) v8 h8) fun v9 h9 =>
 bnd (aD .add (env 34) (.i .i64 (Int.ofNat 1)) h9) fun v10 h10 =>
      kk9 (env 10) v9 (env 32) (env 33) v10 h10) (
      q0 (env 11) h1) := by kernel_rfl
theorem bUj (kk9 : cI) : (fun (env : aZ) (h : Hp) =>
 bnd (aD .lss (env 34) (env 33) h) fun v1 h1 =>
 aT v1 (
 bnd (aE 6 (env 32) (env 34) h1) fun v2 h2 =>
 bnd (aK 6 v2 h2) fun v3 h3 =>
 bnd (bQ [(.i .i64 (Int.ofNat 0)), (.s []), (.s []), .l0, (.s []), (.i .i64 (Int.ofNat 0))] h3) fun v4 h4 =>
 bnd (aI 6 v4 v3 h4) fun _ h5 =>
 bnd (aK 6 v4 h5) fun v6 h6 =>
 bnd (r 37 [(env 10), v6] h6) fun v7 h7 =>
 bnd (r 12 [v7] h7) fun v8 h8 =>
 bnd (bW .add (env 11) v8 h8) fun v9 h9 =>
 bnd (aD .add (env 34) (.i .i64 (Int.ofNat 1)) h9) fun v10 h10 =>
      kk9 (env 10) v9 (env 32) (env 33) v10 h10) (
      fY r n (env 11) h1)) = (K5 (aUr r n kk9) 10 11 32 33 34) := by kernel_rfl
theorem cIb (kk9 : cI) : D22 r n mV (xs x0 0 (K1 (fY r n) 11)) (K5 kk9 10 11 32 33 34) = (K5 (aUr r n kk9) 10 11 32 33 34) :=
 (cKl r n kk9 (fY r n)).trans (bUj r n kk9)
theorem cIn (m : Nat) : aL (fun kk => D22 r n mV (xs x0 0 (K1 (fY r n) 11)) kk) m = (K5 (aIh r n m) 10 11 32 33 34) := by
 induction m with
 | zero => exact (by kernel_rfl : aL (fun kk => D22 r n mV (xs x0 0 (K1 (fY r n) 11)) kk) 0 = (K5 (aIh r n 0) 10 11 32 33 34))
 | succ m ih =>
  refine (by kernel_rfl : aL (fun kk => D22 r n mV (xs x0 0 (K1 (fY r n) 11)) kk) (m + 1) = D22 r n mV (xs x0 0 (K1 (fY r n) 11)) (aL (fun kk => D22 r n mV (xs x0 0 (K1 (fY r n) 11)) kk) m)).trans ?_
  rw [ih]
  exact (cIb r n (aIh r n m)).trans (by kernel_rfl)
theorem dCx : D22 r n aHm (xs x0 0 (K1 (fY r n) 11)) (K1 (fY r n) 11) = (K5 (cVu r n) 10 11 32 33 34) :=
 (by kernel_rfl : D22 r n aHm (xs x0 0 (K1 (fY r n) 11)) (K1 (fY r n) 11) = aL (fun kk => D22 r n mV (xs x0 0 (K1 (fY r n) 11)) kk) n).trans ((cIn r n n).trans (by kernel_rfl))
theorem dDm : D22 r n bLu x0 (K1 (fY r n) 11) = (K5 (cBk r n) 10 11 32 33 34) :=
 (by kernel_rfl : D22 r n bLu x0 (K1 (fY r n) 11) = D22 r n aHm (xs x0 0 (K1 (fY r n) 11)) (K1 (fY r n) 11)).trans
 ((dCx r n).trans (by kernel_rfl))
theorem cQh : D22 r n aYc x0 r22 = D22 r n aNa x0 (K1 (fY r n) 11) :=
 congrArg (fun k => D22 r n aNa x0 k) (dGn r n)
theorem cSo : D22 r n aNa x0 (K1 (fY r n) 11) = D22 r n bTc x0 (K5 (cBk r n) 10 11 32 33 34) :=
 congrArg (fun k => D22 r n bTc x0 k) (dDm r n)
theorem dDu : D22 r n aYc x0 r22 = (K3 (bTj r n) 7 10 11) :=
 (cQh r n).trans
 ((cSo r n).trans
 ((by kernel_rfl)))
theorem cQk : D22 r n aZi x0 r22 = D22 r n bVk x0 (K3 (bTj r n) 7 10 11) :=
 congrArg (fun k => D22 r n bVk x0 k) (dDu r n)
theorem dHv : D22 r n aZi x0 r22 = (K2 (cDp r n) 7 10) :=
 (cQk r n).trans
 ((by kernel_rfl))
theorem cTf : D22 r n bCc x0 r22 = D22 r n bSz x0 (K2 (cDp r n) 7 10) :=
 congrArg (fun k => D22 r n bSz x0 k) (dHv r n)
theorem dJe : D22 r n bCc x0 r22 = (K3 (bQf r n) 7 9 10) :=
 (cTf r n).trans
 ((by kernel_rfl))
theorem cRa : D22 r n bCh x0 r22 = D22 r n bQw x0 (K3 (bQf r n) 7 9 10) :=
 congrArg (fun k => D22 r n bQw x0 k) (dJe r n)
theorem cYo : D22 r n bCh x0 r22 = (K2 (bNx r n) 0 7) :=
 (cRa r n).trans
 ((by kernel_rfl))
theorem cHc : D22 r n bDw x0 r22 = D22 r n cEq x0 (K2 (bNx r n) 0 7) :=
 congrArg (fun k => D22 r n cEq x0 k) (cYo r n)
theorem dJb : D22 r n bDw x0 r22 = (K4 (cBa r n) 0 7 8 9) :=
 (cHc r n).trans
 ((by kernel_rfl))
theorem cMk : D22 r n bBx x0 r22 = D22 r n cCu x0 (K4 (cBa r n) 0 7 8 9) :=
 congrArg (fun k => D22 r n cCu x0 k) (dJb r n)
theorem dAw : D22 r n bBx x0 r22 = (K2 (bRs r n) 0 1) :=
 (cMk r n).trans
 ((by kernel_rfl))
theorem dOw : D22 r n c22 x0 r22 = D22 r n bUb x0 (K2 (bRs r n) 0 1) :=
 congrArg (fun k => D22 r n bUb x0 k) (dAw r n)
theorem dYh : D22 r n c22 x0 r22 = (K2 (s22 r n) 0 1) :=
 (dOw r n).trans
 ((by kernel_rfl))
theorem cXa : aF CF r n 22 args h = s22 r n (aS args 0) (aS args 1) h :=
 (by kernel_rfl : aF CF r n 22 args h = D22 r n c22 x0 r22 (aH args) h).trans ((congrFun (congrFun (dYh r n) (aH args)) h).trans (by kernel_rfl))
noncomputable def gL (r : RT) (n : Nat) (x3 : DV) (h0 : Hp) : aG :=
 bnd (bW .add (.s [45]) x3 h0) fun v1 h1 =>
 some (v1, h1)
noncomputable def pJ (r : RT) (n : Nat) (kk6 : pR) (x0 x3 : DV) (h0 : Hp) : aG :=
 bnd (aD .lss x0 (.i .i64 (Int.ofNat 0)) h0) fun v1 h1 =>
 aT v1 (
 bnd (aD .rem x0 (.i .i64 (Int.ofNat 10)) h1) fun v2 h2 =>
 bnd (aD .sub (.i .i64 (Int.ofNat 48)) v2 h2) fun v3 h3 =>
 bnd (dJ .u8 v3 h3) fun v4 h4 =>
 bnd (aP [(.i .u8 (Int.ofNat 0))] 1 [(0, 1, v4)] h4) fun v5 h5 =>
 bnd (dI v5 h5) fun v6 h6 =>
 bnd (bW .add v6 x3 h6) fun v7 h7 =>
 bnd (aD .quo x0 (.i .i64 (Int.ofNat 10)) h7) fun v8 h8 =>
      kk6 v8 v7 h8) (
      gL r n x3 h1)
noncomputable def lZ (r : RT) (n : Nat) (m : Nat) : pR :=
 Nat.rec (motive := fun _ => pR) (fun _ _ _ => none) (fun _ ih => pJ r n ih) m
noncomputable def bPb (r : RT) (n : Nat) : pR := lZ r n n
noncomputable def aZw (r : RT) (n : Nat) (x0 x3 : DV) (h0 : Hp) : aG :=
 bPb r n x0 x3 h0
noncomputable def aZf (r : RT) (n : Nat) (x0 : DV) (h0 : Hp) : aG :=
 aZw r n x0 (.s []) h0
noncomputable def zL (r : RT) (n : Nat) (x0 : DV) (h0 : Hp) : aG :=
 bnd (aD .gtr x0 (.i .i64 (Int.ofNat 0)) h0) fun v1 h1 =>
 aT v1 (
 bnd (aD .quo x0 (.i .i64 (Int.ofNat 10)) h1) fun v2 h2 =>
 bnd (r 26 [v2] h2) fun v3 h3 =>
 bnd (aD .rem x0 (.i .i64 (Int.ofNat 10)) h3) fun v4 h4 =>
 bnd (r 26 [v4] h4) fun v5 h5 =>
 bnd (bW .add v3 v5 h5) fun v6 h6 =>
 some (v6, h6)) (
  aZf r n x0 h1)
noncomputable def yP (r : RT) (n : Nat) (x0 : DV) (h0 : Hp) : aG :=
 bnd (aD .geq x0 (.i .i64 (Int.ofNat 0)) h0) fun v1 h1 =>
 bnd (gD v1 true (some (x0, h1)) h1) fun v2 h2 =>
 bnd (gD v1 true (aD .lss v2 (.i .i64 (Int.ofNat 10)) h2) h2) fun v3 h3 =>
 bnd (aN v1 v3 (.b false) h3) fun v4 h4 =>
 aT v4 (
 bnd (aD .add (.i .i64 (Int.ofNat 48)) x0 h4) fun v5 h5 =>
 bnd (dJ .u8 v5 h5) fun v6 h6 =>
 bnd (aP [(.i .u8 (Int.ofNat 0))] 1 [(0, 1, v6)] h6) fun v7 h7 =>
 bnd (dI v7 h7) fun v8 h8 =>
 some (v8, h8)) (
  zL r n x0 h4)
noncomputable def s26 (r : RT) (n : Nat) (x0 : DV) (h0 : Hp) : aG :=
 yP r n x0 h0
noncomputable abbrev c26 : Code := cf Tryz.f26
noncomputable abbrev bDa : Code := cR c26
noncomputable abbrev aZz : Code := cR bDa
noncomputable abbrev aWh : Code := cR aZz
noncomputable abbrev bEp : Code := cR aWh
noncomputable abbrev dUj : Code := cR bEp
noncomputable abbrev aWq : Code := cL bEp
noncomputable abbrev bAr : Code := cL aWq
noncomputable abbrev sW : Code := cL bAr
noncomputable abbrev cXu : Code := cL aWh
noncomputable abbrev bLi : Code := cL aZz
noncomputable abbrev aWd : Code := cL bDa
noncomputable abbrev bMe : Code := cL c26
noncomputable abbrev r26 : K := aO CF Tryz.f26
noncomputable def D26 (r : RT) (n : Nat) (c : Code) (X : Nat → K) (k : K) : K := aM CF r 38 n c X r26 k
theorem dLy : D26 r n dUj x0 r26 = (K1 (gL r n) 3) :=
 (by kernel_rfl)
theorem cFp (kk6 : pR) (q0 : TT1) : D26 r n sW (xs x0 0 (K1 q0 3)) (K2 kk6 0 3) = fun (env : aZ) (h : Hp) =>
 bnd (aD .lss (env 0) (.i .i64 (Int.ofNat 0)) h) fun v1 h1 =>
 aT v1 (
 bnd (aD .rem (env 0) (.i .i64 (Int.ofNat 10)) h1) fun v2 h2 =>
 bnd (aD .sub (.i .i64 (Int.ofNat 48)) v2 h2) fun v3 h3 =>
 bnd (dJ .u8 v3 h3) fun v4 h4 =>
 bnd (aP [(.i .u8 (Int.ofNat 0))] 1 [(0, 1, v4)] h4) fun v5 h5 =>
 bnd (dI v5 h5) fun v6 h6 =>
 bnd (bW .add v6 (env 3) h6) fun v7 h7 =>
 bnd (aD .quo (env 0) (.i .i64 (Int.ofNat 10)) h7) fun v8 h8 =>
      kk6 v8 v7 h8) (
      q0 (env 3) h1) := by kernel_rfl
theorem bRz (kk6 : pR) : (fun (env : aZ) (h : Hp) =>
 bnd (aD .lss (env 0) (.i .i64 (Int.ofNat 0)) h) fun v1 h1 =>
 aT v1 (
 bnd (aD .rem (env 0) (.i .i64 (Int.ofNat 10)) h1) fun v2 h2 =>
 bnd (aD .sub (.i .i64 (Int.ofNat 48)) v2 h2) fun v3 h3 =>
 bnd (dJ .u8 v3 h3) fun v4 h4 =>
 bnd (aP [(.i .u8 (Int.ofNat 0))] 1 [(0, 1, v4)] h4) fun v5 h5 =>
 bnd (dI v5 h5) fun v6 h6 =>
 bnd (bW .add v6 (env 3) h6) fun v7 h7 =>
 bnd (aD .quo (env 0) (.i .i64 (Int.ofNat 10)) h7) fun v8 h8 =>
      kk6 v8 v7 h8) (
      gL r n (env 3) h1)) = (K2 (pJ r n kk6) 0 3) := by kernel_rfl
theorem cJe (kk6 : pR) : D26 r n sW (xs x0 0 (K1 (gL r n) 3)) (K2 kk6 0 3) = (K2 (pJ r n kk6) 0 3) :=
 (cFp r n kk6 (gL r n)).trans (bRz r n kk6)
theorem cIr (m : Nat) : aL (fun kk => D26 r n sW (xs x0 0 (K1 (gL r n) 3)) kk) m = (K2 (lZ r n m) 0 3) := by
 induction m with
 | zero => exact (by kernel_rfl : aL (fun kk => D26 r n sW (xs x0 0 (K1 (gL r n) 3)) kk) 0 = (K2 (lZ r n 0) 0 3))
 | succ m ih =>
  refine (by kernel_rfl : aL (fun kk => D26 r n sW (xs x0 0 (K1 (gL r n) 3)) kk) (m + 1) = D26 r n sW (xs x0 0 (K1 (gL r n) 3)) (aL (fun kk => D26 r n sW (xs x0 0 (K1 (gL r n) 3)) kk) m)).trans ?_
  rw [ih]
  exact (cJe r n (lZ r n m)).trans (by kernel_rfl)
theorem cYx : D26 r n bAr (xs x0 0 (K1 (gL r n) 3)) (K1 (gL r n) 3) = (K2 (bPb r n) 0 3) :=
 (by kernel_rfl : D26 r n bAr (xs x0 0 (K1 (gL r n) 3)) (K1 (gL r n) 3) = aL (fun kk => D26 r n sW (xs x0 0 (K1 (gL r n) 3)) kk) n).trans ((cIr r n n).trans (by kernel_rfl))
theorem cSf : D26 r n bEp x0 r26 = D26 r n aWq x0 (K1 (gL r n) 3) :=
 congrArg (fun k => D26 r n aWq x0 k) (dLy r n)
theorem dKz : D26 r n bEp x0 r26 = (K2 (aZw r n) 0 3) :=
 (cSf r n).trans
 ((by kernel_rfl : D26 r n aWq x0 (K1 (gL r n) 3) = D26 r n bAr (xs x0 0 (K1 (gL r n) 3)) (K1 (gL r n) 3)).trans
 ((cYx r n).trans (by kernel_rfl)))
theorem cMq : D26 r n aWh x0 r26 = D26 r n cXu x0 (K2 (aZw r n) 0 3) :=
 congrArg (fun k => D26 r n cXu x0 k) (dKz r n)
theorem dHe : D26 r n aWh x0 r26 = (K1 (aZf r n) 0) :=
 (cMq r n).trans
 ((by kernel_rfl))
theorem cGc : D26 r n aZz x0 r26 = D26 r n bLi x0 (K1 (aZf r n) 0) :=
 congrArg (fun k => D26 r n bLi x0 k) (dHe r n)
theorem cYq : D26 r n aZz x0 r26 = (K1 (zL r n) 0) :=
 (cGc r n).trans
 ((by kernel_rfl))
theorem cNk : D26 r n bDa x0 r26 = D26 r n aWd x0 (K1 (zL r n) 0) :=
 congrArg (fun k => D26 r n aWd x0 k) (cYq r n)
theorem cHl (q0 : TT1) : D26 r n aWd x0 (K1 q0 0) = fun (env : aZ) (h : Hp) =>
 bnd (aD .geq (env 0) (.i .i64 (Int.ofNat 0)) h) fun v1 h1 =>
 bnd (gD v1 true (some ((env 0), h1)) h1) fun v2 h2 =>
 bnd (gD v1 true (aD .lss v2 (.i .i64 (Int.ofNat 10)) h2) h2) fun v3 h3 =>
 bnd (aN v1 v3 (.b false) h3) fun v4 h4 =>
 aT v4 (
 bnd (aD .add (.i .i64 (Int.ofNat 48)) (env 0) h4) fun v5 h5 =>
 bnd (dJ .u8 v5 h5) fun v6 h6 =>
 bnd (aP [(.i .u8 (Int.ofNat 0))] 1 [(0, 1, v6)] h6) fun v7 h7 =>
 bnd (dI v7 h7) fun v8 h8 =>
 some (v8, h8)) (
   q0 (env 0) h4) := by kernel_rfl
theorem bOv : (fun (env : aZ) (h : Hp) =>
 bnd (aD .geq (env 0) (.i .i64 (Int.ofNat 0)) h) fun v1 h1 =>
 bnd (gD v1 true (some ((env 0), h1)) h1) fun v2 h2 =>
 bnd (gD v1 true (aD .lss v2 (.i .i64 (Int.ofNat 10)) h2) h2) fun v3 h3 =>
 bnd (aN v1 v3 (.b false) h3) fun v4 h4 =>
 aT v4 (
 bnd (aD .add (.i .i64 (Int.ofNat 48)) (env 0) h4) fun v5 h5 =>
 bnd (dJ .u8 v5 h5) fun v6 h6 =>
 bnd (aP [(.i .u8 (Int.ofNat 0))] 1 [(0, 1, v6)] h6) fun v7 h7 =>
 bnd (dI v7 h7) fun v8 h8 =>
 some (v8, h8)) (
   zL r n (env 0) h4)) = (K1 (yP r n) 0) := by kernel_rfl
theorem dGg : D26 r n bDa x0 r26 = (K1 (yP r n) 0) :=
 (cNk r n).trans
 ((cHl r n (zL r n)).trans (bOv r n))
theorem dQg : D26 r n c26 x0 r26 = D26 r n bMe x0 (K1 (yP r n) 0) :=
 congrArg (fun k => D26 r n bMe x0 k) (dGg r n)
theorem dWn : D26 r n c26 x0 r26 = (K1 (s26 r n) 0) :=
 (dQg r n).trans
 ((by kernel_rfl))
theorem cXq : aF CF r n 26 args h = s26 r n (aS args 0) h :=
 (by kernel_rfl : aF CF r n 26 args h = D26 r n c26 x0 r26 (aH args) h).trans ((congrFun (congrFun (dWn r n) (aH args)) h).trans (by kernel_rfl))
noncomputable def cZ (r : RT) (n : Nat) (x3 : DV) (h0 : Hp) : aG :=
 bnd (bW .add x3 (.s [34]) h0) fun v1 h1 =>
 some (v1, h1)
noncomputable def fW (r : RT) (n : Nat) (kk5 : fG) (x0 x3 x4 : DV) (h0 : Hp) : aG :=
 bnd (aD .add x4 (.i .i64 (Int.ofNat 1)) h0) fun v1 h1 =>
  kk5 x0 x3 v1 h1
noncomputable def aBy (r : RT) (n : Nat) (kk5 : fG) (x0 x3 x4 : DV) (h0 : Hp) : aG :=
 bnd (aD .add x4 (.i .i64 (Int.ofNat 1)) h0) fun v1 h1 =>
 bnd (cP x0 (some x4) (some v1) h1) fun v2 h2 =>
 bnd (bW .add x3 v2 h2) fun v3 h3 =>
  fW r n kk5 x0 v3 x4 h3
noncomputable def bAt (r : RT) (n : Nat) (kk5 : fG) (x0 x3 x4 : DV) (h0 : Hp) : aG :=
 bnd (bY x0 x4 h0) fun v1 h1 =>
 bnd (aD .eql v1 (.i .u8 (Int.ofNat 34)) h1) fun v2 h2 =>
 bnd (gD v2 false (some (x0, h2)) h2) fun v3 h3 =>
 bnd (gD v2 false (some (x4, h3)) h3) fun v4 h4 =>
 bnd (gD v2 false (bY v3 v4 h4) h4) fun v5 h5 =>
 bnd (gD v2 false (aD .eql v5 (.i .u8 (Int.ofNat 92)) h5) h5) fun v6 h6 =>
 bnd (aN v2 (.b true) v6 h6) fun v7 h7 =>
 aT v7 (
 bnd (bW .add x3 (.s [92]) h7) fun v8 h8 =>
  aBy r n kk5 x0 v8 x4 h8) (
  aBy r n kk5 x0 x3 x4 h7)
noncomputable def aWs (r : RT) (n : Nat) (kk5 : fG) (x0 x3 x4 : DV) (h0 : Hp) : aG :=
 bnd (bY x0 x4 h0) fun v1 h1 =>
 bnd (aD .eql v1 (.i .u8 (Int.ofNat 10)) h1) fun v2 h2 =>
 aT v2 (
 bnd (bW .add x3 (.s [92, 110]) h2) fun v3 h3 =>
  fW r n kk5 x0 v3 x4 h3) (
  bAt r n kk5 x0 x3 x4 h2)
noncomputable def rH (r : RT) (n : Nat) (kk5 : fG) (x0 x3 x4 : DV) (h0 : Hp) : aG :=
 bnd (cJ x0 h0) fun v1 h1 =>
 bnd (aD .lss x4 v1 h1) fun v2 h2 =>
 aT v2 (
   aWs r n kk5 x0 x3 x4 h2) (
   cZ r n x3 h2)
noncomputable def mD (r : RT) (n : Nat) (m : Nat) : fG :=
 Nat.rec (motive := fun _ => fG) (fun _ _ _ _ => none) (fun _ ih => rH r n ih) m
noncomputable def bUv (r : RT) (n : Nat) : fG := mD r n n
noncomputable def aWj (r : RT) (n : Nat) (x0 x3 x4 : DV) (h0 : Hp) : aG :=
 bUv r n x0 x3 x4 h0
noncomputable def bCi (r : RT) (n : Nat) (x0 x3 : DV) (h0 : Hp) : aG :=
 aWj r n x0 x3 (.i .i64 (Int.ofNat 0)) h0
noncomputable def aWw (r : RT) (n : Nat) (x0 : DV) (h0 : Hp) : aG :=
 bCi r n x0 (.s [34]) h0
noncomputable def s27 (r : RT) (n : Nat) (x0 : DV) (h0 : Hp) : aG :=
 aWw r n x0 h0
noncomputable abbrev c27 : Code := cf Tryz.f27
noncomputable abbrev bBr : Code := cR c27
noncomputable abbrev aYf : Code := cR bBr
noncomputable abbrev dUx : Code := cR aYf
noncomputable abbrev aOk : Code := cL aYf
noncomputable abbrev bWr : Code := cR aOk
noncomputable abbrev aZq : Code := cL bWr
noncomputable abbrev oF : Code := cL aZq
noncomputable abbrev aXq : Code := cR oF
noncomputable abbrev dPq : Code := cR aXq
noncomputable abbrev aEs : Code := cL aXq
noncomputable abbrev aFe : Code := cL aEs
noncomputable abbrev aDb : Code := cR aFe
noncomputable abbrev dBv : Code := cR aDb
noncomputable abbrev bSb : Code := cL aDb
noncomputable abbrev bJj : Code := cL aFe
noncomputable abbrev bVy : Code := cL oF
noncomputable abbrev bOy : Code := cL aOk
noncomputable abbrev bVe : Code := cL bBr
noncomputable abbrev cAt : Code := cL c27
noncomputable abbrev r27 : K := aO CF Tryz.f27
noncomputable def D27 (r : RT) (n : Nat) (c : Code) (X : Nat → K) (k : K) : K := aM CF r 38 n c X r27 k
theorem dBr : D27 r n dUx x0 r27 = (K1 (cZ r n) 3) :=
 (by kernel_rfl)
theorem dBl (kk5 : fG) : D27 r n dPq (xs x0 0 (K1 (cZ r n) 3)) (K3 kk5 0 3 4) = (K3 (fW r n kk5) 0 3 4) :=
 (by kernel_rfl)
theorem dJo (kk5 : fG) : D27 r n dBv (xs (xs x0 0 (K1 (cZ r n) 3)) 1 (K3 (fW r n kk5) 0 3 4)) (K3 (fW r n kk5) 0 3 4) = (K3 (aBy r n kk5) 0 3 4) :=
 (by kernel_rfl)
theorem cIf (kk5 : fG) : D27 r n aDb (xs (xs x0 0 (K1 (cZ r n) 3)) 1 (K3 (fW r n kk5) 0 3 4)) (K3 (fW r n kk5) 0 3 4) = D27 r n bSb (xs (xs x0 0 (K1 (cZ r n) 3)) 1 (K3 (fW r n kk5) 0 3 4)) (K3 (aBy r n kk5) 0 3 4) :=
 congrArg (fun k => D27 r n bSb (xs (xs x0 0 (K1 (cZ r n) 3)) 1 (K3 (fW r n kk5) 0 3 4)) k) (dJo r n kk5)
theorem dBu (kk5 : fG) : D27 r n aDb (xs (xs x0 0 (K1 (cZ r n) 3)) 1 (K3 (fW r n kk5) 0 3 4)) (K3 (fW r n kk5) 0 3 4) = (K3 (bAt r n kk5) 0 3 4) :=
 (cIf r n kk5).trans
 ((by kernel_rfl))
theorem cNx (kk5 : fG) : D27 r n aXq (xs x0 0 (K1 (cZ r n) 3)) (K3 kk5 0 3 4) = D27 r n aEs (xs x0 0 (K1 (cZ r n) 3)) (K3 (fW r n kk5) 0 3 4) :=
 congrArg (fun k => D27 r n aEs (xs x0 0 (K1 (cZ r n) 3)) k) (dBl r n kk5)
theorem cJw (kk5 : fG) : D27 r n aFe (xs (xs x0 0 (K1 (cZ r n) 3)) 1 (K3 (fW r n kk5) 0 3 4)) (K3 (fW r n kk5) 0 3 4) = D27 r n bJj (xs (xs x0 0 (K1 (cZ r n) 3)) 1 (K3 (fW r n kk5) 0 3 4)) (K3 (bAt r n kk5) 0 3 4) :=
 congrArg (fun k => D27 r n bJj (xs (xs x0 0 (K1 (cZ r n) 3)) 1 (K3 (fW r n kk5) 0 3 4)) k) (dBu r n kk5)
theorem cZs (kk5 : fG) : D27 r n aXq (xs x0 0 (K1 (cZ r n) 3)) (K3 kk5 0 3 4) = (K3 (aWs r n kk5) 0 3 4) :=
 (cNx r n kk5).trans
 ((by kernel_rfl : D27 r n aEs (xs x0 0 (K1 (cZ r n) 3)) (K3 (fW r n kk5) 0 3 4) = D27 r n aFe (xs (xs x0 0 (K1 (cZ r n) 3)) 1 (K3 (fW r n kk5) 0 3 4)) (K3 (fW r n kk5) 0 3 4)).trans
 ((cJw r n kk5).trans
 ((by kernel_rfl))))
theorem cPc (kk5 : fG) : D27 r n oF (xs x0 0 (K1 (cZ r n) 3)) (K3 kk5 0 3 4) = D27 r n bVy (xs x0 0 (K1 (cZ r n) 3)) (K3 (aWs r n kk5) 0 3 4) :=
 congrArg (fun k => D27 r n bVy (xs x0 0 (K1 (cZ r n) 3)) k) (cZs r n kk5)
theorem cLp (kk5 : fG) : D27 r n oF (xs x0 0 (K1 (cZ r n) 3)) (K3 kk5 0 3 4) = (K3 (rH r n kk5) 0 3 4) :=
 (cPc r n kk5).trans
 ((by kernel_rfl))
theorem cOt (m : Nat) : aL (fun kk => D27 r n oF (xs x0 0 (K1 (cZ r n) 3)) kk) m = (K3 (mD r n m) 0 3 4) := by
 induction m with
 | zero => exact (by kernel_rfl : aL (fun kk => D27 r n oF (xs x0 0 (K1 (cZ r n) 3)) kk) 0 = (K3 (mD r n 0) 0 3 4))
 | succ m ih =>
  refine (by kernel_rfl : aL (fun kk => D27 r n oF (xs x0 0 (K1 (cZ r n) 3)) kk) (m + 1) = D27 r n oF (xs x0 0 (K1 (cZ r n) 3)) (aL (fun kk => D27 r n oF (xs x0 0 (K1 (cZ r n) 3)) kk) m)).trans ?_
  rw [ih]
  exact (cLp r n (mD r n m)).trans (by kernel_rfl)
theorem cZl : D27 r n aZq (xs x0 0 (K1 (cZ r n) 3)) (K1 (cZ r n) 3) = (K3 (bUv r n) 0 3 4) :=
 (by kernel_rfl : D27 r n aZq (xs x0 0 (K1 (cZ r n) 3)) (K1 (cZ r n) 3) = aL (fun kk => D27 r n oF (xs x0 0 (K1 (cZ r n) 3)) kk) n).trans ((cOt r n n).trans (by kernel_rfl))
theorem dFx : D27 r n bWr x0 (K1 (cZ r n) 3) = (K3 (aWj r n) 0 3 4) :=
 (by kernel_rfl : D27 r n bWr x0 (K1 (cZ r n) 3) = D27 r n aZq (xs x0 0 (K1 (cZ r n) 3)) (K1 (cZ r n) 3)).trans
 ((cZl r n).trans (by kernel_rfl))
theorem cLz : D27 r n aYf x0 r27 = D27 r n aOk x0 (K1 (cZ r n) 3) :=
 congrArg (fun k => D27 r n aOk x0 k) (dBr r n)
theorem cMs : D27 r n aOk x0 (K1 (cZ r n) 3) = D27 r n bOy x0 (K3 (aWj r n) 0 3 4) :=
 congrArg (fun k => D27 r n bOy x0 k) (dFx r n)
theorem dCv : D27 r n aYf x0 r27 = (K2 (bCi r n) 0 3) :=
 (cLz r n).trans
 ((cMs r n).trans
 ((by kernel_rfl)))
theorem cGs : D27 r n bBr x0 r27 = D27 r n bVe x0 (K2 (bCi r n) 0 3) :=
 congrArg (fun k => D27 r n bVe x0 k) (dCv r n)
theorem dIg : D27 r n bBr x0 r27 = (K1 (aWw r n) 0) :=
 (cGs r n).trans
 ((by kernel_rfl))
theorem dQy : D27 r n c27 x0 r27 = D27 r n cAt x0 (K1 (aWw r n) 0) :=
 congrArg (fun k => D27 r n cAt x0 k) (dIg r n)
theorem dWp : D27 r n c27 x0 r27 = (K1 (s27 r n) 0) :=
 (dQy r n).trans
 ((by kernel_rfl))
theorem cWo : aF CF r n 27 args h = s27 r n (aS args 0) h :=
 (by kernel_rfl : aF CF r n 27 args h = D27 r n c27 x0 r27 (aH args) h).trans ((congrFun (congrFun (dWp r n) (aH args)) h).trans (by kernel_rfl))
noncomputable def s30 (r : RT) (n : Nat) (x0 x1 : DV) (h0 : Hp) : aG :=
 bnd (r 45 [x0, x1] h0) fun v1 h1 =>
 some (v1, h1)
noncomputable abbrev c30 : Code := cf Tryz.f30
noncomputable abbrev r30 : K := aO CF Tryz.f30
noncomputable def D30 (r : RT) (n : Nat) (c : Code) (X : Nat → K) (k : K) : K := aM CF r 8 n c X r30 k
theorem dWw : D30 r n c30 x0 r30 = (K2 (s30 r n) 0 1) :=
 (by kernel_rfl)
theorem dNg : aF CF r n 30 args h = s30 r n (aS args 0) (aS args 1) h :=
 (by kernel_rfl : aF CF r n 30 args h = D30 r n c30 x0 r30 (aH args) h).trans ((congrFun (congrFun (dWw r n) (aH args)) h).trans (by kernel_rfl))
noncomputable def s34 (r : RT) (n : Nat) (h0 : Hp) : aG :=
 bnd (dS h0) fun v1 h1 =>
 bnd (dP .string v1 (.s [99, 108, 97, 115, 115]) (.f 50 [] []) h1) fun _ h2 =>
 bnd (dP .string v1 (.s [109, 101, 116, 104, 111, 100]) (.f 51 [] []) h2) fun _ h3 =>
 bnd (dP .string v1 (.s [100, 111]) (.f 52 [] []) h3) fun _ h4 =>
 bnd (r 53 [(aJ 1)] h4) fun v5 h5 =>
 bnd (dP .string v1 (.s [102, 97, 115, 116]) v5 h5) fun _ h6 =>
 bnd (r 53 [(aJ 0)] h6) fun v7 h7 =>
 bnd (dP .string v1 (.s [115, 108, 111, 119]) v7 h7) fun _ h8 =>
 bnd (dP .string v1 (.s [101, 118, 101, 114, 121]) (.f 54 [] []) h8) fun _ h9 =>
 some (v1, h9)
noncomputable abbrev c34 : Code := cf Tryz.f34
noncomputable abbrev r34 : K := aO CF Tryz.f34
noncomputable def D34 (r : RT) (n : Nat) (c : Code) (X : Nat → K) (k : K) : K := aM CF r 5 n c X r34 k
theorem eAd : D34 r n c34 x0 r34 = (K0 (s34 r n)) :=
 (by kernel_rfl)
theorem dSd : aF CF r n 34 args h = s34 r n h :=
 (by kernel_rfl : aF CF r n 34 args h = D34 r n c34 x0 r34 (aH args) h).trans ((congrFun (congrFun (eAd r n) (aH args)) h).trans (by kernel_rfl))
noncomputable def gS (r : RT) (n : Nat) (x3 : DV) (h0 : Hp) : aG :=
 some (x3, h0)
noncomputable def bXl (r : RT) (n : Nat) (kk6 : fG) (x0 x3 x4 : DV) (h0 : Hp) : aG :=
 bnd (cJ x0 h0) fun v1 h1 =>
 bnd (aD .lss x4 v1 h1) fun v2 h2 =>
 aT v2 (
 bnd (bY x0 x4 h2) fun v3 h3 =>
 bnd (aD .lss v3 (.i .u8 (Int.ofNat 48)) h3) fun v4 h4 =>
 bnd (gD v4 false (some (x0, h4)) h4) fun v5 h5 =>
 bnd (gD v4 false (some (x4, h5)) h5) fun v6 h6 =>
 bnd (gD v4 false (bY v5 v6 h6) h6) fun v7 h7 =>
 bnd (gD v4 false (aD .gtr v7 (.i .u8 (Int.ofNat 57)) h7) h7) fun v8 h8 =>
 bnd (aN v4 (.b true) v8 h8) fun v9 h9 =>
 aT v9 (
 some ((.i .i64 (Int.negSucc 0)), h9)) (
 bnd (aD .mul (aJ 10) x3 h9) fun v10 h10 =>
 bnd (bY x0 x4 h10) fun v11 h11 =>
 bnd (aD .sub v11 (.i .u8 (Int.ofNat 48)) h11) fun v12 h12 =>
 bnd (dJ .i64 v12 h12) fun v13 h13 =>
 bnd (aD .add v10 v13 h13) fun v14 h14 =>
 bnd (aD .add x4 (aJ 1) h14) fun v15 h15 =>
    kk6 x0 v14 v15 h15)) (
      gS r n x3 h2)
noncomputable def aFq (r : RT) (n : Nat) (m : Nat) : fG :=
 Nat.rec (motive := fun _ => fG) (fun _ _ _ _ => none) (fun _ ih => bXl r n ih) m
noncomputable def cXp (r : RT) (n : Nat) : fG := aFq r n n
noncomputable def bSv (r : RT) (n : Nat) (x0 x3 x4 : DV) (h0 : Hp) : aG :=
 cXp r n x0 x3 x4 h0
noncomputable def bUo (r : RT) (n : Nat) (x0 x3 : DV) (h0 : Hp) : aG :=
 bSv r n x0 x3 (aJ 0) h0
noncomputable def bPt (r : RT) (n : Nat) (x0 : DV) (h0 : Hp) : aG :=
 bUo r n x0 (aJ 0) h0
noncomputable def bMj (r : RT) (n : Nat) (x0 : DV) (h0 : Hp) : aG :=
 bnd (cJ x0 h0) fun v1 h1 =>
 bnd (aD .lss v1 (aJ 1) h1) fun v2 h2 =>
 bnd (gD v2 false (some (x0, h2)) h2) fun v3 h3 =>
 bnd (gD v2 false (cJ v3 h3) h3) fun v4 h4 =>
 bnd (gD v2 false (aD .gtr v4 (aJ 9) h4) h4) fun v5 h5 =>
 bnd (aN v2 (.b true) v5 h5) fun v6 h6 =>
 bnd (gD v6 false (some (x0, h6)) h6) fun v7 h7 =>
 bnd (gD v6 false (cJ v7 h7) h7) fun v8 h8 =>
 bnd (gD v6 false (aD .gtr v8 (aJ 1) h8) h8) fun v9 h9 =>
 bnd (gD v6 false (some (v9, h9)) h9) fun v10 h10 =>
 bnd (gD v10 true (some (x0, h10)) h10) fun v11 h11 =>
 bnd (gD v10 true (bY v11 (aJ 0) h11) h11) fun v12 h12 =>
 bnd (gD v10 true (aD .eql v12 (.i .u8 (Int.ofNat 48)) h12) h12) fun v13 h13 =>
 bnd (gD v6 false (aN v10 v13 (.b false) h13) h13) fun v14 h14 =>
 bnd (aN v6 (.b true) v14 h14) fun v15 h15 =>
 aT v15 (
 some ((.i .i64 (Int.negSucc 0)), h15)) (
  bPt r n x0 h15)
noncomputable def s35 (r : RT) (n : Nat) (x0 : DV) (h0 : Hp) : aG :=
 bMj r n x0 h0
noncomputable abbrev c35 : Code := cf Tryz.f35
noncomputable abbrev bEr : Code := cR c35
noncomputable abbrev bAs : Code := cR bEr
noncomputable abbrev bBv : Code := cR bAs
noncomputable abbrev dTr : Code := cR bBv
noncomputable abbrev aMm : Code := cL bBv
noncomputable abbrev bVl : Code := cR aMm
noncomputable abbrev aYl : Code := cL bVl
noncomputable abbrev zZ : Code := cL aYl
noncomputable abbrev cXh : Code := cL aMm
noncomputable abbrev bOz : Code := cL bAs
noncomputable abbrev bRd : Code := cL bEr
noncomputable abbrev bKz : Code := cL c35
noncomputable abbrev r35 : K := aO CF Tryz.f35
noncomputable def D35 (r : RT) (n : Nat) (c : Code) (X : Nat → K) (k : K) : K := aM CF r 48 n c X r35 k
theorem dAp : D35 r n dTr x0 r35 = (K1 (gS r n) 3) :=
 (by kernel_rfl)
theorem cMz (kk6 : fG) : D35 r n zZ (xs x0 0 (K1 (gS r n) 3)) (K3 kk6 0 3 4) = (K3 (bXl r n kk6) 0 3 4) :=
 (by kernel_rfl)
theorem cFo (m : Nat) : aL (fun kk => D35 r n zZ (xs x0 0 (K1 (gS r n) 3)) kk) m = (K3 (aFq r n m) 0 3 4) := by
 induction m with
 | zero => exact (by kernel_rfl : aL (fun kk => D35 r n zZ (xs x0 0 (K1 (gS r n) 3)) kk) 0 = (K3 (aFq r n 0) 0 3 4))
 | succ m ih =>
  refine (by kernel_rfl : aL (fun kk => D35 r n zZ (xs x0 0 (K1 (gS r n) 3)) kk) (m + 1) = D35 r n zZ (xs x0 0 (K1 (gS r n) 3)) (aL (fun kk => D35 r n zZ (xs x0 0 (K1 (gS r n) 3)) kk) m)).trans ?_
  rw [ih]
  exact (cMz r n (aFq r n m)).trans (by kernel_rfl)
theorem dDz : D35 r n aYl (xs x0 0 (K1 (gS r n) 3)) (K1 (gS r n) 3) = (K3 (cXp r n) 0 3 4) :=
 (by kernel_rfl : D35 r n aYl (xs x0 0 (K1 (gS r n) 3)) (K1 (gS r n) 3) = aL (fun kk => D35 r n zZ (xs x0 0 (K1 (gS r n) 3)) kk) n).trans ((cFo r n n).trans (by kernel_rfl))
theorem dHd : D35 r n bVl x0 (K1 (gS r n) 3) = (K3 (bSv r n) 0 3 4) :=
 (by kernel_rfl : D35 r n bVl x0 (K1 (gS r n) 3) = D35 r n aYl (xs x0 0 (K1 (gS r n) 3)) (K1 (gS r n) 3)).trans
 ((dDz r n).trans (by kernel_rfl))
theorem cEv : D35 r n bBv x0 r35 = D35 r n aMm x0 (K1 (gS r n) 3) :=
 congrArg (fun k => D35 r n aMm x0 k) (dAp r n)
theorem cSh : D35 r n aMm x0 (K1 (gS r n) 3) = D35 r n cXh x0 (K3 (bSv r n) 0 3 4) :=
 congrArg (fun k => D35 r n cXh x0 k) (dHd r n)
theorem dCm : D35 r n bBv x0 r35 = (K2 (bUo r n) 0 3) :=
 (cEv r n).trans
 ((cSh r n).trans
 ((by kernel_rfl)))
theorem cRg : D35 r n bAs x0 r35 = D35 r n bOz x0 (K2 (bUo r n) 0 3) :=
 congrArg (fun k => D35 r n bOz x0 k) (dCm r n)
theorem dHp : D35 r n bAs x0 r35 = (K1 (bPt r n) 0) :=
 (cRg r n).trans
 ((by kernel_rfl))
theorem cQq : D35 r n bEr x0 r35 = D35 r n bRd x0 (K1 (bPt r n) 0) :=
 congrArg (fun k => D35 r n bRd x0 k) (dHp r n)
theorem dAr : D35 r n bEr x0 r35 = (K1 (bMj r n) 0) :=
 (cQq r n).trans
 ((by kernel_rfl))
theorem dNe : D35 r n c35 x0 r35 = D35 r n bKz x0 (K1 (bMj r n) 0) :=
 congrArg (fun k => D35 r n bKz x0 k) (dAr r n)
theorem dXh : D35 r n c35 x0 r35 = (K1 (s35 r n) 0) :=
 (dNe r n).trans
 ((by kernel_rfl))
theorem dVw : aF CF r n 35 args h = s35 r n (aS args 0) h :=
 (by kernel_rfl : aF CF r n 35 args h = D35 r n c35 x0 r35 (aH args) h).trans ((congrFun (congrFun (dXh r n) (aH args)) h).trans (by kernel_rfl))
noncomputable def s36 (r : RT) (n : Nat) (x0 : DV) (h0 : Hp) : aG :=
 bnd (r 55 [x0] h0) fun v1 h1 =>
 bnd (aC 0 v1 h1) fun v2 h2 =>
 bnd (aC 1 v1 h2) fun v3 h3 =>
 bnd (aD .neq v3 (.i .i64 (Int.ofNat 0)) h3) fun v4 h4 =>
 aT v4 (
 some (.t [.p0, v3], h4)) (
 bnd (bL [.p0, .p0, .p0, .l0, (.i .i64 (Int.ofNat 0))] [] h4) fun v5 h5 =>
 bnd (cH v5 h5) fun v6 h6 =>
 bnd (r 56 [v6, v2] h6) fun v7 h7 =>
 some (.t [v6, (.i .i64 (Int.ofNat 0))], h7))
noncomputable abbrev c36 : Code := cf Tryz.f36
noncomputable abbrev r36 : K := aO CF Tryz.f36
noncomputable def D36 (r : RT) (n : Nat) (c : Code) (X : Nat → K) (k : K) : K := aM CF r 21 n c X r36 k
theorem eAr : D36 r n c36 x0 r36 = (K1 (s36 r n) 0) :=
 (by kernel_rfl)
theorem cVh : aF CF r n 36 args h = s36 r n (aS args 0) h :=
 (by kernel_rfl : aF CF r n 36 args h = D36 r n c36 x0 r36 (aH args) h).trans ((congrFun (congrFun (eAr r n) (aH args)) h).trans (by kernel_rfl))
noncomputable def s45 (r : RT) (n : Nat) (x0 x1 : DV) (h0 : Hp) : aG :=
 bnd (aOq [x0, x1] h0) fun v1 h1 =>
 some (v1, h1)
noncomputable abbrev c45 : Code := cf Tryz.f45
noncomputable abbrev r45 : K := aO CF Tryz.f45
noncomputable def D45 (r : RT) (n : Nat) (c : Code) (X : Nat → K) (k : K) : K := aM CF r 8 n c X r45 k
theorem eAs : D45 r n c45 x0 r45 = (K2 (s45 r n) 0 1) :=
 (by kernel_rfl)
theorem dPg : aF CF r n 45 args h = s45 r n (aS args 0) (aS args 1) h :=
 (by kernel_rfl : aF CF r n 45 args h = D45 r n c45 x0 r45 (aH args) h).trans ((congrFun (congrFun (eAs r n) (aH args)) h).trans (by kernel_rfl))
noncomputable def s50 (r : RT) (n : Nat) (x0 : DV) (h0 : Hp) : aG :=
 bnd (bQ [(aJ 0), (.s []), (.s []), .l0, (.s []), (aJ 0)] h0) fun v1 h1 =>
 bnd (r 17 [x0, (.s [32])] h1) fun v2 h2 =>
 bnd (bV v2 h2) fun v3 h3 =>
 bnd (aD .lss v3 (aJ 2) h3) fun v4 h4 =>
 bnd (gD v4 false (some (v2, h4)) h4) fun v5 h5 =>
 bnd (gD v4 false (r 73 [v5] h5) h5) fun v6 h6 =>
 bnd (gD v4 false (hZ .not v6 h6) h6) fun v7 h7 =>
 bnd (aN v4 (.b true) v7 h7) fun v8 h8 =>
 aT v8 (
 bnd (bL [(aJ 0), (.s []), (.s []), .l0, (.s []), (aJ 0)] [] h8) fun v9 h9 =>
 bnd (aI 6 v1 v9 h9) fun _ h10 =>
 bnd (aK 6 v1 h10) fun v11 _ =>
 some (.t [v11, (.b false)], h10)) (
 bnd (aE 1 v2 (aJ 0) h8) fun v12 h12 =>
 bnd (aA v12 h12) fun v13 h13 =>
 bnd (aE 1 v2 (aJ 1) h13) fun v14 h14 =>
 bnd (aA v14 h14) fun v15 h15 =>
 bnd (cS 1 v2 (some (aJ 2)) none h15) fun v16 h16 =>
 bnd (bL [(aJ 0), (.s []), (.s []), .l0, (.s []), (aJ 0)] [(0, 1, (aJ 1)), (1, 1, v13), (2, 1, v15), (3, 1, v16)] h16) fun v17 h17 =>
 bnd (aI 6 v1 v17 h17) fun v18 h18 =>
 bnd (aK 6 v1 h18) fun v19 _ =>
 some (.t [v19, (.b true)], h18))
noncomputable abbrev c50 : Code := cf Tryz.f50
noncomputable abbrev r50 : K := aO CF Tryz.f50
noncomputable def D50 (r : RT) (n : Nat) (c : Code) (X : Nat → K) (k : K) : K := aM CF r 25 n c X r50 k
theorem dZl : D50 r n c50 x0 r50 = (K1 (s50 r n) 0) :=
 (by kernel_rfl)
theorem dOx : aF CF r n 50 args h = s50 r n (aS args 0) h :=
 (by kernel_rfl : aF CF r n 50 args h = D50 r n c50 x0 r50 (aH args) h).trans ((congrFun (congrFun (dZl r n) (aH args)) h).trans (by kernel_rfl))
noncomputable def s51 (r : RT) (n : Nat) (x0 : DV) (h0 : Hp) : aG :=
 bnd (bQ [(aJ 0), (.s []), (.s []), .l0, (.s []), (aJ 0)] h0) fun v1 h1 =>
 bnd (aGp [x0, (.s [32])] h1) fun v2 h2 =>
 bnd (aC 0 v2 h2) fun v3 h3 =>
 bnd (aC 1 v2 h3) fun v4 h4 =>
 bnd (aC 2 v2 h4) fun v5 h5 =>
 bnd (bL [(aJ 0), (.s []), (.s []), .l0, (.s []), (aJ 0)] [(0, 1, (aJ 2)), (1, 1, v3), (4, 1, v4)] h5) fun v6 h6 =>
 bnd (gD v5 true (some (v3, h6)) h6) fun v7 h7 =>
 bnd (gD v5 true (bW .neq v7 (.s []) h7) h7) fun v8 h8 =>
 bnd (aN v5 v8 (.b false) h8) fun v9 h9 =>
 bnd (aI 6 v1 v6 h9) fun _ h10 =>
 bnd (aK 6 v1 h10) fun v11 _ =>
 some (.t [v11, v9], h10)
noncomputable abbrev c51 : Code := cf Tryz.f51
noncomputable abbrev r51 : K := aO CF Tryz.f51
noncomputable def D51 (r : RT) (n : Nat) (c : Code) (X : Nat → K) (k : K) : K := aM CF r 21 n c X r51 k
theorem dXd : D51 r n c51 x0 r51 = (K1 (s51 r n) 0) :=
 (by kernel_rfl)
theorem dPm : aF CF r n 51 args h = s51 r n (aS args 0) h :=
 (by kernel_rfl : aF CF r n 51 args h = D51 r n c51 x0 r51 (aH args) h).trans ((congrFun (congrFun (dXd r n) (aH args)) h).trans (by kernel_rfl))
noncomputable def s52 (r : RT) (n : Nat) (x0 : DV) (h0 : Hp) : aG :=
 bnd (bQ [(aJ 0), (.s []), (.s []), .l0, (.s []), (aJ 0)] h0) fun v1 h1 =>
 bnd (aGp [x0, (.s [32])] h1) fun v2 h2 =>
 bnd (aC 0 v2 h2) fun v3 h3 =>
 bnd (aC 1 v2 h3) fun v4 h4 =>
 bnd (aC 2 v2 h4) fun v5 h5 =>
 bnd (kE [v3] h5) fun v6 h6 =>
 bnd (aC 0 v6 h6) fun v7 h7 =>
 bnd (aC 1 v6 h7) fun v8 h8 =>
 bnd (bL [(aJ 0), (.s []), (.s []), .l0, (.s []), (aJ 0)] [(0, 1, (aJ 3)), (5, 1, v7), (4, 1, v4)] h8) fun v9 h9 =>
 bnd (gD v5 true (some (v8, h9)) h9) fun v10 h10 =>
 bnd (aN v5 v10 (.b false) h10) fun v11 h11 =>
 bnd (aI 6 v1 v9 h11) fun _ h12 =>
 bnd (aK 6 v1 h12) fun v13 _ =>
 some (.t [v13, v11], h12)
noncomputable abbrev c52 : Code := cf Tryz.f52
noncomputable abbrev r52 : K := aO CF Tryz.f52
noncomputable def D52 (r : RT) (n : Nat) (c : Code) (X : Nat → K) (k : K) : K := aM CF r 27 n c X r52 k
theorem eBk : D52 r n c52 x0 r52 = (K1 (s52 r n) 0) :=
 (by kernel_rfl)
theorem dUt : aF CF r n 52 args h = s52 r n (aS args 0) h :=
 (by kernel_rfl : aF CF r n 52 args h = D52 r n c52 x0 r52 (aH args) h).trans ((congrFun (congrFun (eBk r n) (aH args)) h).trans (by kernel_rfl))
noncomputable def s53 (r : RT) (n : Nat) (x0 : DV) (h0 : Hp) : aG :=
 bnd (cH x0 h0) fun v1 h1 =>
 some ((.f 75 [] [v1]), h1)
noncomputable abbrev c53 : Code := cf Tryz.f53
noncomputable abbrev r53 : K := aO CF Tryz.f53
noncomputable def D53 (r : RT) (n : Nat) (c : Code) (X : Nat → K) (k : K) : K := aM CF r 4 n c X r53 k
theorem dYa : D53 r n c53 x0 r53 = (K1 (s53 r n) 0) :=
 (by kernel_rfl)
theorem dRj : aF CF r n 53 args h = s53 r n (aS args 0) h :=
 (by kernel_rfl : aF CF r n 53 args h = D53 r n c53 x0 r53 (aH args) h).trans ((congrFun (congrFun (dYa r n) (aH args)) h).trans (by kernel_rfl))
noncomputable def s54 (r : RT) (n : Nat) (x0 : DV) (h0 : Hp) : aG :=
 bnd (bQ [(aJ 0), (.s []), (.s []), .l0, (.s []), (aJ 0)] h0) fun v1 h1 =>
 bnd (kE [x0] h1) fun v2 h2 =>
 bnd (aC 0 v2 h2) fun v3 h3 =>
 bnd (aC 1 v2 h3) fun v4 h4 =>
 bnd (bL [(aJ 0), (.s []), (.s []), .l0, (.s []), (aJ 0)] [(0, 1, (aJ 8)), (5, 1, v3)] h4) fun v5 h5 =>
 bnd (aI 6 v1 v5 h5) fun _ h6 =>
 bnd (aK 6 v1 h6) fun v7 _ =>
 some (.t [v7, v4], h6)
noncomputable abbrev c54 : Code := cf Tryz.f54
noncomputable abbrev r54 : K := aO CF Tryz.f54
noncomputable def D54 (r : RT) (n : Nat) (c : Code) (X : Nat → K) (k : K) : K := aM CF r 14 n c X r54 k
theorem dYj : D54 r n c54 x0 r54 = (K1 (s54 r n) 0) :=
 (by kernel_rfl)
theorem dVr : aF CF r n 54 args h = s54 r n (aS args 0) h :=
 (by kernel_rfl : aF CF r n 54 args h = D54 r n c54 x0 r54 (aH args) h).trans ((congrFun (congrFun (dYj r n) (aH args)) h).trans (by kernel_rfl))
end Go.Dd

namespace Go.Dd
open Go.Proofs
variable (r : RT) (n : Nat) (args : List DV) (h : Hp)
noncomputable def fD (r : RT) (n : Nat) (x5 : DV) (h0 : Hp) : aG :=
 some (.t [x5, (.i .i64 (Int.ofNat 0))], h0)
noncomputable def kM (r : RT) (n : Nat) (kk9 : cU) (x5 x155 x156 x157 : DV) (h0 : Hp) : aG :=
 bnd (aD .lss x157 x156 h0) fun v1 h1 =>
 aT v1 (
 bnd (aE 1 x155 x157 h1) fun v2 h2 =>
 bnd (aA v2 h2) fun v3 h3 =>
 bnd (aE 1 v3 (.i .i64 (Int.ofNat 0)) h3) fun v4 h4 =>
 bnd (aA v4 h4) fun v5 h5 =>
 bnd (aE 1 v3 (.i .i64 (Int.ofNat 1)) h5) fun v6 h6 =>
 bnd (aA v6 h6) fun v7 h7 =>
 bnd (r 87 [x5, v5, v7] h7) fun v8 h8 =>
 bnd (aC 0 v8 h8) fun v9 h9 =>
 bnd (aC 1 v8 h9) fun v10 h10 =>
 bnd (aC 2 v8 h10) fun v11 h11 =>
 bnd (aC 3 v8 h11) fun v12 h12 =>
 bnd (aD .neq v12 (.i .i64 (Int.ofNat 0)) h12) fun v13 h13 =>
 aT v13 (
 some (.t [.p0, v12], h13)) (
 bnd (aD .add x157 (.i .i64 (Int.ofNat 1)) h13) fun v14 h14 =>
    kk9 x5 x155 x156 v14 h14)) (
      fD r n x5 h1)
noncomputable def kF (r : RT) (n : Nat) (m : Nat) : cU :=
 Nat.rec (motive := fun _ => cU) (fun _ _ _ _ _ => none) (fun _ ih => kM r n ih) m
noncomputable def aXp (r : RT) (n : Nat) : cU := kF r n n
noncomputable def cBb (r : RT) (n : Nat) (x5 x155 x156 x157 : DV) (h0 : Hp) : aG :=
 aXp r n x5 x155 x156 x157 h0
noncomputable def bE (r : RT) (n : Nat) (x5 : DV) (h0 : Hp) : aG :=
 bnd (r 86 [] h0) fun v1 h1 =>
 bnd (bV v1 h1) fun v2 h2 =>
  cBb r n x5 v1 v2 (.i .i64 (Int.ofNat 0)) h2
noncomputable def aX (r : RT) (n : Nat) (kk11 : cI) (x4 x5 x59 x60 x61 : DV) (h0 : Hp) : aG :=
 bnd (aD .add x61 (.i .i64 (Int.ofNat 1)) h0) fun v1 h1 =>
  kk11 x4 x5 x59 x60 v1 h1
noncomputable def eW (r : RT) (n : Nat) (kk11 : cI) (x4 x5 x8 x9 x59 x60 x61 : DV) (h0 : Hp) : aG :=
 bnd (aY x5 h0) fun v1 h1 =>
 bnd (aB 1 v1 h1) fun v2 h2 =>
 bnd (aA v2 h2) fun v3 h3 =>
 bnd (aY x5 h3) fun v4 h4 =>
 bnd (aB 1 v4 h4) fun v5 h5 =>
 bnd (aA v5 h5) fun v6 h6 =>
 bnd (aE 1 v6 (.i .i64 (Int.ofNat 1)) h6) fun v7 h7 =>
 bnd (aA v7 h7) fun v8 h8 =>
 bnd (r 85 [x5, x9, v8] h8) fun v9 h9 =>
 cnd (bB (aA v2 h9) v3 && true) (
 bnd (aC 0 v9 h9) fun v10 h10 =>
 bnd (aC 1 v9 h10) fun v11 h11 =>
 bnd (aE 1 v3 (.i .i64 (Int.ofNat 1)) h11) fun v12 h12 =>
 bnd (aI 1 v12 v10 h12) fun v13 h13 =>
 bnd (aY x5 h13) fun v14 h14 =>
 bnd (aB 3 v14 h14) fun v15 h15 =>
 bnd (aA v15 h15) fun v16 h16 =>
 bnd (aB 0 x8 h16) fun v17 h17 =>
 bnd (aA v17 h17) fun v18 h18 =>
 bnd (dP .string v16 v18 x9 h18) fun v19 h19 =>
  aX r n kk11 x4 x5 x59 x60 x61 h19)
noncomputable def bEg (r : RT) (n : Nat) (kk11 : cI) (kk25 : aUp) (x4 x5 x8 x9 x59 x60 x61 x117 x118 x119 : DV) (h0 : Hp) : aG :=
 bnd (aD .lss x119 x118 h0) fun v1 h1 =>
 aT v1 (
 bnd (aE 1 x117 x119 h1) fun v2 h2 =>
 bnd (aA v2 h2) fun v3 h3 =>
 bnd (aOj [x4, x9, x119, v3] h3) fun v4 h4 =>
 bnd (aD .add x119 (.i .i64 (Int.ofNat 1)) h4) fun v5 h5 =>
      kk25 x4 x5 x8 x9 x59 x60 x61 x117 x118 v5 h5) (
      eW r n kk11 x4 x5 x8 x9 x59 x60 x61 h1)
noncomputable def uF (r : RT) (n : Nat) (kk11 : cI) (m : Nat) : aUp :=
 Nat.rec (motive := fun _ => aUp) (fun _ _ _ _ _ _ _ _ _ _ _ => none) (fun _ ih => bEg r n kk11 ih) m
noncomputable def cDb (r : RT) (n : Nat) (kk11 : cI) : aUp := uF r n kk11 n
noncomputable def xD (r : RT) (n : Nat) (kk11 : cI) (x4 x5 x8 x9 x59 x60 x61 x117 x118 x119 : DV) (h0 : Hp) : aG :=
 cDb r n kk11 x4 x5 x8 x9 x59 x60 x61 x117 x118 x119 h0
noncomputable def aDg (r : RT) (n : Nat) (kk11 : cI) (x4 x5 x8 x9 x10 x12 x13 x19 x59 x60 x61 : DV) (h0 : Hp) : aG :=
 bnd (r 83 [x13] (resv 1 h0)) fun v1 h1 =>
 bnd (aB 2 x8 h1) fun v2 h2 =>
 bnd (aA v2 h2) fun v3 h3 =>
 cnd (bB (aA v2 (resv 1 h0)) v3 && true) (
 bnd (r 83 [v3] h3) fun v4 h4 =>
 bnd (bP (cB 0 h0.next) [(.i .i64 (Int.ofNat 0)), (.i .i64 (Int.ofNat 0)), (.i .i64 (Int.ofNat 0)), (.i .i64 (Int.ofNat 0)), (.i .i64 (Int.ofNat 0)), (.i .i64 (Int.ofNat 0))] 6 [(0, 1, x10), (1, 1, x12), (2, 1, v1), (3, 1, x19), (4, 1, (.i .i64 (Int.ofNat 0))), (5, 1, v4)] h4) fun v5 h5 =>
 bnd (bV v5 h5) fun v6 h6 =>
  xD r n kk11 x4 x5 x8 x9 x59 x60 x61 v5 v6 (.i .i64 (Int.ofNat 0)) h6)
noncomputable def oJ (r : RT) (n : Nat) (kk11 : cI) (x4 x5 x8 x9 x10 x12 x13 x14 x59 x60 x61 : DV) (h0 : Hp) : aG :=
 bnd (r 82 [x5, x14] h0) fun v1 h1 =>
 bnd (aC 0 v1 h1) fun v2 h2 =>
 bnd (aC 1 v1 h2) fun v3 h3 =>
  aDg r n kk11 x4 x5 x8 x9 x10 x12 x13 v2 x59 x60 x61 h3
noncomputable def wP (r : RT) (n : Nat) (kk11 : cI) (x4 x5 x7 x8 x9 x10 x12 x13 x14 x59 x60 x61 : DV) (h0 : Hp) : aG :=
 bnd (aD .eql x7 (.i .i64 (Int.ofNat 15)) h0) fun v1 h1 =>
 aT v1 (
 bnd (r 81 [x5, (.s [115, 101, 108, 101, 99, 116, 111, 114])] h1) fun v2 h2 =>
 bnd (aC 0 v2 h2) fun v3 h3 =>
 bnd (aC 1 v2 h3) fun v4 h4 =>
 bnd (r 81 [x5, (.s [97, 114, 103, 117, 109, 101, 110, 116, 115])] h4) fun v5 h5 =>
 bnd (aC 0 v5 h5) fun v6 h6 =>
 bnd (aC 1 v5 h6) fun v7 h7 =>
 bnd (aP [(.i .i64 (Int.ofNat 0)), (.i .i64 (Int.ofNat 0))] 2 [(0, 1, v3), (1, 1, v6)] h7) fun v8 h8 =>
  oJ r n kk11 x4 x5 x8 x9 x10 x12 (.i .i64 (Int.ofNat 2)) v8 x59 x60 x61 h8) (
  oJ r n kk11 x4 x5 x8 x9 x10 x12 x13 x14 x59 x60 x61 h1)
noncomputable def aRv (r : RT) (n : Nat) (kk11 : cI) (x4 x5 x7 x8 x9 x10 x12 x13 x14 x59 x60 x61 : DV) (h0 : Hp) : aG :=
 bnd (aB 1 x8 h0) fun v1 h1 =>
 bnd (aA v1 h1) fun v2 h2 =>
 bnd (aD .geq v2 (.i .i64 (Int.ofNat 0)) h2) fun v3 h3 =>
 aT v3 (
 bnd (aB 1 x8 h3) fun v4 h4 =>
 bnd (aA v4 h4) fun v5 h5 =>
 bnd (r 79 [x5, v5] h5) fun v6 h6 =>
  wP r n kk11 x4 x5 x7 x8 x9 x10 v6 x13 x14 x59 x60 x61 h6) (
  wP r n kk11 x4 x5 x7 x8 x9 x10 x12 x13 x14 x59 x60 x61 h3)
noncomputable def aQt (r : RT) (n : Nat) (kk11 : cI) (x4 x5 x7 x8 x9 x10 x59 x60 x61 : DV) (h0 : Hp) : aG :=
 aRv r n kk11 x4 x5 x7 x8 x9 x10 (.i .i64 (Int.ofNat 0)) (.i .i64 (Int.ofNat 0)) .l0 x59 x60 x61 h0
noncomputable def aQu (r : RT) (n : Nat) (kk11 : cI) (x4 x5 x7 x8 x9 x59 x60 x61 : DV) (h0 : Hp) : aG :=
 bnd (aB 0 x8 h0) fun v1 h1 =>
 bnd (aA v1 h1) fun v2 h2 =>
 bnd (r 81 [x5, v2] h2) fun v3 h3 =>
 bnd (aC 0 v3 h3) fun v4 h4 =>
 bnd (aC 1 v3 h4) fun v5 h5 =>
  aQt r n kk11 x4 x5 x7 x8 x9 v4 x59 x60 x61 h5
noncomputable def aPf (r : RT) (n : Nat) (kk11 : cI) (x4 x5 x7 x8 x9 x59 x60 x61 : DV) (h0 : Hp) : aG :=
 bnd (r 79 [x5, (.i .i64 (Int.ofNat 1))] h0) fun v1 h1 =>
 bnd (kO [x4, x9, v1] h1) fun v2 h2 =>
  aQu r n kk11 x4 x5 x7 x8 x9 x59 x60 x61 h2
noncomputable def yZ (r : RT) (n : Nat) (kk11 : cI) (x4 x5 x7 x8 x59 x60 x61 : DV) (h0 : Hp) : aG :=
 bnd (r 79 [x5, x7] h0) fun v1 h1 =>
  aPf r n kk11 x4 x5 x7 x8 v1 x59 x60 x61 h1
noncomputable def aGs (r : RT) (n : Nat) (kk11 : cI) (x4 x5 x59 x60 x61 : DV) (h0 : Hp) : aG :=
 bnd (aE 3 x59 x61 h0) fun v1 h1 =>
 bnd (aK 3 v1 h1) fun v2 h2 =>
 bnd (bQ [(.s []), (.i .i64 (Int.ofNat 0)), (.i .i64 (Int.ofNat 0))] h2) fun v3 h3 =>
 bnd (aI 3 v3 v2 h3) fun _ h4 =>
  yZ r n kk11 x4 x5 x61 v3 x59 x60 x61 h4
noncomputable def aTe (r : RT) (n : Nat) (kk11 : cI) (x4 x5 x59 x60 x61 x62 : DV) (h0 : Hp) : aG :=
 aT x62 (
  aGs r n kk11 x4 x5 x59 x60 x61 h0) (
  bE r n x5 h0)
noncomputable def aXc (r : RT) (n : Nat) (kk11 : cI) (x4 x5 x59 x60 x61 : DV) (h0 : Hp) : aG :=
 bnd (aD .lss x61 x60 h0) fun v1 h1 =>
  aTe r n kk11 x4 x5 x59 x60 x61 v1 h1
noncomputable def vU (r : RT) (n : Nat) (m : Nat) : cI :=
 Nat.rec (motive := fun _ => cI) (fun _ _ _ _ _ _ => none) (fun _ ih => aXc r n ih) m
noncomputable def bPc (r : RT) (n : Nat) : cI := vU r n n
noncomputable def aRp (r : RT) (n : Nat) (x4 x5 x59 x60 x61 : DV) (h0 : Hp) : aG :=
 bPc r n x4 x5 x59 x60 x61 h0
noncomputable def hC (r : RT) (n : Nat) (x4 x5 : DV) (h0 : Hp) : aG :=
 bnd (r 78 [] h0) fun v1 h1 =>
 bnd (bV v1 h1) fun v2 h2 =>
  aRp r n x4 x5 v1 v2 (.i .i64 (Int.ofNat 0)) h2
noncomputable def aYe (r : RT) (n : Nat) (kk27 : fG) (x4 x5 x43 : DV) (h0 : Hp) : aG :=
 bnd (aD .lss x43 (.i .i64 (Int.ofNat 16)) h0) fun v1 h1 =>
 aT v1 (
 bnd (aY x5 h1) fun v2 h2 =>
 bnd (aB 1 v2 h2) fun v3 h3 =>
 bnd (aA v3 h3) fun v4 h4 =>
 bnd (aD .add (.i .i64 (Int.ofNat 2)) x43 h4) fun v5 h5 =>
 bnd (tI [x4, (.i .i64 (Int.ofNat 0)), (.i .i64 (Int.ofNat 0)), (.i .i64 (Int.ofNat 6))] h5) fun v6 h6 =>
 cnd (bB (aA v3 h6) v4 && true) (
 bnd (aC 0 v6 h6) fun v7 h7 =>
 bnd (aC 1 v6 h7) fun v8 h8 =>
 bnd (aE 1 v4 v5 h8) fun v9 h9 =>
 bnd (aI 1 v9 v7 h9) fun v10 h10 =>
 bnd (aD .add x43 (.i .i64 (Int.ofNat 1)) h10) fun v11 h11 =>
      kk27 x4 x5 v11 h11)) (
      hC r n x4 x5 h1)
noncomputable def vV (r : RT) (n : Nat) (m : Nat) : fG :=
 Nat.rec (motive := fun _ => fG) (fun _ _ _ _ => none) (fun _ ih => aYe r n ih) m
noncomputable def bPe (r : RT) (n : Nat) : fG := vV r n n
noncomputable def aRg (r : RT) (n : Nat) (x4 x5 x43 : DV) (h0 : Hp) : aG :=
 bPe r n x4 x5 x43 h0
noncomputable def aOa (r : RT) (n : Nat) (x4 x5 : DV) (h0 : Hp) : aG :=
 aRg r n x4 x5 (.i .i64 (Int.ofNat 0)) h0
noncomputable def aYa (r : RT) (n : Nat) (x4 : DV) (h0 : Hp) : aG :=
 bnd (bN 1 8 [(.i .i64 (Int.ofNat 0))] (.i .i64 (Int.ofNat 18)) (.i .i64 (Int.ofNat 18)) h0) fun v1 h1 =>
 bnd (dS h1) fun v2 h2 =>
 bnd (dS h2) fun v3 h3 =>
 bnd (bL [.p0, .l0, .m0, .m0] [(0, 1, x4), (1, 1, v1), (2, 1, v2), (3, 1, v3)] h3) fun v4 h4 =>
 bnd (cH v4 h4) fun v5 h5 =>
  aOa r n x4 v5 h5
noncomputable def bKu (r : RT) (n : Nat) (x0 x4 : DV) (h0 : Hp) : aG :=
 bnd (pEq (.pointer 181) true x4 .p0 h0) fun v1 h1 =>
 aT v1 (
 some (.t [.p0, (.i .i64 (Int.ofNat 1))], h1)) (
 bnd (aD .lss x0 (.i .i64 (Int.ofNat 16384)) h1) fun v2 h2 =>
 aT v2 (
 some (.t [.p0, (.i .i64 (Int.ofNat 4))], h2)) (
   aYa r n x4 h2))
noncomputable def bWs (r : RT) (n : Nat) (x0 : DV) (h0 : Hp) : aG :=
 bnd (aPo [x0] h0) fun v1 h1 =>
  bKu r n x0 v1 h1
noncomputable def s55 (r : RT) (n : Nat) (x0 : DV) (h0 : Hp) : aG :=
 bWs r n x0 h0
noncomputable abbrev c55 : Code := cf Tryz.f55
noncomputable abbrev aYt : Code := cR c55
noncomputable abbrev aXz : Code := cR aYt
noncomputable abbrev aXo : Code := cR aXz
noncomputable abbrev bAd : Code := cR aXo
noncomputable abbrev aWv : Code := cR bAd
noncomputable abbrev aYn : Code := cR aWv
noncomputable abbrev dNk : Code := cR aYn
noncomputable abbrev aNq : Code := cL aYn
noncomputable abbrev bWq : Code := cR aNq
noncomputable abbrev aHh : Code := cL bWq
noncomputable abbrev oK : Code := cL aHh
noncomputable abbrev bVs : Code := cL aNq
noncomputable abbrev xF : Code := cL aWv
noncomputable abbrev aSz : Code := cR xF
noncomputable abbrev aGz : Code := cL aSz
noncomputable abbrev kK : Code := cL aGz
noncomputable abbrev aDa : Code := cR kK
noncomputable abbrev aJv : Code := cR aDa
noncomputable abbrev dEa : Code := cR aJv
noncomputable abbrev aGr : Code := cL aJv
noncomputable abbrev aEb : Code := cL aGr
noncomputable abbrev aKo : Code := cR aEb
noncomputable abbrev aHg : Code := cR aKo
noncomputable abbrev aJw : Code := cR aHg
noncomputable abbrev aFf : Code := cR aJw
noncomputable abbrev aIg : Code := cR aFf
noncomputable abbrev aCl : Code := cR aIg
noncomputable abbrev aDl : Code := cR aCl
noncomputable abbrev aIj : Code := cR aDl
noncomputable abbrev dLu : Code := cR aIj
noncomputable abbrev xS : Code := cL aIj
noncomputable abbrev aRt : Code := cR xS
noncomputable abbrev aJo : Code := cL aRt
noncomputable abbrev pF : Code := cL aJo
noncomputable abbrev aPg : Code := cL xS
noncomputable abbrev bZp : Code := cL aDl
noncomputable abbrev aSv : Code := cL aCl
noncomputable abbrev bMz : Code := cL aIg
noncomputable abbrev bWd : Code := cL aFf
noncomputable abbrev bTq : Code := cL aJw
noncomputable abbrev cEb : Code := cL aHg
noncomputable abbrev bMk : Code := cL aKo
noncomputable abbrev aQx : Code := cL aEb
noncomputable abbrev cCt : Code := cL aDa
noncomputable abbrev bTx : Code := cL kK
noncomputable abbrev bSo : Code := cL xF
noncomputable abbrev yF : Code := cL bAd
noncomputable abbrev aQq : Code := cR yF
noncomputable abbrev aGc : Code := cL aQq
noncomputable abbrev pL : Code := cL aGc
noncomputable abbrev bPp : Code := cL yF
noncomputable abbrev aUl : Code := cL aXo
noncomputable abbrev cBv : Code := cL aXz
noncomputable abbrev cCf : Code := cL aYt
noncomputable abbrev bXm : Code := cL c55
noncomputable abbrev r55 : K := aO CF Tryz.f55
noncomputable def D55 (r : RT) (n : Nat) (c : Code) (X : Nat → K) (k : K) : K := aM CF r 179 n c X r55 k
theorem bLo : D55 r n dNk x0 r55 = (K1 (fD r n) 5) :=
 (by kernel_rfl)
theorem aXi (kk9 : cU) : D55 r n oK (xs x0 7 (K1 (fD r n) 5)) (K4 kk9 5 155 156 157) = (K4 (kM r n kk9) 5 155 156 157) :=
 (by kernel_rfl)
theorem cMu (m : Nat) : aL (fun kk => D55 r n oK (xs x0 7 (K1 (fD r n) 5)) kk) m = (K4 (kF r n m) 5 155 156 157) := by
 induction m with
 | zero => exact (by kernel_rfl : aL (fun kk => D55 r n oK (xs x0 7 (K1 (fD r n) 5)) kk) 0 = (K4 (kF r n 0) 5 155 156 157))
 | succ m ih =>
  refine (by kernel_rfl : aL (fun kk => D55 r n oK (xs x0 7 (K1 (fD r n) 5)) kk) (m + 1) = D55 r n oK (xs x0 7 (K1 (fD r n) 5)) (aL (fun kk => D55 r n oK (xs x0 7 (K1 (fD r n) 5)) kk) m)).trans ?_
  rw [ih]
  exact (aXi r n (kF r n m)).trans (by kernel_rfl)
theorem bJr : D55 r n aHh (xs x0 7 (K1 (fD r n) 5)) (K1 (fD r n) 5) = (K4 (aXp r n) 5 155 156 157) :=
 (by kernel_rfl : D55 r n aHh (xs x0 7 (K1 (fD r n) 5)) (K1 (fD r n) 5) = aL (fun kk => D55 r n oK (xs x0 7 (K1 (fD r n) 5)) kk) n).trans ((cMu r n n).trans (by kernel_rfl))
theorem dAd : D55 r n bWq x0 (K1 (fD r n) 5) = (K4 (cBb r n) 5 155 156 157) :=
 (by kernel_rfl : D55 r n bWq x0 (K1 (fD r n) 5) = D55 r n aHh (xs x0 7 (K1 (fD r n) 5)) (K1 (fD r n) 5)).trans
 ((bJr r n).trans (by kernel_rfl))
theorem cKv : D55 r n aYn x0 r55 = D55 r n aNq x0 (K1 (fD r n) 5) :=
 congrArg (fun k => D55 r n aNq x0 k) (bLo r n)
theorem cKt : D55 r n aNq x0 (K1 (fD r n) 5) = D55 r n bVs x0 (K4 (cBb r n) 5 155 156 157) :=
 congrArg (fun k => D55 r n bVs x0 k) (dAd r n)
theorem dHz : D55 r n aYn x0 r55 = (K1 (bE r n) 5) :=
 (cKv r n).trans
 ((cKt r n).trans
 ((by kernel_rfl)))
theorem cIq (kk11 : cI) : D55 r n dEa (xs x0 3 (K1 (bE r n) 5)) (K5 kk11 4 5 59 60 61) = (K5 (aX r n kk11) 4 5 59 60 61) :=
 (by kernel_rfl)
theorem cUq (kk11 : cI) : D55 r n dLu (xs (xs x0 3 (K1 (bE r n) 5)) 4 (K5 (aX r n kk11) 4 5 59 60 61)) (K5 (aX r n kk11) 4 5 59 60 61) = (K7 (eW r n kk11) 4 5 8 9 59 60 61) :=
 (by kernel_rfl)
theorem bUt (kk11 : cI) (kk25 : aUp) : D55 r n pF (xs (xs (xs x0 3 (K1 (bE r n) 5)) 4 (K5 (aX r n kk11) 4 5 59 60 61)) 5 (K7 (eW r n kk11) 4 5 8 9 59 60 61)) (K10 kk25 4 5 8 9 59 60 61 117 118 119) = (K10 (bEg r n kk11 kk25) 4 5 8 9 59 60 61 117 118 119) :=
 (by kernel_rfl)
theorem bYn (kk11 : cI) (m : Nat) : aL (fun kk => D55 r n pF (xs (xs (xs x0 3 (K1 (bE r n) 5)) 4 (K5 (aX r n kk11) 4 5 59 60 61)) 5 (K7 (eW r n kk11) 4 5 8 9 59 60 61)) kk) m = (K10 (uF r n kk11 m) 4 5 8 9 59 60 61 117 118 119) := by
 induction m with
 | zero => exact (by kernel_rfl : aL (fun kk => D55 r n pF (xs (xs (xs x0 3 (K1 (bE r n) 5)) 4 (K5 (aX r n kk11) 4 5 59 60 61)) 5 (K7 (eW r n kk11) 4 5 8 9 59 60 61)) kk) 0 = (K10 (uF r n kk11 0) 4 5 8 9 59 60 61 117 118 119))
 | succ m ih =>
  refine (by kernel_rfl : aL (fun kk => D55 r n pF (xs (xs (xs x0 3 (K1 (bE r n) 5)) 4 (K5 (aX r n kk11) 4 5 59 60 61)) 5 (K7 (eW r n kk11) 4 5 8 9 59 60 61)) kk) (m + 1) = D55 r n pF (xs (xs (xs x0 3 (K1 (bE r n) 5)) 4 (K5 (aX r n kk11) 4 5 59 60 61)) 5 (K7 (eW r n kk11) 4 5 8 9 59 60 61)) (aL (fun kk => D55 r n pF (xs (xs (xs x0 3 (K1 (bE r n) 5)) 4 (K5 (aX r n kk11) 4 5 59 60 61)) 5 (K7 (eW r n kk11) 4 5 8 9 59 60 61)) kk) m)).trans ?_
  rw [ih]
  exact (bUt r n kk11 (uF r n kk11 m)).trans (by kernel_rfl)
theorem cUf (kk11 : cI) : D55 r n aJo (xs (xs (xs x0 3 (K1 (bE r n) 5)) 4 (K5 (aX r n kk11) 4 5 59 60 61)) 5 (K7 (eW r n kk11) 4 5 8 9 59 60 61)) (K7 (eW r n kk11) 4 5 8 9 59 60 61) = (K10 (cDb r n kk11) 4 5 8 9 59 60 61 117 118 119) :=
 (by kernel_rfl : D55 r n aJo (xs (xs (xs x0 3 (K1 (bE r n) 5)) 4 (K5 (aX r n kk11) 4 5 59 60 61)) 5 (K7 (eW r n kk11) 4 5 8 9 59 60 61)) (K7 (eW r n kk11) 4 5 8 9 59 60 61) = aL (fun kk => D55 r n pF (xs (xs (xs x0 3 (K1 (bE r n) 5)) 4 (K5 (aX r n kk11) 4 5 59 60 61)) 5 (K7 (eW r n kk11) 4 5 8 9 59 60 61)) kk) n).trans ((bYn r n kk11 n).trans (by kernel_rfl))
theorem cOh (kk11 : cI) : D55 r n aRt (xs (xs x0 3 (K1 (bE r n) 5)) 4 (K5 (aX r n kk11) 4 5 59 60 61)) (K7 (eW r n kk11) 4 5 8 9 59 60 61) = (K10 (xD r n kk11) 4 5 8 9 59 60 61 117 118 119) :=
 (by kernel_rfl : D55 r n aRt (xs (xs x0 3 (K1 (bE r n) 5)) 4 (K5 (aX r n kk11) 4 5 59 60 61)) (K7 (eW r n kk11) 4 5 8 9 59 60 61) = D55 r n aJo (xs (xs (xs x0 3 (K1 (bE r n) 5)) 4 (K5 (aX r n kk11) 4 5 59 60 61)) 5 (K7 (eW r n kk11) 4 5 8 9 59 60 61)) (K7 (eW r n kk11) 4 5 8 9 59 60 61)).trans
 ((cUf r n kk11).trans (by kernel_rfl))
theorem bKp (kk11 : cI) : D55 r n aIj (xs (xs x0 3 (K1 (bE r n) 5)) 4 (K5 (aX r n kk11) 4 5 59 60 61)) (K5 (aX r n kk11) 4 5 59 60 61) = D55 r n xS (xs (xs x0 3 (K1 (bE r n) 5)) 4 (K5 (aX r n kk11) 4 5 59 60 61)) (K7 (eW r n kk11) 4 5 8 9 59 60 61) :=
 congrArg (fun k => D55 r n xS (xs (xs x0 3 (K1 (bE r n) 5)) 4 (K5 (aX r n kk11) 4 5 59 60 61)) k) (cUq r n kk11)
theorem bYs (kk11 : cI) : D55 r n xS (xs (xs x0 3 (K1 (bE r n) 5)) 4 (K5 (aX r n kk11) 4 5 59 60 61)) (K7 (eW r n kk11) 4 5 8 9 59 60 61) = D55 r n aPg (xs (xs x0 3 (K1 (bE r n) 5)) 4 (K5 (aX r n kk11) 4 5 59 60 61)) (K10 (xD r n kk11) 4 5 8 9 59 60 61 117 118 119) :=
 congrArg (fun k => D55 r n aPg (xs (xs x0 3 (K1 (bE r n) 5)) 4 (K5 (aX r n kk11) 4 5 59 60 61)) k) (cOh r n kk11)
theorem bNt (kk11 : cI) (q0 : aUp) (q1 : TT1) (q2 : cI) : D55 r n aPg (xs (xs x0 3 (K1 q1 5)) 4 (K5 q2 4 5 59 60 61)) (K10 q0 4 5 8 9 59 60 61 117 118 119) = fun (env : aZ) (h : Hp) =>
 bnd (r 83 [(env 13)] (resv 1 h)) fun v1 h1 =>
 bnd (aB 2 (env 8) h1) fun v2 h2 =>
 bnd (aA v2 h2) fun v3 h3 =>
 cnd (bB (aA v2 (resv 1 h)) v3 && true) (
 bnd (r 83 [v3] h3) fun v4 h4 =>
 bnd (bP (cB 0 h.next) [(.i .i64 (Int.ofNat 0)), (.i .i64 (Int.ofNat 0)), (.i .i64 (Int.ofNat 0)), (.i .i64 (Int.ofNat 0)), (.i .i64 (Int.ofNat 0)), (.i .i64 (Int.ofNat 0))] 6 [(0, 1, (env 10)), (1, 1, (env 12)), (2, 1, v1), (3, 1, (env 19)), (4, 1, (.i .i64 (Int.ofNat 0))), (5, 1, v4)] h4) fun v5 h5 =>
 bnd (bV v5 h5) fun v6 h6 =>
  q0 (env 4) (env 5) (env 8) (env 9) (env 59) (env 60) (env 61) v5 v6 (.i .i64 (Int.ofNat 0)) h6) := by kernel_rfl
theorem bHd (kk11 : cI) : (fun (env : aZ) (h : Hp) =>
 bnd (r 83 [(env 13)] (resv 1 h)) fun v1 h1 =>
 bnd (aB 2 (env 8) h1) fun v2 h2 =>
 bnd (aA v2 h2) fun v3 h3 =>
 cnd (bB (aA v2 (resv 1 h)) v3 && true) (
 bnd (r 83 [v3] h3) fun v4 h4 =>
 bnd (bP (cB 0 h.next) [(.i .i64 (Int.ofNat 0)), (.i .i64 (Int.ofNat 0)), (.i .i64 (Int.ofNat 0)), (.i .i64 (Int.ofNat 0)), (.i .i64 (Int.ofNat 0)), (.i .i64 (Int.ofNat 0))] 6 [(0, 1, (env 10)), (1, 1, (env 12)), (2, 1, v1), (3, 1, (env 19)), (4, 1, (.i .i64 (Int.ofNat 0))), (5, 1, v4)] h4) fun v5 h5 =>
 bnd (bV v5 h5) fun v6 h6 =>
  xD r n kk11 (env 4) (env 5) (env 8) (env 9) (env 59) (env 60) (env 61) v5 v6 (.i .i64 (Int.ofNat 0)) h6)) = (K11 (aDg r n kk11) 4 5 8 9 10 12 13 19 59 60 61) := by kernel_rfl
theorem cNt (kk11 : cI) : D55 r n aIj (xs (xs x0 3 (K1 (bE r n) 5)) 4 (K5 (aX r n kk11) 4 5 59 60 61)) (K5 (aX r n kk11) 4 5 59 60 61) = (K11 (aDg r n kk11) 4 5 8 9 10 12 13 19 59 60 61) :=
 (bKp r n kk11).trans
 ((bYs r n kk11).trans
 ((bNt r n kk11 (xD r n kk11) (bE r n) (aX r n kk11)).trans (bHd r n kk11)))
theorem bWw (kk11 : cI) : D55 r n aDl (xs (xs x0 3 (K1 (bE r n) 5)) 4 (K5 (aX r n kk11) 4 5 59 60 61)) (K5 (aX r n kk11) 4 5 59 60 61) = D55 r n bZp (xs (xs x0 3 (K1 (bE r n) 5)) 4 (K5 (aX r n kk11) 4 5 59 60 61)) (K11 (aDg r n kk11) 4 5 8 9 10 12 13 19 59 60 61) :=
 congrArg (fun k => D55 r n bZp (xs (xs x0 3 (K1 (bE r n) 5)) 4 (K5 (aX r n kk11) 4 5 59 60 61)) k) (cNt r n kk11)
theorem cMd (kk11 : cI) : D55 r n aDl (xs (xs x0 3 (K1 (bE r n) 5)) 4 (K5 (aX r n kk11) 4 5 59 60 61)) (K5 (aX r n kk11) 4 5 59 60 61) = (K11 (oJ r n kk11) 4 5 8 9 10 12 13 14 59 60 61) :=
 (bWw r n kk11).trans
 ((by kernel_rfl))
theorem cDz (kk11 : cI) : D55 r n aCl (xs (xs x0 3 (K1 (bE r n) 5)) 4 (K5 (aX r n kk11) 4 5 59 60 61)) (K5 (aX r n kk11) 4 5 59 60 61) = D55 r n aSv (xs (xs x0 3 (K1 (bE r n) 5)) 4 (K5 (aX r n kk11) 4 5 59 60 61)) (K11 (oJ r n kk11) 4 5 8 9 10 12 13 14 59 60 61) :=
 congrArg (fun k => D55 r n aSv (xs (xs x0 3 (K1 (bE r n) 5)) 4 (K5 (aX r n kk11) 4 5 59 60 61)) k) (cMd r n kk11)
theorem bVu (kk11 : cI) (q0 : dPv) (q1 : TT1) (q2 : cI) : D55 r n aSv (xs (xs x0 3 (K1 q1 5)) 4 (K5 q2 4 5 59 60 61)) (K11 q0 4 5 8 9 10 12 13 14 59 60 61) = fun (env : aZ) (h : Hp) =>
 bnd (aD .eql (env 7) (.i .i64 (Int.ofNat 15)) h) fun v1 h1 =>
 aT v1 (
 bnd (r 81 [(env 5), (.s [115, 101, 108, 101, 99, 116, 111, 114])] h1) fun v2 h2 =>
 bnd (aC 0 v2 h2) fun v3 h3 =>
 bnd (aC 1 v2 h3) fun v4 h4 =>
 bnd (r 81 [(env 5), (.s [97, 114, 103, 117, 109, 101, 110, 116, 115])] h4) fun v5 h5 =>
 bnd (aC 0 v5 h5) fun v6 h6 =>
 bnd (aC 1 v5 h6) fun v7 h7 =>
 bnd (aP [(.i .i64 (Int.ofNat 0)), (.i .i64 (Int.ofNat 0))] 2 [(0, 1, v3), (1, 1, v6)] h7) fun v8 h8 =>
      q0 (env 4) (env 5) (env 8) (env 9) (env 10) (env 12) (.i .i64 (Int.ofNat 2)) v8 (env 59) (env 60) (env 61) h8) (
      q0 (env 4) (env 5) (env 8) (env 9) (env 10) (env 12) (env 13) (env 14) (env 59) (env 60) (env 61) h1) := by kernel_rfl
theorem bFn (kk11 : cI) : (fun (env : aZ) (h : Hp) =>
 bnd (aD .eql (env 7) (.i .i64 (Int.ofNat 15)) h) fun v1 h1 =>
 aT v1 (
 bnd (r 81 [(env 5), (.s [115, 101, 108, 101, 99, 116, 111, 114])] h1) fun v2 h2 =>
 bnd (aC 0 v2 h2) fun v3 h3 =>
 bnd (aC 1 v2 h3) fun v4 h4 =>
 bnd (r 81 [(env 5), (.s [97, 114, 103, 117, 109, 101, 110, 116, 115])] h4) fun v5 h5 =>
 bnd (aC 0 v5 h5) fun v6 h6 =>
 bnd (aC 1 v5 h6) fun v7 h7 =>
 bnd (aP [(.i .i64 (Int.ofNat 0)), (.i .i64 (Int.ofNat 0))] 2 [(0, 1, v3), (1, 1, v6)] h7) fun v8 h8 =>
      oJ r n kk11 (env 4) (env 5) (env 8) (env 9) (env 10) (env 12) (.i .i64 (Int.ofNat 2)) v8 (env 59) (env 60) (env 61) h8) (
      oJ r n kk11 (env 4) (env 5) (env 8) (env 9) (env 10) (env 12) (env 13) (env 14) (env 59) (env 60) (env 61) h1)) = (K12 (wP r n kk11) 4 5 7 8 9 10 12 13 14 59 60 61) := by kernel_rfl
theorem cQz (kk11 : cI) : D55 r n aCl (xs (xs x0 3 (K1 (bE r n) 5)) 4 (K5 (aX r n kk11) 4 5 59 60 61)) (K5 (aX r n kk11) 4 5 59 60 61) = (K12 (wP r n kk11) 4 5 7 8 9 10 12 13 14 59 60 61) :=
 (cDz r n kk11).trans
 ((bVu r n kk11 (oJ r n kk11) (bE r n) (aX r n kk11)).trans (bFn r n kk11))
theorem bPn (kk11 : cI) : D55 r n aIg (xs (xs x0 3 (K1 (bE r n) 5)) 4 (K5 (aX r n kk11) 4 5 59 60 61)) (K5 (aX r n kk11) 4 5 59 60 61) = D55 r n bMz (xs (xs x0 3 (K1 (bE r n) 5)) 4 (K5 (aX r n kk11) 4 5 59 60 61)) (K12 (wP r n kk11) 4 5 7 8 9 10 12 13 14 59 60 61) :=
 congrArg (fun k => D55 r n bMz (xs (xs x0 3 (K1 (bE r n) 5)) 4 (K5 (aX r n kk11) 4 5 59 60 61)) k) (cQz r n kk11)
theorem cRc (kk11 : cI) : D55 r n aIg (xs (xs x0 3 (K1 (bE r n) 5)) 4 (K5 (aX r n kk11) 4 5 59 60 61)) (K5 (aX r n kk11) 4 5 59 60 61) = (K12 (aRv r n kk11) 4 5 7 8 9 10 12 13 14 59 60 61) :=
 (bPn r n kk11).trans
 ((by kernel_rfl))
theorem bGi (kk11 : cI) : D55 r n aFf (xs (xs x0 3 (K1 (bE r n) 5)) 4 (K5 (aX r n kk11) 4 5 59 60 61)) (K5 (aX r n kk11) 4 5 59 60 61) = D55 r n bWd (xs (xs x0 3 (K1 (bE r n) 5)) 4 (K5 (aX r n kk11) 4 5 59 60 61)) (K12 (aRv r n kk11) 4 5 7 8 9 10 12 13 14 59 60 61) :=
 congrArg (fun k => D55 r n bWd (xs (xs x0 3 (K1 (bE r n) 5)) 4 (K5 (aX r n kk11) 4 5 59 60 61)) k) (cRc r n kk11)
theorem cPw (kk11 : cI) : D55 r n aFf (xs (xs x0 3 (K1 (bE r n) 5)) 4 (K5 (aX r n kk11) 4 5 59 60 61)) (K5 (aX r n kk11) 4 5 59 60 61) = (K9 (aQt r n kk11) 4 5 7 8 9 10 59 60 61) :=
 (bGi r n kk11).trans
 ((by kernel_rfl))
theorem bHo (kk11 : cI) : D55 r n aJw (xs (xs x0 3 (K1 (bE r n) 5)) 4 (K5 (aX r n kk11) 4 5 59 60 61)) (K5 (aX r n kk11) 4 5 59 60 61) = D55 r n bTq (xs (xs x0 3 (K1 (bE r n) 5)) 4 (K5 (aX r n kk11) 4 5 59 60 61)) (K9 (aQt r n kk11) 4 5 7 8 9 10 59 60 61) :=
 congrArg (fun k => D55 r n bTq (xs (xs x0 3 (K1 (bE r n) 5)) 4 (K5 (aX r n kk11) 4 5 59 60 61)) k) (cPw r n kk11)
theorem cTk (kk11 : cI) : D55 r n aJw (xs (xs x0 3 (K1 (bE r n) 5)) 4 (K5 (aX r n kk11) 4 5 59 60 61)) (K5 (aX r n kk11) 4 5 59 60 61) = (K8 (aQu r n kk11) 4 5 7 8 9 59 60 61) :=
 (bHo r n kk11).trans
 ((by kernel_rfl))
theorem bJa (kk11 : cI) : D55 r n aHg (xs (xs x0 3 (K1 (bE r n) 5)) 4 (K5 (aX r n kk11) 4 5 59 60 61)) (K5 (aX r n kk11) 4 5 59 60 61) = D55 r n cEb (xs (xs x0 3 (K1 (bE r n) 5)) 4 (K5 (aX r n kk11) 4 5 59 60 61)) (K8 (aQu r n kk11) 4 5 7 8 9 59 60 61) :=
 congrArg (fun k => D55 r n cEb (xs (xs x0 3 (K1 (bE r n) 5)) 4 (K5 (aX r n kk11) 4 5 59 60 61)) k) (cTk r n kk11)
theorem cUs (kk11 : cI) : D55 r n aHg (xs (xs x0 3 (K1 (bE r n) 5)) 4 (K5 (aX r n kk11) 4 5 59 60 61)) (K5 (aX r n kk11) 4 5 59 60 61) = (K8 (aPf r n kk11) 4 5 7 8 9 59 60 61) :=
 (bJa r n kk11).trans
 ((by kernel_rfl))
theorem bGc (kk11 : cI) : D55 r n aKo (xs (xs x0 3 (K1 (bE r n) 5)) 4 (K5 (aX r n kk11) 4 5 59 60 61)) (K5 (aX r n kk11) 4 5 59 60 61) = D55 r n bMk (xs (xs x0 3 (K1 (bE r n) 5)) 4 (K5 (aX r n kk11) 4 5 59 60 61)) (K8 (aPf r n kk11) 4 5 7 8 9 59 60 61) :=
 congrArg (fun k => D55 r n bMk (xs (xs x0 3 (K1 (bE r n) 5)) 4 (K5 (aX r n kk11) 4 5 59 60 61)) k) (cUs r n kk11)
theorem cIt (kk11 : cI) : D55 r n aKo (xs (xs x0 3 (K1 (bE r n) 5)) 4 (K5 (aX r n kk11) 4 5 59 60 61)) (K5 (aX r n kk11) 4 5 59 60 61) = (K7 (yZ r n kk11) 4 5 7 8 59 60 61) :=
 (bGc r n kk11).trans
 ((by kernel_rfl))
theorem bIx (kk11 : cI) : D55 r n aJv (xs x0 3 (K1 (bE r n) 5)) (K5 kk11 4 5 59 60 61) = D55 r n aGr (xs x0 3 (K1 (bE r n) 5)) (K5 (aX r n kk11) 4 5 59 60 61) :=
 congrArg (fun k => D55 r n aGr (xs x0 3 (K1 (bE r n) 5)) k) (cIq r n kk11)
theorem bFm (kk11 : cI) : D55 r n aEb (xs (xs x0 3 (K1 (bE r n) 5)) 4 (K5 (aX r n kk11) 4 5 59 60 61)) (K5 (aX r n kk11) 4 5 59 60 61) = D55 r n aQx (xs (xs x0 3 (K1 (bE r n) 5)) 4 (K5 (aX r n kk11) 4 5 59 60 61)) (K7 (yZ r n kk11) 4 5 7 8 59 60 61) :=
 congrArg (fun k => D55 r n aQx (xs (xs x0 3 (K1 (bE r n) 5)) 4 (K5 (aX r n kk11) 4 5 59 60 61)) k) (cIt r n kk11)
theorem bIj (kk11 : cI) (q0 : xK) (q1 : TT1) (q2 : cI) : D55 r n aQx (xs (xs x0 3 (K1 q1 5)) 4 (K5 q2 4 5 59 60 61)) (K7 q0 4 5 7 8 59 60 61) = fun (env : aZ) (h : Hp) =>
 bnd (aE 3 (env 59) (env 61) h) fun v1 h1 =>
 bnd (aK 3 v1 h1) fun v2 h2 =>
 bnd (bQ [(.s []), (.i .i64 (Int.ofNat 0)), (.i .i64 (Int.ofNat 0))] h2) fun v3 h3 =>
 bnd (aI 3 v3 v2 h3) fun _ h4 =>
  q0 (env 4) (env 5) (env 61) v3 (env 59) (env 60) (env 61) h4 := by kernel_rfl
theorem aPe (kk11 : cI) : (fun (env : aZ) (h : Hp) =>
 bnd (aE 3 (env 59) (env 61) h) fun v1 h1 =>
 bnd (aK 3 v1 h1) fun v2 h2 =>
 bnd (bQ [(.s []), (.i .i64 (Int.ofNat 0)), (.i .i64 (Int.ofNat 0))] h2) fun v3 h3 =>
 bnd (aI 3 v3 v2 h3) fun _ h4 =>
  yZ r n kk11 (env 4) (env 5) (env 61) v3 (env 59) (env 60) (env 61) h4) = (K5 (aGs r n kk11) 4 5 59 60 61) := by kernel_rfl
theorem cTd (kk11 : cI) : D55 r n aJv (xs x0 3 (K1 (bE r n) 5)) (K5 kk11 4 5 59 60 61) = (K5 (aGs r n kk11) 4 5 59 60 61) :=
 (bIx r n kk11).trans
 ((by kernel_rfl : D55 r n aGr (xs x0 3 (K1 (bE r n) 5)) (K5 (aX r n kk11) 4 5 59 60 61) = D55 r n aEb (xs (xs x0 3 (K1 (bE r n) 5)) 4 (K5 (aX r n kk11) 4 5 59 60 61)) (K5 (aX r n kk11) 4 5 59 60 61)).trans
 ((bFm r n kk11).trans
 ((bIj r n kk11 (yZ r n kk11) (bE r n) (aX r n kk11)).trans (aPe r n kk11))))
theorem bHl (kk11 : cI) : D55 r n aDa (xs x0 3 (K1 (bE r n) 5)) (K5 kk11 4 5 59 60 61) = D55 r n cCt (xs x0 3 (K1 (bE r n) 5)) (K5 (aGs r n kk11) 4 5 59 60 61) :=
 congrArg (fun k => D55 r n cCt (xs x0 3 (K1 (bE r n) 5)) k) (cTd r n kk11)
theorem cPa (kk11 : cI) : D55 r n aDa (xs x0 3 (K1 (bE r n) 5)) (K5 kk11 4 5 59 60 61) = (K6 (aTe r n kk11) 4 5 59 60 61 62) :=
 (bHl r n kk11).trans
 ((by kernel_rfl))
theorem bIq (kk11 : cI) : D55 r n kK (xs x0 3 (K1 (bE r n) 5)) (K5 kk11 4 5 59 60 61) = D55 r n bTx (xs x0 3 (K1 (bE r n) 5)) (K6 (aTe r n kk11) 4 5 59 60 61 62) :=
 congrArg (fun k => D55 r n bTx (xs x0 3 (K1 (bE r n) 5)) k) (cPa r n kk11)
theorem bOl (kk11 : cI) : D55 r n kK (xs x0 3 (K1 (bE r n) 5)) (K5 kk11 4 5 59 60 61) = (K5 (aXc r n kk11) 4 5 59 60 61) :=
 (bIq r n kk11).trans
 ((by kernel_rfl))
theorem cDs (m : Nat) : aL (fun kk => D55 r n kK (xs x0 3 (K1 (bE r n) 5)) kk) m = (K5 (vU r n m) 4 5 59 60 61) := by
 induction m with
 | zero => exact (by kernel_rfl : aL (fun kk => D55 r n kK (xs x0 3 (K1 (bE r n) 5)) kk) 0 = (K5 (vU r n 0) 4 5 59 60 61))
 | succ m ih =>
  refine (by kernel_rfl : aL (fun kk => D55 r n kK (xs x0 3 (K1 (bE r n) 5)) kk) (m + 1) = D55 r n kK (xs x0 3 (K1 (bE r n) 5)) (aL (fun kk => D55 r n kK (xs x0 3 (K1 (bE r n) 5)) kk) m)).trans ?_
  rw [ih]
  exact (bOl r n (vU r n m)).trans (by kernel_rfl)
theorem cTi : D55 r n aGz (xs x0 3 (K1 (bE r n) 5)) (K1 (bE r n) 5) = (K5 (bPc r n) 4 5 59 60 61) :=
 (by kernel_rfl : D55 r n aGz (xs x0 3 (K1 (bE r n) 5)) (K1 (bE r n) 5) = aL (fun kk => D55 r n kK (xs x0 3 (K1 (bE r n) 5)) kk) n).trans ((cDs r n n).trans (by kernel_rfl))
theorem cLi : D55 r n aSz x0 (K1 (bE r n) 5) = (K5 (aRp r n) 4 5 59 60 61) :=
 (by kernel_rfl : D55 r n aSz x0 (K1 (bE r n) 5) = D55 r n aGz (xs x0 3 (K1 (bE r n) 5)) (K1 (bE r n) 5)).trans
 ((cTi r n).trans (by kernel_rfl))
theorem bJo : D55 r n aWv x0 r55 = D55 r n xF x0 (K1 (bE r n) 5) :=
 congrArg (fun k => D55 r n xF x0 k) (dHz r n)
theorem cDl : D55 r n xF x0 (K1 (bE r n) 5) = D55 r n bSo x0 (K5 (aRp r n) 4 5 59 60 61) :=
 congrArg (fun k => D55 r n bSo x0 k) (cLi r n)
theorem cZk : D55 r n aWv x0 r55 = (K2 (hC r n) 4 5) :=
 (bJo r n).trans
 ((cDl r n).trans
 ((by kernel_rfl)))
theorem bYp (kk27 : fG) : D55 r n pL (xs x0 1 (K2 (hC r n) 4 5)) (K3 kk27 4 5 43) = (K3 (aYe r n kk27) 4 5 43) :=
 (by kernel_rfl)
theorem bPo (m : Nat) : aL (fun kk => D55 r n pL (xs x0 1 (K2 (hC r n) 4 5)) kk) m = (K3 (vV r n m) 4 5 43) := by
 induction m with
 | zero => exact (by kernel_rfl : aL (fun kk => D55 r n pL (xs x0 1 (K2 (hC r n) 4 5)) kk) 0 = (K3 (vV r n 0) 4 5 43))
 | succ m ih =>
  refine (by kernel_rfl : aL (fun kk => D55 r n pL (xs x0 1 (K2 (hC r n) 4 5)) kk) (m + 1) = D55 r n pL (xs x0 1 (K2 (hC r n) 4 5)) (aL (fun kk => D55 r n pL (xs x0 1 (K2 (hC r n) 4 5)) kk) m)).trans ?_
  rw [ih]
  exact (bYp r n (vV r n m)).trans (by kernel_rfl)
theorem cHk : D55 r n aGc (xs x0 1 (K2 (hC r n) 4 5)) (K2 (hC r n) 4 5) = (K3 (bPe r n) 4 5 43) :=
 (by kernel_rfl : D55 r n aGc (xs x0 1 (K2 (hC r n) 4 5)) (K2 (hC r n) 4 5) = aL (fun kk => D55 r n pL (xs x0 1 (K2 (hC r n) 4 5)) kk) n).trans ((bPo r n n).trans (by kernel_rfl))
theorem cTu : D55 r n aQq x0 (K2 (hC r n) 4 5) = (K3 (aRg r n) 4 5 43) :=
 (by kernel_rfl : D55 r n aQq x0 (K2 (hC r n) 4 5) = D55 r n aGc (xs x0 1 (K2 (hC r n) 4 5)) (K2 (hC r n) 4 5)).trans
 ((cHk r n).trans (by kernel_rfl))
theorem bYr : D55 r n bAd x0 r55 = D55 r n yF x0 (K2 (hC r n) 4 5) :=
 congrArg (fun k => D55 r n yF x0 k) (cZk r n)
theorem cDx : D55 r n yF x0 (K2 (hC r n) 4 5) = D55 r n bPp x0 (K3 (aRg r n) 4 5 43) :=
 congrArg (fun k => D55 r n bPp x0 k) (cTu r n)
theorem dJv : D55 r n bAd x0 r55 = (K2 (aOa r n) 4 5) :=
 (bYr r n).trans
 ((cDx r n).trans
 ((by kernel_rfl)))
theorem bZm : D55 r n aXo x0 r55 = D55 r n aUl x0 (K2 (aOa r n) 4 5) :=
 congrArg (fun k => D55 r n aUl x0 k) (dJv r n)
theorem bNr (q0 : pR) : D55 r n aUl x0 (K2 q0 4 5) = fun (env : aZ) (h : Hp) =>
 bnd (bN 1 8 [(.i .i64 (Int.ofNat 0))] (.i .i64 (Int.ofNat 18)) (.i .i64 (Int.ofNat 18)) h) fun v1 h1 =>
 bnd (dS h1) fun v2 h2 =>
 bnd (dS h2) fun v3 h3 =>
 bnd (bL [.p0, .l0, .m0, .m0] [(0, 1, (env 4)), (1, 1, v1), (2, 1, v2), (3, 1, v3)] h3) fun v4 h4 =>
 bnd (cH v4 h4) fun v5 h5 =>
  q0 (env 4) v5 h5 := by kernel_rfl
theorem bIb : (fun (env : aZ) (h : Hp) =>
 bnd (bN 1 8 [(.i .i64 (Int.ofNat 0))] (.i .i64 (Int.ofNat 18)) (.i .i64 (Int.ofNat 18)) h) fun v1 h1 =>
 bnd (dS h1) fun v2 h2 =>
 bnd (dS h2) fun v3 h3 =>
 bnd (bL [.p0, .l0, .m0, .m0] [(0, 1, (env 4)), (1, 1, v1), (2, 1, v2), (3, 1, v3)] h3) fun v4 h4 =>
 bnd (cH v4 h4) fun v5 h5 =>
  aOa r n (env 4) v5 h5) = (K1 (aYa r n) 4) := by kernel_rfl
theorem dGf : D55 r n aXo x0 r55 = (K1 (aYa r n) 4) :=
 (bZm r n).trans
 ((bNr r n (aOa r n)).trans (bIb r n))
theorem bJz : D55 r n aXz x0 r55 = D55 r n cBv x0 (K1 (aYa r n) 4) :=
 congrArg (fun k => D55 r n cBv x0 k) (dGf r n)
theorem dKw : D55 r n aXz x0 r55 = (K2 (bKu r n) 0 4) :=
 (bJz r n).trans
 ((by kernel_rfl))
theorem cAo : D55 r n aYt x0 r55 = D55 r n cCf x0 (K2 (bKu r n) 0 4) :=
 congrArg (fun k => D55 r n cCf x0 k) (dKw r n)
theorem dLn : D55 r n aYt x0 r55 = (K1 (bWs r n) 0) :=
 (cAo r n).trans
 ((by kernel_rfl))
theorem dGz : D55 r n c55 x0 r55 = D55 r n bXm x0 (K1 (bWs r n) 0) :=
 congrArg (fun k => D55 r n bXm x0 k) (dLn r n)
theorem eAn : D55 r n c55 x0 r55 = (K1 (s55 r n) 0) :=
 (dGz r n).trans
 ((by kernel_rfl))
theorem dOf : aF CF r n 55 args h = s55 r n (aS args 0) h :=
 (by kernel_rfl : aF CF r n 55 args h = D55 r n c55 x0 r55 (aH args) h).trans ((congrFun (congrFun (eAn r n) (aH args)) h).trans (by kernel_rfl))
noncomputable def s73 (r : RT) (n : Nat) (x0 : DV) (h0 : Hp) : aG :=
 bnd (r 123 [x0, (.s [])] h0) fun v1 h1 =>
 bnd (hZ .not v1 h1) fun v2 h2 =>
 some (v2, h2)
noncomputable abbrev c73 : Code := cf Tryz.f73
noncomputable abbrev r73 : K := aO CF Tryz.f73
noncomputable def D73 (r : RT) (n : Nat) (c : Code) (X : Nat → K) (k : K) : K := aM CF r 6 n c X r73 k
theorem dWz : D73 r n c73 x0 r73 = (K1 (s73 r n) 0) :=
 (by kernel_rfl)
theorem dUu : aF CF r n 73 args h = s73 r n (aS args 0) h :=
 (by kernel_rfl : aF CF r n 73 args h = D73 r n c73 x0 r73 (aH args) h).trans ((congrFun (congrFun (dWz r n) (aH args)) h).trans (by kernel_rfl))
noncomputable def s75 (r : RT) (n : Nat) (x0 x1 : DV) (h0 : Hp) : aG :=
 bnd (bQ [(aJ 0), (.s []), (.s []), .l0, (.s []), (aJ 0)] h0) fun v1 h1 =>
 bnd (r 17 [x0, (.s [32])] h1) fun v2 h2 =>
 bnd (bV v2 h2) fun v3 h3 =>
 bnd (aD .neq v3 (aJ 2) h3) fun v4 h4 =>
 bnd (gD v4 false (some (v2, h4)) h4) fun v5 h5 =>
 bnd (gD v4 false (r 73 [v5] h5) h5) fun v6 h6 =>
 bnd (gD v4 false (hZ .not v6 h6) h6) fun v7 h7 =>
 bnd (aN v4 (.b true) v7 h7) fun v8 h8 =>
 aT v8 (
 bnd (bL [(aJ 0), (.s []), (.s []), .l0, (.s []), (aJ 0)] [] h8) fun v9 h9 =>
 bnd (aI 6 v1 v9 h9) fun _ h10 =>
 bnd (aK 6 v1 h10) fun v11 _ =>
 some (.t [v11, (.b false)], h10)) (
 bnd (aE 1 v2 (aJ 0) h8) fun v12 h12 =>
 bnd (aA v12 h12) fun v13 h13 =>
 bnd (aE 1 v2 (aJ 1) h13) fun v14 h14 =>
 bnd (aA v14 h14) fun v15 h15 =>
 bnd (aA x1 h15) fun v16 h16 =>
 bnd (bL [(aJ 0), (.s []), (.s []), .l0, (.s []), (aJ 0)] [(0, 1, (aJ 4)), (1, 1, v13), (4, 1, v15), (5, 1, v16)] h16) fun v17 h17 =>
 bnd (aI 6 v1 v17 h17) fun v18 h18 =>
 bnd (aK 6 v1 h18) fun v19 _ =>
 some (.t [v19, (.b true)], h18))
noncomputable abbrev c75 : Code := cf Tryz.f75
noncomputable abbrev r75 : K := aO CF Tryz.f75
noncomputable def D75 (r : RT) (n : Nat) (c : Code) (X : Nat → K) (k : K) : K := aM CF r 25 n c X r75 k
theorem eCd : D75 r n c75 x0 r75 = (K2 (s75 r n) 0 1) :=
 (by kernel_rfl)
theorem dQr : aF CF r n 75 args h = s75 r n (aS args 0) (aS args 1) h :=
 (by kernel_rfl : aF CF r n 75 args h = D75 r n c75 x0 r75 (aH args) h).trans ((congrFun (congrFun (eCd r n) (aH args)) h).trans (by kernel_rfl))
noncomputable def s79 (r : RT) (n : Nat) (x0 x1 : DV) (h0 : Hp) : aG :=
 bnd (aD .lss x1 (aJ 0) h0) fun v1 h1 =>
 bnd (gD v1 false (some (x1, h1)) h1) fun v2 h2 =>
 bnd (gD v1 false (aD .geq v2 (aJ 16) h2) h2) fun v3 h3 =>
 bnd (aN v1 (.b true) v3 h3) fun v4 h4 =>
 aT v4 (
 some ((aJ 0), h4)) (
 bnd (aY x0 h4) fun v5 h5 =>
 bnd (aB 1 v5 h5) fun v6 h6 =>
 bnd (aA v6 h6) fun v7 h7 =>
 bnd (aD .add (aJ 2) x1 h7) fun v8 h8 =>
 bnd (aE 1 v7 v8 h8) fun v9 h9 =>
 bnd (aA v9 h9) fun v10 h10 =>
 some (v10, h10))
noncomputable abbrev c79 : Code := cf Tryz.f79
noncomputable abbrev r79 : K := aO CF Tryz.f79
noncomputable def D79 (r : RT) (n : Nat) (c : Code) (X : Nat → K) (k : K) : K := aM CF r 19 n c X r79 k
theorem dZk : D79 r n c79 x0 r79 = (K2 (s79 r n) 0 1) :=
 (by kernel_rfl)
theorem dUv : aF CF r n 79 args h = s79 r n (aS args 0) (aS args 1) h :=
 (by kernel_rfl : aF CF r n 79 args h = D79 r n c79 x0 r79 (aH args) h).trans ((congrFun (congrFun (dZk r n) (aH args)) h).trans (by kernel_rfl))
noncomputable def s81 (r : RT) (n : Nat) (x0 x1 : DV) (h0 : Hp) : aG :=
 bnd (cJ x1 h0) fun v1 h1 =>
 bnd (aD .lss v1 (aJ 1) h1) fun v2 h2 =>
 bnd (gD v2 false (some (x1, h2)) h2) fun v3 h3 =>
 bnd (gD v2 false (cJ v3 h3) h3) fun v4 h4 =>
 bnd (gD v2 false (aD .gtr v4 (aJ 60) h4) h4) fun v5 h5 =>
 bnd (aN v2 (.b true) v5 h5) fun v6 h6 =>
 aT v6 (
 some (.t [(aJ 0), (aJ 1)], h6)) (
 bnd (aY x0 h6) fun v7 h7 =>
 bnd (aB 2 v7 h7) fun v8 h8 =>
 bnd (aA v8 h8) fun v9 h9 =>
 bnd (eC .string (aJ 0) false v9 x1 h9) fun v10 h10 =>
 bnd (aD .neq v10 (aJ 0) h10) fun v11 h11 =>
 aT v11 (
 some (.t [v10, (aJ 0)], h11)) (
 bnd (r 79 [x0, (aJ 11)] h11) fun v12 h12 =>
 bnd (r 129 [x0, v12, x1] h12) fun v13 h13 =>
 bnd (aC 0 v13 h13) fun v14 h14 =>
 bnd (aC 1 v13 h14) fun v15 h15 =>
 bnd (aD .neq v15 (aJ 0) h15) fun v16 h16 =>
 aT v16 (
 some (.t [(aJ 0), v15], h16)) (
 bnd (aY x0 h16) fun v17 h17 =>
 bnd (aB 1 v17 h17) fun v18 h18 =>
 bnd (aA v18 h18) fun v19 h19 =>
 bnd (aE 1 v19 (aJ 0) h19) fun v20 h20 =>
 bnd (aA v20 h20) fun v21 h21 =>
 bnd (r 85 [x0, v14, v21] h21) fun v22 h22 =>
 bnd (aC 0 v22 h22) fun v23 h23 =>
 bnd (aC 1 v22 h23) fun v24 h24 =>
 bnd (aD .neq v24 (aJ 0) h24) fun v25 h25 =>
 aT v25 (
 some (.t [(aJ 0), v24], h25)) (
 bnd (aY x0 h25) fun v26 h26 =>
 bnd (aB 1 v26 h26) fun v27 h27 =>
 bnd (aA v27 h27) fun v28 h28 =>
 bnd (aY x0 h28) fun v29 h29 =>
 bnd (aB 2 v29 h29) fun v30 h30 =>
 bnd (aA v30 h30) fun v31 h31 =>
 bnd (aE 1 v28 (aJ 0) h31) fun v32 h32 =>
 bnd (aI 1 v32 v23 h32) fun v33 h33 =>
 bnd (iI .string (aJ 0) v31 x1 h33) fun v34 h34 =>
 bnd (aC 1 v34 h34) fun v35 h35 =>
 bnd (fK v31 v35 v14 h35) fun v36 h36 =>
 some (.t [v14, (aJ 0)], h36)))))
noncomputable abbrev c81 : Code := cf Tryz.f81
noncomputable abbrev r81 : K := aO CF Tryz.f81
noncomputable def D81 (r : RT) (n : Nat) (c : Code) (X : Nat → K) (k : K) : K := aM CF r 68 n c X r81 k
theorem eAz : D81 r n c81 x0 r81 = (K2 (s81 r n) 0 1) :=
 (by kernel_rfl)
theorem dOg : aF CF r n 81 args h = s81 r n (aS args 0) (aS args 1) h :=
 (by kernel_rfl : aF CF r n 81 args h = D81 r n c81 x0 r81 (aH args) h).trans ((congrFun (congrFun (eAz r n) (aH args)) h).trans (by kernel_rfl))
noncomputable def s82 (r : RT) (n : Nat) (x0 x1 : DV) (h0 : Hp) : aG :=
 bnd (cH x0 h0) fun v1 h1 =>
 bnd (bV x1 h1) fun v2 h2 =>
 bnd (aD .gtr v2 (aJ 250) h2) fun v3 h3 =>
 bnd (gD v3 false (some (x1, h3)) h3) fun v4 h4 =>
 bnd (gD v3 false (some ((.f 131 [] [v1]), h4)) h4) fun v5 h5 =>
 bnd (gD v3 false (r 130 [v4, v5] h5) h5) fun v6 h6 =>
 bnd (aN v3 (.b true) v6 h6) fun v7 h7 =>
 aT v7 (
 some (.t [(aJ 0), (aJ 1)], h7)) (
 bnd (aA v1 h7) fun v8 h8 =>
 bnd (aA v1 h8) fun v9 h9 =>
 bnd (r 79 [v9, (aJ 9)] h9) fun v10 h10 =>
 cnd (bB (aA v1 h10) v8 && true) (
 bnd (r 133 [v8, v10, (aJ 0), x1] h10) fun v11 h11 =>
 bnd (aC 0 v11 h11) fun v12 h12 =>
 bnd (aC 1 v11 h12) fun v13 h13 =>
 some (.t [v12, v13], h13)))
noncomputable abbrev c82 : Code := cf Tryz.f82
noncomputable abbrev r82 : K := aO CF Tryz.f82
noncomputable def D82 (r : RT) (n : Nat) (c : Code) (X : Nat → K) (k : K) : K := aM CF r 21 n c X r82 k
theorem eCj : D82 r n c82 x0 r82 = (K2 (s82 r n) 0 1) :=
 (by kernel_rfl)
theorem dMw : aF CF r n 82 args h = s82 r n (aS args 0) (aS args 1) h :=
 (by kernel_rfl : aF CF r n 82 args h = D82 r n c82 x0 r82 (aH args) h).trans ((congrFun (congrFun (eCj r n) (aH args)) h).trans (by kernel_rfl))
noncomputable def s83 (r : RT) (n : Nat) (x0 : DV) (h0 : Hp) : aG :=
 bnd (oS [x0] h0) fun v1 h1 =>
 bnd (aC 0 v1 h1) fun v2 h2 =>
 bnd (aC 1 v1 h2) fun v3 h3 =>
 some (v2, h3)
noncomputable abbrev c83 : Code := cf Tryz.f83
noncomputable abbrev r83 : K := aO CF Tryz.f83
noncomputable def D83 (r : RT) (n : Nat) (c : Code) (X : Nat → K) (k : K) : K := aM CF r 11 n c X r83 k
theorem dZh : D83 r n c83 x0 r83 = (K1 (s83 r n) 0) :=
 (by kernel_rfl)
theorem dTf : aF CF r n 83 args h = s83 r n (aS args 0) h :=
 (by kernel_rfl : aF CF r n 83 args h = D83 r n c83 x0 r83 (aH args) h).trans ((congrFun (congrFun (dZh r n) (aH args)) h).trans (by kernel_rfl))
noncomputable def s85 (r : RT) (n : Nat) (x0 x1 x2 : DV) (h0 : Hp) : aG :=
 bnd (r 79 [x0, (aJ 9)] h0) fun v1 h1 =>
 bnd (aP [(aJ 0), (aJ 0)] 2 [(0, 1, x1), (1, 1, x2)] h1) fun v2 h2 =>
 bnd (r 133 [x0, v1, (aJ 0), v2] h2) fun v3 h3 =>
 bnd (aC 0 v3 h3) fun v4 h4 =>
 bnd (aC 1 v3 h4) fun v5 h5 =>
 some (.t [v4, v5], h5)
noncomputable abbrev c85 : Code := cf Tryz.f85
noncomputable abbrev r85 : K := aO CF Tryz.f85
noncomputable def D85 (r : RT) (n : Nat) (c : Code) (X : Nat → K) (k : K) : K := aM CF r 17 n c X r85 k
theorem eAv : D85 r n c85 x0 r85 = (K3 (s85 r n) 0 1 2) :=
 (by kernel_rfl)
theorem dNd : aF CF r n 85 args h = s85 r n (aS args 0) (aS args 1) (aS args 2) h :=
 (by kernel_rfl : aF CF r n 85 args h = D85 r n c85 x0 r85 (aH args) h).trans ((congrFun (congrFun (eAv r n) (aH args)) h).trans (by kernel_rfl))
noncomputable def s87 (r : RT) (n : Nat) (x0 x1 x2 : DV) (h0 : Hp) : aG :=
 bnd (r 137 [x0, x1] h0) fun v1 h1 =>
 bnd (aD .eql v1 (aJ 0) h1) fun v2 h2 =>
 aT v2 (
 some (.t [(aJ 0), (aJ 0), (.s []), (aJ 24)], h2)) (
 bnd (r 138 [x2] h2) fun v3 h3 =>
 bnd (aC 0 v3 h3) fun v4 h4 =>
 bnd (aC 1 v3 h4) fun v5 h5 =>
 bnd (aC 2 v3 h5) fun v6 h6 =>
 bnd (bQ tJ h6) fun v7 h7 =>
 bnd (aI 6 v7 v4 h7) fun _ h8 =>
 bnd (aD .neq v6 (aJ 0) h8) fun v9 h9 =>
 aT v9 (
 some (.t [(aJ 0), v5, (.s []), v6], h9)) (
 bnd (aK 6 v7 (resv 1 h9)) fun v10 h10 =>
 bnd (r 140 [x0, v1] h10) fun v11 h11 =>
 cnd (bB (aK 6 v7 h11) v10 && true) (
 bnd (r 139 [v10, v11] h11) fun v12 h12 =>
 bnd (aC 0 v12 h12) fun v13 h13 =>
 bnd (aC 1 v12 h13) fun v14 h14 =>
 bnd (aC 2 v12 h14) fun v15 h15 =>
 bnd (lQ (cB 0 h9.next) [(.s []), (aJ 0), (aJ 0), (aJ 0), .l0, .l0] h15) fun v16 h16 =>
 bnd (aI 6 v16 v13 h16) fun v17 h17 =>
 bnd (aD .neq v15 (aJ 0) h17) fun v18 h18 =>
 aT v18 (
 some (.t [(aJ 0), (aJ 0), v14, v15], h18)) (
 bnd (aK 6 v16 h18) fun v19 h19 =>
 bnd (r 141 [x0, v1, v19] h19) fun v20 h20 =>
 bnd (aC 0 v20 h20) fun v21 h21 =>
 bnd (aC 1 v20 h21) fun v22 h22 =>
 bnd (aD .neq v22 (aJ 0) h22) fun v23 h23 =>
 aT v23 (
 some (.t [(aJ 0), (aJ 0), (.s []), v22], h23)) (
 some (.t [v21, (aJ 0), (.s []), (aJ 0)], h23))))))
noncomputable abbrev c87 : Code := cf Tryz.f87
noncomputable abbrev r87 : K := aO CF Tryz.f87
noncomputable def D87 (r : RT) (n : Nat) (c : Code) (X : Nat → K) (k : K) : K := aM CF r 56 n c X r87 k
theorem eBl : D87 r n c87 x0 r87 = (K3 (s87 r n) 0 1 2) :=
 (by kernel_rfl)
theorem dVh : aF CF r n 87 args h = s87 r n (aS args 0) (aS args 1) (aS args 2) h :=
 (by kernel_rfl : aF CF r n 87 args h = D87 r n c87 x0 r87 (aH args) h).trans ((congrFun (congrFun (eBl r n) (aH args)) h).trans (by kernel_rfl))
end Go.Dd

namespace Go.Dd
open Go.Proofs
variable (r : RT) (n : Nat) (args : List DV) (h : Hp)
noncomputable def s123 (r : RT) (n : Nat) (x0 x1 : DV) (h0 : Hp) : aG :=
 bnd (r 193 [x0, x1] h0) fun v1 h1 =>
 bnd (aD .geq v1 (aJ 0) h1) fun v2 h2 =>
 some (v2, h2)
noncomputable abbrev c123 : Code := cf Tryz.f123
noncomputable abbrev r123 : K := aO CF Tryz.f123
noncomputable def D123 (r : RT) (n : Nat) (c : Code) (X : Nat → K) (k : K) : K := aM CF r 9 n c X r123 k
theorem dTt : D123 r n c123 x0 r123 = (K2 (s123 r n) 0 1) :=
 (by kernel_rfl)
theorem cZx : aF CF r n 123 args h = s123 r n (aS args 0) (aS args 1) h :=
 (by kernel_rfl : aF CF r n 123 args h = D123 r n c123 x0 r123 (aH args) h).trans ((congrFun (congrFun (dTt r n) (aH args)) h).trans (by kernel_rfl))
noncomputable def eH (r : RT) (n : Nat) (x0 x1 x8 : DV) (h0 : Hp) : aG :=
 bnd (r 133 [x0, x1, (aJ 2), x8] h0) fun v1 h1 =>
 bnd (aC 0 v1 h1) fun v2 h2 =>
 bnd (aC 1 v1 h2) fun v3 h3 =>
 some (.t [v2, v3], h3)
noncomputable def aCn (r : RT) (n : Nat) (kk5 : gJ) (x0 x1 x2 x8 x11 x12 : DV) (h0 : Hp) : aG :=
 bnd (aD .lss x12 x11 h0) fun v1 h1 =>
 aT v1 (
 bnd (bY x2 x12 h1) fun v2 h2 =>
 bnd (dJ .i64 v2 h2) fun v3 h3 =>
 bnd (aP [(aJ 0)] 1 [(0, 1, v3)] h3) fun v4 h4 =>
 bnd (bF 1 8 x8 v4 h4) fun v5 h5 =>
 bnd (aD .add x12 (aJ 1) h5) fun v6 h6 =>
      kk5 x0 x1 x2 v5 x11 v6 h6) (
      eH r n x0 x1 x8 h1)
noncomputable def wG (r : RT) (n : Nat) (m : Nat) : gJ :=
 Nat.rec (motive := fun _ => gJ) (fun _ _ _ _ _ _ _ => none) (fun _ ih => aCn r n ih) m
noncomputable def bYf (r : RT) (n : Nat) : gJ := wG r n n
noncomputable def aSs (r : RT) (n : Nat) (x0 x1 x2 x8 x11 x12 : DV) (h0 : Hp) : aG :=
 bYf r n x0 x1 x2 x8 x11 x12 h0
noncomputable def aQp (r : RT) (n : Nat) (x0 x1 x2 x8 : DV) (h0 : Hp) : aG :=
 bnd (cJ x2 h0) fun v1 h1 =>
  aSs r n x0 x1 x2 x8 v1 (aJ 0) h1
noncomputable def aQz (r : RT) (n : Nat) (x0 x1 x2 : DV) (h0 : Hp) : aG :=
 aQp r n x0 x1 x2 .l0 h0
noncomputable def s129 (r : RT) (n : Nat) (x0 x1 x2 : DV) (h0 : Hp) : aG :=
 aQz r n x0 x1 x2 h0
noncomputable abbrev c129 : Code := cf Tryz.f129
noncomputable abbrev aGo : Code := cR c129
noncomputable abbrev aLj : Code := cR aGo
noncomputable abbrev dEd : Code := cR aLj
noncomputable abbrev xG : Code := cL aLj
noncomputable abbrev aSq : Code := cR xG
noncomputable abbrev aGj : Code := cL aSq
noncomputable abbrev mH : Code := cL aGj
noncomputable abbrev bTi : Code := cL xG
noncomputable abbrev bNz : Code := cL aGo
noncomputable abbrev bCu : Code := cL c129
noncomputable abbrev r129 : K := aO CF Tryz.f129
noncomputable def D129 (r : RT) (n : Nat) (c : Code) (X : Nat → K) (k : K) : K := aM CF r 29 n c X r129 k
theorem cOc : D129 r n dEd x0 r129 = (K3 (eH r n) 0 1 8) :=
 (by kernel_rfl)
theorem bUc (kk5 : gJ) (q0 : fG) : D129 r n mH (xs x0 0 (K3 q0 0 1 8)) (K6 kk5 0 1 2 8 11 12) = fun (env : aZ) (h : Hp) =>
 bnd (aD .lss (env 12) (env 11) h) fun v1 h1 =>
 aT v1 (
 bnd (bY (env 2) (env 12) h1) fun v2 h2 =>
 bnd (dJ .i64 v2 h2) fun v3 h3 =>
 bnd (aP [(aJ 0)] 1 [(0, 1, v3)] h3) fun v4 h4 =>
 bnd (bF 1 8 (env 8) v4 h4) fun v5 h5 =>
 bnd (aD .add (env 12) (aJ 1) h5) fun v6 h6 =>
      kk5 (env 0) (env 1) (env 2) v5 (env 11) v6 h6) (
      q0 (env 0) (env 1) (env 8) h1) := by kernel_rfl
theorem bId (kk5 : gJ) : (fun (env : aZ) (h : Hp) =>
 bnd (aD .lss (env 12) (env 11) h) fun v1 h1 =>
 aT v1 (
 bnd (bY (env 2) (env 12) h1) fun v2 h2 =>
 bnd (dJ .i64 v2 h2) fun v3 h3 =>
 bnd (aP [(aJ 0)] 1 [(0, 1, v3)] h3) fun v4 h4 =>
 bnd (bF 1 8 (env 8) v4 h4) fun v5 h5 =>
 bnd (aD .add (env 12) (aJ 1) h5) fun v6 h6 =>
      kk5 (env 0) (env 1) (env 2) v5 (env 11) v6 h6) (
      eH r n (env 0) (env 1) (env 8) h1)) = (K6 (aCn r n kk5) 0 1 2 8 11 12) := by kernel_rfl
theorem bQl (kk5 : gJ) : D129 r n mH (xs x0 0 (K3 (eH r n) 0 1 8)) (K6 kk5 0 1 2 8 11 12) = (K6 (aCn r n kk5) 0 1 2 8 11 12) :=
 (bUc r n kk5 (eH r n)).trans (bId r n kk5)
theorem cBs (m : Nat) : aL (fun kk => D129 r n mH (xs x0 0 (K3 (eH r n) 0 1 8)) kk) m = (K6 (wG r n m) 0 1 2 8 11 12) := by
 induction m with
 | zero => exact (by kernel_rfl : aL (fun kk => D129 r n mH (xs x0 0 (K3 (eH r n) 0 1 8)) kk) 0 = (K6 (wG r n 0) 0 1 2 8 11 12))
 | succ m ih =>
  refine (by kernel_rfl : aL (fun kk => D129 r n mH (xs x0 0 (K3 (eH r n) 0 1 8)) kk) (m + 1) = D129 r n mH (xs x0 0 (K3 (eH r n) 0 1 8)) (aL (fun kk => D129 r n mH (xs x0 0 (K3 (eH r n) 0 1 8)) kk) m)).trans ?_
  rw [ih]
  exact (bQl r n (wG r n m)).trans (by kernel_rfl)
theorem cKk : D129 r n aGj (xs x0 0 (K3 (eH r n) 0 1 8)) (K3 (eH r n) 0 1 8) = (K6 (bYf r n) 0 1 2 8 11 12) :=
 (by kernel_rfl : D129 r n aGj (xs x0 0 (K3 (eH r n) 0 1 8)) (K3 (eH r n) 0 1 8) = aL (fun kk => D129 r n mH (xs x0 0 (K3 (eH r n) 0 1 8)) kk) n).trans ((cBs r n n).trans (by kernel_rfl))
theorem cLl : D129 r n aSq x0 (K3 (eH r n) 0 1 8) = (K6 (aSs r n) 0 1 2 8 11 12) :=
 (by kernel_rfl : D129 r n aSq x0 (K3 (eH r n) 0 1 8) = D129 r n aGj (xs x0 0 (K3 (eH r n) 0 1 8)) (K3 (eH r n) 0 1 8)).trans
 ((cKk r n).trans (by kernel_rfl))
theorem cDg : D129 r n aLj x0 r129 = D129 r n xG x0 (K3 (eH r n) 0 1 8) :=
 congrArg (fun k => D129 r n xG x0 k) (cOc r n)
theorem bUa : D129 r n xG x0 (K3 (eH r n) 0 1 8) = D129 r n bTi x0 (K6 (aSs r n) 0 1 2 8 11 12) :=
 congrArg (fun k => D129 r n bTi x0 k) (cLl r n)
theorem cJa : D129 r n aLj x0 r129 = (K4 (aQp r n) 0 1 2 8) :=
 (cDg r n).trans
 ((bUa r n).trans
 ((by kernel_rfl)))
theorem bWo : D129 r n aGo x0 r129 = D129 r n bNz x0 (K4 (aQp r n) 0 1 2 8) :=
 congrArg (fun k => D129 r n bNz x0 k) (cJa r n)
theorem cJg : D129 r n aGo x0 r129 = (K3 (aQz r n) 0 1 2) :=
 (bWo r n).trans
 ((by kernel_rfl))
theorem dGd : D129 r n c129 x0 r129 = D129 r n bCu x0 (K3 (aQz r n) 0 1 2) :=
 congrArg (fun k => D129 r n bCu x0 k) (cJg r n)
theorem dUf : D129 r n c129 x0 r129 = (K3 (s129 r n) 0 1 2) :=
 (dGd r n).trans
 ((by kernel_rfl))
theorem dHu : aF CF r n 129 args h = s129 r n (aS args 0) (aS args 1) (aS args 2) h :=
 (by kernel_rfl : aF CF r n 129 args h = D129 r n c129 x0 r129 (aH args) h).trans ((congrFun (congrFun (dUf r n) (aH args)) h).trans (by kernel_rfl))
noncomputable def s130 (r : RT) (n : Nat) (x0 x1 : DV) (h0 : Hp) : aG :=
 bnd (r 199 [x0, x1] h0) fun v1 h1 =>
 bnd (aD .geq v1 (aJ 0) h1) fun v2 h2 =>
 some (v2, h2)
noncomputable abbrev c130 : Code := cf Tryz.f130
noncomputable abbrev r130 : K := aO CF Tryz.f130
noncomputable def D130 (r : RT) (n : Nat) (c : Code) (X : Nat → K) (k : K) : K := aM CF r 9 n c X r130 k
theorem dNt : D130 r n c130 x0 r130 = (K2 (s130 r n) 0 1) :=
 (by kernel_rfl)
theorem dJf : aF CF r n 130 args h = s130 r n (aS args 0) (aS args 1) h :=
 (by kernel_rfl : aF CF r n 130 args h = D130 r n c130 x0 r130 (aH args) h).trans ((congrFun (congrFun (dNt r n) (aH args)) h).trans (by kernel_rfl))
noncomputable def s131 (r : RT) (n : Nat) (x0 x1 : DV) (h0 : Hp) : aG :=
 bnd (aA x1 h0) fun v1 h1 =>
 bnd (aY v1 h1) fun v2 h2 =>
 bnd (aB 0 v2 h2) fun v3 h3 =>
 bnd (aA v3 h3) fun v4 h4 =>
 bnd (bMx [v4, x0] h4) fun v5 h5 =>
 bnd (hZ .not v5 h5) fun v6 h6 =>
 some (v6, h6)
noncomputable abbrev c131 : Code := cf Tryz.f131
noncomputable abbrev r131 : K := aO CF Tryz.f131
noncomputable def D131 (r : RT) (n : Nat) (c : Code) (X : Nat → K) (k : K) : K := aM CF r 11 n c X r131 k
theorem dQa : D131 r n c131 x0 r131 = (K2 (s131 r n) 0 1) :=
 (by kernel_rfl)
theorem dCi : aF CF r n 131 args h = s131 r n (aS args 0) (aS args 1) h :=
 (by kernel_rfl : aF CF r n 131 args h = D131 r n c131 x0 r131 (aH args) h).trans ((congrFun (congrFun (dQa r n) (aH args)) h).trans (by kernel_rfl))
noncomputable def eV (r : RT) (n : Nat) (x10 : DV) (h0 : Hp) : aG :=
 some (.t [x10, (aJ 0)], h0)
noncomputable def bBg (r : RT) (n : Nat) (kk6 : cI) (x0 x10 x29 x30 x31 : DV) (h0 : Hp) : aG :=
 bnd (aD .lss x31 x30 h0) fun v1 h1 =>
 aT v1 (
 bnd (aE 1 x29 x31 h1) fun v2 h2 =>
 bnd (aA v2 h2) fun v3 h3 =>
 bnd (aY x0 h3) fun v4 h4 =>
 bnd (aB 0 v4 h4) fun v5 h5 =>
 bnd (aA v5 h5) fun v6 h6 =>
 bnd (aOj [v6, x10, x31, v3] h6) fun v7 h7 =>
 bnd (aD .add x31 (aJ 1) h7) fun v8 h8 =>
      kk6 x0 x10 x29 x30 v8 h8) (
      eV r n x10 h1)
noncomputable def tQ (r : RT) (n : Nat) (m : Nat) : cI :=
 Nat.rec (motive := fun _ => cI) (fun _ _ _ _ _ _ => none) (fun _ ih => bBg r n ih) m
noncomputable def cAj (r : RT) (n : Nat) : cI := tQ r n n
noncomputable def aOy (r : RT) (n : Nat) (x0 x10 x29 x30 x31 : DV) (h0 : Hp) : aG :=
 cAj r n x0 x10 x29 x30 x31 h0
noncomputable def aVu (r : RT) (n : Nat) (x0 x3 x10 : DV) (h0 : Hp) : aG :=
 bnd (bV x3 h0) fun v1 h1 =>
  aOy r n x0 x10 x3 v1 (aJ 0) h1
noncomputable def aRr (r : RT) (n : Nat) (x0 x3 x10 x11 : DV) (h0 : Hp) : aG :=
 bnd (aD .neq x11 (aJ 0) h0) fun v1 h1 =>
 aT v1 (
 some (.t [(aJ 0), x11], h1)) (
  aVu r n x0 x3 x10 h1)
noncomputable def aOp (r : RT) (n : Nat) (x0 x1 x2 x3 : DV) (h0 : Hp) : aG :=
 bnd (aY x0 h0) fun v1 h1 =>
 bnd (aB 0 v1 h1) fun v2 h2 =>
 bnd (aA v2 h2) fun v3 h3 =>
 bnd (bV x3 h3) fun v4 h4 =>
 bnd (tI [v3, x1, x2, v4] h4) fun v5 h5 =>
 bnd (aC 0 v5 h5) fun v6 h6 =>
 bnd (aC 1 v5 h6) fun v7 h7 =>
  aRr r n x0 x3 v6 v7 h7
noncomputable def s133 (r : RT) (n : Nat) (x0 x1 x2 x3 : DV) (h0 : Hp) : aG :=
 aOp r n x0 x1 x2 x3 h0
noncomputable abbrev c133 : Code := cf Tryz.f133
noncomputable abbrev aJn : Code := cR c133
noncomputable abbrev aIk : Code := cR aJn
noncomputable abbrev aFs : Code := cR aIk
noncomputable abbrev dIy : Code := cR aFs
noncomputable abbrev yW : Code := cL aFs
noncomputable abbrev aSi : Code := cR yW
noncomputable abbrev aLd : Code := cL aSi
noncomputable abbrev oX : Code := cL aLd
noncomputable abbrev cDo : Code := cL yW
noncomputable abbrev aZj : Code := cL aIk
noncomputable abbrev aXa : Code := cL aJn
noncomputable abbrev bEm : Code := cL c133
noncomputable abbrev r133 : K := aO CF Tryz.f133
noncomputable def D133 (r : RT) (n : Nat) (c : Code) (X : Nat → K) (k : K) : K := aM CF r 46 n c X r133 k
theorem cNd : D133 r n dIy x0 r133 = (K1 (eV r n) 10) :=
 (by kernel_rfl)
theorem bUw (kk6 : cI) : D133 r n oX (xs x0 0 (K1 (eV r n) 10)) (K5 kk6 0 10 29 30 31) = (K5 (bBg r n kk6) 0 10 29 30 31) :=
 (by kernel_rfl)
theorem bZy (m : Nat) : aL (fun kk => D133 r n oX (xs x0 0 (K1 (eV r n) 10)) kk) m = (K5 (tQ r n m) 0 10 29 30 31) := by
 induction m with
 | zero => exact (by kernel_rfl : aL (fun kk => D133 r n oX (xs x0 0 (K1 (eV r n) 10)) kk) 0 = (K5 (tQ r n 0) 0 10 29 30 31))
 | succ m ih =>
  refine (by kernel_rfl : aL (fun kk => D133 r n oX (xs x0 0 (K1 (eV r n) 10)) kk) (m + 1) = D133 r n oX (xs x0 0 (K1 (eV r n) 10)) (aL (fun kk => D133 r n oX (xs x0 0 (K1 (eV r n) 10)) kk) m)).trans ?_
  rw [ih]
  exact (bUw r n (tQ r n m)).trans (by kernel_rfl)
theorem cLc : D133 r n aLd (xs x0 0 (K1 (eV r n) 10)) (K1 (eV r n) 10) = (K5 (cAj r n) 0 10 29 30 31) :=
 (by kernel_rfl : D133 r n aLd (xs x0 0 (K1 (eV r n) 10)) (K1 (eV r n) 10) = aL (fun kk => D133 r n oX (xs x0 0 (K1 (eV r n) 10)) kk) n).trans ((bZy r n n).trans (by kernel_rfl))
theorem cPi : D133 r n aSi x0 (K1 (eV r n) 10) = (K5 (aOy r n) 0 10 29 30 31) :=
 (by kernel_rfl : D133 r n aSi x0 (K1 (eV r n) 10) = D133 r n aLd (xs x0 0 (K1 (eV r n) 10)) (K1 (eV r n) 10)).trans
 ((cLc r n).trans (by kernel_rfl))
theorem bKq : D133 r n aFs x0 r133 = D133 r n yW x0 (K1 (eV r n) 10) :=
 congrArg (fun k => D133 r n yW x0 k) (cNd r n)
theorem bVo : D133 r n yW x0 (K1 (eV r n) 10) = D133 r n cDo x0 (K5 (aOy r n) 0 10 29 30 31) :=
 congrArg (fun k => D133 r n cDo x0 k) (cPi r n)
theorem cOm : D133 r n aFs x0 r133 = (K3 (aVu r n) 0 3 10) :=
 (bKq r n).trans
 ((bVo r n).trans
 ((by kernel_rfl)))
theorem cAp : D133 r n aIk x0 r133 = D133 r n aZj x0 (K3 (aVu r n) 0 3 10) :=
 congrArg (fun k => D133 r n aZj x0 k) (cOm r n)
theorem cJk : D133 r n aIk x0 r133 = (K4 (aRr r n) 0 3 10 11) :=
 (cAp r n).trans
 ((by kernel_rfl))
theorem bWf : D133 r n aJn x0 r133 = D133 r n aXa x0 (K4 (aRr r n) 0 3 10 11) :=
 congrArg (fun k => D133 r n aXa x0 k) (cJk r n)
theorem cEx : D133 r n aJn x0 r133 = (K4 (aOp r n) 0 1 2 3) :=
 (bWf r n).trans
 ((by kernel_rfl))
theorem dJx : D133 r n c133 x0 r133 = D133 r n bEm x0 (K4 (aOp r n) 0 1 2 3) :=
 congrArg (fun k => D133 r n bEm x0 k) (cEx r n)
theorem dNj : D133 r n c133 x0 r133 = (K4 (s133 r n) 0 1 2 3) :=
 (dJx r n).trans
 ((by kernel_rfl))
theorem dCt : aF CF r n 133 args h = s133 r n (aS args 0) (aS args 1) (aS args 2) (aS args 3) h :=
 (by kernel_rfl : aF CF r n 133 args h = D133 r n c133 x0 r133 (aH args) h).trans ((congrFun (congrFun (dNj r n) (aH args)) h).trans (by kernel_rfl))
noncomputable def s137 (r : RT) (n : Nat) (x0 x1 : DV) (h0 : Hp) : aG :=
 bnd (aY x0 h0) fun v1 h1 =>
 bnd (aB 3 v1 h1) fun v2 h2 =>
 bnd (aA v2 h2) fun v3 h3 =>
 bnd (eC .string (aJ 0) false v3 x1 h3) fun v4 h4 =>
 some (v4, h4)
noncomputable abbrev c137 : Code := cf Tryz.f137
noncomputable abbrev r137 : K := aO CF Tryz.f137
noncomputable def D137 (r : RT) (n : Nat) (c : Code) (X : Nat → K) (k : K) : K := aM CF r 11 n c X r137 k
theorem dTe : D137 r n c137 x0 r137 = (K2 (s137 r n) 0 1) :=
 (by kernel_rfl)
theorem cZa : aF CF r n 137 args h = s137 r n (aS args 0) (aS args 1) h :=
 (by kernel_rfl : aF CF r n 137 args h = D137 r n c137 x0 r137 (aH args) h).trans ((congrFun (congrFun (dTe r n) (aH args)) h).trans (by kernel_rfl))
noncomputable def s138 (r : RT) (n : Nat) (x0 : DV) (h0 : Hp) : aG :=
 bnd (bQ tJ h0) fun v1 h1 =>
 bnd (r 153 [x0, (.f 202 [] [])] h1) fun v2 h2 =>
 bnd (aC 0 v2 h2) fun v3 h3 =>
 bnd (aC 1 v2 h3) fun v4 h4 =>
 bnd (aC 2 v2 h4) fun v5 h5 =>
 bnd (aI 6 v1 v3 h5) fun _ h6 =>
 bnd (aK 6 v1 h6) fun v7 _ =>
 some (.t [v7, v4, v5], h6)
noncomputable abbrev c138 : Code := cf Tryz.f138
noncomputable abbrev r138 : K := aO CF Tryz.f138
noncomputable def D138 (r : RT) (n : Nat) (c : Code) (X : Nat → K) (k : K) : K := aM CF r 10 n c X r138 k
theorem dSw : D138 r n c138 x0 r138 = (K1 (s138 r n) 0) :=
 (by kernel_rfl)
theorem dAh : aF CF r n 138 args h = s138 r n (aS args 0) h :=
 (by kernel_rfl : aF CF r n 138 args h = D138 r n c138 x0 r138 (aH args) h).trans ((congrFun (congrFun (dSw r n) (aH args)) h).trans (by kernel_rfl))
noncomputable def s139 (r : RT) (n : Nat) (x0 x1 : DV) (h0 : Hp) : aG :=
 bnd (cH x0 h0) fun v1 h1 =>
 bnd (bQ [(.s []), (aJ 0), (aJ 0), (aJ 0), .l0, .l0] h1) fun v2 h2 =>
 bnd (aK 6 v1 h2) fun v3 h3 =>
 bnd (r 155 [v3, x1, (.b false)] h3) fun v4 h4 =>
 bnd (aC 0 v4 h4) fun v5 h5 =>
 bnd (aC 1 v4 h5) fun v6 h6 =>
 bnd (aC 2 v4 h6) fun v7 h7 =>
 bnd (aI 6 v2 v5 h7) fun _ h8 =>
 bnd (aK 6 v2 h8) fun v9 _ =>
 some (.t [v9, v6, v7], h8)
noncomputable abbrev c139 : Code := cf Tryz.f139
noncomputable abbrev r139 : K := aO CF Tryz.f139
noncomputable def D139 (r : RT) (n : Nat) (c : Code) (X : Nat → K) (k : K) : K := aM CF r 13 n c X r139 k
theorem dTm : D139 r n c139 x0 r139 = (K2 (s139 r n) 0 1) :=
 (by kernel_rfl)
theorem dAg : aF CF r n 139 args h = s139 r n (aS args 0) (aS args 1) h :=
 (by kernel_rfl : aF CF r n 139 args h = D139 r n c139 x0 r139 (aH args) h).trans ((congrFun (congrFun (dTm r n) (aH args)) h).trans (by kernel_rfl))
noncomputable def bK (r : RT) (n : Nat) (x5 : DV) (h0 : Hp) : aG :=
 some (x5, h0)
noncomputable def cG (r : RT) (n : Nat) (kk5 : cU) (x0 x1 x5 x6 : DV) (h0 : Hp) : aG :=
 bnd (aD .sub x6 (aJ 1) h0) fun v1 h1 =>
  kk5 x0 x1 x5 v1 h1
noncomputable def dG (r : RT) (n : Nat) (kk5 : cU) (x0 x1 x5 x6 x7 : DV) (h0 : Hp) : aG :=
 bnd (bF 1 16 x7 x5 h0) fun v1 h1 =>
 bnd (r 206 [x0, x1] h1) fun v2 h2 =>
  cG r n kk5 x0 v2 v1 x6 h2
noncomputable def xR (r : RT) (n : Nat) (kk5 : cU) (kk12 : TT8) (x0 x1 x5 x6 x7 x8 x34 x35 : DV) (h0 : Hp) : aG :=
 bnd (aD .lss x35 x34 h0) fun v1 h1 =>
 aT v1 (
 bnd (r 204 [x0, x8, x35] h1) fun v2 h2 =>
 bnd (r 205 [x0, v2] h2) fun v3 h3 =>
 bnd (aC 0 v3 h3) fun v4 h4 =>
 bnd (aC 1 v3 h4) fun v5 h5 =>
 bnd (aP [(.s [])] 1 [(0, 1, v4)] h5) fun v6 h6 =>
 bnd (bF 1 16 x7 v6 h6) fun v7 h7 =>
 bnd (aD .add x35 (aJ 1) h7) fun v8 h8 =>
      kk12 x0 x1 x5 x6 v7 x8 x34 v8 h8) (
      dG r n kk5 x0 x1 x5 x6 x7 h1)
noncomputable def qC (r : RT) (n : Nat) (kk5 : cU) (m : Nat) : TT8 :=
 Nat.rec (motive := fun _ => TT8) (fun _ _ _ _ _ _ _ _ _ => none) (fun _ ih => xR r n kk5 ih) m
noncomputable def bEo (r : RT) (n : Nat) (kk5 : cU) : TT8 := qC r n kk5 n
noncomputable def aHf (r : RT) (n : Nat) (kk5 : cU) (x0 x1 x5 x6 x7 x8 x34 x35 : DV) (h0 : Hp) : aG :=
 bEo r n kk5 x0 x1 x5 x6 x7 x8 x34 x35 h0
noncomputable def aOn (r : RT) (n : Nat) (kk5 : cU) (x0 x1 x5 x6 x7 x8 : DV) (h0 : Hp) : aG :=
 bnd (aY x0 h0) fun v1 h1 =>
 bnd (aB 0 v1 h1) fun v2 h2 =>
 bnd (aA v2 h2) fun v3 h3 =>
 bnd (nG [v3, x8] h3) fun v4 h4 =>
  aHf r n kk5 x0 x1 x5 x6 x7 x8 v4 (aJ 0) h4
noncomputable def aOr (r : RT) (n : Nat) (kk5 : cU) (x0 x1 x5 x6 x7 : DV) (h0 : Hp) : aG :=
 bnd (r 204 [x0, x1, (aJ 3)] h0) fun v1 h1 =>
  aOn r n kk5 x0 x1 x5 x6 x7 v1 h1
noncomputable def aTf (r : RT) (n : Nat) (kk5 : cU) (x0 x1 x5 x6 : DV) (h0 : Hp) : aG :=
 aOr r n kk5 x0 x1 x5 x6 .l0 h0
noncomputable def aYh (r : RT) (n : Nat) (kk5 : cU) (x0 x1 x5 x6 : DV) (h0 : Hp) : aG :=
 bnd (aD .gtr x6 (aJ 0) h0) fun v1 h1 =>
 bnd (gD v1 true (some (x0, h1)) h1) fun v2 h2 =>
 bnd (gD v1 true (some (x1, h2)) h2) fun v3 h3 =>
 bnd (gD v1 true (r 203 [v2, v3] h3) h3) fun v4 h4 =>
 bnd (aN v1 v4 (.b false) h4) fun v5 h5 =>
 aT v5 (
   aTf r n kk5 x0 x1 x5 x6 h5) (
   bK r n x5 h5)
noncomputable def vG (r : RT) (n : Nat) (m : Nat) : cU :=
 Nat.rec (motive := fun _ => cU) (fun _ _ _ _ _ => none) (fun _ ih => aYh r n ih) m
noncomputable def bMl (r : RT) (n : Nat) : cU := vG r n n
noncomputable def aPs (r : RT) (n : Nat) (x0 x1 x5 x6 : DV) (h0 : Hp) : aG :=
 bMl r n x0 x1 x5 x6 h0
noncomputable def aQc (r : RT) (n : Nat) (x0 x1 x5 : DV) (h0 : Hp) : aG :=
 bnd (aY x0 h0) fun v1 h1 =>
 bnd (aB 0 v1 h1) fun v2 h2 =>
 bnd (aA v2 h2) fun v3 h3 =>
 bnd (aCa [v3] h3) fun v4 h4 =>
  aPs r n x0 x1 x5 v4 h4
noncomputable def aPu (r : RT) (n : Nat) (x0 x1 : DV) (h0 : Hp) : aG :=
 aQc r n x0 x1 .l0 h0
noncomputable def s140 (r : RT) (n : Nat) (x0 x1 : DV) (h0 : Hp) : aG :=
 aPu r n x0 x1 h0
noncomputable abbrev c140 : Code := cf Tryz.f140
noncomputable abbrev aEd : Code := cR c140
noncomputable abbrev aKa : Code := cR aEd
noncomputable abbrev dFh : Code := cR aKa
noncomputable abbrev zD : Code := cL aKa
noncomputable abbrev aTg : Code := cR zD
noncomputable abbrev aCq : Code := cL aTg
noncomputable abbrev kH : Code := cL aCq
noncomputable abbrev aLh : Code := cR kH
noncomputable abbrev dEn : Code := cR aLh
noncomputable abbrev vQ : Code := cL aLh
noncomputable abbrev tT : Code := cL vQ
noncomputable abbrev uB : Code := cR tT
noncomputable abbrev vN : Code := cR uB
noncomputable abbrev cJm : Code := cR vN
noncomputable abbrev rB : Code := cL vN
noncomputable abbrev aGu : Code := cR rB
noncomputable abbrev vZ : Code := cL aGu
noncomputable abbrev kC : Code := cL vZ
noncomputable abbrev bCb : Code := cL rB
noncomputable abbrev bAu : Code := cL uB
noncomputable abbrev aXn : Code := cL tT
noncomputable abbrev aZh : Code := cL kH
noncomputable abbrev bCt : Code := cL zD
noncomputable abbrev bCr : Code := cL aEd
noncomputable abbrev bEd : Code := cL c140
noncomputable abbrev r140 : K := aO CF Tryz.f140
noncomputable def D140 (r : RT) (n : Nat) (c : Code) (X : Nat → K) (k : K) : K := aM CF r 59 n c X r140 k
theorem cFi : D140 r n dFh x0 r140 = (K1 (bK r n) 5) :=
 (by kernel_rfl)
theorem cRh (kk5 : cU) : D140 r n dEn (xs x0 0 (K1 (bK r n) 5)) (K4 kk5 0 1 5 6) = (K4 (cG r n kk5) 0 1 5 6) :=
 (by kernel_rfl)
theorem bSy (kk5 : cU) : D140 r n cJm (xs (xs x0 0 (K1 (bK r n) 5)) 1 (K4 (cG r n kk5) 0 1 5 6)) (K4 (cG r n kk5) 0 1 5 6) = (K5 (dG r n kk5) 0 1 5 6 7) :=
 (by kernel_rfl)
theorem bIk (kk5 : cU) (kk12 : TT8) (q0 : TT1) (q1 : cU) (q2 : cI) : D140 r n kC (xs (xs (xs x0 0 (K1 q0 5)) 1 (K4 q1 0 1 5 6)) 2 (K5 q2 0 1 5 6 7)) (K8 kk12 0 1 5 6 7 8 34 35) = fun (env : aZ) (h : Hp) =>
 bnd (aD .lss (env 35) (env 34) h) fun v1 h1 =>
 aT v1 (
 bnd (r 204 [(env 0), (env 8), (env 35)] h1) fun v2 h2 =>
 bnd (r 205 [(env 0), v2] h2) fun v3 h3 =>
 bnd (aC 0 v3 h3) fun v4 h4 =>
 bnd (aC 1 v3 h4) fun v5 h5 =>
 bnd (aP [(.s [])] 1 [(0, 1, v4)] h5) fun v6 h6 =>
 bnd (bF 1 16 (env 7) v6 h6) fun v7 h7 =>
 bnd (aD .add (env 35) (aJ 1) h7) fun v8 h8 =>
      kk12 (env 0) (env 1) (env 5) (env 6) v7 (env 8) (env 34) v8 h8) (
      q2 (env 0) (env 1) (env 5) (env 6) (env 7) h1) := by kernel_rfl
theorem aQk (kk5 : cU) (kk12 : TT8) : (fun (env : aZ) (h : Hp) =>
 bnd (aD .lss (env 35) (env 34) h) fun v1 h1 =>
 aT v1 (
 bnd (r 204 [(env 0), (env 8), (env 35)] h1) fun v2 h2 =>
 bnd (r 205 [(env 0), v2] h2) fun v3 h3 =>
 bnd (aC 0 v3 h3) fun v4 h4 =>
 bnd (aC 1 v3 h4) fun v5 h5 =>
 bnd (aP [(.s [])] 1 [(0, 1, v4)] h5) fun v6 h6 =>
 bnd (bF 1 16 (env 7) v6 h6) fun v7 h7 =>
 bnd (aD .add (env 35) (aJ 1) h7) fun v8 h8 =>
      kk12 (env 0) (env 1) (env 5) (env 6) v7 (env 8) (env 34) v8 h8) (
      dG r n kk5 (env 0) (env 1) (env 5) (env 6) (env 7) h1)) = (K8 (xR r n kk5 kk12) 0 1 5 6 7 8 34 35) := by kernel_rfl
theorem bJi (kk5 : cU) (kk12 : TT8) : D140 r n kC (xs (xs (xs x0 0 (K1 (bK r n) 5)) 1 (K4 (cG r n kk5) 0 1 5 6)) 2 (K5 (dG r n kk5) 0 1 5 6 7)) (K8 kk12 0 1 5 6 7 8 34 35) = (K8 (xR r n kk5 kk12) 0 1 5 6 7 8 34 35) :=
 (bIk r n kk5 kk12 (bK r n) (cG r n kk5) (dG r n kk5)).trans (aQk r n kk5 kk12)
theorem bFd (kk5 : cU) (m : Nat) : aL (fun kk => D140 r n kC (xs (xs (xs x0 0 (K1 (bK r n) 5)) 1 (K4 (cG r n kk5) 0 1 5 6)) 2 (K5 (dG r n kk5) 0 1 5 6 7)) kk) m = (K8 (qC r n kk5 m) 0 1 5 6 7 8 34 35) := by
 induction m with
 | zero => exact (by kernel_rfl : aL (fun kk => D140 r n kC (xs (xs (xs x0 0 (K1 (bK r n) 5)) 1 (K4 (cG r n kk5) 0 1 5 6)) 2 (K5 (dG r n kk5) 0 1 5 6 7)) kk) 0 = (K8 (qC r n kk5 0) 0 1 5 6 7 8 34 35))
 | succ m ih =>
  refine (by kernel_rfl : aL (fun kk => D140 r n kC (xs (xs (xs x0 0 (K1 (bK r n) 5)) 1 (K4 (cG r n kk5) 0 1 5 6)) 2 (K5 (dG r n kk5) 0 1 5 6 7)) kk) (m + 1) = D140 r n kC (xs (xs (xs x0 0 (K1 (bK r n) 5)) 1 (K4 (cG r n kk5) 0 1 5 6)) 2 (K5 (dG r n kk5) 0 1 5 6 7)) (aL (fun kk => D140 r n kC (xs (xs (xs x0 0 (K1 (bK r n) 5)) 1 (K4 (cG r n kk5) 0 1 5 6)) 2 (K5 (dG r n kk5) 0 1 5 6 7)) kk) m)).trans ?_
  rw [ih]
  exact (bJi r n kk5 (qC r n kk5 m)).trans (by kernel_rfl)
theorem cBz (kk5 : cU) : D140 r n vZ (xs (xs (xs x0 0 (K1 (bK r n) 5)) 1 (K4 (cG r n kk5) 0 1 5 6)) 2 (K5 (dG r n kk5) 0 1 5 6 7)) (K5 (dG r n kk5) 0 1 5 6 7) = (K8 (bEo r n kk5) 0 1 5 6 7 8 34 35) :=
 (by kernel_rfl : D140 r n vZ (xs (xs (xs x0 0 (K1 (bK r n) 5)) 1 (K4 (cG r n kk5) 0 1 5 6)) 2 (K5 (dG r n kk5) 0 1 5 6 7)) (K5 (dG r n kk5) 0 1 5 6 7) = aL (fun kk => D140 r n kC (xs (xs (xs x0 0 (K1 (bK r n) 5)) 1 (K4 (cG r n kk5) 0 1 5 6)) 2 (K5 (dG r n kk5) 0 1 5 6 7)) kk) n).trans ((bFd r n kk5 n).trans (by kernel_rfl))
theorem bNf (kk5 : cU) : D140 r n aGu (xs (xs x0 0 (K1 (bK r n) 5)) 1 (K4 (cG r n kk5) 0 1 5 6)) (K5 (dG r n kk5) 0 1 5 6 7) = (K8 (aHf r n kk5) 0 1 5 6 7 8 34 35) :=
 (by kernel_rfl : D140 r n aGu (xs (xs x0 0 (K1 (bK r n) 5)) 1 (K4 (cG r n kk5) 0 1 5 6)) (K5 (dG r n kk5) 0 1 5 6 7) = D140 r n vZ (xs (xs (xs x0 0 (K1 (bK r n) 5)) 1 (K4 (cG r n kk5) 0 1 5 6)) 2 (K5 (dG r n kk5) 0 1 5 6 7)) (K5 (dG r n kk5) 0 1 5 6 7)).trans
 ((cBz r n kk5).trans (by kernel_rfl))
theorem bWi (kk5 : cU) : D140 r n vN (xs (xs x0 0 (K1 (bK r n) 5)) 1 (K4 (cG r n kk5) 0 1 5 6)) (K4 (cG r n kk5) 0 1 5 6) = D140 r n rB (xs (xs x0 0 (K1 (bK r n) 5)) 1 (K4 (cG r n kk5) 0 1 5 6)) (K5 (dG r n kk5) 0 1 5 6 7) :=
 congrArg (fun k => D140 r n rB (xs (xs x0 0 (K1 (bK r n) 5)) 1 (K4 (cG r n kk5) 0 1 5 6)) k) (bSy r n kk5)
theorem cBr (kk5 : cU) : D140 r n rB (xs (xs x0 0 (K1 (bK r n) 5)) 1 (K4 (cG r n kk5) 0 1 5 6)) (K5 (dG r n kk5) 0 1 5 6 7) = D140 r n bCb (xs (xs x0 0 (K1 (bK r n) 5)) 1 (K4 (cG r n kk5) 0 1 5 6)) (K8 (aHf r n kk5) 0 1 5 6 7 8 34 35) :=
 congrArg (fun k => D140 r n bCb (xs (xs x0 0 (K1 (bK r n) 5)) 1 (K4 (cG r n kk5) 0 1 5 6)) k) (bNf r n kk5)
theorem cHg (kk5 : cU) : D140 r n vN (xs (xs x0 0 (K1 (bK r n) 5)) 1 (K4 (cG r n kk5) 0 1 5 6)) (K4 (cG r n kk5) 0 1 5 6) = (K6 (aOn r n kk5) 0 1 5 6 7 8) :=
 (bWi r n kk5).trans
 ((cBr r n kk5).trans
 ((by kernel_rfl)))
theorem bLc (kk5 : cU) : D140 r n uB (xs (xs x0 0 (K1 (bK r n) 5)) 1 (K4 (cG r n kk5) 0 1 5 6)) (K4 (cG r n kk5) 0 1 5 6) = D140 r n bAu (xs (xs x0 0 (K1 (bK r n) 5)) 1 (K4 (cG r n kk5) 0 1 5 6)) (K6 (aOn r n kk5) 0 1 5 6 7 8) :=
 congrArg (fun k => D140 r n bAu (xs (xs x0 0 (K1 (bK r n) 5)) 1 (K4 (cG r n kk5) 0 1 5 6)) k) (cHg r n kk5)
theorem cOk (kk5 : cU) : D140 r n uB (xs (xs x0 0 (K1 (bK r n) 5)) 1 (K4 (cG r n kk5) 0 1 5 6)) (K4 (cG r n kk5) 0 1 5 6) = (K5 (aOr r n kk5) 0 1 5 6 7) :=
 (bLc r n kk5).trans
 ((by kernel_rfl))
theorem bZk (kk5 : cU) : D140 r n aLh (xs x0 0 (K1 (bK r n) 5)) (K4 kk5 0 1 5 6) = D140 r n vQ (xs x0 0 (K1 (bK r n) 5)) (K4 (cG r n kk5) 0 1 5 6) :=
 congrArg (fun k => D140 r n vQ (xs x0 0 (K1 (bK r n) 5)) k) (cRh r n kk5)
theorem bLg (kk5 : cU) : D140 r n tT (xs (xs x0 0 (K1 (bK r n) 5)) 1 (K4 (cG r n kk5) 0 1 5 6)) (K4 (cG r n kk5) 0 1 5 6) = D140 r n aXn (xs (xs x0 0 (K1 (bK r n) 5)) 1 (K4 (cG r n kk5) 0 1 5 6)) (K5 (aOr r n kk5) 0 1 5 6 7) :=
 congrArg (fun k => D140 r n aXn (xs (xs x0 0 (K1 (bK r n) 5)) 1 (K4 (cG r n kk5) 0 1 5 6)) k) (cOk r n kk5)
theorem cRe (kk5 : cU) : D140 r n aLh (xs x0 0 (K1 (bK r n) 5)) (K4 kk5 0 1 5 6) = (K4 (aTf r n kk5) 0 1 5 6) :=
 (bZk r n kk5).trans
 ((by kernel_rfl : D140 r n vQ (xs x0 0 (K1 (bK r n) 5)) (K4 (cG r n kk5) 0 1 5 6) = D140 r n tT (xs (xs x0 0 (K1 (bK r n) 5)) 1 (K4 (cG r n kk5) 0 1 5 6)) (K4 (cG r n kk5) 0 1 5 6)).trans
 ((bLg r n kk5).trans
 ((by kernel_rfl))))
theorem bUg (kk5 : cU) : D140 r n kH (xs x0 0 (K1 (bK r n) 5)) (K4 kk5 0 1 5 6) = D140 r n aZh (xs x0 0 (K1 (bK r n) 5)) (K4 (aTf r n kk5) 0 1 5 6) :=
 congrArg (fun k => D140 r n aZh (xs x0 0 (K1 (bK r n) 5)) k) (cRe r n kk5)
theorem bOf (kk5 : cU) : D140 r n kH (xs x0 0 (K1 (bK r n) 5)) (K4 kk5 0 1 5 6) = (K4 (aYh r n kk5) 0 1 5 6) :=
 (bUg r n kk5).trans
 ((by kernel_rfl))
theorem bRb (m : Nat) : aL (fun kk => D140 r n kH (xs x0 0 (K1 (bK r n) 5)) kk) m = (K4 (vG r n m) 0 1 5 6) := by
 induction m with
 | zero => exact (by kernel_rfl : aL (fun kk => D140 r n kH (xs x0 0 (K1 (bK r n) 5)) kk) 0 = (K4 (vG r n 0) 0 1 5 6))
 | succ m ih =>
  refine (by kernel_rfl : aL (fun kk => D140 r n kH (xs x0 0 (K1 (bK r n) 5)) kk) (m + 1) = D140 r n kH (xs x0 0 (K1 (bK r n) 5)) (aL (fun kk => D140 r n kH (xs x0 0 (K1 (bK r n) 5)) kk) m)).trans ?_
  rw [ih]
  exact (bOf r n (vG r n m)).trans (by kernel_rfl)
theorem cKz : D140 r n aCq (xs x0 0 (K1 (bK r n) 5)) (K1 (bK r n) 5) = (K4 (bMl r n) 0 1 5 6) :=
 (by kernel_rfl : D140 r n aCq (xs x0 0 (K1 (bK r n) 5)) (K1 (bK r n) 5) = aL (fun kk => D140 r n kH (xs x0 0 (K1 (bK r n) 5)) kk) n).trans ((bRb r n n).trans (by kernel_rfl))
theorem cRy : D140 r n aTg x0 (K1 (bK r n) 5) = (K4 (aPs r n) 0 1 5 6) :=
 (by kernel_rfl : D140 r n aTg x0 (K1 (bK r n) 5) = D140 r n aCq (xs x0 0 (K1 (bK r n) 5)) (K1 (bK r n) 5)).trans
 ((cKz r n).trans (by kernel_rfl))
theorem bKb : D140 r n aKa x0 r140 = D140 r n zD x0 (K1 (bK r n) 5) :=
 congrArg (fun k => D140 r n zD x0 k) (cFi r n)
theorem bSs : D140 r n zD x0 (K1 (bK r n) 5) = D140 r n bCt x0 (K4 (aPs r n) 0 1 5 6) :=
 congrArg (fun k => D140 r n bCt x0 k) (cRy r n)
theorem cUg : D140 r n aKa x0 r140 = (K3 (aQc r n) 0 1 5) :=
 (bKb r n).trans
 ((bSs r n).trans
 ((by kernel_rfl)))
theorem bGl : D140 r n aEd x0 r140 = D140 r n bCr x0 (K3 (aQc r n) 0 1 5) :=
 congrArg (fun k => D140 r n bCr x0 k) (cUg r n)
theorem cKh : D140 r n aEd x0 r140 = (K2 (aPu r n) 0 1) :=
 (bGl r n).trans
 ((by kernel_rfl))
theorem cOq : D140 r n c140 x0 r140 = D140 r n bEd x0 (K2 (aPu r n) 0 1) :=
 congrArg (fun k => D140 r n bEd x0 k) (cKh r n)
theorem dVc : D140 r n c140 x0 r140 = (K2 (s140 r n) 0 1) :=
 (cOq r n).trans
 ((by kernel_rfl))
theorem dCs : aF CF r n 140 args h = s140 r n (aS args 0) (aS args 1) h :=
 (by kernel_rfl : aF CF r n 140 args h = D140 r n c140 x0 r140 (aH args) h).trans ((congrFun (congrFun (dVc r n) (aH args)) h).trans (by kernel_rfl))
noncomputable def s141 (r : RT) (n : Nat) (x0 x1 x2 : DV) (h0 : Hp) : aG :=
 bnd (cH x2 h0) fun v1 h1 =>
 bnd (aK 6 v1 h1) fun v2 h2 =>
 bnd (r 158 [x0, x1, v2] h2) fun v3 h3 =>
 bnd (aC 0 v3 h3) fun v4 h4 =>
 bnd (aC 1 v3 h4) fun v5 h5 =>
 bnd (aD .neq v5 (aJ 0) h5) fun v6 h6 =>
 aT v6 (
 some (.t [(aJ 0), v5], h6)) (
 bnd (r 204 [x0, v4, (aJ 0)] h6) fun v7 h7 =>
 bnd (r 207 [x0, x1, v7, v4] h7) fun v8 h8 =>
 bnd (aD .neq v8 (aJ 0) h8) fun v9 h9 =>
 aT v9 (
 some (.t [(aJ 0), v8], h9)) (
 some (.t [v4, (aJ 0)], h9)))
noncomputable abbrev c141 : Code := cf Tryz.f141
noncomputable abbrev r141 : K := aO CF Tryz.f141
noncomputable def D141 (r : RT) (n : Nat) (c : Code) (X : Nat → K) (k : K) : K := aM CF r 32 n c X r141 k
theorem dMg : D141 r n c141 x0 r141 = (K3 (s141 r n) 0 1 2) :=
 (by kernel_rfl)
theorem cYa : aF CF r n 141 args h = s141 r n (aS args 0) (aS args 1) (aS args 2) h :=
 (by kernel_rfl : aF CF r n 141 args h = D141 r n c141 x0 r141 (aH args) h).trans ((congrFun (congrFun (dMg r n) (aH args)) h).trans (by kernel_rfl))
end Go.Dd

namespace Go.Dd
open Go.Proofs
variable (r : RT) (n : Nat) (args : List DV) (h : Hp)
noncomputable def s153 (r : RT) (n : Nat) (x0 x1 : DV) (h0 : Hp) : aG :=
 bnd (bQ tJ h0) fun v1 h1 =>
 bnd (r 218 [x0] h1) fun v2 h2 =>
 bnd (aC 0 v2 h2) fun v3 h3 =>
 bnd (aC 1 v2 h3) fun v4 h4 =>
 bnd (aC 2 v2 h4) fun v5 h5 =>
 bnd (aD .neq v5 (aJ 0) h5) fun v6 h6 =>
 aT v6 (
 bnd (bL tJ [] h6) fun v7 h7 =>
 bnd (aI 6 v1 v7 h7) fun _ h8 =>
 bnd (aK 6 v1 h8) fun v9 _ =>
 some (.t [v9, v4, v5], h8)) (
 bnd (bL [.l0, (aJ 0), (aJ 0), (aJ 0)] [(0, 1, v3)] h6) fun v10 h10 =>
 bnd (cH v10 h10) fun v11 h11 =>
 bnd (gX CF r x1 [v11] h11) fun v12 h12 =>
 bnd (bQ tJ h12) fun v13 h13 =>
 bnd (aI 6 v13 v12 h13) fun _ h14 =>
 bnd (r 219 [v11] h14) fun v15 h15 =>
 bnd (aB 4 v13 h15) fun v16 h16 =>
 bnd (aI 1 v16 v15 h16) fun _ h17 =>
 bnd (r 220 [v11] h17) fun v18 h18 =>
 bnd (aB 5 v13 h18) fun v19 h19 =>
 bnd (aI 1 v19 v18 h19) fun _ h20 =>
 bnd (r 221 [v11, (aJ 0), (.s [])] h20) fun v21 h21 =>
 bnd (aY v11 h21) fun v22 h22 =>
 bnd (aB 3 v22 h22) fun v23 h23 =>
 bnd (aA v23 h23) fun v24 h24 =>
 bnd (aD .neq v24 (aJ 0) h24) fun v25 h25 =>
 aT v25 (
 bnd (bL tJ [] h25) fun v26 h26 =>
 bnd (aY v11 h26) fun v27 h27 =>
 bnd (aB 2 v27 h27) fun v28 h28 =>
 bnd (aA v28 h28) fun v29 h29 =>
 bnd (aY v11 h29) fun v30 h30 =>
 bnd (aB 3 v30 h30) fun v31 h31 =>
 bnd (aA v31 h31) fun v32 h32 =>
 bnd (aI 6 v1 v26 h32) fun v33 h33 =>
 cnd (bB (aA v31 h33) v32 && (bB (aA v28 h33) v29 && true)) (
 bnd (aK 6 v1 h33) fun v34 _ =>
 some (.t [v34, v29, v32], h33))) (
 bnd (aK 6 v13 h25) fun v35 h35 =>
 bnd (aI 6 v1 v35 h35) fun _ h36 =>
 bnd (aK 6 v1 h36) fun v37 _ =>
 some (.t [v37, (aJ 0), (aJ 0)], h36)))
noncomputable abbrev c153 : Code := cf Tryz.f153
noncomputable abbrev r153 : K := aO CF Tryz.f153
noncomputable def D153 (r : RT) (n : Nat) (c : Code) (X : Nat → K) (k : K) : K := aM CF r 52 n c X r153 k
theorem dMz : D153 r n c153 x0 r153 = (K2 (s153 r n) 0 1) :=
 (by kernel_rfl)
theorem cYl : aF CF r n 153 args h = s153 r n (aS args 0) (aS args 1) h :=
 (by kernel_rfl : aF CF r n 153 args h = D153 r n c153 x0 r153 (aH args) h).trans ((congrFun (congrFun (dMz r n) (aH args)) h).trans (by kernel_rfl))
noncomputable def s158 (r : RT) (n : Nat) (x0 x1 x2 : DV) (h0 : Hp) : aG :=
 bnd (cH x2 h0) fun v1 h1 =>
 bnd (r 203 [x0, x1] h1) fun v2 h2 =>
 bnd (hZ .not v2 h2) fun v3 h3 =>
 aT v3 (
 some (.t [(aJ 0), (aJ 24)], h3)) (
 bnd (aK 6 v1 h3) fun v4 h4 =>
 bnd (r 217 [x0, x1] h4) fun v5 h5 =>
 cnd (bB (aK 6 v1 h5) v4 && true) (
 bnd (r 224 [v4, v5] h5) fun v6 h6 =>
 bnd (aD .neq v6 (aJ 0) h6) fun v7 h7 =>
 aT v7 (
 some (.t [(aJ 0), v6], h7)) (
 bnd (aB 0 v1 h7) fun v8 h8 =>
 bnd (aA v8 h8) fun v9 h9 =>
 bnd (r 81 [x0, v9] h9) fun v10 h10 =>
 bnd (aC 0 v10 h10) fun v11 h11 =>
 bnd (aC 1 v10 h11) fun v12 h12 =>
 bnd (aD .neq v12 (aJ 0) h12) fun v13 h13 =>
 aT v13 (
 some (.t [(aJ 0), v12], h13)) (
 bnd (aB 4 v1 h13) fun v14 h14 =>
 bnd (aA v14 h14) fun v15 h15 =>
 bnd (bL [(aJ 0), (.s []), (aJ 0), .l0] [(0, 1, (aJ 4)), (3, 1, v15)] h15) fun v16 h16 =>
 bnd (r 225 [x0, v16] h16) fun v17 h17 =>
 bnd (aC 0 v17 h17) fun v18 h18 =>
 bnd (aC 1 v17 h18) fun v19 h19 =>
 bnd (aD .neq v19 (aJ 0) h19) fun v20 h20 =>
 aT v20 (
 some (.t [(aJ 0), v19], h20)) (
 bnd (aB 5 v1 h20) fun v21 h21 =>
 bnd (aA v21 h21) fun v22 h22 =>
 bnd (r 226 [v22] h22) fun v23 h23 =>
 bnd (aC 0 v23 h23) fun v24 h24 =>
 bnd (aC 1 v23 h24) fun v25 h25 =>
 bnd (r 227 [x0, v24] h25) fun v26 h26 =>
 bnd (aC 0 v26 h26) fun v27 h27 =>
 bnd (aC 1 v26 h27) fun v28 h28 =>
 bnd (aD .neq v28 (aJ 0) h28) fun v29 h29 =>
 aT v29 (
 some (.t [(aJ 0), v28], h29)) (
 bnd (r 79 [x0, (aJ 14)] (resv 1 h29)) fun v30 h30 =>
 bnd (aB 1 v1 h30) fun v31 h31 =>
 bnd (aA v31 h31) fun v32 h32 =>
 cnd (bB (aA v31 (resv 1 h29)) v32 && true) (
 bnd (r 83 [v32] h32) fun v33 h33 =>
 bnd (aB 2 v1 h33) fun v34 h34 =>
 bnd (aA v34 h34) fun v35 h35 =>
 cnd (bB (aA v34 h30) v35 && (bB (aA v34 (resv 1 h29)) v35 && true)) (
 bnd (r 83 [v35] h35) fun v36 h36 =>
 bnd (aB 3 v1 h36) fun v37 h37 =>
 bnd (aA v37 h37) fun v38 h38 =>
 cnd (bB (aA v37 h33) v38 && (bB (aA v37 h30) v38 && (bB (aA v37 (resv 1 h29)) v38 && true))) (
 bnd (r 83 [v38] h38) fun v39 h39 =>
 bnd (bP (cB 0 h29.next) [(aJ 0), (aJ 0), (aJ 0), (aJ 0), (aJ 0), (aJ 0), (aJ 0)] 7 [(0, 1, v11), (1, 1, v33), (2, 1, v36), (3, 1, v39), (4, 1, v18), (5, 1, v27), (6, 1, x1)] h39) fun v40 h40 =>
 bnd (r 133 [x0, v30, (aJ 0), v40] h40) fun v41 h41 =>
 bnd (aC 0 v41 h41) fun v42 h42 =>
 bnd (aC 1 v41 h42) fun v43 h43 =>
 some (.t [v42, v43], h43))))))))))
noncomputable abbrev c158 : Code := cf Tryz.f158
noncomputable abbrev r158 : K := aO CF Tryz.f158
noncomputable def D158 (r : RT) (n : Nat) (c : Code) (X : Nat → K) (k : K) : K := aM CF r 83 n c X r158 k
theorem dMq : D158 r n c158 x0 r158 = (K3 (s158 r n) 0 1 2) :=
 (by kernel_rfl)
theorem dGc : aF CF r n 158 args h = s158 r n (aS args 0) (aS args 1) (aS args 2) h :=
 (by kernel_rfl : aF CF r n 158 args h = D158 r n c158 x0 r158 (aH args) h).trans ((congrFun (congrFun (dMq r n) (aH args)) h).trans (by kernel_rfl))
noncomputable def eT (r : RT) (n : Nat) (h0 : Hp) : aG :=
 some ((.i .i64 (Int.negSucc 0)), h0)
noncomputable def aZt (r : RT) (n : Nat) (kk4 : cU) (x0 x1 x7 x8 : DV) (h0 : Hp) : aG :=
 bnd (aD .lss x8 x7 h0) fun v1 h1 =>
 aT v1 (
 bnd (aE 1 x0 x8 h1) fun v2 h2 =>
 bnd (aA v2 h2) fun v3 h3 =>
 bnd (bW .eql x1 v3 h3) fun v4 h4 =>
 aT v4 (
 some (x8, h4)) (
 bnd (aD .add x8 (aJ 1) h4) fun v5 h5 =>
    kk4 x0 x1 x7 v5 h5)) (
      eT r n h1)
noncomputable def vF (r : RT) (n : Nat) (m : Nat) : cU :=
 Nat.rec (motive := fun _ => cU) (fun _ _ _ _ _ => none) (fun _ ih => aZt r n ih) m
noncomputable def bKs (r : RT) (n : Nat) : cU := vF r n n
noncomputable def aSr (r : RT) (n : Nat) (x0 x1 x7 x8 : DV) (h0 : Hp) : aG :=
 bKs r n x0 x1 x7 x8 h0
noncomputable def aRb (r : RT) (n : Nat) (x0 x1 : DV) (h0 : Hp) : aG :=
 bnd (bV x0 h0) fun v1 h1 =>
  aSr r n x0 x1 v1 (aJ 0) h1
noncomputable def s193 (r : RT) (n : Nat) (x0 x1 : DV) (h0 : Hp) : aG :=
 aRb r n x0 x1 h0
noncomputable abbrev c193 : Code := cf Tryz.f193
noncomputable abbrev aFh : Code := cR c193
noncomputable abbrev dLt : Code := cR aFh
noncomputable abbrev zE : Code := cL aFh
noncomputable abbrev aTa : Code := cR zE
noncomputable abbrev aEl : Code := cL aTa
noncomputable abbrev pK : Code := cL aEl
noncomputable abbrev bYu : Code := cL zE
noncomputable abbrev bNm : Code := cL c193
noncomputable abbrev r193 : K := aO CF Tryz.f193
noncomputable def D193 (r : RT) (n : Nat) (c : Code) (X : Nat → K) (k : K) : K := aM CF r 19 n c X r193 k
theorem cIe : D193 r n dLt x0 r193 = (K0 (eT r n)) :=
 (by kernel_rfl)
theorem bQj (kk4 : cU) : D193 r n pK (xs x0 0 (K0 (eT r n))) (K4 kk4 0 1 7 8) = (K4 (aZt r n kk4) 0 1 7 8) :=
 (by kernel_rfl)
theorem bXi (m : Nat) : aL (fun kk => D193 r n pK (xs x0 0 (K0 (eT r n))) kk) m = (K4 (vF r n m) 0 1 7 8) := by
 induction m with
 | zero => exact (by kernel_rfl : aL (fun kk => D193 r n pK (xs x0 0 (K0 (eT r n))) kk) 0 = (K4 (vF r n 0) 0 1 7 8))
 | succ m ih =>
  refine (by kernel_rfl : aL (fun kk => D193 r n pK (xs x0 0 (K0 (eT r n))) kk) (m + 1) = D193 r n pK (xs x0 0 (K0 (eT r n))) (aL (fun kk => D193 r n pK (xs x0 0 (K0 (eT r n))) kk) m)).trans ?_
  rw [ih]
  exact (bQj r n (vF r n m)).trans (by kernel_rfl)
theorem cJh : D193 r n aEl (xs x0 0 (K0 (eT r n))) (K0 (eT r n)) = (K4 (bKs r n) 0 1 7 8) :=
 (by kernel_rfl : D193 r n aEl (xs x0 0 (K0 (eT r n))) (K0 (eT r n)) = aL (fun kk => D193 r n pK (xs x0 0 (K0 (eT r n))) kk) n).trans ((bXi r n n).trans (by kernel_rfl))
theorem cRk : D193 r n aTa x0 (K0 (eT r n)) = (K4 (aSr r n) 0 1 7 8) :=
 (by kernel_rfl : D193 r n aTa x0 (K0 (eT r n)) = D193 r n aEl (xs x0 0 (K0 (eT r n))) (K0 (eT r n))).trans
 ((cJh r n).trans (by kernel_rfl))
theorem bOu : D193 r n aFh x0 r193 = D193 r n zE x0 (K0 (eT r n)) :=
 congrArg (fun k => D193 r n zE x0 k) (cIe r n)
theorem cAr : D193 r n zE x0 (K0 (eT r n)) = D193 r n bYu x0 (K4 (aSr r n) 0 1 7 8) :=
 congrArg (fun k => D193 r n bYu x0 k) (cRk r n)
theorem cQn : D193 r n aFh x0 r193 = (K2 (aRb r n) 0 1) :=
 (bOu r n).trans
 ((cAr r n).trans
 ((by kernel_rfl)))
theorem dGs : D193 r n c193 x0 r193 = D193 r n bNm x0 (K2 (aRb r n) 0 1) :=
 congrArg (fun k => D193 r n bNm x0 k) (cQn r n)
theorem dWc : D193 r n c193 x0 r193 = (K2 (s193 r n) 0 1) :=
 (dGs r n).trans
 ((by kernel_rfl))
theorem dAn : aF CF r n 193 args h = s193 r n (aS args 0) (aS args 1) h :=
 (by kernel_rfl : aF CF r n 193 args h = D193 r n c193 x0 r193 (aH args) h).trans ((congrFun (congrFun (dWc r n) (aH args)) h).trans (by kernel_rfl))
noncomputable def eU (r : RT) (n : Nat) (h0 : Hp) : aG :=
 some ((.i .i64 (Int.negSucc 0)), h0)
noncomputable def bBt (r : RT) (n : Nat) (kk4 : cU) (x0 x1 x7 x8 : DV) (h0 : Hp) : aG :=
 bnd (aD .lss x8 x7 h0) fun v1 h1 =>
 aT v1 (
 bnd (aE 1 x0 x8 h1) fun v2 h2 =>
 bnd (aA v2 h2) fun v3 h3 =>
 bnd (gX CF r x1 [v3] h3) fun v4 h4 =>
 aT v4 (
 some (x8, h4)) (
 bnd (aD .add x8 (aJ 1) h4) fun v5 h5 =>
    kk4 x0 x1 x7 v5 h5)) (
      eU r n h1)
noncomputable def vP (r : RT) (n : Nat) (m : Nat) : cU :=
 Nat.rec (motive := fun _ => cU) (fun _ _ _ _ _ => none) (fun _ ih => bBt r n ih) m
noncomputable def cBu (r : RT) (n : Nat) : cU := vP r n n
noncomputable def aPv (r : RT) (n : Nat) (x0 x1 x7 x8 : DV) (h0 : Hp) : aG :=
 cBu r n x0 x1 x7 x8 h0
noncomputable def aTo (r : RT) (n : Nat) (x0 x1 : DV) (h0 : Hp) : aG :=
 bnd (bV x0 h0) fun v1 h1 =>
  aPv r n x0 x1 v1 (aJ 0) h1
noncomputable def s199 (r : RT) (n : Nat) (x0 x1 : DV) (h0 : Hp) : aG :=
 aTo r n x0 x1 h0
noncomputable abbrev c199 : Code := cf Tryz.f199
noncomputable abbrev aIs : Code := cR c199
noncomputable abbrev dLl : Code := cR aIs
noncomputable abbrev xM : Code := cL aIs
noncomputable abbrev aUw : Code := cR xM
noncomputable abbrev aEo : Code := cL aUw
noncomputable abbrev pD : Code := cL aEo
noncomputable abbrev bYk : Code := cL xM
noncomputable abbrev cBq : Code := cL c199
noncomputable abbrev r199 : K := aO CF Tryz.f199
noncomputable def D199 (r : RT) (n : Nat) (c : Code) (X : Nat → K) (k : K) : K := aM CF r 19 n c X r199 k
theorem cHh : D199 r n dLl x0 r199 = (K0 (eU r n)) :=
 (by kernel_rfl)
theorem cEj (kk4 : cU) : D199 r n pD (xs x0 0 (K0 (eU r n))) (K4 kk4 0 1 7 8) = (K4 (bBt r n kk4) 0 1 7 8) :=
 (by kernel_rfl)
theorem bMn (m : Nat) : aL (fun kk => D199 r n pD (xs x0 0 (K0 (eU r n))) kk) m = (K4 (vP r n m) 0 1 7 8) := by
 induction m with
 | zero => exact (by kernel_rfl : aL (fun kk => D199 r n pD (xs x0 0 (K0 (eU r n))) kk) 0 = (K4 (vP r n 0) 0 1 7 8))
 | succ m ih =>
  refine (by kernel_rfl : aL (fun kk => D199 r n pD (xs x0 0 (K0 (eU r n))) kk) (m + 1) = D199 r n pD (xs x0 0 (K0 (eU r n))) (aL (fun kk => D199 r n pD (xs x0 0 (K0 (eU r n))) kk) m)).trans ?_
  rw [ih]
  exact (cEj r n (vP r n m)).trans (by kernel_rfl)
theorem cRp : D199 r n aEo (xs x0 0 (K0 (eU r n))) (K0 (eU r n)) = (K4 (cBu r n) 0 1 7 8) :=
 (by kernel_rfl : D199 r n aEo (xs x0 0 (K0 (eU r n))) (K0 (eU r n)) = aL (fun kk => D199 r n pD (xs x0 0 (K0 (eU r n))) kk) n).trans ((bMn r n n).trans (by kernel_rfl))
theorem cPp : D199 r n aUw x0 (K0 (eU r n)) = (K4 (aPv r n) 0 1 7 8) :=
 (by kernel_rfl : D199 r n aUw x0 (K0 (eU r n)) = D199 r n aEo (xs x0 0 (K0 (eU r n))) (K0 (eU r n))).trans
 ((cRp r n).trans (by kernel_rfl))
theorem bXw : D199 r n aIs x0 r199 = D199 r n xM x0 (K0 (eU r n)) :=
 congrArg (fun k => D199 r n xM x0 k) (cHh r n)
theorem bMu : D199 r n xM x0 (K0 (eU r n)) = D199 r n bYk x0 (K4 (aPv r n) 0 1 7 8) :=
 congrArg (fun k => D199 r n bYk x0 k) (cPp r n)
theorem cSb : D199 r n aIs x0 r199 = (K2 (aTo r n) 0 1) :=
 (bXw r n).trans
 ((bMu r n).trans
 ((by kernel_rfl)))
theorem dKm : D199 r n c199 x0 r199 = D199 r n cBq x0 (K2 (aTo r n) 0 1) :=
 congrArg (fun k => D199 r n cBq x0 k) (cSb r n)
theorem dMr : D199 r n c199 x0 r199 = (K2 (s199 r n) 0 1) :=
 (dKm r n).trans
 ((by kernel_rfl))
theorem dAs : aF CF r n 199 args h = s199 r n (aS args 0) (aS args 1) h :=
 (by kernel_rfl : aF CF r n 199 args h = D199 r n c199 x0 r199 (aH args) h).trans ((congrFun (congrFun (dMr r n) (aH args)) h).trans (by kernel_rfl))
noncomputable def s202 (r : RT) (n : Nat) (x0 : DV) (h0 : Hp) : aG :=
 bnd (bQ tJ h0) fun v1 h1 =>
 bnd (bL tJ [(0, 1, (aJ 11))] h1) fun v2 h2 =>
 bnd (bQ tJ h2) fun v3 h3 =>
 bnd (aI 6 v3 v2 h3) fun _ h4 =>
 bnd (r 274 [x0, v3] h4) fun v5 h5 =>
 bnd (r 275 [x0] h5) fun v6 h6 =>
 bnd (aB 2 v3 h6) fun v7 h7 =>
 bnd (aI 1 v7 v6 h7) fun _ h8 =>
 bnd (aK 6 v3 h8) fun v9 h9 =>
 bnd (aI 6 v1 v9 h9) fun _ h10 =>
 bnd (aK 6 v1 h10) fun v11 _ =>
 some (v11, h10)
noncomputable abbrev c202 : Code := cf Tryz.f202
noncomputable abbrev r202 : K := aO CF Tryz.f202
noncomputable def D202 (r : RT) (n : Nat) (c : Code) (X : Nat → K) (k : K) : K := aM CF r 11 n c X r202 k
theorem dWb : D202 r n c202 x0 r202 = (K1 (s202 r n) 0) :=
 (by kernel_rfl)
theorem cZo : aF CF r n 202 args h = s202 r n (aS args 0) h :=
 (by kernel_rfl : aF CF r n 202 args h = D202 r n c202 x0 r202 (aH args) h).trans ((congrFun (congrFun (dWb r n) (aH args)) h).trans (by kernel_rfl))
noncomputable def s203 (r : RT) (n : Nat) (x0 x1 : DV) (h0 : Hp) : aG :=
 bnd (aY x0 h0) fun v1 h1 =>
 bnd (aB 0 v1 h1) fun v2 h2 =>
 bnd (aA v2 h2) fun v3 h3 =>
 bnd (isF [v3, x1] h3) fun v4 h4 =>
 bnd (gD v4 true (some (x0, h4)) h4) fun v5 h5 =>
 bnd (gD v4 true (aY v5 h5) h5) fun v6 h6 =>
 bnd (gD v4 true (aB 0 v6 h6) h6) fun v7 h7 =>
 bnd (gD v4 true (aA v7 h7) h7) fun v8 h8 =>
 bnd (gD v4 true (some (x1, h8)) h8) fun v9 h9 =>
 bnd (gD v4 true (rN [v8, v9] h9) h9) fun v10 h10 =>
 bnd (gD v4 true (some (x0, h10)) h10) fun v11 h11 =>
 bnd (gD v4 true (r 79 [v11, (aJ 1)] h11) h11) fun v12 h12 =>
 bnd (gD v4 true (aD .eql v10 v12 h12) h12) fun v13 h13 =>
 bnd (aN v4 v13 (.b false) h13) fun v14 h14 =>
 bnd (gD v14 true (some (x0, h14)) h14) fun v15 h15 =>
 bnd (gD v14 true (aY v15 h15) h15) fun v16 h16 =>
 bnd (gD v14 true (aB 0 v16 h16) h16) fun v17 h17 =>
 bnd (gD v14 true (aA v17 h17) h17) fun v18 h18 =>
 bnd (gD v14 true (some (x1, h18)) h18) fun v19 h19 =>
 bnd (gD v14 true (nG [v18, v19] h19) h19) fun v20 h20 =>
 bnd (gD v14 true (aD .eql v20 (aJ 6) h20) h20) fun v21 h21 =>
 bnd (aN v14 v21 (.b false) h21) fun v22 h22 =>
 some (v22, h22)
noncomputable abbrev c203 : Code := cf Tryz.f203
noncomputable abbrev r203 : K := aO CF Tryz.f203
noncomputable def D203 (r : RT) (n : Nat) (c : Code) (X : Nat → K) (k : K) : K := aM CF r 31 n c X r203 k
theorem dTq : D203 r n c203 x0 r203 = (K2 (s203 r n) 0 1) :=
 (by kernel_rfl)
theorem dEf : aF CF r n 203 args h = s203 r n (aS args 0) (aS args 1) h :=
 (by kernel_rfl : aF CF r n 203 args h = D203 r n c203 x0 r203 (aH args) h).trans ((congrFun (congrFun (dTq r n) (aH args)) h).trans (by kernel_rfl))
noncomputable def s204 (r : RT) (n : Nat) (x0 x1 x2 : DV) (h0 : Hp) : aG :=
 bnd (aY x0 h0) fun v1 h1 =>
 bnd (aB 0 v1 h1) fun v2 h2 =>
 bnd (aA v2 h2) fun v3 h3 =>
 bnd (cCn [v3, x1, x2] h3) fun v4 h4 =>
 bnd (aC 0 v4 h4) fun v5 h5 =>
 bnd (aC 1 v4 h5) fun v6 h6 =>
 some (v5, h6)
noncomputable abbrev c204 : Code := cf Tryz.f204
noncomputable abbrev r204 : K := aO CF Tryz.f204
noncomputable def D204 (r : RT) (n : Nat) (c : Code) (X : Nat → K) (k : K) : K := aM CF r 20 n c X r204 k
theorem dVl : D204 r n c204 x0 r204 = (K3 (s204 r n) 0 1 2) :=
 (by kernel_rfl)
theorem dJg : aF CF r n 204 args h = s204 r n (aS args 0) (aS args 1) (aS args 2) h :=
 (by kernel_rfl : aF CF r n 204 args h = D204 r n c204 x0 r204 (aH args) h).trans ((congrFun (congrFun (dVl r n) (aH args)) h).trans (by kernel_rfl))
noncomputable def s206 (r : RT) (n : Nat) (x0 x1 : DV) (h0 : Hp) : aG :=
 bnd (r 203 [x0, x1] h0) fun v1 h1 =>
 bnd (hZ .not v1 h1) fun v2 h2 =>
 aT v2 (
 some ((aJ 0), h2)) (
 bnd (r 204 [x0, x1, (aJ 1)] h2) fun v3 h3 =>
 some (v3, h3))
noncomputable abbrev c206 : Code := cf Tryz.f206
noncomputable abbrev r206 : K := aO CF Tryz.f206
noncomputable def D206 (r : RT) (n : Nat) (c : Code) (X : Nat → K) (k : K) : K := aM CF r 12 n c X r206 k
theorem dQc : D206 r n c206 x0 r206 = (K2 (s206 r n) 0 1) :=
 (by kernel_rfl)
theorem dHo : aF CF r n 206 args h = s206 r n (aS args 0) (aS args 1) h :=
 (by kernel_rfl : aF CF r n 206 args h = D206 r n c206 x0 r206 (aH args) h).trans ((congrFun (congrFun (dQc r n) (aH args)) h).trans (by kernel_rfl))
noncomputable def eR (r : RT) (n : Nat) (x0 x1 x3 : DV) (h0 : Hp) : aG :=
 bnd (r 204 [x0, x1, (aJ 4)] h0) fun v1 h1 =>
 bnd (r 85 [x0, x3, v1] h1) fun v2 h2 =>
 bnd (aC 0 v2 h2) fun v3 h3 =>
 bnd (aC 1 v2 h3) fun v4 h4 =>
 bnd (aD .neq v4 (aJ 0) h4) fun v5 h5 =>
 aT v5 (
 some (v4, h5)) (
 bnd (aY x0 h5) fun v6 h6 =>
 bnd (aB 0 v6 h6) fun v7 h7 =>
 bnd (aA v7 h7) fun v8 h8 =>
 bnd (aOj [v8, x1, (aJ 4), v3] h8) fun v9 h9 =>
 some (v9, h9))
noncomputable def bBm (r : RT) (n : Nat) (kk5 : gJ) (x0 x1 x2 x3 x9 x10 : DV) (h0 : Hp) : aG :=
 bnd (aD .gtr x10 (aJ 0) h0) fun v1 h1 =>
 bnd (gD v1 true (some (x0, h1)) h1) fun v2 h2 =>
 bnd (gD v1 true (aY v2 h2) h2) fun v3 h3 =>
 bnd (gD v1 true (aB 0 v3 h3) h3) fun v4 h4 =>
 bnd (gD v1 true (aA v4 h4) h4) fun v5 h5 =>
 bnd (gD v1 true (some (x9, h5)) h5) fun v6 h6 =>
 bnd (gD v1 true (isF [v5, v6] h6) h6) fun v7 h7 =>
 bnd (aN v1 v7 (.b false) h7) fun v8 h8 =>
 aT v8 (
 bnd (r 204 [x0, x9, (aJ 0)] h8) fun v9 h9 =>
 bnd (r 204 [x0, v9, (aJ 0)] h9) fun v10 h10 =>
 bnd (aD .eql v10 x2 h10) fun v11 h11 =>
 aT v11 (
 bnd (aY x0 h11) fun v12 h12 =>
 bnd (aB 0 v12 h12) fun v13 h13 =>
 bnd (aA v13 h13) fun v14 h14 =>
 bnd (aOj [v14, x9, (aJ 0), x3] h14) fun v15 h15 =>
 some (v15, h15)) (
 bnd (r 204 [x0, x9, (aJ 1)] h11) fun v16 h16 =>
 bnd (aD .sub x10 (aJ 1) h16) fun v17 h17 =>
    kk5 x0 x1 x2 x3 v16 v17 h17)) (
      eR r n x0 x1 x3 h8)
noncomputable def tW (r : RT) (n : Nat) (m : Nat) : gJ :=
 Nat.rec (motive := fun _ => gJ) (fun _ _ _ _ _ _ _ => none) (fun _ ih => bBm r n ih) m
noncomputable def bNg (r : RT) (n : Nat) : gJ := tW r n n
noncomputable def aSk (r : RT) (n : Nat) (x0 x1 x2 x3 x9 x10 : DV) (h0 : Hp) : aG :=
 bNg r n x0 x1 x2 x3 x9 x10 h0
noncomputable def aVb (r : RT) (n : Nat) (x0 x1 x2 x3 x9 : DV) (h0 : Hp) : aG :=
 bnd (aY x0 h0) fun v1 h1 =>
 bnd (aB 0 v1 h1) fun v2 h2 =>
 bnd (aA v2 h2) fun v3 h3 =>
 bnd (aCa [v3] h3) fun v4 h4 =>
  aSk r n x0 x1 x2 x3 x9 v4 h4
noncomputable def aQv (r : RT) (n : Nat) (x0 x1 x2 x3 : DV) (h0 : Hp) : aG :=
 bnd (r 204 [x0, x1, (aJ 4)] h0) fun v1 h1 =>
  aVb r n x0 x1 x2 x3 v1 h1
noncomputable def s207 (r : RT) (n : Nat) (x0 x1 x2 x3 : DV) (h0 : Hp) : aG :=
 aQv r n x0 x1 x2 x3 h0
noncomputable abbrev c207 : Code := cf Tryz.f207
noncomputable abbrev aJq : Code := cR c207
noncomputable abbrev aJb : Code := cR aJq
noncomputable abbrev dEb : Code := cR aJb
noncomputable abbrev aAi : Code := cL aJb
noncomputable abbrev aSu : Code := cR aAi
noncomputable abbrev aEe : Code := cL aSu
noncomputable abbrev pM : Code := cL aEe
noncomputable abbrev cBm : Code := cL aAi
noncomputable abbrev cBl : Code := cL aJq
noncomputable abbrev bBa : Code := cL c207
noncomputable abbrev r207 : K := aO CF Tryz.f207
noncomputable def D207 (r : RT) (n : Nat) (c : Code) (X : Nat → K) (k : K) : K := aM CF r 69 n c X r207 k
theorem cIi : D207 r n dEb x0 r207 = (K3 (eR r n) 0 1 3) :=
 (by kernel_rfl)
theorem bXd (kk5 : gJ) : D207 r n pM (xs x0 0 (K3 (eR r n) 0 1 3)) (K6 kk5 0 1 2 3 9 10) = (K6 (bBm r n kk5) 0 1 2 3 9 10) :=
 (by kernel_rfl)
theorem bYv (m : Nat) : aL (fun kk => D207 r n pM (xs x0 0 (K3 (eR r n) 0 1 3)) kk) m = (K6 (tW r n m) 0 1 2 3 9 10) := by
 induction m with
 | zero => exact (by kernel_rfl : aL (fun kk => D207 r n pM (xs x0 0 (K3 (eR r n) 0 1 3)) kk) 0 = (K6 (tW r n 0) 0 1 2 3 9 10))
 | succ m ih =>
  refine (by kernel_rfl : aL (fun kk => D207 r n pM (xs x0 0 (K3 (eR r n) 0 1 3)) kk) (m + 1) = D207 r n pM (xs x0 0 (K3 (eR r n) 0 1 3)) (aL (fun kk => D207 r n pM (xs x0 0 (K3 (eR r n) 0 1 3)) kk) m)).trans ?_
  rw [ih]
  exact (bXd r n (tW r n m)).trans (by kernel_rfl)
theorem cHx : D207 r n aEe (xs x0 0 (K3 (eR r n) 0 1 3)) (K3 (eR r n) 0 1 3) = (K6 (bNg r n) 0 1 2 3 9 10) :=
 (by kernel_rfl : D207 r n aEe (xs x0 0 (K3 (eR r n) 0 1 3)) (K3 (eR r n) 0 1 3) = aL (fun kk => D207 r n pM (xs x0 0 (K3 (eR r n) 0 1 3)) kk) n).trans ((bYv r n n).trans (by kernel_rfl))
theorem cTj : D207 r n aSu x0 (K3 (eR r n) 0 1 3) = (K6 (aSk r n) 0 1 2 3 9 10) :=
 (by kernel_rfl : D207 r n aSu x0 (K3 (eR r n) 0 1 3) = D207 r n aEe (xs x0 0 (K3 (eR r n) 0 1 3)) (K3 (eR r n) 0 1 3)).trans
 ((cHx r n).trans (by kernel_rfl))
theorem bTr : D207 r n aJb x0 r207 = D207 r n aAi x0 (K3 (eR r n) 0 1 3) :=
 congrArg (fun k => D207 r n aAi x0 k) (cIi r n)
theorem bMm : D207 r n aAi x0 (K3 (eR r n) 0 1 3) = D207 r n cBm x0 (K6 (aSk r n) 0 1 2 3 9 10) :=
 congrArg (fun k => D207 r n cBm x0 k) (cTj r n)
theorem cSy : D207 r n aJb x0 r207 = (K5 (aVb r n) 0 1 2 3 9) :=
 (bTr r n).trans
 ((bMm r n).trans
 ((by kernel_rfl)))
theorem bPi : D207 r n aJq x0 r207 = D207 r n cBl x0 (K5 (aVb r n) 0 1 2 3 9) :=
 congrArg (fun k => D207 r n cBl x0 k) (cSy r n)
theorem cKo : D207 r n aJq x0 r207 = (K4 (aQv r n) 0 1 2 3) :=
 (bPi r n).trans
 ((by kernel_rfl))
theorem cYm : D207 r n c207 x0 r207 = D207 r n bBa x0 (K4 (aQv r n) 0 1 2 3) :=
 congrArg (fun k => D207 r n bBa x0 k) (cKo r n)
theorem dQu : D207 r n c207 x0 r207 = (K4 (s207 r n) 0 1 2 3) :=
 (cYm r n).trans
 ((by kernel_rfl))
theorem dLm : aF CF r n 207 args h = s207 r n (aS args 0) (aS args 1) (aS args 2) (aS args 3) h :=
 (by kernel_rfl : aF CF r n 207 args h = D207 r n c207 x0 r207 (aH args) h).trans ((congrFun (congrFun (dQu r n) (aH args)) h).trans (by kernel_rfl))
end Go.Dd

namespace Go.Dd
open Go.Proofs
variable (r : RT) (n : Nat) (args : List DV) (h : Hp)
noncomputable def s217 (r : RT) (n : Nat) (x0 x1 : DV) (h0 : Hp) : aG :=
 bnd (r 203 [x0, x1] h0) fun v1 h1 =>
 bnd (hZ .not v1 h1) fun v2 h2 =>
 aT v2 (
 some ((aJ 0), h2)) (
 bnd (r 204 [x0, x1, (aJ 2)] h2) fun v3 h3 =>
 bnd (oN [v3] h3) fun v4 h4 =>
 some (v4, h4))
noncomputable abbrev c217 : Code := cf Tryz.f217
noncomputable abbrev r217 : K := aO CF Tryz.f217
noncomputable def D217 (r : RT) (n : Nat) (c : Code) (X : Nat → K) (k : K) : K := aM CF r 13 n c X r217 k
theorem dMn : D217 r n c217 x0 r217 = (K2 (s217 r n) 0 1) :=
 (by kernel_rfl)
theorem dHi : aF CF r n 217 args h = s217 r n (aS args 0) (aS args 1) h :=
 (by kernel_rfl : aF CF r n 217 args h = D217 r n c217 x0 r217 (aH args) h).trans ((congrFun (congrFun (dMn r n) (aH args)) h).trans (by kernel_rfl))
noncomputable def eX (r : RT) (n : Nat) (x0 x6 : DV) (h0 : Hp) : aG :=
 bnd (cJ x0 h0) fun v1 h1 =>
 bnd (bL [(aJ 0), (.s []), (aJ 0), (aJ 0)] [(3, 1, v1)] h1) fun v2 h2 =>
 bnd (aP [(aJ 0), (.s []), (aJ 0), (aJ 0)] 1 [(0, 4, v2)] h2) fun v3 h3 =>
 bnd (bF 4 40 x6 v3 h3) fun v4 h4 =>
 some (.t [v4, (aJ 0), (aJ 0)], h4)
noncomputable def aKx (r : RT) (n : Nat) (kk7 : fG) (x0 x5 x6 : DV) (h0 : Hp) : aG :=
 bnd (r 287 [(.s [9, 10, 13, 32])] h0) fun v1 h1 =>
 bnd (cJ x0 h1) fun v2 h2 =>
 bnd (r 286 [x5, v1, v2] h2) fun v3 h3 =>
 bnd (aY x5 h3) fun v4 h4 =>
 bnd (aB 1 v4 h4) fun v5 h5 =>
 bnd (aA v5 h5) fun v6 h6 =>
 bnd (cJ x0 h6) fun v7 h7 =>
 bnd (aD .geq v6 v7 h7) fun v8 h8 =>
 aT v8 (
   eX r n x0 x6 h8) (
 bnd (aY x5 h8) fun v9 h9 =>
 bnd (aB 1 v9 h9) fun v10 h10 =>
 bnd (aA v10 h10) fun v11 h11 =>
 bnd (bY x0 v11 h11) fun v12 h12 =>
 bnd (aD .eql v12 (.i .u8 (Int.ofNat 34)) h12) fun v13 h13 =>
 aT v13 (
 bnd (aY x5 h13) fun v14 h14 =>
 bnd (aB 1 v14 h14) fun v15 h15 =>
 bnd (aA v15 h15) fun v16 h16 =>
 bnd (aD .add v16 (aJ 1) h16) fun v17 h17 =>
 bnd (cP x0 (some v17) none h17) fun v18 h18 =>
 bnd (r 30 [v18, (.i .u8 (Int.ofNat 34))] h18) fun v19 h19 =>
 bnd (aD .lss v19 (aJ 0) h19) fun v20 h20 =>
 aT v20 (
 bnd (aY x5 h20) fun v21 h21 =>
 bnd (aB 1 v21 h21) fun v22 h22 =>
 bnd (aA v22 h22) fun v23 h23 =>
 some (.t [.l0, v23, (aJ 11)], h23)) (
 bnd (aY x5 h20) fun v24 h24 =>
 bnd (aB 1 v24 h24) fun v25 h25 =>
 bnd (aA v25 h25) fun v26 h26 =>
 bnd (aD .add v19 (aJ 2) h26) fun v27 h27 =>
 bnd (aD .add v26 v27 h27) fun v28 h28 =>
 bnd (aY x5 h28) fun v29 h29 =>
 bnd (aB 1 v29 h29) fun v30 h30 =>
 bnd (aI 1 v30 v28 h30) fun _ h31 =>
     kk7 x0 x5 x6 h31)) (
 bnd (r 288 [x5] h13) fun v32 h32 =>
 bnd (aC 0 v32 h32) fun v33 h33 =>
 bnd (aC 1 v32 h33) fun v34 h34 =>
 bnd (bQ [(aJ 0), (.s []), (aJ 0), (aJ 0)] h34) fun v35 h35 =>
 bnd (aI 4 v35 v33 h35) fun _ h36 =>
 bnd (aD .neq v34 (aJ 0) h36) fun v37 h37 =>
 aT v37 (
 bnd (aB 3 v35 h37) fun v38 h38 =>
 bnd (aA v38 h38) fun v39 h39 =>
 some (.t [.l0, v39, v34], h39)) (
 bnd (aK 4 v35 h37) fun v40 h40 =>
 bnd (aP [(aJ 0), (.s []), (aJ 0), (aJ 0)] 1 [(0, 4, v40)] h40) fun v41 h41 =>
 bnd (bF 4 40 x6 v41 h41) fun v42 h42 =>
     kk7 x0 x5 v42 h42)))
noncomputable def tX (r : RT) (n : Nat) (m : Nat) : fG :=
 Nat.rec (motive := fun _ => fG) (fun _ _ _ _ => none) (fun _ ih => aKx r n ih) m
noncomputable def bWa (r : RT) (n : Nat) : fG := tX r n n
noncomputable def aOo (r : RT) (n : Nat) (x0 x5 x6 : DV) (h0 : Hp) : aG :=
 bWa r n x0 x5 x6 h0
noncomputable def aQf (r : RT) (n : Nat) (x0 x5 x6 : DV) (h0 : Hp) : aG :=
 aOo r n x0 x5 x6 h0
noncomputable def zN (r : RT) (n : Nat) (x0 x5 : DV) (h0 : Hp) : aG :=
 aQf r n x0 x5 .l0 h0
noncomputable def aLi (r : RT) (n : Nat) (x0 : DV) (h0 : Hp) : aG :=
 bnd (bL [(.s []), (aJ 0)] [(0, 1, x0)] h0) fun v1 h1 =>
 bnd (cH v1 h1) fun v2 h2 =>
  zN r n x0 v2 h2
noncomputable def aUz (r : RT) (n : Nat) (x0 : DV) (h0 : Hp) : aG :=
 bnd (cJ x0 h0) fun v1 h1 =>
 bnd (aD .gtr v1 (aJ 2000) h1) fun v2 h2 =>
 aT v2 (
 some (.t [.l0, (aJ 0), (aJ 12)], h2)) (
  aLi r n x0 h2)
noncomputable def s218 (r : RT) (n : Nat) (x0 : DV) (h0 : Hp) : aG :=
 aUz r n x0 h0
noncomputable abbrev c218 : Code := cf Tryz.f218
noncomputable abbrev aVj : Code := cR c218
noncomputable abbrev aDs : Code := cL aVj
noncomputable abbrev aIq : Code := cR aDs
noncomputable abbrev aDh : Code := cR aIq
noncomputable abbrev aFc : Code := cR aDh
noncomputable abbrev aEn : Code := cR aFc
noncomputable abbrev dBa : Code := cR aEn
noncomputable abbrev aIf : Code := cL aEn
noncomputable abbrev aCp : Code := cL aIf
noncomputable abbrev kA : Code := cL aCp
noncomputable abbrev aXk : Code := cL aFc
noncomputable abbrev bBh : Code := cL aDh
noncomputable abbrev aHk : Code := cL aIq
noncomputable abbrev bAh : Code := cL aDs
noncomputable abbrev aWm : Code := cL c218
noncomputable abbrev r218 : K := aO CF Tryz.f218
noncomputable def D218 (r : RT) (n : Nat) (c : Code) (X : Nat → K) (k : K) : K := aM CF r 80 n c X r218 k
theorem cTn : D218 r n dBa x0 r218 = (K2 (eX r n) 0 6) :=
 (by kernel_rfl)
theorem bXz (kk7 : fG) (q0 : pR) : D218 r n kA (xs x0 0 (K2 q0 0 6)) (K3 kk7 0 5 6) = fun (env : aZ) (h : Hp) =>
 bnd (r 287 [(.s [9, 10, 13, 32])] h) fun v1 h1 =>
 bnd (cJ (env 0) h1) fun v2 h2 =>
 bnd (r 286 [(env 5), v1, v2] h2) fun v3 h3 =>
 bnd (aY (env 5) h3) fun v4 h4 =>
 bnd (aB 1 v4 h4) fun v5 h5 =>
 bnd (aA v5 h5) fun v6 h6 =>
 bnd (cJ (env 0) h6) fun v7 h7 =>
 bnd (aD .geq v6 v7 h7) fun v8 h8 =>
 aT v8 (
   q0 (env 0) (env 6) h8) (
 bnd (aY (env 5) h8) fun v9 h9 =>
 bnd (aB 1 v9 h9) fun v10 h10 =>
 bnd (aA v10 h10) fun v11 h11 =>
 bnd (bY (env 0) v11 h11) fun v12 h12 =>
 bnd (aD .eql v12 (.i .u8 (Int.ofNat 34)) h12) fun v13 h13 =>
 aT v13 (
 bnd (aY (env 5) h13) fun v14 h14 =>
 bnd (aB 1 v14 h14) fun v15 h15 =>
 bnd (aA v15 h15) fun v16 h16 =>
 bnd (aD .add v16 (aJ 1) h16) fun v17 h17 =>
 bnd (cP (env 0) (some v17) none h17) fun v18 h18 =>
 bnd (r 30 [v18, (.i .u8 (Int.ofNat 34))] h18) fun v19 h19 =>
 bnd (aD .lss v19 (aJ 0) h19) fun v20 h20 =>
 aT v20 (
 bnd (aY (env 5) h20) fun v21 h21 =>
 bnd (aB 1 v21 h21) fun v22 h22 =>
 bnd (aA v22 h22) fun v23 h23 =>
 some (.t [.l0, v23, (aJ 11)], h23)) (
 bnd (aY (env 5) h20) fun v24 h24 =>
 bnd (aB 1 v24 h24) fun v25 h25 =>
 bnd (aA v25 h25) fun v26 h26 =>
 bnd (aD .add v19 (aJ 2) h26) fun v27 h27 =>
 bnd (aD .add v26 v27 h27) fun v28 h28 =>
 bnd (aY (env 5) h28) fun v29 h29 =>
 bnd (aB 1 v29 h29) fun v30 h30 =>
 bnd (aI 1 v30 v28 h30) fun _ h31 =>
     kk7 (env 0) (env 5) (env 6) h31)) (
 bnd (r 288 [(env 5)] h13) fun v32 h32 =>
 bnd (aC 0 v32 h32) fun v33 h33 =>
 bnd (aC 1 v32 h33) fun v34 h34 =>
 bnd (bQ [(aJ 0), (.s []), (aJ 0), (aJ 0)] h34) fun v35 h35 =>
 bnd (aI 4 v35 v33 h35) fun _ h36 =>
 bnd (aD .neq v34 (aJ 0) h36) fun v37 h37 =>
 aT v37 (
 bnd (aB 3 v35 h37) fun v38 h38 =>
 bnd (aA v38 h38) fun v39 h39 =>
 some (.t [.l0, v39, v34], h39)) (
 bnd (aK 4 v35 h37) fun v40 h40 =>
 bnd (aP [(aJ 0), (.s []), (aJ 0), (aJ 0)] 1 [(0, 4, v40)] h40) fun v41 h41 =>
 bnd (bF 4 40 (env 6) v41 h41) fun v42 h42 =>
     kk7 (env 0) (env 5) v42 h42))) := by kernel_rfl
theorem bIr (kk7 : fG) : (fun (env : aZ) (h : Hp) =>
 bnd (r 287 [(.s [9, 10, 13, 32])] h) fun v1 h1 =>
 bnd (cJ (env 0) h1) fun v2 h2 =>
 bnd (r 286 [(env 5), v1, v2] h2) fun v3 h3 =>
 bnd (aY (env 5) h3) fun v4 h4 =>
 bnd (aB 1 v4 h4) fun v5 h5 =>
 bnd (aA v5 h5) fun v6 h6 =>
 bnd (cJ (env 0) h6) fun v7 h7 =>
 bnd (aD .geq v6 v7 h7) fun v8 h8 =>
 aT v8 (
   eX r n (env 0) (env 6) h8) (
 bnd (aY (env 5) h8) fun v9 h9 =>
 bnd (aB 1 v9 h9) fun v10 h10 =>
 bnd (aA v10 h10) fun v11 h11 =>
 bnd (bY (env 0) v11 h11) fun v12 h12 =>
 bnd (aD .eql v12 (.i .u8 (Int.ofNat 34)) h12) fun v13 h13 =>
 aT v13 (
 bnd (aY (env 5) h13) fun v14 h14 =>
 bnd (aB 1 v14 h14) fun v15 h15 =>
 bnd (aA v15 h15) fun v16 h16 =>
 bnd (aD .add v16 (aJ 1) h16) fun v17 h17 =>
 bnd (cP (env 0) (some v17) none h17) fun v18 h18 =>
 bnd (r 30 [v18, (.i .u8 (Int.ofNat 34))] h18) fun v19 h19 =>
 bnd (aD .lss v19 (aJ 0) h19) fun v20 h20 =>
 aT v20 (
 bnd (aY (env 5) h20) fun v21 h21 =>
 bnd (aB 1 v21 h21) fun v22 h22 =>
 bnd (aA v22 h22) fun v23 h23 =>
 some (.t [.l0, v23, (aJ 11)], h23)) (
 bnd (aY (env 5) h20) fun v24 h24 =>
 bnd (aB 1 v24 h24) fun v25 h25 =>
 bnd (aA v25 h25) fun v26 h26 =>
 bnd (aD .add v19 (aJ 2) h26) fun v27 h27 =>
 bnd (aD .add v26 v27 h27) fun v28 h28 =>
 bnd (aY (env 5) h28) fun v29 h29 =>
 bnd (aB 1 v29 h29) fun v30 h30 =>
 bnd (aI 1 v30 v28 h30) fun _ h31 =>
     kk7 (env 0) (env 5) (env 6) h31)) (
 bnd (r 288 [(env 5)] h13) fun v32 h32 =>
 bnd (aC 0 v32 h32) fun v33 h33 =>
 bnd (aC 1 v32 h33) fun v34 h34 =>
 bnd (bQ [(aJ 0), (.s []), (aJ 0), (aJ 0)] h34) fun v35 h35 =>
 bnd (aI 4 v35 v33 h35) fun _ h36 =>
 bnd (aD .neq v34 (aJ 0) h36) fun v37 h37 =>
 aT v37 (
 bnd (aB 3 v35 h37) fun v38 h38 =>
 bnd (aA v38 h38) fun v39 h39 =>
 some (.t [.l0, v39, v34], h39)) (
 bnd (aK 4 v35 h37) fun v40 h40 =>
 bnd (aP [(aJ 0), (.s []), (aJ 0), (aJ 0)] 1 [(0, 4, v40)] h40) fun v41 h41 =>
 bnd (bF 4 40 (env 6) v41 h41) fun v42 h42 =>
     kk7 (env 0) (env 5) v42 h42)))) = (K3 (aKx r n kk7) 0 5 6) := by kernel_rfl
theorem bQh (kk7 : fG) : D218 r n kA (xs x0 0 (K2 (eX r n) 0 6)) (K3 kk7 0 5 6) = (K3 (aKx r n kk7) 0 5 6) :=
 (bXz r n kk7 (eX r n)).trans (bIr r n kk7)
theorem bUs (m : Nat) : aL (fun kk => D218 r n kA (xs x0 0 (K2 (eX r n) 0 6)) kk) m = (K3 (tX r n m) 0 5 6) := by
 induction m with
 | zero => exact (by kernel_rfl : aL (fun kk => D218 r n kA (xs x0 0 (K2 (eX r n) 0 6)) kk) 0 = (K3 (tX r n 0) 0 5 6))
 | succ m ih =>
  refine (by kernel_rfl : aL (fun kk => D218 r n kA (xs x0 0 (K2 (eX r n) 0 6)) kk) (m + 1) = D218 r n kA (xs x0 0 (K2 (eX r n) 0 6)) (aL (fun kk => D218 r n kA (xs x0 0 (K2 (eX r n) 0 6)) kk) m)).trans ?_
  rw [ih]
  exact (bQh r n (tX r n m)).trans (by kernel_rfl)
theorem cJz : D218 r n aCp (xs x0 0 (K2 (eX r n) 0 6)) (K2 (eX r n) 0 6) = (K3 (bWa r n) 0 5 6) :=
 (by kernel_rfl : D218 r n aCp (xs x0 0 (K2 (eX r n) 0 6)) (K2 (eX r n) 0 6) = aL (fun kk => D218 r n kA (xs x0 0 (K2 (eX r n) 0 6)) kk) n).trans ((bUs r n n).trans (by kernel_rfl))
theorem cBd : D218 r n aEn x0 r218 = D218 r n aIf x0 (K2 (eX r n) 0 6) :=
 congrArg (fun k => D218 r n aIf x0 k) (cTn r n)
theorem cUo : D218 r n aEn x0 r218 = (K3 (aOo r n) 0 5 6) :=
 (cBd r n).trans
 ((by kernel_rfl : D218 r n aIf x0 (K2 (eX r n) 0 6) = D218 r n aCp (xs x0 0 (K2 (eX r n) 0 6)) (K2 (eX r n) 0 6)).trans
 ((cJz r n).trans (by kernel_rfl)))
theorem bLt : D218 r n aFc x0 r218 = D218 r n aXk x0 (K3 (aOo r n) 0 5 6) :=
 congrArg (fun k => D218 r n aXk x0 k) (cUo r n)
theorem cNs : D218 r n aFc x0 r218 = (K3 (aQf r n) 0 5 6) :=
 (bLt r n).trans
 ((by kernel_rfl))
theorem bNq : D218 r n aDh x0 r218 = D218 r n bBh x0 (K3 (aQf r n) 0 5 6) :=
 congrArg (fun k => D218 r n bBh x0 k) (cNs r n)
theorem cSx : D218 r n aDh x0 r218 = (K2 (zN r n) 0 5) :=
 (bNq r n).trans
 ((by kernel_rfl))
theorem bSe : D218 r n aIq x0 r218 = D218 r n aHk x0 (K2 (zN r n) 0 5) :=
 congrArg (fun k => D218 r n aHk x0 k) (cSx r n)
theorem bYe (q0 : pR) : D218 r n aHk x0 (K2 q0 0 5) = fun (env : aZ) (h : Hp) =>
 bnd (bL [(.s []), (aJ 0)] [(0, 1, (env 0))] h) fun v1 h1 =>
 bnd (cH v1 h1) fun v2 h2 =>
  q0 (env 0) v2 h2 := by kernel_rfl
theorem bFa : (fun (env : aZ) (h : Hp) =>
 bnd (bL [(.s []), (aJ 0)] [(0, 1, (env 0))] h) fun v1 h1 =>
 bnd (cH v1 h1) fun v2 h2 =>
  zN r n (env 0) v2 h2) = (K1 (aLi r n) 0) := by kernel_rfl
theorem cRt : D218 r n aIq x0 r218 = (K1 (aLi r n) 0) :=
 (bSe r n).trans
 ((bYe r n (zN r n)).trans (bFa r n))
theorem cAg : D218 r n aDs x0 r218 = D218 r n bAh x0 (K1 (aLi r n) 0) :=
 congrArg (fun k => D218 r n bAh x0 k) (cRt r n)
theorem cPm : D218 r n aVj x0 r218 = (K1 (aUz r n) 0) :=
 (by kernel_rfl : D218 r n aVj x0 r218 = D218 r n aDs x0 r218).trans
 ((cAg r n).trans
 ((by kernel_rfl)))
theorem dJy : D218 r n c218 x0 r218 = D218 r n aWm x0 (K1 (aUz r n) 0) :=
 congrArg (fun k => D218 r n aWm x0 k) (cPm r n)
theorem dOd : D218 r n c218 x0 r218 = (K1 (s218 r n) 0) :=
 (dJy r n).trans
 ((by kernel_rfl))
theorem dEl : aF CF r n 218 args h = s218 r n (aS args 0) h :=
 (by kernel_rfl : aF CF r n 218 args h = D218 r n c218 x0 r218 (aH args) h).trans ((congrFun (congrFun (dOd r n) (aH args)) h).trans (by kernel_rfl))
noncomputable def s221 (r : RT) (n : Nat) (x0 x1 x2 : DV) (h0 : Hp) : aG :=
 bnd (bQ [(aJ 0), (.s []), (aJ 0), (aJ 0)] h0) fun v1 h1 =>
 bnd (r 289 [x0, x1, x2] h1) fun v2 h2 =>
 bnd (hZ .not v2 h2) fun v3 h3 =>
 aT v3 (
 bnd (r 293 [x0, (aJ 0)] h3) fun v4 h4 =>
 bnd (r 292 [x0, v4, (aJ 13)] h4) fun v5 h5 =>
 bnd (bL [(aJ 0), (.s []), (aJ 0), (aJ 0)] [] h5) fun v6 h6 =>
 bnd (aI 4 v1 v6 h6) fun _ h7 =>
 bnd (aK 4 v1 h7) fun v8 _ =>
 some (v8, h7)) (
 bnd (r 290 [x0] h3) fun v9 h9 =>
 bnd (aI 4 v1 v9 h9) fun _ h10 =>
 bnd (aK 4 v1 h10) fun v11 _ =>
 some (v11, h10))
noncomputable abbrev c221 : Code := cf Tryz.f221
noncomputable abbrev r221 : K := aO CF Tryz.f221
noncomputable def D221 (r : RT) (n : Nat) (c : Code) (X : Nat → K) (k : K) : K := aM CF r 19 n c X r221 k
theorem dRz : D221 r n c221 x0 r221 = (K3 (s221 r n) 0 1 2) :=
 (by kernel_rfl)
theorem dCk : aF CF r n 221 args h = s221 r n (aS args 0) (aS args 1) (aS args 2) h :=
 (by kernel_rfl : aF CF r n 221 args h = D221 r n c221 x0 r221 (aH args) h).trans ((congrFun (congrFun (dRz r n) (aH args)) h).trans (by kernel_rfl))
noncomputable def s223 (r : RT) (n : Nat) (x0 : DV) (h0 : Hp) : aG :=
 bnd (cH x0 h0) fun v1 h1 =>
 bnd (aB 0 v1 h1) fun v2 h2 =>
 bnd (aA v2 h2) fun v3 h3 =>
 bnd (r 297 [v3] h3) fun v4 h4 =>
 bnd (aC 0 v4 h4) fun v5 h5 =>
 bnd (aC 1 v4 h5) fun v6 h6 =>
 bnd (aB 0 v1 h6) fun v7 h7 =>
 bnd (aA v7 h7) fun v8 h8 =>
 bnd (aD .geq v8 (aJ 1) h8) fun v9 h9 =>
 bnd (gD v9 true (aB 0 v1 h9) h9) fun v10 h10 =>
 bnd (gD v9 true (aA v10 h10) h10) fun v11 h11 =>
 bnd (gD v9 true (aD .leq v11 (aJ 20) h11) h11) fun v12 h12 =>
 bnd (aN v9 v12 (.b false) h12) fun v13 h13 =>
 bnd (gD v13 true (aB 1 v1 h13) h13) fun v14 h14 =>
 bnd (gD v13 true (aA v14 h14) h14) fun v15 h15 =>
 bnd (gD v13 true (some (v5, h15)) h15) fun v16 h16 =>
 bnd (gD v13 true (r 298 [v15, v16] h16) h16) fun v17 h17 =>
 bnd (aN v13 v17 (.b false) h17) fun v18 h18 =>
 bnd (gD v18 true (aB 2 v1 h18) h18) fun v19 h19 =>
 bnd (gD v18 true (aA v19 h19) h19) fun v20 h20 =>
 bnd (gD v18 true (some (v6, h20)) h20) fun v21 h21 =>
 bnd (gD v18 true (r 298 [v20, v21] h21) h21) fun v22 h22 =>
 bnd (aN v18 v22 (.b false) h22) fun v23 h23 =>
 some (v23, h23)
noncomputable abbrev c223 : Code := cf Tryz.f223
noncomputable abbrev r223 : K := aO CF Tryz.f223
noncomputable def D223 (r : RT) (n : Nat) (c : Code) (X : Nat → K) (k : K) : K := aM CF r 31 n c X r223 k
theorem dNm : D223 r n c223 x0 r223 = (K1 (s223 r n) 0) :=
 (by kernel_rfl)
theorem dFc : aF CF r n 223 args h = s223 r n (aS args 0) h :=
 (by kernel_rfl : aF CF r n 223 args h = D223 r n c223 x0 r223 (aH args) h).trans ((congrFun (congrFun (dNm r n) (aH args)) h).trans (by kernel_rfl))
noncomputable def s224 (r : RT) (n : Nat) (x0 x1 : DV) (h0 : Hp) : aG :=
 bnd (cH x0 h0) fun v1 h1 =>
 bnd (aK 6 v1 h1) fun v2 h2 =>
 bnd (r 299 [v2, x1] h2) fun v3 h3 =>
 bnd (aC 0 v3 h3) fun v4 h4 =>
 bnd (aC 1 v3 h4) fun v5 h5 =>
 some (v5, h5)
noncomputable abbrev c224 : Code := cf Tryz.f224
noncomputable abbrev r224 : K := aO CF Tryz.f224
noncomputable def D224 (r : RT) (n : Nat) (c : Code) (X : Nat → K) (k : K) : K := aM CF r 14 n c X r224 k
theorem dOi : D224 r n c224 x0 r224 = (K2 (s224 r n) 0 1) :=
 (by kernel_rfl)
theorem dKa : aF CF r n 224 args h = s224 r n (aS args 0) (aS args 1) h :=
 (by kernel_rfl : aF CF r n 224 args h = D224 r n c224 x0 r224 (aH args) h).trans ((congrFun (congrFun (dOi r n) (aH args)) h).trans (by kernel_rfl))
noncomputable def eG (r : RT) (n : Nat) (x0 x6 : DV) (h0 : Hp) : aG :=
 bnd (r 82 [x0, x6] h0) fun v1 h1 =>
 bnd (aC 0 v1 h1) fun v2 h2 =>
 bnd (aC 1 v1 h2) fun v3 h3 =>
 some (.t [v2, v3], h3)
noncomputable def aIo (r : RT) (n : Nat) (kk6 : cI) (x0 x6 x38 x39 x40 : DV) (h0 : Hp) : aG :=
 bnd (aD .lss x40 x39 h0) fun v1 h1 =>
 aT v1 (
 bnd (aE 4 x38 x40 h1) fun v2 h2 =>
 bnd (aK 4 v2 h2) fun v3 h3 =>
 bnd (bQ [(aJ 0), (.s []), (aJ 0), .l0] h3) fun v4 h4 =>
 bnd (aI 4 v4 v3 h4) fun _ h5 =>
 bnd (aK 4 v4 h5) fun v6 h6 =>
 bnd (r 225 [x0, v6] h6) fun v7 h7 =>
 bnd (aC 0 v7 h7) fun v8 h8 =>
 bnd (aC 1 v7 h8) fun v9 h9 =>
 bnd (aD .neq v9 (aJ 0) h9) fun v10 h10 =>
 aT v10 (
 some (.t [(aJ 0), v9], h10)) (
 bnd (aP [(aJ 0)] 1 [(0, 1, v8)] h10) fun v11 h11 =>
 bnd (bF 1 8 x6 v11 h11) fun v12 h12 =>
 bnd (aD .add x40 (aJ 1) h12) fun v13 h13 =>
    kk6 x0 v12 x38 x39 v13 h13)) (
      eG r n x0 x6 h1)
noncomputable def uY (r : RT) (n : Nat) (m : Nat) : cI :=
 Nat.rec (motive := fun _ => cI) (fun _ _ _ _ _ _ => none) (fun _ ih => aIo r n ih) m
noncomputable def cDu (r : RT) (n : Nat) : cI := uY r n n
noncomputable def aTt (r : RT) (n : Nat) (x0 x6 x38 x39 x40 : DV) (h0 : Hp) : aG :=
 cDu r n x0 x6 x38 x39 x40 h0
noncomputable def aSd (r : RT) (n : Nat) (x0 x3 x6 : DV) (h0 : Hp) : aG :=
 bnd (aB 3 x3 h0) fun v1 h1 =>
 bnd (aA v1 h1) fun v2 h2 =>
 bnd (bV v2 h2) fun v3 h3 =>
  aTt r n x0 x6 v2 v3 (aJ 0) h3
noncomputable def aUx (r : RT) (n : Nat) (x0 x3 : DV) (h0 : Hp) : aG :=
 aSd r n x0 x3 .l0 h0
noncomputable def zO (r : RT) (n : Nat) (x0 x3 : DV) (h0 : Hp) : aG :=
 bnd (aB 0 x3 h0) fun v1 h1 =>
 bnd (aA v1 h1) fun v2 h2 =>
 bnd (aD .eql v2 (aJ 1) h2) fun v3 h3 =>
 aT v3 (
 bnd (aB 2 x3 h3) fun v4 h4 =>
 bnd (aA v4 h4) fun v5 h5 =>
 bnd (r 300 [x0, v5] h5) fun v6 h6 =>
 bnd (aC 0 v6 h6) fun v7 h7 =>
 bnd (aC 1 v6 h7) fun v8 h8 =>
 some (.t [v7, v8], h8)) (
 bnd (aD .eql v2 (aJ 2) h3) fun v9 h9 =>
 aT v9 (
 bnd (aB 1 x3 h9) fun v10 h10 =>
 bnd (aA v10 h10) fun v11 h11 =>
 bnd (r 301 [x0, v11] h11) fun v12 h12 =>
 bnd (aC 0 v12 h12) fun v13 h13 =>
 bnd (aC 1 v12 h13) fun v14 h14 =>
 some (.t [v13, v14], h14)) (
 bnd (aD .eql v2 (aJ 3) h9) fun v15 h15 =>
 aT v15 (
 bnd (aB 1 x3 h15) fun v16 h16 =>
 bnd (aA v16 h16) fun v17 h17 =>
 bnd (r 81 [x0, v17] h17) fun v18 h18 =>
 bnd (aC 0 v18 h18) fun v19 h19 =>
 bnd (aC 1 v18 h19) fun v20 h20 =>
 some (.t [v19, v20], h20)) (
    aUx r n x0 x3 h15)))
noncomputable def s225 (r : RT) (n : Nat) (x0 x1 : DV) (h0 : Hp) : aG :=
 bnd (cH x1 h0) fun v1 h1 =>
  zO r n x0 v1 h1
noncomputable abbrev c225 : Code := cf Tryz.f225
noncomputable abbrev aEk : Code := cR c225
noncomputable abbrev aJu : Code := cR aEk
noncomputable abbrev aGq : Code := cR aJu
noncomputable abbrev dBy : Code := cR aGq
noncomputable abbrev zP : Code := cL aGq
noncomputable abbrev aVx : Code := cR zP
noncomputable abbrev aKs : Code := cL aVx
noncomputable abbrev mX : Code := cL aKs
noncomputable abbrev bKr : Code := cL zP
noncomputable abbrev bCo : Code := cL aJu
noncomputable abbrev bCj : Code := cL aEk
noncomputable abbrev aEf : Code := cL c225
noncomputable abbrev r225 : K := aO CF Tryz.f225
noncomputable def D225 (r : RT) (n : Nat) (c : Code) (X : Nat → K) (k : K) : K := aM CF r 63 n c X r225 k
theorem cUv : D225 r n dBy x0 r225 = (K2 (eG r n) 0 6) :=
 (by kernel_rfl)
theorem bZl (kk6 : cI) (q0 : pR) : D225 r n mX (xs x0 1 (K2 q0 0 6)) (K5 kk6 0 6 38 39 40) = fun (env : aZ) (h : Hp) =>
 bnd (aD .lss (env 40) (env 39) h) fun v1 h1 =>
 aT v1 (
 bnd (aE 4 (env 38) (env 40) h1) fun v2 h2 =>
 bnd (aK 4 v2 h2) fun v3 h3 =>
 bnd (bQ [(aJ 0), (.s []), (aJ 0), .l0] h3) fun v4 h4 =>
 bnd (aI 4 v4 v3 h4) fun _ h5 =>
 bnd (aK 4 v4 h5) fun v6 h6 =>
 bnd (r 225 [(env 0), v6] h6) fun v7 h7 =>
 bnd (aC 0 v7 h7) fun v8 h8 =>
 bnd (aC 1 v7 h8) fun v9 h9 =>
 bnd (aD .neq v9 (aJ 0) h9) fun v10 h10 =>
 aT v10 (
 some (.t [(aJ 0), v9], h10)) (
 bnd (aP [(aJ 0)] 1 [(0, 1, v8)] h10) fun v11 h11 =>
 bnd (bF 1 8 (env 6) v11 h11) fun v12 h12 =>
 bnd (aD .add (env 40) (aJ 1) h12) fun v13 h13 =>
    kk6 (env 0) v12 (env 38) (env 39) v13 h13)) (
      q0 (env 0) (env 6) h1) := by kernel_rfl
theorem bGk (kk6 : cI) : (fun (env : aZ) (h : Hp) =>
 bnd (aD .lss (env 40) (env 39) h) fun v1 h1 =>
 aT v1 (
 bnd (aE 4 (env 38) (env 40) h1) fun v2 h2 =>
 bnd (aK 4 v2 h2) fun v3 h3 =>
 bnd (bQ [(aJ 0), (.s []), (aJ 0), .l0] h3) fun v4 h4 =>
 bnd (aI 4 v4 v3 h4) fun _ h5 =>
 bnd (aK 4 v4 h5) fun v6 h6 =>
 bnd (r 225 [(env 0), v6] h6) fun v7 h7 =>
 bnd (aC 0 v7 h7) fun v8 h8 =>
 bnd (aC 1 v7 h8) fun v9 h9 =>
 bnd (aD .neq v9 (aJ 0) h9) fun v10 h10 =>
 aT v10 (
 some (.t [(aJ 0), v9], h10)) (
 bnd (aP [(aJ 0)] 1 [(0, 1, v8)] h10) fun v11 h11 =>
 bnd (bF 1 8 (env 6) v11 h11) fun v12 h12 =>
 bnd (aD .add (env 40) (aJ 1) h12) fun v13 h13 =>
    kk6 (env 0) v12 (env 38) (env 39) v13 h13)) (
      eG r n (env 0) (env 6) h1)) = (K5 (aIo r n kk6) 0 6 38 39 40) := by kernel_rfl
theorem cBx (kk6 : cI) : D225 r n mX (xs x0 1 (K2 (eG r n) 0 6)) (K5 kk6 0 6 38 39 40) = (K5 (aIo r n kk6) 0 6 38 39 40) :=
 (bZl r n kk6 (eG r n)).trans (bGk r n kk6)
theorem bMq (m : Nat) : aL (fun kk => D225 r n mX (xs x0 1 (K2 (eG r n) 0 6)) kk) m = (K5 (uY r n m) 0 6 38 39 40) := by
 induction m with
 | zero => exact (by kernel_rfl : aL (fun kk => D225 r n mX (xs x0 1 (K2 (eG r n) 0 6)) kk) 0 = (K5 (uY r n 0) 0 6 38 39 40))
 | succ m ih =>
  refine (by kernel_rfl : aL (fun kk => D225 r n mX (xs x0 1 (K2 (eG r n) 0 6)) kk) (m + 1) = D225 r n mX (xs x0 1 (K2 (eG r n) 0 6)) (aL (fun kk => D225 r n mX (xs x0 1 (K2 (eG r n) 0 6)) kk) m)).trans ?_
  rw [ih]
  exact (cBx r n (uY r n m)).trans (by kernel_rfl)
theorem cOw : D225 r n aKs (xs x0 1 (K2 (eG r n) 0 6)) (K2 (eG r n) 0 6) = (K5 (cDu r n) 0 6 38 39 40) :=
 (by kernel_rfl : D225 r n aKs (xs x0 1 (K2 (eG r n) 0 6)) (K2 (eG r n) 0 6) = aL (fun kk => D225 r n mX (xs x0 1 (K2 (eG r n) 0 6)) kk) n).trans ((bMq r n n).trans (by kernel_rfl))
theorem cRl : D225 r n aVx x0 (K2 (eG r n) 0 6) = (K5 (aTt r n) 0 6 38 39 40) :=
 (by kernel_rfl : D225 r n aVx x0 (K2 (eG r n) 0 6) = D225 r n aKs (xs x0 1 (K2 (eG r n) 0 6)) (K2 (eG r n) 0 6)).trans
 ((cOw r n).trans (by kernel_rfl))
theorem bVi : D225 r n aGq x0 r225 = D225 r n zP x0 (K2 (eG r n) 0 6) :=
 congrArg (fun k => D225 r n zP x0 k) (cUv r n)
theorem bSw : D225 r n zP x0 (K2 (eG r n) 0 6) = D225 r n bKr x0 (K5 (aTt r n) 0 6 38 39 40) :=
 congrArg (fun k => D225 r n bKr x0 k) (cRl r n)
theorem cIj : D225 r n aGq x0 r225 = (K3 (aSd r n) 0 3 6) :=
 (bVi r n).trans
 ((bSw r n).trans
 ((by kernel_rfl)))
theorem bMa : D225 r n aJu x0 r225 = D225 r n bCo x0 (K3 (aSd r n) 0 3 6) :=
 congrArg (fun k => D225 r n bCo x0 k) (cIj r n)
theorem cQg : D225 r n aJu x0 r225 = (K2 (aUx r n) 0 3) :=
 (bMa r n).trans
 ((by kernel_rfl))
theorem bQi : D225 r n aEk x0 r225 = D225 r n bCj x0 (K2 (aUx r n) 0 3) :=
 congrArg (fun k => D225 r n bCj x0 k) (cQg r n)
theorem cOo : D225 r n aEk x0 r225 = (K2 (zO r n) 0 3) :=
 (bQi r n).trans
 ((by kernel_rfl))
theorem dKn : D225 r n c225 x0 r225 = D225 r n aEf x0 (K2 (zO r n) 0 3) :=
 congrArg (fun k => D225 r n aEf x0 k) (cOo r n)
theorem dKy (q0 : pR) : D225 r n aEf x0 (K2 q0 0 3) = fun (env : aZ) (h : Hp) =>
 bnd (cH (env 1) h) fun v1 h1 =>
  q0 (env 0) v1 h1 := by kernel_rfl
theorem cEs : (fun (env : aZ) (h : Hp) =>
 bnd (cH (env 1) h) fun v1 h1 =>
  zO r n (env 0) v1 h1) = (K2 (s225 r n) 0 1) := by kernel_rfl
theorem dPa : D225 r n c225 x0 r225 = (K2 (s225 r n) 0 1) :=
 (dKn r n).trans
 ((dKy r n (zO r n)).trans (cEs r n))
theorem dGv : aF CF r n 225 args h = s225 r n (aS args 0) (aS args 1) h :=
 (by kernel_rfl : aF CF r n 225 args h = D225 r n c225 x0 r225 (aH args) h).trans ((congrFun (congrFun (dPa r n) (aH args)) h).trans (by kernel_rfl))
end Go.Dd

namespace Go.Dd
open Go.Proofs
variable (r : RT) (n : Nat) (args : List DV) (h : Hp)
noncomputable def eF (r : RT) (n : Nat) (x4 : DV) (h0 : Hp) : aG :=
 some (.t [x4, (aJ 0)], h0)
noncomputable def aHl (r : RT) (n : Nat) (kk6 : cU) (x4 x10 x11 x12 : DV) (h0 : Hp) : aG :=
 bnd (aD .lss x12 x11 h0) fun v1 h1 =>
 aT v1 (
 bnd (aE 3 x10 x12 h1) fun v2 h2 =>
 bnd (aK 3 v2 h2) fun v3 h3 =>
 bnd (bQ [(aJ 0), (aJ 0), (aJ 0)] h3) fun v4 h4 =>
 bnd (aI 3 v4 v3 h4) fun _ h5 =>
 bnd (aK 3 v4 h5) fun v6 h6 =>
 bnd (r 223 [v6] h6) fun v7 h7 =>
 bnd (hZ .not v7 h7) fun v8 h8 =>
 aT v8 (
 some (.t [.l0, (aJ 19)], h8)) (
 bnd (aB 0 v4 h8) fun v9 h9 =>
 bnd (aA v9 h9) fun v10 h10 =>
 bnd (dJ .u8 v10 h10) fun v11 h11 =>
 bnd (aB 1 v4 h11) fun v12 h12 =>
 bnd (aA v12 h12) fun v13 h13 =>
 bnd (dJ .u8 v13 h13) fun v14 h14 =>
 bnd (aB 2 v4 h14) fun v15 h15 =>
 bnd (aA v15 h15) fun v16 h16 =>
 bnd (dJ .u8 v16 h16) fun v17 h17 =>
 bnd (aP [(.i .u8 (Int.ofNat 0)), (.i .u8 (Int.ofNat 0)), (.i .u8 (Int.ofNat 0))] 3 [(0, 1, v11), (1, 1, v14), (2, 1, v17)] h17) fun v18 h18 =>
 bnd (bF 1 1 x4 v18 h18) fun v19 h19 =>
 bnd (aD .add x12 (aJ 1) h19) fun v20 h20 =>
    kk6 v19 x10 x11 v20 h20)) (
      eF r n x4 h1)
noncomputable def uC (r : RT) (n : Nat) (m : Nat) : cU :=
 Nat.rec (motive := fun _ => cU) (fun _ _ _ _ _ => none) (fun _ ih => aHl r n ih) m
noncomputable def bVx (r : RT) (n : Nat) : cU := uC r n n
noncomputable def aTi (r : RT) (n : Nat) (x4 x10 x11 x12 : DV) (h0 : Hp) : aG :=
 bVx r n x4 x10 x11 x12 h0
noncomputable def aTv (r : RT) (n : Nat) (x0 x4 : DV) (h0 : Hp) : aG :=
 bnd (bV x0 h0) fun v1 h1 =>
  aTi r n x4 x0 v1 (aJ 0) h1
noncomputable def aUf (r : RT) (n : Nat) (x0 : DV) (h0 : Hp) : aG :=
 aTv r n x0 .l0 h0
noncomputable def aRj (r : RT) (n : Nat) (x0 : DV) (h0 : Hp) : aG :=
 bnd (bV x0 h0) fun v1 h1 =>
 bnd (aD .gtr v1 (aJ 400) h1) fun v2 h2 =>
 aT v2 (
 some (.t [.l0, (aJ 19)], h2)) (
  aUf r n x0 h2)
noncomputable def s226 (r : RT) (n : Nat) (x0 : DV) (h0 : Hp) : aG :=
 aRj r n x0 h0
noncomputable abbrev c226 : Code := cf Tryz.f226
noncomputable abbrev aJh : Code := cR c226
noncomputable abbrev aLf : Code := cR aJh
noncomputable abbrev aHw : Code := cR aLf
noncomputable abbrev dBe : Code := cR aHw
noncomputable abbrev aAf : Code := cL aHw
noncomputable abbrev aRf : Code := cR aAf
noncomputable abbrev aGx : Code := cL aRf
noncomputable abbrev mS : Code := cL aGx
noncomputable abbrev bWy : Code := cL aAf
noncomputable abbrev bCe : Code := cL aLf
noncomputable abbrev aWe : Code := cL aJh
noncomputable abbrev bAn : Code := cL c226
noncomputable abbrev r226 : K := aO CF Tryz.f226
noncomputable def D226 (r : RT) (n : Nat) (c : Code) (X : Nat → K) (k : K) : K := aM CF r 33 n c X r226 k
theorem cFk : D226 r n dBe x0 r226 = (K1 (eF r n) 4) :=
 (by kernel_rfl)
theorem cCo (kk6 : cU) (q0 : TT1) : D226 r n mS (xs x0 0 (K1 q0 4)) (K4 kk6 4 10 11 12) = fun (env : aZ) (h : Hp) =>
 bnd (aD .lss (env 12) (env 11) h) fun v1 h1 =>
 aT v1 (
 bnd (aE 3 (env 10) (env 12) h1) fun v2 h2 =>
 bnd (aK 3 v2 h2) fun v3 h3 =>
 bnd (bQ [(aJ 0), (aJ 0), (aJ 0)] h3) fun v4 h4 =>
 bnd (aI 3 v4 v3 h4) fun _ h5 =>
 bnd (aK 3 v4 h5) fun v6 h6 =>
 bnd (r 223 [v6] h6) fun v7 h7 =>
 bnd (hZ .not v7 h7) fun v8 h8 =>
 aT v8 (
 some (.t [.l0, (aJ 19)], h8)) (
 bnd (aB 0 v4 h8) fun v9 h9 =>
 bnd (aA v9 h9) fun v10 h10 =>
 bnd (dJ .u8 v10 h10) fun v11 h11 =>
 bnd (aB 1 v4 h11) fun v12 h12 =>
 bnd (aA v12 h12) fun v13 h13 =>
 bnd (dJ .u8 v13 h13) fun v14 h14 =>
 bnd (aB 2 v4 h14) fun v15 h15 =>
 bnd (aA v15 h15) fun v16 h16 =>
 bnd (dJ .u8 v16 h16) fun v17 h17 =>
 bnd (aP [(.i .u8 (Int.ofNat 0)), (.i .u8 (Int.ofNat 0)), (.i .u8 (Int.ofNat 0))] 3 [(0, 1, v11), (1, 1, v14), (2, 1, v17)] h17) fun v18 h18 =>
 bnd (bF 1 1 (env 4) v18 h18) fun v19 h19 =>
 bnd (aD .add (env 12) (aJ 1) h19) fun v20 h20 =>
    kk6 v19 (env 10) (env 11) v20 h20)) (
      q0 (env 4) h1) := by kernel_rfl
theorem bGg (kk6 : cU) : (fun (env : aZ) (h : Hp) =>
 bnd (aD .lss (env 12) (env 11) h) fun v1 h1 =>
 aT v1 (
 bnd (aE 3 (env 10) (env 12) h1) fun v2 h2 =>
 bnd (aK 3 v2 h2) fun v3 h3 =>
 bnd (bQ [(aJ 0), (aJ 0), (aJ 0)] h3) fun v4 h4 =>
 bnd (aI 3 v4 v3 h4) fun _ h5 =>
 bnd (aK 3 v4 h5) fun v6 h6 =>
 bnd (r 223 [v6] h6) fun v7 h7 =>
 bnd (hZ .not v7 h7) fun v8 h8 =>
 aT v8 (
 some (.t [.l0, (aJ 19)], h8)) (
 bnd (aB 0 v4 h8) fun v9 h9 =>
 bnd (aA v9 h9) fun v10 h10 =>
 bnd (dJ .u8 v10 h10) fun v11 h11 =>
 bnd (aB 1 v4 h11) fun v12 h12 =>
 bnd (aA v12 h12) fun v13 h13 =>
 bnd (dJ .u8 v13 h13) fun v14 h14 =>
 bnd (aB 2 v4 h14) fun v15 h15 =>
 bnd (aA v15 h15) fun v16 h16 =>
 bnd (dJ .u8 v16 h16) fun v17 h17 =>
 bnd (aP [(.i .u8 (Int.ofNat 0)), (.i .u8 (Int.ofNat 0)), (.i .u8 (Int.ofNat 0))] 3 [(0, 1, v11), (1, 1, v14), (2, 1, v17)] h17) fun v18 h18 =>
 bnd (bF 1 1 (env 4) v18 h18) fun v19 h19 =>
 bnd (aD .add (env 12) (aJ 1) h19) fun v20 h20 =>
    kk6 v19 (env 10) (env 11) v20 h20)) (
      eF r n (env 4) h1)) = (K4 (aHl r n kk6) 4 10 11 12) := by kernel_rfl
theorem bTe (kk6 : cU) : D226 r n mS (xs x0 0 (K1 (eF r n) 4)) (K4 kk6 4 10 11 12) = (K4 (aHl r n kk6) 4 10 11 12) :=
 (cCo r n kk6 (eF r n)).trans (bGg r n kk6)
theorem bRh (m : Nat) : aL (fun kk => D226 r n mS (xs x0 0 (K1 (eF r n) 4)) kk) m = (K4 (uC r n m) 4 10 11 12) := by
 induction m with
 | zero => exact (by kernel_rfl : aL (fun kk => D226 r n mS (xs x0 0 (K1 (eF r n) 4)) kk) 0 = (K4 (uC r n 0) 4 10 11 12))
 | succ m ih =>
  refine (by kernel_rfl : aL (fun kk => D226 r n mS (xs x0 0 (K1 (eF r n) 4)) kk) (m + 1) = D226 r n mS (xs x0 0 (K1 (eF r n) 4)) (aL (fun kk => D226 r n mS (xs x0 0 (K1 (eF r n) 4)) kk) m)).trans ?_
  rw [ih]
  exact (bTe r n (uC r n m)).trans (by kernel_rfl)
theorem cFn : D226 r n aGx (xs x0 0 (K1 (eF r n) 4)) (K1 (eF r n) 4) = (K4 (bVx r n) 4 10 11 12) :=
 (by kernel_rfl : D226 r n aGx (xs x0 0 (K1 (eF r n) 4)) (K1 (eF r n) 4) = aL (fun kk => D226 r n mS (xs x0 0 (K1 (eF r n) 4)) kk) n).trans ((bRh r n n).trans (by kernel_rfl))
theorem cQo : D226 r n aRf x0 (K1 (eF r n) 4) = (K4 (aTi r n) 4 10 11 12) :=
 (by kernel_rfl : D226 r n aRf x0 (K1 (eF r n) 4) = D226 r n aGx (xs x0 0 (K1 (eF r n) 4)) (K1 (eF r n) 4)).trans
 ((cFn r n).trans (by kernel_rfl))
theorem cEm : D226 r n aHw x0 r226 = D226 r n aAf x0 (K1 (eF r n) 4) :=
 congrArg (fun k => D226 r n aAf x0 k) (cFk r n)
theorem bTo : D226 r n aAf x0 (K1 (eF r n) 4) = D226 r n bWy x0 (K4 (aTi r n) 4 10 11 12) :=
 congrArg (fun k => D226 r n bWy x0 k) (cQo r n)
theorem cOz : D226 r n aHw x0 r226 = (K2 (aTv r n) 0 4) :=
 (cEm r n).trans
 ((bTo r n).trans
 ((by kernel_rfl)))
theorem bRo : D226 r n aLf x0 r226 = D226 r n bCe x0 (K2 (aTv r n) 0 4) :=
 congrArg (fun k => D226 r n bCe x0 k) (cOz r n)
theorem cMy : D226 r n aLf x0 r226 = (K1 (aUf r n) 0) :=
 (bRo r n).trans
 ((by kernel_rfl))
theorem bYt : D226 r n aJh x0 r226 = D226 r n aWe x0 (K1 (aUf r n) 0) :=
 congrArg (fun k => D226 r n aWe x0 k) (cMy r n)
theorem cPt : D226 r n aJh x0 r226 = (K1 (aRj r n) 0) :=
 (bYt r n).trans
 ((by kernel_rfl))
theorem dDk : D226 r n c226 x0 r226 = D226 r n bAn x0 (K1 (aRj r n) 0) :=
 congrArg (fun k => D226 r n bAn x0 k) (cPt r n)
theorem dRm : D226 r n c226 x0 r226 = (K1 (s226 r n) 0) :=
 (dDk r n).trans
 ((by kernel_rfl))
theorem dCd : aF CF r n 226 args h = s226 r n (aS args 0) h :=
 (by kernel_rfl : aF CF r n 226 args h = D226 r n c226 x0 r226 (aH args) h).trans ((congrFun (congrFun (dRm r n) (aH args)) h).trans (by kernel_rfl))
noncomputable def fA (r : RT) (n : Nat) (x0 x6 : DV) (h0 : Hp) : aG :=
 bnd (r 82 [x0, x6] h0) fun v1 h1 =>
 bnd (aC 0 v1 h1) fun v2 h2 =>
 bnd (aC 1 v1 h2) fun v3 h3 =>
 some (.t [v2, v3], h3)
noncomputable def aFb (r : RT) (n : Nat) (kk4 : fG) (x0 x1 x6 : DV) (h0 : Hp) : aG :=
 bnd (bV x1 h0) fun v1 h1 =>
 bnd (aD .gtr v1 (aJ 0) h1) fun v2 h2 =>
 aT v2 (
 bnd (bV x1 h2) fun v3 h3 =>
 bnd (aRo v3 (aJ 240) h3) fun v4 h4 =>
 bnd (r 79 [x0, (aJ 10)] h4) fun v5 h5 =>
 bnd (cS 1 x1 none (some v4) h5) fun v6 h6 =>
 cnd (bB (cS 1 x1 none (some v4) h4) v6 && true) (
 bnd (dI v6 h6) fun v7 h7 =>
 cnd (bB (dI v6 h4) v7 && true) (
 bnd (r 129 [x0, v5, v7] h7) fun v8 h8 =>
 bnd (aC 0 v8 h8) fun v9 h9 =>
 bnd (aC 1 v8 h9) fun v10 h10 =>
 bnd (aD .neq v10 (aJ 0) h10) fun v11 h11 =>
 aT v11 (
 some (.t [(aJ 0), v10], h11)) (
 bnd (bP (cB 0 h11.next) [(aJ 0)] 1 [(0, 1, v9)] (resv 1 h11)) fun v12 h12 =>
 bnd (bF 1 8 x6 v12 h12) fun v13 h13 =>
 bnd (cS 1 x1 (some v4) none h13) fun v14 h14 =>
 cnd (bB (cS 1 x1 (some v4) none (resv 1 h11)) v14 && true) (
    kk4 x0 v14 v13 h14))))) (
      fA r n x0 x6 h2)
noncomputable def uL (r : RT) (n : Nat) (m : Nat) : fG :=
 Nat.rec (motive := fun _ => fG) (fun _ _ _ _ => none) (fun _ ih => aFb r n ih) m
noncomputable def bLq (r : RT) (n : Nat) : fG := uL r n n
noncomputable def aVt (r : RT) (n : Nat) (x0 x1 x6 : DV) (h0 : Hp) : aG :=
 bLq r n x0 x1 x6 h0
noncomputable def aUv (r : RT) (n : Nat) (x0 x1 : DV) (h0 : Hp) : aG :=
 aVt r n x0 x1 .l0 h0
noncomputable def s227 (r : RT) (n : Nat) (x0 x1 : DV) (h0 : Hp) : aG :=
 aUv r n x0 x1 h0
noncomputable abbrev c227 : Code := cf Tryz.f227
noncomputable abbrev aGv : Code := cR c227
noncomputable abbrev aDe : Code := cR aGv
noncomputable abbrev dDf : Code := cR aDe
noncomputable abbrev aDm : Code := cL aDe
noncomputable abbrev aKp : Code := cL aDm
noncomputable abbrev mP : Code := cL aKp
noncomputable abbrev bUz : Code := cL aGv
noncomputable abbrev bXn : Code := cL c227
noncomputable abbrev r227 : K := aO CF Tryz.f227
noncomputable def D227 (r : RT) (n : Nat) (c : Code) (X : Nat → K) (k : K) : K := aM CF r 42 n c X r227 k
theorem cGf : D227 r n dDf x0 r227 = (K2 (fA r n) 0 6) :=
 (by kernel_rfl)
theorem bLx (kk4 : fG) (q0 : pR) : D227 r n mP (xs x0 0 (K2 q0 0 6)) (K3 kk4 0 1 6) = fun (env : aZ) (h : Hp) =>
 bnd (bV (env 1) h) fun v1 h1 =>
 bnd (aD .gtr v1 (aJ 0) h1) fun v2 h2 =>
 aT v2 (
 bnd (bV (env 1) h2) fun v3 h3 =>
 bnd (aRo v3 (aJ 240) h3) fun v4 h4 =>
 bnd (r 79 [(env 0), (aJ 10)] h4) fun v5 h5 =>
 bnd (cS 1 (env 1) none (some v4) h5) fun v6 h6 =>
 cnd (bB (cS 1 (env 1) none (some v4) h4) v6 && true) (
 bnd (dI v6 h6) fun v7 h7 =>
 cnd (bB (dI v6 h4) v7 && true) (
 bnd (r 129 [(env 0), v5, v7] h7) fun v8 h8 =>
 bnd (aC 0 v8 h8) fun v9 h9 =>
 bnd (aC 1 v8 h9) fun v10 h10 =>
 bnd (aD .neq v10 (aJ 0) h10) fun v11 h11 =>
 aT v11 (
 some (.t [(aJ 0), v10], h11)) (
 bnd (bP (cB 0 h11.next) [(aJ 0)] 1 [(0, 1, v9)] (resv 1 h11)) fun v12 h12 =>
 bnd (bF 1 8 (env 6) v12 h12) fun v13 h13 =>
 bnd (cS 1 (env 1) (some v4) none h13) fun v14 h14 =>
 cnd (bB (cS 1 (env 1) (some v4) none (resv 1 h11)) v14 && true) (
    kk4 (env 0) v14 v13 h14))))) (
      q0 (env 0) (env 6) h2) := by kernel_rfl
theorem bIi (kk4 : fG) : (fun (env : aZ) (h : Hp) =>
 bnd (bV (env 1) h) fun v1 h1 =>
 bnd (aD .gtr v1 (aJ 0) h1) fun v2 h2 =>
 aT v2 (
 bnd (bV (env 1) h2) fun v3 h3 =>
 bnd (aRo v3 (aJ 240) h3) fun v4 h4 =>
 bnd (r 79 [(env 0), (aJ 10)] h4) fun v5 h5 =>
 bnd (cS 1 (env 1) none (some v4) h5) fun v6 h6 =>
 cnd (bB (cS 1 (env 1) none (some v4) h4) v6 && true) (
 bnd (dI v6 h6) fun v7 h7 =>
 cnd (bB (dI v6 h4) v7 && true) (
 bnd (r 129 [(env 0), v5, v7] h7) fun v8 h8 =>
 bnd (aC 0 v8 h8) fun v9 h9 =>
 bnd (aC 1 v8 h9) fun v10 h10 =>
 bnd (aD .neq v10 (aJ 0) h10) fun v11 h11 =>
 aT v11 (
 some (.t [(aJ 0), v10], h11)) (
 bnd (bP (cB 0 h11.next) [(aJ 0)] 1 [(0, 1, v9)] (resv 1 h11)) fun v12 h12 =>
 bnd (bF 1 8 (env 6) v12 h12) fun v13 h13 =>
 bnd (cS 1 (env 1) (some v4) none h13) fun v14 h14 =>
 cnd (bB (cS 1 (env 1) (some v4) none (resv 1 h11)) v14 && true) (
    kk4 (env 0) v14 v13 h14))))) (
      fA r n (env 0) (env 6) h2)) = (K3 (aFb r n kk4) 0 1 6) := by kernel_rfl
theorem cAd (kk4 : fG) : D227 r n mP (xs x0 0 (K2 (fA r n) 0 6)) (K3 kk4 0 1 6) = (K3 (aFb r n kk4) 0 1 6) :=
 (bLx r n kk4 (fA r n)).trans (bIi r n kk4)
theorem bLz (m : Nat) : aL (fun kk => D227 r n mP (xs x0 0 (K2 (fA r n) 0 6)) kk) m = (K3 (uL r n m) 0 1 6) := by
 induction m with
 | zero => exact (by kernel_rfl : aL (fun kk => D227 r n mP (xs x0 0 (K2 (fA r n) 0 6)) kk) 0 = (K3 (uL r n 0) 0 1 6))
 | succ m ih =>
  refine (by kernel_rfl : aL (fun kk => D227 r n mP (xs x0 0 (K2 (fA r n) 0 6)) kk) (m + 1) = D227 r n mP (xs x0 0 (K2 (fA r n) 0 6)) (aL (fun kk => D227 r n mP (xs x0 0 (K2 (fA r n) 0 6)) kk) m)).trans ?_
  rw [ih]
  exact (cAd r n (uL r n m)).trans (by kernel_rfl)
theorem cSw : D227 r n aKp (xs x0 0 (K2 (fA r n) 0 6)) (K2 (fA r n) 0 6) = (K3 (bLq r n) 0 1 6) :=
 (by kernel_rfl : D227 r n aKp (xs x0 0 (K2 (fA r n) 0 6)) (K2 (fA r n) 0 6) = aL (fun kk => D227 r n mP (xs x0 0 (K2 (fA r n) 0 6)) kk) n).trans ((bLz r n n).trans (by kernel_rfl))
theorem bOq : D227 r n aDe x0 r227 = D227 r n aDm x0 (K2 (fA r n) 0 6) :=
 congrArg (fun k => D227 r n aDm x0 k) (cGf r n)
theorem cTh : D227 r n aDe x0 r227 = (K3 (aVt r n) 0 1 6) :=
 (bOq r n).trans
 ((by kernel_rfl : D227 r n aDm x0 (K2 (fA r n) 0 6) = D227 r n aKp (xs x0 0 (K2 (fA r n) 0 6)) (K2 (fA r n) 0 6)).trans
 ((cSw r n).trans (by kernel_rfl)))
theorem bNp : D227 r n aGv x0 r227 = D227 r n bUz x0 (K3 (aVt r n) 0 1 6) :=
 congrArg (fun k => D227 r n bUz x0 k) (cTh r n)
theorem cNa : D227 r n aGv x0 r227 = (K2 (aUv r n) 0 1) :=
 (bNp r n).trans
 ((by kernel_rfl))
theorem dBg : D227 r n c227 x0 r227 = D227 r n bXn x0 (K2 (aUv r n) 0 1) :=
 congrArg (fun k => D227 r n bXn x0 k) (cNa r n)
theorem dSz : D227 r n c227 x0 r227 = (K2 (s227 r n) 0 1) :=
 (dBg r n).trans
 ((by kernel_rfl))
theorem dKo : aF CF r n 227 args h = s227 r n (aS args 0) (aS args 1) h :=
 (by kernel_rfl : aF CF r n 227 args h = D227 r n c227 x0 r227 (aH args) h).trans ((congrFun (congrFun (dSz r n) (aH args)) h).trans (by kernel_rfl))
noncomputable def s234 (r : RT) (n : Nat) (x0 x1 : DV) (h0 : Hp) : aG :=
 bnd (aY x0 h0) fun v1 h1 =>
 bnd (aB 0 v1 h1) fun v2 h2 =>
 bnd (aA v2 h2) fun v3 h3 =>
 bnd (isF [v3, x1] h3) fun v4 h4 =>
 aT v4 (
 bnd (aY x0 h4) fun v5 h5 =>
 bnd (aB 0 v5 h5) fun v6 h6 =>
 bnd (aA v6 h6) fun v7 h7 =>
 bnd (rN [v7, x1] h7) fun v8 h8 =>
 some (v8, h8)) (
 bnd (jR [x1] h4) fun v9 h9 =>
 aT v9 (
 bnd (r 79 [x0, (aJ 7)] h9) fun v10 h10 =>
 some (v10, h10)) (
 bnd (aD .eql x1 (aJ 0) h9) fun v11 h11 =>
 aT v11 (
 bnd (r 79 [x0, (aJ 2)] h11) fun v12 h12 =>
 some (v12, h12)) (
 bnd (aD .eql x1 (aJ 2) h11) fun v13 h13 =>
 aT v13 (
 bnd (r 79 [x0, (aJ 4)] h13) fun v14 h14 =>
 some (v14, h14)) (
 bnd (aD .eql x1 (aJ 4) h13) fun v15 h15 =>
 aT v15 (
 bnd (r 79 [x0, (aJ 5)] h15) fun v16 h16 =>
 some (v16, h16)) (
 some ((aJ 0), h15))))))
noncomputable abbrev c234 : Code := cf Tryz.f234
noncomputable abbrev r234 : K := aO CF Tryz.f234
noncomputable def D234 (r : RT) (n : Nat) (c : Code) (X : Nat → K) (k : K) : K := aM CF r 38 n c X r234 k
theorem dNv : D234 r n c234 x0 r234 = (K2 (s234 r n) 0 1) :=
 (by kernel_rfl)
theorem cZv : aF CF r n 234 args h = s234 r n (aS args 0) (aS args 1) h :=
 (by kernel_rfl : aF CF r n 234 args h = D234 r n c234 x0 r234 (aH args) h).trans ((congrFun (congrFun (dNv r n) (aH args)) h).trans (by kernel_rfl))
noncomputable def fM (r : RT) (n : Nat) (x0 x7 : DV) (h0 : Hp) : aG :=
 bnd (aY x0 h0) fun v1 h1 =>
 bnd (aB 0 v1 h1) fun v2 h2 =>
 bnd (aA v2 h2) fun v3 h3 =>
 bnd (aY x0 h3) fun v4 h4 =>
 bnd (aB 1 v4 h4) fun v5 h5 =>
 bnd (aA v5 h5) fun v6 h6 =>
 bnd (cP v3 (some x7) (some v6) h6) fun v7 h7 =>
 some (v7, h7)
noncomputable def aZd (r : RT) (n : Nat) (kk4 : cU) (x0 x1 x2 x7 : DV) (h0 : Hp) : aG :=
 bnd (aY x0 h0) fun v1 h1 =>
 bnd (aB 1 v1 h1) fun v2 h2 =>
 bnd (aA v2 h2) fun v3 h3 =>
 bnd (aY x0 h3) fun v4 h4 =>
 bnd (aB 0 v4 h4) fun v5 h5 =>
 bnd (aA v5 h5) fun v6 h6 =>
 bnd (cJ v6 h6) fun v7 h7 =>
 bnd (aD .lss v3 v7 h7) fun v8 h8 =>
 bnd (gD v8 true (some (x0, h8)) h8) fun v9 h9 =>
 bnd (gD v8 true (aY v9 h9) h9) fun v10 h10 =>
 bnd (gD v8 true (aB 1 v10 h10) h10) fun v11 h11 =>
 bnd (gD v8 true (aA v11 h11) h11) fun v12 h12 =>
 bnd (gD v8 true (some (x7, h12)) h12) fun v13 h13 =>
 bnd (gD v8 true (aD .sub v12 v13 h13) h13) fun v14 h14 =>
 bnd (gD v8 true (some (x2, h14)) h14) fun v15 h15 =>
 bnd (gD v8 true (aD .lss v14 v15 h15) h15) fun v16 h16 =>
 bnd (aN v8 v16 (.b false) h16) fun v17 h17 =>
 bnd (gD v17 true (some (x1, h17)) h17) fun v18 h18 =>
 bnd (gD v17 true (some (x0, h18)) h18) fun v19 h19 =>
 bnd (gD v17 true (aY v19 h19) h19) fun v20 h20 =>
 bnd (gD v17 true (aB 0 v20 h20) h20) fun v21 h21 =>
 bnd (gD v17 true (aA v21 h21) h21) fun v22 h22 =>
 bnd (gD v17 true (some (x0, h22)) h22) fun v23 h23 =>
 bnd (gD v17 true (aY v23 h23) h23) fun v24 h24 =>
 bnd (gD v17 true (aB 1 v24 h24) h24) fun v25 h25 =>
 bnd (gD v17 true (aA v25 h25) h25) fun v26 h26 =>
 bnd (gD v17 true (bY v22 v26 h26) h26) fun v27 h27 =>
 bnd (gD v17 true (gX CF r v18 [v27] h27) h27) fun v28 h28 =>
 bnd (aN v17 v28 (.b false) h28) fun v29 h29 =>
 aT v29 (
 bnd (aY x0 h29) fun v30 h30 =>
 bnd (aB 1 v30 h30) fun v31 h31 =>
 bnd (aA v31 h31) fun v32 h32 =>
 bnd (aD .add v32 (aJ 1) h32) fun v33 h33 =>
 bnd (aY x0 h33) fun v34 h34 =>
 bnd (aB 1 v34 h34) fun v35 h35 =>
 bnd (aI 1 v35 v33 h35) fun _ h36 =>
      kk4 x0 x1 x2 x7 h36) (
      fM r n x0 x7 h29)
noncomputable def wA (r : RT) (n : Nat) (m : Nat) : cU :=
 Nat.rec (motive := fun _ => cU) (fun _ _ _ _ _ => none) (fun _ ih => aZd r n ih) m
noncomputable def bKk (r : RT) (n : Nat) : cU := wA r n n
noncomputable def aTz (r : RT) (n : Nat) (x0 x1 x2 x7 : DV) (h0 : Hp) : aG :=
 bKk r n x0 x1 x2 x7 h0
noncomputable def aRd (r : RT) (n : Nat) (x0 x1 x2 : DV) (h0 : Hp) : aG :=
 bnd (aY x0 h0) fun v1 h1 =>
 bnd (aB 1 v1 h1) fun v2 h2 =>
 bnd (aA v2 h2) fun v3 h3 =>
  aTz r n x0 x1 x2 v3 h3
noncomputable def s286 (r : RT) (n : Nat) (x0 x1 x2 : DV) (h0 : Hp) : aG :=
 aRd r n x0 x1 x2 h0
noncomputable abbrev c286 : Code := cf Tryz.f286
noncomputable abbrev aFw : Code := cR c286
noncomputable abbrev aKk : Code := cR aFw
noncomputable abbrev dHh : Code := cR aKk
noncomputable abbrev aFi : Code := cL aKk
noncomputable abbrev aGi : Code := cL aFi
noncomputable abbrev pA : Code := cL aGi
noncomputable abbrev bWu : Code := cL aFw
noncomputable abbrev bXt : Code := cL c286
noncomputable abbrev r286 : K := aO CF Tryz.f286
noncomputable def D286 (r : RT) (n : Nat) (c : Code) (X : Nat → K) (k : K) : K := aM CF r 62 n c X r286 k
theorem cFr : D286 r n dHh x0 r286 = (K2 (fM r n) 0 7) :=
 (by kernel_rfl)
theorem bWn (kk4 : cU) : D286 r n pA (xs x0 0 (K2 (fM r n) 0 7)) (K4 kk4 0 1 2 7) = (K4 (aZd r n kk4) 0 1 2 7) :=
 (by kernel_rfl)
theorem bTv (m : Nat) : aL (fun kk => D286 r n pA (xs x0 0 (K2 (fM r n) 0 7)) kk) m = (K4 (wA r n m) 0 1 2 7) := by
 induction m with
 | zero => exact (by kernel_rfl : aL (fun kk => D286 r n pA (xs x0 0 (K2 (fM r n) 0 7)) kk) 0 = (K4 (wA r n 0) 0 1 2 7))
 | succ m ih =>
  refine (by kernel_rfl : aL (fun kk => D286 r n pA (xs x0 0 (K2 (fM r n) 0 7)) kk) (m + 1) = D286 r n pA (xs x0 0 (K2 (fM r n) 0 7)) (aL (fun kk => D286 r n pA (xs x0 0 (K2 (fM r n) 0 7)) kk) m)).trans ?_
  rw [ih]
  exact (bWn r n (wA r n m)).trans (by kernel_rfl)
theorem cTl : D286 r n aGi (xs x0 0 (K2 (fM r n) 0 7)) (K2 (fM r n) 0 7) = (K4 (bKk r n) 0 1 2 7) :=
 (by kernel_rfl : D286 r n aGi (xs x0 0 (K2 (fM r n) 0 7)) (K2 (fM r n) 0 7) = aL (fun kk => D286 r n pA (xs x0 0 (K2 (fM r n) 0 7)) kk) n).trans ((bTv r n n).trans (by kernel_rfl))
theorem bMh : D286 r n aKk x0 r286 = D286 r n aFi x0 (K2 (fM r n) 0 7) :=
 congrArg (fun k => D286 r n aFi x0 k) (cFr r n)
theorem cIv : D286 r n aKk x0 r286 = (K4 (aTz r n) 0 1 2 7) :=
 (bMh r n).trans
 ((by kernel_rfl : D286 r n aFi x0 (K2 (fM r n) 0 7) = D286 r n aGi (xs x0 0 (K2 (fM r n) 0 7)) (K2 (fM r n) 0 7)).trans
 ((cTl r n).trans (by kernel_rfl)))
theorem bUe : D286 r n aFw x0 r286 = D286 r n bWu x0 (K4 (aTz r n) 0 1 2 7) :=
 congrArg (fun k => D286 r n bWu x0 k) (cIv r n)
theorem cQm : D286 r n aFw x0 r286 = (K3 (aRd r n) 0 1 2) :=
 (bUe r n).trans
 ((by kernel_rfl))
theorem dIe : D286 r n c286 x0 r286 = D286 r n bXt x0 (K3 (aRd r n) 0 1 2) :=
 congrArg (fun k => D286 r n bXt x0 k) (cQm r n)
theorem dPx : D286 r n c286 x0 r286 = (K3 (s286 r n) 0 1 2) :=
 (dIe r n).trans
 ((by kernel_rfl))
theorem dLp : aF CF r n 286 args h = s286 r n (aS args 0) (aS args 1) (aS args 2) h :=
 (by kernel_rfl : aF CF r n 286 args h = D286 r n c286 x0 r286 (aH args) h).trans ((congrFun (congrFun (dPx r n) (aH args)) h).trans (by kernel_rfl))
noncomputable def s287 (r : RT) (n : Nat) (x0 : DV) (h0 : Hp) : aG :=
 bnd (cH x0 h0) fun v1 h1 =>
 some ((.f 338 [] [v1]), h1)
noncomputable abbrev c287 : Code := cf Tryz.f287
noncomputable abbrev r287 : K := aO CF Tryz.f287
noncomputable def D287 (r : RT) (n : Nat) (c : Code) (X : Nat → K) (k : K) : K := aM CF r 4 n c X r287 k
theorem dRn : D287 r n c287 x0 r287 = (K1 (s287 r n) 0) :=
 (by kernel_rfl)
theorem dBf : aF CF r n 287 args h = s287 r n (aS args 0) h :=
 (by kernel_rfl : aF CF r n 287 args h = D287 r n c287 x0 r287 (aH args) h).trans ((congrFun (congrFun (dRn r n) (aH args)) h).trans (by kernel_rfl))
noncomputable def iD (r : RT) (n : Nat) (x2 x4 x5 : DV) (h0 : Hp) : aG :=
 bnd (aK 4 x4 h0) fun v1 h1 =>
 bnd (aI 4 x2 v1 h1) fun _ h2 =>
 bnd (aK 4 x2 h2) fun v3 _ =>
 some (.t [v3, x5], h2)
noncomputable def aSo (r : RT) (n : Nat) (x0 x2 x4 x5 x6 : DV) (h0 : Hp) : aG :=
 bnd (r 340 [x6] h0) fun v1 h1 =>
 aT v1 (
 bnd (aB 0 x4 h1) fun v2 h2 =>
 bnd (aI 1 v2 (aJ 1) h2) fun _ h3 =>
 bnd (r 341 [x0] h3) fun v4 h4 =>
 bnd (aC 0 v4 h4) fun v5 h5 =>
 bnd (aC 1 v4 h5) fun v6 h6 =>
 bnd (aB 1 x4 h6) fun v7 h7 =>
 bnd (aI 1 v7 v5 h7) fun _ h8 =>
 bnd (aD .eql v6 (aJ 0) h8) fun v9 h9 =>
 bnd (gD v9 true (some (x0, h9)) h9) fun v10 h10 =>
 bnd (gD v9 true (r 342 [v10] h10) h10) fun v11 h11 =>
 bnd (aN v9 v11 (.b false) h11) fun v12 h12 =>
 aT v12 (
 bnd (aB 1 x4 h12) fun v13 h13 =>
 bnd (aA v13 h13) fun v14 h14 =>
 bnd (bW .add v14 (.s [58]) h14) fun v15 h15 =>
 bnd (aB 0 x4 h15) fun v16 h16 =>
 bnd (aI 1 v16 (aJ 2) h16) fun _ h17 =>
 bnd (aB 1 x4 h17) fun v18 h18 =>
 bnd (aI 1 v18 v15 h18) fun _ h19 =>
      iD r n x2 x4 v6 h19) (
      iD r n x2 x4 v6 h12)) (
 bnd (r 343 [x6] h1) fun v20 h20 =>
 aT v20 (
 bnd (aB 0 x4 h20) fun v21 h21 =>
 bnd (aI 1 v21 (aJ 4) h21) fun _ h22 =>
 bnd (r 344 [x0] h22) fun v23 h23 =>
 bnd (aC 0 v23 h23) fun v24 h24 =>
 bnd (aC 1 v23 h24) fun v25 h25 =>
 bnd (aB 2 x4 h25) fun v26 h26 =>
 bnd (aI 1 v26 v24 h26) fun _ h27 =>
      iD r n x2 x4 v25 h27) (
 bnd (aD .eql x6 (.i .u8 (Int.ofNat 39)) h20) fun v28 h28 =>
 aT v28 (
 bnd (aY x0 h28) fun v29 h29 =>
 bnd (aB 1 v29 h29) fun v30 h30 =>
 bnd (aA v30 h30) fun v31 h31 =>
 bnd (aD .add v31 (aJ 1) h31) fun v32 h32 =>
 bnd (aY x0 h32) fun v33 h33 =>
 bnd (aB 1 v33 h33) fun v34 h34 =>
 bnd (aI 1 v34 v32 h34) fun _ h35 =>
 bnd (aB 0 x4 h35) fun v36 h36 =>
 bnd (aI 1 v36 (aJ 5) h36) fun _ h37 =>
 bnd (r 345 [x0] h37) fun v38 h38 =>
 bnd (aC 0 v38 h38) fun v39 h39 =>
 bnd (aC 1 v38 h39) fun v40 h40 =>
 bnd (aB 1 x4 h40) fun v41 h41 =>
 bnd (aI 1 v41 v39 h41) fun _ h42 =>
    iD r n x2 x4 v40 h42) (
 bnd (aD .eql x6 (.i .u8 (Int.ofNat 35)) h28) fun v43 h43 =>
 bnd (gD v43 true (some (x0, h43)) h43) fun v44 h44 =>
 bnd (gD v43 true (r 339 [v44, (aJ 1)] h44) h44) fun v45 h45 =>
 bnd (gD v43 true (aD .eql v45 (.i .u8 (Int.ofNat 40)) h45) h45) fun v46 h46 =>
 bnd (aN v43 v46 (.b false) h46) fun v47 h47 =>
 aT v47 (
 bnd (aY x0 h47) fun v48 h48 =>
 bnd (aB 1 v48 h48) fun v49 h49 =>
 bnd (aA v49 h49) fun v50 h50 =>
 bnd (aD .add v50 (aJ 2) h50) fun v51 h51 =>
 bnd (aY x0 h51) fun v52 h52 =>
 bnd (aB 1 v52 h52) fun v53 h53 =>
 bnd (aI 1 v53 v51 h53) fun _ h54 =>
 bnd (aB 0 x4 h54) fun v55 h55 =>
 bnd (aI 1 v55 (aJ 7) h55) fun _ h56 =>
     iD r n x2 x4 x5 h56) (
 bnd (aD .eql x6 (.i .u8 (Int.ofNat 35)) h47) fun v57 h57 =>
 aT v57 (
 bnd (aY x0 h57) fun v58 h58 =>
 bnd (aB 1 v58 h58) fun v59 h59 =>
 bnd (aA v59 h59) fun v60 h60 =>
 bnd (aD .add v60 (aJ 1) h60) fun v61 h61 =>
 bnd (aY x0 h61) fun v62 h62 =>
 bnd (aB 1 v62 h62) fun v63 h63 =>
 bnd (aI 1 v63 v61 h63) fun _ h64 =>
 bnd (aB 0 x4 h64) fun v65 h65 =>
 bnd (aI 1 v65 (aJ 6) h65) fun _ h66 =>
 bnd (r 346 [x0] h66) fun v67 h67 =>
 bnd (aC 0 v67 h67) fun v68 h68 =>
 bnd (aC 1 v67 h68) fun v69 h69 =>
 bnd (aB 1 x4 h69) fun v70 h70 =>
 bnd (aI 1 v70 v68 h70) fun _ h71 =>
      iD r n x2 x4 v69 h71) (
 bnd (aD .eql x6 (.i .u8 (Int.ofNat 58)) h57) fun v72 h72 =>
 bnd (gD v72 true (some (x0, h72)) h72) fun v73 h73 =>
 bnd (gD v72 true (r 339 [v73, (aJ 1)] h73) h73) fun v74 h74 =>
 bnd (gD v72 true (aD .eql v74 (.i .u8 (Int.ofNat 61)) h74) h74) fun v75 h75 =>
 bnd (aN v72 v75 (.b false) h75) fun v76 h76 =>
 aT v76 (
 bnd (aY x0 h76) fun v77 h77 =>
 bnd (aB 1 v77 h77) fun v78 h78 =>
 bnd (aA v78 h78) fun v79 h79 =>
 bnd (aD .add v79 (aJ 2) h79) fun v80 h80 =>
 bnd (aY x0 h80) fun v81 h81 =>
 bnd (aB 1 v81 h81) fun v82 h82 =>
 bnd (aI 1 v82 v80 h82) fun _ h83 =>
 bnd (aB 0 x4 h83) fun v84 h84 =>
 bnd (aI 1 v84 (aJ 9) h84) fun _ h85 =>
       iD r n x2 x4 x5 h85) (
 bnd (aD .eql x6 (.i .u8 (Int.ofNat 58)) h76) fun v86 h86 =>
 bnd (gD v86 true (some (x0, h86)) h86) fun v87 h87 =>
 bnd (gD v86 true (r 339 [v87, (aJ 1)] h87) h87) fun v88 h88 =>
 bnd (gD v86 true (r 340 [v88] h88) h88) fun v89 h89 =>
 bnd (aN v86 v89 (.b false) h89) fun v90 h90 =>
 aT v90 (
 bnd (aY x0 h90) fun v91 h91 =>
 bnd (aB 1 v91 h91) fun v92 h92 =>
 bnd (aA v92 h92) fun v93 h93 =>
 bnd (aD .add v93 (aJ 1) h93) fun v94 h94 =>
 bnd (aY x0 h94) fun v95 h95 =>
 bnd (aB 1 v95 h95) fun v96 h96 =>
 bnd (aI 1 v96 v94 h96) fun _ h97 =>
 bnd (aB 0 x4 h97) fun v98 h98 =>
 bnd (aI 1 v98 (aJ 8) h98) fun _ h99 =>
 bnd (r 341 [x0] h99) fun v100 h100 =>
 bnd (aC 0 v100 h100) fun v101 h101 =>
 bnd (aC 1 v100 h101) fun v102 h102 =>
 bnd (aB 1 x4 h102) fun v103 h103 =>
 bnd (aI 1 v103 v101 h103) fun _ h104 =>
        iD r n x2 x4 v102 h104) (
 bnd (r 287 [(.s [43, 45, 42, 47, 60, 62, 61, 126, 44, 64, 38, 37])] h90) fun v105 h105 =>
 bnd (gX CF r v105 [x6] h105) fun v106 h106 =>
 aT v106 (
 bnd (r 287 [(.s [43, 45, 42, 47, 60, 62, 61, 126, 44, 64, 38, 37])] h106) fun v107 h107 =>
 bnd (r 286 [x0, v107, (aJ 2)] h107) fun v108 h108 =>
 bnd (aB 0 x4 h108) fun v109 h109 =>
 bnd (aI 1 v109 (aJ 3) h109) fun _ h110 =>
 bnd (aB 1 x4 h110) fun v111 h111 =>
 bnd (aI 1 v111 v108 h111) fun _ h112 =>
         iD r n x2 x4 x5 h112) (
 bnd (r 287 [(.s [94, 46, 59, 40, 41, 91, 93, 124])] h106) fun v113 h113 =>
 bnd (gX CF r v113 [x6] h113) fun v114 h114 =>
 aT v114 (
 bnd (r 287 [(.s [94, 46, 59, 40, 41, 91, 93, 124])] h114) fun v115 h115 =>
 bnd (r 286 [x0, v115, (aJ 1)] h115) fun v116 h116 =>
 bnd (aB 0 x4 h116) fun v117 h117 =>
 bnd (aI 1 v117 (aJ 10) h117) fun _ h118 =>
 bnd (aB 1 x4 h118) fun v119 h119 =>
 bnd (aI 1 v119 v116 h119) fun _ h120 =>
          iD r n x2 x4 x5 h120) (
          iD r n x2 x4 (aJ 10) h114)))))))))
noncomputable def aSe (r : RT) (n : Nat) (x0 x2 x4 x5 : DV) (h0 : Hp) : aG :=
 bnd (r 339 [x0, (aJ 0)] h0) fun v1 h1 =>
  aSo r n x0 x2 x4 x5 v1 h1
noncomputable def xO (r : RT) (n : Nat) (x0 x2 x4 : DV) (h0 : Hp) : aG :=
 aSe r n x0 x2 x4 (aJ 0) h0
noncomputable def rK (r : RT) (n : Nat) (x0 x2 : DV) (h0 : Hp) : aG :=
 bnd (aY x0 h0) fun v1 h1 =>
 bnd (aB 1 v1 h1) fun v2 h2 =>
 bnd (aA v2 h2) fun v3 h3 =>
 bnd (bL [(aJ 0), (.s []), (aJ 0), (aJ 0)] [(3, 1, v3)] h3) fun v4 h4 =>
 bnd (bQ [(aJ 0), (.s []), (aJ 0), (aJ 0)] h4) fun v5 h5 =>
 bnd (aI 4 v5 v4 h5) fun _ h6 =>
  xO r n x0 x2 v5 h6
noncomputable def s288 (r : RT) (n : Nat) (x0 : DV) (h0 : Hp) : aG :=
 bnd (bQ [(aJ 0), (.s []), (aJ 0), (aJ 0)] h0) fun v1 h1 =>
  rK r n x0 v1 h1
noncomputable abbrev c288 : Code := cf Tryz.f288
noncomputable abbrev aFz : Code := cR c288
noncomputable abbrev aDo : Code := cR aFz
noncomputable abbrev aDf : Code := cR aDo
noncomputable abbrev aLc : Code := cR aDf
noncomputable abbrev cYg : Code := cR aLc
noncomputable abbrev bJl : Code := cL aLc
noncomputable abbrev bVz : Code := cL aDf
noncomputable abbrev bLe : Code := cL aDo
noncomputable abbrev aPm : Code := cL aFz
noncomputable abbrev aKu : Code := cL c288
noncomputable abbrev r288 : K := aO CF Tryz.f288
noncomputable def D288 (r : RT) (n : Nat) (c : Code) (X : Nat → K) (k : K) : K := aM CF r 153 n c X r288 k
theorem cOb : D288 r n cYg x0 r288 = (K3 (iD r n) 2 4 5) :=
 (by kernel_rfl)
theorem bVq : D288 r n aLc x0 r288 = D288 r n bJl x0 (K3 (iD r n) 2 4 5) :=
 congrArg (fun k => D288 r n bJl x0 k) (cOb r n)
theorem cNb : D288 r n aLc x0 r288 = (K5 (aSo r n) 0 2 4 5 6) :=
 (bVq r n).trans
 ((by kernel_rfl))
theorem cEi : D288 r n aDf x0 r288 = D288 r n bVz x0 (K5 (aSo r n) 0 2 4 5 6) :=
 congrArg (fun k => D288 r n bVz x0 k) (cNb r n)
theorem cLx : D288 r n aDf x0 r288 = (K4 (aSe r n) 0 2 4 5) :=
 (cEi r n).trans
 ((by kernel_rfl))
theorem bWp : D288 r n aDo x0 r288 = D288 r n bLe x0 (K4 (aSe r n) 0 2 4 5) :=
 congrArg (fun k => D288 r n bLe x0 k) (cLx r n)
theorem cGt : D288 r n aDo x0 r288 = (K3 (xO r n) 0 2 4) :=
 (bWp r n).trans
 ((by kernel_rfl))
theorem bXk : D288 r n aFz x0 r288 = D288 r n aPm x0 (K3 (xO r n) 0 2 4) :=
 congrArg (fun k => D288 r n aPm x0 k) (cGt r n)
theorem bYx (q0 : fG) : D288 r n aPm x0 (K3 q0 0 2 4) = fun (env : aZ) (h : Hp) =>
 bnd (aY (env 0) h) fun v1 h1 =>
 bnd (aB 1 v1 h1) fun v2 h2 =>
 bnd (aA v2 h2) fun v3 h3 =>
 bnd (bL [(aJ 0), (.s []), (aJ 0), (aJ 0)] [(3, 1, v3)] h3) fun v4 h4 =>
 bnd (bQ [(aJ 0), (.s []), (aJ 0), (aJ 0)] h4) fun v5 h5 =>
 bnd (aI 4 v5 v4 h5) fun _ h6 =>
  q0 (env 0) (env 2) v5 h6 := by kernel_rfl
theorem bGh : (fun (env : aZ) (h : Hp) =>
 bnd (aY (env 0) h) fun v1 h1 =>
 bnd (aB 1 v1 h1) fun v2 h2 =>
 bnd (aA v2 h2) fun v3 h3 =>
 bnd (bL [(aJ 0), (.s []), (aJ 0), (aJ 0)] [(3, 1, v3)] h3) fun v4 h4 =>
 bnd (bQ [(aJ 0), (.s []), (aJ 0), (aJ 0)] h4) fun v5 h5 =>
 bnd (aI 4 v5 v4 h5) fun _ h6 =>
  xO r n (env 0) (env 2) v5 h6) = (K2 (rK r n) 0 2) := by kernel_rfl
theorem cTw : D288 r n aFz x0 r288 = (K2 (rK r n) 0 2) :=
 (bXk r n).trans
 ((bYx r n (xO r n)).trans (bGh r n))
theorem dJk : D288 r n c288 x0 r288 = D288 r n aKu x0 (K2 (rK r n) 0 2) :=
 congrArg (fun k => D288 r n aKu x0 k) (cTw r n)
theorem dLr (q0 : pR) : D288 r n aKu x0 (K2 q0 0 2) = fun (env : aZ) (h : Hp) =>
 bnd (bQ [(aJ 0), (.s []), (aJ 0), (aJ 0)] h) fun v1 h1 =>
  q0 (env 0) v1 h1 := by kernel_rfl
theorem cJy : (fun (env : aZ) (h : Hp) =>
 bnd (bQ [(aJ 0), (.s []), (aJ 0), (aJ 0)] h) fun v1 h1 =>
  rK r n (env 0) v1 h1) = (K1 (s288 r n) 0) := by kernel_rfl
theorem dOe : D288 r n c288 x0 r288 = (K1 (s288 r n) 0) :=
 (dJk r n).trans
 ((dLr r n (rK r n)).trans (cJy r n))
theorem dHf : aF CF r n 288 args h = s288 r n (aS args 0) h :=
 (by kernel_rfl : aF CF r n 288 args h = D288 r n c288 x0 r288 (aH args) h).trans ((congrFun (congrFun (dOe r n) (aH args)) h).trans (by kernel_rfl))
noncomputable def s289 (r : RT) (n : Nat) (x0 x1 x2 : DV) (h0 : Hp) : aG :=
 bnd (r 293 [x0, (aJ 0)] h0) fun v1 h1 =>
 bnd (bQ [(aJ 0), (.s []), (aJ 0), (aJ 0)] h1) fun v2 h2 =>
 bnd (aI 4 v2 v1 h2) fun _ h3 =>
 bnd (aY x0 h3) fun v4 h4 =>
 bnd (aB 3 v4 h4) fun v5 h5 =>
 bnd (aA v5 h5) fun v6 h6 =>
 bnd (aD .eql v6 (aJ 0) h6) fun v7 h7 =>
 bnd (gD v7 true (aB 0 v2 h7) h7) fun v8 h8 =>
 bnd (gD v7 true (aA v8 h8) h8) fun v9 h9 =>
 bnd (gD v7 true (some (x1, h9)) h9) fun v10 h10 =>
 bnd (gD v7 true (aD .eql v9 v10 h10) h10) fun v11 h11 =>
 bnd (aN v7 v11 (.b false) h11) fun v12 h12 =>
 bnd (gD v12 true (some (x2, h12)) h12) fun v13 h13 =>
 bnd (gD v12 true (bW .eql v13 (.s []) h13) h13) fun v14 h14 =>
 bnd (gD v12 true (some (v14, h14)) h14) fun v15 h15 =>
 bnd (gD v15 false (aB 1 v2 h15) h15) fun v16 h16 =>
 bnd (gD v15 false (aA v16 h16) h16) fun v17 h17 =>
 bnd (gD v15 false (some (x2, h17)) h17) fun v18 h18 =>
 bnd (gD v15 false (bW .eql v17 v18 h18) h18) fun v19 h19 =>
 bnd (gD v12 true (aN v15 (.b true) v19 h19) h19) fun v20 h20 =>
 bnd (aN v12 v20 (.b false) h20) fun v21 h21 =>
 some (v21, h21)
noncomputable abbrev c289 : Code := cf Tryz.f289
noncomputable abbrev r289 : K := aO CF Tryz.f289
noncomputable def D289 (r : RT) (n : Nat) (c : Code) (X : Nat → K) (k : K) : K := aM CF r 31 n c X r289 k
theorem dQo : D289 r n c289 x0 r289 = (K3 (s289 r n) 0 1 2) :=
 (by kernel_rfl)
theorem dKk : aF CF r n 289 args h = s289 r n (aS args 0) (aS args 1) (aS args 2) h :=
 (by kernel_rfl : aF CF r n 289 args h = D289 r n c289 x0 r289 (aH args) h).trans ((congrFun (congrFun (dQo r n) (aH args)) h).trans (by kernel_rfl))
noncomputable def aGd (r : RT) (n : Nat) (x2 x3 : DV) (h0 : Hp) : aG :=
 bnd (aK 4 x3 h0) fun v1 h1 =>
 bnd (aI 4 x2 v1 h1) fun _ h2 =>
 bnd (aK 4 x2 h2) fun v3 _ =>
 some (v3, h2)
noncomputable def aAe (r : RT) (n : Nat) (x0 x2 x3 : DV) (h0 : Hp) : aG :=
 bnd (aB 0 x3 h0) fun v1 h1 =>
 bnd (aA v1 h1) fun v2 h2 =>
 bnd (aD .neq v2 (aJ 0) h2) fun v3 h3 =>
 aT v3 (
 bnd (aY x0 h3) fun v4 h4 =>
 bnd (aB 0 v4 h4) fun v5 h5 =>
 bnd (aA v5 h5) fun v6 h6 =>
 bnd (cS 4 v6 (some (aJ 1)) none h6) fun v7 h7 =>
 bnd (aY x0 h7) fun v8 h8 =>
 bnd (aB 0 v8 h8) fun v9 h9 =>
 bnd (aI 1 v9 v7 h9) fun _ h10 =>
  aGd r n x2 x3 h10) (
  aGd r n x2 x3 h3)
noncomputable def rR (r : RT) (n : Nat) (x0 x2 : DV) (h0 : Hp) : aG :=
 bnd (r 293 [x0, (aJ 0)] h0) fun v1 h1 =>
 bnd (bQ [(aJ 0), (.s []), (aJ 0), (aJ 0)] h1) fun v2 h2 =>
 bnd (aI 4 v2 v1 h2) fun _ h3 =>
  aAe r n x0 x2 v2 h3
noncomputable def s290 (r : RT) (n : Nat) (x0 : DV) (h0 : Hp) : aG :=
 bnd (bQ [(aJ 0), (.s []), (aJ 0), (aJ 0)] h0) fun v1 h1 =>
  rR r n x0 v1 h1
noncomputable abbrev c290 : Code := cf Tryz.f290
noncomputable abbrev aIp : Code := cR c290
noncomputable abbrev aHc : Code := cR aIp
noncomputable abbrev dCc : Code := cR aHc
noncomputable abbrev bUf : Code := cL aHc
noncomputable abbrev aVg : Code := cL aIp
noncomputable abbrev aVa : Code := cL c290
noncomputable abbrev r290 : K := aO CF Tryz.f290
noncomputable def D290 (r : RT) (n : Nat) (c : Code) (X : Nat → K) (k : K) : K := aM CF r 18 n c X r290 k
theorem cPr : D290 r n dCc x0 r290 = (K2 (aGd r n) 2 3) :=
 (by kernel_rfl)
theorem bZo : D290 r n aHc x0 r290 = D290 r n bUf x0 (K2 (aGd r n) 2 3) :=
 congrArg (fun k => D290 r n bUf x0 k) (cPr r n)
theorem cLq : D290 r n aHc x0 r290 = (K3 (aAe r n) 0 2 3) :=
 (bZo r n).trans
 ((by kernel_rfl))
theorem bYy : D290 r n aIp x0 r290 = D290 r n aVg x0 (K3 (aAe r n) 0 2 3) :=
 congrArg (fun k => D290 r n aVg x0 k) (cLq r n)
theorem bRi (q0 : fG) : D290 r n aVg x0 (K3 q0 0 2 3) = fun (env : aZ) (h : Hp) =>
 bnd (r 293 [(env 0), (aJ 0)] h) fun v1 h1 =>
 bnd (bQ [(aJ 0), (.s []), (aJ 0), (aJ 0)] h1) fun v2 h2 =>
 bnd (aI 4 v2 v1 h2) fun _ h3 =>
  q0 (env 0) (env 2) v2 h3 := by kernel_rfl
theorem bGb : (fun (env : aZ) (h : Hp) =>
 bnd (r 293 [(env 0), (aJ 0)] h) fun v1 h1 =>
 bnd (bQ [(aJ 0), (.s []), (aJ 0), (aJ 0)] h1) fun v2 h2 =>
 bnd (aI 4 v2 v1 h2) fun _ h3 =>
  aAe r n (env 0) (env 2) v2 h3) = (K2 (rR r n) 0 2) := by kernel_rfl
theorem cHq : D290 r n aIp x0 r290 = (K2 (rR r n) 0 2) :=
 (bYy r n).trans
 ((bRi r n (aAe r n)).trans (bGb r n))
theorem dIa : D290 r n c290 x0 r290 = D290 r n aVa x0 (K2 (rR r n) 0 2) :=
 congrArg (fun k => D290 r n aVa x0 k) (cHq r n)
theorem dEp (q0 : pR) : D290 r n aVa x0 (K2 q0 0 2) = fun (env : aZ) (h : Hp) =>
 bnd (bQ [(aJ 0), (.s []), (aJ 0), (aJ 0)] h) fun v1 h1 =>
  q0 (env 0) v1 h1 := by kernel_rfl
theorem cOl : (fun (env : aZ) (h : Hp) =>
 bnd (bQ [(aJ 0), (.s []), (aJ 0), (aJ 0)] h) fun v1 h1 =>
  rR r n (env 0) v1 h1) = (K1 (s290 r n) 0) := by kernel_rfl
theorem dRq : D290 r n c290 x0 r290 = (K1 (s290 r n) 0) :=
 (dIa r n).trans
 ((dEp r n (rR r n)).trans (cOl r n))
theorem dDx : aF CF r n 290 args h = s290 r n (aS args 0) h :=
 (by kernel_rfl : aF CF r n 290 args h = D290 r n c290 x0 r290 (aH args) h).trans ((congrFun (congrFun (dRq r n) (aH args)) h).trans (by kernel_rfl))
noncomputable def s291 (r : RT) (n : Nat) (x0 : DV) (h0 : Hp) : aG :=
 bnd (bQ tJ h0) fun v1 h1 =>
 bnd (r 289 [x0, (aJ 1), (.s [])] h1) fun v2 h2 =>
 bnd (gD v2 true (some (x0, h2)) h2) fun v3 h3 =>
 bnd (gD v2 true (r 293 [v3, (aJ 1)] h3) h3) fun v4 h4 =>
 bnd (gD v2 true (jS 0 v4 h4) h4) fun v5 h5 =>
 bnd (gD v2 true (aD .eql v5 (aJ 9) h5) h5) fun v6 h6 =>
 bnd (aN v2 v6 (.b false) h6) fun v7 h7 =>
 aT v7 (
 bnd (r 290 [x0] h7) fun v8 h8 =>
 bnd (jS 1 v8 h8) fun v9 h9 =>
 bnd (bL tJ [(0, 1, (aJ 6)), (1, 1, v9)] h9) fun v10 h10 =>
 bnd (bQ tJ h10) fun v11 h11 =>
 bnd (aI 6 v11 v10 h11) fun _ h12 =>
 bnd (r 290 [x0] h12) fun v13 h13 =>
 bnd (r 291 [x0] h13) fun v14 h14 =>
 bnd (aP tJ 1 [(0, 6, v14)] h14) fun v15 h15 =>
 bnd (aB 5 v11 h15) fun v16 h16 =>
 bnd (aI 1 v16 v15 h16) fun _ h17 =>
 bnd (aK 6 v11 h17) fun v18 h18 =>
 bnd (aI 6 v1 v18 h18) fun _ h19 =>
 bnd (aK 6 v1 h19) fun v20 _ =>
 some (v20, h19)) (
 bnd (r 347 [x0] h7) fun v21 h21 =>
 bnd (aI 6 v1 v21 h21) fun _ h22 =>
 bnd (aK 6 v1 h22) fun v23 _ =>
 some (v23, h22))
noncomputable abbrev c291 : Code := cf Tryz.f291
noncomputable abbrev r291 : K := aO CF Tryz.f291
noncomputable def D291 (r : RT) (n : Nat) (c : Code) (X : Nat → K) (k : K) : K := aM CF r 25 n c X r291 k
theorem dSt : D291 r n c291 x0 r291 = (K1 (s291 r n) 0) :=
 (by kernel_rfl)
theorem cYf : aF CF r n 291 args h = s291 r n (aS args 0) h :=
 (by kernel_rfl : aF CF r n 291 args h = D291 r n c291 x0 r291 (aH args) h).trans ((congrFun (congrFun (dSt r n) (aH args)) h).trans (by kernel_rfl))
end Go.Dd

namespace Go.Dd
open Go.Proofs
variable (r : RT) (n : Nat) (args : List DV) (h : Hp)
noncomputable def s293 (r : RT) (n : Nat) (x0 x1 : DV) (h0 : Hp) : aG :=
 bnd (bQ [(aJ 0), (.s []), (aJ 0), (aJ 0)] h0) fun v1 h1 =>
 bnd (aY x0 h1) fun v2 h2 =>
 bnd (aB 0 v2 h2) fun v3 h3 =>
 bnd (aA v3 h3) fun v4 h4 =>
 bnd (aY x0 h4) fun v5 h5 =>
 bnd (aB 0 v5 h5) fun v6 h6 =>
 bnd (aA v6 h6) fun v7 h7 =>
 bnd (bV v7 h7) fun v8 h8 =>
 bnd (aD .sub v8 (aJ 1) h8) fun v9 h9 =>
 bnd (aRo x1 v9 h9) fun v10 h10 =>
 bnd (aE 4 v4 v10 h10) fun v11 h11 =>
 bnd (aK 4 v11 h11) fun v12 h12 =>
 bnd (aI 4 v1 v12 h12) fun v13 h13 =>
 bnd (aK 4 v1 h13) fun v14 _ =>
 some (v14, h13)
noncomputable abbrev c293 : Code := cf Tryz.f293
noncomputable abbrev r293 : K := aO CF Tryz.f293
noncomputable def D293 (r : RT) (n : Nat) (c : Code) (X : Nat → K) (k : K) : K := aM CF r 19 n c X r293 k
theorem dQq : D293 r n c293 x0 r293 = (K2 (s293 r n) 0 1) :=
 (by kernel_rfl)
theorem dHk : aF CF r n 293 args h = s293 r n (aS args 0) (aS args 1) h :=
 (by kernel_rfl : aF CF r n 293 args h = D293 r n c293 x0 r293 (aH args) h).trans ((congrFun (congrFun (dQq r n) (aH args)) h).trans (by kernel_rfl))
noncomputable def rX (r : RT) (n : Nat) (x0 x3 x11 x14 : DV) (h0 : Hp) : aG :=
 aT x14 (
 bnd (aK 6 x3 h0) fun v1 h1 =>
 bnd (r 352 [x0, v1] h1) fun v2 h2 =>
 bnd (aLz [x0, v2] h2) fun v3 h3 =>
 bnd (r 296 [x0, (aJ 6), v3, (aJ 0)] h3) fun v4 h4 =>
 some (.t [], h4)) (
 bnd (aD .eql x11 (aJ 5) h0) fun v5 h5 =>
 aT v5 (
 bnd (aB 1 x3 h5) fun v6 h6 =>
 bnd (aA v6 h6) fun v7 h7 =>
 bnd (r 353 [x0, v7] h7) fun v8 h8 =>
 some (.t [], h8)) (
 bnd (aD .eql x11 (aJ 6) h5) fun v9 h9 =>
 aT v9 (
 bnd (aK 6 x3 h9) fun v10 h10 =>
 bnd (r 354 [x0, v10] h10) fun v11 h11 =>
 some (.t [], h11)) (
 bnd (aD .eql x11 (aJ 7) h9) fun v12 h12 =>
 aT v12 (
 bnd (aK 6 x3 h12) fun v13 h13 =>
 bnd (r 355 [x0, v13] h13) fun v14 h14 =>
 some (.t [], h14)) (
 bnd (aD .eql x11 (aJ 8) h12) fun v15 h15 =>
 aT v15 (
 bnd (aK 6 x3 h15) fun v16 h16 =>
 bnd (r 356 [x0, v16] h16) fun v17 h17 =>
 some (.t [], h17)) (
 bnd (aD .eql x11 (aJ 9) h15) fun v18 h18 =>
 aT v18 (
 bnd (aY x0 h18) fun v19 h19 =>
 bnd (aB 0 v19 h19) fun v20 h20 =>
 bnd (aB 2 v20 h20) fun v21 h21 =>
 bnd (aA v21 h21) fun v22 h22 =>
 bnd (aB 3 x3 h22) fun v23 h23 =>
 bnd (aA v23 h23) fun v24 h24 =>
 bnd (bV v24 h24) fun v25 h25 =>
 bnd (r 296 [x0, (aJ 18), v22, v25] h25) fun v26 h26 =>
 bnd (r 357 [x0, (aJ 16)] h26) fun v27 h27 =>
 bnd (aK 6 x3 h27) fun v28 h28 =>
 bnd (r 358 [x0, v28] h28) fun v29 h29 =>
 bnd (r 296 [x0, (aJ 19), (aJ 0), (aJ 0)] h29) fun v30 h30 =>
 bnd (gX CF r v27 [] h30) fun v31 h31 =>
 some (.t [], h31)) (
 bnd (aD .eql x11 (aJ 10) h18) fun v32 h32 =>
 aT v32 (
 bnd (aK 6 x3 h32) fun v33 h33 =>
 bnd (r 359 [x0, v33] h33) fun v34 h34 =>
 aT v34 (
 bnd (aB 5 x3 h34) fun v35 h35 =>
 bnd (aA v35 h35) fun v36 h36 =>
 bnd (aE 6 v36 (aJ 0) h36) fun v37 h37 =>
 bnd (aK 6 v37 h37) fun v38 h38 =>
 bnd (r 295 [x0, v38] h38) fun v39 h39 =>
 bnd (r 296 [x0, (aJ 20), (aJ 0), (aJ 0)] h39) fun v40 h40 =>
 some (.t [], h40)) (
 some (.t [], h34))) (
 bnd (r 350 [x0, (.s []), (aJ 1)] h32) fun v41 h41 =>
 some (.t [], h41))))))))
noncomputable def aVh (r : RT) (n : Nat) (x0 x3 x11 : DV) (h0 : Hp) : aG :=
 bnd (aD .eql x11 (aJ 1) h0) fun v1 h1 =>
 aT v1 (
  rX r n x0 x3 x11 v1 h1) (
 bnd (aD .eql x11 (aJ 2) h1) fun v2 h2 =>
 aT v2 (
   rX r n x0 x3 x11 v2 h2) (
 bnd (aD .eql x11 (aJ 3) h2) fun v3 h3 =>
 aT v3 (
    rX r n x0 x3 x11 v3 h3) (
 bnd (aD .eql x11 (aJ 4) h3) fun v4 h4 =>
    rX r n x0 x3 x11 v4 h4)))
noncomputable def aRy (r : RT) (n : Nat) (x0 x3 : DV) (h0 : Hp) : aG :=
 bnd (aB 0 x3 h0) fun v1 h1 =>
 bnd (aA v1 h1) fun v2 h2 =>
  aVh r n x0 x3 v2 h2
noncomputable def zQ (r : RT) (n : Nat) (x0 x3 : DV) (h0 : Hp) : aG :=
 bnd (aY x0 h0) fun v1 h1 =>
 bnd (aB 8 v1 h1) fun v2 h2 =>
 bnd (aA v2 h2) fun v3 h3 =>
 bnd (aD .neq v3 (aJ 0) h3) fun v4 h4 =>
 aT v4 (
 some (.t [], h4)) (
  aRy r n x0 x3 h4)
noncomputable def s295 (r : RT) (n : Nat) (x0 x1 : DV) (h0 : Hp) : aG :=
 bnd (cH x1 h0) fun v1 h1 =>
  zQ r n x0 v1 h1
noncomputable abbrev c295 : Code := cf Tryz.f295
noncomputable abbrev aCz : Code := cR c295
noncomputable abbrev aFu : Code := cR aCz
noncomputable abbrev aSw : Code := cR aFu
noncomputable abbrev aHx : Code := cL aSw
noncomputable abbrev dHn : Code := cR aHx
noncomputable abbrev bLa : Code := cL aHx
noncomputable abbrev bOx : Code := cL aFu
noncomputable abbrev cBo : Code := cL aCz
noncomputable abbrev aVz : Code := cL c295
noncomputable abbrev r295 : K := aO CF Tryz.f295
noncomputable def D295 (r : RT) (n : Nat) (c : Code) (X : Nat → K) (k : K) : K := aM CF r 81 n c X r295 k
theorem cIh : D295 r n dHn (xs x0 0 r295) r295 = (K4 (rX r n) 0 3 11 14) :=
 (by kernel_rfl)
theorem bVr : D295 r n aHx (xs x0 0 r295) r295 = D295 r n bLa (xs x0 0 r295) (K4 (rX r n) 0 3 11 14) :=
 congrArg (fun k => D295 r n bLa (xs x0 0 r295) k) (cIh r n)
theorem cPn : D295 r n aSw x0 r295 = (K3 (aVh r n) 0 3 11) :=
 (by kernel_rfl : D295 r n aSw x0 r295 = D295 r n aHx (xs x0 0 r295) r295).trans
 ((bVr r n).trans
 ((by kernel_rfl)))
theorem cEe : D295 r n aFu x0 r295 = D295 r n bOx x0 (K3 (aVh r n) 0 3 11) :=
 congrArg (fun k => D295 r n bOx x0 k) (cPn r n)
theorem cIp : D295 r n aFu x0 r295 = (K2 (aRy r n) 0 3) :=
 (cEe r n).trans
 ((by kernel_rfl))
theorem bYa : D295 r n aCz x0 r295 = D295 r n cBo x0 (K2 (aRy r n) 0 3) :=
 congrArg (fun k => D295 r n cBo x0 k) (cIp r n)
theorem cGm : D295 r n aCz x0 r295 = (K2 (zQ r n) 0 3) :=
 (bYa r n).trans
 ((by kernel_rfl))
theorem cYd : D295 r n c295 x0 r295 = D295 r n aVz x0 (K2 (zQ r n) 0 3) :=
 congrArg (fun k => D295 r n aVz x0 k) (cGm r n)
theorem dLw (q0 : pR) : D295 r n aVz x0 (K2 q0 0 3) = fun (env : aZ) (h : Hp) =>
 bnd (cH (env 1) h) fun v1 h1 =>
  q0 (env 0) v1 h1 := by kernel_rfl
theorem cHt : (fun (env : aZ) (h : Hp) =>
 bnd (cH (env 1) h) fun v1 h1 =>
  zQ r n (env 0) v1 h1) = (K2 (s295 r n) 0 1) := by kernel_rfl
theorem dSx : D295 r n c295 x0 r295 = (K2 (s295 r n) 0 1) :=
 (cYd r n).trans
 ((dLw r n (zQ r n)).trans (cHt r n))
theorem dKr : aF CF r n 295 args h = s295 r n (aS args 0) (aS args 1) h :=
 (by kernel_rfl : aF CF r n 295 args h = D295 r n c295 x0 r295 (aH args) h).trans ((congrFun (congrFun (dSx r n) (aH args)) h).trans (by kernel_rfl))
noncomputable def s296 (r : RT) (n : Nat) (x0 x1 x2 x3 : DV) (h0 : Hp) : aG :=
 bnd (aY x0 h0) fun v1 h1 =>
 bnd (aB 0 v1 h1) fun v2 h2 =>
 bnd (aB 5 v2 h2) fun v3 h3 =>
 bnd (aA v3 h3) fun v4 h4 =>
 bnd (bL [(aJ 0), (aJ 0), (aJ 0)] [(0, 1, x1), (1, 1, x2), (2, 1, x3)] h4) fun v5 h5 =>
 bnd (aP [(aJ 0), (aJ 0), (aJ 0)] 1 [(0, 3, v5)] h5) fun v6 h6 =>
 bnd (bF 3 24 v4 v6 h6) fun v7 h7 =>
 bnd (aY x0 h7) fun v8 h8 =>
 bnd (aB 0 v8 h8) fun v9 h9 =>
 bnd (aB 5 v9 h9) fun v10 h10 =>
 bnd (aI 1 v10 v7 h10) fun _ h11 =>
 some (.t [], h11)
noncomputable abbrev c296 : Code := cf Tryz.f296
noncomputable abbrev r296 : K := aO CF Tryz.f296
noncomputable def D296 (r : RT) (n : Nat) (c : Code) (X : Nat → K) (k : K) : K := aM CF r 23 n c X r296 k
theorem dSv : D296 r n c296 x0 r296 = (K4 (s296 r n) 0 1 2 3) :=
 (by kernel_rfl)
theorem dGq : aF CF r n 296 args h = s296 r n (aS args 0) (aS args 1) (aS args 2) (aS args 3) h :=
 (by kernel_rfl : aF CF r n 296 args h = D296 r n c296 x0 r296 (aH args) h).trans ((congrFun (congrFun (dSv r n) (aH args)) h).trans (by kernel_rfl))
noncomputable def cM (r : RT) (n : Nat) (x2 x3 : DV) (h0 : Hp) : aG :=
 some (.t [x2, x3], h0)
noncomputable def cW (r : RT) (n : Nat) (x3 : DV) (h0 : Hp) : aG :=
 cM r n (.b true) x3 h0
noncomputable def dO (r : RT) (n : Nat) (h0 : Hp) : aG :=
 cW r n (.b true) h0
noncomputable def pN (r : RT) (n : Nat) (x2 x3 : DV) (h0 : Hp) : aG :=
 cM r n x2 x3 h0
noncomputable def nA (r : RT) (n : Nat) (x2 x3 x11 : DV) (h0 : Hp) : aG :=
 aT x11 (
  cW r n x3 h0) (
  pN r n x2 x3 h0)
noncomputable def yE (r : RT) (n : Nat) (x2 x3 x4 : DV) (h0 : Hp) : aG :=
 bnd (aD .eql x4 (aJ 6) h0) fun v1 h1 =>
 aT v1 (
  nA r n x2 x3 v1 h1) (
 bnd (aD .eql x4 (aJ 7) h1) fun v2 h2 =>
 aT v2 (
   nA r n x2 x3 v2 h2) (
 bnd (aD .eql x4 (aJ 8) h2) fun v3 h3 =>
 aT v3 (
    nA r n x2 x3 v3 h3) (
 bnd (aD .eql x4 (aJ 9) h3) fun v4 h4 =>
 aT v4 (
     nA r n x2 x3 v4 h4) (
 bnd (aD .eql x4 (aJ 10) h4) fun v5 h5 =>
 aT v5 (
      nA r n x2 x3 v5 h5) (
 bnd (aD .eql x4 (aJ 11) h5) fun v6 h6 =>
      nA r n x2 x3 v6 h6)))))
noncomputable def pB (r : RT) (n : Nat) (x2 x3 x4 x5 : DV) (h0 : Hp) : aG :=
 aT x5 (
  dO r n h0) (
  yE r n x2 x3 x4 h0)
noncomputable def aRh (r : RT) (n : Nat) (x2 x3 x4 : DV) (h0 : Hp) : aG :=
 bnd (aD .eql x4 (aJ 14) h0) fun v1 h1 =>
 aT v1 (
  pB r n x2 x3 x4 v1 h1) (
 bnd (aD .eql x4 (aJ 15) h1) fun v2 h2 =>
 aT v2 (
   pB r n x2 x3 x4 v2 h2) (
 bnd (aD .eql x4 (aJ 16) h2) fun v3 h3 =>
 aT v3 (
    pB r n x2 x3 x4 v3 h3) (
 bnd (aD .eql x4 (aJ 17) h3) fun v4 h4 =>
 aT v4 (
     pB r n x2 x3 x4 v4 h4) (
 bnd (aD .eql x4 (aJ 18) h4) fun v5 h5 =>
     pB r n x2 x3 x4 v5 h5))))
noncomputable def aRk (r : RT) (n : Nat) (x0 x2 x3 : DV) (h0 : Hp) : aG :=
 aRh r n x2 x3 x0 h0
noncomputable def s297 (r : RT) (n : Nat) (x0 : DV) (h0 : Hp) : aG :=
 aRk r n x0 (.b false) (.b false) h0
noncomputable abbrev c297 : Code := cf Tryz.f297
noncomputable abbrev aDn : Code := cR c297
noncomputable abbrev dJn : Code := cR aDn
noncomputable abbrev zS : Code := cL aDn
noncomputable abbrev aRq : Code := cR zS
noncomputable abbrev aHi : Code := cL aRq
noncomputable abbrev dAi : Code := cR aHi
noncomputable abbrev aJl : Code := cL aHi
noncomputable abbrev aHp : Code := cL aJl
noncomputable abbrev dDj : Code := cR aHp
noncomputable abbrev vK : Code := cL aHp
noncomputable abbrev vL : Code := cL vK
noncomputable abbrev cQu : Code := cR vL
noncomputable abbrev pV : Code := cL vL
noncomputable abbrev vW : Code := cR pV
noncomputable abbrev cJd : Code := cR vW
noncomputable abbrev bEq : Code := cL vW
noncomputable abbrev pX : Code := cL pV
noncomputable abbrev cKq : Code := cR pX
noncomputable abbrev bCw : Code := cL pX
noncomputable abbrev bCg : Code := cL zS
noncomputable abbrev bDq : Code := cL c297
noncomputable abbrev r297 : K := aO CF Tryz.f297
noncomputable def D297 (r : RT) (n : Nat) (c : Code) (X : Nat → K) (k : K) : K := aM CF r 20 n c X r297 k
theorem cEt : D297 r n dJn x0 r297 = (K2 (cM r n) 2 3) :=
 (by kernel_rfl)
theorem cIs : D297 r n dAi (xs x0 0 (K2 (cM r n) 2 3)) (K2 (cM r n) 2 3) = (K1 (cW r n) 3) :=
 (by kernel_rfl)
theorem cRj : D297 r n dDj (xs (xs x0 0 (K2 (cM r n) 2 3)) 2 (K1 (cW r n) 3)) (K1 (cW r n) 3) = (K0 (dO r n)) :=
 (by kernel_rfl)
theorem cFc : D297 r n cQu (xs (xs (xs x0 0 (K2 (cM r n) 2 3)) 2 (K1 (cW r n) 3)) 1 (K0 (dO r n))) (K0 (dO r n)) = (K2 (pN r n) 2 3) :=
 (by kernel_rfl)
theorem cFd : D297 r n cJd (xs (xs (xs x0 0 (K2 (cM r n) 2 3)) 2 (K1 (cW r n) 3)) 1 (K0 (dO r n))) (K2 (pN r n) 2 3) = (K3 (nA r n) 2 3 11) :=
 (by kernel_rfl)
theorem bYz : D297 r n vW (xs (xs (xs x0 0 (K2 (cM r n) 2 3)) 2 (K1 (cW r n) 3)) 1 (K0 (dO r n))) (K2 (pN r n) 2 3) = D297 r n bEq (xs (xs (xs x0 0 (K2 (cM r n) 2 3)) 2 (K1 (cW r n) 3)) 1 (K0 (dO r n))) (K3 (nA r n) 2 3 11) :=
 congrArg (fun k => D297 r n bEq (xs (xs (xs x0 0 (K2 (cM r n) 2 3)) 2 (K1 (cW r n) 3)) 1 (K0 (dO r n))) k) (cFd r n)
theorem cHd : D297 r n vW (xs (xs (xs x0 0 (K2 (cM r n) 2 3)) 2 (K1 (cW r n) 3)) 1 (K0 (dO r n))) (K2 (pN r n) 2 3) = (K3 (yE r n) 2 3 4) :=
 (bYz r n).trans
 ((by kernel_rfl))
theorem cQd : D297 r n cKq (xs (xs (xs x0 0 (K2 (cM r n) 2 3)) 2 (K1 (cW r n) 3)) 1 (K0 (dO r n))) (K3 (yE r n) 2 3 4) = (K4 (pB r n) 2 3 4 5) :=
 (by kernel_rfl)
theorem bSp : D297 r n aHi (xs x0 0 (K2 (cM r n) 2 3)) (K2 (cM r n) 2 3) = D297 r n aJl (xs x0 0 (K2 (cM r n) 2 3)) (K1 (cW r n) 3) :=
 congrArg (fun k => D297 r n aJl (xs x0 0 (K2 (cM r n) 2 3)) k) (cIs r n)
theorem bVg : D297 r n aHp (xs (xs x0 0 (K2 (cM r n) 2 3)) 2 (K1 (cW r n) 3)) (K1 (cW r n) 3) = D297 r n vK (xs (xs x0 0 (K2 (cM r n) 2 3)) 2 (K1 (cW r n) 3)) (K0 (dO r n)) :=
 congrArg (fun k => D297 r n vK (xs (xs x0 0 (K2 (cM r n) 2 3)) 2 (K1 (cW r n) 3)) k) (cRj r n)
theorem bPm : D297 r n vL (xs (xs (xs x0 0 (K2 (cM r n) 2 3)) 2 (K1 (cW r n) 3)) 1 (K0 (dO r n))) (K0 (dO r n)) = D297 r n pV (xs (xs (xs x0 0 (K2 (cM r n) 2 3)) 2 (K1 (cW r n) 3)) 1 (K0 (dO r n))) (K2 (pN r n) 2 3) :=
 congrArg (fun k => D297 r n pV (xs (xs (xs x0 0 (K2 (cM r n) 2 3)) 2 (K1 (cW r n) 3)) 1 (K0 (dO r n))) k) (cFc r n)
theorem bWl : D297 r n pV (xs (xs (xs x0 0 (K2 (cM r n) 2 3)) 2 (K1 (cW r n) 3)) 1 (K0 (dO r n))) (K2 (pN r n) 2 3) = D297 r n pX (xs (xs (xs x0 0 (K2 (cM r n) 2 3)) 2 (K1 (cW r n) 3)) 1 (K0 (dO r n))) (K3 (yE r n) 2 3 4) :=
 congrArg (fun k => D297 r n pX (xs (xs (xs x0 0 (K2 (cM r n) 2 3)) 2 (K1 (cW r n) 3)) 1 (K0 (dO r n))) k) (cHd r n)
theorem bPk : D297 r n pX (xs (xs (xs x0 0 (K2 (cM r n) 2 3)) 2 (K1 (cW r n) 3)) 1 (K0 (dO r n))) (K3 (yE r n) 2 3 4) = D297 r n bCw (xs (xs (xs x0 0 (K2 (cM r n) 2 3)) 2 (K1 (cW r n) 3)) 1 (K0 (dO r n))) (K4 (pB r n) 2 3 4 5) :=
 congrArg (fun k => D297 r n bCw (xs (xs (xs x0 0 (K2 (cM r n) 2 3)) 2 (K1 (cW r n) 3)) 1 (K0 (dO r n))) k) (cQd r n)
theorem cHj : D297 r n aRq x0 (K2 (cM r n) 2 3) = (K3 (aRh r n) 2 3 4) :=
 (by kernel_rfl : D297 r n aRq x0 (K2 (cM r n) 2 3) = D297 r n aHi (xs x0 0 (K2 (cM r n) 2 3)) (K2 (cM r n) 2 3)).trans
 ((bSp r n).trans
 ((by kernel_rfl : D297 r n aJl (xs x0 0 (K2 (cM r n) 2 3)) (K1 (cW r n) 3) = D297 r n aHp (xs (xs x0 0 (K2 (cM r n) 2 3)) 2 (K1 (cW r n) 3)) (K1 (cW r n) 3)).trans
 ((bVg r n).trans
 ((by kernel_rfl : D297 r n vK (xs (xs x0 0 (K2 (cM r n) 2 3)) 2 (K1 (cW r n) 3)) (K0 (dO r n)) = D297 r n vL (xs (xs (xs x0 0 (K2 (cM r n) 2 3)) 2 (K1 (cW r n) 3)) 1 (K0 (dO r n))) (K0 (dO r n))).trans
 ((bPm r n).trans
 ((bWl r n).trans
 ((bPk r n).trans
 ((by kernel_rfl)))))))))
theorem bJt : D297 r n aDn x0 r297 = D297 r n zS x0 (K2 (cM r n) 2 3) :=
 congrArg (fun k => D297 r n zS x0 k) (cEt r n)
theorem bSn : D297 r n zS x0 (K2 (cM r n) 2 3) = D297 r n bCg x0 (K3 (aRh r n) 2 3 4) :=
 congrArg (fun k => D297 r n bCg x0 k) (cHj r n)
theorem cGw : D297 r n aDn x0 r297 = (K3 (aRk r n) 0 2 3) :=
 (bJt r n).trans
 ((bSn r n).trans
 ((by kernel_rfl)))
theorem dAq : D297 r n c297 x0 r297 = D297 r n bDq x0 (K3 (aRk r n) 0 2 3) :=
 congrArg (fun k => D297 r n bDq x0 k) (cGw r n)
theorem dNr : D297 r n c297 x0 r297 = (K1 (s297 r n) 0) :=
 (dAq r n).trans
 ((by kernel_rfl))
theorem dFa : aF CF r n 297 args h = s297 r n (aS args 0) h :=
 (by kernel_rfl : aF CF r n 297 args h = D297 r n c297 x0 r297 (aH args) h).trans ((congrFun (congrFun (dNr r n) (aH args)) h).trans (by kernel_rfl))
noncomputable def s298 (r : RT) (n : Nat) (x0 x1 : DV) (h0 : Hp) : aG :=
 bnd (aD .eql x0 (aJ 0) h0) fun v1 h1 =>
 bnd (gD v1 false (some (x1, h1)) h1) fun v2 h2 =>
 bnd (gD v1 false (some (v2, h2)) h2) fun v3 h3 =>
 bnd (gD v3 true (some (x0, h3)) h3) fun v4 h4 =>
 bnd (gD v3 true (aD .gtr v4 (aJ 0) h4) h4) fun v5 h5 =>
 bnd (gD v1 false (aN v3 v5 (.b false) h5) h5) fun v6 h6 =>
 bnd (gD v1 false (some (v6, h6)) h6) fun v7 h7 =>
 bnd (gD v7 true (some (x0, h7)) h7) fun v8 h8 =>
 bnd (gD v7 true (aD .leq v8 (aJ 255) h8) h8) fun v9 h9 =>
 bnd (gD v1 false (aN v7 v9 (.b false) h9) h9) fun v10 h10 =>
 bnd (aN v1 (.b true) v10 h10) fun v11 h11 =>
 some (v11, h11)
noncomputable abbrev c298 : Code := cf Tryz.f298
noncomputable abbrev r298 : K := aO CF Tryz.f298
noncomputable def D298 (r : RT) (n : Nat) (c : Code) (X : Nat → K) (k : K) : K := aM CF r 18 n c X r298 k
theorem dTx : D298 r n c298 x0 r298 = (K2 (s298 r n) 0 1) :=
 (by kernel_rfl)
theorem dLx : aF CF r n 298 args h = s298 r n (aS args 0) (aS args 1) h :=
 (by kernel_rfl : aF CF r n 298 args h = D298 r n c298 x0 r298 (aH args) h).trans ((congrFun (congrFun (dTx r n) (aH args)) h).trans (by kernel_rfl))
noncomputable def eI (r : RT) (n : Nat) (x2 : DV) (h0 : Hp) : aG :=
 bnd (aB 5 x2 h0) fun v1 h1 =>
 bnd (aA v1 h1) fun v2 h2 =>
 bnd (r 365 [v2] h2) fun v3 h3 =>
 bnd (aB 5 x2 h3) fun v4 h4 =>
 bnd (aA v4 h4) fun v5 h5 =>
 bnd (r 366 [v5, v3] h5) fun v6 h6 =>
 bnd (hZ .not v6 h6) fun v7 h7 =>
 aT v7 (
 some (.t [.l0, (aJ 19)], h7)) (
 bnd (aB 5 x2 h7) fun v8 h8 =>
 bnd (aA v8 h8) fun v9 h9 =>
 bnd (r 367 [v9, v3] h9) fun v10 h10 =>
 bnd (aC 0 v10 h10) fun v11 h11 =>
 bnd (aC 1 v10 h11) fun v12 h12 =>
 bnd (hZ .not v12 h12) fun v13 h13 =>
 aT v13 (
 some (.t [.l0, (aJ 19)], h13)) (
 some (.t [v11, (aJ 0)], h13)))
noncomputable def aEg (r : RT) (n : Nat) (kk7 : cI) (x1 x2 x60 x61 x62 : DV) (h0 : Hp) : aG :=
 bnd (aD .lss x62 x61 h0) fun v1 h1 =>
 aT v1 (
 bnd (aE 3 x60 x62 h1) fun v2 h2 =>
 bnd (aK 3 v2 h2) fun v3 h3 =>
 bnd (bQ [(aJ 0), (aJ 0), (aJ 0)] h3) fun v4 h4 =>
 bnd (aI 3 v4 v3 h4) fun _ h5 =>
 bnd (aK 3 v4 h5) fun v6 h6 =>
 bnd (r 223 [v6] h6) fun v7 h7 =>
 bnd (hZ .not v7 h7) fun v8 h8 =>
 bnd (gD v8 false (aK 6 x2 h8) h8) fun v9 h9 =>
 bnd (gD v8 false (aK 3 v4 h9) h9) fun v10 h10 =>
 bnd (gD v8 false (some (x1, h10)) h10) fun v11 h11 =>
 bnd (gD v8 false (r 364 [v9, v10, v11] h11) h11) fun v12 h12 =>
 bnd (gD v8 false (hZ .not v12 h12) h12) fun v13 h13 =>
 bnd (aN v8 (.b true) v13 h13) fun v14 h14 =>
 aT v14 (
 some (.t [.l0, (aJ 19)], h14)) (
 bnd (aD .add x62 (aJ 1) h14) fun v15 h15 =>
    kk7 x1 x2 x60 x61 v15 h15)) (
      eI r n x2 h1)
noncomputable def uQ (r : RT) (n : Nat) (m : Nat) : cI :=
 Nat.rec (motive := fun _ => cI) (fun _ _ _ _ _ _ => none) (fun _ ih => aEg r n ih) m
noncomputable def cCm (r : RT) (n : Nat) : cI := uQ r n n
noncomputable def aQa (r : RT) (n : Nat) (x1 x2 x60 x61 x62 : DV) (h0 : Hp) : aG :=
 cCm r n x1 x2 x60 x61 x62 h0
noncomputable def aTu (r : RT) (n : Nat) (x1 x2 : DV) (h0 : Hp) : aG :=
 bnd (aB 5 x2 h0) fun v1 h1 =>
 bnd (aA v1 h1) fun v2 h2 =>
 bnd (bV v2 h2) fun v3 h3 =>
  aQa r n x1 x2 v2 v3 (aJ 0) h3
noncomputable def aOx (r : RT) (n : Nat) (x1 x2 x6 x7 : DV) (h0 : Hp) : aG :=
 bnd (hZ .not x6 h0) fun v1 h1 =>
 bnd (gD v1 false (some (x7, h1)) h1) fun v2 h2 =>
 bnd (aN v1 (.b true) v2 h2) fun v3 h3 =>
 bnd (gD v3 false (aB 4 x2 h3) h3) fun v4 h4 =>
 bnd (gD v3 false (aA v4 h4) h4) fun v5 h5 =>
 bnd (gD v3 false (bV v5 h5) h5) fun v6 h6 =>
 bnd (gD v3 false (aD .gtr v6 (aJ 60) h6) h6) fun v7 h7 =>
 bnd (aN v3 (.b true) v7 h7) fun v8 h8 =>
 bnd (gD v8 false (aB 5 x2 h8) h8) fun v9 h9 =>
 bnd (gD v8 false (aA v9 h9) h9) fun v10 h10 =>
 bnd (gD v8 false (bV v10 h10) h10) fun v11 h11 =>
 bnd (gD v8 false (r 360 [v11, (aJ 1), (aJ 400)] h11) h11) fun v12 h12 =>
 bnd (gD v8 false (hZ .not v12 h12) h12) fun v13 h13 =>
 bnd (aN v8 (.b true) v13 h13) fun v14 h14 =>
 aT v14 (
 some (.t [.l0, (aJ 19)], h14)) (
  aTu r n x1 x2 h14)
noncomputable def aQs (r : RT) (n : Nat) (x1 x2 x6 : DV) (h0 : Hp) : aG :=
 bnd (aB 4 x2 h0) fun v1 h1 =>
 bnd (aA v1 h1) fun v2 h2 =>
 bnd (r 361 [v2, (.f 362 [] [])] h2) fun v3 h3 =>
  aOx r n x1 x2 x6 v3 h3
noncomputable def wS (r : RT) (n : Nat) (x1 x2 : DV) (h0 : Hp) : aG :=
 bnd (r 360 [x1, (aJ 0), (aJ 8)] h0) fun v1 h1 =>
 bnd (gD v1 true (aB 0 x2 h1) h1) fun v2 h2 =>
 bnd (gD v1 true (aA v2 h2) h2) fun v3 h3 =>
 bnd (gD v1 true (cJ v3 h3) h3) fun v4 h4 =>
 bnd (gD v1 true (r 360 [v4, (aJ 1), (aJ 60)] h4) h4) fun v5 h5 =>
 bnd (aN v1 v5 (.b false) h5) fun v6 h6 =>
 bnd (gD v6 true (aB 1 x2 h6) h6) fun v7 h7 =>
 bnd (gD v6 true (aA v7 h7) h7) fun v8 h8 =>
 bnd (gD v6 true (r 360 [v8, (aJ 0), (aJ 4)] h8) h8) fun v9 h9 =>
 bnd (aN v6 v9 (.b false) h9) fun v10 h10 =>
 bnd (gD v10 true (aB 2 x2 h10) h10) fun v11 h11 =>
 bnd (gD v10 true (aA v11 h11) h11) fun v12 h12 =>
 bnd (gD v10 true (aB 1 x2 h12) h12) fun v13 h13 =>
 bnd (gD v10 true (aA v13 h13) h13) fun v14 h14 =>
 bnd (gD v10 true (r 360 [v12, v14, (aJ 24)] h14) h14) fun v15 h15 =>
 bnd (aN v10 v15 (.b false) h15) fun v16 h16 =>
 bnd (gD v16 true (aB 3 x2 h16) h16) fun v17 h17 =>
 bnd (gD v16 true (aA v17 h17) h17) fun v18 h18 =>
 bnd (gD v16 true (r 360 [v18, (aJ 0), (aJ 255)] h18) h18) fun v19 h19 =>
 bnd (aN v16 v19 (.b false) h19) fun v20 h20 =>
  aQs r n x1 x2 v20 h20
noncomputable def s299 (r : RT) (n : Nat) (x0 x1 : DV) (h0 : Hp) : aG :=
 bnd (cH x0 h0) fun v1 h1 =>
  wS r n x1 v1 h1
noncomputable abbrev c299 : Code := cf Tryz.f299
noncomputable abbrev aGm : Code := cR c299
noncomputable abbrev aCu : Code := cR aGm
noncomputable abbrev aFl : Code := cR aCu
noncomputable abbrev aDi : Code := cR aFl
noncomputable abbrev dBm : Code := cR aDi
noncomputable abbrev zT : Code := cL aDi
noncomputable abbrev aTc : Code := cR zT
noncomputable abbrev aKn : Code := cL aTc
noncomputable abbrev mU : Code := cL aKn
noncomputable abbrev aZo : Code := cL zT
noncomputable abbrev aXv : Code := cL aFl
noncomputable abbrev bDx : Code := cL aCu
noncomputable abbrev aZu : Code := cL aGm
noncomputable abbrev aEu : Code := cL c299
noncomputable abbrev r299 : K := aO CF Tryz.f299
noncomputable def D299 (r : RT) (n : Nat) (c : Code) (X : Nat → K) (k : K) : K := aM CF r 95 n c X r299 k
theorem cTm : D299 r n dBm x0 r299 = (K1 (eI r n) 2) :=
 (by kernel_rfl)
theorem bZv (kk7 : cI) (q0 : TT1) : D299 r n mU (xs x0 0 (K1 q0 2)) (K5 kk7 1 2 60 61 62) = fun (env : aZ) (h : Hp) =>
 bnd (aD .lss (env 62) (env 61) h) fun v1 h1 =>
 aT v1 (
 bnd (aE 3 (env 60) (env 62) h1) fun v2 h2 =>
 bnd (aK 3 v2 h2) fun v3 h3 =>
 bnd (bQ [(aJ 0), (aJ 0), (aJ 0)] h3) fun v4 h4 =>
 bnd (aI 3 v4 v3 h4) fun _ h5 =>
 bnd (aK 3 v4 h5) fun v6 h6 =>
 bnd (r 223 [v6] h6) fun v7 h7 =>
 bnd (hZ .not v7 h7) fun v8 h8 =>
 bnd (gD v8 false (aK 6 (env 2) h8) h8) fun v9 h9 =>
 bnd (gD v8 false (aK 3 v4 h9) h9) fun v10 h10 =>
 bnd (gD v8 false (some ((env 1), h10)) h10) fun v11 h11 =>
 bnd (gD v8 false (r 364 [v9, v10, v11] h11) h11) fun v12 h12 =>
 bnd (gD v8 false (hZ .not v12 h12) h12) fun v13 h13 =>
 bnd (aN v8 (.b true) v13 h13) fun v14 h14 =>
 aT v14 (
 some (.t [.l0, (aJ 19)], h14)) (
 bnd (aD .add (env 62) (aJ 1) h14) fun v15 h15 =>
    kk7 (env 1) (env 2) (env 60) (env 61) v15 h15)) (
      q0 (env 2) h1) := by kernel_rfl
theorem bHf (kk7 : cI) : (fun (env : aZ) (h : Hp) =>
 bnd (aD .lss (env 62) (env 61) h) fun v1 h1 =>
 aT v1 (
 bnd (aE 3 (env 60) (env 62) h1) fun v2 h2 =>
 bnd (aK 3 v2 h2) fun v3 h3 =>
 bnd (bQ [(aJ 0), (aJ 0), (aJ 0)] h3) fun v4 h4 =>
 bnd (aI 3 v4 v3 h4) fun _ h5 =>
 bnd (aK 3 v4 h5) fun v6 h6 =>
 bnd (r 223 [v6] h6) fun v7 h7 =>
 bnd (hZ .not v7 h7) fun v8 h8 =>
 bnd (gD v8 false (aK 6 (env 2) h8) h8) fun v9 h9 =>
 bnd (gD v8 false (aK 3 v4 h9) h9) fun v10 h10 =>
 bnd (gD v8 false (some ((env 1), h10)) h10) fun v11 h11 =>
 bnd (gD v8 false (r 364 [v9, v10, v11] h11) h11) fun v12 h12 =>
 bnd (gD v8 false (hZ .not v12 h12) h12) fun v13 h13 =>
 bnd (aN v8 (.b true) v13 h13) fun v14 h14 =>
 aT v14 (
 some (.t [.l0, (aJ 19)], h14)) (
 bnd (aD .add (env 62) (aJ 1) h14) fun v15 h15 =>
    kk7 (env 1) (env 2) (env 60) (env 61) v15 h15)) (
      eI r n (env 2) h1)) = (K5 (aEg r n kk7) 1 2 60 61 62) := by kernel_rfl
theorem bUy (kk7 : cI) : D299 r n mU (xs x0 0 (K1 (eI r n) 2)) (K5 kk7 1 2 60 61 62) = (K5 (aEg r n kk7) 1 2 60 61 62) :=
 (bZv r n kk7 (eI r n)).trans (bHf r n kk7)
theorem cAh (m : Nat) : aL (fun kk => D299 r n mU (xs x0 0 (K1 (eI r n) 2)) kk) m = (K5 (uQ r n m) 1 2 60 61 62) := by
 induction m with
 | zero => exact (by kernel_rfl : aL (fun kk => D299 r n mU (xs x0 0 (K1 (eI r n) 2)) kk) 0 = (K5 (uQ r n 0) 1 2 60 61 62))
 | succ m ih =>
  refine (by kernel_rfl : aL (fun kk => D299 r n mU (xs x0 0 (K1 (eI r n) 2)) kk) (m + 1) = D299 r n mU (xs x0 0 (K1 (eI r n) 2)) (aL (fun kk => D299 r n mU (xs x0 0 (K1 (eI r n) 2)) kk) m)).trans ?_
  rw [ih]
  exact (bUy r n (uQ r n m)).trans (by kernel_rfl)
theorem cUn : D299 r n aKn (xs x0 0 (K1 (eI r n) 2)) (K1 (eI r n) 2) = (K5 (cCm r n) 1 2 60 61 62) :=
 (by kernel_rfl : D299 r n aKn (xs x0 0 (K1 (eI r n) 2)) (K1 (eI r n) 2) = aL (fun kk => D299 r n mU (xs x0 0 (K1 (eI r n) 2)) kk) n).trans ((cAh r n n).trans (by kernel_rfl))
theorem cHv : D299 r n aTc x0 (K1 (eI r n) 2) = (K5 (aQa r n) 1 2 60 61 62) :=
 (by kernel_rfl : D299 r n aTc x0 (K1 (eI r n) 2) = D299 r n aKn (xs x0 0 (K1 (eI r n) 2)) (K1 (eI r n) 2)).trans
 ((cUn r n).trans (by kernel_rfl))
theorem bSl : D299 r n aDi x0 r299 = D299 r n zT x0 (K1 (eI r n) 2) :=
 congrArg (fun k => D299 r n zT x0 k) (cTm r n)
theorem bWm : D299 r n zT x0 (K1 (eI r n) 2) = D299 r n aZo x0 (K5 (aQa r n) 1 2 60 61 62) :=
 congrArg (fun k => D299 r n aZo x0 k) (cHv r n)
theorem cFq : D299 r n aDi x0 r299 = (K2 (aTu r n) 1 2) :=
 (bSl r n).trans
 ((bWm r n).trans
 ((by kernel_rfl)))
theorem bZb : D299 r n aFl x0 r299 = D299 r n aXv x0 (K2 (aTu r n) 1 2) :=
 congrArg (fun k => D299 r n aXv x0 k) (cFq r n)
theorem cKi : D299 r n aFl x0 r299 = (K4 (aOx r n) 1 2 6 7) :=
 (bZb r n).trans
 ((by kernel_rfl))
theorem cEk : D299 r n aCu x0 r299 = D299 r n bDx x0 (K4 (aOx r n) 1 2 6 7) :=
 congrArg (fun k => D299 r n bDx x0 k) (cKi r n)
theorem cOd : D299 r n aCu x0 r299 = (K3 (aQs r n) 1 2 6) :=
 (cEk r n).trans
 ((by kernel_rfl))
theorem cAa : D299 r n aGm x0 r299 = D299 r n aZu x0 (K3 (aQs r n) 1 2 6) :=
 congrArg (fun k => D299 r n aZu x0 k) (cOd r n)
theorem cSe : D299 r n aGm x0 r299 = (K2 (wS r n) 1 2) :=
 (cAa r n).trans
 ((by kernel_rfl))
theorem dDq : D299 r n c299 x0 r299 = D299 r n aEu x0 (K2 (wS r n) 1 2) :=
 congrArg (fun k => D299 r n aEu x0 k) (cSe r n)
theorem dJl (q0 : pR) : D299 r n aEu x0 (K2 q0 1 2) = fun (env : aZ) (h : Hp) =>
 bnd (cH (env 0) h) fun v1 h1 =>
  q0 (env 1) v1 h1 := by kernel_rfl
theorem cPh : (fun (env : aZ) (h : Hp) =>
 bnd (cH (env 0) h) fun v1 h1 =>
  wS r n (env 1) v1 h1) = (K2 (s299 r n) 0 1) := by kernel_rfl
theorem dNf : D299 r n c299 x0 r299 = (K2 (s299 r n) 0 1) :=
 (dDq r n).trans
 ((dJl r n (wS r n)).trans (cPh r n))
theorem dJu : aF CF r n 299 args h = s299 r n (aS args 0) (aS args 1) h :=
 (by kernel_rfl : aF CF r n 299 args h = D299 r n c299 x0 r299 (aH args) h).trans ((congrFun (congrFun (dNf r n) (aH args)) h).trans (by kernel_rfl))
noncomputable def s303 (r : RT) (n : Nat) (x0 : DV) (h0 : Hp) : aG :=
 bnd (aY x0 h0) fun v1 h1 =>
 bnd (aB 1 v1 h1) fun v2 h2 =>
 bnd (aA v2 h2) fun v3 h3 =>
 bnd (bV v3 h3) fun v4 h4 =>
 bnd (aD .eql v4 (aJ 0) h4) fun v5 h5 =>
 aT v5 (
 some (.p0, h5)) (
 bnd (aY x0 h5) fun v6 h6 =>
 bnd (aB 1 v6 h6) fun v7 h7 =>
 bnd (aA v7 h7) fun v8 h8 =>
 bnd (aY x0 h8) fun v9 h9 =>
 bnd (aB 1 v9 h9) fun v10 h10 =>
 bnd (aA v10 h10) fun v11 h11 =>
 bnd (bV v11 h11) fun v12 h12 =>
 bnd (aD .sub v12 (aJ 1) h12) fun v13 h13 =>
 bnd (aE 10 v8 v13 h13) fun v14 h14 =>
 some (v14, h14))
noncomputable abbrev c303 : Code := cf Tryz.f303
noncomputable abbrev r303 : K := aO CF Tryz.f303
noncomputable def D303 (r : RT) (n : Nat) (c : Code) (X : Nat → K) (k : K) : K := aM CF r 20 n c X r303 k
theorem dTj : D303 r n c303 x0 r303 = (K1 (s303 r n) 0) :=
 (by kernel_rfl)
theorem dAv : aF CF r n 303 args h = s303 r n (aS args 0) h :=
 (by kernel_rfl : aF CF r n 303 args h = D303 r n c303 x0 r303 (aH args) h).trans ((congrFun (congrFun (dTj r n) (aH args)) h).trans (by kernel_rfl))
end Go.Dd

namespace Go.Dd
open Go.Proofs
variable (r : RT) (n : Nat) (args : List DV) (h : Hp)
noncomputable def s338 (r : RT) (n : Nat) (x0 x1 : DV) (h0 : Hp) : aG :=
 bnd (aA x1 h0) fun v1 h1 =>
 bnd (r 30 [v1, x0] h1) fun v2 h2 =>
 bnd (aD .geq v2 (aJ 0) h2) fun v3 h3 =>
 some (v3, h3)
noncomputable abbrev c338 : Code := cf Tryz.f338
noncomputable abbrev r338 : K := aO CF Tryz.f338
noncomputable def D338 (r : RT) (n : Nat) (c : Code) (X : Nat → K) (k : K) : K := aM CF r 8 n c X r338 k
theorem dQb : D338 r n c338 x0 r338 = (K2 (s338 r n) 0 1) :=
 (by kernel_rfl)
theorem dBq : aF CF r n 338 args h = s338 r n (aS args 0) (aS args 1) h :=
 (by kernel_rfl : aF CF r n 338 args h = D338 r n c338 x0 r338 (aH args) h).trans ((congrFun (congrFun (dQb r n) (aH args)) h).trans (by kernel_rfl))
noncomputable def s339 (r : RT) (n : Nat) (x0 x1 : DV) (h0 : Hp) : aG :=
 bnd (aY x0 h0) fun v1 h1 =>
 bnd (aB 1 v1 h1) fun v2 h2 =>
 bnd (aA v2 h2) fun v3 h3 =>
 bnd (aD .add v3 x1 h3) fun v4 h4 =>
 bnd (aY x0 h4) fun v5 h5 =>
 bnd (aB 0 v5 h5) fun v6 h6 =>
 bnd (aA v6 h6) fun v7 h7 =>
 bnd (cJ v7 h7) fun v8 h8 =>
 bnd (aD .geq v4 v8 h8) fun v9 h9 =>
 aT v9 (
 some ((.i .u8 (Int.ofNat 0)), h9)) (
 bnd (aY x0 h9) fun v10 h10 =>
 bnd (aB 0 v10 h10) fun v11 h11 =>
 bnd (aA v11 h11) fun v12 h12 =>
 bnd (aY x0 h12) fun v13 h13 =>
 bnd (aB 1 v13 h13) fun v14 h14 =>
 bnd (aA v14 h14) fun v15 h15 =>
 bnd (aD .add v15 x1 h15) fun v16 h16 =>
 bnd (bY v12 v16 h16) fun v17 h17 =>
 some (v17, h17))
noncomputable abbrev c339 : Code := cf Tryz.f339
noncomputable abbrev r339 : K := aO CF Tryz.f339
noncomputable def D339 (r : RT) (n : Nat) (c : Code) (X : Nat → K) (k : K) : K := aM CF r 28 n c X r339 k
theorem dOs : D339 r n c339 x0 r339 = (K2 (s339 r n) 0 1) :=
 (by kernel_rfl)
theorem dDy : aF CF r n 339 args h = s339 r n (aS args 0) (aS args 1) h :=
 (by kernel_rfl : aF CF r n 339 args h = D339 r n c339 x0 r339 (aH args) h).trans ((congrFun (congrFun (dOs r n) (aH args)) h).trans (by kernel_rfl))
noncomputable def s340 (r : RT) (n : Nat) (x0 : DV) (h0 : Hp) : aG :=
 bnd (aD .geq x0 (.i .u8 (Int.ofNat 97)) h0) fun v1 h1 =>
 bnd (gD v1 true (some (x0, h1)) h1) fun v2 h2 =>
 bnd (gD v1 true (aD .leq v2 (.i .u8 (Int.ofNat 122)) h2) h2) fun v3 h3 =>
 bnd (aN v1 v3 (.b false) h3) fun v4 h4 =>
 bnd (gD v4 false (some (x0, h4)) h4) fun v5 h5 =>
 bnd (gD v4 false (aD .geq v5 (.i .u8 (Int.ofNat 65)) h5) h5) fun v6 h6 =>
 bnd (gD v4 false (some (v6, h6)) h6) fun v7 h7 =>
 bnd (gD v7 true (some (x0, h7)) h7) fun v8 h8 =>
 bnd (gD v7 true (aD .leq v8 (.i .u8 (Int.ofNat 90)) h8) h8) fun v9 h9 =>
 bnd (gD v4 false (aN v7 v9 (.b false) h9) h9) fun v10 h10 =>
 bnd (aN v4 (.b true) v10 h10) fun v11 h11 =>
 some (v11, h11)
noncomputable abbrev c340 : Code := cf Tryz.f340
noncomputable abbrev r340 : K := aO CF Tryz.f340
noncomputable def D340 (r : RT) (n : Nat) (c : Code) (X : Nat → K) (k : K) : K := aM CF r 17 n c X r340 k
theorem dWf : D340 r n c340 x0 r340 = (K1 (s340 r n) 0) :=
 (by kernel_rfl)
theorem dKd : aF CF r n 340 args h = s340 r n (aS args 0) h :=
 (by kernel_rfl : aF CF r n 340 args h = D340 r n c340 x0 r340 (aH args) h).trans ((congrFun (congrFun (dWf r n) (aH args)) h).trans (by kernel_rfl))
noncomputable def s341 (r : RT) (n : Nat) (x0 : DV) (h0 : Hp) : aG :=
 bnd (aY x0 h0) fun v1 h1 =>
 bnd (aB 0 v1 h1) fun v2 h2 =>
 bnd (aA v2 h2) fun v3 h3 =>
 bnd (cJ v3 h3) fun v4 h4 =>
 bnd (r 286 [x0, (.f 415 [] []), v4] h4) fun v5 h5 =>
 bnd (cJ v5 h5) fun v6 h6 =>
 bnd (aD .gtr v6 (aJ 24) h6) fun v7 h7 =>
 aT v7 (
 some (.t [(.s []), (aJ 12)], h7)) (
 some (.t [v5, (aJ 0)], h7))
noncomputable abbrev c341 : Code := cf Tryz.f341
noncomputable abbrev r341 : K := aO CF Tryz.f341
noncomputable def D341 (r : RT) (n : Nat) (c : Code) (X : Nat → K) (k : K) : K := aM CF r 16 n c X r341 k
theorem dVt : D341 r n c341 x0 r341 = (K1 (s341 r n) 0) :=
 (by kernel_rfl)
theorem dCz : aF CF r n 341 args h = s341 r n (aS args 0) h :=
 (by kernel_rfl : aF CF r n 341 args h = D341 r n c341 x0 r341 (aH args) h).trans ((congrFun (congrFun (dVt r n) (aH args)) h).trans (by kernel_rfl))
noncomputable def s342 (r : RT) (n : Nat) (x0 : DV) (h0 : Hp) : aG :=
 bnd (r 339 [x0, (aJ 0)] h0) fun v1 h1 =>
 bnd (aD .neq v1 (.i .u8 (Int.ofNat 58)) h1) fun v2 h2 =>
 bnd (gD v2 false (some (x0, h2)) h2) fun v3 h3 =>
 bnd (gD v2 false (r 339 [v3, (aJ 1)] h3) h3) fun v4 h4 =>
 bnd (gD v2 false (aD .eql v4 (.i .u8 (Int.ofNat 61)) h4) h4) fun v5 h5 =>
 bnd (aN v2 (.b true) v5 h5) fun v6 h6 =>
 aT v6 (
 some ((.b false), h6)) (
 bnd (aY x0 h6) fun v7 h7 =>
 bnd (aB 1 v7 h7) fun v8 h8 =>
 bnd (aA v8 h8) fun v9 h9 =>
 bnd (aD .add v9 (aJ 1) h9) fun v10 h10 =>
 bnd (aY x0 h10) fun v11 h11 =>
 bnd (aB 1 v11 h11) fun v12 h12 =>
 bnd (aI 1 v12 v10 h12) fun _ h13 =>
 some ((.b true), h13))
noncomputable abbrev c342 : Code := cf Tryz.f342
noncomputable abbrev r342 : K := aO CF Tryz.f342
noncomputable def D342 (r : RT) (n : Nat) (c : Code) (X : Nat → K) (k : K) : K := aM CF r 18 n c X r342 k
theorem dTl : D342 r n c342 x0 r342 = (K1 (s342 r n) 0) :=
 (by kernel_rfl)
theorem dBp : aF CF r n 342 args h = s342 r n (aS args 0) h :=
 (by kernel_rfl : aF CF r n 342 args h = D342 r n c342 x0 r342 (aH args) h).trans ((congrFun (congrFun (dTl r n) (aH args)) h).trans (by kernel_rfl))
noncomputable def s343 (r : RT) (n : Nat) (x0 : DV) (h0 : Hp) : aG :=
 bnd (aD .geq x0 (.i .u8 (Int.ofNat 48)) h0) fun v1 h1 =>
 bnd (gD v1 true (some (x0, h1)) h1) fun v2 h2 =>
 bnd (gD v1 true (aD .leq v2 (.i .u8 (Int.ofNat 57)) h2) h2) fun v3 h3 =>
 bnd (aN v1 v3 (.b false) h3) fun v4 h4 =>
 some (v4, h4)
noncomputable abbrev c343 : Code := cf Tryz.f343
noncomputable abbrev r343 : K := aO CF Tryz.f343
noncomputable def D343 (r : RT) (n : Nat) (c : Code) (X : Nat → K) (k : K) : K := aM CF r 9 n c X r343 k
theorem dSn : D343 r n c343 x0 r343 = (K1 (s343 r n) 0) :=
 (by kernel_rfl)
theorem dBj : aF CF r n 343 args h = s343 r n (aS args 0) h :=
 (by kernel_rfl : aF CF r n 343 args h = D343 r n c343 x0 r343 (aH args) h).trans ((congrFun (congrFun (dSn r n) (aH args)) h).trans (by kernel_rfl))
noncomputable def eZ (r : RT) (n : Nat) (x4 : DV) (h0 : Hp) : aG :=
 some (.t [x4, (aJ 0)], h0)
noncomputable def aWn (r : RT) (n : Nat) (kk5 : pR) (x4 x14 : DV) (h0 : Hp) : aG :=
 bnd (yS x14 h0) fun v1 h1 =>
 bnd (aC 0 v1 h1) fun v2 h2 =>
 aT v2 (
 bnd (aC 2 v1 h2) fun v3 h3 =>
 bnd (aD .gtr x4 (aJ 115292150460684697) h3) fun v4 h4 =>
 aT v4 (
 some (.t [(aJ 0), (aJ 2)], h4)) (
 bnd (aD .mul x4 (aJ 10) h4) fun v5 h5 =>
 bnd (aD .sub v3 (.i .i32 (Int.ofNat 48)) h5) fun v6 h6 =>
 bnd (dJ .i64 v6 h6) fun v7 h7 =>
 bnd (aD .add v5 v7 h7) fun v8 h8 =>
 bnd (aD .gtr v8 (aJ 1152921504606846976) h8) fun v9 h9 =>
 aT v9 (
 some (.t [(aJ 0), (aJ 2)], h9)) (
     kk5 v8 x14 h9))) (
   eZ r n x4 h2)
noncomputable def wB (r : RT) (n : Nat) (m : Nat) : pR :=
 Nat.rec (motive := fun _ => pR) (fun _ _ _ => none) (fun _ ih => aWn r n ih) m
noncomputable def bTu (r : RT) (n : Nat) : pR := wB r n n
noncomputable def aQw (r : RT) (n : Nat) (x4 x14 : DV) (h0 : Hp) : aG :=
 bTu r n x4 x14 h0
noncomputable def aSy (r : RT) (n : Nat) (x0 x4 : DV) (h0 : Hp) : aG :=
 bnd (aY x0 h0) fun v1 h1 =>
 bnd (aB 0 v1 h1) fun v2 h2 =>
 bnd (aA v2 h2) fun v3 h3 =>
 bnd (cJ v3 h3) fun v4 h4 =>
 bnd (r 286 [x0, (.f 343 [] []), v4] h4) fun v5 h5 =>
 bnd (oO v5 h5) fun v6 h6 =>
  aQw r n x4 v6 h6
noncomputable def aUj (r : RT) (n : Nat) (x0 : DV) (h0 : Hp) : aG :=
 aSy r n x0 (aJ 0) h0
noncomputable def s344 (r : RT) (n : Nat) (x0 : DV) (h0 : Hp) : aG :=
 aUj r n x0 h0
noncomputable abbrev c344 : Code := cf Tryz.f344
noncomputable abbrev aKt : Code := cR c344
noncomputable abbrev aFo : Code := cR aKt
noncomputable abbrev dKh : Code := cR aFo
noncomputable abbrev yO : Code := cL aFo
noncomputable abbrev aVe : Code := cR yO
noncomputable abbrev aFv : Code := cL aVe
noncomputable abbrev pG : Code := cL aFv
noncomputable abbrev bOm : Code := cL yO
noncomputable abbrev bWb : Code := cL aKt
noncomputable abbrev aWt : Code := cL c344
noncomputable abbrev r344 : K := aO CF Tryz.f344
noncomputable def D344 (r : RT) (n : Nat) (c : Code) (X : Nat → K) (k : K) : K := aM CF r 29 n c X r344 k
theorem cSt : D344 r n dKh x0 r344 = (K1 (eZ r n) 4) :=
 (by kernel_rfl)
theorem bRu (kk5 : pR) : D344 r n pG (xs x0 0 (K1 (eZ r n) 4)) (K2 kk5 4 14) = (K2 (aWn r n kk5) 4 14) :=
 (by kernel_rfl)
theorem cDd (m : Nat) : aL (fun kk => D344 r n pG (xs x0 0 (K1 (eZ r n) 4)) kk) m = (K2 (wB r n m) 4 14) := by
 induction m with
 | zero => exact (by kernel_rfl : aL (fun kk => D344 r n pG (xs x0 0 (K1 (eZ r n) 4)) kk) 0 = (K2 (wB r n 0) 4 14))
 | succ m ih =>
  refine (by kernel_rfl : aL (fun kk => D344 r n pG (xs x0 0 (K1 (eZ r n) 4)) kk) (m + 1) = D344 r n pG (xs x0 0 (K1 (eZ r n) 4)) (aL (fun kk => D344 r n pG (xs x0 0 (K1 (eZ r n) 4)) kk) m)).trans ?_
  rw [ih]
  exact (bRu r n (wB r n m)).trans (by kernel_rfl)
theorem cKr : D344 r n aFv (xs x0 0 (K1 (eZ r n) 4)) (K1 (eZ r n) 4) = (K2 (bTu r n) 4 14) :=
 (by kernel_rfl : D344 r n aFv (xs x0 0 (K1 (eZ r n) 4)) (K1 (eZ r n) 4) = aL (fun kk => D344 r n pG (xs x0 0 (K1 (eZ r n) 4)) kk) n).trans ((cDd r n n).trans (by kernel_rfl))
theorem cMt : D344 r n aVe x0 (K1 (eZ r n) 4) = (K2 (aQw r n) 4 14) :=
 (by kernel_rfl : D344 r n aVe x0 (K1 (eZ r n) 4) = D344 r n aFv (xs x0 0 (K1 (eZ r n) 4)) (K1 (eZ r n) 4)).trans
 ((cKr r n).trans (by kernel_rfl))
theorem bQm : D344 r n aFo x0 r344 = D344 r n yO x0 (K1 (eZ r n) 4) :=
 congrArg (fun k => D344 r n yO x0 k) (cSt r n)
theorem bSd : D344 r n yO x0 (K1 (eZ r n) 4) = D344 r n bOm x0 (K2 (aQw r n) 4 14) :=
 congrArg (fun k => D344 r n bOm x0 k) (cMt r n)
theorem cNh : D344 r n aFo x0 r344 = (K2 (aSy r n) 0 4) :=
 (bQm r n).trans
 ((bSd r n).trans
 ((by kernel_rfl)))
theorem cAu : D344 r n aKt x0 r344 = D344 r n bWb x0 (K2 (aSy r n) 0 4) :=
 congrArg (fun k => D344 r n bWb x0 k) (cNh r n)
theorem cTz : D344 r n aKt x0 r344 = (K1 (aUj r n) 0) :=
 (cAu r n).trans
 ((by kernel_rfl))
theorem dDv : D344 r n c344 x0 r344 = D344 r n aWt x0 (K1 (aUj r n) 0) :=
 congrArg (fun k => D344 r n aWt x0 k) (cTz r n)
theorem dNw : D344 r n c344 x0 r344 = (K1 (s344 r n) 0) :=
 (dDv r n).trans
 ((by kernel_rfl))
theorem dBi : aF CF r n 344 args h = s344 r n (aS args 0) h :=
 (by kernel_rfl : aF CF r n 344 args h = D344 r n c344 x0 r344 (aH args) h).trans ((congrFun (congrFun (dNw r n) (aH args)) h).trans (by kernel_rfl))
noncomputable def s348 (r : RT) (n : Nat) (x0 x1 : DV) (h0 : Hp) : aG :=
 bnd (cH x1 h0) fun v1 h1 =>
 bnd (bQ [(.s []), (.b false), (.b false), (aJ 0)] h1) fun v2 h2 =>
 bnd (aY x0 h2) fun v3 h3 =>
 bnd (aB 6 v3 h3) fun v4 h4 =>
 bnd (aA v4 h4) fun v5 h5 =>
 bnd (r 423 [v5, (.f 424 [] [v1])] h5) fun v6 h6 =>
 bnd (aD .lss v6 (aJ 0) h6) fun v7 h7 =>
 aT v7 (
 bnd (bL [(.s []), (.b false), (.b false), (aJ 0)] [] h7) fun v8 h8 =>
 bnd (aI 4 v2 v8 h8) fun _ h9 =>
 bnd (aK 4 v2 h9) fun v10 _ =>
 some (.t [v10, (.b false)], h9)) (
 bnd (aY x0 h7) fun v11 h11 =>
 bnd (aB 6 v11 h11) fun v12 h12 =>
 bnd (aA v12 h12) fun v13 h13 =>
 bnd (aE 4 v13 v6 h13) fun v14 h14 =>
 bnd (aK 4 v14 h14) fun v15 h15 =>
 bnd (aI 4 v2 v15 h15) fun _ h16 =>
 bnd (aK 4 v2 h16) fun v17 _ =>
 some (.t [v17, (.b true)], h16))
noncomputable abbrev c348 : Code := cf Tryz.f348
noncomputable abbrev r348 : K := aO CF Tryz.f348
noncomputable def D348 (r : RT) (n : Nat) (c : Code) (X : Nat → K) (k : K) : K := aM CF r 23 n c X r348 k
theorem dSs : D348 r n c348 x0 r348 = (K2 (s348 r n) 0 1) :=
 (by kernel_rfl)
theorem dBt : aF CF r n 348 args h = s348 r n (aS args 0) (aS args 1) h :=
 (by kernel_rfl : aF CF r n 348 args h = D348 r n c348 x0 r348 (aH args) h).trans ((congrFun (congrFun (dSs r n) (aH args)) h).trans (by kernel_rfl))
noncomputable def gT (r : RT) (n : Nat) (h0 : Hp) : aG :=
 some ((.b false), h0)
noncomputable def nB (r : RT) (n : Nat) (x4 : DV) (h0 : Hp) : aG :=
 aT x4 (
 some ((.b true), h0)) (
  gT r n h0)
noncomputable def aSf (r : RT) (n : Nat) (x3 : DV) (h0 : Hp) : aG :=
 bnd (bW .eql x3 (.s [115, 101, 108, 102]) h0) fun v1 h1 =>
 aT v1 (
  nB r n v1 h1) (
 bnd (bW .eql x3 (.s [115, 117, 112, 101, 114]) h1) fun v2 h2 =>
 aT v2 (
   nB r n v2 h2) (
 bnd (bW .eql x3 (.s [110, 105, 108]) h2) fun v3 h3 =>
 aT v3 (
    nB r n v3 h3) (
 bnd (bW .eql x3 (.s [116, 114, 117, 101]) h3) fun v4 h4 =>
 aT v4 (
     nB r n v4 h4) (
 bnd (bW .eql x3 (.s [102, 97, 108, 115, 101]) h4) fun v5 h5 =>
 aT v5 (
      nB r n v5 h5) (
 bnd (bW .eql x3 (.s [116, 104, 105, 115, 67, 111, 110, 116, 101, 120, 116]) h5) fun v6 h6 =>
      nB r n v6 h6)))))
noncomputable def aSa (r : RT) (n : Nat) (x0 : DV) (h0 : Hp) : aG :=
 aSf r n x0 h0
noncomputable def s349 (r : RT) (n : Nat) (x0 : DV) (h0 : Hp) : aG :=
 aSa r n x0 h0
noncomputable abbrev c349 : Code := cf Tryz.f349
noncomputable abbrev aHs : Code := cR c349
noncomputable abbrev dGx : Code := cR aHs
noncomputable abbrev aAp : Code := cL aHs
noncomputable abbrev aRn : Code := cR aAp
noncomputable abbrev aFx : Code := cL aRn
noncomputable abbrev dJs : Code := cR aFx
noncomputable abbrev cCq : Code := cL aFx
noncomputable abbrev bTg : Code := cL aAp
noncomputable abbrev cAy : Code := cL c349
noncomputable abbrev r349 : K := aO CF Tryz.f349
noncomputable def D349 (r : RT) (n : Nat) (c : Code) (X : Nat → K) (k : K) : K := aM CF r 11 n c X r349 k
theorem cPy : D349 r n dGx x0 r349 = (K0 (gT r n)) :=
 (by kernel_rfl)
theorem cFx : D349 r n dJs (xs x0 0 (K0 (gT r n))) (K0 (gT r n)) = (K1 (nB r n) 4) :=
 (by kernel_rfl)
theorem bSm : D349 r n aFx (xs x0 0 (K0 (gT r n))) (K0 (gT r n)) = D349 r n cCq (xs x0 0 (K0 (gT r n))) (K1 (nB r n) 4) :=
 congrArg (fun k => D349 r n cCq (xs x0 0 (K0 (gT r n))) k) (cFx r n)
theorem cRv : D349 r n aRn x0 (K0 (gT r n)) = (K1 (aSf r n) 3) :=
 (by kernel_rfl : D349 r n aRn x0 (K0 (gT r n)) = D349 r n aFx (xs x0 0 (K0 (gT r n))) (K0 (gT r n))).trans
 ((bSm r n).trans
 ((by kernel_rfl)))
theorem bNb : D349 r n aHs x0 r349 = D349 r n aAp x0 (K0 (gT r n)) :=
 congrArg (fun k => D349 r n aAp x0 k) (cPy r n)
theorem bZh : D349 r n aAp x0 (K0 (gT r n)) = D349 r n bTg x0 (K1 (aSf r n) 3) :=
 congrArg (fun k => D349 r n bTg x0 k) (cRv r n)
theorem cNv : D349 r n aHs x0 r349 = (K1 (aSa r n) 0) :=
 (bNb r n).trans
 ((bZh r n).trans
 ((by kernel_rfl)))
theorem dCg : D349 r n c349 x0 r349 = D349 r n cAy x0 (K1 (aSa r n) 0) :=
 congrArg (fun k => D349 r n cAy x0 k) (cNv r n)
theorem dNp : D349 r n c349 x0 r349 = (K1 (s349 r n) 0) :=
 (dCg r n).trans
 ((by kernel_rfl))
theorem cZz : aF CF r n 349 args h = s349 r n (aS args 0) h :=
 (by kernel_rfl : aF CF r n 349 args h = D349 r n c349 x0 r349 (aH args) h).trans ((congrFun (congrFun (dNp r n) (aH args)) h).trans (by kernel_rfl))
end Go.Dd

