/- A part of the proof: Q2 Q3 Q4 Q5 Q6 Q7 Q8: each text has a comment of its own. -/
import Derived.Test.YtdpdcbdfgfeoeaaGreatTb1
set_option linter.unusedVariables false
set_option linter.unusedSimpArgs false
set_option linter.constructorNameAsVariable false
set_option maxRecDepth 100000
namespace Go.Dd
open Go.Proofs
variable (r : RT) (n : Nat) (args : List DV) (h : Hp)
noncomputable def eO (r : RT) (n : Nat) (x1 : DV) (h0 : Hp) : aH :=
 some (x1, h0)
noncomputable def pT (r : RT) (n : Nat) (kk10 : bZ) (x1 x7 x8 : DV) (h0 : Hp) : aH :=
 bnd (bJ x7 h0) fun v1 h1 =>
 bnd (aD .lss x8 v1 h1) fun v2 h2 =>
 aU v2 (
 bnd (aC 1 x7 x8 h2) fun v3 h3 =>
 bnd (aA v3 h3) fun v4 h4 =>
 bnd (aC 1 v4 (.i .i64 (Int.ofNat 0)) h4) fun v5 h5 =>
 bnd (aA v5 h5) fun v6 h6 =>
 bnd (aC 1 x7 x8 h6) fun v7 h7 =>
 bnd (aA v7 h7) fun v8 h8 =>
 bnd (aC 1 v8 (.i .i64 (Int.ofNat 1)) h8) fun v9 h9 =>
 bnd (aA v9 h9) fun v10 h10 =>
 bnd (r 35 [x1, v6, v10] h10) fun v11 h11 =>
 bnd (aD .add x8 (.i .i64 (Int.ofNat 1)) h11) fun v12 h12 =>
      kk10 x1 x7 v12 h12) (
      eO r n x1 h2)
noncomputable def kH (r : RT) (n : Nat) (m : Nat) : bZ :=
 Nat.rec (motive := fun _ => bZ) (fun _ _ _ _ => none) (fun _ ih => pT r n ih) m
noncomputable def bZq (r : RT) (n : Nat) : bZ := kH r n n
noncomputable def bGa (r : RT) (n : Nat) (x1 x7 x8 : DV) (h0 : Hp) : aH :=
 bZq r n x1 x7 x8 h0
noncomputable def bSu (r : RT) (n : Nat) (x1 x7 : DV) (h0 : Hp) : aH :=
 bGa r n x1 x7 (.i .i64 (Int.ofNat 0)) h0
noncomputable def cY (r : RT) (n : Nat) (x1 : DV) (h0 : Hp) : aH :=
 bnd (r 38 [] h0) fun v1 h1 =>
  bSu r n x1 v1 h1
noncomputable def dS (r : RT) (n : Nat) (kk12 : bK) (x1 x2 x3 x4 x5 : DV) (h0 : Hp) : aH :=
 bnd (aD .add x5 (.i .i64 (Int.ofNat 1)) h0) fun v1 h1 =>
  kk12 x1 x2 x3 x4 v1 h1
noncomputable def mS (r : RT) (n : Nat) (kk12 : bK) (x1 x2 x3 x4 x5 x6 : DV) (h0 : Hp) : aH :=
 bnd (aX x1 (resv 1 h0)) fun v1 h1 =>
 bnd (aB 0 v1 h1) fun v2 h2 =>
 bnd (aA v2 h2) fun v3 h3 =>
 bnd (aL 5 x6 h3) fun v4 h4 =>
 bnd (bB (bN 0 h0.next) [(.s []), (.i .i64 (Int.ofNat 0)), .l0, (.i .i64 (Int.ofNat 0)), .l0] 1 [(0, 5, v4)] h4) fun v5 h5 =>
 bnd (aW 5 80 v3 v5 h5) fun v6 h6 =>
 bnd (aX x1 h6) fun v7 h7 =>
 bnd (aB 0 v7 h7) fun v8 h8 =>
 bnd (aJ 1 v8 v6 h8) fun v9 h9 =>
  dS r n kk12 x1 x2 x3 x4 x5 h9
noncomputable def rM (r : RT) (n : Nat) (kk12 : bK) (x1 x2 x3 x4 x5 x6 : DV) (h0 : Hp) : aH :=
 bnd (aD .eql x5 (.i .i64 (Int.ofNat 15)) h0) fun v1 h1 =>
 aU v1 (
 bnd (aO [(.s []), (.s [])] 2 [(0, 1, (.s [115, 101, 108, 101, 99, 116, 111, 114])), (1, 1, (.s [97, 114, 103, 117, 109, 101, 110, 116, 115]))] h1) fun v2 h2 =>
 bnd (aB 2 x6 h2) fun v3 h3 =>
 bnd (aJ 1 v3 v2 h3) fun _ h4 =>
  mS r n kk12 x1 x2 x3 x4 x5 x6 h4) (
  mS r n kk12 x1 x2 x3 x4 x5 x6 h1)
noncomputable def aKr (r : RT) (n : Nat) (kk12 : bK) (x1 x2 x3 x4 x5 : DV) (h0 : Hp) : aH :=
 bnd (aC 1 x2 x5 (resv 1 h0)) fun v1 h1 =>
 bnd (aA v1 h1) fun v2 h2 =>
 bnd (aC 1 x3 x5 h2) fun v3 h3 =>
 bnd (aA v3 h3) fun v4 h4 =>
 bnd (aC 1 x4 x5 h4) fun v5 h5 =>
 bnd (aA v5 h5) fun v6 h6 =>
 bnd (bL [(.s []), (.i .i64 (Int.ofNat 0)), .l0, (.i .i64 (Int.ofNat 0)), .l0] [(0, 1, v2), (1, 1, v4), (3, 1, v6)] h6) fun v7 h7 =>
 bnd (iQ (bN 0 h0.next) [(.s []), (.i .i64 (Int.ofNat 0)), .l0, (.i .i64 (Int.ofNat 0)), .l0] h7) fun v8 h8 =>
 bnd (aJ 5 v8 v7 h8) fun v9 h9 =>
  rM r n kk12 x1 x2 x3 x4 x5 v8 h9
noncomputable def aZr (r : RT) (n : Nat) (kk12 : bK) (x1 x2 x3 x4 x5 : DV) (h0 : Hp) : aH :=
 bnd (aD .lss x5 (.i .i64 (Int.ofNat 16)) h0) fun v1 h1 =>
 aU v1 (
   aKr r n kk12 x1 x2 x3 x4 x5 h1) (
   cY r n x1 h1)
noncomputable def vT (r : RT) (n : Nat) (m : Nat) : bK :=
 Nat.rec (motive := fun _ => bK) (fun _ _ _ _ _ _ => none) (fun _ ih => aZr r n ih) m
noncomputable def cIp (r : RT) (n : Nat) : bK := vT r n n
noncomputable def aXp (r : RT) (n : Nat) (x1 x2 x3 x4 x5 : DV) (h0 : Hp) : aH :=
 cIp r n x1 x2 x3 x4 x5 h0
noncomputable def aNu (r : RT) (n : Nat) (x1 x2 x3 x4 : DV) (h0 : Hp) : aH :=
 aXp r n x1 x2 x3 x4 (.i .i64 (Int.ofNat 0)) h0
noncomputable def aBk (r : RT) (n : Nat) (x1 x2 x3 : DV) (h0 : Hp) : aH :=
 bnd (aO [(.i .i64 (Int.ofNat 0)), (.i .i64 (Int.ofNat 0)), (.i .i64 (Int.ofNat 0)), (.i .i64 (Int.ofNat 0)), (.i .i64 (Int.ofNat 0)), (.i .i64 (Int.ofNat 0)), (.i .i64 (Int.ofNat 0)), (.i .i64 (Int.ofNat 0)), (.i .i64 (Int.ofNat 0)), (.i .i64 (Int.ofNat 0)), (.i .i64 (Int.ofNat 0)), (.i .i64 (Int.ofNat 0)), (.i .i64 (Int.ofNat 0)), (.i .i64 (Int.ofNat 0)), (.i .i64 (Int.ofNat 0)), (.i .i64 (Int.ofNat 0))] 16 [(0, 1, (.i .i64 (Int.ofNat 0))), (1, 1, (.i .i64 (Int.ofNat 3))), (2, 1, (.i .i64 (Int.ofNat 3))), (3, 1, (.i .i64 (Int.ofNat 3))), (4, 1, (.i .i64 (Int.ofNat 3))), (5, 1, (.i .i64 (Int.ofNat 3))), (6, 1, (.i .i64 (Int.ofNat 3))), (7, 1, (.i .i64 (Int.ofNat 3))), (8, 1, (.i .i64 (Int.ofNat 3))), (9, 1, (.i .i64 (Int.ofNat 1))), (10, 1, (.i .i64 (Int.ofNat 2))), (11, 1, (.i .i64 (Int.ofNat 2))), (12, 1, (.i .i64 (Int.ofNat 3))), (13, 1, (.i .i64 (Int.ofNat 3))), (14, 1, (.i .i64 (Int.ofNat 3))), (15, 1, (.i .i64 (Int.ofNat 0)))] h0) fun v1 h1 =>
  aNu r n x1 x2 x3 v1 h1
noncomputable def aBx (r : RT) (n : Nat) (x1 x2 : DV) (h0 : Hp) : aH :=
 bnd (aO [(.i .i64 (Int.ofNat 0)), (.i .i64 (Int.ofNat 0)), (.i .i64 (Int.ofNat 0)), (.i .i64 (Int.ofNat 0)), (.i .i64 (Int.ofNat 0)), (.i .i64 (Int.ofNat 0)), (.i .i64 (Int.ofNat 0)), (.i .i64 (Int.ofNat 0)), (.i .i64 (Int.ofNat 0)), (.i .i64 (Int.ofNat 0)), (.i .i64 (Int.ofNat 0)), (.i .i64 (Int.ofNat 0)), (.i .i64 (Int.ofNat 0)), (.i .i64 (Int.ofNat 0)), (.i .i64 (Int.ofNat 0)), (.i .i64 (Int.ofNat 0))] 16 [(0, 1, (.i .i64 (Int.negSucc 0))), (1, 1, (.i .i64 (Int.ofNat 0))), (2, 1, (.i .i64 (Int.ofNat 0))), (3, 1, (.i .i64 (Int.ofNat 0))), (4, 1, (.i .i64 (Int.ofNat 3))), (5, 1, (.i .i64 (Int.ofNat 3))), (6, 1, (.i .i64 (Int.ofNat 0))), (7, 1, (.i .i64 (Int.ofNat 6))), (8, 1, (.i .i64 (Int.ofNat 6))), (9, 1, (.i .i64 (Int.ofNat 0))), (10, 1, (.i .i64 (Int.ofNat 0))), (11, 1, (.i .i64 (Int.ofNat 10))), (12, 1, (.i .i64 (Int.ofNat 0))), (13, 1, (.i .i64 (Int.ofNat 0))), (14, 1, (.i .i64 (Int.ofNat 0))), (15, 1, (.i .i64 (Int.ofNat 0)))] h0) fun v1 h1 =>
  aBk r n x1 x2 v1 h1
noncomputable def aBt (r : RT) (n : Nat) (x1 : DV) (h0 : Hp) : aH :=
 bnd (aO [(.s []), (.s []), (.s []), (.s []), (.s []), (.s []), (.s []), (.s []), (.s []), (.s []), (.s []), (.s []), (.s []), (.s []), (.s []), (.s [])] 16 [(0, 1, (.s [79, 98, 106, 101, 99, 116])), (1, 1, (.s [67, 108, 97, 115, 115])), (2, 1, (.s [85, 110, 100, 101, 102, 105, 110, 101, 100, 79, 98, 106, 101, 99, 116])), (3, 1, (.s [66, 111, 111, 108, 101, 97, 110])), (4, 1, (.s [84, 114, 117, 101])), (5, 1, (.s [70, 97, 108, 115, 101])), (6, 1, (.s [73, 110, 116, 101, 103, 101, 114])), (7, 1, (.s [83, 109, 97, 108, 108, 73, 110, 116, 101, 103, 101, 114])), (8, 1, (.s [76, 97, 114, 103, 101, 73, 110, 116, 101, 103, 101, 114])), (9, 1, (.s [65, 114, 114, 97, 121])), (10, 1, (.s [83, 116, 114, 105, 110, 103])), (11, 1, (.s [83, 121, 109, 98, 111, 108])), (12, 1, (.s [66, 108, 111, 99, 107])), (13, 1, (.s [67, 111, 110, 116, 101, 120, 116])), (14, 1, (.s [77, 101, 116, 104, 111, 100])), (15, 1, (.s [77, 101, 115, 115, 97, 103, 101]))] h0) fun v1 h1 =>
  aBx r n x1 v1 h1
noncomputable def aZy (r : RT) (n : Nat) (h0 : Hp) : aH :=
 bnd (bL [.l0] [] h0) fun v1 h1 =>
 bnd (bQ v1 h1) fun v2 h2 =>
  aBt r n v2 h2
noncomputable def s28 (r : RT) (n : Nat) (h0 : Hp) : aH :=
 aZy r n h0
noncomputable abbrev c28 : Code := cf Tryz.f28
noncomputable abbrev bHh : Code := cR c28
noncomputable abbrev bIc : Code := cR bHh
noncomputable abbrev bEc : Code := cR bIc
noncomputable abbrev bBq : Code := cR bEc
noncomputable abbrev bEf : Code := cR bBq
noncomputable abbrev bEa : Code := cR bEf
noncomputable abbrev bIo : Code := cR bEa
noncomputable abbrev eDj : Code := cR bIo
noncomputable abbrev aNw : Code := cL bIo
noncomputable abbrev aTn : Code := cR aNw
noncomputable abbrev aCd : Code := cL aTn
noncomputable abbrev oT : Code := cL aCd
noncomputable abbrev cMt : Code := cL aNw
noncomputable abbrev cDp : Code := cL bEa
noncomputable abbrev xN : Code := cL bEf
noncomputable abbrev aRe : Code := cR xN
noncomputable abbrev aGn : Code := cL aRe
noncomputable abbrev kT : Code := cL aGn
noncomputable abbrev aMh : Code := cR kT
noncomputable abbrev dRg : Code := cR aMh
noncomputable abbrev aJz : Code := cL aMh
noncomputable abbrev aIq : Code := cL aJz
noncomputable abbrev aIx : Code := cR aIq
noncomputable abbrev cFj : Code := cR aIx
noncomputable abbrev aUk : Code := cL aIx
noncomputable abbrev aTy : Code := cL aIq
noncomputable abbrev cGw : Code := cL kT
noncomputable abbrev bPr : Code := cL xN
noncomputable abbrev aWs : Code := cL bBq
noncomputable abbrev aXr : Code := cL bEc
noncomputable abbrev aSx : Code := cL bIc
noncomputable abbrev aUh : Code := cL bHh
noncomputable abbrev cFb : Code := cL c28
noncomputable abbrev r28 : K := aQ CF Tryz.f28
noncomputable def D28 (r : RT) (n : Nat) (c : Code) (X : Nat → K) (k : K) : K := aP CF r 67 n c X r28 k
theorem cMp : D28 r n eDj x0 r28 = (K1 (eO r n) 1) :=
 (by kernel_rfl)
theorem aPl (kk10 : bZ) : D28 r n oT (xs x0 2 (K1 (eO r n) 1)) (K3 kk10 1 7 8) = (K3 (pT r n kk10) 1 7 8) :=
 (by kernel_rfl)
theorem bVo (m : Nat) : aK (fun kk => D28 r n oT (xs x0 2 (K1 (eO r n) 1)) kk) m = (K3 (kH r n m) 1 7 8) := by
 induction m with
 | zero => exact (by kernel_rfl : aK (fun kk => D28 r n oT (xs x0 2 (K1 (eO r n) 1)) kk) 0 = (K3 (kH r n 0) 1 7 8))
 | succ m ih =>
  refine (by kernel_rfl : aK (fun kk => D28 r n oT (xs x0 2 (K1 (eO r n) 1)) kk) (m + 1) = D28 r n oT (xs x0 2 (K1 (eO r n) 1)) (aK (fun kk => D28 r n oT (xs x0 2 (K1 (eO r n) 1)) kk) m)).trans ?_
  rw [ih]
  exact (aPl r n (kH r n m)).trans (by kernel_rfl)
theorem cOy : D28 r n aCd (xs x0 2 (K1 (eO r n) 1)) (K1 (eO r n) 1) = (K3 (bZq r n) 1 7 8) :=
 (by kernel_rfl : D28 r n aCd (xs x0 2 (K1 (eO r n) 1)) (K1 (eO r n) 1) = aK (fun kk => D28 r n oT (xs x0 2 (K1 (eO r n) 1)) kk) n).trans ((bVo r n n).trans (by kernel_rfl))
theorem cGz : D28 r n aTn x0 (K1 (eO r n) 1) = (K3 (bGa r n) 1 7 8) :=
 (by kernel_rfl : D28 r n aTn x0 (K1 (eO r n) 1) = D28 r n aCd (xs x0 2 (K1 (eO r n) 1)) (K1 (eO r n) 1)).trans
 ((cOy r n).trans (by kernel_rfl))
theorem cWd : D28 r n bIo x0 r28 = D28 r n aNw x0 (K1 (eO r n) 1) :=
 congrArg (fun k => D28 r n aNw x0 k) (cMp r n)
theorem cRu : D28 r n aNw x0 (K1 (eO r n) 1) = D28 r n cMt x0 (K3 (bGa r n) 1 7 8) :=
 congrArg (fun k => D28 r n cMt x0 k) (cGz r n)
theorem dMq : D28 r n bIo x0 r28 = (K2 (bSu r n) 1 7) :=
 (cWd r n).trans
 ((cRu r n).trans
 ((by kernel_rfl)))
theorem dDk : D28 r n bEa x0 r28 = D28 r n cDp x0 (K2 (bSu r n) 1 7) :=
 congrArg (fun k => D28 r n cDp x0 k) (dMq r n)
theorem dOa : D28 r n bEa x0 r28 = (K1 (cY r n) 1) :=
 (dDk r n).trans
 ((by kernel_rfl))
theorem dBt (kk12 : bK) : D28 r n dRg (xs x0 0 (K1 (cY r n) 1)) (K5 kk12 1 2 3 4 5) = (K5 (dS r n kk12) 1 2 3 4 5) :=
 (by kernel_rfl)
theorem bVz (kk12 : bK) (q0 : bK) (q1 : TT1) : D28 r n cFj (xs (xs x0 0 (K1 q1 1)) 1 (K5 q0 1 2 3 4 5)) (K5 q0 1 2 3 4 5) = fun (env : aZ) (h : Hp) =>
 bnd (aX (env 1) (resv 1 h)) fun v1 h1 =>
 bnd (aB 0 v1 h1) fun v2 h2 =>
 bnd (aA v2 h2) fun v3 h3 =>
 bnd (aL 5 (env 6) h3) fun v4 h4 =>
 bnd (bB (bN 0 h.next) [(.s []), (.i .i64 (Int.ofNat 0)), .l0, (.i .i64 (Int.ofNat 0)), .l0] 1 [(0, 5, v4)] h4) fun v5 h5 =>
 bnd (aW 5 80 v3 v5 h5) fun v6 h6 =>
 bnd (aX (env 1) h6) fun v7 h7 =>
 bnd (aB 0 v7 h7) fun v8 h8 =>
 bnd (aJ 1 v8 v6 h8) fun v9 h9 =>
  q0 (env 1) (env 2) (env 3) (env 4) (env 5) h9 := by kernel_rfl
theorem bLx (kk12 : bK) : (fun (env : aZ) (h : Hp) =>
 bnd (aX (env 1) (resv 1 h)) fun v1 h1 =>
 bnd (aB 0 v1 h1) fun v2 h2 =>
 bnd (aA v2 h2) fun v3 h3 =>
 bnd (aL 5 (env 6) h3) fun v4 h4 =>
 bnd (bB (bN 0 h.next) [(.s []), (.i .i64 (Int.ofNat 0)), .l0, (.i .i64 (Int.ofNat 0)), .l0] 1 [(0, 5, v4)] h4) fun v5 h5 =>
 bnd (aW 5 80 v3 v5 h5) fun v6 h6 =>
 bnd (aX (env 1) h6) fun v7 h7 =>
 bnd (aB 0 v7 h7) fun v8 h8 =>
 bnd (aJ 1 v8 v6 h8) fun v9 h9 =>
  dS r n kk12 (env 1) (env 2) (env 3) (env 4) (env 5) h9) = (K6 (mS r n kk12) 1 2 3 4 5 6) := by kernel_rfl
theorem dCa (kk12 : bK) : D28 r n cFj (xs (xs x0 0 (K1 (cY r n) 1)) 1 (K5 (dS r n kk12) 1 2 3 4 5)) (K5 (dS r n kk12) 1 2 3 4 5) = (K6 (mS r n kk12) 1 2 3 4 5 6) :=
 (bVz r n kk12 (dS r n kk12) (cY r n)).trans (bLx r n kk12)
theorem cMf (kk12 : bK) : D28 r n aIx (xs (xs x0 0 (K1 (cY r n) 1)) 1 (K5 (dS r n kk12) 1 2 3 4 5)) (K5 (dS r n kk12) 1 2 3 4 5) = D28 r n aUk (xs (xs x0 0 (K1 (cY r n) 1)) 1 (K5 (dS r n kk12) 1 2 3 4 5)) (K6 (mS r n kk12) 1 2 3 4 5 6) :=
 congrArg (fun k => D28 r n aUk (xs (xs x0 0 (K1 (cY r n) 1)) 1 (K5 (dS r n kk12) 1 2 3 4 5)) k) (dCa r n kk12)
theorem cLi (kk12 : bK) (q0 : gX) (q1 : TT1) (q2 : bK) : D28 r n aUk (xs (xs x0 0 (K1 q1 1)) 1 (K5 q2 1 2 3 4 5)) (K6 q0 1 2 3 4 5 6) = fun (env : aZ) (h : Hp) =>
 bnd (aD .eql (env 5) (.i .i64 (Int.ofNat 15)) h) fun v1 h1 =>
 aU v1 (
 bnd (aO [(.s []), (.s [])] 2 [(0, 1, (.s [115, 101, 108, 101, 99, 116, 111, 114])), (1, 1, (.s [97, 114, 103, 117, 109, 101, 110, 116, 115]))] h1) fun v2 h2 =>
 bnd (aB 2 (env 6) h2) fun v3 h3 =>
 bnd (aJ 1 v3 v2 h3) fun _ h4 =>
      q0 (env 1) (env 2) (env 3) (env 4) (env 5) (env 6) h4) (
      q0 (env 1) (env 2) (env 3) (env 4) (env 5) (env 6) h1) := by kernel_rfl
theorem bLv (kk12 : bK) : (fun (env : aZ) (h : Hp) =>
 bnd (aD .eql (env 5) (.i .i64 (Int.ofNat 15)) h) fun v1 h1 =>
 aU v1 (
 bnd (aO [(.s []), (.s [])] 2 [(0, 1, (.s [115, 101, 108, 101, 99, 116, 111, 114])), (1, 1, (.s [97, 114, 103, 117, 109, 101, 110, 116, 115]))] h1) fun v2 h2 =>
 bnd (aB 2 (env 6) h2) fun v3 h3 =>
 bnd (aJ 1 v3 v2 h3) fun _ h4 =>
      mS r n kk12 (env 1) (env 2) (env 3) (env 4) (env 5) (env 6) h4) (
      mS r n kk12 (env 1) (env 2) (env 3) (env 4) (env 5) (env 6) h1)) = (K6 (rM r n kk12) 1 2 3 4 5 6) := by kernel_rfl
theorem dAb (kk12 : bK) : D28 r n aIx (xs (xs x0 0 (K1 (cY r n) 1)) 1 (K5 (dS r n kk12) 1 2 3 4 5)) (K5 (dS r n kk12) 1 2 3 4 5) = (K6 (rM r n kk12) 1 2 3 4 5 6) :=
 (cMf r n kk12).trans
 ((cLi r n kk12 (mS r n kk12) (cY r n) (dS r n kk12)).trans (bLv r n kk12))
theorem cCi (kk12 : bK) : D28 r n aMh (xs x0 0 (K1 (cY r n) 1)) (K5 kk12 1 2 3 4 5) = D28 r n aJz (xs x0 0 (K1 (cY r n) 1)) (K5 (dS r n kk12) 1 2 3 4 5) :=
 congrArg (fun k => D28 r n aJz (xs x0 0 (K1 (cY r n) 1)) k) (dBt r n kk12)
theorem bPb (kk12 : bK) : D28 r n aIq (xs (xs x0 0 (K1 (cY r n) 1)) 1 (K5 (dS r n kk12) 1 2 3 4 5)) (K5 (dS r n kk12) 1 2 3 4 5) = D28 r n aTy (xs (xs x0 0 (K1 (cY r n) 1)) 1 (K5 (dS r n kk12) 1 2 3 4 5)) (K6 (rM r n kk12) 1 2 3 4 5 6) :=
 congrArg (fun k => D28 r n aTy (xs (xs x0 0 (K1 (cY r n) 1)) 1 (K5 (dS r n kk12) 1 2 3 4 5)) k) (dAb r n kk12)
theorem cDo (kk12 : bK) (q0 : gX) (q1 : TT1) (q2 : bK) : D28 r n aTy (xs (xs x0 0 (K1 q1 1)) 1 (K5 q2 1 2 3 4 5)) (K6 q0 1 2 3 4 5 6) = fun (env : aZ) (h : Hp) =>
 bnd (aC 1 (env 2) (env 5) (resv 1 h)) fun v1 h1 =>
 bnd (aA v1 h1) fun v2 h2 =>
 bnd (aC 1 (env 3) (env 5) h2) fun v3 h3 =>
 bnd (aA v3 h3) fun v4 h4 =>
 bnd (aC 1 (env 4) (env 5) h4) fun v5 h5 =>
 bnd (aA v5 h5) fun v6 h6 =>
 bnd (bL [(.s []), (.i .i64 (Int.ofNat 0)), .l0, (.i .i64 (Int.ofNat 0)), .l0] [(0, 1, v2), (1, 1, v4), (3, 1, v6)] h6) fun v7 h7 =>
 bnd (iQ (bN 0 h.next) [(.s []), (.i .i64 (Int.ofNat 0)), .l0, (.i .i64 (Int.ofNat 0)), .l0] h7) fun v8 h8 =>
 bnd (aJ 5 v8 v7 h8) fun v9 h9 =>
  q0 (env 1) (env 2) (env 3) (env 4) (env 5) v8 h9 := by kernel_rfl
theorem bKt (kk12 : bK) : (fun (env : aZ) (h : Hp) =>
 bnd (aC 1 (env 2) (env 5) (resv 1 h)) fun v1 h1 =>
 bnd (aA v1 h1) fun v2 h2 =>
 bnd (aC 1 (env 3) (env 5) h2) fun v3 h3 =>
 bnd (aA v3 h3) fun v4 h4 =>
 bnd (aC 1 (env 4) (env 5) h4) fun v5 h5 =>
 bnd (aA v5 h5) fun v6 h6 =>
 bnd (bL [(.s []), (.i .i64 (Int.ofNat 0)), .l0, (.i .i64 (Int.ofNat 0)), .l0] [(0, 1, v2), (1, 1, v4), (3, 1, v6)] h6) fun v7 h7 =>
 bnd (iQ (bN 0 h.next) [(.s []), (.i .i64 (Int.ofNat 0)), .l0, (.i .i64 (Int.ofNat 0)), .l0] h7) fun v8 h8 =>
 bnd (aJ 5 v8 v7 h8) fun v9 h9 =>
  rM r n kk12 (env 1) (env 2) (env 3) (env 4) (env 5) v8 h9) = (K5 (aKr r n kk12) 1 2 3 4 5) := by kernel_rfl
theorem cWp (kk12 : bK) : D28 r n aMh (xs x0 0 (K1 (cY r n) 1)) (K5 kk12 1 2 3 4 5) = (K5 (aKr r n kk12) 1 2 3 4 5) :=
 (cCi r n kk12).trans
 ((by kernel_rfl : D28 r n aJz (xs x0 0 (K1 (cY r n) 1)) (K5 (dS r n kk12) 1 2 3 4 5) = D28 r n aIq (xs (xs x0 0 (K1 (cY r n) 1)) 1 (K5 (dS r n kk12) 1 2 3 4 5)) (K5 (dS r n kk12) 1 2 3 4 5)).trans
 ((bPb r n kk12).trans
 ((cDo r n kk12 (rM r n kk12) (cY r n) (dS r n kk12)).trans (bKt r n kk12))))
theorem bJj (kk12 : bK) : D28 r n kT (xs x0 0 (K1 (cY r n) 1)) (K5 kk12 1 2 3 4 5) = D28 r n cGw (xs x0 0 (K1 (cY r n) 1)) (K5 (aKr r n kk12) 1 2 3 4 5) :=
 congrArg (fun k => D28 r n cGw (xs x0 0 (K1 (cY r n) 1)) k) (cWp r n kk12)
theorem bWp (kk12 : bK) : D28 r n kT (xs x0 0 (K1 (cY r n) 1)) (K5 kk12 1 2 3 4 5) = (K5 (aZr r n kk12) 1 2 3 4 5) :=
 (bJj r n kk12).trans
 ((by kernel_rfl))
theorem cAl (m : Nat) : aK (fun kk => D28 r n kT (xs x0 0 (K1 (cY r n) 1)) kk) m = (K5 (vT r n m) 1 2 3 4 5) := by
 induction m with
 | zero => exact (by kernel_rfl : aK (fun kk => D28 r n kT (xs x0 0 (K1 (cY r n) 1)) kk) 0 = (K5 (vT r n 0) 1 2 3 4 5))
 | succ m ih =>
  refine (by kernel_rfl : aK (fun kk => D28 r n kT (xs x0 0 (K1 (cY r n) 1)) kk) (m + 1) = D28 r n kT (xs x0 0 (K1 (cY r n) 1)) (aK (fun kk => D28 r n kT (xs x0 0 (K1 (cY r n) 1)) kk) m)).trans ?_
  rw [ih]
  exact (bWp r n (vT r n m)).trans (by kernel_rfl)
theorem cPl : D28 r n aGn (xs x0 0 (K1 (cY r n) 1)) (K1 (cY r n) 1) = (K5 (cIp r n) 1 2 3 4 5) :=
 (by kernel_rfl : D28 r n aGn (xs x0 0 (K1 (cY r n) 1)) (K1 (cY r n) 1) = aK (fun kk => D28 r n kT (xs x0 0 (K1 (cY r n) 1)) kk) n).trans ((cAl r n n).trans (by kernel_rfl))
theorem dCy : D28 r n aRe x0 (K1 (cY r n) 1) = (K5 (aXp r n) 1 2 3 4 5) :=
 (by kernel_rfl : D28 r n aRe x0 (K1 (cY r n) 1) = D28 r n aGn (xs x0 0 (K1 (cY r n) 1)) (K1 (cY r n) 1)).trans
 ((cPl r n).trans (by kernel_rfl))
theorem cJz : D28 r n bEf x0 r28 = D28 r n xN x0 (K1 (cY r n) 1) :=
 congrArg (fun k => D28 r n xN x0 k) (dOa r n)
theorem cLd : D28 r n xN x0 (K1 (cY r n) 1) = D28 r n bPr x0 (K5 (aXp r n) 1 2 3 4 5) :=
 congrArg (fun k => D28 r n bPr x0 k) (dCy r n)
theorem dRb : D28 r n bEf x0 r28 = (K4 (aNu r n) 1 2 3 4) :=
 (cJz r n).trans
 ((cLd r n).trans
 ((by kernel_rfl)))
theorem bWr : D28 r n bBq x0 r28 = D28 r n aWs x0 (K4 (aNu r n) 1 2 3 4) :=
 congrArg (fun k => D28 r n aWs x0 k) (dRb r n)
theorem cLg (q0 : bT) : D28 r n aWs x0 (K4 q0 1 2 3 4) = fun (env : aZ) (h : Hp) =>
 bnd (aO [(.i .i64 (Int.ofNat 0)), (.i .i64 (Int.ofNat 0)), (.i .i64 (Int.ofNat 0)), (.i .i64 (Int.ofNat 0)), (.i .i64 (Int.ofNat 0)), (.i .i64 (Int.ofNat 0)), (.i .i64 (Int.ofNat 0)), (.i .i64 (Int.ofNat 0)), (.i .i64 (Int.ofNat 0)), (.i .i64 (Int.ofNat 0)), (.i .i64 (Int.ofNat 0)), (.i .i64 (Int.ofNat 0)), (.i .i64 (Int.ofNat 0)), (.i .i64 (Int.ofNat 0)), (.i .i64 (Int.ofNat 0)), (.i .i64 (Int.ofNat 0))] 16 [(0, 1, (.i .i64 (Int.ofNat 0))), (1, 1, (.i .i64 (Int.ofNat 3))), (2, 1, (.i .i64 (Int.ofNat 3))), (3, 1, (.i .i64 (Int.ofNat 3))), (4, 1, (.i .i64 (Int.ofNat 3))), (5, 1, (.i .i64 (Int.ofNat 3))), (6, 1, (.i .i64 (Int.ofNat 3))), (7, 1, (.i .i64 (Int.ofNat 3))), (8, 1, (.i .i64 (Int.ofNat 3))), (9, 1, (.i .i64 (Int.ofNat 1))), (10, 1, (.i .i64 (Int.ofNat 2))), (11, 1, (.i .i64 (Int.ofNat 2))), (12, 1, (.i .i64 (Int.ofNat 3))), (13, 1, (.i .i64 (Int.ofNat 3))), (14, 1, (.i .i64 (Int.ofNat 3))), (15, 1, (.i .i64 (Int.ofNat 0)))] h) fun v1 h1 =>
  q0 (env 1) (env 2) (env 3) v1 h1 := by kernel_rfl
theorem bJc : (fun (env : aZ) (h : Hp) =>
 bnd (aO [(.i .i64 (Int.ofNat 0)), (.i .i64 (Int.ofNat 0)), (.i .i64 (Int.ofNat 0)), (.i .i64 (Int.ofNat 0)), (.i .i64 (Int.ofNat 0)), (.i .i64 (Int.ofNat 0)), (.i .i64 (Int.ofNat 0)), (.i .i64 (Int.ofNat 0)), (.i .i64 (Int.ofNat 0)), (.i .i64 (Int.ofNat 0)), (.i .i64 (Int.ofNat 0)), (.i .i64 (Int.ofNat 0)), (.i .i64 (Int.ofNat 0)), (.i .i64 (Int.ofNat 0)), (.i .i64 (Int.ofNat 0)), (.i .i64 (Int.ofNat 0))] 16 [(0, 1, (.i .i64 (Int.ofNat 0))), (1, 1, (.i .i64 (Int.ofNat 3))), (2, 1, (.i .i64 (Int.ofNat 3))), (3, 1, (.i .i64 (Int.ofNat 3))), (4, 1, (.i .i64 (Int.ofNat 3))), (5, 1, (.i .i64 (Int.ofNat 3))), (6, 1, (.i .i64 (Int.ofNat 3))), (7, 1, (.i .i64 (Int.ofNat 3))), (8, 1, (.i .i64 (Int.ofNat 3))), (9, 1, (.i .i64 (Int.ofNat 1))), (10, 1, (.i .i64 (Int.ofNat 2))), (11, 1, (.i .i64 (Int.ofNat 2))), (12, 1, (.i .i64 (Int.ofNat 3))), (13, 1, (.i .i64 (Int.ofNat 3))), (14, 1, (.i .i64 (Int.ofNat 3))), (15, 1, (.i .i64 (Int.ofNat 0)))] h) fun v1 h1 =>
  aNu r n (env 1) (env 2) (env 3) v1 h1) = (K3 (aBk r n) 1 2 3) := by kernel_rfl
theorem dSw : D28 r n bBq x0 r28 = (K3 (aBk r n) 1 2 3) :=
 (bWr r n).trans
 ((cLg r n (aNu r n)).trans (bJc r n))
theorem cMi : D28 r n bEc x0 r28 = D28 r n aXr x0 (K3 (aBk r n) 1 2 3) :=
 congrArg (fun k => D28 r n aXr x0 k) (dSw r n)
theorem bQq (q0 : bZ) : D28 r n aXr x0 (K3 q0 1 2 3) = fun (env : aZ) (h : Hp) =>
 bnd (aO [(.i .i64 (Int.ofNat 0)), (.i .i64 (Int.ofNat 0)), (.i .i64 (Int.ofNat 0)), (.i .i64 (Int.ofNat 0)), (.i .i64 (Int.ofNat 0)), (.i .i64 (Int.ofNat 0)), (.i .i64 (Int.ofNat 0)), (.i .i64 (Int.ofNat 0)), (.i .i64 (Int.ofNat 0)), (.i .i64 (Int.ofNat 0)), (.i .i64 (Int.ofNat 0)), (.i .i64 (Int.ofNat 0)), (.i .i64 (Int.ofNat 0)), (.i .i64 (Int.ofNat 0)), (.i .i64 (Int.ofNat 0)), (.i .i64 (Int.ofNat 0))] 16 [(0, 1, (.i .i64 (Int.negSucc 0))), (1, 1, (.i .i64 (Int.ofNat 0))), (2, 1, (.i .i64 (Int.ofNat 0))), (3, 1, (.i .i64 (Int.ofNat 0))), (4, 1, (.i .i64 (Int.ofNat 3))), (5, 1, (.i .i64 (Int.ofNat 3))), (6, 1, (.i .i64 (Int.ofNat 0))), (7, 1, (.i .i64 (Int.ofNat 6))), (8, 1, (.i .i64 (Int.ofNat 6))), (9, 1, (.i .i64 (Int.ofNat 0))), (10, 1, (.i .i64 (Int.ofNat 0))), (11, 1, (.i .i64 (Int.ofNat 10))), (12, 1, (.i .i64 (Int.ofNat 0))), (13, 1, (.i .i64 (Int.ofNat 0))), (14, 1, (.i .i64 (Int.ofNat 0))), (15, 1, (.i .i64 (Int.ofNat 0)))] h) fun v1 h1 =>
  q0 (env 1) (env 2) v1 h1 := by kernel_rfl
theorem bJh : (fun (env : aZ) (h : Hp) =>
 bnd (aO [(.i .i64 (Int.ofNat 0)), (.i .i64 (Int.ofNat 0)), (.i .i64 (Int.ofNat 0)), (.i .i64 (Int.ofNat 0)), (.i .i64 (Int.ofNat 0)), (.i .i64 (Int.ofNat 0)), (.i .i64 (Int.ofNat 0)), (.i .i64 (Int.ofNat 0)), (.i .i64 (Int.ofNat 0)), (.i .i64 (Int.ofNat 0)), (.i .i64 (Int.ofNat 0)), (.i .i64 (Int.ofNat 0)), (.i .i64 (Int.ofNat 0)), (.i .i64 (Int.ofNat 0)), (.i .i64 (Int.ofNat 0)), (.i .i64 (Int.ofNat 0))] 16 [(0, 1, (.i .i64 (Int.negSucc 0))), (1, 1, (.i .i64 (Int.ofNat 0))), (2, 1, (.i .i64 (Int.ofNat 0))), (3, 1, (.i .i64 (Int.ofNat 0))), (4, 1, (.i .i64 (Int.ofNat 3))), (5, 1, (.i .i64 (Int.ofNat 3))), (6, 1, (.i .i64 (Int.ofNat 0))), (7, 1, (.i .i64 (Int.ofNat 6))), (8, 1, (.i .i64 (Int.ofNat 6))), (9, 1, (.i .i64 (Int.ofNat 0))), (10, 1, (.i .i64 (Int.ofNat 0))), (11, 1, (.i .i64 (Int.ofNat 10))), (12, 1, (.i .i64 (Int.ofNat 0))), (13, 1, (.i .i64 (Int.ofNat 0))), (14, 1, (.i .i64 (Int.ofNat 0))), (15, 1, (.i .i64 (Int.ofNat 0)))] h) fun v1 h1 =>
  aBk r n (env 1) (env 2) v1 h1) = (K2 (aBx r n) 1 2) := by kernel_rfl
theorem dLx : D28 r n bEc x0 r28 = (K2 (aBx r n) 1 2) :=
 (cMi r n).trans
 ((bQq r n (aBk r n)).trans (bJh r n))
theorem cLn : D28 r n bIc x0 r28 = D28 r n aSx x0 (K2 (aBx r n) 1 2) :=
 congrArg (fun k => D28 r n aSx x0 k) (dLx r n)
theorem bOe (q0 : gV) : D28 r n aSx x0 (K2 q0 1 2) = fun (env : aZ) (h : Hp) =>
 bnd (aO [(.s []), (.s []), (.s []), (.s []), (.s []), (.s []), (.s []), (.s []), (.s []), (.s []), (.s []), (.s []), (.s []), (.s []), (.s []), (.s [])] 16 [(0, 1, (.s [79, 98, 106, 101, 99, 116])), (1, 1, (.s [67, 108, 97, 115, 115])), (2, 1, (.s [85, 110, 100, 101, 102, 105, 110, 101, 100, 79, 98, 106, 101, 99, 116])), (3, 1, (.s [66, 111, 111, 108, 101, 97, 110])), (4, 1, (.s [84, 114, 117, 101])), (5, 1, (.s [70, 97, 108, 115, 101])), (6, 1, (.s [73, 110, 116, 101, 103, 101, 114])), (7, 1, (.s [83, 109, 97, 108, 108, 73, 110, 116, 101, 103, 101, 114])), (8, 1, (.s [76, 97, 114, 103, 101, 73, 110, 116, 101, 103, 101, 114])), (9, 1, (.s [65, 114, 114, 97, 121])), (10, 1, (.s [83, 116, 114, 105, 110, 103])), (11, 1, (.s [83, 121, 109, 98, 111, 108])), (12, 1, (.s [66, 108, 111, 99, 107])), (13, 1, (.s [67, 111, 110, 116, 101, 120, 116])), (14, 1, (.s [77, 101, 116, 104, 111, 100])), (15, 1, (.s [77, 101, 115, 115, 97, 103, 101]))] h) fun v1 h1 =>
  q0 (env 1) v1 h1 := by kernel_rfl
theorem bJb : (fun (env : aZ) (h : Hp) =>
 bnd (aO [(.s []), (.s []), (.s []), (.s []), (.s []), (.s []), (.s []), (.s []), (.s []), (.s []), (.s []), (.s []), (.s []), (.s []), (.s []), (.s [])] 16 [(0, 1, (.s [79, 98, 106, 101, 99, 116])), (1, 1, (.s [67, 108, 97, 115, 115])), (2, 1, (.s [85, 110, 100, 101, 102, 105, 110, 101, 100, 79, 98, 106, 101, 99, 116])), (3, 1, (.s [66, 111, 111, 108, 101, 97, 110])), (4, 1, (.s [84, 114, 117, 101])), (5, 1, (.s [70, 97, 108, 115, 101])), (6, 1, (.s [73, 110, 116, 101, 103, 101, 114])), (7, 1, (.s [83, 109, 97, 108, 108, 73, 110, 116, 101, 103, 101, 114])), (8, 1, (.s [76, 97, 114, 103, 101, 73, 110, 116, 101, 103, 101, 114])), (9, 1, (.s [65, 114, 114, 97, 121])), (10, 1, (.s [83, 116, 114, 105, 110, 103])), (11, 1, (.s [83, 121, 109, 98, 111, 108])), (12, 1, (.s [66, 108, 111, 99, 107])), (13, 1, (.s [67, 111, 110, 116, 101, 120, 116])), (14, 1, (.s [77, 101, 116, 104, 111, 100])), (15, 1, (.s [77, 101, 115, 115, 97, 103, 101]))] h) fun v1 h1 =>
  aBx r n (env 1) v1 h1) = (K1 (aBt r n) 1) := by kernel_rfl
theorem dHi : D28 r n bIc x0 r28 = (K1 (aBt r n) 1) :=
 (cLn r n).trans
 ((bOe r n (aBx r n)).trans (bJb r n))
theorem bZg : D28 r n bHh x0 r28 = D28 r n aUh x0 (K1 (aBt r n) 1) :=
 congrArg (fun k => D28 r n aUh x0 k) (dHi r n)
theorem cMm (q0 : TT1) : D28 r n aUh x0 (K1 q0 1) = fun (env : aZ) (h : Hp) =>
 bnd (bL [.l0] [] h) fun v1 h1 =>
 bnd (bQ v1 h1) fun v2 h2 =>
  q0 v2 h2 := by kernel_rfl
theorem bKr : (fun (env : aZ) (h : Hp) =>
 bnd (bL [.l0] [] h) fun v1 h1 =>
 bnd (bQ v1 h1) fun v2 h2 =>
  aBt r n v2 h2) = (K0 (aZy r n)) := by kernel_rfl
theorem dMy : D28 r n bHh x0 r28 = (K0 (aZy r n)) :=
 (bZg r n).trans
 ((cMm r n (aBt r n)).trans (bKr r n))
theorem dTg : D28 r n c28 x0 r28 = D28 r n cFb x0 (K0 (aZy r n)) :=
 congrArg (fun k => D28 r n cFb x0 k) (dMy r n)
theorem eKm : D28 r n c28 x0 r28 = (K0 (s28 r n)) :=
 (dTg r n).trans
 ((by kernel_rfl))
theorem dWj : aG CF r n 28 args h = s28 r n h :=
 (by kernel_rfl : aG CF r n 28 args h = D28 r n c28 x0 r28 (aI args) h).trans ((congrFun (congrFun (eKm r n) (aI args)) h).trans (by kernel_rfl))
noncomputable def s34 (r : RT) (n : Nat) (x0 x1 x2 : DV) (h0 : Hp) : aH :=
 bnd (r 58 [x0, x1] h0) fun v1 h1 =>
 bnd (aD .eql v1 (aF 0) h1) fun v2 h2 =>
 aU v2 (
 some (.t [(aF 0), (aF 0), (.s []), (aF 24)], h2)) (
 bnd (r 86 [x2] h2) fun v3 h3 =>
 bnd (aE 0 v3 h3) fun v4 h4 =>
 bnd (aE 1 v3 h4) fun v5 h5 =>
 bnd (aE 2 v3 h5) fun v6 h6 =>
 bnd (bS tQ h6) fun v7 h7 =>
 bnd (aJ 6 v7 v4 h7) fun _ h8 =>
 bnd (aD .neq v6 (aF 0) h8) fun v9 h9 =>
 aU v9 (
 some (.t [(aF 0), v5, (.s []), v6], h9)) (
 bnd (aL 6 v7 (resv 1 h9)) fun v10 h10 =>
 bnd (r 55 [x0, v1] h10) fun v11 h11 =>
 cnd (bR (aL 6 v7 h11) v10 && true) (
 bnd (r 87 [v10, v11] h11) fun v12 h12 =>
 bnd (aE 0 v12 h12) fun v13 h13 =>
 bnd (aE 1 v12 h13) fun v14 h14 =>
 bnd (aE 2 v12 h14) fun v15 h15 =>
 bnd (iQ (bN 0 h9.next) [(.s []), (aF 0), (aF 0), (aF 0), .l0, .l0] h15) fun v16 h16 =>
 bnd (aJ 6 v16 v13 h16) fun v17 h17 =>
 bnd (aD .neq v15 (aF 0) h17) fun v18 h18 =>
 aU v18 (
 some (.t [(aF 0), (aF 0), v14, v15], h18)) (
 bnd (aL 6 v16 h18) fun v19 h19 =>
 bnd (r 88 [x0, v1, v19] h19) fun v20 h20 =>
 bnd (aE 0 v20 h20) fun v21 h21 =>
 bnd (aE 1 v20 h21) fun v22 h22 =>
 bnd (aD .neq v22 (aF 0) h22) fun v23 h23 =>
 aU v23 (
 some (.t [(aF 0), (aF 0), (.s []), v22], h23)) (
 some (.t [v21, (aF 0), (.s []), (aF 0)], h23))))))
noncomputable abbrev c34 : Code := cf Tryz.f34
noncomputable abbrev r34 : K := aQ CF Tryz.f34
noncomputable def D34 (r : RT) (n : Nat) (c : Code) (X : Nat → K) (k : K) : K := aP CF r 56 n c X r34 k
theorem eMe : D34 r n c34 x0 r34 = (K3 (s34 r n) 0 1 2) :=
 (by kernel_rfl)
theorem eAe : aG CF r n 34 args h = s34 r n (aR args 0) (aR args 1) (aR args 2) h :=
 (by kernel_rfl : aG CF r n 34 args h = D34 r n c34 x0 r34 (aI args) h).trans ((congrFun (congrFun (eMe r n) (aI args)) h).trans (by kernel_rfl))
noncomputable def s35 (r : RT) (n : Nat) (x0 x1 x2 : DV) (h0 : Hp) : aH :=
 bnd (r 82 [x0, x1] h0) fun v1 h1 =>
 bnd (aD .lss v1 (aF 0) h1) fun v2 h2 =>
 aU v2 (
 some (.t [(aF 0), (.s []), (aF 24)], h2)) (
 bnd (r 89 [x2, (.b true)] h2) fun v3 h3 =>
 bnd (aE 0 v3 h3) fun v4 h4 =>
 bnd (aE 1 v3 h4) fun v5 h5 =>
 bnd (aE 2 v3 h5) fun v6 h6 =>
 bnd (bS tQ h6) fun v7 h7 =>
 bnd (aJ 6 v7 v4 h7) fun _ h8 =>
 bnd (aD .neq v6 (aF 0) h8) fun v9 h9 =>
 aU v9 (
 some (.t [v5, (.s []), v6], h9)) (
 bnd (aL 6 v7 (resv 1 h9)) fun v10 h10 =>
 bnd (r 83 [x0, v1] h10) fun v11 h11 =>
 cnd (bR (aL 6 v7 h11) v10 && true) (
 bnd (r 90 [v10, v11, (.b false)] h11) fun v12 h12 =>
 bnd (aE 0 v12 h12) fun v13 h13 =>
 bnd (aE 1 v12 h13) fun v14 h14 =>
 bnd (aE 2 v12 h14) fun v15 h15 =>
 bnd (iQ (bN 0 h9.next) [(.s []), (aF 0), (aF 0), (aF 0), .l0, .l0] h15) fun v16 h16 =>
 bnd (aJ 6 v16 v13 h16) fun v17 h17 =>
 bnd (aD .neq v15 (aF 0) h17) fun v18 h18 =>
 aU v18 (
 some (.t [(aF 0), v14, v15], h18)) (
 bnd (aL 6 v16 h18) fun v19 h19 =>
 bnd (r 91 [x0, v1, v19] h19) fun v20 h20 =>
 some (.t [(aF 0), (.s []), v20], h20)))))
noncomputable abbrev c35 : Code := cf Tryz.f35
noncomputable abbrev r35 : K := aQ CF Tryz.f35
noncomputable def D35 (r : RT) (n : Nat) (c : Code) (X : Nat → K) (k : K) : K := aP CF r 48 n c X r35 k
theorem eIn : D35 r n c35 x0 r35 = (K3 (s35 r n) 0 1 2) :=
 (by kernel_rfl)
theorem dZr : aG CF r n 35 args h = s35 r n (aR args 0) (aR args 1) (aR args 2) h :=
 (by kernel_rfl : aG CF r n 35 args h = D35 r n c35 x0 r35 (aI args) h).trans ((congrFun (congrFun (eIn r n) (aI args)) h).trans (by kernel_rfl))
end Go.Dd

namespace Go.Dd
open Go.Proofs
variable (r : RT) (n : Nat) (args : List DV) (h : Hp)
noncomputable def cF (r : RT) (n : Nat) (h0 : Hp) : aH :=
 some ((.b true), h0)
noncomputable def cP (r : RT) (n : Nat) (kk4 : bZ) (x0 x1 x7 : DV) (h0 : Hp) : aH :=
 bnd (aD .add x7 (.i .i64 (Int.ofNat 1)) h0) fun v1 h1 =>
  kk4 x0 x1 v1 h1
noncomputable def aAh (r : RT) (n : Nat) (kk4 : bZ) (kk9 : bK) (x0 x1 x7 x8 x9 : DV) (h0 : Hp) : aH :=
 bnd (aX x1 h0) fun v1 h1 =>
 bnd (aB 0 v1 h1) fun v2 h2 =>
 bnd (aA v2 h2) fun v3 h3 =>
 bnd (aC 5 v3 x7 h3) fun v4 h4 =>
 bnd (aB 4 v4 h4) fun v5 h5 =>
 bnd (aA v5 h5) fun v6 h6 =>
 bnd (bJ v6 h6) fun v7 h7 =>
 bnd (aD .lss x9 v7 h7) fun v8 h8 =>
 aU v8 (
 bnd (aX x1 h8) fun v9 h9 =>
 bnd (aB 0 v9 h9) fun v10 h10 =>
 bnd (aA v10 h10) fun v11 h11 =>
 bnd (aC 5 v11 x7 h11) fun v12 h12 =>
 bnd (aB 4 v12 h12) fun v13 h13 =>
 bnd (aA v13 h13) fun v14 h14 =>
 bnd (aC 6 v14 x9 h14) fun v15 h15 =>
 bnd (aB 0 v15 h15) fun v16 h16 =>
 bnd (aA v16 h16) fun v17 h17 =>
 bnd (r 11 [x0, v17] h17) fun v18 h18 =>
 bnd (aE 0 v18 h18) fun v19 h19 =>
 bnd (aE 1 v18 h19) fun v20 h20 =>
 bnd (r 95 [x0, x8, v19] h20) fun v21 h21 =>
 bnd (r 56 [x0, v21] h21) fun v22 h22 =>
 bnd (aE 0 v22 h22) fun v23 h23 =>
 bnd (aE 1 v22 h23) fun v24 h24 =>
 bnd (bS [(.s []), (.i .i64 (Int.ofNat 0)), (.i .i64 (Int.ofNat 0)), (.i .i64 (Int.ofNat 0)), .l0, .l0] h24) fun v25 h25 =>
 bnd (aJ 6 v25 v23 h25) fun _ h26 =>
 bnd (aL 6 v25 h26) fun v27 h27 =>
 bnd (aX x1 h27) fun v28 h28 =>
 bnd (aB 0 v28 h28) fun v29 h29 =>
 bnd (aA v29 h29) fun v30 h30 =>
 bnd (aC 5 v30 x7 h30) fun v31 h31 =>
 bnd (aB 4 v31 h31) fun v32 h32 =>
 bnd (aA v32 h32) fun v33 h33 =>
 bnd (aC 6 v33 x9 h33) fun v34 h34 =>
 bnd (aL 6 v34 h34) fun v35 h35 =>
 bnd (r 96 [v27, v35] h35) fun v36 h36 =>
 bnd (aD .neq v20 (.i .i64 (Int.ofNat 0)) h36) fun v37 h37 =>
 bnd (gD v37 false (some (v24, h37)) h37) fun v38 h38 =>
 bnd (gD v37 false (gP .not v38 h38) h38) fun v39 h39 =>
 bnd (aN v37 (.b true) v39 h39) fun v40 h40 =>
 bnd (gD v40 false (some (v36, h40)) h40) fun v41 h41 =>
 bnd (gD v40 false (gP .not v41 h41) h41) fun v42 h42 =>
 bnd (aN v40 (.b true) v42 h42) fun v43 h43 =>
 aU v43 (
 some ((.b false), h43)) (
 bnd (aD .add x9 (.i .i64 (Int.ofNat 1)) h43) fun v44 h44 =>
    kk9 x0 x1 x7 x8 v44 h44)) (
      cP r n kk4 x0 x1 x7 h8)
noncomputable def sA (r : RT) (n : Nat) (kk4 : bZ) (m : Nat) : bK :=
 Nat.rec (motive := fun _ => bK) (fun _ _ _ _ _ _ => none) (fun _ ih => aAh r n kk4 ih) m
noncomputable def bSa (r : RT) (n : Nat) (kk4 : bZ) : bK := sA r n kk4 n
noncomputable def bAb (r : RT) (n : Nat) (kk4 : bZ) (x0 x1 x7 x8 x9 : DV) (h0 : Hp) : aH :=
 bSa r n kk4 x0 x1 x7 x8 x9 h0
noncomputable def bGi (r : RT) (n : Nat) (kk4 : bZ) (x0 x1 x7 x8 : DV) (h0 : Hp) : aH :=
 bAb r n kk4 x0 x1 x7 x8 (.i .i64 (Int.ofNat 0)) h0
noncomputable def bEq (r : RT) (n : Nat) (kk4 : bZ) (x0 x1 x7 : DV) (h0 : Hp) : aH :=
 bnd (aX x1 h0) fun v1 h1 =>
 bnd (aB 0 v1 h1) fun v2 h2 =>
 bnd (aA v2 h2) fun v3 h3 =>
 bnd (aC 5 v3 x7 h3) fun v4 h4 =>
 bnd (aB 0 v4 h4) fun v5 h5 =>
 bnd (aA v5 h5) fun v6 h6 =>
 bnd (r 58 [x0, v6] h6) fun v7 h7 =>
  bGi r n kk4 x0 x1 x7 v7 h7
noncomputable def pF (r : RT) (n : Nat) (kk4 : bZ) (x0 x1 x7 : DV) (h0 : Hp) : aH :=
 bnd (aX x1 h0) fun v1 h1 =>
 bnd (aB 0 v1 h1) fun v2 h2 =>
 bnd (aA v2 h2) fun v3 h3 =>
 bnd (bJ v3 h3) fun v4 h4 =>
 bnd (aD .lss x7 v4 h4) fun v5 h5 =>
 aU v5 (
   bEq r n kk4 x0 x1 x7 h5) (
   cF r n h5)
noncomputable def nE (r : RT) (n : Nat) (m : Nat) : bZ :=
 Nat.rec (motive := fun _ => bZ) (fun _ _ _ _ => none) (fun _ ih => pF r n ih) m
noncomputable def dGa (r : RT) (n : Nat) : bZ := nE r n n
noncomputable def bRg (r : RT) (n : Nat) (x0 x1 x7 : DV) (h0 : Hp) : aH :=
 dGa r n x0 x1 x7 h0
noncomputable def cKd (r : RT) (n : Nat) (x0 x1 x2 : DV) (h0 : Hp) : aH :=
 bRg r n x0 x1 x2 h0
noncomputable def s40 (r : RT) (n : Nat) (x0 x1 x2 : DV) (h0 : Hp) : aH :=
 cKd r n x0 x1 x2 h0
noncomputable abbrev c40 : Code := cf Tryz.f40
noncomputable abbrev bCg : Code := cR c40
noncomputable abbrev dVf : Code := cR bCg
noncomputable abbrev aPq : Code := cL bCg
noncomputable abbrev cHf : Code := cR aPq
noncomputable abbrev bAk : Code := cL cHf
noncomputable abbrev oB : Code := cL bAk
noncomputable abbrev bEm : Code := cR oB
noncomputable abbrev dZw : Code := cR bEm
noncomputable abbrev bFg : Code := cL bEm
noncomputable abbrev aLm : Code := cL bFg
noncomputable abbrev aMa : Code := cR aLm
noncomputable abbrev aVx : Code := cR aMa
noncomputable abbrev aJl : Code := cL aVx
noncomputable abbrev mV : Code := cL aJl
noncomputable abbrev cIg : Code := cL aMa
noncomputable abbrev bWc : Code := cL aLm
noncomputable abbrev cDl : Code := cL oB
noncomputable abbrev cMv : Code := cL aPq
noncomputable abbrev cAf : Code := cL c40
noncomputable abbrev r40 : K := aQ CF Tryz.f40
noncomputable def D40 (r : RT) (n : Nat) (c : Code) (X : Nat → K) (k : K) : K := aP CF r 97 n c X r40 k
theorem dUe : D40 r n dVf x0 r40 = (K0 (cF r n)) :=
 (by kernel_rfl)
theorem dQb (kk4 : bZ) : D40 r n dZw (xs x0 0 (K0 (cF r n))) (K3 kk4 0 1 7) = (K3 (cP r n kk4) 0 1 7) :=
 (by kernel_rfl)
theorem dAa (kk4 : bZ) (kk9 : bK) (q0 : Hp → aH) (q1 : bZ) : D40 r n mV (xs (xs (xs x0 0 (K0 q0)) 1 (K3 q1 0 1 7)) 2 (K3 q1 0 1 7)) (K5 kk9 0 1 7 8 9) = fun (env : aZ) (h : Hp) =>
 bnd (aX (env 1) h) fun v1 h1 =>
 bnd (aB 0 v1 h1) fun v2 h2 =>
 bnd (aA v2 h2) fun v3 h3 =>
 bnd (aC 5 v3 (env 7) h3) fun v4 h4 =>
 bnd (aB 4 v4 h4) fun v5 h5 =>
 bnd (aA v5 h5) fun v6 h6 =>
 bnd (bJ v6 h6) fun v7 h7 =>
 bnd (aD .lss (env 9) v7 h7) fun v8 h8 =>
 aU v8 (
 bnd (aX (env 1) h8) fun v9 h9 =>
 bnd (aB 0 v9 h9) fun v10 h10 =>
 bnd (aA v10 h10) fun v11 h11 =>
 bnd (aC 5 v11 (env 7) h11) fun v12 h12 =>
 bnd (aB 4 v12 h12) fun v13 h13 =>
 bnd (aA v13 h13) fun v14 h14 =>
 bnd (aC 6 v14 (env 9) h14) fun v15 h15 =>
 bnd (aB 0 v15 h15) fun v16 h16 =>
 bnd (aA v16 h16) fun v17 h17 =>
 bnd (r 11 [(env 0), v17] h17) fun v18 h18 =>
 bnd (aE 0 v18 h18) fun v19 h19 =>
 bnd (aE 1 v18 h19) fun v20 h20 =>
 bnd (r 95 [(env 0), (env 8), v19] h20) fun v21 h21 =>
 bnd (r 56 [(env 0), v21] h21) fun v22 h22 =>
 bnd (aE 0 v22 h22) fun v23 h23 =>
 bnd (aE 1 v22 h23) fun v24 h24 =>
 bnd (bS [(.s []), (.i .i64 (Int.ofNat 0)), (.i .i64 (Int.ofNat 0)), (.i .i64 (Int.ofNat 0)), .l0, .l0] h24) fun v25 h25 =>
 bnd (aJ 6 v25 v23 h25) fun _ h26 =>
 bnd (aL 6 v25 h26) fun v27 h27 =>
 bnd (aX (env 1) h27) fun v28 h28 =>
 bnd (aB 0 v28 h28) fun v29 h29 =>
 bnd (aA v29 h29) fun v30 h30 =>
 bnd (aC 5 v30 (env 7) h30) fun v31 h31 =>
 bnd (aB 4 v31 h31) fun v32 h32 =>
 bnd (aA v32 h32) fun v33 h33 =>
 bnd (aC 6 v33 (env 9) h33) fun v34 h34 =>
 bnd (aL 6 v34 h34) fun v35 h35 =>
 bnd (r 96 [v27, v35] h35) fun v36 h36 =>
 bnd (aD .neq v20 (.i .i64 (Int.ofNat 0)) h36) fun v37 h37 =>
 bnd (gD v37 false (some (v24, h37)) h37) fun v38 h38 =>
 bnd (gD v37 false (gP .not v38 h38) h38) fun v39 h39 =>
 bnd (aN v37 (.b true) v39 h39) fun v40 h40 =>
 bnd (gD v40 false (some (v36, h40)) h40) fun v41 h41 =>
 bnd (gD v40 false (gP .not v41 h41) h41) fun v42 h42 =>
 bnd (aN v40 (.b true) v42 h42) fun v43 h43 =>
 aU v43 (
 some ((.b false), h43)) (
 bnd (aD .add (env 9) (.i .i64 (Int.ofNat 1)) h43) fun v44 h44 =>
    kk9 (env 0) (env 1) (env 7) (env 8) v44 h44)) (
      q1 (env 0) (env 1) (env 7) h8) := by kernel_rfl
theorem cMz (kk4 : bZ) (kk9 : bK) : (fun (env : aZ) (h : Hp) =>
 bnd (aX (env 1) h) fun v1 h1 =>
 bnd (aB 0 v1 h1) fun v2 h2 =>
 bnd (aA v2 h2) fun v3 h3 =>
 bnd (aC 5 v3 (env 7) h3) fun v4 h4 =>
 bnd (aB 4 v4 h4) fun v5 h5 =>
 bnd (aA v5 h5) fun v6 h6 =>
 bnd (bJ v6 h6) fun v7 h7 =>
 bnd (aD .lss (env 9) v7 h7) fun v8 h8 =>
 aU v8 (
 bnd (aX (env 1) h8) fun v9 h9 =>
 bnd (aB 0 v9 h9) fun v10 h10 =>
 bnd (aA v10 h10) fun v11 h11 =>
 bnd (aC 5 v11 (env 7) h11) fun v12 h12 =>
 bnd (aB 4 v12 h12) fun v13 h13 =>
 bnd (aA v13 h13) fun v14 h14 =>
 bnd (aC 6 v14 (env 9) h14) fun v15 h15 =>
 bnd (aB 0 v15 h15) fun v16 h16 =>
 bnd (aA v16 h16) fun v17 h17 =>
 bnd (r 11 [(env 0), v17] h17) fun v18 h18 =>
 bnd (aE 0 v18 h18) fun v19 h19 =>
 bnd (aE 1 v18 h19) fun v20 h20 =>
 bnd (r 95 [(env 0), (env 8), v19] h20) fun v21 h21 =>
 bnd (r 56 [(env 0), v21] h21) fun v22 h22 =>
 bnd (aE 0 v22 h22) fun v23 h23 =>
 bnd (aE 1 v22 h23) fun v24 h24 =>
 bnd (bS [(.s []), (.i .i64 (Int.ofNat 0)), (.i .i64 (Int.ofNat 0)), (.i .i64 (Int.ofNat 0)), .l0, .l0] h24) fun v25 h25 =>
 bnd (aJ 6 v25 v23 h25) fun _ h26 =>
 bnd (aL 6 v25 h26) fun v27 h27 =>
 bnd (aX (env 1) h27) fun v28 h28 =>
 bnd (aB 0 v28 h28) fun v29 h29 =>
 bnd (aA v29 h29) fun v30 h30 =>
 bnd (aC 5 v30 (env 7) h30) fun v31 h31 =>
 bnd (aB 4 v31 h31) fun v32 h32 =>
 bnd (aA v32 h32) fun v33 h33 =>
 bnd (aC 6 v33 (env 9) h33) fun v34 h34 =>
 bnd (aL 6 v34 h34) fun v35 h35 =>
 bnd (r 96 [v27, v35] h35) fun v36 h36 =>
 bnd (aD .neq v20 (.i .i64 (Int.ofNat 0)) h36) fun v37 h37 =>
 bnd (gD v37 false (some (v24, h37)) h37) fun v38 h38 =>
 bnd (gD v37 false (gP .not v38 h38) h38) fun v39 h39 =>
 bnd (aN v37 (.b true) v39 h39) fun v40 h40 =>
 bnd (gD v40 false (some (v36, h40)) h40) fun v41 h41 =>
 bnd (gD v40 false (gP .not v41 h41) h41) fun v42 h42 =>
 bnd (aN v40 (.b true) v42 h42) fun v43 h43 =>
 aU v43 (
 some ((.b false), h43)) (
 bnd (aD .add (env 9) (.i .i64 (Int.ofNat 1)) h43) fun v44 h44 =>
    kk9 (env 0) (env 1) (env 7) (env 8) v44 h44)) (
      cP r n kk4 (env 0) (env 1) (env 7) h8)) = (K5 (aAh r n kk4 kk9) 0 1 7 8 9) := by kernel_rfl
theorem cZf (kk4 : bZ) (kk9 : bK) : D40 r n mV (xs (xs (xs x0 0 (K0 (cF r n))) 1 (K3 (cP r n kk4) 0 1 7)) 2 (K3 (cP r n kk4) 0 1 7)) (K5 kk9 0 1 7 8 9) = (K5 (aAh r n kk4 kk9) 0 1 7 8 9) :=
 (dAa r n kk4 kk9 (cF r n) (cP r n kk4)).trans (cMz r n kk4 kk9)
theorem cRc (kk4 : bZ) (m : Nat) : aK (fun kk => D40 r n mV (xs (xs (xs x0 0 (K0 (cF r n))) 1 (K3 (cP r n kk4) 0 1 7)) 2 (K3 (cP r n kk4) 0 1 7)) kk) m = (K5 (sA r n kk4 m) 0 1 7 8 9) := by
 induction m with
 | zero => exact (by kernel_rfl : aK (fun kk => D40 r n mV (xs (xs (xs x0 0 (K0 (cF r n))) 1 (K3 (cP r n kk4) 0 1 7)) 2 (K3 (cP r n kk4) 0 1 7)) kk) 0 = (K5 (sA r n kk4 0) 0 1 7 8 9))
 | succ m ih =>
  refine (by kernel_rfl : aK (fun kk => D40 r n mV (xs (xs (xs x0 0 (K0 (cF r n))) 1 (K3 (cP r n kk4) 0 1 7)) 2 (K3 (cP r n kk4) 0 1 7)) kk) (m + 1) = D40 r n mV (xs (xs (xs x0 0 (K0 (cF r n))) 1 (K3 (cP r n kk4) 0 1 7)) 2 (K3 (cP r n kk4) 0 1 7)) (aK (fun kk => D40 r n mV (xs (xs (xs x0 0 (K0 (cF r n))) 1 (K3 (cP r n kk4) 0 1 7)) 2 (K3 (cP r n kk4) 0 1 7)) kk) m)).trans ?_
  rw [ih]
  exact (cZf r n kk4 (sA r n kk4 m)).trans (by kernel_rfl)
theorem dTb (kk4 : bZ) : D40 r n aJl (xs (xs (xs x0 0 (K0 (cF r n))) 1 (K3 (cP r n kk4) 0 1 7)) 2 (K3 (cP r n kk4) 0 1 7)) (K3 (cP r n kk4) 0 1 7) = (K5 (bSa r n kk4) 0 1 7 8 9) :=
 (by kernel_rfl : D40 r n aJl (xs (xs (xs x0 0 (K0 (cF r n))) 1 (K3 (cP r n kk4) 0 1 7)) 2 (K3 (cP r n kk4) 0 1 7)) (K3 (cP r n kk4) 0 1 7) = aK (fun kk => D40 r n mV (xs (xs (xs x0 0 (K0 (cF r n))) 1 (K3 (cP r n kk4) 0 1 7)) 2 (K3 (cP r n kk4) 0 1 7)) kk) n).trans ((cRc r n kk4 n).trans (by kernel_rfl))
theorem dLf (kk4 : bZ) : D40 r n aVx (xs (xs x0 0 (K0 (cF r n))) 1 (K3 (cP r n kk4) 0 1 7)) (K3 (cP r n kk4) 0 1 7) = (K5 (bAb r n kk4) 0 1 7 8 9) :=
 (by kernel_rfl : D40 r n aVx (xs (xs x0 0 (K0 (cF r n))) 1 (K3 (cP r n kk4) 0 1 7)) (K3 (cP r n kk4) 0 1 7) = D40 r n aJl (xs (xs (xs x0 0 (K0 (cF r n))) 1 (K3 (cP r n kk4) 0 1 7)) 2 (K3 (cP r n kk4) 0 1 7)) (K3 (cP r n kk4) 0 1 7)).trans
 ((dTb r n kk4).trans (by kernel_rfl))
theorem cSx (kk4 : bZ) : D40 r n aMa (xs (xs x0 0 (K0 (cF r n))) 1 (K3 (cP r n kk4) 0 1 7)) (K3 (cP r n kk4) 0 1 7) = D40 r n cIg (xs (xs x0 0 (K0 (cF r n))) 1 (K3 (cP r n kk4) 0 1 7)) (K5 (bAb r n kk4) 0 1 7 8 9) :=
 congrArg (fun k => D40 r n cIg (xs (xs x0 0 (K0 (cF r n))) 1 (K3 (cP r n kk4) 0 1 7)) k) (dLf r n kk4)
theorem dGw (kk4 : bZ) : D40 r n aMa (xs (xs x0 0 (K0 (cF r n))) 1 (K3 (cP r n kk4) 0 1 7)) (K3 (cP r n kk4) 0 1 7) = (K4 (bGi r n kk4) 0 1 7 8) :=
 (cSx r n kk4).trans
 ((by kernel_rfl))
theorem cSr (kk4 : bZ) : D40 r n bEm (xs x0 0 (K0 (cF r n))) (K3 kk4 0 1 7) = D40 r n bFg (xs x0 0 (K0 (cF r n))) (K3 (cP r n kk4) 0 1 7) :=
 congrArg (fun k => D40 r n bFg (xs x0 0 (K0 (cF r n))) k) (dQb r n kk4)
theorem cQb (kk4 : bZ) : D40 r n aLm (xs (xs x0 0 (K0 (cF r n))) 1 (K3 (cP r n kk4) 0 1 7)) (K3 (cP r n kk4) 0 1 7) = D40 r n bWc (xs (xs x0 0 (K0 (cF r n))) 1 (K3 (cP r n kk4) 0 1 7)) (K4 (bGi r n kk4) 0 1 7 8) :=
 congrArg (fun k => D40 r n bWc (xs (xs x0 0 (K0 (cF r n))) 1 (K3 (cP r n kk4) 0 1 7)) k) (dGw r n kk4)
theorem dKz (kk4 : bZ) : D40 r n bEm (xs x0 0 (K0 (cF r n))) (K3 kk4 0 1 7) = (K3 (bEq r n kk4) 0 1 7) :=
 (cSr r n kk4).trans
 ((by kernel_rfl : D40 r n bFg (xs x0 0 (K0 (cF r n))) (K3 (cP r n kk4) 0 1 7) = D40 r n aLm (xs (xs x0 0 (K0 (cF r n))) 1 (K3 (cP r n kk4) 0 1 7)) (K3 (cP r n kk4) 0 1 7)).trans
 ((cQb r n kk4).trans
 ((by kernel_rfl))))
theorem cWl (kk4 : bZ) : D40 r n oB (xs x0 0 (K0 (cF r n))) (K3 kk4 0 1 7) = D40 r n cDl (xs x0 0 (K0 (cF r n))) (K3 (bEq r n kk4) 0 1 7) :=
 congrArg (fun k => D40 r n cDl (xs x0 0 (K0 (cF r n))) k) (dKz r n kk4)
theorem bEk (kk4 : bZ) : D40 r n oB (xs x0 0 (K0 (cF r n))) (K3 kk4 0 1 7) = (K3 (pF r n kk4) 0 1 7) :=
 (cWl r n kk4).trans
 ((by kernel_rfl))
theorem cRq (m : Nat) : aK (fun kk => D40 r n oB (xs x0 0 (K0 (cF r n))) kk) m = (K3 (nE r n m) 0 1 7) := by
 induction m with
 | zero => exact (by kernel_rfl : aK (fun kk => D40 r n oB (xs x0 0 (K0 (cF r n))) kk) 0 = (K3 (nE r n 0) 0 1 7))
 | succ m ih =>
  refine (by kernel_rfl : aK (fun kk => D40 r n oB (xs x0 0 (K0 (cF r n))) kk) (m + 1) = D40 r n oB (xs x0 0 (K0 (cF r n))) (aK (fun kk => D40 r n oB (xs x0 0 (K0 (cF r n))) kk) m)).trans ?_
  rw [ih]
  exact (bEk r n (nE r n m)).trans (by kernel_rfl)
theorem dPs : D40 r n bAk (xs x0 0 (K0 (cF r n))) (K0 (cF r n)) = (K3 (dGa r n) 0 1 7) :=
 (by kernel_rfl : D40 r n bAk (xs x0 0 (K0 (cF r n))) (K0 (cF r n)) = aK (fun kk => D40 r n oB (xs x0 0 (K0 (cF r n))) kk) n).trans ((cRq r n n).trans (by kernel_rfl))
theorem dSv : D40 r n cHf x0 (K0 (cF r n)) = (K3 (bRg r n) 0 1 7) :=
 (by kernel_rfl : D40 r n cHf x0 (K0 (cF r n)) = D40 r n bAk (xs x0 0 (K0 (cF r n))) (K0 (cF r n))).trans
 ((dPs r n).trans (by kernel_rfl))
theorem dEc : D40 r n bCg x0 r40 = D40 r n aPq x0 (K0 (cF r n)) :=
 congrArg (fun k => D40 r n aPq x0 k) (dUe r n)
theorem cOf : D40 r n aPq x0 (K0 (cF r n)) = D40 r n cMv x0 (K3 (bRg r n) 0 1 7) :=
 congrArg (fun k => D40 r n cMv x0 k) (dSv r n)
theorem dQv : D40 r n bCg x0 r40 = (K3 (cKd r n) 0 1 2) :=
 (dEc r n).trans
 ((cOf r n).trans
 ((by kernel_rfl)))
theorem eDs : D40 r n c40 x0 r40 = D40 r n cAf x0 (K3 (cKd r n) 0 1 2) :=
 congrArg (fun k => D40 r n cAf x0 k) (dQv r n)
theorem eLp : D40 r n c40 x0 r40 = (K3 (s40 r n) 0 1 2) :=
 (eDs r n).trans
 ((by kernel_rfl))
theorem dFe : aG CF r n 40 args h = s40 r n (aR args 0) (aR args 1) (aR args 2) h :=
 (by kernel_rfl : aG CF r n 40 args h = D40 r n c40 x0 r40 (aI args) h).trans ((congrFun (congrFun (eLp r n) (aI args)) h).trans (by kernel_rfl))
noncomputable def s45 (r : RT) (n : Nat) (x0 x1 : DV) (h0 : Hp) : aH :=
 bnd (bQ x0 h0) fun v1 h1 =>
 bnd (bJ x1 h1) fun v2 h2 =>
 bnd (aD .gtr v2 (aF 250) h2) fun v3 h3 =>
 bnd (gD v3 false (some (x1, h3)) h3) fun v4 h4 =>
 bnd (gD v3 false (some ((.f 106 [] [v1]), h4)) h4) fun v5 h5 =>
 bnd (gD v3 false (r 97 [v4, v5] h5) h5) fun v6 h6 =>
 bnd (aN v3 (.b true) v6 h6) fun v7 h7 =>
 aU v7 (
 some (.t [(aF 0), (aF 1)], h7)) (
 bnd (aA v1 h7) fun v8 h8 =>
 bnd (aA v1 h8) fun v9 h9 =>
 bnd (r 15 [v9, (aF 9)] h9) fun v10 h10 =>
 cnd (bR (aA v1 h10) v8 && true) (
 bnd (r 61 [v8, v10, (aF 0), x1] h10) fun v11 h11 =>
 bnd (aE 0 v11 h11) fun v12 h12 =>
 bnd (aE 1 v11 h12) fun v13 h13 =>
 some (.t [v12, v13], h13)))
noncomputable abbrev c45 : Code := cf Tryz.f45
noncomputable abbrev r45 : K := aQ CF Tryz.f45
noncomputable def D45 (r : RT) (n : Nat) (c : Code) (X : Nat → K) (k : K) : K := aP CF r 21 n c X r45 k
theorem eLo : D45 r n c45 x0 r45 = (K2 (s45 r n) 0 1) :=
 (by kernel_rfl)
theorem dWa : aG CF r n 45 args h = s45 r n (aR args 0) (aR args 1) h :=
 (by kernel_rfl : aG CF r n 45 args h = D45 r n c45 x0 r45 (aI args) h).trans ((congrFun (congrFun (eLo r n) (aI args)) h).trans (by kernel_rfl))
noncomputable def s46 (r : RT) (n : Nat) (x0 : DV) (h0 : Hp) : aH :=
 bnd (oJ [x0] h0) fun v1 h1 =>
 bnd (aE 0 v1 h1) fun v2 h2 =>
 bnd (aE 1 v1 h2) fun v3 h3 =>
 some (v2, h3)
noncomputable abbrev c46 : Code := cf Tryz.f46
noncomputable abbrev r46 : K := aQ CF Tryz.f46
noncomputable def D46 (r : RT) (n : Nat) (c : Code) (X : Nat → K) (k : K) : K := aP CF r 11 n c X r46 k
theorem eIc : D46 r n c46 x0 r46 = (K1 (s46 r n) 0) :=
 (by kernel_rfl)
theorem eFo : aG CF r n 46 args h = s46 r n (aR args 0) h :=
 (by kernel_rfl : aG CF r n 46 args h = D46 r n c46 x0 r46 (aI args) h).trans ((congrFun (congrFun (eIc r n) (aI args)) h).trans (by kernel_rfl))
noncomputable def s48 (r : RT) (n : Nat) (x0 x1 x2 : DV) (h0 : Hp) : aH :=
 bnd (r 15 [x0, (aF 9)] h0) fun v1 h1 =>
 bnd (aO [(aF 0), (aF 0)] 2 [(0, 1, x1), (1, 1, x2)] h1) fun v2 h2 =>
 bnd (r 61 [x0, v1, (aF 0), v2] h2) fun v3 h3 =>
 bnd (aE 0 v3 h3) fun v4 h4 =>
 bnd (aE 1 v3 h4) fun v5 h5 =>
 some (.t [v4, v5], h5)
noncomputable abbrev c48 : Code := cf Tryz.f48
noncomputable abbrev r48 : K := aQ CF Tryz.f48
noncomputable def D48 (r : RT) (n : Nat) (c : Code) (X : Nat → K) (k : K) : K := aP CF r 17 n c X r48 k
theorem eHe : D48 r n c48 x0 r48 = (K3 (s48 r n) 0 1 2) :=
 (by kernel_rfl)
theorem eGb : aG CF r n 48 args h = s48 r n (aR args 0) (aR args 1) (aR args 2) h :=
 (by kernel_rfl : aG CF r n 48 args h = D48 r n c48 x0 r48 (aI args) h).trans ((congrFun (congrFun (eHe r n) (aI args)) h).trans (by kernel_rfl))
noncomputable def gC (r : RT) (n : Nat) (x0 x1 x8 : DV) (h0 : Hp) : aH :=
 bnd (r 61 [x0, x1, (aF 2), x8] h0) fun v1 h1 =>
 bnd (aE 0 v1 h1) fun v2 h2 =>
 bnd (aE 1 v1 h2) fun v3 h3 =>
 some (.t [v2, v3], h3)
noncomputable def aSd (r : RT) (n : Nat) (kk5 : gX) (x0 x1 x2 x8 x11 x12 : DV) (h0 : Hp) : aH :=
 bnd (aD .lss x12 x11 h0) fun v1 h1 =>
 aU v1 (
 bnd (cQ x2 x12 h1) fun v2 h2 =>
 bnd (cX .i64 v2 h2) fun v3 h3 =>
 bnd (aO [(aF 0)] 1 [(0, 1, v3)] h3) fun v4 h4 =>
 bnd (aW 1 8 x8 v4 h4) fun v5 h5 =>
 bnd (aD .add x12 (aF 1) h5) fun v6 h6 =>
      kk5 x0 x1 x2 v5 x11 v6 h6) (
      gC r n x0 x1 x8 h1)
noncomputable def aDi (r : RT) (n : Nat) (m : Nat) : gX :=
 Nat.rec (motive := fun _ => gX) (fun _ _ _ _ _ _ _ => none) (fun _ ih => aSd r n ih) m
noncomputable def dGg (r : RT) (n : Nat) : gX := aDi r n n
noncomputable def bUv (r : RT) (n : Nat) (x0 x1 x2 x8 x11 x12 : DV) (h0 : Hp) : aH :=
 dGg r n x0 x1 x2 x8 x11 x12 h0
noncomputable def cLr (r : RT) (n : Nat) (x0 x1 x2 x8 : DV) (h0 : Hp) : aH :=
 bnd (dI x2 h0) fun v1 h1 =>
  bUv r n x0 x1 x2 x8 v1 (aF 0) h1
noncomputable def cNm (r : RT) (n : Nat) (x0 x1 x2 : DV) (h0 : Hp) : aH :=
 cLr r n x0 x1 x2 .l0 h0
noncomputable def s49 (r : RT) (n : Nat) (x0 x1 x2 : DV) (h0 : Hp) : aH :=
 cNm r n x0 x1 x2 h0
noncomputable abbrev c49 : Code := cf Tryz.f49
noncomputable abbrev bIb : Code := cR c49
noncomputable abbrev bIk : Code := cR bIb
noncomputable abbrev eBf : Code := cR bIk
noncomputable abbrev aNt : Code := cL bIk
noncomputable abbrev bUj : Code := cR aNt
noncomputable abbrev aZl : Code := cL bUj
noncomputable abbrev tE : Code := cL aZl
noncomputable abbrev dFv : Code := cL aNt
noncomputable abbrev dGj : Code := cL bIb
noncomputable abbrev bZu : Code := cL c49
noncomputable abbrev r49 : K := aQ CF Tryz.f49
noncomputable def D49 (r : RT) (n : Nat) (c : Code) (X : Nat → K) (k : K) : K := aP CF r 29 n c X r49 k
theorem dMb : D49 r n eBf x0 r49 = (K3 (gC r n) 0 1 8) :=
 (by kernel_rfl)
theorem cWv (kk5 : gX) (q0 : bZ) : D49 r n tE (xs x0 0 (K3 q0 0 1 8)) (K6 kk5 0 1 2 8 11 12) = fun (env : aZ) (h : Hp) =>
 bnd (aD .lss (env 12) (env 11) h) fun v1 h1 =>
 aU v1 (
 bnd (cQ (env 2) (env 12) h1) fun v2 h2 =>
 bnd (cX .i64 v2 h2) fun v3 h3 =>
 bnd (aO [(aF 0)] 1 [(0, 1, v3)] h3) fun v4 h4 =>
 bnd (aW 1 8 (env 8) v4 h4) fun v5 h5 =>
 bnd (aD .add (env 12) (aF 1) h5) fun v6 h6 =>
      kk5 (env 0) (env 1) (env 2) v5 (env 11) v6 h6) (
      q0 (env 0) (env 1) (env 8) h1) := by kernel_rfl
theorem bSf (kk5 : gX) : (fun (env : aZ) (h : Hp) =>
 bnd (aD .lss (env 12) (env 11) h) fun v1 h1 =>
 aU v1 (
 bnd (cQ (env 2) (env 12) h1) fun v2 h2 =>
 bnd (cX .i64 v2 h2) fun v3 h3 =>
 bnd (aO [(aF 0)] 1 [(0, 1, v3)] h3) fun v4 h4 =>
 bnd (aW 1 8 (env 8) v4 h4) fun v5 h5 =>
 bnd (aD .add (env 12) (aF 1) h5) fun v6 h6 =>
      kk5 (env 0) (env 1) (env 2) v5 (env 11) v6 h6) (
      gC r n (env 0) (env 1) (env 8) h1)) = (K6 (aSd r n kk5) 0 1 2 8 11 12) := by kernel_rfl
theorem dAq (kk5 : gX) : D49 r n tE (xs x0 0 (K3 (gC r n) 0 1 8)) (K6 kk5 0 1 2 8 11 12) = (K6 (aSd r n kk5) 0 1 2 8 11 12) :=
 (cWv r n kk5 (gC r n)).trans (bSf r n kk5)
theorem dEv (m : Nat) : aK (fun kk => D49 r n tE (xs x0 0 (K3 (gC r n) 0 1 8)) kk) m = (K6 (aDi r n m) 0 1 2 8 11 12) := by
 induction m with
 | zero => exact (by kernel_rfl : aK (fun kk => D49 r n tE (xs x0 0 (K3 (gC r n) 0 1 8)) kk) 0 = (K6 (aDi r n 0) 0 1 2 8 11 12))
 | succ m ih =>
  refine (by kernel_rfl : aK (fun kk => D49 r n tE (xs x0 0 (K3 (gC r n) 0 1 8)) kk) (m + 1) = D49 r n tE (xs x0 0 (K3 (gC r n) 0 1 8)) (aK (fun kk => D49 r n tE (xs x0 0 (K3 (gC r n) 0 1 8)) kk) m)).trans ?_
  rw [ih]
  exact (dAq r n (aDi r n m)).trans (by kernel_rfl)
theorem dHc : D49 r n aZl (xs x0 0 (K3 (gC r n) 0 1 8)) (K3 (gC r n) 0 1 8) = (K6 (dGg r n) 0 1 2 8 11 12) :=
 (by kernel_rfl : D49 r n aZl (xs x0 0 (K3 (gC r n) 0 1 8)) (K3 (gC r n) 0 1 8) = aK (fun kk => D49 r n tE (xs x0 0 (K3 (gC r n) 0 1 8)) kk) n).trans ((dEv r n n).trans (by kernel_rfl))
theorem dMw : D49 r n bUj x0 (K3 (gC r n) 0 1 8) = (K6 (bUv r n) 0 1 2 8 11 12) :=
 (by kernel_rfl : D49 r n bUj x0 (K3 (gC r n) 0 1 8) = D49 r n aZl (xs x0 0 (K3 (gC r n) 0 1 8)) (K3 (gC r n) 0 1 8)).trans
 ((dHc r n).trans (by kernel_rfl))
theorem cSs : D49 r n bIk x0 r49 = D49 r n aNt x0 (K3 (gC r n) 0 1 8) :=
 congrArg (fun k => D49 r n aNt x0 k) (dMb r n)
theorem cVz : D49 r n aNt x0 (K3 (gC r n) 0 1 8) = D49 r n dFv x0 (K6 (bUv r n) 0 1 2 8 11 12) :=
 congrArg (fun k => D49 r n dFv x0 k) (dMw r n)
theorem dPy : D49 r n bIk x0 r49 = (K4 (cLr r n) 0 1 2 8) :=
 (cSs r n).trans
 ((cVz r n).trans
 ((by kernel_rfl)))
theorem cSp : D49 r n bIb x0 r49 = D49 r n dGj x0 (K4 (cLr r n) 0 1 2 8) :=
 congrArg (fun k => D49 r n dGj x0 k) (dPy r n)
theorem dQc : D49 r n bIb x0 r49 = (K3 (cNm r n) 0 1 2) :=
 (cSp r n).trans
 ((by kernel_rfl))
theorem eAq : D49 r n c49 x0 r49 = D49 r n bZu x0 (K3 (cNm r n) 0 1 2) :=
 congrArg (fun k => D49 r n bZu x0 k) (dQc r n)
theorem eIk : D49 r n c49 x0 r49 = (K3 (s49 r n) 0 1 2) :=
 (eAq r n).trans
 ((by kernel_rfl))
theorem eEy : aG CF r n 49 args h = s49 r n (aR args 0) (aR args 1) (aR args 2) h :=
 (by kernel_rfl : aG CF r n 49 args h = D49 r n c49 x0 r49 (aI args) h).trans ((congrFun (congrFun (eIk r n) (aI args)) h).trans (by kernel_rfl))
noncomputable def s53 (r : RT) (n : Nat) (x0 x1 x2 : DV) (h0 : Hp) : aH :=
 bnd (aX x0 h0) fun v1 h1 =>
 bnd (aB 0 v1 h1) fun v2 h2 =>
 bnd (aA v2 h2) fun v3 h3 =>
 bnd (cGn [v3, x1, x2] h3) fun v4 h4 =>
 bnd (aE 0 v4 h4) fun v5 h5 =>
 bnd (aE 1 v4 h5) fun v6 h6 =>
 some (v5, h6)
noncomputable abbrev c53 : Code := cf Tryz.f53
noncomputable abbrev r53 : K := aQ CF Tryz.f53
noncomputable def D53 (r : RT) (n : Nat) (c : Code) (X : Nat → K) (k : K) : K := aP CF r 20 n c X r53 k
theorem eJg : D53 r n c53 x0 r53 = (K3 (s53 r n) 0 1 2) :=
 (by kernel_rfl)
theorem dWc : aG CF r n 53 args h = s53 r n (aR args 0) (aR args 1) (aR args 2) h :=
 (by kernel_rfl : aG CF r n 53 args h = D53 r n c53 x0 r53 (aI args) h).trans ((congrFun (congrFun (eJg r n) (aI args)) h).trans (by kernel_rfl))
noncomputable def cA (r : RT) (n : Nat) (x5 : DV) (h0 : Hp) : aH :=
 some (x5, h0)
noncomputable def cZ (r : RT) (n : Nat) (kk5 : bT) (x0 x1 x5 x6 : DV) (h0 : Hp) : aH :=
 bnd (aD .sub x6 (aF 1) h0) fun v1 h1 =>
  kk5 x0 x1 x5 v1 h1
noncomputable def eA (r : RT) (n : Nat) (kk5 : bT) (x0 x1 x5 x6 x7 : DV) (h0 : Hp) : aH :=
 bnd (aW 1 16 x7 x5 h0) fun v1 h1 =>
 bnd (r 93 [x0, x1] h1) fun v2 h2 =>
  cZ r n kk5 x0 v2 v1 x6 h2
noncomputable def aLb (r : RT) (n : Nat) (kk5 : bT) (kk12 : TT8) (x0 x1 x5 x6 x7 x8 x34 x35 : DV) (h0 : Hp) : aH :=
 bnd (aD .lss x35 x34 h0) fun v1 h1 =>
 aU v1 (
 bnd (r 53 [x0, x8, x35] h1) fun v2 h2 =>
 bnd (r 13 [x0, v2] h2) fun v3 h3 =>
 bnd (aE 0 v3 h3) fun v4 h4 =>
 bnd (aE 1 v3 h4) fun v5 h5 =>
 bnd (aO [(.s [])] 1 [(0, 1, v4)] h5) fun v6 h6 =>
 bnd (aW 1 16 x7 v6 h6) fun v7 h7 =>
 bnd (aD .add x35 (aF 1) h7) fun v8 h8 =>
      kk12 x0 x1 x5 x6 v7 x8 x34 v8 h8) (
      eA r n kk5 x0 x1 x5 x6 x7 h1)
noncomputable def uD (r : RT) (n : Nat) (kk5 : bT) (m : Nat) : TT8 :=
 Nat.rec (motive := fun _ => TT8) (fun _ _ _ _ _ _ _ _ _ => none) (fun _ ih => aLb r n kk5 ih) m
noncomputable def cNx (r : RT) (n : Nat) (kk5 : bT) : TT8 := uD r n kk5 n
noncomputable def aXw (r : RT) (n : Nat) (kk5 : bT) (x0 x1 x5 x6 x7 x8 x34 x35 : DV) (h0 : Hp) : aH :=
 cNx r n kk5 x0 x1 x5 x6 x7 x8 x34 x35 h0
noncomputable def bYi (r : RT) (n : Nat) (kk5 : bT) (x0 x1 x5 x6 x7 x8 : DV) (h0 : Hp) : aH :=
 bnd (aX x0 h0) fun v1 h1 =>
 bnd (aB 0 v1 h1) fun v2 h2 =>
 bnd (aA v2 h2) fun v3 h3 =>
 bnd (lY [v3, x8] h3) fun v4 h4 =>
  aXw r n kk5 x0 x1 x5 x6 x7 x8 v4 (aF 0) h4
noncomputable def bWu (r : RT) (n : Nat) (kk5 : bT) (x0 x1 x5 x6 x7 : DV) (h0 : Hp) : aH :=
 bnd (r 53 [x0, x1, (aF 3)] h0) fun v1 h1 =>
  bYi r n kk5 x0 x1 x5 x6 x7 v1 h1
noncomputable def bOp (r : RT) (n : Nat) (kk5 : bT) (x0 x1 x5 x6 : DV) (h0 : Hp) : aH :=
 bWu r n kk5 x0 x1 x5 x6 .l0 h0
noncomputable def bXy (r : RT) (n : Nat) (kk5 : bT) (x0 x1 x5 x6 : DV) (h0 : Hp) : aH :=
 bnd (aD .gtr x6 (aF 0) h0) fun v1 h1 =>
 bnd (gD v1 true (some (x0, h1)) h1) fun v2 h2 =>
 bnd (gD v1 true (some (x1, h2)) h2) fun v3 h3 =>
 bnd (gD v1 true (r 109 [v2, v3] h3) h3) fun v4 h4 =>
 bnd (aN v1 v4 (.b false) h4) fun v5 h5 =>
 aU v5 (
   bOp r n kk5 x0 x1 x5 x6 h5) (
   cA r n x5 h5)
noncomputable def aFb (r : RT) (n : Nat) (m : Nat) : bT :=
 Nat.rec (motive := fun _ => bT) (fun _ _ _ _ _ => none) (fun _ ih => bXy r n ih) m
noncomputable def dGf (r : RT) (n : Nat) : bT := aFb r n n
noncomputable def bSq (r : RT) (n : Nat) (x0 x1 x5 x6 : DV) (h0 : Hp) : aH :=
 dGf r n x0 x1 x5 x6 h0
noncomputable def cBo (r : RT) (n : Nat) (x0 x1 x5 : DV) (h0 : Hp) : aH :=
 bnd (aX x0 h0) fun v1 h1 =>
 bnd (aB 0 v1 h1) fun v2 h2 =>
 bnd (aA v2 h2) fun v3 h3 =>
 bnd (aCa [v3] h3) fun v4 h4 =>
  bSq r n x0 x1 x5 v4 h4
noncomputable def cDy (r : RT) (n : Nat) (x0 x1 : DV) (h0 : Hp) : aH :=
 cBo r n x0 x1 .l0 h0
noncomputable def s55 (r : RT) (n : Nat) (x0 x1 : DV) (h0 : Hp) : aH :=
 cDy r n x0 x1 h0
noncomputable abbrev c55 : Code := cf Tryz.f55
noncomputable abbrev bIp : Code := cR c55
noncomputable abbrev bCk : Code := cR bIp
noncomputable abbrev dWr : Code := cR bCk
noncomputable abbrev aOm : Code := cL bCk
noncomputable abbrev cNh : Code := cR aOm
noncomputable abbrev bDf : Code := cL cNh
noncomputable abbrev oF : Code := cL bDf
noncomputable abbrev bEb : Code := cR oF
noncomputable abbrev eCf : Code := cR bEb
noncomputable abbrev aIa : Code := cL bEb
noncomputable abbrev aIf : Code := cL aIa
noncomputable abbrev aFd : Code := cR aIf
noncomputable abbrev aEb : Code := cR aFd
noncomputable abbrev dLo : Code := cR aEb
noncomputable abbrev xU : Code := cL aEb
noncomputable abbrev aYq : Code := cR xU
noncomputable abbrev aMd : Code := cL aYq
noncomputable abbrev nA : Code := cL aMd
noncomputable abbrev bRw : Code := cL xU
noncomputable abbrev cBd : Code := cL aFd
noncomputable abbrev bRu : Code := cL aIf
noncomputable abbrev bTi : Code := cL oF
noncomputable abbrev cMu : Code := cL aOm
noncomputable abbrev cJm : Code := cL bIp
noncomputable abbrev cAq : Code := cL c55
noncomputable abbrev r55 : K := aQ CF Tryz.f55
noncomputable def D55 (r : RT) (n : Nat) (c : Code) (X : Nat → K) (k : K) : K := aP CF r 59 n c X r55 k
theorem dKq : D55 r n dWr x0 r55 = (K1 (cA r n) 5) :=
 (by kernel_rfl)
theorem dHw (kk5 : bT) : D55 r n eCf (xs x0 0 (K1 (cA r n) 5)) (K4 kk5 0 1 5 6) = (K4 (cZ r n kk5) 0 1 5 6) :=
 (by kernel_rfl)
theorem cVi (kk5 : bT) : D55 r n dLo (xs (xs x0 0 (K1 (cA r n) 5)) 1 (K4 (cZ r n kk5) 0 1 5 6)) (K4 (cZ r n kk5) 0 1 5 6) = (K5 (eA r n kk5) 0 1 5 6 7) :=
 (by kernel_rfl)
theorem bOi (kk5 : bT) (kk12 : TT8) (q0 : TT1) (q1 : bT) (q2 : bK) : D55 r n nA (xs (xs (xs x0 0 (K1 q0 5)) 1 (K4 q1 0 1 5 6)) 2 (K5 q2 0 1 5 6 7)) (K8 kk12 0 1 5 6 7 8 34 35) = fun (env : aZ) (h : Hp) =>
 bnd (aD .lss (env 35) (env 34) h) fun v1 h1 =>
 aU v1 (
 bnd (r 53 [(env 0), (env 8), (env 35)] h1) fun v2 h2 =>
 bnd (r 13 [(env 0), v2] h2) fun v3 h3 =>
 bnd (aE 0 v3 h3) fun v4 h4 =>
 bnd (aE 1 v3 h4) fun v5 h5 =>
 bnd (aO [(.s [])] 1 [(0, 1, v4)] h5) fun v6 h6 =>
 bnd (aW 1 16 (env 7) v6 h6) fun v7 h7 =>
 bnd (aD .add (env 35) (aF 1) h7) fun v8 h8 =>
      kk12 (env 0) (env 1) (env 5) (env 6) v7 (env 8) (env 34) v8 h8) (
      q2 (env 0) (env 1) (env 5) (env 6) (env 7) h1) := by kernel_rfl
theorem bJr (kk5 : bT) (kk12 : TT8) : (fun (env : aZ) (h : Hp) =>
 bnd (aD .lss (env 35) (env 34) h) fun v1 h1 =>
 aU v1 (
 bnd (r 53 [(env 0), (env 8), (env 35)] h1) fun v2 h2 =>
 bnd (r 13 [(env 0), v2] h2) fun v3 h3 =>
 bnd (aE 0 v3 h3) fun v4 h4 =>
 bnd (aE 1 v3 h4) fun v5 h5 =>
 bnd (aO [(.s [])] 1 [(0, 1, v4)] h5) fun v6 h6 =>
 bnd (aW 1 16 (env 7) v6 h6) fun v7 h7 =>
 bnd (aD .add (env 35) (aF 1) h7) fun v8 h8 =>
      kk12 (env 0) (env 1) (env 5) (env 6) v7 (env 8) (env 34) v8 h8) (
      eA r n kk5 (env 0) (env 1) (env 5) (env 6) (env 7) h1)) = (K8 (aLb r n kk5 kk12) 0 1 5 6 7 8 34 35) := by kernel_rfl
theorem cDd (kk5 : bT) (kk12 : TT8) : D55 r n nA (xs (xs (xs x0 0 (K1 (cA r n) 5)) 1 (K4 (cZ r n kk5) 0 1 5 6)) 2 (K5 (eA r n kk5) 0 1 5 6 7)) (K8 kk12 0 1 5 6 7 8 34 35) = (K8 (aLb r n kk5 kk12) 0 1 5 6 7 8 34 35) :=
 (bOi r n kk5 kk12 (cA r n) (cZ r n kk5) (eA r n kk5)).trans (bJr r n kk5 kk12)
theorem bZf (kk5 : bT) (m : Nat) : aK (fun kk => D55 r n nA (xs (xs (xs x0 0 (K1 (cA r n) 5)) 1 (K4 (cZ r n kk5) 0 1 5 6)) 2 (K5 (eA r n kk5) 0 1 5 6 7)) kk) m = (K8 (uD r n kk5 m) 0 1 5 6 7 8 34 35) := by
 induction m with
 | zero => exact (by kernel_rfl : aK (fun kk => D55 r n nA (xs (xs (xs x0 0 (K1 (cA r n) 5)) 1 (K4 (cZ r n kk5) 0 1 5 6)) 2 (K5 (eA r n kk5) 0 1 5 6 7)) kk) 0 = (K8 (uD r n kk5 0) 0 1 5 6 7 8 34 35))
 | succ m ih =>
  refine (by kernel_rfl : aK (fun kk => D55 r n nA (xs (xs (xs x0 0 (K1 (cA r n) 5)) 1 (K4 (cZ r n kk5) 0 1 5 6)) 2 (K5 (eA r n kk5) 0 1 5 6 7)) kk) (m + 1) = D55 r n nA (xs (xs (xs x0 0 (K1 (cA r n) 5)) 1 (K4 (cZ r n kk5) 0 1 5 6)) 2 (K5 (eA r n kk5) 0 1 5 6 7)) (aK (fun kk => D55 r n nA (xs (xs (xs x0 0 (K1 (cA r n) 5)) 1 (K4 (cZ r n kk5) 0 1 5 6)) 2 (K5 (eA r n kk5) 0 1 5 6 7)) kk) m)).trans ?_
  rw [ih]
  exact (cDd r n kk5 (uD r n kk5 m)).trans (by kernel_rfl)
theorem cYg (kk5 : bT) : D55 r n aMd (xs (xs (xs x0 0 (K1 (cA r n) 5)) 1 (K4 (cZ r n kk5) 0 1 5 6)) 2 (K5 (eA r n kk5) 0 1 5 6 7)) (K5 (eA r n kk5) 0 1 5 6 7) = (K8 (cNx r n kk5) 0 1 5 6 7 8 34 35) :=
 (by kernel_rfl : D55 r n aMd (xs (xs (xs x0 0 (K1 (cA r n) 5)) 1 (K4 (cZ r n kk5) 0 1 5 6)) 2 (K5 (eA r n kk5) 0 1 5 6 7)) (K5 (eA r n kk5) 0 1 5 6 7) = aK (fun kk => D55 r n nA (xs (xs (xs x0 0 (K1 (cA r n) 5)) 1 (K4 (cZ r n kk5) 0 1 5 6)) 2 (K5 (eA r n kk5) 0 1 5 6 7)) kk) n).trans ((bZf r n kk5 n).trans (by kernel_rfl))
theorem cYf (kk5 : bT) : D55 r n aYq (xs (xs x0 0 (K1 (cA r n) 5)) 1 (K4 (cZ r n kk5) 0 1 5 6)) (K5 (eA r n kk5) 0 1 5 6 7) = (K8 (aXw r n kk5) 0 1 5 6 7 8 34 35) :=
 (by kernel_rfl : D55 r n aYq (xs (xs x0 0 (K1 (cA r n) 5)) 1 (K4 (cZ r n kk5) 0 1 5 6)) (K5 (eA r n kk5) 0 1 5 6 7) = D55 r n aMd (xs (xs (xs x0 0 (K1 (cA r n) 5)) 1 (K4 (cZ r n kk5) 0 1 5 6)) 2 (K5 (eA r n kk5) 0 1 5 6 7)) (K5 (eA r n kk5) 0 1 5 6 7)).trans
 ((cYg r n kk5).trans (by kernel_rfl))
theorem cPz (kk5 : bT) : D55 r n aEb (xs (xs x0 0 (K1 (cA r n) 5)) 1 (K4 (cZ r n kk5) 0 1 5 6)) (K4 (cZ r n kk5) 0 1 5 6) = D55 r n xU (xs (xs x0 0 (K1 (cA r n) 5)) 1 (K4 (cZ r n kk5) 0 1 5 6)) (K5 (eA r n kk5) 0 1 5 6 7) :=
 congrArg (fun k => D55 r n xU (xs (xs x0 0 (K1 (cA r n) 5)) 1 (K4 (cZ r n kk5) 0 1 5 6)) k) (cVi r n kk5)
theorem cYv (kk5 : bT) : D55 r n xU (xs (xs x0 0 (K1 (cA r n) 5)) 1 (K4 (cZ r n kk5) 0 1 5 6)) (K5 (eA r n kk5) 0 1 5 6 7) = D55 r n bRw (xs (xs x0 0 (K1 (cA r n) 5)) 1 (K4 (cZ r n kk5) 0 1 5 6)) (K8 (aXw r n kk5) 0 1 5 6 7 8 34 35) :=
 congrArg (fun k => D55 r n bRw (xs (xs x0 0 (K1 (cA r n) 5)) 1 (K4 (cZ r n kk5) 0 1 5 6)) k) (cYf r n kk5)
theorem dRn (kk5 : bT) : D55 r n aEb (xs (xs x0 0 (K1 (cA r n) 5)) 1 (K4 (cZ r n kk5) 0 1 5 6)) (K4 (cZ r n kk5) 0 1 5 6) = (K6 (bYi r n kk5) 0 1 5 6 7 8) :=
 (cPz r n kk5).trans
 ((cYv r n kk5).trans
 ((by kernel_rfl)))
theorem cPm (kk5 : bT) : D55 r n aFd (xs (xs x0 0 (K1 (cA r n) 5)) 1 (K4 (cZ r n kk5) 0 1 5 6)) (K4 (cZ r n kk5) 0 1 5 6) = D55 r n cBd (xs (xs x0 0 (K1 (cA r n) 5)) 1 (K4 (cZ r n kk5) 0 1 5 6)) (K6 (bYi r n kk5) 0 1 5 6 7 8) :=
 congrArg (fun k => D55 r n cBd (xs (xs x0 0 (K1 (cA r n) 5)) 1 (K4 (cZ r n kk5) 0 1 5 6)) k) (dRn r n kk5)
theorem dJe (kk5 : bT) : D55 r n aFd (xs (xs x0 0 (K1 (cA r n) 5)) 1 (K4 (cZ r n kk5) 0 1 5 6)) (K4 (cZ r n kk5) 0 1 5 6) = (K5 (bWu r n kk5) 0 1 5 6 7) :=
 (cPm r n kk5).trans
 ((by kernel_rfl))
theorem cPp (kk5 : bT) : D55 r n bEb (xs x0 0 (K1 (cA r n) 5)) (K4 kk5 0 1 5 6) = D55 r n aIa (xs x0 0 (K1 (cA r n) 5)) (K4 (cZ r n kk5) 0 1 5 6) :=
 congrArg (fun k => D55 r n aIa (xs x0 0 (K1 (cA r n) 5)) k) (dHw r n kk5)
theorem cZd (kk5 : bT) : D55 r n aIf (xs (xs x0 0 (K1 (cA r n) 5)) 1 (K4 (cZ r n kk5) 0 1 5 6)) (K4 (cZ r n kk5) 0 1 5 6) = D55 r n bRu (xs (xs x0 0 (K1 (cA r n) 5)) 1 (K4 (cZ r n kk5) 0 1 5 6)) (K5 (bWu r n kk5) 0 1 5 6 7) :=
 congrArg (fun k => D55 r n bRu (xs (xs x0 0 (K1 (cA r n) 5)) 1 (K4 (cZ r n kk5) 0 1 5 6)) k) (dJe r n kk5)
theorem dGy (kk5 : bT) : D55 r n bEb (xs x0 0 (K1 (cA r n) 5)) (K4 kk5 0 1 5 6) = (K4 (bOp r n kk5) 0 1 5 6) :=
 (cPp r n kk5).trans
 ((by kernel_rfl : D55 r n aIa (xs x0 0 (K1 (cA r n) 5)) (K4 (cZ r n kk5) 0 1 5 6) = D55 r n aIf (xs (xs x0 0 (K1 (cA r n) 5)) 1 (K4 (cZ r n kk5) 0 1 5 6)) (K4 (cZ r n kk5) 0 1 5 6)).trans
 ((cZd r n kk5).trans
 ((by kernel_rfl))))
theorem cRs (kk5 : bT) : D55 r n oF (xs x0 0 (K1 (cA r n) 5)) (K4 kk5 0 1 5 6) = D55 r n bTi (xs x0 0 (K1 (cA r n) 5)) (K4 (bOp r n kk5) 0 1 5 6) :=
 congrArg (fun k => D55 r n bTi (xs x0 0 (K1 (cA r n) 5)) k) (dGy r n kk5)
theorem cXs (kk5 : bT) : D55 r n oF (xs x0 0 (K1 (cA r n) 5)) (K4 kk5 0 1 5 6) = (K4 (bXy r n kk5) 0 1 5 6) :=
 (cRs r n kk5).trans
 ((by kernel_rfl))
theorem cYs (m : Nat) : aK (fun kk => D55 r n oF (xs x0 0 (K1 (cA r n) 5)) kk) m = (K4 (aFb r n m) 0 1 5 6) := by
 induction m with
 | zero => exact (by kernel_rfl : aK (fun kk => D55 r n oF (xs x0 0 (K1 (cA r n) 5)) kk) 0 = (K4 (aFb r n 0) 0 1 5 6))
 | succ m ih =>
  refine (by kernel_rfl : aK (fun kk => D55 r n oF (xs x0 0 (K1 (cA r n) 5)) kk) (m + 1) = D55 r n oF (xs x0 0 (K1 (cA r n) 5)) (aK (fun kk => D55 r n oF (xs x0 0 (K1 (cA r n) 5)) kk) m)).trans ?_
  rw [ih]
  exact (cXs r n (aFb r n m)).trans (by kernel_rfl)
theorem dJc : D55 r n bDf (xs x0 0 (K1 (cA r n) 5)) (K1 (cA r n) 5) = (K4 (dGf r n) 0 1 5 6) :=
 (by kernel_rfl : D55 r n bDf (xs x0 0 (K1 (cA r n) 5)) (K1 (cA r n) 5) = aK (fun kk => D55 r n oF (xs x0 0 (K1 (cA r n) 5)) kk) n).trans ((cYs r n n).trans (by kernel_rfl))
theorem dIg : D55 r n cNh x0 (K1 (cA r n) 5) = (K4 (bSq r n) 0 1 5 6) :=
 (by kernel_rfl : D55 r n cNh x0 (K1 (cA r n) 5) = D55 r n bDf (xs x0 0 (K1 (cA r n) 5)) (K1 (cA r n) 5)).trans
 ((dJc r n).trans (by kernel_rfl))
theorem cVg : D55 r n bCk x0 r55 = D55 r n aOm x0 (K1 (cA r n) 5) :=
 congrArg (fun k => D55 r n aOm x0 k) (dKq r n)
theorem cTx : D55 r n aOm x0 (K1 (cA r n) 5) = D55 r n cMu x0 (K4 (bSq r n) 0 1 5 6) :=
 congrArg (fun k => D55 r n cMu x0 k) (dIg r n)
theorem dTq : D55 r n bCk x0 r55 = (K3 (cBo r n) 0 1 5) :=
 (cVg r n).trans
 ((cTx r n).trans
 ((by kernel_rfl)))
theorem bSg : D55 r n bIp x0 r55 = D55 r n cJm x0 (K3 (cBo r n) 0 1 5) :=
 congrArg (fun k => D55 r n cJm x0 k) (dTq r n)
theorem dMj : D55 r n bIp x0 r55 = (K2 (cDy r n) 0 1) :=
 (bSg r n).trans
 ((by kernel_rfl))
theorem dIo : D55 r n c55 x0 r55 = D55 r n cAq x0 (K2 (cDy r n) 0 1) :=
 congrArg (fun k => D55 r n cAq x0 k) (dMj r n)
theorem eMm : D55 r n c55 x0 r55 = (K2 (s55 r n) 0 1) :=
 (dIo r n).trans
 ((by kernel_rfl))
theorem dWz : aG CF r n 55 args h = s55 r n (aR args 0) (aR args 1) h :=
 (by kernel_rfl : aG CF r n 55 args h = D55 r n c55 x0 r55 (aI args) h).trans ((congrFun (congrFun (eMm r n) (aI args)) h).trans (by kernel_rfl))
noncomputable def s56 (r : RT) (n : Nat) (x0 x1 : DV) (h0 : Hp) : aH :=
 bnd (bS [(.s []), (aF 0), (aF 0), (aF 0), .l0, .l0] h0) fun v1 h1 =>
 bnd (r 110 [x0, x1, (.f 111 [x0] [])] h1) fun v2 h2 =>
 bnd (aE 0 v2 h2) fun v3 h3 =>
 bnd (aE 1 v2 h3) fun v4 h4 =>
 bnd (aJ 6 v1 v3 h4) fun _ h5 =>
 bnd (aL 6 v1 h5) fun v6 _ =>
 some (.t [v6, v4], h5)
noncomputable abbrev c56 : Code := cf Tryz.f56
noncomputable abbrev r56 : K := aQ CF Tryz.f56
noncomputable def D56 (r : RT) (n : Nat) (c : Code) (X : Nat → K) (k : K) : K := aP CF r 13 n c X r56 k
theorem eJv : D56 r n c56 x0 r56 = (K2 (s56 r n) 0 1) :=
 (by kernel_rfl)
theorem eCt : aG CF r n 56 args h = s56 r n (aR args 0) (aR args 1) h :=
 (by kernel_rfl : aG CF r n 56 args h = D56 r n c56 x0 r56 (aI args) h).trans ((congrFun (congrFun (eJv r n) (aI args)) h).trans (by kernel_rfl))
noncomputable def s58 (r : RT) (n : Nat) (x0 x1 : DV) (h0 : Hp) : aH :=
 bnd (aX x0 h0) fun v1 h1 =>
 bnd (aB 3 v1 h1) fun v2 h2 =>
 bnd (aA v2 h2) fun v3 h3 =>
 bnd (gG .string (aF 0) false v3 x1 h3) fun v4 h4 =>
 some (v4, h4)
noncomputable abbrev c58 : Code := cf Tryz.f58
noncomputable abbrev r58 : K := aQ CF Tryz.f58
noncomputable def D58 (r : RT) (n : Nat) (c : Code) (X : Nat → K) (k : K) : K := aP CF r 11 n c X r58 k
theorem eMc : D58 r n c58 x0 r58 = (K2 (s58 r n) 0 1) :=
 (by kernel_rfl)
theorem eCh : aG CF r n 58 args h = s58 r n (aR args 0) (aR args 1) h :=
 (by kernel_rfl : aG CF r n 58 args h = D58 r n c58 x0 r58 (aI args) h).trans ((congrFun (congrFun (eMc r n) (aI args)) h).trans (by kernel_rfl))
noncomputable def iB (r : RT) (n : Nat) (x10 : DV) (h0 : Hp) : aH :=
 some (.t [x10, (aF 0)], h0)
noncomputable def bVt (r : RT) (n : Nat) (kk6 : bK) (x0 x10 x29 x30 x31 : DV) (h0 : Hp) : aH :=
 bnd (aD .lss x31 x30 h0) fun v1 h1 =>
 aU v1 (
 bnd (aC 1 x29 x31 h1) fun v2 h2 =>
 bnd (aA v2 h2) fun v3 h3 =>
 bnd (aX x0 h3) fun v4 h4 =>
 bnd (aB 0 v4 h4) fun v5 h5 =>
 bnd (aA v5 h5) fun v6 h6 =>
 bnd (aQd [v6, x10, x31, v3] h6) fun v7 h7 =>
 bnd (aD .add x31 (aF 1) h7) fun v8 h8 =>
      kk6 x0 x10 x29 x30 v8 h8) (
      iB r n x10 h1)
noncomputable def aMm (r : RT) (n : Nat) (m : Nat) : bK :=
 Nat.rec (motive := fun _ => bK) (fun _ _ _ _ _ _ => none) (fun _ ih => bVt r n ih) m
noncomputable def dFw (r : RT) (n : Nat) : bK := aMm r n n
noncomputable def bWn (r : RT) (n : Nat) (x0 x10 x29 x30 x31 : DV) (h0 : Hp) : aH :=
 dFw r n x0 x10 x29 x30 x31 h0
noncomputable def cIh (r : RT) (n : Nat) (x0 x3 x10 : DV) (h0 : Hp) : aH :=
 bnd (bJ x3 h0) fun v1 h1 =>
  bWn r n x0 x10 x3 v1 (aF 0) h1
noncomputable def bQs (r : RT) (n : Nat) (x0 x3 x10 x11 : DV) (h0 : Hp) : aH :=
 bnd (aD .neq x11 (aF 0) h0) fun v1 h1 =>
 aU v1 (
 some (.t [(aF 0), x11], h1)) (
  cIh r n x0 x3 x10 h1)
noncomputable def cCa (r : RT) (n : Nat) (x0 x1 x2 x3 : DV) (h0 : Hp) : aH :=
 bnd (aX x0 h0) fun v1 h1 =>
 bnd (aB 0 v1 h1) fun v2 h2 =>
 bnd (aA v2 h2) fun v3 h3 =>
 bnd (bJ x3 h3) fun v4 h4 =>
 bnd (tB [v3, x1, x2, v4] h4) fun v5 h5 =>
 bnd (aE 0 v5 h5) fun v6 h6 =>
 bnd (aE 1 v5 h6) fun v7 h7 =>
  bQs r n x0 x3 v6 v7 h7
noncomputable def s61 (r : RT) (n : Nat) (x0 x1 x2 x3 : DV) (h0 : Hp) : aH :=
 cCa r n x0 x1 x2 x3 h0
noncomputable abbrev c61 : Code := cf Tryz.f61
noncomputable abbrev bEh : Code := cR c61
noncomputable abbrev bDr : Code := cR bEh
noncomputable abbrev bAe : Code := cR bDr
noncomputable abbrev dYy : Code := cR bAe
noncomputable abbrev aPe : Code := cL bAe
noncomputable abbrev bRm : Code := cR aPe
noncomputable abbrev bCb : Code := cL bRm
noncomputable abbrev yH : Code := cL bCb
noncomputable abbrev dFf : Code := cL aPe
noncomputable abbrev cDg : Code := cL bDr
noncomputable abbrev cCn : Code := cL bEh
noncomputable abbrev bUz : Code := cL c61
noncomputable abbrev r61 : K := aQ CF Tryz.f61
noncomputable def D61 (r : RT) (n : Nat) (c : Code) (X : Nat → K) (k : K) : K := aP CF r 46 n c X r61 k
theorem dMp : D61 r n dYy x0 r61 = (K1 (iB r n) 10) :=
 (by kernel_rfl)
theorem cQs (kk6 : bK) : D61 r n yH (xs x0 0 (K1 (iB r n) 10)) (K5 kk6 0 10 29 30 31) = (K5 (bVt r n kk6) 0 10 29 30 31) :=
 (by kernel_rfl)
theorem cTy (m : Nat) : aK (fun kk => D61 r n yH (xs x0 0 (K1 (iB r n) 10)) kk) m = (K5 (aMm r n m) 0 10 29 30 31) := by
 induction m with
 | zero => exact (by kernel_rfl : aK (fun kk => D61 r n yH (xs x0 0 (K1 (iB r n) 10)) kk) 0 = (K5 (aMm r n 0) 0 10 29 30 31))
 | succ m ih =>
  refine (by kernel_rfl : aK (fun kk => D61 r n yH (xs x0 0 (K1 (iB r n) 10)) kk) (m + 1) = D61 r n yH (xs x0 0 (K1 (iB r n) 10)) (aK (fun kk => D61 r n yH (xs x0 0 (K1 (iB r n) 10)) kk) m)).trans ?_
  rw [ih]
  exact (cQs r n (aMm r n m)).trans (by kernel_rfl)
theorem dOe : D61 r n bCb (xs x0 0 (K1 (iB r n) 10)) (K1 (iB r n) 10) = (K5 (dFw r n) 0 10 29 30 31) :=
 (by kernel_rfl : D61 r n bCb (xs x0 0 (K1 (iB r n) 10)) (K1 (iB r n) 10) = aK (fun kk => D61 r n yH (xs x0 0 (K1 (iB r n) 10)) kk) n).trans ((cTy r n n).trans (by kernel_rfl))
theorem dKl : D61 r n bRm x0 (K1 (iB r n) 10) = (K5 (bWn r n) 0 10 29 30 31) :=
 (by kernel_rfl : D61 r n bRm x0 (K1 (iB r n) 10) = D61 r n bCb (xs x0 0 (K1 (iB r n) 10)) (K1 (iB r n) 10)).trans
 ((dOe r n).trans (by kernel_rfl))
theorem cZp : D61 r n bAe x0 r61 = D61 r n aPe x0 (K1 (iB r n) 10) :=
 congrArg (fun k => D61 r n aPe x0 k) (dMp r n)
theorem cOg : D61 r n aPe x0 (K1 (iB r n) 10) = D61 r n dFf x0 (K5 (bWn r n) 0 10 29 30 31) :=
 congrArg (fun k => D61 r n dFf x0 k) (dKl r n)
theorem dIk : D61 r n bAe x0 r61 = (K3 (cIh r n) 0 3 10) :=
 (cZp r n).trans
 ((cOg r n).trans
 ((by kernel_rfl)))
theorem dDi : D61 r n bDr x0 r61 = D61 r n cDg x0 (K3 (cIh r n) 0 3 10) :=
 congrArg (fun k => D61 r n cDg x0 k) (dIk r n)
theorem dIn : D61 r n bDr x0 r61 = (K4 (bQs r n) 0 3 10 11) :=
 (dDi r n).trans
 ((by kernel_rfl))
theorem cXy : D61 r n bEh x0 r61 = D61 r n cCn x0 (K4 (bQs r n) 0 3 10 11) :=
 congrArg (fun k => D61 r n cCn x0 k) (dIn r n)
theorem dNd : D61 r n bEh x0 r61 = (K4 (cCa r n) 0 1 2 3) :=
 (cXy r n).trans
 ((by kernel_rfl))
theorem eFt : D61 r n c61 x0 r61 = D61 r n bUz x0 (K4 (cCa r n) 0 1 2 3) :=
 congrArg (fun k => D61 r n bUz x0 k) (dNd r n)
theorem eMh : D61 r n c61 x0 r61 = (K4 (s61 r n) 0 1 2 3) :=
 (eFt r n).trans
 ((by kernel_rfl))
theorem eBr : aG CF r n 61 args h = s61 r n (aR args 0) (aR args 1) (aR args 2) (aR args 3) h :=
 (by kernel_rfl : aG CF r n 61 args h = D61 r n c61 x0 r61 (aI args) h).trans ((congrFun (congrFun (eMh r n) (aI args)) h).trans (by kernel_rfl))
noncomputable def s65 (r : RT) (n : Nat) (x0 x1 : DV) (h0 : Hp) : aH :=
 bnd (bQ x0 h0) fun v1 h1 =>
 bnd (aL 6 v1 h1) fun v2 h2 =>
 bnd (r 114 [v2, x1] h2) fun v3 h3 =>
 bnd (aE 0 v3 h3) fun v4 h4 =>
 bnd (aE 1 v3 h4) fun v5 h5 =>
 some (v5, h5)
noncomputable abbrev c65 : Code := cf Tryz.f65
noncomputable abbrev r65 : K := aQ CF Tryz.f65
noncomputable def D65 (r : RT) (n : Nat) (c : Code) (X : Nat → K) (k : K) : K := aP CF r 14 n c X r65 k
theorem eJw : D65 r n c65 x0 r65 = (K2 (s65 r n) 0 1) :=
 (by kernel_rfl)
theorem eCo : aG CF r n 65 args h = s65 r n (aR args 0) (aR args 1) h :=
 (by kernel_rfl : aG CF r n 65 args h = D65 r n c65 x0 r65 (aI args) h).trans ((congrFun (congrFun (eJw r n) (aI args)) h).trans (by kernel_rfl))
end Go.Dd

namespace Go.Dd
open Go.Proofs
variable (r : RT) (n : Nat) (args : List DV) (h : Hp)
noncomputable def gF (r : RT) (n : Nat) (x0 x6 : DV) (h0 : Hp) : aH :=
 bnd (r 45 [x0, x6] h0) fun v1 h1 =>
 bnd (aE 0 v1 h1) fun v2 h2 =>
 bnd (aE 1 v1 h2) fun v3 h3 =>
 some (.t [v2, v3], h3)
noncomputable def aWi (r : RT) (n : Nat) (kk6 : bK) (x0 x6 x38 x39 x40 : DV) (h0 : Hp) : aH :=
 bnd (aD .lss x40 x39 h0) fun v1 h1 =>
 aU v1 (
 bnd (aC 4 x38 x40 h1) fun v2 h2 =>
 bnd (aL 4 v2 h2) fun v3 h3 =>
 bnd (bS [(aF 0), (.s []), (aF 0), .l0] h3) fun v4 h4 =>
 bnd (aJ 4 v4 v3 h4) fun _ h5 =>
 bnd (aL 4 v4 h5) fun v6 h6 =>
 bnd (r 66 [x0, v6] h6) fun v7 h7 =>
 bnd (aE 0 v7 h7) fun v8 h8 =>
 bnd (aE 1 v7 h8) fun v9 h9 =>
 bnd (aD .neq v9 (aF 0) h9) fun v10 h10 =>
 aU v10 (
 some (.t [(aF 0), v9], h10)) (
 bnd (aO [(aF 0)] 1 [(0, 1, v8)] h10) fun v11 h11 =>
 bnd (aW 1 8 x6 v11 h11) fun v12 h12 =>
 bnd (aD .add x40 (aF 1) h12) fun v13 h13 =>
    kk6 x0 v12 x38 x39 v13 h13)) (
      gF r n x0 x6 h1)
noncomputable def aFu (r : RT) (n : Nat) (m : Nat) : bK :=
 Nat.rec (motive := fun _ => bK) (fun _ _ _ _ _ _ => none) (fun _ ih => aWi r n ih) m
noncomputable def dGm (r : RT) (n : Nat) : bK := aFu r n n
noncomputable def cCc (r : RT) (n : Nat) (x0 x6 x38 x39 x40 : DV) (h0 : Hp) : aH :=
 dGm r n x0 x6 x38 x39 x40 h0
noncomputable def cIj (r : RT) (n : Nat) (x0 x3 x6 : DV) (h0 : Hp) : aH :=
 bnd (aB 3 x3 h0) fun v1 h1 =>
 bnd (aA v1 h1) fun v2 h2 =>
 bnd (bJ v2 h2) fun v3 h3 =>
  cCc r n x0 x6 v2 v3 (aF 0) h3
noncomputable def cJn (r : RT) (n : Nat) (x0 x3 : DV) (h0 : Hp) : aH :=
 cIj r n x0 x3 .l0 h0
noncomputable def aPb (r : RT) (n : Nat) (x0 x3 : DV) (h0 : Hp) : aH :=
 bnd (aB 0 x3 h0) fun v1 h1 =>
 bnd (aA v1 h1) fun v2 h2 =>
 bnd (aD .eql v2 (aF 1) h2) fun v3 h3 =>
 aU v3 (
 bnd (aB 2 x3 h3) fun v4 h4 =>
 bnd (aA v4 h4) fun v5 h5 =>
 bnd (r 17 [x0, v5] h5) fun v6 h6 =>
 bnd (aE 0 v6 h6) fun v7 h7 =>
 bnd (aE 1 v6 h7) fun v8 h8 =>
 some (.t [v7, v8], h8)) (
 bnd (aD .eql v2 (aF 2) h3) fun v9 h9 =>
 aU v9 (
 bnd (aB 1 x3 h9) fun v10 h10 =>
 bnd (aA v10 h10) fun v11 h11 =>
 bnd (r 12 [x0, v11] h11) fun v12 h12 =>
 bnd (aE 0 v12 h12) fun v13 h13 =>
 bnd (aE 1 v12 h13) fun v14 h14 =>
 some (.t [v13, v14], h14)) (
 bnd (aD .eql v2 (aF 3) h9) fun v15 h15 =>
 aU v15 (
 bnd (aB 1 x3 h15) fun v16 h16 =>
 bnd (aA v16 h16) fun v17 h17 =>
 bnd (r 11 [x0, v17] h17) fun v18 h18 =>
 bnd (aE 0 v18 h18) fun v19 h19 =>
 bnd (aE 1 v18 h19) fun v20 h20 =>
 some (.t [v19, v20], h20)) (
    cJn r n x0 x3 h15)))
noncomputable def s66 (r : RT) (n : Nat) (x0 x1 : DV) (h0 : Hp) : aH :=
 bnd (bQ x1 h0) fun v1 h1 =>
  aPb r n x0 v1 h1
noncomputable abbrev c66 : Code := cf Tryz.f66
noncomputable abbrev bBf : Code := cR c66
noncomputable abbrev bCe : Code := cR bBf
noncomputable abbrev bIe : Code := cR bCe
noncomputable abbrev dYv : Code := cR bIe
noncomputable abbrev aNs : Code := cL bIe
noncomputable abbrev bTm : Code := cR aNs
noncomputable abbrev bBy : Code := cL bTm
noncomputable abbrev sS : Code := cL bBy
noncomputable abbrev dGq : Code := cL aNs
noncomputable abbrev bVi : Code := cL bCe
noncomputable abbrev cCe : Code := cL bBf
noncomputable abbrev aUr : Code := cL c66
noncomputable abbrev r66 : K := aQ CF Tryz.f66
noncomputable def D66 (r : RT) (n : Nat) (c : Code) (X : Nat → K) (k : K) : K := aP CF r 63 n c X r66 k
theorem dLn : D66 r n dYv x0 r66 = (K2 (gF r n) 0 6) :=
 (by kernel_rfl)
theorem cVs (kk6 : bK) (q0 : gV) : D66 r n sS (xs x0 1 (K2 q0 0 6)) (K5 kk6 0 6 38 39 40) = fun (env : aZ) (h : Hp) =>
 bnd (aD .lss (env 40) (env 39) h) fun v1 h1 =>
 aU v1 (
 bnd (aC 4 (env 38) (env 40) h1) fun v2 h2 =>
 bnd (aL 4 v2 h2) fun v3 h3 =>
 bnd (bS [(aF 0), (.s []), (aF 0), .l0] h3) fun v4 h4 =>
 bnd (aJ 4 v4 v3 h4) fun _ h5 =>
 bnd (aL 4 v4 h5) fun v6 h6 =>
 bnd (r 66 [(env 0), v6] h6) fun v7 h7 =>
 bnd (aE 0 v7 h7) fun v8 h8 =>
 bnd (aE 1 v7 h8) fun v9 h9 =>
 bnd (aD .neq v9 (aF 0) h9) fun v10 h10 =>
 aU v10 (
 some (.t [(aF 0), v9], h10)) (
 bnd (aO [(aF 0)] 1 [(0, 1, v8)] h10) fun v11 h11 =>
 bnd (aW 1 8 (env 6) v11 h11) fun v12 h12 =>
 bnd (aD .add (env 40) (aF 1) h12) fun v13 h13 =>
    kk6 (env 0) v12 (env 38) (env 39) v13 h13)) (
      q0 (env 0) (env 6) h1) := by kernel_rfl
theorem cEe (kk6 : bK) : (fun (env : aZ) (h : Hp) =>
 bnd (aD .lss (env 40) (env 39) h) fun v1 h1 =>
 aU v1 (
 bnd (aC 4 (env 38) (env 40) h1) fun v2 h2 =>
 bnd (aL 4 v2 h2) fun v3 h3 =>
 bnd (bS [(aF 0), (.s []), (aF 0), .l0] h3) fun v4 h4 =>
 bnd (aJ 4 v4 v3 h4) fun _ h5 =>
 bnd (aL 4 v4 h5) fun v6 h6 =>
 bnd (r 66 [(env 0), v6] h6) fun v7 h7 =>
 bnd (aE 0 v7 h7) fun v8 h8 =>
 bnd (aE 1 v7 h8) fun v9 h9 =>
 bnd (aD .neq v9 (aF 0) h9) fun v10 h10 =>
 aU v10 (
 some (.t [(aF 0), v9], h10)) (
 bnd (aO [(aF 0)] 1 [(0, 1, v8)] h10) fun v11 h11 =>
 bnd (aW 1 8 (env 6) v11 h11) fun v12 h12 =>
 bnd (aD .add (env 40) (aF 1) h12) fun v13 h13 =>
    kk6 (env 0) v12 (env 38) (env 39) v13 h13)) (
      gF r n (env 0) (env 6) h1)) = (K5 (aWi r n kk6) 0 6 38 39 40) := by kernel_rfl
theorem cVb (kk6 : bK) : D66 r n sS (xs x0 1 (K2 (gF r n) 0 6)) (K5 kk6 0 6 38 39 40) = (K5 (aWi r n kk6) 0 6 38 39 40) :=
 (cVs r n kk6 (gF r n)).trans (cEe r n kk6)
theorem dBx (m : Nat) : aK (fun kk => D66 r n sS (xs x0 1 (K2 (gF r n) 0 6)) kk) m = (K5 (aFu r n m) 0 6 38 39 40) := by
 induction m with
 | zero => exact (by kernel_rfl : aK (fun kk => D66 r n sS (xs x0 1 (K2 (gF r n) 0 6)) kk) 0 = (K5 (aFu r n 0) 0 6 38 39 40))
 | succ m ih =>
  refine (by kernel_rfl : aK (fun kk => D66 r n sS (xs x0 1 (K2 (gF r n) 0 6)) kk) (m + 1) = D66 r n sS (xs x0 1 (K2 (gF r n) 0 6)) (aK (fun kk => D66 r n sS (xs x0 1 (K2 (gF r n) 0 6)) kk) m)).trans ?_
  rw [ih]
  exact (cVb r n (aFu r n m)).trans (by kernel_rfl)
theorem dQn : D66 r n bBy (xs x0 1 (K2 (gF r n) 0 6)) (K2 (gF r n) 0 6) = (K5 (dGm r n) 0 6 38 39 40) :=
 (by kernel_rfl : D66 r n bBy (xs x0 1 (K2 (gF r n) 0 6)) (K2 (gF r n) 0 6) = aK (fun kk => D66 r n sS (xs x0 1 (K2 (gF r n) 0 6)) kk) n).trans ((dBx r n n).trans (by kernel_rfl))
theorem dNm : D66 r n bTm x0 (K2 (gF r n) 0 6) = (K5 (cCc r n) 0 6 38 39 40) :=
 (by kernel_rfl : D66 r n bTm x0 (K2 (gF r n) 0 6) = D66 r n bBy (xs x0 1 (K2 (gF r n) 0 6)) (K2 (gF r n) 0 6)).trans
 ((dQn r n).trans (by kernel_rfl))
theorem cPa : D66 r n bIe x0 r66 = D66 r n aNs x0 (K2 (gF r n) 0 6) :=
 congrArg (fun k => D66 r n aNs x0 k) (dLn r n)
theorem cTo : D66 r n aNs x0 (K2 (gF r n) 0 6) = D66 r n dGq x0 (K5 (cCc r n) 0 6 38 39 40) :=
 congrArg (fun k => D66 r n dGq x0 k) (dNm r n)
theorem dIp : D66 r n bIe x0 r66 = (K3 (cIj r n) 0 3 6) :=
 (cPa r n).trans
 ((cTo r n).trans
 ((by kernel_rfl)))
theorem dEg : D66 r n bCe x0 r66 = D66 r n bVi x0 (K3 (cIj r n) 0 3 6) :=
 congrArg (fun k => D66 r n bVi x0 k) (dIp r n)
theorem dSx : D66 r n bCe x0 r66 = (K2 (cJn r n) 0 3) :=
 (dEg r n).trans
 ((by kernel_rfl))
theorem cTz : D66 r n bBf x0 r66 = D66 r n cCe x0 (K2 (cJn r n) 0 3) :=
 congrArg (fun k => D66 r n cCe x0 k) (dSx r n)
theorem dOx : D66 r n bBf x0 r66 = (K2 (aPb r n) 0 3) :=
 (cTz r n).trans
 ((by kernel_rfl))
theorem eBq : D66 r n c66 x0 r66 = D66 r n aUr x0 (K2 (aPb r n) 0 3) :=
 congrArg (fun k => D66 r n aUr x0 k) (dOx r n)
theorem eBe (q0 : gV) : D66 r n aUr x0 (K2 q0 0 3) = fun (env : aZ) (h : Hp) =>
 bnd (bQ (env 1) h) fun v1 h1 =>
  q0 (env 0) v1 h1 := by kernel_rfl
theorem dRi : (fun (env : aZ) (h : Hp) =>
 bnd (bQ (env 1) h) fun v1 h1 =>
  aPb r n (env 0) v1 h1) = (K2 (s66 r n) 0 1) := by kernel_rfl
theorem eHc : D66 r n c66 x0 r66 = (K2 (s66 r n) 0 1) :=
 (eBq r n).trans
 ((eBe r n (aPb r n)).trans (dRi r n))
theorem dYi : aG CF r n 66 args h = s66 r n (aR args 0) (aR args 1) h :=
 (by kernel_rfl : aG CF r n 66 args h = D66 r n c66 x0 r66 (aI args) h).trans ((congrFun (congrFun (eHc r n) (aI args)) h).trans (by kernel_rfl))
noncomputable def hC (r : RT) (n : Nat) (h0 : Hp) : aH :=
 some ((.b true), h0)
noncomputable def bXn (r : RT) (n : Nat) (kk6 : bZ) (x1 x2 x7 : DV) (h0 : Hp) : aH :=
 bnd (aB 5 x2 h0) fun v1 h1 =>
 bnd (aA v1 h1) fun v2 h2 =>
 bnd (bJ v2 h2) fun v3 h3 =>
 bnd (aD .lss x7 v3 h3) fun v4 h4 =>
 aU v4 (
 bnd (aB 5 x2 h4) fun v5 h5 =>
 bnd (aA v5 h5) fun v6 h6 =>
 bnd (aC 3 v6 x7 h6) fun v7 h7 =>
 bnd (aL 3 v7 h7) fun v8 h8 =>
 bnd (r 116 [v8] h8) fun v9 h9 =>
 bnd (gP .not v9 h9) fun v10 h10 =>
 bnd (gD v10 false (aL 6 x2 h10) h10) fun v11 h11 =>
 bnd (gD v10 false (aB 5 x2 h11) h11) fun v12 h12 =>
 bnd (gD v10 false (aA v12 h12) h12) fun v13 h13 =>
 bnd (gD v10 false (some (x7, h13)) h13) fun v14 h14 =>
 bnd (gD v10 false (aC 3 v13 v14 h14) h14) fun v15 h15 =>
 bnd (gD v10 false (aL 3 v15 h15) h15) fun v16 h16 =>
 bnd (gD v10 false (some (x1, h16)) h16) fun v17 h17 =>
 bnd (gD v10 false (r 117 [v11, v16, v17] h17) h17) fun v18 h18 =>
 bnd (gD v10 false (gP .not v18 h18) h18) fun v19 h19 =>
 bnd (aN v10 (.b true) v19 h19) fun v20 h20 =>
 aU v20 (
 some ((.b false), h20)) (
 bnd (aD .add x7 (aF 1) h20) fun v21 h21 =>
    kk6 x1 x2 v21 h21)) (
      hC r n h4)
noncomputable def aDb (r : RT) (n : Nat) (m : Nat) : bZ :=
 Nat.rec (motive := fun _ => bZ) (fun _ _ _ _ => none) (fun _ ih => bXn r n ih) m
noncomputable def dFx (r : RT) (n : Nat) : bZ := aDb r n n
noncomputable def bWw (r : RT) (n : Nat) (x1 x2 x7 : DV) (h0 : Hp) : aH :=
 dFx r n x1 x2 x7 h0
noncomputable def hU (r : RT) (n : Nat) (x1 x2 : DV) (h0 : Hp) : aH :=
 bWw r n x1 x2 (aF 0) h0
noncomputable def bVr (r : RT) (n : Nat) (kk8 : bZ) (x1 x2 x5 : DV) (h0 : Hp) : aH :=
 bnd (aB 4 x2 h0) fun v1 h1 =>
 bnd (aA v1 h1) fun v2 h2 =>
 bnd (bJ v2 h2) fun v3 h3 =>
 bnd (aD .lss x5 v3 h3) fun v4 h4 =>
 aU v4 (
 bnd (aB 4 x2 h4) fun v5 h5 =>
 bnd (aA v5 h5) fun v6 h6 =>
 bnd (aC 4 v6 x5 h6) fun v7 h7 =>
 bnd (aL 4 v7 h7) fun v8 h8 =>
 bnd (r 115 [v8, (aF 20)] h8) fun v9 h9 =>
 bnd (gP .not v9 h9) fun v10 h10 =>
 aU v10 (
 some ((.b false), h10)) (
 bnd (aD .add x5 (aF 1) h10) fun v11 h11 =>
    kk8 x1 x2 v11 h11)) (
      hU r n x1 x2 h4)
noncomputable def aLi (r : RT) (n : Nat) (m : Nat) : bZ :=
 Nat.rec (motive := fun _ => bZ) (fun _ _ _ _ => none) (fun _ ih => bVr r n ih) m
noncomputable def dGb (r : RT) (n : Nat) : bZ := aLi r n n
noncomputable def cEn (r : RT) (n : Nat) (x1 x2 x5 : DV) (h0 : Hp) : aH :=
 dGb r n x1 x2 x5 h0
noncomputable def bPx (r : RT) (n : Nat) (x1 x2 : DV) (h0 : Hp) : aH :=
 cEn r n x1 x2 (aF 0) h0
noncomputable def aPk (r : RT) (n : Nat) (x1 x2 : DV) (h0 : Hp) : aH :=
 bnd (aD .lss x1 (aF 0) h0) fun v1 h1 =>
 bnd (gD v1 false (some (x1, h1)) h1) fun v2 h2 =>
 bnd (gD v1 false (aD .gtr v2 (aF 8) h2) h2) fun v3 h3 =>
 bnd (aN v1 (.b true) v3 h3) fun v4 h4 =>
 bnd (gD v4 false (aB 0 x2 h4) h4) fun v5 h5 =>
 bnd (gD v4 false (aA v5 h5) h5) fun v6 h6 =>
 bnd (gD v4 false (dI v6 h6) h6) fun v7 h7 =>
 bnd (gD v4 false (aD .lss v7 (aF 1) h7) h7) fun v8 h8 =>
 bnd (aN v4 (.b true) v8 h8) fun v9 h9 =>
 bnd (gD v9 false (aB 0 x2 h9) h9) fun v10 h10 =>
 bnd (gD v9 false (aA v10 h10) h10) fun v11 h11 =>
 bnd (gD v9 false (dI v11 h11) h11) fun v12 h12 =>
 bnd (gD v9 false (aD .gtr v12 (aF 60) h12) h12) fun v13 h13 =>
 bnd (aN v9 (.b true) v13 h13) fun v14 h14 =>
 bnd (gD v14 false (aB 1 x2 h14) h14) fun v15 h15 =>
 bnd (gD v14 false (aA v15 h15) h15) fun v16 h16 =>
 bnd (gD v14 false (aD .lss v16 (aF 0) h16) h16) fun v17 h17 =>
 bnd (aN v14 (.b true) v17 h17) fun v18 h18 =>
 bnd (gD v18 false (aB 1 x2 h18) h18) fun v19 h19 =>
 bnd (gD v18 false (aA v19 h19) h19) fun v20 h20 =>
 bnd (gD v18 false (aD .gtr v20 (aF 4) h20) h20) fun v21 h21 =>
 bnd (aN v18 (.b true) v21 h21) fun v22 h22 =>
 bnd (gD v22 false (aB 2 x2 h22) h22) fun v23 h23 =>
 bnd (gD v22 false (aA v23 h23) h23) fun v24 h24 =>
 bnd (gD v22 false (aB 1 x2 h24) h24) fun v25 h25 =>
 bnd (gD v22 false (aA v25 h25) h25) fun v26 h26 =>
 bnd (gD v22 false (aD .lss v24 v26 h26) h26) fun v27 h27 =>
 bnd (aN v22 (.b true) v27 h27) fun v28 h28 =>
 bnd (gD v28 false (aB 2 x2 h28) h28) fun v29 h29 =>
 bnd (gD v28 false (aA v29 h29) h29) fun v30 h30 =>
 bnd (gD v28 false (aD .gtr v30 (aF 24) h30) h30) fun v31 h31 =>
 bnd (aN v28 (.b true) v31 h31) fun v32 h32 =>
 bnd (gD v32 false (aB 3 x2 h32) h32) fun v33 h33 =>
 bnd (gD v32 false (aA v33 h33) h33) fun v34 h34 =>
 bnd (gD v32 false (aD .lss v34 (aF 0) h34) h34) fun v35 h35 =>
 bnd (aN v32 (.b true) v35 h35) fun v36 h36 =>
 bnd (gD v36 false (aB 3 x2 h36) h36) fun v37 h37 =>
 bnd (gD v36 false (aA v37 h37) h37) fun v38 h38 =>
 bnd (gD v36 false (aD .gtr v38 (aF 255) h38) h38) fun v39 h39 =>
 bnd (aN v36 (.b true) v39 h39) fun v40 h40 =>
 bnd (gD v40 false (aB 4 x2 h40) h40) fun v41 h41 =>
 bnd (gD v40 false (aA v41 h41) h41) fun v42 h42 =>
 bnd (gD v40 false (bJ v42 h42) h42) fun v43 h43 =>
 bnd (gD v40 false (aD .gtr v43 (aF 60) h43) h43) fun v44 h44 =>
 bnd (aN v40 (.b true) v44 h44) fun v45 h45 =>
 bnd (gD v45 false (aB 5 x2 h45) h45) fun v46 h46 =>
 bnd (gD v45 false (aA v46 h46) h46) fun v47 h47 =>
 bnd (gD v45 false (bJ v47 h47) h47) fun v48 h48 =>
 bnd (gD v45 false (aD .lss v48 (aF 1) h48) h48) fun v49 h49 =>
 bnd (aN v45 (.b true) v49 h49) fun v50 h50 =>
 bnd (gD v50 false (aB 5 x2 h50) h50) fun v51 h51 =>
 bnd (gD v50 false (aA v51 h51) h51) fun v52 h52 =>
 bnd (gD v50 false (bJ v52 h52) h52) fun v53 h53 =>
 bnd (gD v50 false (aD .gtr v53 (aF 400) h53) h53) fun v54 h54 =>
 bnd (aN v50 (.b true) v54 h54) fun v55 h55 =>
 aU v55 (
 some ((.b false), h55)) (
  bPx r n x1 x2 h55)
noncomputable def s67 (r : RT) (n : Nat) (x0 x1 : DV) (h0 : Hp) : aH :=
 bnd (bQ x0 h0) fun v1 h1 =>
  aPk r n x1 v1 h1
noncomputable abbrev c67 : Code := cf Tryz.f67
noncomputable abbrev bBi : Code := cR c67
noncomputable abbrev bBn : Code := cR bBi
noncomputable abbrev bAv : Code := cR bBn
noncomputable abbrev eFd : Code := cR bAv
noncomputable abbrev aQt : Code := cL bAv
noncomputable abbrev bSd : Code := cR aQt
noncomputable abbrev bDd : Code := cL bSd
noncomputable abbrev zK : Code := cL bDd
noncomputable abbrev dFy : Code := cL aQt
noncomputable abbrev zV : Code := cL bBn
noncomputable abbrev aUy : Code := cR zV
noncomputable abbrev aIv : Code := cL aUy
noncomputable abbrev pK : Code := cL aIv
noncomputable abbrev cIo : Code := cL zV
noncomputable abbrev bWm : Code := cL bBi
noncomputable abbrev aWl : Code := cL c67
noncomputable abbrev r67 : K := aQ CF Tryz.f67
noncomputable def D67 (r : RT) (n : Nat) (c : Code) (X : Nat → K) (k : K) : K := aP CF r 118 n c X r67 k
theorem dUy : D67 r n eFd x0 r67 = (K0 (hC r n)) :=
 (by kernel_rfl)
theorem cXn (kk6 : bZ) : D67 r n zK (xs x0 2 (K0 (hC r n))) (K3 kk6 1 2 7) = (K3 (bXn r n kk6) 1 2 7) :=
 (by kernel_rfl)
theorem cNz (m : Nat) : aK (fun kk => D67 r n zK (xs x0 2 (K0 (hC r n))) kk) m = (K3 (aDb r n m) 1 2 7) := by
 induction m with
 | zero => exact (by kernel_rfl : aK (fun kk => D67 r n zK (xs x0 2 (K0 (hC r n))) kk) 0 = (K3 (aDb r n 0) 1 2 7))
 | succ m ih =>
  refine (by kernel_rfl : aK (fun kk => D67 r n zK (xs x0 2 (K0 (hC r n))) kk) (m + 1) = D67 r n zK (xs x0 2 (K0 (hC r n))) (aK (fun kk => D67 r n zK (xs x0 2 (K0 (hC r n))) kk) m)).trans ?_
  rw [ih]
  exact (cXn r n (aDb r n m)).trans (by kernel_rfl)
theorem dPc : D67 r n bDd (xs x0 2 (K0 (hC r n))) (K0 (hC r n)) = (K3 (dFx r n) 1 2 7) :=
 (by kernel_rfl : D67 r n bDd (xs x0 2 (K0 (hC r n))) (K0 (hC r n)) = aK (fun kk => D67 r n zK (xs x0 2 (K0 (hC r n))) kk) n).trans ((cNz r n n).trans (by kernel_rfl))
theorem dKd : D67 r n bSd x0 (K0 (hC r n)) = (K3 (bWw r n) 1 2 7) :=
 (by kernel_rfl : D67 r n bSd x0 (K0 (hC r n)) = D67 r n bDd (xs x0 2 (K0 (hC r n))) (K0 (hC r n))).trans
 ((dPc r n).trans (by kernel_rfl))
theorem cYo : D67 r n bAv x0 r67 = D67 r n aQt x0 (K0 (hC r n)) :=
 congrArg (fun k => D67 r n aQt x0 k) (dUy r n)
theorem dCm : D67 r n aQt x0 (K0 (hC r n)) = D67 r n dFy x0 (K3 (bWw r n) 1 2 7) :=
 congrArg (fun k => D67 r n dFy x0 k) (dKd r n)
theorem dPe : D67 r n bAv x0 r67 = (K2 (hU r n) 1 2) :=
 (cYo r n).trans
 ((dCm r n).trans
 ((by kernel_rfl)))
theorem cXu (kk8 : bZ) : D67 r n pK (xs x0 0 (K2 (hU r n) 1 2)) (K3 kk8 1 2 5) = (K3 (bVr r n kk8) 1 2 5) :=
 (by kernel_rfl)
theorem cPr (m : Nat) : aK (fun kk => D67 r n pK (xs x0 0 (K2 (hU r n) 1 2)) kk) m = (K3 (aLi r n m) 1 2 5) := by
 induction m with
 | zero => exact (by kernel_rfl : aK (fun kk => D67 r n pK (xs x0 0 (K2 (hU r n) 1 2)) kk) 0 = (K3 (aLi r n 0) 1 2 5))
 | succ m ih =>
  refine (by kernel_rfl : aK (fun kk => D67 r n pK (xs x0 0 (K2 (hU r n) 1 2)) kk) (m + 1) = D67 r n pK (xs x0 0 (K2 (hU r n) 1 2)) (aK (fun kk => D67 r n pK (xs x0 0 (K2 (hU r n) 1 2)) kk) m)).trans ?_
  rw [ih]
  exact (cXu r n (aLi r n m)).trans (by kernel_rfl)
theorem dSg : D67 r n aIv (xs x0 0 (K2 (hU r n) 1 2)) (K2 (hU r n) 1 2) = (K3 (dGb r n) 1 2 5) :=
 (by kernel_rfl : D67 r n aIv (xs x0 0 (K2 (hU r n) 1 2)) (K2 (hU r n) 1 2) = aK (fun kk => D67 r n pK (xs x0 0 (K2 (hU r n) 1 2)) kk) n).trans ((cPr r n n).trans (by kernel_rfl))
theorem dJd : D67 r n aUy x0 (K2 (hU r n) 1 2) = (K3 (cEn r n) 1 2 5) :=
 (by kernel_rfl : D67 r n aUy x0 (K2 (hU r n) 1 2) = D67 r n aIv (xs x0 0 (K2 (hU r n) 1 2)) (K2 (hU r n) 1 2)).trans
 ((dSg r n).trans (by kernel_rfl))
theorem cWb : D67 r n bBn x0 r67 = D67 r n zV x0 (K2 (hU r n) 1 2) :=
 congrArg (fun k => D67 r n zV x0 k) (dPe r n)
theorem dDh : D67 r n zV x0 (K2 (hU r n) 1 2) = D67 r n cIo x0 (K3 (cEn r n) 1 2 5) :=
 congrArg (fun k => D67 r n cIo x0 k) (dJd r n)
theorem dSq : D67 r n bBn x0 r67 = (K2 (bPx r n) 1 2) :=
 (cWb r n).trans
 ((dDh r n).trans
 ((by kernel_rfl)))
theorem cUo : D67 r n bBi x0 r67 = D67 r n bWm x0 (K2 (bPx r n) 1 2) :=
 congrArg (fun k => D67 r n bWm x0 k) (dSq r n)
theorem dRy : D67 r n bBi x0 r67 = (K2 (aPk r n) 1 2) :=
 (cUo r n).trans
 ((by kernel_rfl))
theorem eEv : D67 r n c67 x0 r67 = D67 r n aWl x0 (K2 (aPk r n) 1 2) :=
 congrArg (fun k => D67 r n aWl x0 k) (dRy r n)
theorem eFq (q0 : gV) : D67 r n aWl x0 (K2 q0 1 2) = fun (env : aZ) (h : Hp) =>
 bnd (bQ (env 0) h) fun v1 h1 =>
  q0 (env 1) v1 h1 := by kernel_rfl
theorem dNw : (fun (env : aZ) (h : Hp) =>
 bnd (bQ (env 0) h) fun v1 h1 =>
  aPk r n (env 1) v1 h1) = (K2 (s67 r n) 0 1) := by kernel_rfl
theorem eKf : D67 r n c67 x0 r67 = (K2 (s67 r n) 0 1) :=
 (eEv r n).trans
 ((eFq r n (aPk r n)).trans (dNw r n))
theorem dYf : aG CF r n 67 args h = s67 r n (aR args 0) (aR args 1) h :=
 (by kernel_rfl : aG CF r n 67 args h = D67 r n c67 x0 r67 (aI args) h).trans ((congrFun (congrFun (eKf r n) (aI args)) h).trans (by kernel_rfl))
noncomputable def bY (r : RT) (n : Nat) (x3 : DV) (h0 : Hp) : aH :=
 some (x3, h0)
noncomputable def cU (r : RT) (n : Nat) (kk5 : bZ) (x0 x3 x4 : DV) (h0 : Hp) : aH :=
 bnd (aD .add x4 (aF 1) h0) fun v1 h1 =>
  kk5 x0 x3 v1 h1
noncomputable def eF (r : RT) (n : Nat) (kk5 : bZ) (x0 x3 x4 x5 : DV) (h0 : Hp) : aH :=
 bnd (aO [(aF 0)] 1 [(0, 1, x5)] h0) fun v1 h1 =>
 bnd (aW 1 8 x3 v1 h1) fun v2 h2 =>
  cU r n kk5 x0 v2 x4 h2
noncomputable def aHw (r : RT) (n : Nat) (kk5 : bZ) (kk11 : bK) (x0 x3 x4 x5 x6 : DV) (h0 : Hp) : aH :=
 bnd (aD .add x6 (aF 1) h0) fun v1 h1 =>
  kk11 x0 x3 x4 x5 v1 h1
noncomputable def aUz (r : RT) (n : Nat) (kk5 : bZ) (kk11 : bK) (x0 x3 x4 x5 x6 : DV) (h0 : Hp) : aH :=
 bnd (aD .add x6 (aF 2) h0) fun v1 h1 =>
 bnd (aD .leq v1 x4 h1) fun v2 h2 =>
 bnd (gD v2 true (some (x4, h2)) h2) fun v3 h3 =>
 bnd (gD v2 true (some (x0, h3)) h3) fun v4 h4 =>
 bnd (gD v2 true (some (x6, h4)) h4) fun v5 h5 =>
 bnd (gD v2 true (r 118 [v4, v5] h5) h5) fun v6 h6 =>
 bnd (gD v2 true (aD .lss v3 v6 h6) h6) fun v7 h7 =>
 bnd (aN v2 v7 (.b false) h7) fun v8 h8 =>
 aU v8 (
  aHw r n kk5 kk11 x0 x3 x4 x6 x6 h8) (
  aHw r n kk5 kk11 x0 x3 x4 x5 x6 h8)
noncomputable def bFt (r : RT) (n : Nat) (kk5 : bZ) (kk11 : bK) (x0 x3 x4 x5 x6 : DV) (h0 : Hp) : aH :=
 bnd (bJ x0 h0) fun v1 h1 =>
 bnd (aD .lss x6 v1 h1) fun v2 h2 =>
 aU v2 (
   aUz r n kk5 kk11 x0 x3 x4 x5 x6 h2) (
   eF r n kk5 x0 x3 x4 x5 h2)
noncomputable def wF (r : RT) (n : Nat) (kk5 : bZ) (m : Nat) : bK :=
 Nat.rec (motive := fun _ => bK) (fun _ _ _ _ _ _ => none) (fun _ ih => bFt r n kk5 ih) m
noncomputable def cFq (r : RT) (n : Nat) (kk5 : bZ) : bK := wF r n kk5 n
noncomputable def aWg (r : RT) (n : Nat) (kk5 : bZ) (x0 x3 x4 x5 x6 : DV) (h0 : Hp) : aH :=
 cFq r n kk5 x0 x3 x4 x5 x6 h0
noncomputable def bUp (r : RT) (n : Nat) (kk5 : bZ) (x0 x3 x4 x5 : DV) (h0 : Hp) : aH :=
 aWg r n kk5 x0 x3 x4 x5 (aF 0) h0
noncomputable def cAz (r : RT) (n : Nat) (kk5 : bZ) (x0 x3 x4 : DV) (h0 : Hp) : aH :=
 bUp r n kk5 x0 x3 x4 (.i .i64 (Int.negSucc 0)) h0
noncomputable def cGf (r : RT) (n : Nat) (kk5 : bZ) (x0 x3 x4 : DV) (h0 : Hp) : aH :=
 bnd (bJ x0 h0) fun v1 h1 =>
 bnd (aD .lss x4 v1 h1) fun v2 h2 =>
 aU v2 (
   cAz r n kk5 x0 x3 x4 h2) (
   bY r n x3 h2)
noncomputable def aHz (r : RT) (n : Nat) (m : Nat) : bZ :=
 Nat.rec (motive := fun _ => bZ) (fun _ _ _ _ => none) (fun _ ih => cGf r n ih) m
noncomputable def dFm (r : RT) (n : Nat) : bZ := aHz r n n
noncomputable def bQz (r : RT) (n : Nat) (x0 x3 x4 : DV) (h0 : Hp) : aH :=
 dFm r n x0 x3 x4 h0
noncomputable def cNa (r : RT) (n : Nat) (x0 x3 : DV) (h0 : Hp) : aH :=
 bQz r n x0 x3 (aF 0) h0
noncomputable def cCr (r : RT) (n : Nat) (x0 : DV) (h0 : Hp) : aH :=
 cNa r n x0 .l0 h0
noncomputable def s68 (r : RT) (n : Nat) (x0 : DV) (h0 : Hp) : aH :=
 cCr r n x0 h0
noncomputable abbrev c68 : Code := cf Tryz.f68
noncomputable abbrev bAm : Code := cR c68
noncomputable abbrev bBx : Code := cR bAm
noncomputable abbrev dVy : Code := cR bBx
noncomputable abbrev aOi : Code := cL bBx
noncomputable abbrev bVx : Code := cR aOi
noncomputable abbrev bBu : Code := cL bVx
noncomputable abbrev oA : Code := cL bBu
noncomputable abbrev bHn : Code := cR oA
noncomputable abbrev eFu : Code := cR bHn
noncomputable abbrev aFn : Code := cL bHn
noncomputable abbrev aKy : Code := cL aFn
noncomputable abbrev aGq : Code := cR aKy
noncomputable abbrev cDf : Code := cR aGq
noncomputable abbrev zE : Code := cL aGq
noncomputable abbrev aXb : Code := cR zE
noncomputable abbrev aHq : Code := cL aXb
noncomputable abbrev kL : Code := cL aHq
noncomputable abbrev aMx : Code := cR kL
noncomputable abbrev dTa : Code := cR aMx
noncomputable abbrev cLj : Code := cL aMx
noncomputable abbrev cBu : Code := cL kL
noncomputable abbrev bSe : Code := cL zE
noncomputable abbrev bSp : Code := cL aKy
noncomputable abbrev cNo : Code := cL oA
noncomputable abbrev cFz : Code := cL aOi
noncomputable abbrev cMq : Code := cL bAm
noncomputable abbrev bRq : Code := cL c68
noncomputable abbrev r68 : K := aQ CF Tryz.f68
noncomputable def D68 (r : RT) (n : Nat) (c : Code) (X : Nat → K) (k : K) : K := aP CF r 36 n c X r68 k
theorem dOt : D68 r n dVy x0 r68 = (K1 (bY r n) 3) :=
 (by kernel_rfl)
theorem dJl (kk5 : bZ) : D68 r n eFu (xs x0 0 (K1 (bY r n) 3)) (K3 kk5 0 3 4) = (K3 (cU r n kk5) 0 3 4) :=
 (by kernel_rfl)
theorem cOu (kk5 : bZ) (q0 : bZ) (q1 : TT1) : D68 r n cDf (xs (xs x0 0 (K1 q1 3)) 1 (K3 q0 0 3 4)) (K3 q0 0 3 4) = fun (env : aZ) (h : Hp) =>
 bnd (aO [(aF 0)] 1 [(0, 1, (env 5))] h) fun v1 h1 =>
 bnd (aW 1 8 (env 3) v1 h1) fun v2 h2 =>
  q0 (env 0) v2 (env 4) h2 := by kernel_rfl
theorem cKb (kk5 : bZ) : (fun (env : aZ) (h : Hp) =>
 bnd (aO [(aF 0)] 1 [(0, 1, (env 5))] h) fun v1 h1 =>
 bnd (aW 1 8 (env 3) v1 h1) fun v2 h2 =>
  cU r n kk5 (env 0) v2 (env 4) h2) = (K4 (eF r n kk5) 0 3 4 5) := by kernel_rfl
theorem dKx (kk5 : bZ) : D68 r n cDf (xs (xs x0 0 (K1 (bY r n) 3)) 1 (K3 (cU r n kk5) 0 3 4)) (K3 (cU r n kk5) 0 3 4) = (K4 (eF r n kk5) 0 3 4 5) :=
 (cOu r n kk5 (cU r n kk5) (bY r n)).trans (cKb r n kk5)
theorem dAe (kk5 : bZ) (kk11 : bK) : D68 r n dTa (xs (xs (xs x0 0 (K1 (bY r n) 3)) 1 (K3 (cU r n kk5) 0 3 4)) 2 (K4 (eF r n kk5) 0 3 4 5)) (K5 kk11 0 3 4 5 6) = (K5 (aHw r n kk5 kk11) 0 3 4 5 6) :=
 (by kernel_rfl)
theorem cGc (kk5 : bZ) (kk11 : bK) : D68 r n aMx (xs (xs (xs x0 0 (K1 (bY r n) 3)) 1 (K3 (cU r n kk5) 0 3 4)) 2 (K4 (eF r n kk5) 0 3 4 5)) (K5 kk11 0 3 4 5 6) = D68 r n cLj (xs (xs (xs x0 0 (K1 (bY r n) 3)) 1 (K3 (cU r n kk5) 0 3 4)) 2 (K4 (eF r n kk5) 0 3 4 5)) (K5 (aHw r n kk5 kk11) 0 3 4 5 6) :=
 congrArg (fun k => D68 r n cLj (xs (xs (xs x0 0 (K1 (bY r n) 3)) 1 (K3 (cU r n kk5) 0 3 4)) 2 (K4 (eF r n kk5) 0 3 4 5)) k) (dAe r n kk5 kk11)
theorem cQy (kk5 : bZ) (kk11 : bK) : D68 r n aMx (xs (xs (xs x0 0 (K1 (bY r n) 3)) 1 (K3 (cU r n kk5) 0 3 4)) 2 (K4 (eF r n kk5) 0 3 4 5)) (K5 kk11 0 3 4 5 6) = (K5 (aUz r n kk5 kk11) 0 3 4 5 6) :=
 (cGc r n kk5 kk11).trans
 ((by kernel_rfl))
theorem bZn (kk5 : bZ) (kk11 : bK) : D68 r n kL (xs (xs (xs x0 0 (K1 (bY r n) 3)) 1 (K3 (cU r n kk5) 0 3 4)) 2 (K4 (eF r n kk5) 0 3 4 5)) (K5 kk11 0 3 4 5 6) = D68 r n cBu (xs (xs (xs x0 0 (K1 (bY r n) 3)) 1 (K3 (cU r n kk5) 0 3 4)) 2 (K4 (eF r n kk5) 0 3 4 5)) (K5 (aUz r n kk5 kk11) 0 3 4 5 6) :=
 congrArg (fun k => D68 r n cBu (xs (xs (xs x0 0 (K1 (bY r n) 3)) 1 (K3 (cU r n kk5) 0 3 4)) 2 (K4 (eF r n kk5) 0 3 4 5)) k) (cQy r n kk5 kk11)
theorem cDn (kk5 : bZ) (kk11 : bK) : D68 r n kL (xs (xs (xs x0 0 (K1 (bY r n) 3)) 1 (K3 (cU r n kk5) 0 3 4)) 2 (K4 (eF r n kk5) 0 3 4 5)) (K5 kk11 0 3 4 5 6) = (K5 (bFt r n kk5 kk11) 0 3 4 5 6) :=
 (bZn r n kk5 kk11).trans
 ((by kernel_rfl))
theorem cMw (kk5 : bZ) (m : Nat) : aK (fun kk => D68 r n kL (xs (xs (xs x0 0 (K1 (bY r n) 3)) 1 (K3 (cU r n kk5) 0 3 4)) 2 (K4 (eF r n kk5) 0 3 4 5)) kk) m = (K5 (wF r n kk5 m) 0 3 4 5 6) := by
 induction m with
 | zero => exact (by kernel_rfl : aK (fun kk => D68 r n kL (xs (xs (xs x0 0 (K1 (bY r n) 3)) 1 (K3 (cU r n kk5) 0 3 4)) 2 (K4 (eF r n kk5) 0 3 4 5)) kk) 0 = (K5 (wF r n kk5 0) 0 3 4 5 6))
 | succ m ih =>
  refine (by kernel_rfl : aK (fun kk => D68 r n kL (xs (xs (xs x0 0 (K1 (bY r n) 3)) 1 (K3 (cU r n kk5) 0 3 4)) 2 (K4 (eF r n kk5) 0 3 4 5)) kk) (m + 1) = D68 r n kL (xs (xs (xs x0 0 (K1 (bY r n) 3)) 1 (K3 (cU r n kk5) 0 3 4)) 2 (K4 (eF r n kk5) 0 3 4 5)) (aK (fun kk => D68 r n kL (xs (xs (xs x0 0 (K1 (bY r n) 3)) 1 (K3 (cU r n kk5) 0 3 4)) 2 (K4 (eF r n kk5) 0 3 4 5)) kk) m)).trans ?_
  rw [ih]
  exact (cDn r n kk5 (wF r n kk5 m)).trans (by kernel_rfl)
theorem dDe (kk5 : bZ) : D68 r n aHq (xs (xs (xs x0 0 (K1 (bY r n) 3)) 1 (K3 (cU r n kk5) 0 3 4)) 2 (K4 (eF r n kk5) 0 3 4 5)) (K4 (eF r n kk5) 0 3 4 5) = (K5 (cFq r n kk5) 0 3 4 5 6) :=
 (by kernel_rfl : D68 r n aHq (xs (xs (xs x0 0 (K1 (bY r n) 3)) 1 (K3 (cU r n kk5) 0 3 4)) 2 (K4 (eF r n kk5) 0 3 4 5)) (K4 (eF r n kk5) 0 3 4 5) = aK (fun kk => D68 r n kL (xs (xs (xs x0 0 (K1 (bY r n) 3)) 1 (K3 (cU r n kk5) 0 3 4)) 2 (K4 (eF r n kk5) 0 3 4 5)) kk) n).trans ((cMw r n kk5 n).trans (by kernel_rfl))
theorem dCr (kk5 : bZ) : D68 r n aXb (xs (xs x0 0 (K1 (bY r n) 3)) 1 (K3 (cU r n kk5) 0 3 4)) (K4 (eF r n kk5) 0 3 4 5) = (K5 (aWg r n kk5) 0 3 4 5 6) :=
 (by kernel_rfl : D68 r n aXb (xs (xs x0 0 (K1 (bY r n) 3)) 1 (K3 (cU r n kk5) 0 3 4)) (K4 (eF r n kk5) 0 3 4 5) = D68 r n aHq (xs (xs (xs x0 0 (K1 (bY r n) 3)) 1 (K3 (cU r n kk5) 0 3 4)) 2 (K4 (eF r n kk5) 0 3 4 5)) (K4 (eF r n kk5) 0 3 4 5)).trans
 ((dDe r n kk5).trans (by kernel_rfl))
theorem cYd (kk5 : bZ) : D68 r n aGq (xs (xs x0 0 (K1 (bY r n) 3)) 1 (K3 (cU r n kk5) 0 3 4)) (K3 (cU r n kk5) 0 3 4) = D68 r n zE (xs (xs x0 0 (K1 (bY r n) 3)) 1 (K3 (cU r n kk5) 0 3 4)) (K4 (eF r n kk5) 0 3 4 5) :=
 congrArg (fun k => D68 r n zE (xs (xs x0 0 (K1 (bY r n) 3)) 1 (K3 (cU r n kk5) 0 3 4)) k) (dKx r n kk5)
theorem dEf (kk5 : bZ) : D68 r n zE (xs (xs x0 0 (K1 (bY r n) 3)) 1 (K3 (cU r n kk5) 0 3 4)) (K4 (eF r n kk5) 0 3 4 5) = D68 r n bSe (xs (xs x0 0 (K1 (bY r n) 3)) 1 (K3 (cU r n kk5) 0 3 4)) (K5 (aWg r n kk5) 0 3 4 5 6) :=
 congrArg (fun k => D68 r n bSe (xs (xs x0 0 (K1 (bY r n) 3)) 1 (K3 (cU r n kk5) 0 3 4)) k) (dCr r n kk5)
theorem dSh (kk5 : bZ) : D68 r n aGq (xs (xs x0 0 (K1 (bY r n) 3)) 1 (K3 (cU r n kk5) 0 3 4)) (K3 (cU r n kk5) 0 3 4) = (K4 (bUp r n kk5) 0 3 4 5) :=
 (cYd r n kk5).trans
 ((dEf r n kk5).trans
 ((by kernel_rfl)))
theorem cQc (kk5 : bZ) : D68 r n bHn (xs x0 0 (K1 (bY r n) 3)) (K3 kk5 0 3 4) = D68 r n aFn (xs x0 0 (K1 (bY r n) 3)) (K3 (cU r n kk5) 0 3 4) :=
 congrArg (fun k => D68 r n aFn (xs x0 0 (K1 (bY r n) 3)) k) (dJl r n kk5)
theorem dBf (kk5 : bZ) : D68 r n aKy (xs (xs x0 0 (K1 (bY r n) 3)) 1 (K3 (cU r n kk5) 0 3 4)) (K3 (cU r n kk5) 0 3 4) = D68 r n bSp (xs (xs x0 0 (K1 (bY r n) 3)) 1 (K3 (cU r n kk5) 0 3 4)) (K4 (bUp r n kk5) 0 3 4 5) :=
 congrArg (fun k => D68 r n bSp (xs (xs x0 0 (K1 (bY r n) 3)) 1 (K3 (cU r n kk5) 0 3 4)) k) (dSh r n kk5)
theorem dUw (kk5 : bZ) : D68 r n bHn (xs x0 0 (K1 (bY r n) 3)) (K3 kk5 0 3 4) = (K3 (cAz r n kk5) 0 3 4) :=
 (cQc r n kk5).trans
 ((by kernel_rfl : D68 r n aFn (xs x0 0 (K1 (bY r n) 3)) (K3 (cU r n kk5) 0 3 4) = D68 r n aKy (xs (xs x0 0 (K1 (bY r n) 3)) 1 (K3 (cU r n kk5) 0 3 4)) (K3 (cU r n kk5) 0 3 4)).trans
 ((dBf r n kk5).trans
 ((by kernel_rfl))))
theorem cOx (kk5 : bZ) : D68 r n oA (xs x0 0 (K1 (bY r n) 3)) (K3 kk5 0 3 4) = D68 r n cNo (xs x0 0 (K1 (bY r n) 3)) (K3 (cAz r n kk5) 0 3 4) :=
 congrArg (fun k => D68 r n cNo (xs x0 0 (K1 (bY r n) 3)) k) (dUw r n kk5)
theorem dAs (kk5 : bZ) : D68 r n oA (xs x0 0 (K1 (bY r n) 3)) (K3 kk5 0 3 4) = (K3 (cGf r n kk5) 0 3 4) :=
 (cOx r n kk5).trans
 ((by kernel_rfl))
theorem cTc (m : Nat) : aK (fun kk => D68 r n oA (xs x0 0 (K1 (bY r n) 3)) kk) m = (K3 (aHz r n m) 0 3 4) := by
 induction m with
 | zero => exact (by kernel_rfl : aK (fun kk => D68 r n oA (xs x0 0 (K1 (bY r n) 3)) kk) 0 = (K3 (aHz r n 0) 0 3 4))
 | succ m ih =>
  refine (by kernel_rfl : aK (fun kk => D68 r n oA (xs x0 0 (K1 (bY r n) 3)) kk) (m + 1) = D68 r n oA (xs x0 0 (K1 (bY r n) 3)) (aK (fun kk => D68 r n oA (xs x0 0 (K1 (bY r n) 3)) kk) m)).trans ?_
  rw [ih]
  exact (dAs r n (aHz r n m)).trans (by kernel_rfl)
theorem dUl : D68 r n bBu (xs x0 0 (K1 (bY r n) 3)) (K1 (bY r n) 3) = (K3 (dFm r n) 0 3 4) :=
 (by kernel_rfl : D68 r n bBu (xs x0 0 (K1 (bY r n) 3)) (K1 (bY r n) 3) = aK (fun kk => D68 r n oA (xs x0 0 (K1 (bY r n) 3)) kk) n).trans ((cTc r n n).trans (by kernel_rfl))
theorem dLk : D68 r n bVx x0 (K1 (bY r n) 3) = (K3 (bQz r n) 0 3 4) :=
 (by kernel_rfl : D68 r n bVx x0 (K1 (bY r n) 3) = D68 r n bBu (xs x0 0 (K1 (bY r n) 3)) (K1 (bY r n) 3)).trans
 ((dUl r n).trans (by kernel_rfl))
theorem cUp : D68 r n bBx x0 r68 = D68 r n aOi x0 (K1 (bY r n) 3) :=
 congrArg (fun k => D68 r n aOi x0 k) (dOt r n)
theorem bRo : D68 r n aOi x0 (K1 (bY r n) 3) = D68 r n cFz x0 (K3 (bQz r n) 0 3 4) :=
 congrArg (fun k => D68 r n cFz x0 k) (dLk r n)
theorem dLc : D68 r n bBx x0 r68 = (K2 (cNa r n) 0 3) :=
 (cUp r n).trans
 ((bRo r n).trans
 ((by kernel_rfl)))
theorem bXs : D68 r n bAm x0 r68 = D68 r n cMq x0 (K2 (cNa r n) 0 3) :=
 congrArg (fun k => D68 r n cMq x0 k) (dLc r n)
theorem dRz : D68 r n bAm x0 r68 = (K1 (cCr r n) 0) :=
 (bXs r n).trans
 ((by kernel_rfl))
theorem dUz : D68 r n c68 x0 r68 = D68 r n bRq x0 (K1 (cCr r n) 0) :=
 congrArg (fun k => D68 r n bRq x0 k) (dRz r n)
theorem eLy : D68 r n c68 x0 r68 = (K1 (s68 r n) 0) :=
 (dUz r n).trans
 ((by kernel_rfl))
theorem eGf : aG CF r n 68 args h = s68 r n (aR args 0) h :=
 (by kernel_rfl : aG CF r n 68 args h = D68 r n c68 x0 r68 (aI args) h).trans ((congrFun (congrFun (eLy r n) (aI args)) h).trans (by kernel_rfl))
noncomputable def cK (r : RT) (n : Nat) (h0 : Hp) : aH :=
 some ((.b true), h0)
noncomputable def eH (r : RT) (n : Nat) (kk4 : bZ) (x0 x1 x5 : DV) (h0 : Hp) : aH :=
 bnd (aD .add x5 (aF 1) h0) fun v1 h1 =>
  kk4 x0 x1 v1 h1
noncomputable def kD (r : RT) (n : Nat) (kk4 : bZ) (x0 x1 x5 : DV) (h0 : Hp) : aH :=
 bnd (aC 3 x0 x5 h0) fun v1 h1 =>
 bnd (aL 3 v1 h1) fun v2 h2 =>
 bnd (r 72 [v2] h2) fun v3 h3 =>
 bnd (aD .geq v3 (aF 0) h3) fun v4 h4 =>
 bnd (gD v4 true (some (v3, h4)) h4) fun v5 h5 =>
 bnd (gD v4 true (some (x0, h5)) h5) fun v6 h6 =>
 bnd (gD v4 true (bJ v6 h6) h6) fun v7 h7 =>
 bnd (gD v4 true (aD .geq v5 v7 h7) h7) fun v8 h8 =>
 bnd (gD v4 true (some (v8, h8)) h8) fun v9 h9 =>
 bnd (gD v9 false (some (x1, h9)) h9) fun v10 h10 =>
 bnd (gD v9 false (some (v3, h10)) h10) fun v11 h11 =>
 bnd (gD v9 false (aC 1 v10 v11 h11) h11) fun v12 h12 =>
 bnd (gD v9 false (aA v12 h12) h12) fun v13 h13 =>
 bnd (gD v9 false (some (x1, h13)) h13) fun v14 h14 =>
 bnd (gD v9 false (some (x5, h14)) h14) fun v15 h15 =>
 bnd (gD v9 false (aC 1 v14 v15 h15) h15) fun v16 h16 =>
 bnd (gD v9 false (aA v16 h16) h16) fun v17 h17 =>
 bnd (gD v9 false (aD .neq v13 v17 h17) h17) fun v18 h18 =>
 bnd (gD v4 true (aN v9 (.b true) v18 h18) h18) fun v19 h19 =>
 bnd (aN v4 v19 (.b false) h19) fun v20 h20 =>
 aU v20 (
 some ((.b false), h20)) (
  eH r n kk4 x0 x1 x5 h20)
noncomputable def aMi (r : RT) (n : Nat) (kk4 : bZ) (x0 x1 x5 x6 : DV) (h0 : Hp) : aH :=
 bnd (r 118 [x0, x5] h0) fun v1 h1 =>
 bnd (aD .lss v1 (aF 0) h1) fun v2 h2 =>
 bnd (gD v2 false (some (v1, h2)) h2) fun v3 h3 =>
 bnd (gD v2 false (some (x6, h3)) h3) fun v4 h4 =>
 bnd (gD v2 false (aD .gtr v3 v4 h4) h4) fun v5 h5 =>
 bnd (aN v2 (.b true) v5 h5) fun v6 h6 =>
 aU v6 (
 some ((.b false), h6)) (
  kD r n kk4 x0 x1 x5 h6)
noncomputable def aYg (r : RT) (n : Nat) (kk4 : bZ) (x0 x1 x5 x6 : DV) (h0 : Hp) : aH :=
 bnd (aC 1 x1 x5 h0) fun v1 h1 =>
 bnd (aA v1 h1) fun v2 h2 =>
 bnd (aD .geq v2 (aF 0) h2) fun v3 h3 =>
 aU v3 (
 bnd (aC 1 x1 x5 h3) fun v4 h4 =>
 bnd (aA v4 h4) fun v5 h5 =>
 bnd (r 118 [x0, v5] h5) fun v6 h6 =>
  aMi r n kk4 x0 x1 x5 v6 h6) (
  aMi r n kk4 x0 x1 x5 x6 h3)
noncomputable def dGk (r : RT) (n : Nat) (kk4 : bZ) (x0 x1 x5 : DV) (h0 : Hp) : aH :=
 bnd (bJ x0 h0) fun v1 h1 =>
  aYg r n kk4 x0 x1 x5 v1 h1
noncomputable def cJj (r : RT) (n : Nat) (kk4 : bZ) (x0 x1 x5 x20 : DV) (h0 : Hp) : aH :=
 aU x20 (
  dGk r n kk4 x0 x1 x5 h0) (
  kD r n kk4 x0 x1 x5 h0)
noncomputable def cKr (r : RT) (n : Nat) (kk4 : bZ) (x0 x1 x5 : DV) (h0 : Hp) : aH :=
 bnd (aC 3 x0 x5 h0) fun v1 h1 =>
 bnd (aB 0 v1 h1) fun v2 h2 =>
 bnd (aA v2 h2) fun v3 h3 =>
 bnd (aD .eql v3 (aF 18) h3) fun v4 h4 =>
  cJj r n kk4 x0 x1 x5 v4 h4
noncomputable def bWq (r : RT) (n : Nat) (kk4 : bZ) (x0 x1 x5 : DV) (h0 : Hp) : aH :=
 bnd (bJ x0 h0) fun v1 h1 =>
 bnd (aD .lss x5 v1 h1) fun v2 h2 =>
 aU v2 (
   cKr r n kk4 x0 x1 x5 h2) (
   cK r n h2)
noncomputable def aHa (r : RT) (n : Nat) (m : Nat) : bZ :=
 Nat.rec (motive := fun _ => bZ) (fun _ _ _ _ => none) (fun _ ih => bWq r n ih) m
noncomputable def dEz (r : RT) (n : Nat) : bZ := aHa r n n
noncomputable def cJh (r : RT) (n : Nat) (x0 x1 x5 : DV) (h0 : Hp) : aH :=
 dEz r n x0 x1 x5 h0
noncomputable def bZr (r : RT) (n : Nat) (x0 x1 : DV) (h0 : Hp) : aH :=
 cJh r n x0 x1 (aF 0) h0
noncomputable def s69 (r : RT) (n : Nat) (x0 x1 : DV) (h0 : Hp) : aH :=
 bZr r n x0 x1 h0
noncomputable abbrev c69 : Code := cf Tryz.f69
noncomputable abbrev bCm : Code := cR c69
noncomputable abbrev eDp : Code := cR bCm
noncomputable abbrev aQq : Code := cL bCm
noncomputable abbrev bOm : Code := cR aQq
noncomputable abbrev bCj : Code := cL bOm
noncomputable abbrev oE : Code := cL bCj
noncomputable abbrev bGr : Code := cR oE
noncomputable abbrev dVi : Code := cR bGr
noncomputable abbrev bCo : Code := cL bGr
noncomputable abbrev aIm : Code := cL bCo
noncomputable abbrev dSe : Code := cR aIm
noncomputable abbrev yN : Code := cL aIm
noncomputable abbrev yC : Code := cR yN
noncomputable abbrev xF : Code := cL yC
noncomputable abbrev aLa : Code := cR xF
noncomputable abbrev dGu : Code := cR aLa
noncomputable abbrev bWa : Code := cL aLa
noncomputable abbrev cJc : Code := cL xF
noncomputable abbrev dOi : Code := cR yC
noncomputable abbrev cGl : Code := cL yN
noncomputable abbrev bSh : Code := cL oE
noncomputable abbrev bOl : Code := cL aQq
noncomputable abbrev cHs : Code := cL c69
noncomputable abbrev r69 : K := aQ CF Tryz.f69
noncomputable def D69 (r : RT) (n : Nat) (c : Code) (X : Nat → K) (k : K) : K := aP CF r 68 n c X r69 k
theorem dRu : D69 r n eDp x0 r69 = (K0 (cK r n)) :=
 (by kernel_rfl)
theorem dMx (kk4 : bZ) : D69 r n dVi (xs x0 0 (K0 (cK r n))) (K3 kk4 0 1 5) = (K3 (eH r n kk4) 0 1 5) :=
 (by kernel_rfl)
theorem dTy (kk4 : bZ) : D69 r n dSe (xs (xs x0 0 (K0 (cK r n))) 1 (K3 (eH r n kk4) 0 1 5)) (K3 (eH r n kk4) 0 1 5) = (K3 (kD r n kk4) 0 1 5) :=
 (by kernel_rfl)
theorem cYi (kk4 : bZ) : D69 r n dGu (xs (xs x0 0 (K0 (cK r n))) 1 (K3 (eH r n kk4) 0 1 5)) (K3 (kD r n kk4) 0 1 5) = (K4 (aMi r n kk4) 0 1 5 6) :=
 (by kernel_rfl)
theorem bNw (kk4 : bZ) : D69 r n aLa (xs (xs x0 0 (K0 (cK r n))) 1 (K3 (eH r n kk4) 0 1 5)) (K3 (kD r n kk4) 0 1 5) = D69 r n bWa (xs (xs x0 0 (K0 (cK r n))) 1 (K3 (eH r n kk4) 0 1 5)) (K4 (aMi r n kk4) 0 1 5 6) :=
 congrArg (fun k => D69 r n bWa (xs (xs x0 0 (K0 (cK r n))) 1 (K3 (eH r n kk4) 0 1 5)) k) (cYi r n kk4)
theorem cRy (kk4 : bZ) : D69 r n aLa (xs (xs x0 0 (K0 (cK r n))) 1 (K3 (eH r n kk4) 0 1 5)) (K3 (kD r n kk4) 0 1 5) = (K4 (aYg r n kk4) 0 1 5 6) :=
 (bNw r n kk4).trans
 ((by kernel_rfl))
theorem dCn (kk4 : bZ) : D69 r n xF (xs (xs x0 0 (K0 (cK r n))) 1 (K3 (eH r n kk4) 0 1 5)) (K3 (kD r n kk4) 0 1 5) = D69 r n cJc (xs (xs x0 0 (K0 (cK r n))) 1 (K3 (eH r n kk4) 0 1 5)) (K4 (aYg r n kk4) 0 1 5 6) :=
 congrArg (fun k => D69 r n cJc (xs (xs x0 0 (K0 (cK r n))) 1 (K3 (eH r n kk4) 0 1 5)) k) (cRy r n kk4)
theorem dQe (kk4 : bZ) : D69 r n xF (xs (xs x0 0 (K0 (cK r n))) 1 (K3 (eH r n kk4) 0 1 5)) (K3 (kD r n kk4) 0 1 5) = (K3 (dGk r n kk4) 0 1 5) :=
 (dCn r n kk4).trans
 ((by kernel_rfl))
theorem dPu (kk4 : bZ) : D69 r n yC (xs (xs x0 0 (K0 (cK r n))) 1 (K3 (eH r n kk4) 0 1 5)) (K3 (kD r n kk4) 0 1 5) = (K4 (cJj r n kk4) 0 1 5 20) :=
 (by kernel_rfl : D69 r n yC (xs (xs x0 0 (K0 (cK r n))) 1 (K3 (eH r n kk4) 0 1 5)) (K3 (kD r n kk4) 0 1 5) = (fun (env : aZ) (h : Hp) => aU (opr env (cC yC)) (D69 r n xF (xs (xs x0 0 (K0 (cK r n))) 1 (K3 (eH r n kk4) 0 1 5)) (K3 (kD r n kk4) 0 1 5) env h) (D69 r n dOi (xs (xs x0 0 (K0 (cK r n))) 1 (K3 (eH r n kk4) 0 1 5)) (K3 (kD r n kk4) 0 1 5) env h))).trans (by rw [dQe r n kk4]; kernel_rfl)
theorem cQp (kk4 : bZ) : D69 r n bGr (xs x0 0 (K0 (cK r n))) (K3 kk4 0 1 5) = D69 r n bCo (xs x0 0 (K0 (cK r n))) (K3 (eH r n kk4) 0 1 5) :=
 congrArg (fun k => D69 r n bCo (xs x0 0 (K0 (cK r n))) k) (dMx r n kk4)
theorem dDw (kk4 : bZ) : D69 r n aIm (xs (xs x0 0 (K0 (cK r n))) 1 (K3 (eH r n kk4) 0 1 5)) (K3 (eH r n kk4) 0 1 5) = D69 r n yN (xs (xs x0 0 (K0 (cK r n))) 1 (K3 (eH r n kk4) 0 1 5)) (K3 (kD r n kk4) 0 1 5) :=
 congrArg (fun k => D69 r n yN (xs (xs x0 0 (K0 (cK r n))) 1 (K3 (eH r n kk4) 0 1 5)) k) (dTy r n kk4)
theorem dAz (kk4 : bZ) : D69 r n yN (xs (xs x0 0 (K0 (cK r n))) 1 (K3 (eH r n kk4) 0 1 5)) (K3 (kD r n kk4) 0 1 5) = D69 r n cGl (xs (xs x0 0 (K0 (cK r n))) 1 (K3 (eH r n kk4) 0 1 5)) (K4 (cJj r n kk4) 0 1 5 20) :=
 congrArg (fun k => D69 r n cGl (xs (xs x0 0 (K0 (cK r n))) 1 (K3 (eH r n kk4) 0 1 5)) k) (dPu r n kk4)
theorem dKk (kk4 : bZ) : D69 r n bGr (xs x0 0 (K0 (cK r n))) (K3 kk4 0 1 5) = (K3 (cKr r n kk4) 0 1 5) :=
 (cQp r n kk4).trans
 ((by kernel_rfl : D69 r n bCo (xs x0 0 (K0 (cK r n))) (K3 (eH r n kk4) 0 1 5) = D69 r n aIm (xs (xs x0 0 (K0 (cK r n))) 1 (K3 (eH r n kk4) 0 1 5)) (K3 (eH r n kk4) 0 1 5)).trans
 ((dDw r n kk4).trans
 ((dAz r n kk4).trans
 ((by kernel_rfl)))))
theorem cTl (kk4 : bZ) : D69 r n oE (xs x0 0 (K0 (cK r n))) (K3 kk4 0 1 5) = D69 r n bSh (xs x0 0 (K0 (cK r n))) (K3 (cKr r n kk4) 0 1 5) :=
 congrArg (fun k => D69 r n bSh (xs x0 0 (K0 (cK r n))) k) (dKk r n kk4)
theorem cOi (kk4 : bZ) : D69 r n oE (xs x0 0 (K0 (cK r n))) (K3 kk4 0 1 5) = (K3 (bWq r n kk4) 0 1 5) :=
 (cTl r n kk4).trans
 ((by kernel_rfl))
theorem cZb (m : Nat) : aK (fun kk => D69 r n oE (xs x0 0 (K0 (cK r n))) kk) m = (K3 (aHa r n m) 0 1 5) := by
 induction m with
 | zero => exact (by kernel_rfl : aK (fun kk => D69 r n oE (xs x0 0 (K0 (cK r n))) kk) 0 = (K3 (aHa r n 0) 0 1 5))
 | succ m ih =>
  refine (by kernel_rfl : aK (fun kk => D69 r n oE (xs x0 0 (K0 (cK r n))) kk) (m + 1) = D69 r n oE (xs x0 0 (K0 (cK r n))) (aK (fun kk => D69 r n oE (xs x0 0 (K0 (cK r n))) kk) m)).trans ?_
  rw [ih]
  exact (cOi r n (aHa r n m)).trans (by kernel_rfl)
theorem dNs : D69 r n bCj (xs x0 0 (K0 (cK r n))) (K0 (cK r n)) = (K3 (dEz r n) 0 1 5) :=
 (by kernel_rfl : D69 r n bCj (xs x0 0 (K0 (cK r n))) (K0 (cK r n)) = aK (fun kk => D69 r n oE (xs x0 0 (K0 (cK r n))) kk) n).trans ((cZb r n n).trans (by kernel_rfl))
theorem dHs : D69 r n bOm x0 (K0 (cK r n)) = (K3 (cJh r n) 0 1 5) :=
 (by kernel_rfl : D69 r n bOm x0 (K0 (cK r n)) = D69 r n bCj (xs x0 0 (K0 (cK r n))) (K0 (cK r n))).trans
 ((dNs r n).trans (by kernel_rfl))
theorem dCp : D69 r n bCm x0 r69 = D69 r n aQq x0 (K0 (cK r n)) :=
 congrArg (fun k => D69 r n aQq x0 k) (dRu r n)
theorem cYy : D69 r n aQq x0 (K0 (cK r n)) = D69 r n bOl x0 (K3 (cJh r n) 0 1 5) :=
 congrArg (fun k => D69 r n bOl x0 k) (dHs r n)
theorem dIc : D69 r n bCm x0 r69 = (K2 (bZr r n) 0 1) :=
 (dCp r n).trans
 ((cYy r n).trans
 ((by kernel_rfl)))
theorem eFy : D69 r n c69 x0 r69 = D69 r n cHs x0 (K2 (bZr r n) 0 1) :=
 congrArg (fun k => D69 r n cHs x0 k) (dIc r n)
theorem eJn : D69 r n c69 x0 r69 = (K2 (s69 r n) 0 1) :=
 (eFy r n).trans
 ((by kernel_rfl))
theorem dZk : aG CF r n 69 args h = s69 r n (aR args 0) (aR args 1) h :=
 (by kernel_rfl : aG CF r n 69 args h = D69 r n c69 x0 r69 (aI args) h).trans ((congrFun (congrFun (eJn r n) (aI args)) h).trans (by kernel_rfl))
noncomputable def s70 (r : RT) (n : Nat) (x0 : DV) (h0 : Hp) : aH :=
 bnd (bQ x0 h0) fun v1 h1 =>
 bnd (aB 0 v1 h1) fun v2 h2 =>
 bnd (aA v2 h2) fun v3 h3 =>
 bnd (aD .geq v3 (aF 1) h3) fun v4 h4 =>
 bnd (gD v4 true (aB 0 v1 h4) h4) fun v5 h5 =>
 bnd (gD v4 true (aA v5 h5) h5) fun v6 h6 =>
 bnd (gD v4 true (aD .leq v6 (aF 9) h6) h6) fun v7 h7 =>
 bnd (aN v4 v7 (.b false) h7) fun v8 h8 =>
 bnd (gD v8 false (aB 0 v1 h8) h8) fun v9 h9 =>
 bnd (gD v8 false (aA v9 h9) h9) fun v10 h10 =>
 bnd (gD v8 false (aD .eql v10 (aF 13) h10) h10) fun v11 h11 =>
 bnd (aN v8 (.b true) v11 h11) fun v12 h12 =>
 bnd (gD v12 false (aB 0 v1 h12) h12) fun v13 h13 =>
 bnd (gD v12 false (aA v13 h13) h13) fun v14 h14 =>
 bnd (gD v12 false (aD .eql v14 (aF 18) h14) h14) fun v15 h15 =>
 bnd (aN v12 (.b true) v15 h15) fun v16 h16 =>
 aU v16 (
 some ((aF 1), h16)) (
 bnd (aB 0 v1 h16) fun v17 h17 =>
 bnd (aA v17 h17) fun v18 h18 =>
 bnd (aD .eql v18 (aF 12) h18) fun v19 h19 =>
 bnd (gD v19 false (aB 0 v1 h19) h19) fun v20 h20 =>
 bnd (gD v19 false (aA v20 h20) h20) fun v21 h21 =>
 bnd (gD v19 false (aD .eql v21 (aF 17) h21) h21) fun v22 h22 =>
 bnd (aN v19 (.b true) v22 h22) fun v23 h23 =>
 bnd (gD v23 false (aB 0 v1 h23) h23) fun v24 h24 =>
 bnd (gD v23 false (aA v24 h24) h24) fun v25 h25 =>
 bnd (gD v23 false (aD .eql v25 (aF 19) h25) h25) fun v26 h26 =>
 bnd (aN v23 (.b true) v26 h26) fun v27 h27 =>
 bnd (gD v27 false (aB 0 v1 h27) h27) fun v28 h28 =>
 bnd (gD v27 false (aA v28 h28) h28) fun v29 h29 =>
 bnd (gD v27 false (aD .eql v29 (aF 20) h29) h29) fun v30 h30 =>
 bnd (aN v27 (.b true) v30 h30) fun v31 h31 =>
 aU v31 (
 some ((.i .i64 (Int.negSucc 0)), h31)) (
 bnd (aB 0 v1 h31) fun v32 h32 =>
 bnd (aA v32 h32) fun v33 h33 =>
 bnd (aD .eql v33 (aF 14) h33) fun v34 h34 =>
 bnd (gD v34 false (aB 0 v1 h34) h34) fun v35 h35 =>
 bnd (gD v34 false (aA v35 h35) h35) fun v36 h36 =>
 bnd (gD v34 false (aD .eql v36 (aF 15) h36) h36) fun v37 h37 =>
 bnd (aN v34 (.b true) v37 h37) fun v38 h38 =>
 aU v38 (
 bnd (aB 2 v1 h38) fun v39 h39 =>
 bnd (aA v39 h39) fun v40 h40 =>
 bnd (gP .neg v40 h40) fun v41 h41 =>
 some (v41, h41)) (
 some ((aF 0), h38))))
noncomputable abbrev c70 : Code := cf Tryz.f70
noncomputable abbrev r70 : K := aQ CF Tryz.f70
noncomputable def D70 (r : RT) (n : Nat) (c : Code) (X : Nat → K) (k : K) : K := aP CF r 50 n c X r70 k
theorem eKd : D70 r n c70 x0 r70 = (K1 (s70 r n) 0) :=
 (by kernel_rfl)
theorem dZo : aG CF r n 70 args h = s70 r n (aR args 0) h :=
 (by kernel_rfl : aG CF r n 70 args h = D70 r n c70 x0 r70 (aI args) h).trans ((congrFun (congrFun (eKd r n) (aI args)) h).trans (by kernel_rfl))
noncomputable def eG (r : RT) (n : Nat) (h0 : Hp) : aH :=
 some ((aF 0), h0)
noncomputable def bDa (r : RT) (n : Nat) (x1 x13 : DV) (h0 : Hp) : aH :=
 aU x13 (
 bnd (aB 2 x1 h0) fun v1 h1 =>
 bnd (aA v1 h1) fun v2 h2 =>
 bnd (aD .add v2 (aF 1) h2) fun v3 h3 =>
 some (v3, h3)) (
  eG r n h0)
noncomputable def dFl (r : RT) (n : Nat) (x1 x4 : DV) (h0 : Hp) : aH :=
 bnd (aD .eql x4 (aF 14) h0) fun v1 h1 =>
 aU v1 (
  bDa r n x1 v1 h1) (
 bnd (aD .eql x4 (aF 15) h1) fun v2 h2 =>
  bDa r n x1 v2 h2)
noncomputable def qL (r : RT) (n : Nat) (x1 x4 x5 : DV) (h0 : Hp) : aH :=
 aU x5 (
 some ((aF 1), h0)) (
  dFl r n x1 x4 h0)
noncomputable def bTc (r : RT) (n : Nat) (x1 x4 : DV) (h0 : Hp) : aH :=
 bnd (aD .eql x4 (aF 12) h0) fun v1 h1 =>
 aU v1 (
  qL r n x1 x4 v1 h1) (
 bnd (aD .eql x4 (aF 13) h1) fun v2 h2 =>
 aU v2 (
   qL r n x1 x4 v2 h2) (
 bnd (aD .eql x4 (aF 10) h2) fun v3 h3 =>
 aU v3 (
    qL r n x1 x4 v3 h3) (
 bnd (aD .eql x4 (aF 11) h3) fun v4 h4 =>
 aU v4 (
     qL r n x1 x4 v4 h4) (
 bnd (aD .eql x4 (aF 17) h4) fun v5 h5 =>
 aU v5 (
      qL r n x1 x4 v5 h5) (
 bnd (aD .eql x4 (aF 19) h5) fun v6 h6 =>
 aU v6 (
       qL r n x1 x4 v6 h6) (
 bnd (aD .eql x4 (aF 20) h6) fun v7 h7 =>
       qL r n x1 x4 v7 h7))))))
noncomputable def aOk (r : RT) (n : Nat) (x1 : DV) (h0 : Hp) : aH :=
 bnd (aB 0 x1 h0) fun v1 h1 =>
 bnd (aA v1 h1) fun v2 h2 =>
  bTc r n x1 v2 h2
noncomputable def s71 (r : RT) (n : Nat) (x0 : DV) (h0 : Hp) : aH :=
 bnd (bQ x0 h0) fun v1 h1 =>
  aOk r n v1 h1
noncomputable abbrev c71 : Code := cf Tryz.f71
noncomputable abbrev bBm : Code := cR c71
noncomputable abbrev dZb : Code := cR bBm
noncomputable abbrev aNx : Code := cL bBm
noncomputable abbrev bPf : Code := cR aNx
noncomputable abbrev aZx : Code := cL bPf
noncomputable abbrev aOv : Code := cR aZx
noncomputable abbrev aPm : Code := cR aOv
noncomputable abbrev dXw : Code := cR aPm
noncomputable abbrev dFr : Code := cL aPm
noncomputable abbrev dMm : Code := cL aOv
noncomputable abbrev bOr : Code := cL aZx
noncomputable abbrev cHw : Code := cL aNx
noncomputable abbrev aTj : Code := cL c71
noncomputable abbrev r71 : K := aQ CF Tryz.f71
noncomputable def D71 (r : RT) (n : Nat) (c : Code) (X : Nat → K) (k : K) : K := aP CF r 19 n c X r71 k
theorem dLt : D71 r n dZb x0 r71 = (K0 (eG r n)) :=
 (by kernel_rfl)
theorem dTk : D71 r n dXw (xs x0 0 (K0 (eG r n))) (K0 (eG r n)) = (K2 (bDa r n) 1 13) :=
 (by kernel_rfl)
theorem cUk : D71 r n aPm (xs x0 0 (K0 (eG r n))) (K0 (eG r n)) = D71 r n dFr (xs x0 0 (K0 (eG r n))) (K2 (bDa r n) 1 13) :=
 congrArg (fun k => D71 r n dFr (xs x0 0 (K0 (eG r n))) k) (dTk r n)
theorem dIq : D71 r n aPm (xs x0 0 (K0 (eG r n))) (K0 (eG r n)) = (K2 (dFl r n) 1 4) :=
 (cUk r n).trans
 ((by kernel_rfl))
theorem dQy : D71 r n aOv (xs x0 0 (K0 (eG r n))) (K0 (eG r n)) = (K3 (qL r n) 1 4 5) :=
 (by kernel_rfl : D71 r n aOv (xs x0 0 (K0 (eG r n))) (K0 (eG r n)) = (fun (env : aZ) (h : Hp) => aU (opr env (cC aOv)) (D71 r n dMm (xs x0 0 (K0 (eG r n))) (K0 (eG r n)) env h) (D71 r n aPm (xs x0 0 (K0 (eG r n))) (K0 (eG r n)) env h))).trans (by rw [dIq r n]; kernel_rfl)
theorem dDq : D71 r n aZx (xs x0 0 (K0 (eG r n))) (K0 (eG r n)) = D71 r n bOr (xs x0 0 (K0 (eG r n))) (K3 (qL r n) 1 4 5) :=
 congrArg (fun k => D71 r n bOr (xs x0 0 (K0 (eG r n))) k) (dQy r n)
theorem dUr : D71 r n bPf x0 (K0 (eG r n)) = (K2 (bTc r n) 1 4) :=
 (by kernel_rfl : D71 r n bPf x0 (K0 (eG r n)) = D71 r n aZx (xs x0 0 (K0 (eG r n))) (K0 (eG r n))).trans
 ((dDq r n).trans
 ((by kernel_rfl)))
theorem dDd : D71 r n bBm x0 r71 = D71 r n aNx x0 (K0 (eG r n)) :=
 congrArg (fun k => D71 r n aNx x0 k) (dLt r n)
theorem cVu : D71 r n aNx x0 (K0 (eG r n)) = D71 r n cHw x0 (K2 (bTc r n) 1 4) :=
 congrArg (fun k => D71 r n cHw x0 k) (dUr r n)
theorem dOv : D71 r n bBm x0 r71 = (K1 (aOk r n) 1) :=
 (dDd r n).trans
 ((cVu r n).trans
 ((by kernel_rfl)))
theorem eFn : D71 r n c71 x0 r71 = D71 r n aTj x0 (K1 (aOk r n) 1) :=
 congrArg (fun k => D71 r n aTj x0 k) (dOv r n)
theorem dWn (q0 : TT1) : D71 r n aTj x0 (K1 q0 1) = fun (env : aZ) (h : Hp) =>
 bnd (bQ (env 0) h) fun v1 h1 =>
  q0 v1 h1 := by kernel_rfl
theorem dLu : (fun (env : aZ) (h : Hp) =>
 bnd (bQ (env 0) h) fun v1 h1 =>
  aOk r n v1 h1) = (K1 (s71 r n) 0) := by kernel_rfl
theorem eHx : D71 r n c71 x0 r71 = (K1 (s71 r n) 0) :=
 (eFn r n).trans
 ((dWn r n (aOk r n)).trans (dLu r n))
theorem eEa : aG CF r n 71 args h = s71 r n (aR args 0) h :=
 (by kernel_rfl : aG CF r n 71 args h = D71 r n c71 x0 r71 (aI args) h).trans ((congrFun (congrFun (eHx r n) (aI args)) h).trans (by kernel_rfl))
noncomputable def s72 (r : RT) (n : Nat) (x0 : DV) (h0 : Hp) : aH :=
 bnd (bQ x0 h0) fun v1 h1 =>
 bnd (aB 0 v1 h1) fun v2 h2 =>
 bnd (aA v2 h2) fun v3 h3 =>
 bnd (aD .neq v3 (aF 16) h3) fun v4 h4 =>
 bnd (gD v4 true (aB 0 v1 h4) h4) fun v5 h5 =>
 bnd (gD v4 true (aA v5 h5) h5) fun v6 h6 =>
 bnd (gD v4 true (aD .neq v6 (aF 17) h6) h6) fun v7 h7 =>
 bnd (aN v4 v7 (.b false) h7) fun v8 h8 =>
 aU v8 (
 some ((.i .i64 (Int.negSucc 0)), h8)) (
 bnd (aB 1 v1 h8) fun v9 h9 =>
 bnd (aA v9 h9) fun v10 h10 =>
 bnd (aB 2 v1 h10) fun v11 h11 =>
 bnd (aA v11 h11) fun v12 h12 =>
 bnd (aD .mul (aF 256) v12 h12) fun v13 h13 =>
 bnd (aD .add v10 v13 h13) fun v14 h14 =>
 some (v14, h14))
noncomputable abbrev c72 : Code := cf Tryz.f72
noncomputable abbrev r72 : K := aQ CF Tryz.f72
noncomputable def D72 (r : RT) (n : Nat) (c : Code) (X : Nat → K) (k : K) : K := aP CF r 17 n c X r72 k
theorem eKq : D72 r n c72 x0 r72 = (K1 (s72 r n) 0) :=
 (by kernel_rfl)
theorem eBb : aG CF r n 72 args h = s72 r n (aR args 0) h :=
 (by kernel_rfl : aG CF r n 72 args h = D72 r n c72 x0 r72 (aI args) h).trans ((congrFun (congrFun (eKq r n) (aI args)) h).trans (by kernel_rfl))
end Go.Dd

namespace Go.Dd
open Go.Proofs
variable (r : RT) (n : Nat) (args : List DV) (h : Hp)
noncomputable def hY (r : RT) (n : Nat) (h0 : Hp) : aH :=
 some ((.i .i64 (Int.negSucc 0)), h0)
noncomputable def bVq (r : RT) (n : Nat) (kk4 : bZ) (x0 x1 x5 : DV) (h0 : Hp) : aH :=
 bnd (aX x0 h0) fun v1 h1 =>
 bnd (aB 0 v1 h1) fun v2 h2 =>
 bnd (aA v2 h2) fun v3 h3 =>
 bnd (bJ v3 h3) fun v4 h4 =>
 bnd (aD .lss x5 v4 h4) fun v5 h5 =>
 aU v5 (
 bnd (aX x0 h5) fun v6 h6 =>
 bnd (aB 0 v6 h6) fun v7 h7 =>
 bnd (aA v7 h7) fun v8 h8 =>
 bnd (aC 5 v8 x5 h8) fun v9 h9 =>
 bnd (aB 0 v9 h9) fun v10 h10 =>
 bnd (aA v10 h10) fun v11 h11 =>
 bnd (fK .eql v11 x1 h11) fun v12 h12 =>
 aU v12 (
 some (x5, h12)) (
 bnd (aD .add x5 (aF 1) h12) fun v13 h13 =>
    kk4 x0 x1 v13 h13)) (
      hY r n h5)
noncomputable def aLw (r : RT) (n : Nat) (m : Nat) : bZ :=
 Nat.rec (motive := fun _ => bZ) (fun _ _ _ _ => none) (fun _ ih => bVq r n ih) m
noncomputable def dFd (r : RT) (n : Nat) : bZ := aLw r n n
noncomputable def bTw (r : RT) (n : Nat) (x0 x1 x5 : DV) (h0 : Hp) : aH :=
 dFd r n x0 x1 x5 h0
noncomputable def cGk (r : RT) (n : Nat) (x0 x1 : DV) (h0 : Hp) : aH :=
 bTw r n x0 x1 (aF 0) h0
noncomputable def s82 (r : RT) (n : Nat) (x0 x1 : DV) (h0 : Hp) : aH :=
 cGk r n x0 x1 h0
noncomputable abbrev c82 : Code := cf Tryz.f82
noncomputable abbrev aZv : Code := cR c82
noncomputable abbrev dYr : Code := cR aZv
noncomputable abbrev aPh : Code := cL aZv
noncomputable abbrev bXv : Code := cR aPh
noncomputable abbrev bAx : Code := cL bXv
noncomputable abbrev xT : Code := cL bAx
noncomputable abbrev dFj : Code := cL aPh
noncomputable abbrev dFp : Code := cL c82
noncomputable abbrev r82 : K := aQ CF Tryz.f82
noncomputable def D82 (r : RT) (n : Nat) (c : Code) (X : Nat → K) (k : K) : K := aP CF r 26 n c X r82 k
theorem dSc : D82 r n dYr x0 r82 = (K0 (hY r n)) :=
 (by kernel_rfl)
theorem dDl (kk4 : bZ) : D82 r n xT (xs x0 0 (K0 (hY r n))) (K3 kk4 0 1 5) = (K3 (bVq r n kk4) 0 1 5) :=
 (by kernel_rfl)
theorem cUg (m : Nat) : aK (fun kk => D82 r n xT (xs x0 0 (K0 (hY r n))) kk) m = (K3 (aLw r n m) 0 1 5) := by
 induction m with
 | zero => exact (by kernel_rfl : aK (fun kk => D82 r n xT (xs x0 0 (K0 (hY r n))) kk) 0 = (K3 (aLw r n 0) 0 1 5))
 | succ m ih =>
  refine (by kernel_rfl : aK (fun kk => D82 r n xT (xs x0 0 (K0 (hY r n))) kk) (m + 1) = D82 r n xT (xs x0 0 (K0 (hY r n))) (aK (fun kk => D82 r n xT (xs x0 0 (K0 (hY r n))) kk) m)).trans ?_
  rw [ih]
  exact (dDl r n (aLw r n m)).trans (by kernel_rfl)
theorem dRh : D82 r n bAx (xs x0 0 (K0 (hY r n))) (K0 (hY r n)) = (K3 (dFd r n) 0 1 5) :=
 (by kernel_rfl : D82 r n bAx (xs x0 0 (K0 (hY r n))) (K0 (hY r n)) = aK (fun kk => D82 r n xT (xs x0 0 (K0 (hY r n))) kk) n).trans ((cUg r n n).trans (by kernel_rfl))
theorem dKh : D82 r n bXv x0 (K0 (hY r n)) = (K3 (bTw r n) 0 1 5) :=
 (by kernel_rfl : D82 r n bXv x0 (K0 (hY r n)) = D82 r n bAx (xs x0 0 (K0 (hY r n))) (K0 (hY r n))).trans
 ((dRh r n).trans (by kernel_rfl))
theorem dDs : D82 r n aZv x0 r82 = D82 r n aPh x0 (K0 (hY r n)) :=
 congrArg (fun k => D82 r n aPh x0 k) (dSc r n)
theorem cTf : D82 r n aPh x0 (K0 (hY r n)) = D82 r n dFj x0 (K3 (bTw r n) 0 1 5) :=
 congrArg (fun k => D82 r n dFj x0 k) (dKh r n)
theorem dOk : D82 r n aZv x0 r82 = (K2 (cGk r n) 0 1) :=
 (dDs r n).trans
 ((cTf r n).trans
 ((by kernel_rfl)))
theorem eCl : D82 r n c82 x0 r82 = D82 r n dFp x0 (K2 (cGk r n) 0 1) :=
 congrArg (fun k => D82 r n dFp x0 k) (dOk r n)
theorem eLu : D82 r n c82 x0 r82 = (K2 (s82 r n) 0 1) :=
 (eCl r n).trans
 ((by kernel_rfl))
theorem eEc : aG CF r n 82 args h = s82 r n (aR args 0) (aR args 1) h :=
 (by kernel_rfl : aG CF r n 82 args h = D82 r n c82 x0 r82 (aI args) h).trans ((congrFun (congrFun (eLu r n) (aI args)) h).trans (by kernel_rfl))
noncomputable def jA (r : RT) (n : Nat) (x5 : DV) (h0 : Hp) : aH :=
 some (x5, h0)
noncomputable def cIi (r : RT) (n : Nat) (kk4 : bZ) (x0 x1 x5 : DV) (h0 : Hp) : aH :=
 bnd (aD .geq x1 (aF 0) h0) fun v1 h1 =>
 aU v1 (
 bnd (aX x0 h1) fun v2 h2 =>
 bnd (aB 0 v2 h2) fun v3 h3 =>
 bnd (aA v3 h3) fun v4 h4 =>
 bnd (aC 5 v4 x1 h4) fun v5 h5 =>
 bnd (aB 2 v5 h5) fun v6 h6 =>
 bnd (aA v6 h6) fun v7 h7 =>
 bnd (aW 1 16 .l0 v7 h7) fun v8 h8 =>
 bnd (aW 1 16 v8 x5 h8) fun v9 h9 =>
 bnd (aX x0 h9) fun v10 h10 =>
 bnd (aB 0 v10 h10) fun v11 h11 =>
 bnd (aA v11 h11) fun v12 h12 =>
 bnd (aC 5 v12 x1 h12) fun v13 h13 =>
 bnd (aB 1 v13 h13) fun v14 h14 =>
 bnd (aA v14 h14) fun v15 h15 =>
      kk4 x0 v15 v9 h15) (
      jA r n x5 h1)
noncomputable def aHu (r : RT) (n : Nat) (m : Nat) : bZ :=
 Nat.rec (motive := fun _ => bZ) (fun _ _ _ _ => none) (fun _ ih => cIi r n ih) m
noncomputable def dFa (r : RT) (n : Nat) : bZ := aHu r n n
noncomputable def cHy (r : RT) (n : Nat) (x0 x1 x5 : DV) (h0 : Hp) : aH :=
 dFa r n x0 x1 x5 h0
noncomputable def cIf (r : RT) (n : Nat) (x0 x1 : DV) (h0 : Hp) : aH :=
 cHy r n x0 x1 .l0 h0
noncomputable def s83 (r : RT) (n : Nat) (x0 x1 : DV) (h0 : Hp) : aH :=
 cIf r n x0 x1 h0
noncomputable abbrev c83 : Code := cf Tryz.f83
noncomputable abbrev bDt : Code := cR c83
noncomputable abbrev bDl : Code := cR bDt
noncomputable abbrev eCb : Code := cR bDl
noncomputable abbrev bCr : Code := cL bDl
noncomputable abbrev bAt : Code := cL bCr
noncomputable abbrev aAd : Code := cL bAt
noncomputable abbrev dFn : Code := cL bDt
noncomputable abbrev dFk : Code := cL c83
noncomputable abbrev r83 : K := aQ CF Tryz.f83
noncomputable def D83 (r : RT) (n : Nat) (c : Code) (X : Nat → K) (k : K) : K := aP CF r 32 n c X r83 k
theorem dRt : D83 r n eCb x0 r83 = (K1 (jA r n) 5) :=
 (by kernel_rfl)
theorem dAo (kk4 : bZ) : D83 r n aAd (xs x0 0 (K1 (jA r n) 5)) (K3 kk4 0 1 5) = (K3 (cIi r n kk4) 0 1 5) :=
 (by kernel_rfl)
theorem cPw (m : Nat) : aK (fun kk => D83 r n aAd (xs x0 0 (K1 (jA r n) 5)) kk) m = (K3 (aHu r n m) 0 1 5) := by
 induction m with
 | zero => exact (by kernel_rfl : aK (fun kk => D83 r n aAd (xs x0 0 (K1 (jA r n) 5)) kk) 0 = (K3 (aHu r n 0) 0 1 5))
 | succ m ih =>
  refine (by kernel_rfl : aK (fun kk => D83 r n aAd (xs x0 0 (K1 (jA r n) 5)) kk) (m + 1) = D83 r n aAd (xs x0 0 (K1 (jA r n) 5)) (aK (fun kk => D83 r n aAd (xs x0 0 (K1 (jA r n) 5)) kk) m)).trans ?_
  rw [ih]
  exact (dAo r n (aHu r n m)).trans (by kernel_rfl)
theorem dUd : D83 r n bAt (xs x0 0 (K1 (jA r n) 5)) (K1 (jA r n) 5) = (K3 (dFa r n) 0 1 5) :=
 (by kernel_rfl : D83 r n bAt (xs x0 0 (K1 (jA r n) 5)) (K1 (jA r n) 5) = aK (fun kk => D83 r n aAd (xs x0 0 (K1 (jA r n) 5)) kk) n).trans ((cPw r n n).trans (by kernel_rfl))
theorem cTe : D83 r n bDl x0 r83 = D83 r n bCr x0 (K1 (jA r n) 5) :=
 congrArg (fun k => D83 r n bCr x0 k) (dRt r n)
theorem dOo : D83 r n bDl x0 r83 = (K3 (cHy r n) 0 1 5) :=
 (cTe r n).trans
 ((by kernel_rfl : D83 r n bCr x0 (K1 (jA r n) 5) = D83 r n bAt (xs x0 0 (K1 (jA r n) 5)) (K1 (jA r n) 5)).trans
 ((dUd r n).trans (by kernel_rfl)))
theorem cZm : D83 r n bDt x0 r83 = D83 r n dFn x0 (K3 (cHy r n) 0 1 5) :=
 congrArg (fun k => D83 r n dFn x0 k) (dOo r n)
theorem dRc : D83 r n bDt x0 r83 = (K2 (cIf r n) 0 1) :=
 (cZm r n).trans
 ((by kernel_rfl))
theorem eAb : D83 r n c83 x0 r83 = D83 r n dFk x0 (K2 (cIf r n) 0 1) :=
 congrArg (fun k => D83 r n dFk x0 k) (dRc r n)
theorem eHl : D83 r n c83 x0 r83 = (K2 (s83 r n) 0 1) :=
 (eAb r n).trans
 ((by kernel_rfl))
theorem eDv : aG CF r n 83 args h = s83 r n (aR args 0) (aR args 1) h :=
 (by kernel_rfl : aG CF r n 83 args h = D83 r n c83 x0 r83 (aI args) h).trans ((congrFun (congrFun (eHl r n) (aI args)) h).trans (by kernel_rfl))
noncomputable def s84 (r : RT) (n : Nat) (x0 : DV) (h0 : Hp) : aH :=
 bnd (fK .eql x0 (.s [115, 101, 108, 102]) h0) fun v1 h1 =>
 bnd (gD v1 false (some (x0, h1)) h1) fun v2 h2 =>
 bnd (gD v1 false (fK .eql v2 (.s [115, 117, 112, 101, 114]) h2) h2) fun v3 h3 =>
 bnd (aN v1 (.b true) v3 h3) fun v4 h4 =>
 bnd (gD v4 false (some (x0, h4)) h4) fun v5 h5 =>
 bnd (gD v4 false (fK .eql v5 (.s [110, 105, 108]) h5) h5) fun v6 h6 =>
 bnd (aN v4 (.b true) v6 h6) fun v7 h7 =>
 bnd (gD v7 false (some (x0, h7)) h7) fun v8 h8 =>
 bnd (gD v7 false (fK .eql v8 (.s [116, 114, 117, 101]) h8) h8) fun v9 h9 =>
 bnd (aN v7 (.b true) v9 h9) fun v10 h10 =>
 bnd (gD v10 false (some (x0, h10)) h10) fun v11 h11 =>
 bnd (gD v10 false (fK .eql v11 (.s [102, 97, 108, 115, 101]) h11) h11) fun v12 h12 =>
 bnd (aN v10 (.b true) v12 h12) fun v13 h13 =>
 bnd (gD v13 false (some (x0, h13)) h13) fun v14 h14 =>
 bnd (gD v13 false (fK .eql v14 (.s [116, 104, 105, 115, 67, 111, 110, 116, 101, 120, 116]) h14) h14) fun v15 h15 =>
 bnd (aN v13 (.b true) v15 h15) fun v16 h16 =>
 some (v16, h16)
noncomputable abbrev c84 : Code := cf Tryz.f84
noncomputable abbrev r84 : K := aQ CF Tryz.f84
noncomputable def D84 (r : RT) (n : Nat) (c : Code) (X : Nat → K) (k : K) : K := aP CF r 25 n c X r84 k
theorem eKc : D84 r n c84 x0 r84 = (K1 (s84 r n) 0) :=
 (by kernel_rfl)
theorem dWg : aG CF r n 84 args h = s84 r n (aR args 0) h :=
 (by kernel_rfl : aG CF r n 84 args h = D84 r n c84 x0 r84 (aI args) h).trans ((congrFun (congrFun (eKc r n) (aI args)) h).trans (by kernel_rfl))
noncomputable def s86 (r : RT) (n : Nat) (x0 : DV) (h0 : Hp) : aH :=
 bnd (bS tQ h0) fun v1 h1 =>
 bnd (r 120 [x0, (.f 121 [] [])] h1) fun v2 h2 =>
 bnd (aE 0 v2 h2) fun v3 h3 =>
 bnd (aE 1 v2 h3) fun v4 h4 =>
 bnd (aE 2 v2 h4) fun v5 h5 =>
 bnd (aJ 6 v1 v3 h5) fun _ h6 =>
 bnd (aL 6 v1 h6) fun v7 _ =>
 some (.t [v7, v4, v5], h6)
noncomputable abbrev c86 : Code := cf Tryz.f86
noncomputable abbrev r86 : K := aQ CF Tryz.f86
noncomputable def D86 (r : RT) (n : Nat) (c : Code) (X : Nat → K) (k : K) : K := aP CF r 10 n c X r86 k
theorem eIp : D86 r n c86 x0 r86 = (K1 (s86 r n) 0) :=
 (by kernel_rfl)
theorem dXp : aG CF r n 86 args h = s86 r n (aR args 0) h :=
 (by kernel_rfl : aG CF r n 86 args h = D86 r n c86 x0 r86 (aI args) h).trans ((congrFun (congrFun (eIp r n) (aI args)) h).trans (by kernel_rfl))
noncomputable def s87 (r : RT) (n : Nat) (x0 x1 : DV) (h0 : Hp) : aH :=
 bnd (bQ x0 h0) fun v1 h1 =>
 bnd (bS [(.s []), (aF 0), (aF 0), (aF 0), .l0, .l0] h1) fun v2 h2 =>
 bnd (aL 6 v1 h2) fun v3 h3 =>
 bnd (r 122 [v3, x1, (.b false)] h3) fun v4 h4 =>
 bnd (aE 0 v4 h4) fun v5 h5 =>
 bnd (aE 1 v4 h5) fun v6 h6 =>
 bnd (aE 2 v4 h6) fun v7 h7 =>
 bnd (aJ 6 v2 v5 h7) fun _ h8 =>
 bnd (aL 6 v2 h8) fun v9 _ =>
 some (.t [v9, v6, v7], h8)
noncomputable abbrev c87 : Code := cf Tryz.f87
noncomputable abbrev r87 : K := aQ CF Tryz.f87
noncomputable def D87 (r : RT) (n : Nat) (c : Code) (X : Nat → K) (k : K) : K := aP CF r 13 n c X r87 k
theorem eHd : D87 r n c87 x0 r87 = (K2 (s87 r n) 0 1) :=
 (by kernel_rfl)
theorem dZp : aG CF r n 87 args h = s87 r n (aR args 0) (aR args 1) h :=
 (by kernel_rfl : aG CF r n 87 args h = D87 r n c87 x0 r87 (aI args) h).trans ((congrFun (congrFun (eHd r n) (aI args)) h).trans (by kernel_rfl))
noncomputable def s88 (r : RT) (n : Nat) (x0 x1 x2 : DV) (h0 : Hp) : aH :=
 bnd (bQ x2 h0) fun v1 h1 =>
 bnd (aL 6 v1 h1) fun v2 h2 =>
 bnd (r 123 [x0, x1, v2] h2) fun v3 h3 =>
 bnd (aE 0 v3 h3) fun v4 h4 =>
 bnd (aE 1 v3 h4) fun v5 h5 =>
 bnd (aD .neq v5 (aF 0) h5) fun v6 h6 =>
 aU v6 (
 some (.t [(aF 0), v5], h6)) (
 bnd (r 53 [x0, v4, (aF 0)] h6) fun v7 h7 =>
 bnd (r 124 [x0, x1, v7, v4] h7) fun v8 h8 =>
 bnd (aD .neq v8 (aF 0) h8) fun v9 h9 =>
 aU v9 (
 some (.t [(aF 0), v8], h9)) (
 some (.t [v4, (aF 0)], h9)))
noncomputable abbrev c88 : Code := cf Tryz.f88
noncomputable abbrev r88 : K := aQ CF Tryz.f88
noncomputable def D88 (r : RT) (n : Nat) (c : Code) (X : Nat → K) (k : K) : K := aP CF r 32 n c X r88 k
theorem eJe : D88 r n c88 x0 r88 = (K3 (s88 r n) 0 1 2) :=
 (by kernel_rfl)
theorem dXl : aG CF r n 88 args h = s88 r n (aR args 0) (aR args 1) (aR args 2) h :=
 (by kernel_rfl : aG CF r n 88 args h = D88 r n c88 x0 r88 (aI args) h).trans ((congrFun (congrFun (eJe r n) (aI args)) h).trans (by kernel_rfl))
noncomputable def wX (r : RT) (n : Nat) (x0 x1 x9 : DV) (h0 : Hp) : aH :=
 bnd (aX x0 h0) fun v1 h1 =>
 bnd (aB 0 v1 h1) fun v2 h2 =>
 bnd (aA v2 h2) fun v3 h3 =>
 bnd (aC 5 v3 x1 h3) fun v4 h4 =>
 bnd (aB 4 v4 h4) fun v5 h5 =>
 bnd (aJ 1 v5 x9 h5) fun _ h6 =>
 some ((aF 0), h6)
noncomputable def dW (r : RT) (n : Nat) (x0 x1 x5 x9 x10 x11 : DV) (h0 : Hp) : aH :=
 bnd (gP .not x10 h0) fun v1 h1 =>
 aU v1 (
 bnd (aL 6 x5 h1) fun v2 h2 =>
 bnd (aO [(.s []), (aF 0), (aF 0), (aF 0), .l0, .l0] 1 [(0, 6, v2)] h2) fun v3 h3 =>
 bnd (aW 6 88 v3 x11 h3) fun v4 h4 =>
  wX r n x0 x1 v4 h4) (
  wX r n x0 x1 x9 h1)
noncomputable def oU (r : RT) (n : Nat) (kk10 : TT7) (x0 x1 x5 x9 x10 x11 x12 : DV) (h0 : Hp) : aH :=
 bnd (aD .add x12 (aF 1) h0) fun v1 h1 =>
  kk10 x0 x1 x5 x9 x10 x11 v1 h1
noncomputable def aDx (r : RT) (n : Nat) (kk10 : TT7) (x0 x1 x5 x9 x10 x11 x12 : DV) (h0 : Hp) : aH :=
 bnd (aC 6 x11 x12 h0) fun v1 h1 =>
 bnd (aB 0 v1 h1) fun v2 h2 =>
 bnd (aA v2 h2) fun v3 h3 =>
 bnd (aB 0 x5 h3) fun v4 h4 =>
 bnd (aA v4 h4) fun v5 h5 =>
 bnd (fK .eql v3 v5 h5) fun v6 h6 =>
 aU v6 (
 bnd (aL 6 x5 h6) fun v7 h7 =>
 bnd (aO [(.s []), (aF 0), (aF 0), (aF 0), .l0, .l0] 1 [(0, 6, v7)] h7) fun v8 h8 =>
 bnd (aW 6 88 x9 v8 h8) fun v9 h9 =>
  oU r n kk10 x0 x1 x5 v9 (.b true) x11 x12 h9) (
 bnd (aC 6 x11 x12 h6) fun v10 h10 =>
 bnd (aL 6 v10 h10) fun v11 h11 =>
 bnd (aO [(.s []), (aF 0), (aF 0), (aF 0), .l0, .l0] 1 [(0, 6, v11)] h11) fun v12 h12 =>
 bnd (aW 6 88 x9 v12 h12) fun v13 h13 =>
  oU r n kk10 x0 x1 x5 v13 x10 x11 x12 h13)
noncomputable def bFl (r : RT) (n : Nat) (kk10 : TT7) (x0 x1 x5 x9 x10 x11 x12 : DV) (h0 : Hp) : aH :=
 bnd (bJ x11 h0) fun v1 h1 =>
 bnd (aD .lss x12 v1 h1) fun v2 h2 =>
 aU v2 (
   aDx r n kk10 x0 x1 x5 x9 x10 x11 x12 h2) (
   dW r n x0 x1 x5 x9 x10 x11 h2)
noncomputable def vD (r : RT) (n : Nat) (m : Nat) : TT7 :=
 Nat.rec (motive := fun _ => TT7) (fun _ _ _ _ _ _ _ _ => none) (fun _ ih => bFl r n ih) m
noncomputable def cFr (r : RT) (n : Nat) : TT7 := vD r n n
noncomputable def cBq (r : RT) (n : Nat) (x0 x1 x5 x9 x10 x11 x12 : DV) (h0 : Hp) : aH :=
 cFr r n x0 x1 x5 x9 x10 x11 x12 h0
noncomputable def cHr (r : RT) (n : Nat) (x0 x1 x5 x9 x10 x11 : DV) (h0 : Hp) : aH :=
 cBq r n x0 x1 x5 x9 x10 x11 (aF 0) h0
noncomputable def bOd (r : RT) (n : Nat) (x0 x1 x5 x9 x10 : DV) (h0 : Hp) : aH :=
 bnd (aX x0 h0) fun v1 h1 =>
 bnd (aB 0 v1 h1) fun v2 h2 =>
 bnd (aA v2 h2) fun v3 h3 =>
 bnd (aC 5 v3 x1 h3) fun v4 h4 =>
 bnd (aB 4 v4 h4) fun v5 h5 =>
 bnd (aA v5 h5) fun v6 h6 =>
  cHr r n x0 x1 x5 x9 x10 v6 h6
noncomputable def cAy (r : RT) (n : Nat) (x0 x1 x5 x9 : DV) (h0 : Hp) : aH :=
 bOd r n x0 x1 x5 x9 (.b false) h0
noncomputable def cEr (r : RT) (n : Nat) (x0 x1 x5 : DV) (h0 : Hp) : aH :=
 cAy r n x0 x1 x5 .l0 h0
noncomputable def bZs (r : RT) (n : Nat) (x0 x1 x5 x8 : DV) (h0 : Hp) : aH :=
 bnd (aD .neq x8 (aF 0) h0) fun v1 h1 =>
 aU v1 (
 some (x8, h1)) (
  cEr r n x0 x1 x5 h1)
noncomputable def aQg (r : RT) (n : Nat) (x0 x1 x5 : DV) (h0 : Hp) : aH :=
 bnd (aL 6 x5 h0) fun v1 h1 =>
 bnd (r 83 [x0, x1] h1) fun v2 h2 =>
 cnd (bR (aL 6 x5 h2) v1 && true) (
 bnd (bJ v2 h2) fun v3 h3 =>
 bnd (r 25 [v1, v3] h3) fun v4 h4 =>
 bnd (aE 0 v4 h4) fun v5 h5 =>
 bnd (aE 1 v4 h5) fun v6 h6 =>
  bZs r n x0 x1 x5 v6 h6)
noncomputable def s91 (r : RT) (n : Nat) (x0 x1 x2 : DV) (h0 : Hp) : aH :=
 bnd (bQ x2 h0) fun v1 h1 =>
  aQg r n x0 x1 v1 h1
noncomputable abbrev c91 : Code := cf Tryz.f91
noncomputable abbrev bHv : Code := cR c91
noncomputable abbrev bAc : Code := cR bHv
noncomputable abbrev bGm : Code := cR bAc
noncomputable abbrev bDj : Code := cR bGm
noncomputable abbrev bAg : Code := cR bDj
noncomputable abbrev bCx : Code := cR bAg
noncomputable abbrev aZz : Code := cR bCx
noncomputable abbrev dWt : Code := cR aZz
noncomputable abbrev cKw : Code := cL aZz
noncomputable abbrev xG : Code := cL bCx
noncomputable abbrev aXn : Code := cR xG
noncomputable abbrev aCs : Code := cL aXn
noncomputable abbrev kN : Code := cL aCs
noncomputable abbrev aJj : Code := cR kN
noncomputable abbrev dRf : Code := cR aJj
noncomputable abbrev aXg : Code := cL aJj
noncomputable abbrev cFc : Code := cL kN
noncomputable abbrev cKl : Code := cL xG
noncomputable abbrev cAp : Code := cL bAg
noncomputable abbrev bYl : Code := cL bDj
noncomputable abbrev bRd : Code := cL bGm
noncomputable abbrev cLs : Code := cL bAc
noncomputable abbrev cBb : Code := cL bHv
noncomputable abbrev aRn : Code := cL c91
noncomputable abbrev r91 : K := aQ CF Tryz.f91
noncomputable def D91 (r : RT) (n : Nat) (c : Code) (X : Nat → K) (k : K) : K := aP CF r 73 n c X r91 k
theorem dIz : D91 r n dWt x0 r91 = (K3 (wX r n) 0 1 9) :=
 (by kernel_rfl)
theorem dEr : D91 r n aZz x0 r91 = D91 r n cKw x0 (K3 (wX r n) 0 1 9) :=
 congrArg (fun k => D91 r n cKw x0 k) (dIz r n)
theorem cUb (q0 : bZ) : D91 r n cKw x0 (K3 q0 0 1 9) = fun (env : aZ) (h : Hp) =>
 bnd (gP .not (env 10) h) fun v1 h1 =>
 aU v1 (
 bnd (aL 6 (env 5) h1) fun v2 h2 =>
 bnd (aO [(.s []), (aF 0), (aF 0), (aF 0), .l0, .l0] 1 [(0, 6, v2)] h2) fun v3 h3 =>
 bnd (aW 6 88 v3 (env 11) h3) fun v4 h4 =>
      q0 (env 0) (env 1) v4 h4) (
      q0 (env 0) (env 1) (env 9) h1) := by kernel_rfl
theorem bSw : (fun (env : aZ) (h : Hp) =>
 bnd (gP .not (env 10) h) fun v1 h1 =>
 aU v1 (
 bnd (aL 6 (env 5) h1) fun v2 h2 =>
 bnd (aO [(.s []), (aF 0), (aF 0), (aF 0), .l0, .l0] 1 [(0, 6, v2)] h2) fun v3 h3 =>
 bnd (aW 6 88 v3 (env 11) h3) fun v4 h4 =>
      wX r n (env 0) (env 1) v4 h4) (
      wX r n (env 0) (env 1) (env 9) h1)) = (K6 (dW r n) 0 1 5 9 10 11) := by kernel_rfl
theorem dMl : D91 r n aZz x0 r91 = (K6 (dW r n) 0 1 5 9 10 11) :=
 (dEr r n).trans
 ((cUb r n (wX r n)).trans (bSw r n))
theorem cUq (kk10 : TT7) : D91 r n dRf (xs x0 0 (K6 (dW r n) 0 1 5 9 10 11)) (K7 kk10 0 1 5 9 10 11 12) = (K7 (oU r n kk10) 0 1 5 9 10 11 12) :=
 (by kernel_rfl)
theorem cJy (kk10 : TT7) : D91 r n aJj (xs x0 0 (K6 (dW r n) 0 1 5 9 10 11)) (K7 kk10 0 1 5 9 10 11 12) = D91 r n aXg (xs x0 0 (K6 (dW r n) 0 1 5 9 10 11)) (K7 (oU r n kk10) 0 1 5 9 10 11 12) :=
 congrArg (fun k => D91 r n aXg (xs x0 0 (K6 (dW r n) 0 1 5 9 10 11)) k) (cUq r n kk10)
theorem bWi (kk10 : TT7) (q0 : TT7) (q1 : gX) : D91 r n aXg (xs x0 0 (K6 q1 0 1 5 9 10 11)) (K7 q0 0 1 5 9 10 11 12) = fun (env : aZ) (h : Hp) =>
 bnd (aC 6 (env 11) (env 12) h) fun v1 h1 =>
 bnd (aB 0 v1 h1) fun v2 h2 =>
 bnd (aA v2 h2) fun v3 h3 =>
 bnd (aB 0 (env 5) h3) fun v4 h4 =>
 bnd (aA v4 h4) fun v5 h5 =>
 bnd (fK .eql v3 v5 h5) fun v6 h6 =>
 aU v6 (
 bnd (aL 6 (env 5) h6) fun v7 h7 =>
 bnd (aO [(.s []), (aF 0), (aF 0), (aF 0), .l0, .l0] 1 [(0, 6, v7)] h7) fun v8 h8 =>
 bnd (aW 6 88 (env 9) v8 h8) fun v9 h9 =>
      q0 (env 0) (env 1) (env 5) v9 (.b true) (env 11) (env 12) h9) (
 bnd (aC 6 (env 11) (env 12) h6) fun v10 h10 =>
 bnd (aL 6 v10 h10) fun v11 h11 =>
 bnd (aO [(.s []), (aF 0), (aF 0), (aF 0), .l0, .l0] 1 [(0, 6, v11)] h11) fun v12 h12 =>
 bnd (aW 6 88 (env 9) v12 h12) fun v13 h13 =>
      q0 (env 0) (env 1) (env 5) v13 (env 10) (env 11) (env 12) h13) := by kernel_rfl
theorem bMs (kk10 : TT7) : (fun (env : aZ) (h : Hp) =>
 bnd (aC 6 (env 11) (env 12) h) fun v1 h1 =>
 bnd (aB 0 v1 h1) fun v2 h2 =>
 bnd (aA v2 h2) fun v3 h3 =>
 bnd (aB 0 (env 5) h3) fun v4 h4 =>
 bnd (aA v4 h4) fun v5 h5 =>
 bnd (fK .eql v3 v5 h5) fun v6 h6 =>
 aU v6 (
 bnd (aL 6 (env 5) h6) fun v7 h7 =>
 bnd (aO [(.s []), (aF 0), (aF 0), (aF 0), .l0, .l0] 1 [(0, 6, v7)] h7) fun v8 h8 =>
 bnd (aW 6 88 (env 9) v8 h8) fun v9 h9 =>
      oU r n kk10 (env 0) (env 1) (env 5) v9 (.b true) (env 11) (env 12) h9) (
 bnd (aC 6 (env 11) (env 12) h6) fun v10 h10 =>
 bnd (aL 6 v10 h10) fun v11 h11 =>
 bnd (aO [(.s []), (aF 0), (aF 0), (aF 0), .l0, .l0] 1 [(0, 6, v11)] h11) fun v12 h12 =>
 bnd (aW 6 88 (env 9) v12 h12) fun v13 h13 =>
      oU r n kk10 (env 0) (env 1) (env 5) v13 (env 10) (env 11) (env 12) h13)) = (K7 (aDx r n kk10) 0 1 5 9 10 11 12) := by kernel_rfl
theorem cPb (kk10 : TT7) : D91 r n aJj (xs x0 0 (K6 (dW r n) 0 1 5 9 10 11)) (K7 kk10 0 1 5 9 10 11 12) = (K7 (aDx r n kk10) 0 1 5 9 10 11 12) :=
 (cJy r n kk10).trans
 ((bWi r n kk10 (oU r n kk10) (dW r n)).trans (bMs r n kk10))
theorem bSr (kk10 : TT7) : D91 r n kN (xs x0 0 (K6 (dW r n) 0 1 5 9 10 11)) (K7 kk10 0 1 5 9 10 11 12) = D91 r n cFc (xs x0 0 (K6 (dW r n) 0 1 5 9 10 11)) (K7 (aDx r n kk10) 0 1 5 9 10 11 12) :=
 congrArg (fun k => D91 r n cFc (xs x0 0 (K6 (dW r n) 0 1 5 9 10 11)) k) (cPb r n kk10)
theorem cAb (kk10 : TT7) : D91 r n kN (xs x0 0 (K6 (dW r n) 0 1 5 9 10 11)) (K7 kk10 0 1 5 9 10 11 12) = (K7 (bFl r n kk10) 0 1 5 9 10 11 12) :=
 (bSr r n kk10).trans
 ((by kernel_rfl))
theorem cHi (m : Nat) : aK (fun kk => D91 r n kN (xs x0 0 (K6 (dW r n) 0 1 5 9 10 11)) kk) m = (K7 (vD r n m) 0 1 5 9 10 11 12) := by
 induction m with
 | zero => exact (by kernel_rfl : aK (fun kk => D91 r n kN (xs x0 0 (K6 (dW r n) 0 1 5 9 10 11)) kk) 0 = (K7 (vD r n 0) 0 1 5 9 10 11 12))
 | succ m ih =>
  refine (by kernel_rfl : aK (fun kk => D91 r n kN (xs x0 0 (K6 (dW r n) 0 1 5 9 10 11)) kk) (m + 1) = D91 r n kN (xs x0 0 (K6 (dW r n) 0 1 5 9 10 11)) (aK (fun kk => D91 r n kN (xs x0 0 (K6 (dW r n) 0 1 5 9 10 11)) kk) m)).trans ?_
  rw [ih]
  exact (cAb r n (vD r n m)).trans (by kernel_rfl)
theorem dDz : D91 r n aCs (xs x0 0 (K6 (dW r n) 0 1 5 9 10 11)) (K6 (dW r n) 0 1 5 9 10 11) = (K7 (cFr r n) 0 1 5 9 10 11 12) :=
 (by kernel_rfl : D91 r n aCs (xs x0 0 (K6 (dW r n) 0 1 5 9 10 11)) (K6 (dW r n) 0 1 5 9 10 11) = aK (fun kk => D91 r n kN (xs x0 0 (K6 (dW r n) 0 1 5 9 10 11)) kk) n).trans ((cHi r n n).trans (by kernel_rfl))
theorem dIs : D91 r n aXn x0 (K6 (dW r n) 0 1 5 9 10 11) = (K7 (cBq r n) 0 1 5 9 10 11 12) :=
 (by kernel_rfl : D91 r n aXn x0 (K6 (dW r n) 0 1 5 9 10 11) = D91 r n aCs (xs x0 0 (K6 (dW r n) 0 1 5 9 10 11)) (K6 (dW r n) 0 1 5 9 10 11)).trans
 ((dDz r n).trans (by kernel_rfl))
theorem cZl : D91 r n bCx x0 r91 = D91 r n xG x0 (K6 (dW r n) 0 1 5 9 10 11) :=
 congrArg (fun k => D91 r n xG x0 k) (dMl r n)
theorem dBh : D91 r n xG x0 (K6 (dW r n) 0 1 5 9 10 11) = D91 r n cKl x0 (K7 (cBq r n) 0 1 5 9 10 11 12) :=
 congrArg (fun k => D91 r n cKl x0 k) (dIs r n)
theorem dMe : D91 r n bCx x0 r91 = (K6 (cHr r n) 0 1 5 9 10 11) :=
 (cZl r n).trans
 ((dBh r n).trans
 ((by kernel_rfl)))
theorem cTp : D91 r n bAg x0 r91 = D91 r n cAp x0 (K6 (cHr r n) 0 1 5 9 10 11) :=
 congrArg (fun k => D91 r n cAp x0 k) (dMe r n)
theorem dRe : D91 r n bAg x0 r91 = (K5 (bOd r n) 0 1 5 9 10) :=
 (cTp r n).trans
 ((by kernel_rfl))
theorem dBy : D91 r n bDj x0 r91 = D91 r n bYl x0 (K5 (bOd r n) 0 1 5 9 10) :=
 congrArg (fun k => D91 r n bYl x0 k) (dRe r n)
theorem dIe : D91 r n bDj x0 r91 = (K4 (cAy r n) 0 1 5 9) :=
 (dBy r n).trans
 ((by kernel_rfl))
theorem cJg : D91 r n bGm x0 r91 = D91 r n bRd x0 (K4 (cAy r n) 0 1 5 9) :=
 congrArg (fun k => D91 r n bRd x0 k) (dIe r n)
theorem dPr : D91 r n bGm x0 r91 = (K3 (cEr r n) 0 1 5) :=
 (cJg r n).trans
 ((by kernel_rfl))
theorem cHo : D91 r n bAc x0 r91 = D91 r n cLs x0 (K3 (cEr r n) 0 1 5) :=
 congrArg (fun k => D91 r n cLs x0 k) (dPr r n)
theorem dUx : D91 r n bAc x0 r91 = (K4 (bZs r n) 0 1 5 8) :=
 (cHo r n).trans
 ((by kernel_rfl))
theorem cGe : D91 r n bHv x0 r91 = D91 r n cBb x0 (K4 (bZs r n) 0 1 5 8) :=
 congrArg (fun k => D91 r n cBb x0 k) (dUx r n)
theorem dOf : D91 r n bHv x0 r91 = (K3 (aQg r n) 0 1 5) :=
 (cGe r n).trans
 ((by kernel_rfl))
theorem dGv : D91 r n c91 x0 r91 = D91 r n aRn x0 (K3 (aQg r n) 0 1 5) :=
 congrArg (fun k => D91 r n aRn x0 k) (dOf r n)
theorem dJu (q0 : bZ) : D91 r n aRn x0 (K3 q0 0 1 5) = fun (env : aZ) (h : Hp) =>
 bnd (bQ (env 2) h) fun v1 h1 =>
  q0 (env 0) (env 1) v1 h1 := by kernel_rfl
theorem cOa : (fun (env : aZ) (h : Hp) =>
 bnd (bQ (env 2) h) fun v1 h1 =>
  aQg r n (env 0) (env 1) v1 h1) = (K3 (s91 r n) 0 1 2) := by kernel_rfl
theorem eHh : D91 r n c91 x0 r91 = (K3 (s91 r n) 0 1 2) :=
 (dGv r n).trans
 ((dJu r n (aQg r n)).trans (cOa r n))
theorem eDf : aG CF r n 91 args h = s91 r n (aR args 0) (aR args 1) (aR args 2) h :=
 (by kernel_rfl : aG CF r n 91 args h = D91 r n c91 x0 r91 (aI args) h).trans ((congrFun (congrFun (eHh r n) (aI args)) h).trans (by kernel_rfl))
noncomputable def s92 (r : RT) (n : Nat) (x0 x1 : DV) (h0 : Hp) : aH :=
 bnd (r 109 [x0, x1] h0) fun v1 h1 =>
 bnd (gP .not v1 h1) fun v2 h2 =>
 aU v2 (
 some ((aF 0), h2)) (
 bnd (r 53 [x0, x1, (aF 2)] h2) fun v3 h3 =>
 bnd (mK [v3] h3) fun v4 h4 =>
 some (v4, h4))
noncomputable abbrev c92 : Code := cf Tryz.f92
noncomputable abbrev r92 : K := aQ CF Tryz.f92
noncomputable def D92 (r : RT) (n : Nat) (c : Code) (X : Nat → K) (k : K) : K := aP CF r 13 n c X r92 k
theorem eIj : D92 r n c92 x0 r92 = (K2 (s92 r n) 0 1) :=
 (by kernel_rfl)
theorem eFe : aG CF r n 92 args h = s92 r n (aR args 0) (aR args 1) h :=
 (by kernel_rfl : aG CF r n 92 args h = D92 r n c92 x0 r92 (aI args) h).trans ((congrFun (congrFun (eIj r n) (aI args)) h).trans (by kernel_rfl))
noncomputable def s93 (r : RT) (n : Nat) (x0 x1 : DV) (h0 : Hp) : aH :=
 bnd (r 109 [x0, x1] h0) fun v1 h1 =>
 bnd (gP .not v1 h1) fun v2 h2 =>
 aU v2 (
 some ((aF 0), h2)) (
 bnd (r 53 [x0, x1, (aF 1)] h2) fun v3 h3 =>
 some (v3, h3))
noncomputable abbrev c93 : Code := cf Tryz.f93
noncomputable abbrev r93 : K := aQ CF Tryz.f93
noncomputable def D93 (r : RT) (n : Nat) (c : Code) (X : Nat → K) (k : K) : K := aP CF r 12 n c X r93 k
theorem eIi : D93 r n c93 x0 r93 = (K2 (s93 r n) 0 1) :=
 (by kernel_rfl)
theorem dYj : aG CF r n 93 args h = s93 r n (aR args 0) (aR args 1) h :=
 (by kernel_rfl : aG CF r n 93 args h = D93 r n c93 x0 r93 (aI args) h).trans ((congrFun (congrFun (eIi r n) (aI args)) h).trans (by kernel_rfl))
end Go.Dd

namespace Go.Dd
open Go.Proofs
variable (r : RT) (n : Nat) (args : List DV) (h : Hp)
noncomputable def hZ (r : RT) (n : Nat) (h0 : Hp) : aH :=
 some ((.b true), h0)
noncomputable def cMs (r : RT) (n : Nat) (kk6 : bZ) (x2 x3 x6 : DV) (h0 : Hp) : aH :=
 bnd (aB 4 x2 h0) fun v1 h1 =>
 bnd (aA v1 h1) fun v2 h2 =>
 bnd (bJ v2 h2) fun v3 h3 =>
 bnd (aD .lss x6 v3 h3) fun v4 h4 =>
 aU v4 (
 bnd (aB 4 x2 h4) fun v5 h5 =>
 bnd (aA v5 h5) fun v6 h6 =>
 bnd (aC 4 v6 x6 h6) fun v7 h7 =>
 bnd (aL 4 v7 h7) fun v8 h8 =>
 bnd (aB 4 x3 h8) fun v9 h9 =>
 bnd (aA v9 h9) fun v10 h10 =>
 bnd (aC 4 v10 x6 h10) fun v11 h11 =>
 bnd (aL 4 v11 h11) fun v12 h12 =>
 bnd (r 26 [v8, v12] h12) fun v13 h13 =>
 bnd (gP .not v13 h13) fun v14 h14 =>
 aU v14 (
 some ((.b false), h14)) (
 bnd (aD .add x6 (aF 1) h14) fun v15 h15 =>
    kk6 x2 x3 v15 h15)) (
      hZ r n h4)
noncomputable def aMw (r : RT) (n : Nat) (m : Nat) : bZ :=
 Nat.rec (motive := fun _ => bZ) (fun _ _ _ _ => none) (fun _ ih => cMs r n ih) m
noncomputable def dFo (r : RT) (n : Nat) : bZ := aMw r n n
noncomputable def bTz (r : RT) (n : Nat) (x2 x3 x6 : DV) (h0 : Hp) : aH :=
 dFo r n x2 x3 x6 h0
noncomputable def cFx (r : RT) (n : Nat) (x2 x3 : DV) (h0 : Hp) : aH :=
 bTz r n x2 x3 (aF 0) h0
noncomputable def cEv (r : RT) (n : Nat) (x2 x3 x5 : DV) (h0 : Hp) : aH :=
 bnd (gP .not x5 h0) fun v1 h1 =>
 bnd (gD v1 false (aB 0 x2 h1) h1) fun v2 h2 =>
 bnd (gD v1 false (aA v2 h2) h2) fun v3 h3 =>
 bnd (gD v1 false (aB 0 x3 h3) h3) fun v4 h4 =>
 bnd (gD v1 false (aA v4 h4) h4) fun v5 h5 =>
 bnd (gD v1 false (fK .neq v3 v5 h5) h5) fun v6 h6 =>
 bnd (aN v1 (.b true) v6 h6) fun v7 h7 =>
 bnd (gD v7 false (aB 1 x2 h7) h7) fun v8 h8 =>
 bnd (gD v7 false (aA v8 h8) h8) fun v9 h9 =>
 bnd (gD v7 false (aB 1 x3 h9) h9) fun v10 h10 =>
 bnd (gD v7 false (aA v10 h10) h10) fun v11 h11 =>
 bnd (gD v7 false (aD .neq v9 v11 h11) h11) fun v12 h12 =>
 bnd (aN v7 (.b true) v12 h12) fun v13 h13 =>
 bnd (gD v13 false (aB 2 x2 h13) h13) fun v14 h14 =>
 bnd (gD v13 false (aA v14 h14) h14) fun v15 h15 =>
 bnd (gD v13 false (aB 2 x3 h15) h15) fun v16 h16 =>
 bnd (gD v13 false (aA v16 h16) h16) fun v17 h17 =>
 bnd (gD v13 false (aD .neq v15 v17 h17) h17) fun v18 h18 =>
 bnd (aN v13 (.b true) v18 h18) fun v19 h19 =>
 bnd (gD v19 false (aB 3 x2 h19) h19) fun v20 h20 =>
 bnd (gD v19 false (aA v20 h20) h20) fun v21 h21 =>
 bnd (gD v19 false (aB 3 x3 h21) h21) fun v22 h22 =>
 bnd (gD v19 false (aA v22 h22) h22) fun v23 h23 =>
 bnd (gD v19 false (aD .neq v21 v23 h23) h23) fun v24 h24 =>
 bnd (aN v19 (.b true) v24 h24) fun v25 h25 =>
 bnd (gD v25 false (aB 4 x2 h25) h25) fun v26 h26 =>
 bnd (gD v25 false (aA v26 h26) h26) fun v27 h27 =>
 bnd (gD v25 false (bJ v27 h27) h27) fun v28 h28 =>
 bnd (gD v25 false (aB 4 x3 h28) h28) fun v29 h29 =>
 bnd (gD v25 false (aA v29 h29) h29) fun v30 h30 =>
 bnd (gD v25 false (bJ v30 h30) h30) fun v31 h31 =>
 bnd (gD v25 false (aD .neq v28 v31 h31) h31) fun v32 h32 =>
 bnd (aN v25 (.b true) v32 h32) fun v33 h33 =>
 aU v33 (
 some ((.b false), h33)) (
  cFx r n x2 x3 h33)
noncomputable def aQi (r : RT) (n : Nat) (x2 x3 : DV) (h0 : Hp) : aH :=
 bnd (aB 5 x2 h0) fun v1 h1 =>
 bnd (aA v1 h1) fun v2 h2 =>
 bnd (aB 5 x3 h2) fun v3 h3 =>
 bnd (aA v3 h3) fun v4 h4 =>
 bnd (r 134 [v2, v4] h4) fun v5 h5 =>
  cEv r n x2 x3 v5 h5
noncomputable def s96 (r : RT) (n : Nat) (x0 x1 : DV) (h0 : Hp) : aH :=
 bnd (bQ x0 h0) fun v1 h1 =>
 bnd (bQ x1 h1) fun v2 h2 =>
  aQi r n v1 v2 h2
noncomputable abbrev c96 : Code := cf Tryz.f96
noncomputable abbrev bHc : Code := cR c96
noncomputable abbrev bFa : Code := cR bHc
noncomputable abbrev bDx : Code := cR bFa
noncomputable abbrev eAu : Code := cR bDx
noncomputable abbrev aOf : Code := cL bDx
noncomputable abbrev cHz : Code := cR aOf
noncomputable abbrev bFc : Code := cL cHz
noncomputable abbrev wY : Code := cL bFc
noncomputable abbrev dFq : Code := cL aOf
noncomputable abbrev bTb : Code := cL bFa
noncomputable abbrev bUq : Code := cL bHc
noncomputable abbrev aUd : Code := cL c96
noncomputable abbrev r96 : K := aQ CF Tryz.f96
noncomputable def D96 (r : RT) (n : Nat) (c : Code) (X : Nat → K) (k : K) : K := aP CF r 72 n c X r96 k
theorem dNl : D96 r n eAu x0 r96 = (K0 (hZ r n)) :=
 (by kernel_rfl)
theorem cUm (kk6 : bZ) : D96 r n wY (xs x0 0 (K0 (hZ r n))) (K3 kk6 2 3 6) = (K3 (cMs r n kk6) 2 3 6) :=
 (by kernel_rfl)
theorem cVd (m : Nat) : aK (fun kk => D96 r n wY (xs x0 0 (K0 (hZ r n))) kk) m = (K3 (aMw r n m) 2 3 6) := by
 induction m with
 | zero => exact (by kernel_rfl : aK (fun kk => D96 r n wY (xs x0 0 (K0 (hZ r n))) kk) 0 = (K3 (aMw r n 0) 2 3 6))
 | succ m ih =>
  refine (by kernel_rfl : aK (fun kk => D96 r n wY (xs x0 0 (K0 (hZ r n))) kk) (m + 1) = D96 r n wY (xs x0 0 (K0 (hZ r n))) (aK (fun kk => D96 r n wY (xs x0 0 (K0 (hZ r n))) kk) m)).trans ?_
  rw [ih]
  exact (cUm r n (aMw r n m)).trans (by kernel_rfl)
theorem dJv : D96 r n bFc (xs x0 0 (K0 (hZ r n))) (K0 (hZ r n)) = (K3 (dFo r n) 2 3 6) :=
 (by kernel_rfl : D96 r n bFc (xs x0 0 (K0 (hZ r n))) (K0 (hZ r n)) = aK (fun kk => D96 r n wY (xs x0 0 (K0 (hZ r n))) kk) n).trans ((cVd r n n).trans (by kernel_rfl))
theorem dGx : D96 r n cHz x0 (K0 (hZ r n)) = (K3 (bTz r n) 2 3 6) :=
 (by kernel_rfl : D96 r n cHz x0 (K0 (hZ r n)) = D96 r n bFc (xs x0 0 (K0 (hZ r n))) (K0 (hZ r n))).trans
 ((dJv r n).trans (by kernel_rfl))
theorem cOr : D96 r n bDx x0 r96 = D96 r n aOf x0 (K0 (hZ r n)) :=
 congrArg (fun k => D96 r n aOf x0 k) (dNl r n)
theorem cQz : D96 r n aOf x0 (K0 (hZ r n)) = D96 r n dFq x0 (K3 (bTz r n) 2 3 6) :=
 congrArg (fun k => D96 r n dFq x0 k) (dGx r n)
theorem dKs : D96 r n bDx x0 r96 = (K2 (cFx r n) 2 3) :=
 (cOr r n).trans
 ((cQz r n).trans
 ((by kernel_rfl)))
theorem cTv : D96 r n bFa x0 r96 = D96 r n bTb x0 (K2 (cFx r n) 2 3) :=
 congrArg (fun k => D96 r n bTb x0 k) (dKs r n)
theorem dTz : D96 r n bFa x0 r96 = (K3 (cEv r n) 2 3 5) :=
 (cTv r n).trans
 ((by kernel_rfl))
theorem cZq : D96 r n bHc x0 r96 = D96 r n bUq x0 (K3 (cEv r n) 2 3 5) :=
 congrArg (fun k => D96 r n bUq x0 k) (dTz r n)
theorem dIv : D96 r n bHc x0 r96 = (K2 (aQi r n) 2 3) :=
 (cZq r n).trans
 ((by kernel_rfl))
theorem eFc : D96 r n c96 x0 r96 = D96 r n aUd x0 (K2 (aQi r n) 2 3) :=
 congrArg (fun k => D96 r n aUd x0 k) (dIv r n)
theorem eGm (q0 : gV) : D96 r n aUd x0 (K2 q0 2 3) = fun (env : aZ) (h : Hp) =>
 bnd (bQ (env 0) h) fun v1 h1 =>
 bnd (bQ (env 1) h1) fun v2 h2 =>
  q0 v1 v2 h2 := by kernel_rfl
theorem dPw : (fun (env : aZ) (h : Hp) =>
 bnd (bQ (env 0) h) fun v1 h1 =>
 bnd (bQ (env 1) h1) fun v2 h2 =>
  aQi r n v1 v2 h2) = (K2 (s96 r n) 0 1) := by kernel_rfl
theorem eLz : D96 r n c96 x0 r96 = (K2 (s96 r n) 0 1) :=
 (eFc r n).trans
 ((eGm r n (aQi r n)).trans (dPw r n))
theorem dVz : aG CF r n 96 args h = s96 r n (aR args 0) (aR args 1) h :=
 (by kernel_rfl : aG CF r n 96 args h = D96 r n c96 x0 r96 (aI args) h).trans ((congrFun (congrFun (eLz r n) (aI args)) h).trans (by kernel_rfl))
noncomputable def s97 (r : RT) (n : Nat) (x0 x1 : DV) (h0 : Hp) : aH :=
 bnd (r 135 [x0, x1] h0) fun v1 h1 =>
 bnd (aD .geq v1 (aF 0) h1) fun v2 h2 =>
 some (v2, h2)
noncomputable abbrev c97 : Code := cf Tryz.f97
noncomputable abbrev r97 : K := aQ CF Tryz.f97
noncomputable def D97 (r : RT) (n : Nat) (c : Code) (X : Nat → K) (k : K) : K := aP CF r 9 n c X r97 k
theorem eJb : D97 r n c97 x0 r97 = (K2 (s97 r n) 0 1) :=
 (by kernel_rfl)
theorem eAc : aG CF r n 97 args h = s97 r n (aR args 0) (aR args 1) h :=
 (by kernel_rfl : aG CF r n 97 args h = D97 r n c97 x0 r97 (aI args) h).trans ((congrFun (congrFun (eJb r n) (aI args)) h).trans (by kernel_rfl))
noncomputable def s106 (r : RT) (n : Nat) (x0 x1 : DV) (h0 : Hp) : aH :=
 bnd (aA x1 h0) fun v1 h1 =>
 bnd (aX v1 h1) fun v2 h2 =>
 bnd (aB 0 v2 h2) fun v3 h3 =>
 bnd (aA v3 h3) fun v4 h4 =>
 bnd (cEq [v4, x0] h4) fun v5 h5 =>
 bnd (gP .not v5 h5) fun v6 h6 =>
 some (v6, h6)
noncomputable abbrev c106 : Code := cf Tryz.f106
noncomputable abbrev r106 : K := aQ CF Tryz.f106
noncomputable def D106 (r : RT) (n : Nat) (c : Code) (X : Nat → K) (k : K) : K := aP CF r 11 n c X r106 k
theorem dYg : D106 r n c106 x0 r106 = (K2 (s106 r n) 0 1) :=
 (by kernel_rfl)
theorem dIy : aG CF r n 106 args h = s106 r n (aR args 0) (aR args 1) h :=
 (by kernel_rfl : aG CF r n 106 args h = D106 r n c106 x0 r106 (aI args) h).trans ((congrFun (congrFun (dYg r n) (aI args)) h).trans (by kernel_rfl))
noncomputable def s109 (r : RT) (n : Nat) (x0 x1 : DV) (h0 : Hp) : aH :=
 bnd (aX x0 h0) fun v1 h1 =>
 bnd (aB 0 v1 h1) fun v2 h2 =>
 bnd (aA v2 h2) fun v3 h3 =>
 bnd (isF [v3, x1] h3) fun v4 h4 =>
 bnd (gD v4 true (some (x0, h4)) h4) fun v5 h5 =>
 bnd (gD v4 true (aX v5 h5) h5) fun v6 h6 =>
 bnd (gD v4 true (aB 0 v6 h6) h6) fun v7 h7 =>
 bnd (gD v4 true (aA v7 h7) h7) fun v8 h8 =>
 bnd (gD v4 true (some (x1, h8)) h8) fun v9 h9 =>
 bnd (gD v4 true (nF [v8, v9] h9) h9) fun v10 h10 =>
 bnd (gD v4 true (some (x0, h10)) h10) fun v11 h11 =>
 bnd (gD v4 true (r 15 [v11, (aF 1)] h11) h11) fun v12 h12 =>
 bnd (gD v4 true (aD .eql v10 v12 h12) h12) fun v13 h13 =>
 bnd (aN v4 v13 (.b false) h13) fun v14 h14 =>
 bnd (gD v14 true (some (x0, h14)) h14) fun v15 h15 =>
 bnd (gD v14 true (aX v15 h15) h15) fun v16 h16 =>
 bnd (gD v14 true (aB 0 v16 h16) h16) fun v17 h17 =>
 bnd (gD v14 true (aA v17 h17) h17) fun v18 h18 =>
 bnd (gD v14 true (some (x1, h18)) h18) fun v19 h19 =>
 bnd (gD v14 true (lY [v18, v19] h19) h19) fun v20 h20 =>
 bnd (gD v14 true (aD .eql v20 (aF 6) h20) h20) fun v21 h21 =>
 bnd (aN v14 v21 (.b false) h21) fun v22 h22 =>
 some (v22, h22)
noncomputable abbrev c109 : Code := cf Tryz.f109
noncomputable abbrev r109 : K := aQ CF Tryz.f109
noncomputable def D109 (r : RT) (n : Nat) (c : Code) (X : Nat → K) (k : K) : K := aP CF r 31 n c X r109 k
theorem eAj : D109 r n c109 x0 r109 = (K2 (s109 r n) 0 1) :=
 (by kernel_rfl)
theorem dQt : aG CF r n 109 args h = s109 r n (aR args 0) (aR args 1) h :=
 (by kernel_rfl : aG CF r n 109 args h = D109 r n c109 x0 r109 (aI args) h).trans ((congrFun (congrFun (eAj r n) (aI args)) h).trans (by kernel_rfl))
noncomputable def s112 (r : RT) (n : Nat) (x0 : DV) (h0 : Hp) : aH :=
 bnd (aD .geq x0 (aF 14) h0) fun v1 h1 =>
 bnd (gD v1 true (some (x0, h1)) h1) fun v2 h2 =>
 bnd (gD v1 true (aD .leq v2 (aF 18) h2) h2) fun v3 h3 =>
 bnd (aN v1 v3 (.b false) h3) fun v4 h4 =>
 aU v4 (
 some ((aF 2), h4)) (
 bnd (aD .geq x0 (aF 6) h4) fun v5 h5 =>
 bnd (gD v5 true (some (x0, h5)) h5) fun v6 h6 =>
 bnd (gD v5 true (aD .leq v6 (aF 11) h6) h6) fun v7 h7 =>
 bnd (aN v5 v7 (.b false) h7) fun v8 h8 =>
 aU v8 (
 some ((aF 1), h8)) (
 some ((aF 0), h8)))
noncomputable abbrev c112 : Code := cf Tryz.f112
noncomputable abbrev r112 : K := aQ CF Tryz.f112
noncomputable def D112 (r : RT) (n : Nat) (c : Code) (X : Nat → K) (k : K) : K := aP CF r 15 n c X r112 k
theorem eAn : D112 r n c112 x0 r112 = (K1 (s112 r n) 0) :=
 (by kernel_rfl)
theorem dUn : aG CF r n 112 args h = s112 r n (aR args 0) h :=
 (by kernel_rfl : aG CF r n 112 args h = D112 r n c112 x0 r112 (aI args) h).trans ((congrFun (congrFun (eAn r n) (aI args)) h).trans (by kernel_rfl))
noncomputable def eB (r : RT) (n : Nat) (x2 : DV) (h0 : Hp) : aH :=
 bnd (aB 5 x2 h0) fun v1 h1 =>
 bnd (aA v1 h1) fun v2 h2 =>
 bnd (r 151 [v2] h2) fun v3 h3 =>
 bnd (aB 5 x2 h3) fun v4 h4 =>
 bnd (aA v4 h4) fun v5 h5 =>
 bnd (r 152 [v5, v3] h5) fun v6 h6 =>
 bnd (gP .not v6 h6) fun v7 h7 =>
 aU v7 (
 some (.t [.l0, (aF 19)], h7)) (
 bnd (aB 5 x2 h7) fun v8 h8 =>
 bnd (aA v8 h8) fun v9 h9 =>
 bnd (r 153 [v9, v3] h9) fun v10 h10 =>
 bnd (aE 0 v10 h10) fun v11 h11 =>
 bnd (aE 1 v10 h11) fun v12 h12 =>
 bnd (gP .not v12 h12) fun v13 h13 =>
 aU v13 (
 some (.t [.l0, (aF 19)], h13)) (
 some (.t [v11, (aF 0)], h13)))
noncomputable def aLf (r : RT) (n : Nat) (kk7 : bK) (x1 x2 x60 x61 x62 : DV) (h0 : Hp) : aH :=
 bnd (aD .lss x62 x61 h0) fun v1 h1 =>
 aU v1 (
 bnd (aC 3 x60 x62 h1) fun v2 h2 =>
 bnd (aL 3 v2 h2) fun v3 h3 =>
 bnd (bS [(aF 0), (aF 0), (aF 0)] h3) fun v4 h4 =>
 bnd (aJ 3 v4 v3 h4) fun _ h5 =>
 bnd (aL 3 v4 h5) fun v6 h6 =>
 bnd (r 149 [v6] h6) fun v7 h7 =>
 bnd (gP .not v7 h7) fun v8 h8 =>
 bnd (gD v8 false (aL 6 x2 h8) h8) fun v9 h9 =>
 bnd (gD v8 false (aL 3 v4 h9) h9) fun v10 h10 =>
 bnd (gD v8 false (some (x1, h10)) h10) fun v11 h11 =>
 bnd (gD v8 false (r 150 [v9, v10, v11] h11) h11) fun v12 h12 =>
 bnd (gD v8 false (gP .not v12 h12) h12) fun v13 h13 =>
 bnd (aN v8 (.b true) v13 h13) fun v14 h14 =>
 aU v14 (
 some (.t [.l0, (aF 19)], h14)) (
 bnd (aD .add x62 (aF 1) h14) fun v15 h15 =>
    kk7 x1 x2 x60 x61 v15 h15)) (
      eB r n x2 h1)
noncomputable def vS (r : RT) (n : Nat) (m : Nat) : bK :=
 Nat.rec (motive := fun _ => bK) (fun _ _ _ _ _ _ => none) (fun _ ih => aLf r n ih) m
noncomputable def bNx (r : RT) (n : Nat) : bK := vS r n n
noncomputable def aUp (r : RT) (n : Nat) (x1 x2 x60 x61 x62 : DV) (h0 : Hp) : aH :=
 bNx r n x1 x2 x60 x61 x62 h0
noncomputable def aTh (r : RT) (n : Nat) (x1 x2 : DV) (h0 : Hp) : aH :=
 bnd (aB 5 x2 h0) fun v1 h1 =>
 bnd (aA v1 h1) fun v2 h2 =>
 bnd (bJ v2 h2) fun v3 h3 =>
  aUp r n x1 x2 v2 v3 (aF 0) h3
noncomputable def aSb (r : RT) (n : Nat) (x1 x2 x6 x7 : DV) (h0 : Hp) : aH :=
 bnd (gP .not x6 h0) fun v1 h1 =>
 bnd (gD v1 false (some (x7, h1)) h1) fun v2 h2 =>
 bnd (aN v1 (.b true) v2 h2) fun v3 h3 =>
 bnd (gD v3 false (aB 4 x2 h3) h3) fun v4 h4 =>
 bnd (gD v3 false (aA v4 h4) h4) fun v5 h5 =>
 bnd (gD v3 false (bJ v5 h5) h5) fun v6 h6 =>
 bnd (gD v3 false (aD .gtr v6 (aF 60) h6) h6) fun v7 h7 =>
 bnd (aN v3 (.b true) v7 h7) fun v8 h8 =>
 bnd (gD v8 false (aB 5 x2 h8) h8) fun v9 h9 =>
 bnd (gD v8 false (aA v9 h9) h9) fun v10 h10 =>
 bnd (gD v8 false (bJ v10 h10) h10) fun v11 h11 =>
 bnd (gD v8 false (r 145 [v11, (aF 1), (aF 400)] h11) h11) fun v12 h12 =>
 bnd (gD v8 false (gP .not v12 h12) h12) fun v13 h13 =>
 bnd (aN v8 (.b true) v13 h13) fun v14 h14 =>
 aU v14 (
 some (.t [.l0, (aF 19)], h14)) (
  aTh r n x1 x2 h14)
noncomputable def aYz (r : RT) (n : Nat) (x1 x2 x6 : DV) (h0 : Hp) : aH :=
 bnd (aB 4 x2 h0) fun v1 h1 =>
 bnd (aA v1 h1) fun v2 h2 =>
 bnd (r 146 [v2, (.f 147 [] [])] h2) fun v3 h3 =>
  aSb r n x1 x2 x6 v3 h3
noncomputable def yB (r : RT) (n : Nat) (x1 x2 : DV) (h0 : Hp) : aH :=
 bnd (r 145 [x1, (aF 0), (aF 8)] h0) fun v1 h1 =>
 bnd (gD v1 true (aB 0 x2 h1) h1) fun v2 h2 =>
 bnd (gD v1 true (aA v2 h2) h2) fun v3 h3 =>
 bnd (gD v1 true (dI v3 h3) h3) fun v4 h4 =>
 bnd (gD v1 true (r 145 [v4, (aF 1), (aF 60)] h4) h4) fun v5 h5 =>
 bnd (aN v1 v5 (.b false) h5) fun v6 h6 =>
 bnd (gD v6 true (aB 1 x2 h6) h6) fun v7 h7 =>
 bnd (gD v6 true (aA v7 h7) h7) fun v8 h8 =>
 bnd (gD v6 true (r 145 [v8, (aF 0), (aF 4)] h8) h8) fun v9 h9 =>
 bnd (aN v6 v9 (.b false) h9) fun v10 h10 =>
 bnd (gD v10 true (aB 2 x2 h10) h10) fun v11 h11 =>
 bnd (gD v10 true (aA v11 h11) h11) fun v12 h12 =>
 bnd (gD v10 true (aB 1 x2 h12) h12) fun v13 h13 =>
 bnd (gD v10 true (aA v13 h13) h13) fun v14 h14 =>
 bnd (gD v10 true (r 145 [v12, v14, (aF 24)] h14) h14) fun v15 h15 =>
 bnd (aN v10 v15 (.b false) h15) fun v16 h16 =>
 bnd (gD v16 true (aB 3 x2 h16) h16) fun v17 h17 =>
 bnd (gD v16 true (aA v17 h17) h17) fun v18 h18 =>
 bnd (gD v16 true (r 145 [v18, (aF 0), (aF 255)] h18) h18) fun v19 h19 =>
 bnd (aN v16 v19 (.b false) h19) fun v20 h20 =>
  aYz r n x1 x2 v20 h20
noncomputable def s114 (r : RT) (n : Nat) (x0 x1 : DV) (h0 : Hp) : aH :=
 bnd (bQ x0 h0) fun v1 h1 =>
  yB r n x1 v1 h1
noncomputable abbrev c114 : Code := cf Tryz.f114
noncomputable abbrev aNd : Code := cR c114
noncomputable abbrev aMu : Code := cR aNd
noncomputable abbrev aGd : Code := cR aMu
noncomputable abbrev aMl : Code := cR aGd
noncomputable abbrev dQr : Code := cR aMl
noncomputable abbrev xQ : Code := cL aMl
noncomputable abbrev aVg : Code := cR xQ
noncomputable abbrev aHp : Code := cL aVg
noncomputable abbrev mW : Code := cL aHp
noncomputable abbrev bAl : Code := cL xQ
noncomputable abbrev bDm : Code := cL aGd
noncomputable abbrev bHq : Code := cL aMu
noncomputable abbrev bFu : Code := cL aNd
noncomputable abbrev aJg : Code := cL c114
noncomputable abbrev r114 : K := aQ CF Tryz.f114
noncomputable def D114 (r : RT) (n : Nat) (c : Code) (X : Nat → K) (k : K) : K := aP CF r 95 n c X r114 k
theorem cZg : D114 r n dQr x0 r114 = (K1 (eB r n) 2) :=
 (by kernel_rfl)
theorem bPp (kk7 : bK) (q0 : TT1) : D114 r n mW (xs x0 0 (K1 q0 2)) (K5 kk7 1 2 60 61 62) = fun (env : aZ) (h : Hp) =>
 bnd (aD .lss (env 62) (env 61) h) fun v1 h1 =>
 aU v1 (
 bnd (aC 3 (env 60) (env 62) h1) fun v2 h2 =>
 bnd (aL 3 v2 h2) fun v3 h3 =>
 bnd (bS [(aF 0), (aF 0), (aF 0)] h3) fun v4 h4 =>
 bnd (aJ 3 v4 v3 h4) fun _ h5 =>
 bnd (aL 3 v4 h5) fun v6 h6 =>
 bnd (r 149 [v6] h6) fun v7 h7 =>
 bnd (gP .not v7 h7) fun v8 h8 =>
 bnd (gD v8 false (aL 6 (env 2) h8) h8) fun v9 h9 =>
 bnd (gD v8 false (aL 3 v4 h9) h9) fun v10 h10 =>
 bnd (gD v8 false (some ((env 1), h10)) h10) fun v11 h11 =>
 bnd (gD v8 false (r 150 [v9, v10, v11] h11) h11) fun v12 h12 =>
 bnd (gD v8 false (gP .not v12 h12) h12) fun v13 h13 =>
 bnd (aN v8 (.b true) v13 h13) fun v14 h14 =>
 aU v14 (
 some (.t [.l0, (aF 19)], h14)) (
 bnd (aD .add (env 62) (aF 1) h14) fun v15 h15 =>
    kk7 (env 1) (env 2) (env 60) (env 61) v15 h15)) (
      q0 (env 2) h1) := by kernel_rfl
theorem bJz (kk7 : bK) : (fun (env : aZ) (h : Hp) =>
 bnd (aD .lss (env 62) (env 61) h) fun v1 h1 =>
 aU v1 (
 bnd (aC 3 (env 60) (env 62) h1) fun v2 h2 =>
 bnd (aL 3 v2 h2) fun v3 h3 =>
 bnd (bS [(aF 0), (aF 0), (aF 0)] h3) fun v4 h4 =>
 bnd (aJ 3 v4 v3 h4) fun _ h5 =>
 bnd (aL 3 v4 h5) fun v6 h6 =>
 bnd (r 149 [v6] h6) fun v7 h7 =>
 bnd (gP .not v7 h7) fun v8 h8 =>
 bnd (gD v8 false (aL 6 (env 2) h8) h8) fun v9 h9 =>
 bnd (gD v8 false (aL 3 v4 h9) h9) fun v10 h10 =>
 bnd (gD v8 false (some ((env 1), h10)) h10) fun v11 h11 =>
 bnd (gD v8 false (r 150 [v9, v10, v11] h11) h11) fun v12 h12 =>
 bnd (gD v8 false (gP .not v12 h12) h12) fun v13 h13 =>
 bnd (aN v8 (.b true) v13 h13) fun v14 h14 =>
 aU v14 (
 some (.t [.l0, (aF 19)], h14)) (
 bnd (aD .add (env 62) (aF 1) h14) fun v15 h15 =>
    kk7 (env 1) (env 2) (env 60) (env 61) v15 h15)) (
      eB r n (env 2) h1)) = (K5 (aLf r n kk7) 1 2 60 61 62) := by kernel_rfl
theorem bWx (kk7 : bK) : D114 r n mW (xs x0 0 (K1 (eB r n) 2)) (K5 kk7 1 2 60 61 62) = (K5 (aLf r n kk7) 1 2 60 61 62) :=
 (bPp r n kk7 (eB r n)).trans (bJz r n kk7)
theorem cEt (m : Nat) : aK (fun kk => D114 r n mW (xs x0 0 (K1 (eB r n) 2)) kk) m = (K5 (vS r n m) 1 2 60 61 62) := by
 induction m with
 | zero => exact (by kernel_rfl : aK (fun kk => D114 r n mW (xs x0 0 (K1 (eB r n) 2)) kk) 0 = (K5 (vS r n 0) 1 2 60 61 62))
 | succ m ih =>
  refine (by kernel_rfl : aK (fun kk => D114 r n mW (xs x0 0 (K1 (eB r n) 2)) kk) (m + 1) = D114 r n mW (xs x0 0 (K1 (eB r n) 2)) (aK (fun kk => D114 r n mW (xs x0 0 (K1 (eB r n) 2)) kk) m)).trans ?_
  rw [ih]
  exact (bWx r n (vS r n m)).trans (by kernel_rfl)
theorem cVo : D114 r n aHp (xs x0 0 (K1 (eB r n) 2)) (K1 (eB r n) 2) = (K5 (bNx r n) 1 2 60 61 62) :=
 (by kernel_rfl : D114 r n aHp (xs x0 0 (K1 (eB r n) 2)) (K1 (eB r n) 2) = aK (fun kk => D114 r n mW (xs x0 0 (K1 (eB r n) 2)) kk) n).trans ((cEt r n n).trans (by kernel_rfl))
theorem cSu : D114 r n aVg x0 (K1 (eB r n) 2) = (K5 (aUp r n) 1 2 60 61 62) :=
 (by kernel_rfl : D114 r n aVg x0 (K1 (eB r n) 2) = D114 r n aHp (xs x0 0 (K1 (eB r n) 2)) (K1 (eB r n) 2)).trans
 ((cVo r n).trans (by kernel_rfl))
theorem cJq : D114 r n aMl x0 r114 = D114 r n xQ x0 (K1 (eB r n) 2) :=
 congrArg (fun k => D114 r n xQ x0 k) (cZg r n)
theorem bRn : D114 r n xQ x0 (K1 (eB r n) 2) = D114 r n bAl x0 (K5 (aUp r n) 1 2 60 61 62) :=
 congrArg (fun k => D114 r n bAl x0 k) (cSu r n)
theorem cSh : D114 r n aMl x0 r114 = (K2 (aTh r n) 1 2) :=
 (cJq r n).trans
 ((bRn r n).trans
 ((by kernel_rfl)))
theorem cLo : D114 r n aGd x0 r114 = D114 r n bDm x0 (K2 (aTh r n) 1 2) :=
 congrArg (fun k => D114 r n bDm x0 k) (cSh r n)
theorem cXc : D114 r n aGd x0 r114 = (K4 (aSb r n) 1 2 6 7) :=
 (cLo r n).trans
 ((by kernel_rfl))
theorem cHl : D114 r n aMu x0 r114 = D114 r n bHq x0 (K4 (aSb r n) 1 2 6 7) :=
 congrArg (fun k => D114 r n bHq x0 k) (cXc r n)
theorem cWq : D114 r n aMu x0 r114 = (K3 (aYz r n) 1 2 6) :=
 (cHl r n).trans
 ((by kernel_rfl))
theorem cGm : D114 r n aNd x0 r114 = D114 r n bFu x0 (K3 (aYz r n) 1 2 6) :=
 congrArg (fun k => D114 r n bFu x0 k) (cWq r n)
theorem dCg : D114 r n aNd x0 r114 = (K2 (yB r n) 1 2) :=
 (cGm r n).trans
 ((by kernel_rfl))
theorem dPm : D114 r n c114 x0 r114 = D114 r n aJg x0 (K2 (yB r n) 1 2) :=
 congrArg (fun k => D114 r n aJg x0 k) (dCg r n)
theorem dHp (q0 : gV) : D114 r n aJg x0 (K2 q0 1 2) = fun (env : aZ) (h : Hp) =>
 bnd (bQ (env 0) h) fun v1 h1 =>
  q0 (env 1) v1 h1 := by kernel_rfl
theorem cVj : (fun (env : aZ) (h : Hp) =>
 bnd (bQ (env 0) h) fun v1 h1 =>
  yB r n (env 1) v1 h1) = (K2 (s114 r n) 0 1) := by kernel_rfl
theorem dZn : D114 r n c114 x0 r114 = (K2 (s114 r n) 0 1) :=
 (dPm r n).trans
 ((dHp r n (yB r n)).trans (cVj r n))
theorem dIj : aG CF r n 114 args h = s114 r n (aR args 0) (aR args 1) h :=
 (by kernel_rfl : aG CF r n 114 args h = D114 r n c114 x0 r114 (aI args) h).trans ((congrFun (congrFun (dZn r n) (aI args)) h).trans (by kernel_rfl))
end Go.Dd

namespace Go.Dd
open Go.Proofs
variable (r : RT) (n : Nat) (args : List DV) (h : Hp)
noncomputable def s116 (r : RT) (n : Nat) (x0 : DV) (h0 : Hp) : aH :=
 bnd (bQ x0 h0) fun v1 h1 =>
 bnd (aB 0 v1 h1) fun v2 h2 =>
 bnd (aA v2 h2) fun v3 h3 =>
 bnd (aD .lss v3 (aF 1) h3) fun v4 h4 =>
 bnd (gD v4 false (aB 0 v1 h4) h4) fun v5 h5 =>
 bnd (gD v4 false (aA v5 h5) h5) fun v6 h6 =>
 bnd (gD v4 false (aD .gtr v6 (aF 20) h6) h6) fun v7 h7 =>
 bnd (aN v4 (.b true) v7 h7) fun v8 h8 =>
 bnd (gD v8 false (aB 1 v1 h8) h8) fun v9 h9 =>
 bnd (gD v8 false (aA v9 h9) h9) fun v10 h10 =>
 bnd (gD v8 false (aD .lss v10 (aF 0) h10) h10) fun v11 h11 =>
 bnd (aN v8 (.b true) v11 h11) fun v12 h12 =>
 bnd (gD v12 false (aB 1 v1 h12) h12) fun v13 h13 =>
 bnd (gD v12 false (aA v13 h13) h13) fun v14 h14 =>
 bnd (gD v12 false (aD .gtr v14 (aF 255) h14) h14) fun v15 h15 =>
 bnd (aN v12 (.b true) v15 h15) fun v16 h16 =>
 bnd (gD v16 false (aB 2 v1 h16) h16) fun v17 h17 =>
 bnd (gD v16 false (aA v17 h17) h17) fun v18 h18 =>
 bnd (gD v16 false (aD .lss v18 (aF 0) h18) h18) fun v19 h19 =>
 bnd (aN v16 (.b true) v19 h19) fun v20 h20 =>
 bnd (gD v20 false (aB 2 v1 h20) h20) fun v21 h21 =>
 bnd (gD v20 false (aA v21 h21) h21) fun v22 h22 =>
 bnd (gD v20 false (aD .gtr v22 (aF 255) h22) h22) fun v23 h23 =>
 bnd (aN v20 (.b true) v23 h23) fun v24 h24 =>
 aU v24 (
 some ((.b false), h24)) (
 bnd (aB 0 v1 h24) fun v25 h25 =>
 bnd (aA v25 h25) fun v26 h26 =>
 bnd (r 112 [v26] h26) fun v27 h27 =>
 bnd (aD .gtr v27 (aF 0) h27) fun v28 h28 =>
 bnd (gD v28 false (aB 1 v1 h28) h28) fun v29 h29 =>
 bnd (gD v28 false (aA v29 h29) h29) fun v30 h30 =>
 bnd (gD v28 false (aD .eql v30 (aF 0) h30) h30) fun v31 h31 =>
 bnd (aN v28 (.b true) v31 h31) fun v32 h32 =>
 bnd (gD v32 true (some (v27, h32)) h32) fun v33 h33 =>
 bnd (gD v32 true (aD .gtr v33 (aF 1) h33) h33) fun v34 h34 =>
 bnd (gD v32 true (some (v34, h34)) h34) fun v35 h35 =>
 bnd (gD v35 false (aB 2 v1 h35) h35) fun v36 h36 =>
 bnd (gD v35 false (aA v36 h36) h36) fun v37 h37 =>
 bnd (gD v35 false (aD .eql v37 (aF 0) h37) h37) fun v38 h38 =>
 bnd (gD v32 true (aN v35 (.b true) v38 h38) h38) fun v39 h39 =>
 bnd (aN v32 v39 (.b false) h39) fun v40 h40 =>
 some (v40, h40))
noncomputable abbrev c116 : Code := cf Tryz.f116
noncomputable abbrev r116 : K := aQ CF Tryz.f116
noncomputable def D116 (r : RT) (n : Nat) (c : Code) (X : Nat → K) (k : K) : K := aP CF r 51 n c X r116 k
theorem eDo : D116 r n c116 x0 r116 = (K1 (s116 r n) 0) :=
 (by kernel_rfl)
theorem dRw : aG CF r n 116 args h = s116 r n (aR args 0) h :=
 (by kernel_rfl : aG CF r n 116 args h = D116 r n c116 x0 r116 (aI args) h).trans ((congrFun (congrFun (eDo r n) (aI args)) h).trans (by kernel_rfl))
noncomputable def aMq (r : RT) (n : Nat) (x2 x3 x4 : DV) (h0 : Hp) : aH :=
 bnd (aB 0 x4 h0) fun v1 h1 =>
 bnd (aA v1 h1) fun v2 h2 =>
 bnd (aD .eql v2 (aF 7) h2) fun v3 h3 =>
 bnd (gD v3 false (aB 0 x4 h3) h3) fun v4 h4 =>
 bnd (gD v3 false (aA v4 h4) h4) fun v5 h5 =>
 bnd (gD v3 false (aD .eql v5 (aF 10) h5) h5) fun v6 h6 =>
 bnd (aN v3 (.b true) v6 h6) fun v7 h7 =>
 bnd (gD v7 true (aB 1 x4 h7) h7) fun v8 h8 =>
 bnd (gD v7 true (aA v8 h8) h8) fun v9 h9 =>
 bnd (gD v7 true (aB 2 x3 h9) h9) fun v10 h10 =>
 bnd (gD v7 true (aA v10 h10) h10) fun v11 h11 =>
 bnd (gD v7 true (aD .geq v9 v11 h11) h11) fun v12 h12 =>
 bnd (aN v7 v12 (.b false) h12) fun v13 h13 =>
 aU v13 (
 some ((.b false), h13)) (
 bnd (aB 0 x4 h13) fun v14 h14 =>
 bnd (aA v14 h14) fun v15 h15 =>
 bnd (aD .eql v15 (aF 8) h15) fun v16 h16 =>
 bnd (gD v16 false (aB 0 x4 h16) h16) fun v17 h17 =>
 bnd (gD v16 false (aA v17 h17) h17) fun v18 h18 =>
 bnd (gD v16 false (aD .eql v18 (aF 11) h18) h18) fun v19 h19 =>
 bnd (aN v16 (.b true) v19 h19) fun v20 h20 =>
 bnd (gD v20 true (aB 1 x4 h20) h20) fun v21 h21 =>
 bnd (gD v20 true (aA v21 h21) h21) fun v22 h22 =>
 bnd (gD v20 true (some (x2, h22)) h22) fun v23 h23 =>
 bnd (gD v20 true (aD .geq v22 v23 h23) h23) fun v24 h24 =>
 bnd (aN v20 v24 (.b false) h24) fun v25 h25 =>
 aU v25 (
 some ((.b false), h25)) (
 bnd (aB 0 x4 h25) fun v26 h26 =>
 bnd (aA v26 h26) fun v27 h27 =>
 bnd (aD .eql v27 (aF 14) h27) fun v28 h28 =>
 bnd (gD v28 false (aB 0 x4 h28) h28) fun v29 h29 =>
 bnd (gD v28 false (aA v29 h29) h29) fun v30 h30 =>
 bnd (gD v28 false (aD .eql v30 (aF 15) h30) h30) fun v31 h31 =>
 bnd (aN v28 (.b true) v31 h31) fun v32 h32 =>
 bnd (gD v32 false (aB 0 x4 h32) h32) fun v33 h33 =>
 bnd (gD v32 false (aA v33 h33) h33) fun v34 h34 =>
 bnd (gD v32 false (aD .eql v34 (aF 18) h34) h34) fun v35 h35 =>
 bnd (aN v32 (.b true) v35 h35) fun v36 h36 =>
 bnd (gD v36 true (aB 2 x4 h36) h36) fun v37 h37 =>
 bnd (gD v36 true (aA v37 h37) h37) fun v38 h38 =>
 bnd (gD v36 true (aD .gtr v38 (aF 4) h38) h38) fun v39 h39 =>
 bnd (aN v36 v39 (.b false) h39) fun v40 h40 =>
 aU v40 (
 some ((.b false), h40)) (
 bnd (aB 0 x4 h40) fun v41 h41 =>
 bnd (aA v41 h41) fun v42 h42 =>
 bnd (aD .neq v42 (aF 18) h42) fun v43 h43 =>
 bnd (gD v43 false (aB 1 x4 h43) h43) fun v44 h44 =>
 bnd (gD v43 false (aA v44 h44) h44) fun v45 h45 =>
 bnd (gD v43 false (aB 2 x4 h45) h45) fun v46 h46 =>
 bnd (gD v43 false (aA v46 h46) h46) fun v47 h47 =>
 bnd (gD v43 false (aD .add v45 v47 h47) h47) fun v48 h48 =>
 bnd (gD v43 false (aB 2 x3 h48) h48) fun v49 h49 =>
 bnd (gD v43 false (aA v49 h49) h49) fun v50 h50 =>
 bnd (gD v43 false (aD .leq v48 v50 h50) h50) fun v51 h51 =>
 bnd (aN v43 (.b true) v51 h51) fun v52 h52 =>
 some (v52, h52))))
noncomputable def zW (r : RT) (n : Nat) (x2 x3 x4 : DV) (h0 : Hp) : aH :=
 bnd (aB 0 x4 h0) fun v1 h1 =>
 bnd (aA v1 h1) fun v2 h2 =>
 bnd (aD .eql v2 (aF 6) h2) fun v3 h3 =>
 bnd (gD v3 false (aB 0 x4 h3) h3) fun v4 h4 =>
 bnd (gD v3 false (aA v4 h4) h4) fun v5 h5 =>
 bnd (gD v3 false (aD .eql v5 (aF 9) h5) h5) fun v6 h6 =>
 bnd (aN v3 (.b true) v6 h6) fun v7 h7 =>
 bnd (gD v7 false (aB 0 x4 h7) h7) fun v8 h8 =>
 bnd (gD v7 false (aA v8 h8) h8) fun v9 h9 =>
 bnd (gD v7 false (aD .eql v9 (aF 14) h9) h9) fun v10 h10 =>
 bnd (aN v7 (.b true) v10 h10) fun v11 h11 =>
 bnd (gD v11 false (aB 0 x4 h11) h11) fun v12 h12 =>
 bnd (gD v11 false (aA v12 h12) h12) fun v13 h13 =>
 bnd (gD v11 false (aD .eql v13 (aF 15) h13) h13) fun v14 h14 =>
 bnd (aN v11 (.b true) v14 h14) fun v15 h15 =>
 aU v15 (
 bnd (aB 1 x4 h15) fun v16 h16 =>
 bnd (aA v16 h16) fun v17 h17 =>
 bnd (aB 4 x3 h17) fun v18 h18 =>
 bnd (aA v18 h18) fun v19 h19 =>
 bnd (bJ v19 h19) fun v20 h20 =>
 bnd (aD .geq v17 v20 h20) fun v21 h21 =>
 bnd (gD v21 false (aB 0 x4 h21) h21) fun v22 h22 =>
 bnd (gD v21 false (aA v22 h22) h22) fun v23 h23 =>
 bnd (gD v21 false (aD .neq v23 (aF 6) h23) h23) fun v24 h24 =>
 bnd (gD v21 false (some (v24, h24)) h24) fun v25 h25 =>
 bnd (gD v25 true (aB 4 x3 h25) h25) fun v26 h26 =>
 bnd (gD v25 true (aA v26 h26) h26) fun v27 h27 =>
 bnd (gD v25 true (aB 1 x4 h27) h27) fun v28 h28 =>
 bnd (gD v25 true (aA v28 h28) h28) fun v29 h29 =>
 bnd (gD v25 true (aC 4 v27 v29 h29) h29) fun v30 h30 =>
 bnd (gD v25 true (aB 0 v30 h30) h30) fun v31 h31 =>
 bnd (gD v25 true (aA v31 h31) h31) fun v32 h32 =>
 bnd (gD v25 true (aD .neq v32 (aF 3) h32) h32) fun v33 h33 =>
 bnd (gD v21 false (aN v25 v33 (.b false) h33) h33) fun v34 h34 =>
 bnd (aN v21 (.b true) v34 h34) fun v35 h35 =>
 aU v35 (
 some ((.b false), h35)) (
   aMq r n x2 x3 x4 h35)) (
  aMq r n x2 x3 x4 h15)
noncomputable def s117 (r : RT) (n : Nat) (x0 x1 x2 : DV) (h0 : Hp) : aH :=
 bnd (bQ x0 h0) fun v1 h1 =>
 bnd (bQ x1 h1) fun v2 h2 =>
  zW r n x2 v1 v2 h2
noncomputable abbrev c117 : Code := cf Tryz.f117
noncomputable abbrev aFy : Code := cR c117
noncomputable abbrev dNp : Code := cR aFy
noncomputable abbrev bPn : Code := cL aFy
noncomputable abbrev aTe : Code := cL c117
noncomputable abbrev r117 : K := aQ CF Tryz.f117
noncomputable def D117 (r : RT) (n : Nat) (c : Code) (X : Nat → K) (k : K) : K := aP CF r 106 n c X r117 k
theorem cZs : D117 r n dNp x0 r117 = (K3 (aMq r n) 2 3 4) :=
 (by kernel_rfl)
theorem cKh : D117 r n aFy x0 r117 = D117 r n bPn x0 (K3 (aMq r n) 2 3 4) :=
 congrArg (fun k => D117 r n bPn x0 k) (cZs r n)
theorem cPu : D117 r n aFy x0 r117 = (K3 (zW r n) 2 3 4) :=
 (cKh r n).trans
 ((by kernel_rfl))
theorem dNv : D117 r n c117 x0 r117 = D117 r n aTe x0 (K3 (zW r n) 2 3 4) :=
 congrArg (fun k => D117 r n aTe x0 k) (cPu r n)
theorem dHo (q0 : bZ) : D117 r n aTe x0 (K3 q0 2 3 4) = fun (env : aZ) (h : Hp) =>
 bnd (bQ (env 0) h) fun v1 h1 =>
 bnd (bQ (env 1) h1) fun v2 h2 =>
  q0 (env 2) v1 v2 h2 := by kernel_rfl
theorem cSm : (fun (env : aZ) (h : Hp) =>
 bnd (bQ (env 0) h) fun v1 h1 =>
 bnd (bQ (env 1) h1) fun v2 h2 =>
  zW r n (env 2) v1 v2 h2) = (K3 (s117 r n) 0 1 2) := by kernel_rfl
theorem eCr : D117 r n c117 x0 r117 = (K3 (s117 r n) 0 1 2) :=
 (dNv r n).trans
 ((dHo r n (zW r n)).trans (cSm r n))
theorem dPd : aG CF r n 117 args h = s117 r n (aR args 0) (aR args 1) (aR args 2) h :=
 (by kernel_rfl : aG CF r n 117 args h = D117 r n c117 x0 r117 (aI args) h).trans ((congrFun (congrFun (eCr r n) (aI args)) h).trans (by kernel_rfl))
noncomputable def s118 (r : RT) (n : Nat) (x0 x1 : DV) (h0 : Hp) : aH :=
 bnd (aC 3 x0 x1 h0) fun v1 h1 =>
 bnd (aB 0 v1 h1) fun v2 h2 =>
 bnd (aA v2 h2) fun v3 h3 =>
 bnd (aD .neq v3 (aF 18) h3) fun v4 h4 =>
 bnd (gD v4 false (some (x1, h4)) h4) fun v5 h5 =>
 bnd (gD v4 false (aD .add v5 (aF 1) h5) h5) fun v6 h6 =>
 bnd (gD v4 false (some (x0, h6)) h6) fun v7 h7 =>
 bnd (gD v4 false (bJ v7 h7) h7) fun v8 h8 =>
 bnd (gD v4 false (aD .geq v6 v8 h8) h8) fun v9 h9 =>
 bnd (aN v4 (.b true) v9 h9) fun v10 h10 =>
 bnd (gD v10 false (some (x0, h10)) h10) fun v11 h11 =>
 bnd (gD v10 false (some (x1, h11)) h11) fun v12 h12 =>
 bnd (gD v10 false (aD .add v12 (aF 1) h12) h12) fun v13 h13 =>
 bnd (gD v10 false (aC 3 v11 v13 h13) h13) fun v14 h14 =>
 bnd (gD v10 false (aB 0 v14 h14) h14) fun v15 h15 =>
 bnd (gD v10 false (aA v15 h15) h15) fun v16 h16 =>
 bnd (gD v10 false (aD .neq v16 (aF 16) h16) h16) fun v17 h17 =>
 bnd (aN v10 (.b true) v17 h17) fun v18 h18 =>
 aU v18 (
 some ((.i .i64 (Int.negSucc 0)), h18)) (
 bnd (aD .add x1 (aF 1) h18) fun v19 h19 =>
 bnd (aC 3 x0 v19 h19) fun v20 h20 =>
 bnd (aL 3 v20 h20) fun v21 h21 =>
 bnd (r 72 [v21] h21) fun v22 h22 =>
 bnd (aD .add x1 (aF 2) h22) fun v23 h23 =>
 bnd (aD .leq v22 v23 h23) fun v24 h24 =>
 aU v24 (
 some ((.i .i64 (Int.negSucc 0)), h24)) (
 some (v22, h24)))
noncomputable abbrev c118 : Code := cf Tryz.f118
noncomputable abbrev r118 : K := aQ CF Tryz.f118
noncomputable def D118 (r : RT) (n : Nat) (c : Code) (X : Nat → K) (k : K) : K := aP CF r 39 n c X r118 k
theorem dVt : D118 r n c118 x0 r118 = (K2 (s118 r n) 0 1) :=
 (by kernel_rfl)
theorem dSo : aG CF r n 118 args h = s118 r n (aR args 0) (aR args 1) h :=
 (by kernel_rfl : aG CF r n 118 args h = D118 r n c118 x0 r118 (aI args) h).trans ((congrFun (congrFun (dVt r n) (aI args)) h).trans (by kernel_rfl))
noncomputable def s120 (r : RT) (n : Nat) (x0 x1 : DV) (h0 : Hp) : aH :=
 bnd (bS tQ h0) fun v1 h1 =>
 bnd (r 154 [x0] h1) fun v2 h2 =>
 bnd (aE 0 v2 h2) fun v3 h3 =>
 bnd (aE 1 v2 h3) fun v4 h4 =>
 bnd (aE 2 v2 h4) fun v5 h5 =>
 bnd (aD .neq v5 (aF 0) h5) fun v6 h6 =>
 aU v6 (
 bnd (bL tQ [] h6) fun v7 h7 =>
 bnd (aJ 6 v1 v7 h7) fun _ h8 =>
 bnd (aL 6 v1 h8) fun v9 _ =>
 some (.t [v9, v4, v5], h8)) (
 bnd (bL [.l0, (aF 0), (aF 0), (aF 0)] [(0, 1, v3)] h6) fun v10 h10 =>
 bnd (bQ v10 h10) fun v11 h11 =>
 bnd (jX CF r x1 [v11] h11) fun v12 h12 =>
 bnd (bS tQ h12) fun v13 h13 =>
 bnd (aJ 6 v13 v12 h13) fun _ h14 =>
 bnd (r 155 [v11] h14) fun v15 h15 =>
 bnd (aB 4 v13 h15) fun v16 h16 =>
 bnd (aJ 1 v16 v15 h16) fun _ h17 =>
 bnd (r 156 [v11] h17) fun v18 h18 =>
 bnd (aB 5 v13 h18) fun v19 h19 =>
 bnd (aJ 1 v19 v18 h19) fun _ h20 =>
 bnd (r 157 [v11, (aF 0), (.s [])] h20) fun v21 h21 =>
 bnd (aX v11 h21) fun v22 h22 =>
 bnd (aB 3 v22 h22) fun v23 h23 =>
 bnd (aA v23 h23) fun v24 h24 =>
 bnd (aD .neq v24 (aF 0) h24) fun v25 h25 =>
 aU v25 (
 bnd (bL tQ [] h25) fun v26 h26 =>
 bnd (aX v11 h26) fun v27 h27 =>
 bnd (aB 2 v27 h27) fun v28 h28 =>
 bnd (aA v28 h28) fun v29 h29 =>
 bnd (aX v11 h29) fun v30 h30 =>
 bnd (aB 3 v30 h30) fun v31 h31 =>
 bnd (aA v31 h31) fun v32 h32 =>
 bnd (aJ 6 v1 v26 h32) fun v33 h33 =>
 cnd (bR (aA v31 h33) v32 && (bR (aA v28 h33) v29 && true)) (
 bnd (aL 6 v1 h33) fun v34 _ =>
 some (.t [v34, v29, v32], h33))) (
 bnd (aL 6 v13 h25) fun v35 h35 =>
 bnd (aJ 6 v1 v35 h35) fun _ h36 =>
 bnd (aL 6 v1 h36) fun v37 _ =>
 some (.t [v37, (aF 0), (aF 0)], h36)))
noncomputable abbrev c120 : Code := cf Tryz.f120
noncomputable abbrev r120 : K := aQ CF Tryz.f120
noncomputable def D120 (r : RT) (n : Nat) (c : Code) (X : Nat → K) (k : K) : K := aP CF r 52 n c X r120 k
theorem dYt : D120 r n c120 x0 r120 = (K2 (s120 r n) 0 1) :=
 (by kernel_rfl)
theorem dQw : aG CF r n 120 args h = s120 r n (aR args 0) (aR args 1) h :=
 (by kernel_rfl : aG CF r n 120 args h = D120 r n c120 x0 r120 (aI args) h).trans ((congrFun (congrFun (dYt r n) (aI args)) h).trans (by kernel_rfl))
noncomputable def s121 (r : RT) (n : Nat) (x0 : DV) (h0 : Hp) : aH :=
 bnd (bS tQ h0) fun v1 h1 =>
 bnd (bL tQ [(0, 1, (aF 11))] h1) fun v2 h2 =>
 bnd (bS tQ h2) fun v3 h3 =>
 bnd (aJ 6 v3 v2 h3) fun _ h4 =>
 bnd (r 158 [x0, v3] h4) fun v5 h5 =>
 bnd (r 159 [x0] h5) fun v6 h6 =>
 bnd (aB 2 v3 h6) fun v7 h7 =>
 bnd (aJ 1 v7 v6 h7) fun _ h8 =>
 bnd (aL 6 v3 h8) fun v9 h9 =>
 bnd (aJ 6 v1 v9 h9) fun _ h10 =>
 bnd (aL 6 v1 h10) fun v11 _ =>
 some (v11, h10)
noncomputable abbrev c121 : Code := cf Tryz.f121
noncomputable abbrev r121 : K := aQ CF Tryz.f121
noncomputable def D121 (r : RT) (n : Nat) (c : Code) (X : Nat → K) (k : K) : K := aP CF r 11 n c X r121 k
theorem dWy : D121 r n c121 x0 r121 = (K1 (s121 r n) 0) :=
 (by kernel_rfl)
theorem dIt : aG CF r n 121 args h = s121 r n (aR args 0) h :=
 (by kernel_rfl : aG CF r n 121 args h = D121 r n c121 x0 r121 (aI args) h).trans ((congrFun (congrFun (dWy r n) (aI args)) h).trans (by kernel_rfl))
noncomputable def s123 (r : RT) (n : Nat) (x0 x1 x2 : DV) (h0 : Hp) : aH :=
 bnd (bQ x2 h0) fun v1 h1 =>
 bnd (r 109 [x0, x1] h1) fun v2 h2 =>
 bnd (gP .not v2 h2) fun v3 h3 =>
 aU v3 (
 some (.t [(aF 0), (aF 24)], h3)) (
 bnd (aL 6 v1 h3) fun v4 h4 =>
 bnd (r 92 [x0, x1] h4) fun v5 h5 =>
 cnd (bR (aL 6 v1 h5) v4 && true) (
 bnd (r 65 [v4, v5] h5) fun v6 h6 =>
 bnd (aD .neq v6 (aF 0) h6) fun v7 h7 =>
 aU v7 (
 some (.t [(aF 0), v6], h7)) (
 bnd (aB 0 v1 h7) fun v8 h8 =>
 bnd (aA v8 h8) fun v9 h9 =>
 bnd (r 11 [x0, v9] h9) fun v10 h10 =>
 bnd (aE 0 v10 h10) fun v11 h11 =>
 bnd (aE 1 v10 h11) fun v12 h12 =>
 bnd (aD .neq v12 (aF 0) h12) fun v13 h13 =>
 aU v13 (
 some (.t [(aF 0), v12], h13)) (
 bnd (aB 4 v1 h13) fun v14 h14 =>
 bnd (aA v14 h14) fun v15 h15 =>
 bnd (bL [(aF 0), (.s []), (aF 0), .l0] [(0, 1, (aF 4)), (3, 1, v15)] h15) fun v16 h16 =>
 bnd (r 66 [x0, v16] h16) fun v17 h17 =>
 bnd (aE 0 v17 h17) fun v18 h18 =>
 bnd (aE 1 v17 h18) fun v19 h19 =>
 bnd (aD .neq v19 (aF 0) h19) fun v20 h20 =>
 aU v20 (
 some (.t [(aF 0), v19], h20)) (
 bnd (aB 5 v1 h20) fun v21 h21 =>
 bnd (aA v21 h21) fun v22 h22 =>
 bnd (r 161 [v22] h22) fun v23 h23 =>
 bnd (aE 0 v23 h23) fun v24 h24 =>
 bnd (aE 1 v23 h24) fun v25 h25 =>
 bnd (r 162 [x0, v24] h25) fun v26 h26 =>
 bnd (aE 0 v26 h26) fun v27 h27 =>
 bnd (aE 1 v26 h27) fun v28 h28 =>
 bnd (aD .neq v28 (aF 0) h28) fun v29 h29 =>
 aU v29 (
 some (.t [(aF 0), v28], h29)) (
 bnd (r 15 [x0, (aF 14)] (resv 1 h29)) fun v30 h30 =>
 bnd (aB 1 v1 h30) fun v31 h31 =>
 bnd (aA v31 h31) fun v32 h32 =>
 cnd (bR (aA v31 (resv 1 h29)) v32 && true) (
 bnd (r 46 [v32] h32) fun v33 h33 =>
 bnd (aB 2 v1 h33) fun v34 h34 =>
 bnd (aA v34 h34) fun v35 h35 =>
 cnd (bR (aA v34 h30) v35 && (bR (aA v34 (resv 1 h29)) v35 && true)) (
 bnd (r 46 [v35] h35) fun v36 h36 =>
 bnd (aB 3 v1 h36) fun v37 h37 =>
 bnd (aA v37 h37) fun v38 h38 =>
 cnd (bR (aA v37 h33) v38 && (bR (aA v37 h30) v38 && (bR (aA v37 (resv 1 h29)) v38 && true))) (
 bnd (r 46 [v38] h38) fun v39 h39 =>
 bnd (bB (bN 0 h29.next) [(aF 0), (aF 0), (aF 0), (aF 0), (aF 0), (aF 0), (aF 0)] 7 [(0, 1, v11), (1, 1, v33), (2, 1, v36), (3, 1, v39), (4, 1, v18), (5, 1, v27), (6, 1, x1)] h39) fun v40 h40 =>
 bnd (r 61 [x0, v30, (aF 0), v40] h40) fun v41 h41 =>
 bnd (aE 0 v41 h41) fun v42 h42 =>
 bnd (aE 1 v41 h42) fun v43 h43 =>
 some (.t [v42, v43], h43))))))))))
noncomputable abbrev c123 : Code := cf Tryz.f123
noncomputable abbrev r123 : K := aQ CF Tryz.f123
noncomputable def D123 (r : RT) (n : Nat) (c : Code) (X : Nat → K) (k : K) : K := aP CF r 83 n c X r123 k
theorem dWd : D123 r n c123 x0 r123 = (K3 (s123 r n) 0 1 2) :=
 (by kernel_rfl)
theorem dQu : aG CF r n 123 args h = s123 r n (aR args 0) (aR args 1) (aR args 2) h :=
 (by kernel_rfl : aG CF r n 123 args h = D123 r n c123 x0 r123 (aI args) h).trans ((congrFun (congrFun (dWd r n) (aI args)) h).trans (by kernel_rfl))
noncomputable def eV (r : RT) (n : Nat) (x0 x1 x3 : DV) (h0 : Hp) : aH :=
 bnd (r 53 [x0, x1, (aF 4)] h0) fun v1 h1 =>
 bnd (r 48 [x0, x3, v1] h1) fun v2 h2 =>
 bnd (aE 0 v2 h2) fun v3 h3 =>
 bnd (aE 1 v2 h3) fun v4 h4 =>
 bnd (aD .neq v4 (aF 0) h4) fun v5 h5 =>
 aU v5 (
 some (v4, h5)) (
 bnd (aX x0 h5) fun v6 h6 =>
 bnd (aB 0 v6 h6) fun v7 h7 =>
 bnd (aA v7 h7) fun v8 h8 =>
 bnd (aQd [v8, x1, (aF 4), v3] h8) fun v9 h9 =>
 some (v9, h9))
noncomputable def bGp (r : RT) (n : Nat) (kk5 : gX) (x0 x1 x2 x3 x9 x10 : DV) (h0 : Hp) : aH :=
 bnd (aD .gtr x10 (aF 0) h0) fun v1 h1 =>
 bnd (gD v1 true (some (x0, h1)) h1) fun v2 h2 =>
 bnd (gD v1 true (aX v2 h2) h2) fun v3 h3 =>
 bnd (gD v1 true (aB 0 v3 h3) h3) fun v4 h4 =>
 bnd (gD v1 true (aA v4 h4) h4) fun v5 h5 =>
 bnd (gD v1 true (some (x9, h5)) h5) fun v6 h6 =>
 bnd (gD v1 true (isF [v5, v6] h6) h6) fun v7 h7 =>
 bnd (aN v1 v7 (.b false) h7) fun v8 h8 =>
 aU v8 (
 bnd (r 53 [x0, x9, (aF 0)] h8) fun v9 h9 =>
 bnd (r 53 [x0, v9, (aF 0)] h9) fun v10 h10 =>
 bnd (aD .eql v10 x2 h10) fun v11 h11 =>
 aU v11 (
 bnd (aX x0 h11) fun v12 h12 =>
 bnd (aB 0 v12 h12) fun v13 h13 =>
 bnd (aA v13 h13) fun v14 h14 =>
 bnd (aQd [v14, x9, (aF 0), x3] h14) fun v15 h15 =>
 some (v15, h15)) (
 bnd (r 53 [x0, x9, (aF 1)] h11) fun v16 h16 =>
 bnd (aD .sub x10 (aF 1) h16) fun v17 h17 =>
    kk5 x0 x1 x2 x3 v16 v17 h17)) (
      eV r n x0 x1 x3 h8)
noncomputable def tV (r : RT) (n : Nat) (m : Nat) : gX :=
 Nat.rec (motive := fun _ => gX) (fun _ _ _ _ _ _ _ => none) (fun _ ih => bGp r n ih) m
noncomputable def bOz (r : RT) (n : Nat) : gX := tV r n n
noncomputable def aSs (r : RT) (n : Nat) (x0 x1 x2 x3 x9 x10 : DV) (h0 : Hp) : aH :=
 bOz r n x0 x1 x2 x3 x9 x10 h0
noncomputable def aUg (r : RT) (n : Nat) (x0 x1 x2 x3 x9 : DV) (h0 : Hp) : aH :=
 bnd (aX x0 h0) fun v1 h1 =>
 bnd (aB 0 v1 h1) fun v2 h2 =>
 bnd (aA v2 h2) fun v3 h3 =>
 bnd (aCa [v3] h3) fun v4 h4 =>
  aSs r n x0 x1 x2 x3 x9 v4 h4
noncomputable def aWk (r : RT) (n : Nat) (x0 x1 x2 x3 : DV) (h0 : Hp) : aH :=
 bnd (r 53 [x0, x1, (aF 4)] h0) fun v1 h1 =>
  aUg r n x0 x1 x2 x3 v1 h1
noncomputable def s124 (r : RT) (n : Nat) (x0 x1 x2 x3 : DV) (h0 : Hp) : aH :=
 aWk r n x0 x1 x2 x3 h0
noncomputable abbrev c124 : Code := cf Tryz.f124
noncomputable abbrev aKf : Code := cR c124
noncomputable abbrev aIk : Code := cR aKf
noncomputable abbrev dGr : Code := cR aIk
noncomputable abbrev zY : Code := cL aIk
noncomputable abbrev aZj : Code := cR zY
noncomputable abbrev aDt : Code := cL aZj
noncomputable abbrev oL : Code := cL aDt
noncomputable abbrev cHg : Code := cL zY
noncomputable abbrev cEl : Code := cL aKf
noncomputable abbrev bHo : Code := cL c124
noncomputable abbrev r124 : K := aQ CF Tryz.f124
noncomputable def D124 (r : RT) (n : Nat) (c : Code) (X : Nat → K) (k : K) : K := aP CF r 69 n c X r124 k
theorem cRd : D124 r n dGr x0 r124 = (K3 (eV r n) 0 1 3) :=
 (by kernel_rfl)
theorem cGp (kk5 : gX) : D124 r n oL (xs x0 0 (K3 (eV r n) 0 1 3)) (K6 kk5 0 1 2 3 9 10) = (K6 (bGp r n kk5) 0 1 2 3 9 10) :=
 (by kernel_rfl)
theorem bVf (m : Nat) : aK (fun kk => D124 r n oL (xs x0 0 (K3 (eV r n) 0 1 3)) kk) m = (K6 (tV r n m) 0 1 2 3 9 10) := by
 induction m with
 | zero => exact (by kernel_rfl : aK (fun kk => D124 r n oL (xs x0 0 (K3 (eV r n) 0 1 3)) kk) 0 = (K6 (tV r n 0) 0 1 2 3 9 10))
 | succ m ih =>
  refine (by kernel_rfl : aK (fun kk => D124 r n oL (xs x0 0 (K3 (eV r n) 0 1 3)) kk) (m + 1) = D124 r n oL (xs x0 0 (K3 (eV r n) 0 1 3)) (aK (fun kk => D124 r n oL (xs x0 0 (K3 (eV r n) 0 1 3)) kk) m)).trans ?_
  rw [ih]
  exact (cGp r n (tV r n m)).trans (by kernel_rfl)
theorem cWo : D124 r n aDt (xs x0 0 (K3 (eV r n) 0 1 3)) (K3 (eV r n) 0 1 3) = (K6 (bOz r n) 0 1 2 3 9 10) :=
 (by kernel_rfl : D124 r n aDt (xs x0 0 (K3 (eV r n) 0 1 3)) (K3 (eV r n) 0 1 3) = aK (fun kk => D124 r n oL (xs x0 0 (K3 (eV r n) 0 1 3)) kk) n).trans ((bVf r n n).trans (by kernel_rfl))
theorem dEq : D124 r n aZj x0 (K3 (eV r n) 0 1 3) = (K6 (aSs r n) 0 1 2 3 9 10) :=
 (by kernel_rfl : D124 r n aZj x0 (K3 (eV r n) 0 1 3) = D124 r n aDt (xs x0 0 (K3 (eV r n) 0 1 3)) (K3 (eV r n) 0 1 3)).trans
 ((cWo r n).trans (by kernel_rfl))
theorem bZj : D124 r n aIk x0 r124 = D124 r n zY x0 (K3 (eV r n) 0 1 3) :=
 congrArg (fun k => D124 r n zY x0 k) (cRd r n)
theorem cBf : D124 r n zY x0 (K3 (eV r n) 0 1 3) = D124 r n cHg x0 (K6 (aSs r n) 0 1 2 3 9 10) :=
 congrArg (fun k => D124 r n cHg x0 k) (dEq r n)
theorem cSg : D124 r n aIk x0 r124 = (K5 (aUg r n) 0 1 2 3 9) :=
 (bZj r n).trans
 ((cBf r n).trans
 ((by kernel_rfl)))
theorem cLu : D124 r n aKf x0 r124 = D124 r n cEl x0 (K5 (aUg r n) 0 1 2 3 9) :=
 congrArg (fun k => D124 r n cEl x0 k) (cSg r n)
theorem cWk : D124 r n aKf x0 r124 = (K4 (aWk r n) 0 1 2 3) :=
 (cLu r n).trans
 ((by kernel_rfl))
theorem dTh : D124 r n c124 x0 r124 = D124 r n bHo x0 (K4 (aWk r n) 0 1 2 3) :=
 congrArg (fun k => D124 r n bHo x0 k) (cWk r n)
theorem eDx : D124 r n c124 x0 r124 = (K4 (s124 r n) 0 1 2 3) :=
 (dTh r n).trans
 ((by kernel_rfl))
theorem dMh : aG CF r n 124 args h = s124 r n (aR args 0) (aR args 1) (aR args 2) (aR args 3) h :=
 (by kernel_rfl : aG CF r n 124 args h = D124 r n c124 x0 r124 (aI args) h).trans ((congrFun (congrFun (eDx r n) (aI args)) h).trans (by kernel_rfl))
noncomputable def bEx (r : RT) (n : Nat) (kk5 : bZ) (x0 x5 x6 : DV) (h0 : Hp) : aH :=
 bnd (r 163 [x0, x6] h0) fun v1 h1 =>
 bnd (aE 0 v1 h1) fun v2 h2 =>
 bnd (aE 1 v1 h2) fun v3 h3 =>
 aU v3 (
 some (.t [.l0, v2, (aF 11)], h3)) (
 bnd (dI x0 h3) fun v4 h4 =>
 bnd (aD .eql v2 v4 h4) fun v5 h5 =>
 aU v5 (
 bnd (bL [(aF 0), (.s []), (aF 0), (aF 0)] [(3, 1, v2)] h5) fun v6 h6 =>
 bnd (aO [(aF 0), (.s []), (aF 0), (aF 0)] 1 [(0, 4, v6)] h6) fun v7 h7 =>
 bnd (aW 4 40 x5 v7 h7) fun v8 h8 =>
 some (.t [v8, (aF 0), (aF 0)], h8)) (
 bnd (r 164 [x0, v2] h5) fun v9 h9 =>
 bnd (aE 0 v9 h9) fun v10 h10 =>
 bnd (aE 1 v9 h10) fun v11 h11 =>
 bnd (aE 2 v9 h11) fun v12 h12 =>
 bnd (bS [(aF 0), (.s []), (aF 0), (aF 0)] h12) fun v13 h13 =>
 bnd (aJ 4 v13 v10 h13) fun _ h14 =>
 bnd (aD .neq v12 (aF 0) h14) fun v15 h15 =>
 aU v15 (
 some (.t [.l0, v2, v12], h15)) (
 bnd (aL 4 v13 h15) fun v16 h16 =>
 bnd (aO [(aF 0), (.s []), (aF 0), (aF 0)] 1 [(0, 4, v16)] h16) fun v17 h17 =>
 bnd (aW 4 40 x5 v17 h17) fun v18 h18 =>
     kk5 x0 v18 v11 h18)))
noncomputable def vZ (r : RT) (n : Nat) (m : Nat) : bZ :=
 Nat.rec (motive := fun _ => bZ) (fun _ _ _ _ => none) (fun _ ih => bEx r n ih) m
noncomputable def cJa (r : RT) (n : Nat) : bZ := vZ r n n
noncomputable def aSv (r : RT) (n : Nat) (x0 x5 x6 : DV) (h0 : Hp) : aH :=
 cJa r n x0 x5 x6 h0
noncomputable def aZc (r : RT) (n : Nat) (x0 x5 : DV) (h0 : Hp) : aH :=
 aSv r n x0 x5 (aF 0) h0
noncomputable def aTv (r : RT) (n : Nat) (x0 : DV) (h0 : Hp) : aH :=
 aZc r n x0 .l0 h0
noncomputable def aSt (r : RT) (n : Nat) (x0 : DV) (h0 : Hp) : aH :=
 bnd (dI x0 h0) fun v1 h1 =>
 bnd (aD .gtr v1 (aF 2000) h1) fun v2 h2 =>
 aU v2 (
 some (.t [.l0, (aF 0), (aF 12)], h2)) (
  aTv r n x0 h2)
noncomputable def s125 (r : RT) (n : Nat) (x0 : DV) (h0 : Hp) : aH :=
 aSt r n x0 h0
noncomputable abbrev c125 : Code := cf Tryz.f125
noncomputable abbrev aGg : Code := cR c125
noncomputable abbrev aEs : Code := cR aGg
noncomputable abbrev aFm : Code := cR aEs
noncomputable abbrev aRw : Code := cR aFm
noncomputable abbrev aNa : Code := cL aRw
noncomputable abbrev oI : Code := cL aNa
noncomputable abbrev bXw : Code := cL aFm
noncomputable abbrev cJx : Code := cL aEs
noncomputable abbrev cBr : Code := cL aGg
noncomputable abbrev bHz : Code := cL c125
noncomputable abbrev r125 : K := aQ CF Tryz.f125
noncomputable def D125 (r : RT) (n : Nat) (c : Code) (X : Nat → K) (k : K) : K := aP CF r 48 n c X r125 k
theorem cGy (kk5 : bZ) : D125 r n oI (xs x0 0 r125) (K3 kk5 0 5 6) = (K3 (bEx r n kk5) 0 5 6) :=
 (by kernel_rfl)
theorem bYw (m : Nat) : aK (fun kk => D125 r n oI (xs x0 0 r125) kk) m = (K3 (vZ r n m) 0 5 6) := by
 induction m with
 | zero => exact (by kernel_rfl : aK (fun kk => D125 r n oI (xs x0 0 r125) kk) 0 = (K3 (vZ r n 0) 0 5 6))
 | succ m ih =>
  refine (by kernel_rfl : aK (fun kk => D125 r n oI (xs x0 0 r125) kk) (m + 1) = D125 r n oI (xs x0 0 r125) (aK (fun kk => D125 r n oI (xs x0 0 r125) kk) m)).trans ?_
  rw [ih]
  exact (cGy r n (vZ r n m)).trans (by kernel_rfl)
theorem cXj : D125 r n aNa (xs x0 0 r125) r125 = (K3 (cJa r n) 0 5 6) :=
 (by kernel_rfl : D125 r n aNa (xs x0 0 r125) r125 = aK (fun kk => D125 r n oI (xs x0 0 r125) kk) n).trans ((bYw r n n).trans (by kernel_rfl))
theorem dCl : D125 r n aRw x0 r125 = (K3 (aSv r n) 0 5 6) :=
 (by kernel_rfl : D125 r n aRw x0 r125 = D125 r n aNa (xs x0 0 r125) r125).trans
 ((cXj r n).trans (by kernel_rfl))
theorem cBa : D125 r n aFm x0 r125 = D125 r n bXw x0 (K3 (aSv r n) 0 5 6) :=
 congrArg (fun k => D125 r n bXw x0 k) (dCl r n)
theorem cYx : D125 r n aFm x0 r125 = (K2 (aZc r n) 0 5) :=
 (cBa r n).trans
 ((by kernel_rfl))
theorem cIx : D125 r n aEs x0 r125 = D125 r n cJx x0 (K2 (aZc r n) 0 5) :=
 congrArg (fun k => D125 r n cJx x0 k) (cYx r n)
theorem cRp : D125 r n aEs x0 r125 = (K1 (aTv r n) 0) :=
 (cIx r n).trans
 ((by kernel_rfl))
theorem bZo : D125 r n aGg x0 r125 = D125 r n cBr x0 (K1 (aTv r n) 0) :=
 congrArg (fun k => D125 r n cBr x0 k) (cRp r n)
theorem cQn : D125 r n aGg x0 r125 = (K1 (aSt r n) 0) :=
 (bZo r n).trans
 ((by kernel_rfl))
theorem dId : D125 r n c125 x0 r125 = D125 r n bHz x0 (K1 (aSt r n) 0) :=
 congrArg (fun k => D125 r n bHz x0 k) (cQn r n)
theorem eDu : D125 r n c125 x0 r125 = (K1 (s125 r n) 0) :=
 (dId r n).trans
 ((by kernel_rfl))
theorem dUa : aG CF r n 125 args h = s125 r n (aR args 0) h :=
 (by kernel_rfl : aG CF r n 125 args h = D125 r n c125 x0 r125 (aI args) h).trans ((congrFun (congrFun (eDu r n) (aI args)) h).trans (by kernel_rfl))
end Go.Dd

namespace Go.Dd
open Go.Proofs
variable (r : RT) (n : Nat) (args : List DV) (h : Hp)
noncomputable def s129 (r : RT) (n : Nat) (x0 x1 x2 : DV) (h0 : Hp) : aH :=
 bnd (bS [(aF 0), (.s []), (aF 0), (aF 0)] h0) fun v1 h1 =>
 bnd (r 165 [x0, x1, x2] h1) fun v2 h2 =>
 bnd (gP .not v2 h2) fun v3 h3 =>
 aU v3 (
 bnd (r 170 [x0, (aF 0)] h3) fun v4 h4 =>
 bnd (r 168 [x0, v4, (aF 13)] h4) fun v5 h5 =>
 bnd (bL [(aF 0), (.s []), (aF 0), (aF 0)] [] h5) fun v6 h6 =>
 bnd (aJ 4 v1 v6 h6) fun _ h7 =>
 bnd (aL 4 v1 h7) fun v8 _ =>
 some (v8, h7)) (
 bnd (r 166 [x0] h3) fun v9 h9 =>
 bnd (aJ 4 v1 v9 h9) fun _ h10 =>
 bnd (aL 4 v1 h10) fun v11 _ =>
 some (v11, h10))
noncomputable abbrev c129 : Code := cf Tryz.f129
noncomputable abbrev r129 : K := aQ CF Tryz.f129
noncomputable def D129 (r : RT) (n : Nat) (c : Code) (X : Nat → K) (k : K) : K := aP CF r 21 n c X r129 k
theorem dZe : D129 r n c129 x0 r129 = (K3 (s129 r n) 0 1 2) :=
 (by kernel_rfl)
theorem dMs : aG CF r n 129 args h = s129 r n (aR args 0) (aR args 1) (aR args 2) h :=
 (by kernel_rfl : aG CF r n 129 args h = D129 r n c129 x0 r129 (aI args) h).trans ((congrFun (congrFun (dZe r n) (aI args)) h).trans (by kernel_rfl))
noncomputable def bHy (r : RT) (n : Nat) (kk2 : bT) (x0 x1 x2 x6 : DV) (h0 : Hp) : aH :=
 bnd (bJ x1 h0) fun v1 h1 =>
 bnd (aD .lss x6 v1 h1) fun v2 h2 =>
 bnd (gD v2 true (some (x0, h2)) h2) fun v3 h3 =>
 bnd (gD v2 true (aX v3 h3) h3) fun v4 h4 =>
 bnd (gD v2 true (aB 7 v4 h4) h4) fun v5 h5 =>
 bnd (gD v2 true (aA v5 h5) h5) fun v6 h6 =>
 bnd (gD v2 true (aD .eql v6 (aF 0) h6) h6) fun v7 h7 =>
 bnd (aN v2 v7 (.b false) h7) fun v8 h8 =>
 aU v8 (
 bnd (aC 1 x1 x6 h8) fun v9 h9 =>
 bnd (aA v9 h9) fun v10 h10 =>
 bnd (r 171 [x0, v10] h10) fun v11 h11 =>
 bnd (gJ 1 v11 h11) fun v12 h12 =>
 bnd (aD .neq v12 (aF 0) h12) fun v13 h13 =>
 bnd (gD v13 false (some (x1, h13)) h13) fun v14 h14 =>
 bnd (gD v13 false (some (x6, h14)) h14) fun v15 h15 =>
 bnd (gD v13 false (aC 1 v14 v15 h15) h15) fun v16 h16 =>
 bnd (gD v13 false (aA v16 h16) h16) fun v17 h17 =>
 bnd (gD v13 false (r 84 [v17] h17) h17) fun v18 h18 =>
 bnd (aN v13 (.b true) v18 h18) fun v19 h19 =>
 aU v19 (
 bnd (aC 1 x1 x6 h19) fun v20 h20 =>
 bnd (aA v20 h20) fun v21 h21 =>
 bnd (r 172 [x0, v21, (aF 16)] h21) fun v22 h22 =>
 some (.t [], h22)) (
 bnd (aX x0 h19) fun v23 h23 =>
 bnd (aB 0 v23 h23) fun v24 h24 =>
 bnd (aB 2 v24 h24) fun v25 h25 =>
 bnd (aA v25 h25) fun v26 h26 =>
 bnd (aD .eql v26 (aF 24) h26) fun v27 h27 =>
 aU v27 (
 bnd (aC 1 x1 x6 h27) fun v28 h28 =>
 bnd (aA v28 h28) fun v29 h29 =>
 bnd (r 172 [x0, v29, (aF 18)] h29) fun v30 h30 =>
 some (.t [], h30)) (
 bnd (aX x0 h27) fun v31 h31 =>
 bnd (aB 6 v31 h31) fun v32 h32 =>
 bnd (aA v32 h32) fun v33 h33 =>
 bnd (aW 3 32 .l0 v33 h33) fun v34 h34 =>
 bnd (aC 1 x1 x6 (resv 1 h34)) fun v35 h35 =>
 bnd (aA v35 h35) fun v36 h36 =>
 bnd (aX x0 h36) fun v37 h37 =>
 bnd (aB 0 v37 h37) fun v38 h38 =>
 bnd (aB 2 v38 h38) fun v39 h39 =>
 bnd (aA v39 h39) fun v40 h40 =>
 bnd (bL [(.s []), (aF 0), (aF 0)] [(0, 1, v36), (1, 1, x2), (2, 1, v40)] h40) fun v41 h41 =>
 bnd (bB (bN 0 h34.next) [(.s []), (aF 0), (aF 0)] 1 [(0, 3, v41)] h41) fun v42 h42 =>
 bnd (aW 3 32 v34 v42 h42) fun v43 h43 =>
 bnd (aX x0 h43) fun v44 h44 =>
 bnd (aB 6 v44 h44) fun v45 h45 =>
 bnd (aJ 1 v45 v43 h45) fun _ h46 =>
 bnd (aX x0 h46) fun v47 h47 =>
 bnd (aB 0 v47 h47) fun v48 h48 =>
 bnd (aB 2 v48 h48) fun v49 h49 =>
 bnd (aA v49 h49) fun v50 h50 =>
 bnd (aD .add v50 (aF 1) h50) fun v51 h51 =>
 bnd (aX x0 h51) fun v52 h52 =>
 bnd (aB 0 v52 h52) fun v53 h53 =>
 bnd (aB 2 v53 h53) fun v54 h54 =>
 bnd (aJ 1 v54 v51 h54) fun _ h55 =>
 bnd (aD .add x6 (aF 1) h55) fun v56 h56 =>
     kk2 x0 x1 x2 v56 h56))) (
 some (.t [], h8))
noncomputable def wG (r : RT) (n : Nat) (m : Nat) : bT :=
 Nat.rec (motive := fun _ => bT) (fun _ _ _ _ _ => none) (fun _ ih => bHy r n ih) m
noncomputable def cBl (r : RT) (n : Nat) : bT := wG r n n
noncomputable def aXs (r : RT) (n : Nat) (x0 x1 x2 x6 : DV) (h0 : Hp) : aH :=
 cBl r n x0 x1 x2 x6 h0
noncomputable def s130 (r : RT) (n : Nat) (x0 x1 x2 : DV) (h0 : Hp) : aH :=
 aXs r n x0 x1 x2 (aF 0) h0
noncomputable abbrev c130 : Code := cf Tryz.f130
noncomputable abbrev aWf : Code := cR c130
noncomputable abbrev aHf : Code := cL aWf
noncomputable abbrev pE : Code := cL aHf
noncomputable abbrev bTf : Code := cL c130
noncomputable abbrev r130 : K := aQ CF Tryz.f130
noncomputable def D130 (r : RT) (n : Nat) (c : Code) (X : Nat → K) (k : K) : K := aP CF r 87 n c X r130 k
theorem bYg (kk2 : bT) : D130 r n pE (xs x0 0 r130) (K4 kk2 0 1 2 6) = (K4 (bHy r n kk2) 0 1 2 6) :=
 (by kernel_rfl)
theorem cBs (m : Nat) : aK (fun kk => D130 r n pE (xs x0 0 r130) kk) m = (K4 (wG r n m) 0 1 2 6) := by
 induction m with
 | zero => exact (by kernel_rfl : aK (fun kk => D130 r n pE (xs x0 0 r130) kk) 0 = (K4 (wG r n 0) 0 1 2 6))
 | succ m ih =>
  refine (by kernel_rfl : aK (fun kk => D130 r n pE (xs x0 0 r130) kk) (m + 1) = D130 r n pE (xs x0 0 r130) (aK (fun kk => D130 r n pE (xs x0 0 r130) kk) m)).trans ?_
  rw [ih]
  exact (bYg r n (wG r n m)).trans (by kernel_rfl)
theorem cSn : D130 r n aHf (xs x0 0 r130) r130 = (K4 (cBl r n) 0 1 2 6) :=
 (by kernel_rfl : D130 r n aHf (xs x0 0 r130) r130 = aK (fun kk => D130 r n pE (xs x0 0 r130) kk) n).trans ((cBs r n n).trans (by kernel_rfl))
theorem dCz : D130 r n aWf x0 r130 = (K4 (aXs r n) 0 1 2 6) :=
 (by kernel_rfl : D130 r n aWf x0 r130 = D130 r n aHf (xs x0 0 r130) r130).trans
 ((cSn r n).trans (by kernel_rfl))
theorem dJw : D130 r n c130 x0 r130 = D130 r n bTf x0 (K4 (aXs r n) 0 1 2 6) :=
 congrArg (fun k => D130 r n bTf x0 k) (dCz r n)
theorem dXu : D130 r n c130 x0 r130 = (K3 (s130 r n) 0 1 2) :=
 (dJw r n).trans
 ((by kernel_rfl))
theorem dOm : aG CF r n 130 args h = s130 r n (aR args 0) (aR args 1) (aR args 2) h :=
 (by kernel_rfl : aG CF r n 130 args h = D130 r n c130 x0 r130 (aI args) h).trans ((congrFun (congrFun (dXu r n) (aI args)) h).trans (by kernel_rfl))
noncomputable def rO (r : RT) (n : Nat) (x0 x3 x14 x17 : DV) (h0 : Hp) : aH :=
 aU x17 (
 bnd (aL 6 x3 h0) fun v1 h1 =>
 bnd (r 173 [x0, v1] h1) fun v2 h2 =>
 bnd (bS [(aF 0), (.s []), (aF 0), .l0] h2) fun v3 h3 =>
 bnd (aJ 4 v3 v2 h3) fun _ h4 =>
 bnd (aX x0 h4) fun v5 h5 =>
 bnd (aB 7 v5 h5) fun v6 h6 =>
 bnd (aA v6 h6) fun v7 h7 =>
 bnd (aD .eql v7 (aF 0) h7) fun v8 h8 =>
 aU v8 (
 bnd (aL 4 v3 h8) fun v9 h9 =>
 bnd (fJ [x0, v9] h9) fun v10 h10 =>
 bnd (r 132 [x0, (aF 6), v10, (aF 0)] h10) fun v11 h11 =>
 some (.t [], h11)) (
 some (.t [], h8))) (
 bnd (aD .eql x14 (aF 5) h0) fun v12 h12 =>
 aU v12 (
 bnd (aB 1 x3 h12) fun v13 h13 =>
 bnd (aA v13 h13) fun v14 h14 =>
 bnd (r 175 [x0, v14] h14) fun v15 h15 =>
 some (.t [], h15)) (
 bnd (aD .eql x14 (aF 6) h12) fun v16 h16 =>
 aU v16 (
 bnd (aL 6 x3 h16) fun v17 h17 =>
 bnd (r 176 [x0, v17] h17) fun v18 h18 =>
 some (.t [], h18)) (
 bnd (aD .eql x14 (aF 7) h16) fun v19 h19 =>
 aU v19 (
 bnd (aB 5 x3 h19) fun v20 h20 =>
 bnd (aA v20 h20) fun v21 h21 =>
 bnd (bJ v21 h21) fun v22 h22 =>
 bnd (aD .eql v22 (aF 0) h22) fun v23 h23 =>
 aU v23 (
 bnd (r 172 [x0, (.s []), (aF 1)] h23) fun v24 h24 =>
 some (.t [], h24)) (
 bnd (aL 6 x3 h23) fun v25 h25 =>
 bnd (r 177 [x0, v25] h25) fun v26 h26 =>
 bnd (gP .not v26 h26) fun v27 h27 =>
 aU v27 (
 bnd (aB 5 x3 h27) fun v28 h28 =>
 bnd (aA v28 h28) fun v29 h29 =>
 bnd (aC 6 v29 (aF 0) h29) fun v30 h30 =>
 bnd (aL 6 v30 h30) fun v31 h31 =>
 bnd (r 178 [x0, v31] h31) fun v32 h32 =>
 bnd (aB 1 x3 h32) fun v33 h33 =>
 bnd (aA v33 h33) fun v34 h34 =>
 bnd (aB 5 x3 h34) fun v35 h35 =>
 bnd (aA v35 h35) fun v36 h36 =>
 bnd (cT 6 v36 (some (aF 1)) none h36) fun v37 h37 =>
 bnd (r 179 [x0, v32, v34, v37] h37) fun v38 h38 =>
 some (.t [], h38)) (
 some (.t [], h27)))) (
 bnd (aD .eql x14 (aF 8) h19) fun v39 h39 =>
 aU v39 (
 bnd (aL 6 x3 h39) fun v40 h40 =>
 bnd (r 180 [x0, v40] h40) fun v41 h41 =>
 some (.t [], h41)) (
 bnd (aD .eql x14 (aF 9) h39) fun v42 h42 =>
 aU v42 (
 bnd (aX x0 h42) fun v43 h43 =>
 bnd (aB 0 v43 h43) fun v44 h44 =>
 bnd (aB 2 v44 h44) fun v45 h45 =>
 bnd (aA v45 h45) fun v46 h46 =>
 bnd (aB 3 x3 h46) fun v47 h47 =>
 bnd (aA v47 h47) fun v48 h48 =>
 bnd (bJ v48 h48) fun v49 h49 =>
 bnd (r 132 [x0, (aF 18), v46, v49] h49) fun v50 h50 =>
 bnd (aX x0 h50) fun v51 h51 =>
 bnd (aB 0 v51 h51) fun v52 h52 =>
 bnd (aB 5 v52 h52) fun v53 h53 =>
 bnd (aA v53 h53) fun v54 h54 =>
 bnd (bJ v54 h54) fun v55 h55 =>
 bnd (r 132 [x0, (aF 16), (aF 0), (aF 0)] h55) fun v56 h56 =>
 bnd (aL 6 x3 h56) fun v57 h57 =>
 bnd (r 181 [x0, v57] h57) fun v58 h58 =>
 bnd (r 132 [x0, (aF 19), (aF 0), (aF 0)] h58) fun v59 h59 =>
 bnd (aX x0 h59) fun v60 h60 =>
 bnd (aB 0 v60 h60) fun v61 h61 =>
 bnd (aB 5 v61 h61) fun v62 h62 =>
 bnd (aA v62 h62) fun v63 h63 =>
 bnd (bJ v63 h63) fun v64 h64 =>
 bnd (r 182 [x0, v55, v64] h64) fun v65 h65 =>
 some (.t [], h65)) (
 bnd (aD .eql x14 (aF 10) h42) fun v66 h66 =>
 aU v66 (
 bnd (aB 5 x3 h66) fun v67 h67 =>
 bnd (aA v67 h67) fun v68 h68 =>
 bnd (bJ v68 h68) fun v69 h69 =>
 bnd (aD .neq v69 (aF 1) h69) fun v70 h70 =>
 aU v70 (
 bnd (r 172 [x0, (.s []), (aF 1)] h70) fun v71 h71 =>
 some (.t [], h71)) (
 bnd (aB 5 x3 h70) fun v72 h72 =>
 bnd (aA v72 h72) fun v73 h73 =>
 bnd (aC 6 v73 (aF 0) h73) fun v74 h74 =>
 bnd (aL 6 v74 h74) fun v75 h75 =>
 bnd (r 131 [x0, v75] h75) fun v76 h76 =>
 bnd (r 132 [x0, (aF 20), (aF 0), (aF 0)] h76) fun v77 h77 =>
 some (.t [], h77))) (
 bnd (r 172 [x0, (.s []), (aF 1)] h66) fun v78 h78 =>
 some (.t [], h78))))))))
noncomputable def aVw (r : RT) (n : Nat) (x0 x3 x14 : DV) (h0 : Hp) : aH :=
 bnd (aD .eql x14 (aF 1) h0) fun v1 h1 =>
 aU v1 (
  rO r n x0 x3 x14 v1 h1) (
 bnd (aD .eql x14 (aF 2) h1) fun v2 h2 =>
 aU v2 (
   rO r n x0 x3 x14 v2 h2) (
 bnd (aD .eql x14 (aF 3) h2) fun v3 h3 =>
 aU v3 (
    rO r n x0 x3 x14 v3 h3) (
 bnd (aD .eql x14 (aF 4) h3) fun v4 h4 =>
    rO r n x0 x3 x14 v4 h4)))
noncomputable def aTw (r : RT) (n : Nat) (x0 x3 : DV) (h0 : Hp) : aH :=
 bnd (aB 0 x3 h0) fun v1 h1 =>
 bnd (aA v1 h1) fun v2 h2 =>
  aVw r n x0 x3 v2 h2
noncomputable def wW (r : RT) (n : Nat) (x0 x3 : DV) (h0 : Hp) : aH :=
 bnd (aX x0 h0) fun v1 h1 =>
 bnd (aB 7 v1 h1) fun v2 h2 =>
 bnd (aA v2 h2) fun v3 h3 =>
 bnd (aD .neq v3 (aF 0) h3) fun v4 h4 =>
 aU v4 (
 some (.t [], h4)) (
  aTw r n x0 x3 h4)
noncomputable def s131 (r : RT) (n : Nat) (x0 x1 : DV) (h0 : Hp) : aH :=
 bnd (bQ x1 h0) fun v1 h1 =>
  wW r n x0 v1 h1
noncomputable abbrev c131 : Code := cf Tryz.f131
noncomputable abbrev aGm : Code := cR c131
noncomputable abbrev aJt : Code := cR aGm
noncomputable abbrev aSy : Code := cR aJt
noncomputable abbrev aMv : Code := cL aSy
noncomputable abbrev dMu : Code := cR aMv
noncomputable abbrev bUb : Code := cL aMv
noncomputable abbrev cMy : Code := cL aJt
noncomputable abbrev cMj : Code := cL aGm
noncomputable abbrev aYb : Code := cL c131
noncomputable abbrev r131 : K := aQ CF Tryz.f131
noncomputable def D131 (r : RT) (n : Nat) (c : Code) (X : Nat → K) (k : K) : K := aP CF r 128 n c X r131 k
theorem cOd : D131 r n dMu (xs x0 0 r131) r131 = (K4 (rO r n) 0 3 14 17) :=
 (by kernel_rfl)
theorem bTy : D131 r n aMv (xs x0 0 r131) r131 = D131 r n bUb (xs x0 0 r131) (K4 (rO r n) 0 3 14 17) :=
 congrArg (fun k => D131 r n bUb (xs x0 0 r131) k) (cOd r n)
theorem cWx : D131 r n aSy x0 r131 = (K3 (aVw r n) 0 3 14) :=
 (by kernel_rfl : D131 r n aSy x0 r131 = D131 r n aMv (xs x0 0 r131) r131).trans
 ((bTy r n).trans
 ((by kernel_rfl)))
theorem cJd : D131 r n aJt x0 r131 = D131 r n cMy x0 (K3 (aVw r n) 0 3 14) :=
 congrArg (fun k => D131 r n cMy x0 k) (cWx r n)
theorem dBg : D131 r n aJt x0 r131 = (K2 (aTw r n) 0 3) :=
 (cJd r n).trans
 ((by kernel_rfl))
theorem cHc : D131 r n aGm x0 r131 = D131 r n cMj x0 (K2 (aTw r n) 0 3) :=
 congrArg (fun k => D131 r n cMj x0 k) (dBg r n)
theorem dDm : D131 r n aGm x0 r131 = (K2 (wW r n) 0 3) :=
 (cHc r n).trans
 ((by kernel_rfl))
theorem dHf : D131 r n c131 x0 r131 = D131 r n aYb x0 (K2 (wW r n) 0 3) :=
 congrArg (fun k => D131 r n aYb x0 k) (dDm r n)
theorem dOq (q0 : gV) : D131 r n aYb x0 (K2 q0 0 3) = fun (env : aZ) (h : Hp) =>
 bnd (bQ (env 1) h) fun v1 h1 =>
  q0 (env 0) v1 h1 := by kernel_rfl
theorem cZn : (fun (env : aZ) (h : Hp) =>
 bnd (bQ (env 1) h) fun v1 h1 =>
  wW r n (env 0) v1 h1) = (K2 (s131 r n) 0 1) := by kernel_rfl
theorem eAg : D131 r n c131 x0 r131 = (K2 (s131 r n) 0 1) :=
 (dHf r n).trans
 ((dOq r n (wW r n)).trans (cZn r n))
theorem dTe : aG CF r n 131 args h = s131 r n (aR args 0) (aR args 1) h :=
 (by kernel_rfl : aG CF r n 131 args h = D131 r n c131 x0 r131 (aI args) h).trans ((congrFun (congrFun (eAg r n) (aI args)) h).trans (by kernel_rfl))
noncomputable def s132 (r : RT) (n : Nat) (x0 x1 x2 x3 : DV) (h0 : Hp) : aH :=
 bnd (aX x0 h0) fun v1 h1 =>
 bnd (aB 0 v1 h1) fun v2 h2 =>
 bnd (aB 5 v2 h2) fun v3 h3 =>
 bnd (aA v3 h3) fun v4 h4 =>
 bnd (bL [(aF 0), (aF 0), (aF 0)] [(0, 1, x1), (1, 1, x2), (2, 1, x3)] h4) fun v5 h5 =>
 bnd (aO [(aF 0), (aF 0), (aF 0)] 1 [(0, 3, v5)] h5) fun v6 h6 =>
 bnd (aW 3 24 v4 v6 h6) fun v7 h7 =>
 bnd (aX x0 h7) fun v8 h8 =>
 bnd (aB 0 v8 h8) fun v9 h9 =>
 bnd (aB 5 v9 h9) fun v10 h10 =>
 bnd (aJ 1 v10 v7 h10) fun _ h11 =>
 some (.t [], h11)
noncomputable abbrev c132 : Code := cf Tryz.f132
noncomputable abbrev r132 : K := aQ CF Tryz.f132
noncomputable def D132 (r : RT) (n : Nat) (c : Code) (X : Nat → K) (k : K) : K := aP CF r 23 n c X r132 k
theorem eFs : D132 r n c132 x0 r132 = (K4 (s132 r n) 0 1 2 3) :=
 (by kernel_rfl)
theorem dLe : aG CF r n 132 args h = s132 r n (aR args 0) (aR args 1) (aR args 2) (aR args 3) h :=
 (by kernel_rfl : aG CF r n 132 args h = D132 r n c132 x0 r132 (aI args) h).trans ((congrFun (congrFun (eFs r n) (aI args)) h).trans (by kernel_rfl))
noncomputable def fE (r : RT) (n : Nat) (h0 : Hp) : aH :=
 some ((.b true), h0)
noncomputable def aZt (r : RT) (n : Nat) (kk5 : bZ) (x0 x1 x5 : DV) (h0 : Hp) : aH :=
 bnd (bJ x0 h0) fun v1 h1 =>
 bnd (aD .lss x5 v1 h1) fun v2 h2 =>
 aU v2 (
 bnd (aC 3 x0 x5 h2) fun v3 h3 =>
 bnd (aL 3 v3 h3) fun v4 h4 =>
 bnd (aC 3 x1 x5 h4) fun v5 h5 =>
 bnd (aL 3 v5 h5) fun v6 h6 =>
 bnd (bNg .neq v4 v6 h6) fun v7 h7 =>
 aU v7 (
 some ((.b false), h7)) (
 bnd (aD .add x5 (aF 1) h7) fun v8 h8 =>
    kk5 x0 x1 v8 h8)) (
      fE r n h2)
noncomputable def vY (r : RT) (n : Nat) (m : Nat) : bZ :=
 Nat.rec (motive := fun _ => bZ) (fun _ _ _ _ => none) (fun _ ih => aZt r n ih) m
noncomputable def bYp (r : RT) (n : Nat) : bZ := vY r n n
noncomputable def aSc (r : RT) (n : Nat) (x0 x1 x5 : DV) (h0 : Hp) : aH :=
 bYp r n x0 x1 x5 h0
noncomputable def aXm (r : RT) (n : Nat) (x0 x1 : DV) (h0 : Hp) : aH :=
 aSc r n x0 x1 (aF 0) h0
noncomputable def aSj (r : RT) (n : Nat) (x0 x1 : DV) (h0 : Hp) : aH :=
 bnd (bJ x0 h0) fun v1 h1 =>
 bnd (bJ x1 h1) fun v2 h2 =>
 bnd (aD .neq v1 v2 h2) fun v3 h3 =>
 aU v3 (
 some ((.b false), h3)) (
  aXm r n x0 x1 h3)
noncomputable def s134 (r : RT) (n : Nat) (x0 x1 : DV) (h0 : Hp) : aH :=
 aSj r n x0 x1 h0
noncomputable abbrev c134 : Code := cf Tryz.f134
noncomputable abbrev aLl : Code := cR c134
noncomputable abbrev aJf : Code := cR aLl
noncomputable abbrev dJy : Code := cR aJf
noncomputable abbrev zO : Code := cL aJf
noncomputable abbrev aQz : Code := cR zO
noncomputable abbrev aMy : Code := cL aQz
noncomputable abbrev pD : Code := cL aMy
noncomputable abbrev bYu : Code := cL zO
noncomputable abbrev bYm : Code := cL aLl
noncomputable abbrev bHb : Code := cL c134
noncomputable abbrev r134 : K := aQ CF Tryz.f134
noncomputable def D134 (r : RT) (n : Nat) (c : Code) (X : Nat → K) (k : K) : K := aP CF r 26 n c X r134 k
theorem cUz : D134 r n dJy x0 r134 = (K0 (fE r n)) :=
 (by kernel_rfl)
theorem bPm (kk5 : bZ) : D134 r n pD (xs x0 0 (K0 (fE r n))) (K3 kk5 0 1 5) = (K3 (aZt r n kk5) 0 1 5) :=
 (by kernel_rfl)
theorem cNk (m : Nat) : aK (fun kk => D134 r n pD (xs x0 0 (K0 (fE r n))) kk) m = (K3 (vY r n m) 0 1 5) := by
 induction m with
 | zero => exact (by kernel_rfl : aK (fun kk => D134 r n pD (xs x0 0 (K0 (fE r n))) kk) 0 = (K3 (vY r n 0) 0 1 5))
 | succ m ih =>
  refine (by kernel_rfl : aK (fun kk => D134 r n pD (xs x0 0 (K0 (fE r n))) kk) (m + 1) = D134 r n pD (xs x0 0 (K0 (fE r n))) (aK (fun kk => D134 r n pD (xs x0 0 (K0 (fE r n))) kk) m)).trans ?_
  rw [ih]
  exact (bPm r n (vY r n m)).trans (by kernel_rfl)
theorem cUa : D134 r n aMy (xs x0 0 (K0 (fE r n))) (K0 (fE r n)) = (K3 (bYp r n) 0 1 5) :=
 (by kernel_rfl : D134 r n aMy (xs x0 0 (K0 (fE r n))) (K0 (fE r n)) = aK (fun kk => D134 r n pD (xs x0 0 (K0 (fE r n))) kk) n).trans ((cNk r n n).trans (by kernel_rfl))
theorem cOq : D134 r n aQz x0 (K0 (fE r n)) = (K3 (aSc r n) 0 1 5) :=
 (by kernel_rfl : D134 r n aQz x0 (K0 (fE r n)) = D134 r n aMy (xs x0 0 (K0 (fE r n))) (K0 (fE r n))).trans
 ((cUa r n).trans (by kernel_rfl))
theorem cMk : D134 r n aJf x0 r134 = D134 r n zO x0 (K0 (fE r n)) :=
 congrArg (fun k => D134 r n zO x0 k) (cUz r n)
theorem bVu : D134 r n zO x0 (K0 (fE r n)) = D134 r n bYu x0 (K3 (aSc r n) 0 1 5) :=
 congrArg (fun k => D134 r n bYu x0 k) (cOq r n)
theorem dDy : D134 r n aJf x0 r134 = (K2 (aXm r n) 0 1) :=
 (cMk r n).trans
 ((bVu r n).trans
 ((by kernel_rfl)))
theorem bPz : D134 r n aLl x0 r134 = D134 r n bYm x0 (K2 (aXm r n) 0 1) :=
 congrArg (fun k => D134 r n bYm x0 k) (dDy r n)
theorem cPi : D134 r n aLl x0 r134 = (K2 (aSj r n) 0 1) :=
 (bPz r n).trans
 ((by kernel_rfl))
theorem dHd : D134 r n c134 x0 r134 = D134 r n bHb x0 (K2 (aSj r n) 0 1) :=
 congrArg (fun k => D134 r n bHb x0 k) (cPi r n)
theorem eAr : D134 r n c134 x0 r134 = (K2 (s134 r n) 0 1) :=
 (dHd r n).trans
 ((by kernel_rfl))
theorem dHe : aG CF r n 134 args h = s134 r n (aR args 0) (aR args 1) h :=
 (by kernel_rfl : aG CF r n 134 args h = D134 r n c134 x0 r134 (aI args) h).trans ((congrFun (congrFun (eAr r n) (aI args)) h).trans (by kernel_rfl))
noncomputable def eX (r : RT) (n : Nat) (h0 : Hp) : aH :=
 some ((.i .i64 (Int.negSucc 0)), h0)
noncomputable def bEe (r : RT) (n : Nat) (kk4 : bT) (x0 x1 x7 x8 : DV) (h0 : Hp) : aH :=
 bnd (aD .lss x8 x7 h0) fun v1 h1 =>
 aU v1 (
 bnd (aC 1 x0 x8 h1) fun v2 h2 =>
 bnd (aA v2 h2) fun v3 h3 =>
 bnd (jX CF r x1 [v3] h3) fun v4 h4 =>
 aU v4 (
 some (x8, h4)) (
 bnd (aD .add x8 (aF 1) h4) fun v5 h5 =>
    kk4 x0 x1 x7 v5 h5)) (
      eX r n h1)
noncomputable def wN (r : RT) (n : Nat) (m : Nat) : bT :=
 Nat.rec (motive := fun _ => bT) (fun _ _ _ _ _ => none) (fun _ ih => bEe r n ih) m
noncomputable def cIk (r : RT) (n : Nat) : bT := wN r n n
noncomputable def aYv (r : RT) (n : Nat) (x0 x1 x7 x8 : DV) (h0 : Hp) : aH :=
 cIk r n x0 x1 x7 x8 h0
noncomputable def aTd (r : RT) (n : Nat) (x0 x1 : DV) (h0 : Hp) : aH :=
 bnd (bJ x0 h0) fun v1 h1 =>
  aYv r n x0 x1 v1 (aF 0) h1
noncomputable def s135 (r : RT) (n : Nat) (x0 x1 : DV) (h0 : Hp) : aH :=
 aTd r n x0 x1 h0
noncomputable abbrev c135 : Code := cf Tryz.f135
noncomputable abbrev aNk : Code := cR c135
noncomputable abbrev dJg : Code := cR aNk
noncomputable abbrev yT : Code := cL aNk
noncomputable abbrev aUi : Code := cR yT
noncomputable abbrev aEr : Code := cL aUi
noncomputable abbrev oW : Code := cL aEr
noncomputable abbrev cIv : Code := cL yT
noncomputable abbrev bYj : Code := cL c135
noncomputable abbrev r135 : K := aQ CF Tryz.f135
noncomputable def D135 (r : RT) (n : Nat) (c : Code) (X : Nat → K) (k : K) : K := aP CF r 19 n c X r135 k
theorem cTg : D135 r n dJg x0 r135 = (K0 (eX r n)) :=
 (by kernel_rfl)
theorem bVc (kk4 : bT) : D135 r n oW (xs x0 0 (K0 (eX r n))) (K4 kk4 0 1 7 8) = (K4 (bEe r n kk4) 0 1 7 8) :=
 (by kernel_rfl)
theorem bPs (m : Nat) : aK (fun kk => D135 r n oW (xs x0 0 (K0 (eX r n))) kk) m = (K4 (wN r n m) 0 1 7 8) := by
 induction m with
 | zero => exact (by kernel_rfl : aK (fun kk => D135 r n oW (xs x0 0 (K0 (eX r n))) kk) 0 = (K4 (wN r n 0) 0 1 7 8))
 | succ m ih =>
  refine (by kernel_rfl : aK (fun kk => D135 r n oW (xs x0 0 (K0 (eX r n))) kk) (m + 1) = D135 r n oW (xs x0 0 (K0 (eX r n))) (aK (fun kk => D135 r n oW (xs x0 0 (K0 (eX r n))) kk) m)).trans ?_
  rw [ih]
  exact (bVc r n (wN r n m)).trans (by kernel_rfl)
theorem cZu : D135 r n aEr (xs x0 0 (K0 (eX r n))) (K0 (eX r n)) = (K4 (cIk r n) 0 1 7 8) :=
 (by kernel_rfl : D135 r n aEr (xs x0 0 (K0 (eX r n))) (K0 (eX r n)) = aK (fun kk => D135 r n oW (xs x0 0 (K0 (eX r n))) kk) n).trans ((bPs r n n).trans (by kernel_rfl))
theorem dDp : D135 r n aUi x0 (K0 (eX r n)) = (K4 (aYv r n) 0 1 7 8) :=
 (by kernel_rfl : D135 r n aUi x0 (K0 (eX r n)) = D135 r n aEr (xs x0 0 (K0 (eX r n))) (K0 (eX r n))).trans
 ((cZu r n).trans (by kernel_rfl))
theorem cEz : D135 r n aNk x0 r135 = D135 r n yT x0 (K0 (eX r n)) :=
 congrArg (fun k => D135 r n yT x0 k) (cTg r n)
theorem bTr : D135 r n yT x0 (K0 (eX r n)) = D135 r n cIv x0 (K4 (aYv r n) 0 1 7 8) :=
 congrArg (fun k => D135 r n cIv x0 k) (dDp r n)
theorem cWa : D135 r n aNk x0 r135 = (K2 (aTd r n) 0 1) :=
 (cEz r n).trans
 ((bTr r n).trans
 ((by kernel_rfl)))
theorem dNh : D135 r n c135 x0 r135 = D135 r n bYj x0 (K2 (aTd r n) 0 1) :=
 congrArg (fun k => D135 r n bYj x0 k) (cWa r n)
theorem eFg : D135 r n c135 x0 r135 = (K2 (s135 r n) 0 1) :=
 (dNh r n).trans
 ((by kernel_rfl))
theorem dTc : aG CF r n 135 args h = s135 r n (aR args 0) (aR args 1) h :=
 (by kernel_rfl : aG CF r n 135 args h = D135 r n c135 x0 r135 (aI args) h).trans ((congrFun (congrFun (eFg r n) (aI args)) h).trans (by kernel_rfl))
noncomputable def eQ (r : RT) (n : Nat) (x0 x4 : DV) (h0 : Hp) : aH :=
 bnd (r 161 [x4] h0) fun v1 h1 =>
 bnd (aE 0 v1 h1) fun v2 h2 =>
 bnd (aE 1 v1 h2) fun v3 h3 =>
 bnd (aD .neq v3 (aF 0) h3) fun v4 h4 =>
 bnd (gD v4 false (some (x0, h4)) h4) fun v5 h5 =>
 bnd (gD v4 false (bJ v5 h5) h5) fun v6 h6 =>
 bnd (gD v4 false (aD .gtr v6 (aF 0) h6) h6) fun v7 h7 =>
 bnd (aN v4 (.b true) v7 h7) fun v8 h8 =>
 aU v8 (
 some (.t [.l0, (aF 19)], h8)) (
 some (.t [x4, (aF 0)], h8))
noncomputable def aEw (r : RT) (n : Nat) (kk4 : gV) (x0 x4 : DV) (h0 : Hp) : aH :=
 bnd (bJ x0 h0) fun v1 h1 =>
 bnd (aD .geq v1 (aF 3) h1) fun v2 h2 =>
 aU v2 (
 bnd (aC 1 x0 (aF 0) (resv 1 h2)) fun v3 h3 =>
 bnd (aA v3 h3) fun v4 h4 =>
 bnd (cX .i64 v4 h4) fun v5 h5 =>
 bnd (aC 1 x0 (aF 1) h5) fun v6 h6 =>
 bnd (aA v6 h6) fun v7 h7 =>
 bnd (cX .i64 v7 h7) fun v8 h8 =>
 bnd (aC 1 x0 (aF 2) h8) fun v9 h9 =>
 bnd (aA v9 h9) fun v10 h10 =>
 bnd (cX .i64 v10 h10) fun v11 h11 =>
 bnd (bL [(aF 0), (aF 0), (aF 0)] [(0, 1, v5), (1, 1, v8), (2, 1, v11)] h11) fun v12 h12 =>
 bnd (bB (bN 0 h2.next) [(aF 0), (aF 0), (aF 0)] 1 [(0, 3, v12)] h12) fun v13 h13 =>
 bnd (aW 3 24 x4 v13 h13) fun v14 h14 =>
 bnd (cT 1 x0 (some (aF 3)) none h14) fun v15 h15 =>
      kk4 v15 v14 h15) (
      eQ r n x0 x4 h2)
noncomputable def uO (r : RT) (n : Nat) (m : Nat) : gV :=
 Nat.rec (motive := fun _ => gV) (fun _ _ _ => none) (fun _ ih => aEw r n ih) m
noncomputable def cAw (r : RT) (n : Nat) : gV := uO r n n
noncomputable def aWm (r : RT) (n : Nat) (x0 x4 : DV) (h0 : Hp) : aH :=
 cAw r n x0 x4 h0
noncomputable def aVe (r : RT) (n : Nat) (x0 : DV) (h0 : Hp) : aH :=
 aWm r n x0 .l0 h0
noncomputable def s144 (r : RT) (n : Nat) (x0 : DV) (h0 : Hp) : aH :=
 aVe r n x0 h0
noncomputable abbrev c144 : Code := cf Tryz.f144
noncomputable abbrev aLs : Code := cR c144
noncomputable abbrev aNb : Code := cR aLs
noncomputable abbrev dJk : Code := cR aNb
noncomputable abbrev aGp : Code := cL aNb
noncomputable abbrev aJa : Code := cL aGp
noncomputable abbrev mN : Code := cL aJa
noncomputable abbrev bZl : Code := cL aLs
noncomputable abbrev cNw : Code := cL c144
noncomputable abbrev r144 : K := aQ CF Tryz.f144
noncomputable def D144 (r : RT) (n : Nat) (c : Code) (X : Nat → K) (k : K) : K := aP CF r 41 n c X r144 k
theorem dBu : D144 r n dJk x0 r144 = (K2 (eQ r n) 0 4) :=
 (by kernel_rfl)
theorem bYy (kk4 : gV) (q0 : gV) : D144 r n mN (xs x0 0 (K2 q0 0 4)) (K2 kk4 0 4) = fun (env : aZ) (h : Hp) =>
 bnd (bJ (env 0) h) fun v1 h1 =>
 bnd (aD .geq v1 (aF 3) h1) fun v2 h2 =>
 aU v2 (
 bnd (aC 1 (env 0) (aF 0) (resv 1 h2)) fun v3 h3 =>
 bnd (aA v3 h3) fun v4 h4 =>
 bnd (cX .i64 v4 h4) fun v5 h5 =>
 bnd (aC 1 (env 0) (aF 1) h5) fun v6 h6 =>
 bnd (aA v6 h6) fun v7 h7 =>
 bnd (cX .i64 v7 h7) fun v8 h8 =>
 bnd (aC 1 (env 0) (aF 2) h8) fun v9 h9 =>
 bnd (aA v9 h9) fun v10 h10 =>
 bnd (cX .i64 v10 h10) fun v11 h11 =>
 bnd (bL [(aF 0), (aF 0), (aF 0)] [(0, 1, v5), (1, 1, v8), (2, 1, v11)] h11) fun v12 h12 =>
 bnd (bB (bN 0 h2.next) [(aF 0), (aF 0), (aF 0)] 1 [(0, 3, v12)] h12) fun v13 h13 =>
 bnd (aW 3 24 (env 4) v13 h13) fun v14 h14 =>
 bnd (cT 1 (env 0) (some (aF 3)) none h14) fun v15 h15 =>
      kk4 v15 v14 h15) (
      q0 (env 0) (env 4) h2) := by kernel_rfl
theorem bLs (kk4 : gV) : (fun (env : aZ) (h : Hp) =>
 bnd (bJ (env 0) h) fun v1 h1 =>
 bnd (aD .geq v1 (aF 3) h1) fun v2 h2 =>
 aU v2 (
 bnd (aC 1 (env 0) (aF 0) (resv 1 h2)) fun v3 h3 =>
 bnd (aA v3 h3) fun v4 h4 =>
 bnd (cX .i64 v4 h4) fun v5 h5 =>
 bnd (aC 1 (env 0) (aF 1) h5) fun v6 h6 =>
 bnd (aA v6 h6) fun v7 h7 =>
 bnd (cX .i64 v7 h7) fun v8 h8 =>
 bnd (aC 1 (env 0) (aF 2) h8) fun v9 h9 =>
 bnd (aA v9 h9) fun v10 h10 =>
 bnd (cX .i64 v10 h10) fun v11 h11 =>
 bnd (bL [(aF 0), (aF 0), (aF 0)] [(0, 1, v5), (1, 1, v8), (2, 1, v11)] h11) fun v12 h12 =>
 bnd (bB (bN 0 h2.next) [(aF 0), (aF 0), (aF 0)] 1 [(0, 3, v12)] h12) fun v13 h13 =>
 bnd (aW 3 24 (env 4) v13 h13) fun v14 h14 =>
 bnd (cT 1 (env 0) (some (aF 3)) none h14) fun v15 h15 =>
      kk4 v15 v14 h15) (
      eQ r n (env 0) (env 4) h2)) = (K2 (aEw r n kk4) 0 4) := by kernel_rfl
theorem cBz (kk4 : gV) : D144 r n mN (xs x0 0 (K2 (eQ r n) 0 4)) (K2 kk4 0 4) = (K2 (aEw r n kk4) 0 4) :=
 (bYy r n kk4 (eQ r n)).trans (bLs r n kk4)
theorem bWo (m : Nat) : aK (fun kk => D144 r n mN (xs x0 0 (K2 (eQ r n) 0 4)) kk) m = (K2 (uO r n m) 0 4) := by
 induction m with
 | zero => exact (by kernel_rfl : aK (fun kk => D144 r n mN (xs x0 0 (K2 (eQ r n) 0 4)) kk) 0 = (K2 (uO r n 0) 0 4))
 | succ m ih =>
  refine (by kernel_rfl : aK (fun kk => D144 r n mN (xs x0 0 (K2 (eQ r n) 0 4)) kk) (m + 1) = D144 r n mN (xs x0 0 (K2 (eQ r n) 0 4)) (aK (fun kk => D144 r n mN (xs x0 0 (K2 (eQ r n) 0 4)) kk) m)).trans ?_
  rw [ih]
  exact (cBz r n (uO r n m)).trans (by kernel_rfl)
theorem dCq : D144 r n aJa (xs x0 0 (K2 (eQ r n) 0 4)) (K2 (eQ r n) 0 4) = (K2 (cAw r n) 0 4) :=
 (by kernel_rfl : D144 r n aJa (xs x0 0 (K2 (eQ r n) 0 4)) (K2 (eQ r n) 0 4) = aK (fun kk => D144 r n mN (xs x0 0 (K2 (eQ r n) 0 4)) kk) n).trans ((bWo r n n).trans (by kernel_rfl))
theorem cEa : D144 r n aNb x0 r144 = D144 r n aGp x0 (K2 (eQ r n) 0 4) :=
 congrArg (fun k => D144 r n aGp x0 k) (dBu r n)
theorem cXe : D144 r n aNb x0 r144 = (K2 (aWm r n) 0 4) :=
 (cEa r n).trans
 ((by kernel_rfl : D144 r n aGp x0 (K2 (eQ r n) 0 4) = D144 r n aJa (xs x0 0 (K2 (eQ r n) 0 4)) (K2 (eQ r n) 0 4)).trans
 ((dCq r n).trans (by kernel_rfl)))
theorem bPd : D144 r n aLs x0 r144 = D144 r n bZl x0 (K2 (aWm r n) 0 4) :=
 congrArg (fun k => D144 r n bZl x0 k) (cXe r n)
theorem dCj : D144 r n aLs x0 r144 = (K1 (aVe r n) 0) :=
 (bPd r n).trans
 ((by kernel_rfl))
theorem dIl : D144 r n c144 x0 r144 = D144 r n cNw x0 (K1 (aVe r n) 0) :=
 congrArg (fun k => D144 r n cNw x0 k) (dCj r n)
theorem dXq : D144 r n c144 x0 r144 = (K1 (s144 r n) 0) :=
 (dIl r n).trans
 ((by kernel_rfl))
theorem dRk : aG CF r n 144 args h = s144 r n (aR args 0) h :=
 (by kernel_rfl : aG CF r n 144 args h = D144 r n c144 x0 r144 (aI args) h).trans ((congrFun (congrFun (dXq r n) (aI args)) h).trans (by kernel_rfl))
noncomputable def s145 (r : RT) (n : Nat) (x0 x1 x2 : DV) (h0 : Hp) : aH :=
 bnd (aD .geq x0 x1 h0) fun v1 h1 =>
 bnd (gD v1 true (some (x0, h1)) h1) fun v2 h2 =>
 bnd (gD v1 true (some (x2, h2)) h2) fun v3 h3 =>
 bnd (gD v1 true (aD .leq v2 v3 h3) h3) fun v4 h4 =>
 bnd (aN v1 v4 (.b false) h4) fun v5 h5 =>
 some (v5, h5)
noncomputable abbrev c145 : Code := cf Tryz.f145
noncomputable abbrev r145 : K := aQ CF Tryz.f145
noncomputable def D145 (r : RT) (n : Nat) (c : Code) (X : Nat → K) (k : K) : K := aP CF r 15 n c X r145 k
theorem dYo : D145 r n c145 x0 r145 = (K3 (s145 r n) 0 1 2) :=
 (by kernel_rfl)
theorem dUu : aG CF r n 145 args h = s145 r n (aR args 0) (aR args 1) (aR args 2) h :=
 (by kernel_rfl : aG CF r n 145 args h = D145 r n c145 x0 r145 (aI args) h).trans ((congrFun (congrFun (dYo r n) (aI args)) h).trans (by kernel_rfl))
noncomputable def s146 (r : RT) (n : Nat) (x0 x1 : DV) (h0 : Hp) : aH :=
 bnd (r 187 [x0, x1] h0) fun v1 h1 =>
 bnd (aD .geq v1 (aF 0) h1) fun v2 h2 =>
 some (v2, h2)
noncomputable abbrev c146 : Code := cf Tryz.f146
noncomputable abbrev r146 : K := aQ CF Tryz.f146
noncomputable def D146 (r : RT) (n : Nat) (c : Code) (X : Nat → K) (k : K) : K := aP CF r 9 n c X r146 k
theorem dZa : D146 r n c146 x0 r146 = (K2 (s146 r n) 0 1) :=
 (by kernel_rfl)
theorem dGt : aG CF r n 146 args h = s146 r n (aR args 0) (aR args 1) h :=
 (by kernel_rfl : aG CF r n 146 args h = D146 r n c146 x0 r146 (aI args) h).trans ((congrFun (congrFun (dZa r n) (aI args)) h).trans (by kernel_rfl))
noncomputable def s147 (r : RT) (n : Nat) (x0 : DV) (h0 : Hp) : aH :=
 bnd (bQ x0 h0) fun v1 h1 =>
 bnd (aL 4 v1 h1) fun v2 h2 =>
 bnd (r 148 [v2, (aF 20)] h2) fun v3 h3 =>
 bnd (gP .not v3 h3) fun v4 h4 =>
 some (v4, h4)
noncomputable abbrev c147 : Code := cf Tryz.f147
noncomputable abbrev r147 : K := aQ CF Tryz.f147
noncomputable def D147 (r : RT) (n : Nat) (c : Code) (X : Nat → K) (k : K) : K := aP CF r 6 n c X r147 k
theorem dXj : D147 r n c147 x0 r147 = (K1 (s147 r n) 0) :=
 (by kernel_rfl)
theorem dOg : aG CF r n 147 args h = s147 r n (aR args 0) h :=
 (by kernel_rfl : aG CF r n 147 args h = D147 r n c147 x0 r147 (aI args) h).trans ((congrFun (congrFun (dXj r n) (aI args)) h).trans (by kernel_rfl))
noncomputable def s148 (r : RT) (n : Nat) (x0 x1 : DV) (h0 : Hp) : aH :=
 bnd (bQ x0 h0) fun v1 h1 =>
 bnd (bQ x1 h1) fun v2 h2 =>
 bnd (aB 0 v1 h2) fun v3 h3 =>
 bnd (aA v3 h3) fun v4 h4 =>
 bnd (aD .eql v4 (aF 1) h4) fun v5 h5 =>
 aU v5 (
 bnd (aB 1 v1 h5) fun v6 h6 =>
 bnd (aA v6 h6) fun v7 h7 =>
 bnd (fK .eql v7 (.s []) h7) fun v8 h8 =>
 bnd (gD v8 true (aB 3 v1 h8) h8) fun v9 h9 =>
 bnd (gD v8 true (aA v9 h9) h9) fun v10 h10 =>
 bnd (gD v8 true (bJ v10 h10) h10) fun v11 h11 =>
 bnd (gD v8 true (aD .eql v11 (aF 0) h11) h11) fun v12 h12 =>
 bnd (aN v8 v12 (.b false) h12) fun v13 h13 =>
 bnd (gD v13 true (aB 2 v1 h13) h13) fun v14 h14 =>
 bnd (gD v13 true (aA v14 h14) h14) fun v15 h15 =>
 bnd (gD v13 true (r 145 [v15, (.i .i64 (Int.negSucc 1152921504606846975)), (aF 1152921504606846976)] h15) h15) fun v16 h16 =>
 bnd (aN v13 v16 (.b false) h16) fun v17 h17 =>
 some (v17, h17)) (
 bnd (aD .eql v4 (aF 2) h5) fun v18 h18 =>
 aU v18 (
 bnd (aB 2 v1 h18) fun v19 h19 =>
 bnd (aA v19 h19) fun v20 h20 =>
 bnd (aD .eql v20 (aF 0) h20) fun v21 h21 =>
 bnd (gD v21 true (aB 3 v1 h21) h21) fun v22 h22 =>
 bnd (gD v21 true (aA v22 h22) h22) fun v23 h23 =>
 bnd (gD v21 true (bJ v23 h23) h23) fun v24 h24 =>
 bnd (gD v21 true (aD .eql v24 (aF 0) h24) h24) fun v25 h25 =>
 bnd (aN v21 v25 (.b false) h25) fun v26 h26 =>
 bnd (gD v26 true (aB 1 v1 h26) h26) fun v27 h27 =>
 bnd (gD v26 true (aA v27 h27) h27) fun v28 h28 =>
 bnd (gD v26 true (dI v28 h28) h28) fun v29 h29 =>
 bnd (gD v26 true (aD .leq v29 (aF 250) h29) h29) fun v30 h30 =>
 bnd (aN v26 v30 (.b false) h30) fun v31 h31 =>
 some (v31, h31)) (
 bnd (aD .eql v4 (aF 3) h18) fun v32 h32 =>
 aU v32 (
 bnd (aB 2 v1 h32) fun v33 h33 =>
 bnd (aA v33 h33) fun v34 h34 =>
 bnd (aD .eql v34 (aF 0) h34) fun v35 h35 =>
 bnd (gD v35 true (aB 3 v1 h35) h35) fun v36 h36 =>
 bnd (gD v35 true (aA v36 h36) h36) fun v37 h37 =>
 bnd (gD v35 true (bJ v37 h37) h37) fun v38 h38 =>
 bnd (gD v35 true (aD .eql v38 (aF 0) h38) h38) fun v39 h39 =>
 bnd (aN v35 v39 (.b false) h39) fun v40 h40 =>
 bnd (gD v40 true (aB 1 v1 h40) h40) fun v41 h41 =>
 bnd (gD v40 true (aA v41 h41) h41) fun v42 h42 =>
 bnd (gD v40 true (dI v42 h42) h42) fun v43 h43 =>
 bnd (gD v40 true (r 145 [v43, (aF 1), (aF 60)] h43) h43) fun v44 h44 =>
 bnd (aN v40 v44 (.b false) h44) fun v45 h45 =>
 some (v45, h45)) (
 bnd (aD .eql v4 (aF 4) h32) fun v46 h46 =>
 aU v46 (
 bnd (aB 3 v1 h46) fun v47 h47 =>
 bnd (aA v47 h47) fun v48 h48 =>
 bnd (r 146 [v48, (.f 188 [] [v2])] h48) fun v49 h49 =>
 bnd (aB 2 v1 h49) fun v50 h50 =>
 bnd (aA v50 h50) fun v51 h51 =>
 bnd (aD .eql v51 (aF 0) h51) fun v52 h52 =>
 bnd (gD v52 true (aB 1 v1 h52) h52) fun v53 h53 =>
 bnd (gD v52 true (aA v53 h53) h53) fun v54 h54 =>
 bnd (gD v52 true (fK .eql v54 (.s []) h54) h54) fun v55 h55 =>
 bnd (aN v52 v55 (.b false) h55) fun v56 h56 =>
 bnd (gD v56 true (aA v2 h56) h56) fun v57 h57 =>
 bnd (gD v56 true (aD .gtr v57 (aF 0) h57) h57) fun v58 h58 =>
 bnd (aN v56 v58 (.b false) h58) fun v59 h59 =>
 bnd (gD v59 true (aB 3 v1 h59) h59) fun v60 h60 =>
 bnd (gD v59 true (aA v60 h60) h60) fun v61 h61 =>
 bnd (gD v59 true (bJ v61 h61) h61) fun v62 h62 =>
 bnd (gD v59 true (aD .leq v62 (aF 250) h62) h62) fun v63 h63 =>
 bnd (aN v59 v63 (.b false) h63) fun v64 h64 =>
 bnd (gD v64 true (some (v49, h64)) h64) fun v65 h65 =>
 bnd (gD v64 true (gP .not v65 h65) h65) fun v66 h66 =>
 bnd (aN v64 v66 (.b false) h66) fun v67 h67 =>
 some (v67, h67)) (
 some ((.b false), h46)))))
noncomputable abbrev c148 : Code := cf Tryz.f148
noncomputable abbrev r148 : K := aQ CF Tryz.f148
noncomputable def D148 (r : RT) (n : Nat) (c : Code) (X : Nat → K) (k : K) : K := aP CF r 86 n c X r148 k
theorem dXf : D148 r n c148 x0 r148 = (K2 (s148 r n) 0 1) :=
 (by kernel_rfl)
theorem dMd : aG CF r n 148 args h = s148 r n (aR args 0) (aR args 1) h :=
 (by kernel_rfl : aG CF r n 148 args h = D148 r n c148 x0 r148 (aI args) h).trans ((congrFun (congrFun (dXf r n) (aI args)) h).trans (by kernel_rfl))
noncomputable def s149 (r : RT) (n : Nat) (x0 : DV) (h0 : Hp) : aH :=
 bnd (bQ x0 h0) fun v1 h1 =>
 bnd (aB 0 v1 h1) fun v2 h2 =>
 bnd (aA v2 h2) fun v3 h3 =>
 bnd (r 189 [v3] h3) fun v4 h4 =>
 bnd (aE 0 v4 h4) fun v5 h5 =>
 bnd (aE 1 v4 h5) fun v6 h6 =>
 bnd (aB 0 v1 h6) fun v7 h7 =>
 bnd (aA v7 h7) fun v8 h8 =>
 bnd (aD .geq v8 (aF 1) h8) fun v9 h9 =>
 bnd (gD v9 true (aB 0 v1 h9) h9) fun v10 h10 =>
 bnd (gD v9 true (aA v10 h10) h10) fun v11 h11 =>
 bnd (gD v9 true (aD .leq v11 (aF 20) h11) h11) fun v12 h12 =>
 bnd (aN v9 v12 (.b false) h12) fun v13 h13 =>
 bnd (gD v13 true (aB 1 v1 h13) h13) fun v14 h14 =>
 bnd (gD v13 true (aA v14 h14) h14) fun v15 h15 =>
 bnd (gD v13 true (some (v5, h15)) h15) fun v16 h16 =>
 bnd (gD v13 true (r 190 [v15, v16] h16) h16) fun v17 h17 =>
 bnd (aN v13 v17 (.b false) h17) fun v18 h18 =>
 bnd (gD v18 true (aB 2 v1 h18) h18) fun v19 h19 =>
 bnd (gD v18 true (aA v19 h19) h19) fun v20 h20 =>
 bnd (gD v18 true (some (v6, h20)) h20) fun v21 h21 =>
 bnd (gD v18 true (r 190 [v20, v21] h21) h21) fun v22 h22 =>
 bnd (aN v18 v22 (.b false) h22) fun v23 h23 =>
 some (v23, h23)
noncomputable abbrev c149 : Code := cf Tryz.f149
noncomputable abbrev r149 : K := aQ CF Tryz.f149
noncomputable def D149 (r : RT) (n : Nat) (c : Code) (X : Nat → K) (k : K) : K := aP CF r 31 n c X r149 k
theorem eFw : D149 r n c149 x0 r149 = (K1 (s149 r n) 0) :=
 (by kernel_rfl)
theorem dPl : aG CF r n 149 args h = s149 r n (aR args 0) h :=
 (by kernel_rfl : aG CF r n 149 args h = D149 r n c149 x0 r149 (aI args) h).trans ((congrFun (congrFun (eFw r n) (aI args)) h).trans (by kernel_rfl))
end Go.Dd

