/- A part of the proof: Q7 Q8 Q9 Qt HK: each text has a comment of its own. -/
import Derived.Test.YtilmobdncapnbaaGreatPm2
set_option linter.unusedVariables false
set_option linter.unusedSimpArgs false
set_option linter.constructorNameAsVariable false
set_option maxRecDepth 100000
namespace Go.Dd
open Go.Proofs
variable (r : RT) (n : Nat) (args : List DV) (h : Hp)
noncomputable def bE (r : RT) (n : Nat) (h0 : Hp) : aI :=
 some ((.b true), h0)
noncomputable def uK (r : RT) (n : Nat) (x2 x3 x4 x27 x51 : DV) (h0 : Hp) : aI :=
 aT x51 (
 bnd (aC 1 x4 h0) fun v1 h1 =>
 bnd (aA v1 h1) fun v2 h2 =>
 bnd (aD .lss v2 x2 h2) fun v3 h3 =>
 some (v3, h3)) (
 bnd (aD .eql x27 (aF 18) h0) fun v4 h4 =>
 aT v4 (
 bnd (aC 2 x4 h4) fun v5 h5 =>
 bnd (aA v5 h5) fun v6 h6 =>
 bnd (aD .leq v6 (aF 4) h6) fun v7 h7 =>
 bnd (gD v7 true (aC 1 x4 h7) h7) fun v8 h8 =>
 bnd (gD v7 true (aA v8 h8) h8) fun v9 h9 =>
 bnd (gD v7 true (aC 2 x4 h9) h9) fun v10 h10 =>
 bnd (gD v7 true (aA v10 h10) h10) fun v11 h11 =>
 bnd (gD v7 true (aD .add v9 v11 h11) h11) fun v12 h12 =>
 bnd (gD v7 true (aC 2 x3 h12) h12) fun v13 h13 =>
 bnd (gD v7 true (aA v13 h13) h13) fun v14 h14 =>
 bnd (gD v7 true (aD .leq v12 v14 h14) h14) fun v15 h15 =>
 bnd (aQ v7 v15 (.b false) h15) fun v16 h16 =>
 some (v16, h16)) (
   bE r n h4))
noncomputable def aWy (r : RT) (n : Nat) (x2 x3 x4 x27 : DV) (h0 : Hp) : aI :=
 bnd (aD .eql x27 (aF 8) h0) fun v1 h1 =>
 aT v1 (
  uK r n x2 x3 x4 x27 v1 h1) (
 bnd (aD .eql x27 (aF 11) h1) fun v2 h2 =>
  uK r n x2 x3 x4 x27 v2 h2)
noncomputable def sL (r : RT) (n : Nat) (x2 x3 x4 x27 x43 : DV) (h0 : Hp) : aI :=
 aT x43 (
 bnd (aC 1 x4 h0) fun v1 h1 =>
 bnd (aA v1 h1) fun v2 h2 =>
 bnd (aC 2 x3 h2) fun v3 h3 =>
 bnd (aA v3 h3) fun v4 h4 =>
 bnd (aD .lss v2 v4 h4) fun v5 h5 =>
 some (v5, h5)) (
  aWy r n x2 x3 x4 x27 h0)
noncomputable def aYq (r : RT) (n : Nat) (x2 x3 x4 x27 : DV) (h0 : Hp) : aI :=
 bnd (aD .eql x27 (aF 7) h0) fun v1 h1 =>
 aT v1 (
  sL r n x2 x3 x4 x27 v1 h1) (
 bnd (aD .eql x27 (aF 10) h1) fun v2 h2 =>
  sL r n x2 x3 x4 x27 v2 h2)
noncomputable def uN (r : RT) (n : Nat) (x2 x3 x4 x8 x27 x34 : DV) (h0 : Hp) : aI :=
 aT x34 (
 bnd (gD x8 true (aC 2 x4 h0) h0) fun v1 h1 =>
 bnd (gD x8 true (aA v1 h1) h1) fun v2 h2 =>
 bnd (gD x8 true (aD .leq v2 (aF 4) h2) h2) fun v3 h3 =>
 bnd (aQ x8 v3 (.b false) h3) fun v4 h4 =>
 some (v4, h4)) (
  aYq r n x2 x3 x4 x27 h0)
noncomputable def bVx (r : RT) (n : Nat) (x2 x3 x4 x8 x27 : DV) (h0 : Hp) : aI :=
 bnd (aD .eql x27 (aF 14) h0) fun v1 h1 =>
 aT v1 (
  uN r n x2 x3 x4 x8 x27 v1 h1) (
 bnd (aD .eql x27 (aF 15) h1) fun v2 h2 =>
  uN r n x2 x3 x4 x8 x27 v2 h2)
noncomputable def aOy (r : RT) (n : Nat) (x2 x3 x4 x8 x27 x31 : DV) (h0 : Hp) : aI :=
 aT x31 (
 some (x8, h0)) (
  bVx r n x2 x3 x4 x8 x27 h0)
noncomputable def bHm (r : RT) (n : Nat) (x2 x3 x4 x8 x27 : DV) (h0 : Hp) : aI :=
 bnd (aD .eql x27 (aF 9) h0) fun v1 h1 =>
  aOy r n x2 x3 x4 x8 x27 v1 h1
noncomputable def aQz (r : RT) (n : Nat) (x2 x3 x4 x7 x8 x27 x28 : DV) (h0 : Hp) : aI :=
 aT x28 (
 some (x7, h0)) (
  bHm r n x2 x3 x4 x8 x27 h0)
noncomputable def aRh (r : RT) (n : Nat) (x2 x3 x4 x7 x8 x27 : DV) (h0 : Hp) : aI :=
 bnd (aD .eql x27 (aF 6) h0) fun v1 h1 =>
  aQz r n x2 x3 x4 x7 x8 x27 v1 h1
noncomputable def aSk (r : RT) (n : Nat) (x2 x3 x4 x7 x8 : DV) (h0 : Hp) : aI :=
 bnd (aC 0 x4 h0) fun v1 h1 =>
 bnd (aA v1 h1) fun v2 h2 =>
  aRh r n x2 x3 x4 x7 x8 v2 h2
noncomputable def aPk (r : RT) (n : Nat) (x2 x3 x4 x7 : DV) (h0 : Hp) : aI :=
 bnd (gD x7 true (aC 4 x3 h0) h0) fun v1 h1 =>
 bnd (gD x7 true (aA v1 h1) h1) fun v2 h2 =>
 bnd (gD x7 true (aC 1 x4 h2) h2) fun v3 h3 =>
 bnd (gD x7 true (aA v3 h3) h3) fun v4 h4 =>
 bnd (gD x7 true (aJ 4 v2 v4 h4) h4) fun v5 h5 =>
 bnd (gD x7 true (aC 0 v5 h5) h5) fun v6 h6 =>
 bnd (gD x7 true (aA v6 h6) h6) fun v7 h7 =>
 bnd (gD x7 true (aD .eql v7 (aF 3) h7) h7) fun v8 h8 =>
 bnd (aQ x7 v8 (.b false) h8) fun v9 h9 =>
  aSk r n x2 x3 x4 x7 v9 h9
noncomputable def yE (r : RT) (n : Nat) (x2 x3 x4 : DV) (h0 : Hp) : aI :=
 bnd (aC 1 x4 h0) fun v1 h1 =>
 bnd (aA v1 h1) fun v2 h2 =>
 bnd (aC 4 x3 h2) fun v3 h3 =>
 bnd (aA v3 h3) fun v4 h4 =>
 bnd (cJ v4 h4) fun v5 h5 =>
 bnd (aD .lss v2 v5 h5) fun v6 h6 =>
  aPk r n x2 x3 x4 v6 h6
noncomputable def s172 (r : RT) (n : Nat) (x0 x1 x2 : DV) (h0 : Hp) : aI :=
 bnd (bX x0 h0) fun v1 h1 =>
 bnd (bX x1 h1) fun v2 h2 =>
  yE r n x2 v1 v2 h2
noncomputable abbrev c172 : Code := cf Tryz.f172
noncomputable abbrev aHz : Code := cR c172
noncomputable abbrev aBy : Code := cR aHz
noncomputable abbrev aFf : Code := cR aBy
noncomputable abbrev cZh : Code := cR aFf
noncomputable abbrev vX : Code := cL aFf
noncomputable abbrev aOu : Code := cR vX
noncomputable abbrev aJj : Code := cL aOu
noncomputable abbrev yK : Code := cR aJj
noncomputable abbrev zM : Code := cR yK
noncomputable abbrev pP : Code := cR zM
noncomputable abbrev oR : Code := cR pP
noncomputable abbrev pB : Code := cR oR
noncomputable abbrev pD : Code := cR pB
noncomputable abbrev pQ : Code := cR pD
noncomputable abbrev oN : Code := cR pQ
noncomputable abbrev cBv : Code := cR oN
noncomputable abbrev aVz : Code := cL oN
noncomputable abbrev cIk : Code := cL pQ
noncomputable abbrev aVr : Code := cL pD
noncomputable abbrev cPr : Code := cL pB
noncomputable abbrev aUk : Code := cL oR
noncomputable abbrev cKs : Code := cL pP
noncomputable abbrev aTs : Code := cL zM
noncomputable abbrev cDs : Code := cL yK
noncomputable abbrev bBv : Code := cL aJj
noncomputable abbrev bAc : Code := cL vX
noncomputable abbrev aTt : Code := cL aBy
noncomputable abbrev aXj : Code := cL aHz
noncomputable abbrev aBf : Code := cL c172
noncomputable abbrev r172 : K := aP CF Tryz.f172
noncomputable def D172 (r : RT) (n : Nat) (c : Code) (X : Nat → K) (k : K) : K := aM CF r 73 n c X r172 k
theorem cDj : D172 r n cZh x0 r172 = (K0 (bE r n)) :=
 (by kernel_rfl)
theorem bXf : D172 r n cBv (xs x0 0 (K0 (bE r n))) (K0 (bE r n)) = (K5 (uK r n) 2 3 4 27 51) :=
 (by kernel_rfl)
theorem bCo : D172 r n oN (xs x0 0 (K0 (bE r n))) (K0 (bE r n)) = D172 r n aVz (xs x0 0 (K0 (bE r n))) (K5 (uK r n) 2 3 4 27 51) :=
 congrArg (fun k => D172 r n aVz (xs x0 0 (K0 (bE r n))) k) (bXf r n)
theorem bTr : D172 r n oN (xs x0 0 (K0 (bE r n))) (K0 (bE r n)) = (K4 (aWy r n) 2 3 4 27) :=
 (bCo r n).trans
 ((by kernel_rfl))
theorem bGv : D172 r n pQ (xs x0 0 (K0 (bE r n))) (K0 (bE r n)) = (K5 (sL r n) 2 3 4 27 43) :=
 (by kernel_rfl : D172 r n pQ (xs x0 0 (K0 (bE r n))) (K0 (bE r n)) = (fun (env : aW) (h : Hp) => aT (opr env (cC pQ)) (D172 r n cIk (xs x0 0 (K0 (bE r n))) (K0 (bE r n)) env h) (D172 r n oN (xs x0 0 (K0 (bE r n))) (K0 (bE r n)) env h))).trans (by rw [bTr r n]; kernel_rfl)
theorem bCr : D172 r n pD (xs x0 0 (K0 (bE r n))) (K0 (bE r n)) = D172 r n aVr (xs x0 0 (K0 (bE r n))) (K5 (sL r n) 2 3 4 27 43) :=
 congrArg (fun k => D172 r n aVr (xs x0 0 (K0 (bE r n))) k) (bGv r n)
theorem bHh : D172 r n pD (xs x0 0 (K0 (bE r n))) (K0 (bE r n)) = (K4 (aYq r n) 2 3 4 27) :=
 (bCr r n).trans
 ((by kernel_rfl))
theorem bWl : D172 r n pB (xs x0 0 (K0 (bE r n))) (K0 (bE r n)) = (K6 (uN r n) 2 3 4 8 27 34) :=
 (by kernel_rfl : D172 r n pB (xs x0 0 (K0 (bE r n))) (K0 (bE r n)) = (fun (env : aW) (h : Hp) => aT (opr env (cC pB)) (D172 r n cPr (xs x0 0 (K0 (bE r n))) (K0 (bE r n)) env h) (D172 r n pD (xs x0 0 (K0 (bE r n))) (K0 (bE r n)) env h))).trans (by rw [bHh r n]; kernel_rfl)
theorem bTj : D172 r n oR (xs x0 0 (K0 (bE r n))) (K0 (bE r n)) = D172 r n aUk (xs x0 0 (K0 (bE r n))) (K6 (uN r n) 2 3 4 8 27 34) :=
 congrArg (fun k => D172 r n aUk (xs x0 0 (K0 (bE r n))) k) (bWl r n)
theorem cCu : D172 r n oR (xs x0 0 (K0 (bE r n))) (K0 (bE r n)) = (K5 (bVx r n) 2 3 4 8 27) :=
 (bTj r n).trans
 ((by kernel_rfl))
theorem cFy : D172 r n pP (xs x0 0 (K0 (bE r n))) (K0 (bE r n)) = (K6 (aOy r n) 2 3 4 8 27 31) :=
 (by kernel_rfl : D172 r n pP (xs x0 0 (K0 (bE r n))) (K0 (bE r n)) = (fun (env : aW) (h : Hp) => aT (opr env (cC pP)) (D172 r n cKs (xs x0 0 (K0 (bE r n))) (K0 (bE r n)) env h) (D172 r n oR (xs x0 0 (K0 (bE r n))) (K0 (bE r n)) env h))).trans (by rw [cCu r n]; kernel_rfl)
theorem bHp : D172 r n zM (xs x0 0 (K0 (bE r n))) (K0 (bE r n)) = D172 r n aTs (xs x0 0 (K0 (bE r n))) (K6 (aOy r n) 2 3 4 8 27 31) :=
 congrArg (fun k => D172 r n aTs (xs x0 0 (K0 (bE r n))) k) (cFy r n)
theorem cJm : D172 r n zM (xs x0 0 (K0 (bE r n))) (K0 (bE r n)) = (K5 (bHm r n) 2 3 4 8 27) :=
 (bHp r n).trans
 ((by kernel_rfl))
theorem cMs : D172 r n yK (xs x0 0 (K0 (bE r n))) (K0 (bE r n)) = (K7 (aQz r n) 2 3 4 7 8 27 28) :=
 (by kernel_rfl : D172 r n yK (xs x0 0 (K0 (bE r n))) (K0 (bE r n)) = (fun (env : aW) (h : Hp) => aT (opr env (cC yK)) (D172 r n cDs (xs x0 0 (K0 (bE r n))) (K0 (bE r n)) env h) (D172 r n zM (xs x0 0 (K0 (bE r n))) (K0 (bE r n)) env h))).trans (by rw [cJm r n]; kernel_rfl)
theorem bKs : D172 r n aJj (xs x0 0 (K0 (bE r n))) (K0 (bE r n)) = D172 r n bBv (xs x0 0 (K0 (bE r n))) (K7 (aQz r n) 2 3 4 7 8 27 28) :=
 congrArg (fun k => D172 r n bBv (xs x0 0 (K0 (bE r n))) k) (cMs r n)
theorem cMe : D172 r n aOu x0 (K0 (bE r n)) = (K6 (aRh r n) 2 3 4 7 8 27) :=
 (by kernel_rfl : D172 r n aOu x0 (K0 (bE r n)) = D172 r n aJj (xs x0 0 (K0 (bE r n))) (K0 (bE r n))).trans
 ((bKs r n).trans
 ((by kernel_rfl)))
theorem bGi : D172 r n aFf x0 r172 = D172 r n vX x0 (K0 (bE r n)) :=
 congrArg (fun k => D172 r n vX x0 k) (cDj r n)
theorem bQs : D172 r n vX x0 (K0 (bE r n)) = D172 r n bAc x0 (K6 (aRh r n) 2 3 4 7 8 27) :=
 congrArg (fun k => D172 r n bAc x0 k) (cMe r n)
theorem cMg : D172 r n aFf x0 r172 = (K5 (aSk r n) 2 3 4 7 8) :=
 (bGi r n).trans
 ((bQs r n).trans
 ((by kernel_rfl)))
theorem bRj : D172 r n aBy x0 r172 = D172 r n aTt x0 (K5 (aSk r n) 2 3 4 7 8) :=
 congrArg (fun k => D172 r n aTt x0 k) (cMg r n)
theorem cCf : D172 r n aBy x0 r172 = (K4 (aPk r n) 2 3 4 7) :=
 (bRj r n).trans
 ((by kernel_rfl))
theorem bKj : D172 r n aHz x0 r172 = D172 r n aXj x0 (K4 (aPk r n) 2 3 4 7) :=
 congrArg (fun k => D172 r n aXj x0 k) (cCf r n)
theorem cMo : D172 r n aHz x0 r172 = (K3 (yE r n) 2 3 4) :=
 (bKj r n).trans
 ((by kernel_rfl))
theorem cLw : D172 r n c172 x0 r172 = D172 r n aBf x0 (K3 (yE r n) 2 3 4) :=
 congrArg (fun k => D172 r n aBf x0 k) (cMo r n)
theorem cLe (q0 : nB) : D172 r n aBf x0 (K3 q0 2 3 4) = fun (env : aW) (h : Hp) =>
 bnd (bX (env 0) h) fun v1 h1 =>
 bnd (bX (env 1) h1) fun v2 h2 =>
  q0 (env 2) v1 v2 h2 := by kernel_rfl
theorem bXw : (fun (env : aW) (h : Hp) =>
 bnd (bX (env 0) h) fun v1 h1 =>
 bnd (bX (env 1) h1) fun v2 h2 =>
  yE r n (env 2) v1 v2 h2) = (K3 (s172 r n) 0 1 2) := by kernel_rfl
theorem dLj : D172 r n c172 x0 r172 = (K3 (s172 r n) 0 1 2) :=
 (cLw r n).trans
 ((cLe r n (yE r n)).trans (bXw r n))
theorem cZv : aE CF r n 172 args h = s172 r n (aS args 0) (aS args 1) (aS args 2) h :=
 (by kernel_rfl : aE CF r n 172 args h = D172 r n c172 x0 r172 (aG args) h).trans ((congrFun (congrFun (dLj r n) (aG args)) h).trans (by kernel_rfl))
noncomputable def eY (r : RT) (n : Nat) (x3 : DV) (h0 : Hp) : aI :=
 some (x3, h0)
noncomputable def bAp (r : RT) (n : Nat) (kk6 : dJ) (x3 x4 x11 x12 : DV) (h0 : Hp) : aI :=
 bnd (aD .lss x12 x11 h0) fun v1 h1 =>
 aT v1 (
 bnd (fO CF r x4 [x12] h1) fun v2 h2 =>
 bnd (aJ 1 x3 x12 h2) fun v3 h3 =>
 bnd (aH 1 v3 v2 h3) fun _ h4 =>
 bnd (aD .add x12 (aF 1) h4) fun v5 h5 =>
      kk6 x3 x4 x11 v5 h5) (
      eY r n x3 h1)
noncomputable def uO (r : RT) (n : Nat) (m : Nat) : dJ :=
 Nat.rec (motive := fun _ => dJ) (fun _ _ _ _ _ => none) (fun _ ih => bAp r n ih) m
noncomputable def bMe (r : RT) (n : Nat) : dJ := uO r n n
noncomputable def aPt (r : RT) (n : Nat) (x3 x4 x11 x12 : DV) (h0 : Hp) : aI :=
 bMe r n x3 x4 x11 x12 h0
noncomputable def aTd (r : RT) (n : Nat) (x1 x3 x4 : DV) (h0 : Hp) : aI :=
 bnd (aA x1 h0) fun v1 h1 =>
 bnd (cJ v1 h1) fun v2 h2 =>
  aPt r n x3 x4 v2 (aF 0) h2
noncomputable def wQ (r : RT) (n : Nat) (x1 x3 : DV) (h0 : Hp) : aI :=
 aTd r n x1 x3 (.f 200 [] [x1]) h0
noncomputable def rG (r : RT) (n : Nat) (x1 : DV) (h0 : Hp) : aI :=
 bnd (aA x1 h0) fun v1 h1 =>
 bnd (cJ v1 h1) fun v2 h2 =>
 bnd (cK 1 8 [(aF 0)] v2 v2 h2) fun v3 h3 =>
  wQ r n x1 v3 h3
noncomputable def s173 (r : RT) (n : Nat) (x0 : DV) (h0 : Hp) : aI :=
 bnd (bX x0 h0) fun v1 h1 =>
  rG r n v1 h1
noncomputable abbrev c173 : Code := cf Tryz.f173
noncomputable abbrev aJb : Code := cR c173
noncomputable abbrev aEh : Code := cR aJb
noncomputable abbrev aCh : Code := cR aEh
noncomputable abbrev cYo : Code := cR aCh
noncomputable abbrev wC : Code := cL aCh
noncomputable abbrev aMv : Code := cR wC
noncomputable abbrev aHj : Code := cL aMv
noncomputable abbrev nN : Code := cL aHj
noncomputable abbrev bGl : Code := cL wC
noncomputable abbrev bAe : Code := cL aEh
noncomputable abbrev aEj : Code := cL aJb
noncomputable abbrev aIi : Code := cL c173
noncomputable abbrev r173 : K := aP CF Tryz.f173
noncomputable def D173 (r : RT) (n : Nat) (c : Code) (X : Nat → K) (k : K) : K := aM CF r 23 n c X r173 k
theorem cOh : D173 r n cYo x0 r173 = (K1 (eY r n) 3) :=
 (by kernel_rfl)
theorem bUa (kk6 : dJ) : D173 r n nN (xs x0 0 (K1 (eY r n) 3)) (K4 kk6 3 4 11 12) = (K4 (bAp r n kk6) 3 4 11 12) :=
 (by kernel_rfl)
theorem bXg (m : Nat) : aR (fun kk => D173 r n nN (xs x0 0 (K1 (eY r n) 3)) kk) m = (K4 (uO r n m) 3 4 11 12) := by
 induction m with
 | zero => exact (by kernel_rfl : aR (fun kk => D173 r n nN (xs x0 0 (K1 (eY r n) 3)) kk) 0 = (K4 (uO r n 0) 3 4 11 12))
 | succ m ih =>
  refine (by kernel_rfl : aR (fun kk => D173 r n nN (xs x0 0 (K1 (eY r n) 3)) kk) (m + 1) = D173 r n nN (xs x0 0 (K1 (eY r n) 3)) (aR (fun kk => D173 r n nN (xs x0 0 (K1 (eY r n) 3)) kk) m)).trans ?_
  rw [ih]
  exact (bUa r n (uO r n m)).trans (by kernel_rfl)
theorem cNx : D173 r n aHj (xs x0 0 (K1 (eY r n) 3)) (K1 (eY r n) 3) = (K4 (bMe r n) 3 4 11 12) :=
 (by kernel_rfl : D173 r n aHj (xs x0 0 (K1 (eY r n) 3)) (K1 (eY r n) 3) = aR (fun kk => D173 r n nN (xs x0 0 (K1 (eY r n) 3)) kk) n).trans ((bXg r n n).trans (by kernel_rfl))
theorem cCj : D173 r n aMv x0 (K1 (eY r n) 3) = (K4 (aPt r n) 3 4 11 12) :=
 (by kernel_rfl : D173 r n aMv x0 (K1 (eY r n) 3) = D173 r n aHj (xs x0 0 (K1 (eY r n) 3)) (K1 (eY r n) 3)).trans
 ((cNx r n).trans (by kernel_rfl))
theorem bNh : D173 r n aCh x0 r173 = D173 r n wC x0 (K1 (eY r n) 3) :=
 congrArg (fun k => D173 r n wC x0 k) (cOh r n)
theorem bTd : D173 r n wC x0 (K1 (eY r n) 3) = D173 r n bGl x0 (K4 (aPt r n) 3 4 11 12) :=
 congrArg (fun k => D173 r n bGl x0 k) (cCj r n)
theorem cPh : D173 r n aCh x0 r173 = (K3 (aTd r n) 1 3 4) :=
 (bNh r n).trans
 ((bTd r n).trans
 ((by kernel_rfl)))
theorem bQa : D173 r n aEh x0 r173 = D173 r n bAe x0 (K3 (aTd r n) 1 3 4) :=
 congrArg (fun k => D173 r n bAe x0 k) (cPh r n)
theorem cBg : D173 r n aEh x0 r173 = (K2 (wQ r n) 1 3) :=
 (bQa r n).trans
 ((by kernel_rfl))
theorem bLm : D173 r n aJb x0 r173 = D173 r n aEj x0 (K2 (wQ r n) 1 3) :=
 congrArg (fun k => D173 r n aEj x0 k) (cBg r n)
theorem bLd (q0 : rP) : D173 r n aEj x0 (K2 q0 1 3) = fun (env : aW) (h : Hp) =>
 bnd (aA (env 1) h) fun v1 h1 =>
 bnd (cJ v1 h1) fun v2 h2 =>
 bnd (cK 1 8 [(aF 0)] v2 v2 h2) fun v3 h3 =>
  q0 (env 1) v3 h3 := by kernel_rfl
theorem bDz : (fun (env : aW) (h : Hp) =>
 bnd (aA (env 1) h) fun v1 h1 =>
 bnd (cJ v1 h1) fun v2 h2 =>
 bnd (cK 1 8 [(aF 0)] v2 v2 h2) fun v3 h3 =>
  wQ r n (env 1) v3 h3) = (K1 (rG r n) 1) := by kernel_rfl
theorem cIx : D173 r n aJb x0 r173 = (K1 (rG r n) 1) :=
 (bLm r n).trans
 ((bLd r n (wQ r n)).trans (bDz r n))
theorem cYy : D173 r n c173 x0 r173 = D173 r n aIi x0 (K1 (rG r n) 1) :=
 congrArg (fun k => D173 r n aIi x0 k) (cIx r n)
theorem cWw (q0 : TT1) : D173 r n aIi x0 (K1 q0 1) = fun (env : aW) (h : Hp) =>
 bnd (bX (env 0) h) fun v1 h1 =>
  q0 v1 h1 := by kernel_rfl
theorem cDb : (fun (env : aW) (h : Hp) =>
 bnd (bX (env 0) h) fun v1 h1 =>
  rG r n v1 h1) = (K1 (s173 r n) 0) := by kernel_rfl
theorem dLd : D173 r n c173 x0 r173 = (K1 (s173 r n) 0) :=
 (cYy r n).trans
 ((cWw r n (rG r n)).trans (cDb r n))
theorem cSy : aE CF r n 173 args h = s173 r n (aS args 0) h :=
 (by kernel_rfl : aE CF r n 173 args h = D173 r n c173 x0 r173 (aG args) h).trans ((congrFun (congrFun (dLd r n) (aG args)) h).trans (by kernel_rfl))
noncomputable def bK (r : RT) (n : Nat) (h0 : Hp) : aI :=
 some ((.b true), h0)
noncomputable def cH (r : RT) (n : Nat) (kk4 : cF) (x0 x1 x11 x12 x13 : DV) (h0 : Hp) : aI :=
 bnd (aD .add x13 (aF 1) h0) fun v1 h1 =>
  kk4 x0 x1 x11 x12 v1 h1
noncomputable def fU (r : RT) (n : Nat) (kk4 : cF) (x0 x1 x5 x6 x11 x12 x13 : DV) (h0 : Hp) : aI :=
 bnd (aK 3 x6 h0) fun v1 h1 =>
 bnd (r 202 [v1] h1) fun v2 h2 =>
 bnd (aD .geq v2 (aF 0) h2) fun v3 h3 =>
 bnd (gD v3 true (some (v2, h3)) h3) fun v4 h4 =>
 bnd (gD v3 true (some (x0, h4)) h4) fun v5 h5 =>
 bnd (gD v3 true (cJ v5 h5) h5) fun v6 h6 =>
 bnd (gD v3 true (aD .geq v4 v6 h6) h6) fun v7 h7 =>
 bnd (gD v3 true (some (v7, h7)) h7) fun v8 h8 =>
 bnd (gD v8 false (some (x1, h8)) h8) fun v9 h9 =>
 bnd (gD v8 false (some (v2, h9)) h9) fun v10 h10 =>
 bnd (gD v8 false (aJ 1 v9 v10 h10) h10) fun v11 h11 =>
 bnd (gD v8 false (aA v11 h11) h11) fun v12 h12 =>
 bnd (gD v8 false (some (x1, h12)) h12) fun v13 h13 =>
 bnd (gD v8 false (some (x5, h13)) h13) fun v14 h14 =>
 bnd (gD v8 false (aJ 1 v13 v14 h14) h14) fun v15 h15 =>
 bnd (gD v8 false (aA v15 h15) h15) fun v16 h16 =>
 bnd (gD v8 false (aD .neq v12 v16 h16) h16) fun v17 h17 =>
 bnd (gD v3 true (aQ v8 (.b true) v17 h17) h17) fun v18 h18 =>
 bnd (aQ v3 v18 (.b false) h18) fun v19 h19 =>
 aT v19 (
 some ((.b false), h19)) (
  cH r n kk4 x0 x1 x11 x12 x13 h19)
noncomputable def sM (r : RT) (n : Nat) (kk4 : cF) (x0 x1 x5 x6 x7 x8 x9 x11 x12 x13 : DV) (h0 : Hp) : aI :=
 bnd (dR .not x8 h0) fun v1 h1 =>
 bnd (gD v1 false (some (x7, h1)) h1) fun v2 h2 =>
 bnd (gD v1 false (some (x9, h2)) h2) fun v3 h3 =>
 bnd (gD v1 false (aD .gtr v2 v3 h3) h3) fun v4 h4 =>
 bnd (aQ v1 (.b true) v4 h4) fun v5 h5 =>
 aT v5 (
 some ((.b false), h5)) (
  fU r n kk4 x0 x1 x5 x6 x11 x12 x13 h5)
noncomputable def aGt (r : RT) (n : Nat) (kk4 : cF) (x0 x1 x5 x6 x7 x8 x9 x11 x12 x13 : DV) (h0 : Hp) : aI :=
 bnd (aJ 1 x1 x5 h0) fun v1 h1 =>
 bnd (aA v1 h1) fun v2 h2 =>
 bnd (aD .geq v2 (aF 0) h2) fun v3 h3 =>
 aT v3 (
 bnd (aJ 1 x1 x5 h3) fun v4 h4 =>
 bnd (aA v4 h4) fun v5 h5 =>
 bnd (r 201 [x0, v5] h5) fun v6 h6 =>
 bnd (aB 0 v6 h6) fun v7 h7 =>
 bnd (aB 1 v6 h7) fun v8 h8 =>
  sM r n kk4 x0 x1 x5 x6 x7 x8 v7 x11 x12 x13 h8) (
  sM r n kk4 x0 x1 x5 x6 x7 x8 x9 x11 x12 x13 h3)
noncomputable def aDc (r : RT) (n : Nat) (kk4 : cF) (x0 x1 x5 x6 x7 x8 x11 x12 x13 : DV) (h0 : Hp) : aI :=
 bnd (cJ x0 h0) fun v1 h1 =>
  aGt r n kk4 x0 x1 x5 x6 x7 x8 v1 x11 x12 x13 h1
noncomputable def aYi (r : RT) (n : Nat) (kk4 : cF) (x0 x1 x5 x6 x11 x12 x13 : DV) (h0 : Hp) : aI :=
 bnd (r 201 [x0, x5] h0) fun v1 h1 =>
 bnd (aB 0 v1 h1) fun v2 h2 =>
 bnd (aB 1 v1 h2) fun v3 h3 =>
  aDc r n kk4 x0 x1 x5 x6 v2 v3 x11 x12 x13 h3
noncomputable def aIm (r : RT) (n : Nat) (kk4 : cF) (x0 x1 x5 x6 x11 x12 x13 x20 : DV) (h0 : Hp) : aI :=
 aT x20 (
  aYi r n kk4 x0 x1 x5 x6 x11 x12 x13 h0) (
  fU r n kk4 x0 x1 x5 x6 x11 x12 x13 h0)
noncomputable def zJ (r : RT) (n : Nat) (kk4 : cF) (x0 x1 x5 x6 x11 x12 x13 : DV) (h0 : Hp) : aI :=
 bnd (aC 0 x6 h0) fun v1 h1 =>
 bnd (aA v1 h1) fun v2 h2 =>
 bnd (aD .eql v2 (aF 18) h2) fun v3 h3 =>
  aIm r n kk4 x0 x1 x5 x6 x11 x12 x13 v3 h3
noncomputable def aGp (r : RT) (n : Nat) (kk4 : cF) (x0 x1 x11 x12 x13 : DV) (h0 : Hp) : aI :=
 bnd (aJ 3 x11 x13 h0) fun v1 h1 =>
 bnd (aK 3 v1 h1) fun v2 h2 =>
 bnd (bR [(aF 0), (aF 0), (aF 0)] h2) fun v3 h3 =>
 bnd (aH 3 v3 v2 h3) fun _ h4 =>
  zJ r n kk4 x0 x1 x13 v3 x11 x12 x13 h4
noncomputable def aQx (r : RT) (n : Nat) (kk4 : cF) (x0 x1 x11 x12 x13 x14 : DV) (h0 : Hp) : aI :=
 aT x14 (
  aGp r n kk4 x0 x1 x11 x12 x13 h0) (
  bK r n h0)
noncomputable def aXe (r : RT) (n : Nat) (kk4 : cF) (x0 x1 x11 x12 x13 : DV) (h0 : Hp) : aI :=
 bnd (aD .lss x13 x12 h0) fun v1 h1 =>
  aQx r n kk4 x0 x1 x11 x12 x13 v1 h1
noncomputable def uE (r : RT) (n : Nat) (m : Nat) : cF :=
 Nat.rec (motive := fun _ => cF) (fun _ _ _ _ _ _ => none) (fun _ ih => aXe r n ih) m
noncomputable def bUw (r : RT) (n : Nat) : cF := uE r n n
noncomputable def aOk (r : RT) (n : Nat) (x0 x1 x11 x12 x13 : DV) (h0 : Hp) : aI :=
 bUw r n x0 x1 x11 x12 x13 h0
noncomputable def aQr (r : RT) (n : Nat) (x0 x1 : DV) (h0 : Hp) : aI :=
 bnd (cJ x0 h0) fun v1 h1 =>
  aOk r n x0 x1 x0 v1 (aF 0) h1
noncomputable def s174 (r : RT) (n : Nat) (x0 x1 : DV) (h0 : Hp) : aI :=
 aQr r n x0 x1 h0
noncomputable abbrev c174 : Code := cf Tryz.f174
noncomputable abbrev aCy : Code := cR c174
noncomputable abbrev dEf : Code := cR aCy
noncomputable abbrev xU : Code := cL aCy
noncomputable abbrev aQk : Code := cR xU
noncomputable abbrev aGn : Code := cL aQk
noncomputable abbrev jY : Code := cL aGn
noncomputable abbrev aFw : Code := cR jY
noncomputable abbrev aEr : Code := cR aFw
noncomputable abbrev cYs : Code := cR aEr
noncomputable abbrev uP : Code := cL aEr
noncomputable abbrev sO : Code := cL uP
noncomputable abbrev uR : Code := cR sO
noncomputable abbrev cBj : Code := cR uR
noncomputable abbrev oU : Code := cL uR
noncomputable abbrev pC : Code := cR oU
noncomputable abbrev oX : Code := cL pC
noncomputable abbrev tS : Code := cR oX
noncomputable abbrev uS : Code := cR tS
noncomputable abbrev cAu : Code := cR uS
noncomputable abbrev aZv : Code := cL uS
noncomputable abbrev bBr : Code := cL tS
noncomputable abbrev aXy : Code := cL oX
noncomputable abbrev cHj : Code := cR pC
noncomputable abbrev aTg : Code := cL oU
noncomputable abbrev aBt : Code := cL sO
noncomputable abbrev aZa : Code := cL aFw
noncomputable abbrev aYd : Code := cL jY
noncomputable abbrev aZy : Code := cL xU
noncomputable abbrev aVo : Code := cL c174
noncomputable abbrev r174 : K := aP CF Tryz.f174
noncomputable def D174 (r : RT) (n : Nat) (c : Code) (X : Nat → K) (k : K) : K := aM CF r 72 n c X r174 k
theorem cFr : D174 r n dEf x0 r174 = (K0 (bK r n)) :=
 (by kernel_rfl)
theorem cGx (kk4 : cF) : D174 r n cYs (xs x0 0 (K0 (bK r n))) (K5 kk4 0 1 11 12 13) = (K5 (cH r n kk4) 0 1 11 12 13) :=
 (by kernel_rfl)
theorem cLk (kk4 : cF) : D174 r n cBj (xs (xs x0 0 (K0 (bK r n))) 1 (K5 (cH r n kk4) 0 1 11 12 13)) (K5 (cH r n kk4) 0 1 11 12 13) = (K7 (fU r n kk4) 0 1 5 6 11 12 13) :=
 (by kernel_rfl)
theorem bIe (kk4 : cF) : D174 r n cAu (xs (xs x0 0 (K0 (bK r n))) 1 (K5 (cH r n kk4) 0 1 11 12 13)) (K7 (fU r n kk4) 0 1 5 6 11 12 13) = (K10 (sM r n kk4) 0 1 5 6 7 8 9 11 12 13) :=
 (by kernel_rfl)
theorem bFq (kk4 : cF) : D174 r n uS (xs (xs x0 0 (K0 (bK r n))) 1 (K5 (cH r n kk4) 0 1 11 12 13)) (K7 (fU r n kk4) 0 1 5 6 11 12 13) = D174 r n aZv (xs (xs x0 0 (K0 (bK r n))) 1 (K5 (cH r n kk4) 0 1 11 12 13)) (K10 (sM r n kk4) 0 1 5 6 7 8 9 11 12 13) :=
 congrArg (fun k => D174 r n aZv (xs (xs x0 0 (K0 (bK r n))) 1 (K5 (cH r n kk4) 0 1 11 12 13)) k) (bIe r n kk4)
theorem bHu (kk4 : cF) : D174 r n uS (xs (xs x0 0 (K0 (bK r n))) 1 (K5 (cH r n kk4) 0 1 11 12 13)) (K7 (fU r n kk4) 0 1 5 6 11 12 13) = (K10 (aGt r n kk4) 0 1 5 6 7 8 9 11 12 13) :=
 (bFq r n kk4).trans
 ((by kernel_rfl))
theorem bDe (kk4 : cF) : D174 r n tS (xs (xs x0 0 (K0 (bK r n))) 1 (K5 (cH r n kk4) 0 1 11 12 13)) (K7 (fU r n kk4) 0 1 5 6 11 12 13) = D174 r n bBr (xs (xs x0 0 (K0 (bK r n))) 1 (K5 (cH r n kk4) 0 1 11 12 13)) (K10 (aGt r n kk4) 0 1 5 6 7 8 9 11 12 13) :=
 congrArg (fun k => D174 r n bBr (xs (xs x0 0 (K0 (bK r n))) 1 (K5 (cH r n kk4) 0 1 11 12 13)) k) (bHu r n kk4)
theorem bXl (kk4 : cF) : D174 r n tS (xs (xs x0 0 (K0 (bK r n))) 1 (K5 (cH r n kk4) 0 1 11 12 13)) (K7 (fU r n kk4) 0 1 5 6 11 12 13) = (K9 (aDc r n kk4) 0 1 5 6 7 8 11 12 13) :=
 (bDe r n kk4).trans
 ((by kernel_rfl))
theorem bFv (kk4 : cF) : D174 r n oX (xs (xs x0 0 (K0 (bK r n))) 1 (K5 (cH r n kk4) 0 1 11 12 13)) (K7 (fU r n kk4) 0 1 5 6 11 12 13) = D174 r n aXy (xs (xs x0 0 (K0 (bK r n))) 1 (K5 (cH r n kk4) 0 1 11 12 13)) (K9 (aDc r n kk4) 0 1 5 6 7 8 11 12 13) :=
 congrArg (fun k => D174 r n aXy (xs (xs x0 0 (K0 (bK r n))) 1 (K5 (cH r n kk4) 0 1 11 12 13)) k) (bXl r n kk4)
theorem bZe (kk4 : cF) : D174 r n oX (xs (xs x0 0 (K0 (bK r n))) 1 (K5 (cH r n kk4) 0 1 11 12 13)) (K7 (fU r n kk4) 0 1 5 6 11 12 13) = (K7 (aYi r n kk4) 0 1 5 6 11 12 13) :=
 (bFv r n kk4).trans
 ((by kernel_rfl))
theorem bRp (kk4 : cF) : D174 r n pC (xs (xs x0 0 (K0 (bK r n))) 1 (K5 (cH r n kk4) 0 1 11 12 13)) (K7 (fU r n kk4) 0 1 5 6 11 12 13) = (K8 (aIm r n kk4) 0 1 5 6 11 12 13 20) :=
 (by kernel_rfl : D174 r n pC (xs (xs x0 0 (K0 (bK r n))) 1 (K5 (cH r n kk4) 0 1 11 12 13)) (K7 (fU r n kk4) 0 1 5 6 11 12 13) = (fun (env : aW) (h : Hp) => aT (opr env (cC pC)) (D174 r n oX (xs (xs x0 0 (K0 (bK r n))) 1 (K5 (cH r n kk4) 0 1 11 12 13)) (K7 (fU r n kk4) 0 1 5 6 11 12 13) env h) (D174 r n cHj (xs (xs x0 0 (K0 (bK r n))) 1 (K5 (cH r n kk4) 0 1 11 12 13)) (K7 (fU r n kk4) 0 1 5 6 11 12 13) env h))).trans (by rw [bZe r n kk4]; kernel_rfl)
theorem bMw (kk4 : cF) : D174 r n uR (xs (xs x0 0 (K0 (bK r n))) 1 (K5 (cH r n kk4) 0 1 11 12 13)) (K5 (cH r n kk4) 0 1 11 12 13) = D174 r n oU (xs (xs x0 0 (K0 (bK r n))) 1 (K5 (cH r n kk4) 0 1 11 12 13)) (K7 (fU r n kk4) 0 1 5 6 11 12 13) :=
 congrArg (fun k => D174 r n oU (xs (xs x0 0 (K0 (bK r n))) 1 (K5 (cH r n kk4) 0 1 11 12 13)) k) (cLk r n kk4)
theorem bNz (kk4 : cF) : D174 r n oU (xs (xs x0 0 (K0 (bK r n))) 1 (K5 (cH r n kk4) 0 1 11 12 13)) (K7 (fU r n kk4) 0 1 5 6 11 12 13) = D174 r n aTg (xs (xs x0 0 (K0 (bK r n))) 1 (K5 (cH r n kk4) 0 1 11 12 13)) (K8 (aIm r n kk4) 0 1 5 6 11 12 13 20) :=
 congrArg (fun k => D174 r n aTg (xs (xs x0 0 (K0 (bK r n))) 1 (K5 (cH r n kk4) 0 1 11 12 13)) k) (bRp r n kk4)
theorem cPq (kk4 : cF) : D174 r n uR (xs (xs x0 0 (K0 (bK r n))) 1 (K5 (cH r n kk4) 0 1 11 12 13)) (K5 (cH r n kk4) 0 1 11 12 13) = (K7 (zJ r n kk4) 0 1 5 6 11 12 13) :=
 (bMw r n kk4).trans
 ((bNz r n kk4).trans
 ((by kernel_rfl)))
theorem bRd (kk4 : cF) : D174 r n aEr (xs x0 0 (K0 (bK r n))) (K5 kk4 0 1 11 12 13) = D174 r n uP (xs x0 0 (K0 (bK r n))) (K5 (cH r n kk4) 0 1 11 12 13) :=
 congrArg (fun k => D174 r n uP (xs x0 0 (K0 (bK r n))) k) (cGx r n kk4)
theorem bQo (kk4 : cF) : D174 r n sO (xs (xs x0 0 (K0 (bK r n))) 1 (K5 (cH r n kk4) 0 1 11 12 13)) (K5 (cH r n kk4) 0 1 11 12 13) = D174 r n aBt (xs (xs x0 0 (K0 (bK r n))) 1 (K5 (cH r n kk4) 0 1 11 12 13)) (K7 (zJ r n kk4) 0 1 5 6 11 12 13) :=
 congrArg (fun k => D174 r n aBt (xs (xs x0 0 (K0 (bK r n))) 1 (K5 (cH r n kk4) 0 1 11 12 13)) k) (cPq r n kk4)
theorem bZv (kk4 : cF) (q0 : TT7) (q1 : Hp → aI) (q2 : cF) : D174 r n aBt (xs (xs x0 0 (K0 q1)) 1 (K5 q2 0 1 11 12 13)) (K7 q0 0 1 5 6 11 12 13) = fun (env : aW) (h : Hp) =>
 bnd (aJ 3 (env 11) (env 13) h) fun v1 h1 =>
 bnd (aK 3 v1 h1) fun v2 h2 =>
 bnd (bR [(aF 0), (aF 0), (aF 0)] h2) fun v3 h3 =>
 bnd (aH 3 v3 v2 h3) fun _ h4 =>
  q0 (env 0) (env 1) (env 13) v3 (env 11) (env 12) (env 13) h4 := by kernel_rfl
theorem bFn (kk4 : cF) : (fun (env : aW) (h : Hp) =>
 bnd (aJ 3 (env 11) (env 13) h) fun v1 h1 =>
 bnd (aK 3 v1 h1) fun v2 h2 =>
 bnd (bR [(aF 0), (aF 0), (aF 0)] h2) fun v3 h3 =>
 bnd (aH 3 v3 v2 h3) fun _ h4 =>
  zJ r n kk4 (env 0) (env 1) (env 13) v3 (env 11) (env 12) (env 13) h4) = (K5 (aGp r n kk4) 0 1 11 12 13) := by kernel_rfl
theorem cKm (kk4 : cF) : D174 r n aEr (xs x0 0 (K0 (bK r n))) (K5 kk4 0 1 11 12 13) = (K5 (aGp r n kk4) 0 1 11 12 13) :=
 (bRd r n kk4).trans
 ((by kernel_rfl : D174 r n uP (xs x0 0 (K0 (bK r n))) (K5 (cH r n kk4) 0 1 11 12 13) = D174 r n sO (xs (xs x0 0 (K0 (bK r n))) 1 (K5 (cH r n kk4) 0 1 11 12 13)) (K5 (cH r n kk4) 0 1 11 12 13)).trans
 ((bQo r n kk4).trans
 ((bZv r n kk4 (zJ r n kk4) (bK r n) (cH r n kk4)).trans (bFn r n kk4))))
theorem bRn (kk4 : cF) : D174 r n aFw (xs x0 0 (K0 (bK r n))) (K5 kk4 0 1 11 12 13) = D174 r n aZa (xs x0 0 (K0 (bK r n))) (K5 (aGp r n kk4) 0 1 11 12 13) :=
 congrArg (fun k => D174 r n aZa (xs x0 0 (K0 (bK r n))) k) (cKm r n kk4)
theorem cHr (kk4 : cF) : D174 r n aFw (xs x0 0 (K0 (bK r n))) (K5 kk4 0 1 11 12 13) = (K6 (aQx r n kk4) 0 1 11 12 13 14) :=
 (bRn r n kk4).trans
 ((by kernel_rfl))
theorem bCk (kk4 : cF) : D174 r n jY (xs x0 0 (K0 (bK r n))) (K5 kk4 0 1 11 12 13) = D174 r n aYd (xs x0 0 (K0 (bK r n))) (K6 (aQx r n kk4) 0 1 11 12 13 14) :=
 congrArg (fun k => D174 r n aYd (xs x0 0 (K0 (bK r n))) k) (cHr r n kk4)
theorem bLe (kk4 : cF) : D174 r n jY (xs x0 0 (K0 (bK r n))) (K5 kk4 0 1 11 12 13) = (K5 (aXe r n kk4) 0 1 11 12 13) :=
 (bCk r n kk4).trans
 ((by kernel_rfl))
theorem bXp (m : Nat) : aR (fun kk => D174 r n jY (xs x0 0 (K0 (bK r n))) kk) m = (K5 (uE r n m) 0 1 11 12 13) := by
 induction m with
 | zero => exact (by kernel_rfl : aR (fun kk => D174 r n jY (xs x0 0 (K0 (bK r n))) kk) 0 = (K5 (uE r n 0) 0 1 11 12 13))
 | succ m ih =>
  refine (by kernel_rfl : aR (fun kk => D174 r n jY (xs x0 0 (K0 (bK r n))) kk) (m + 1) = D174 r n jY (xs x0 0 (K0 (bK r n))) (aR (fun kk => D174 r n jY (xs x0 0 (K0 (bK r n))) kk) m)).trans ?_
  rw [ih]
  exact (bLe r n (uE r n m)).trans (by kernel_rfl)
theorem cEe : D174 r n aGn (xs x0 0 (K0 (bK r n))) (K0 (bK r n)) = (K5 (bUw r n) 0 1 11 12 13) :=
 (by kernel_rfl : D174 r n aGn (xs x0 0 (K0 (bK r n))) (K0 (bK r n)) = aR (fun kk => D174 r n jY (xs x0 0 (K0 (bK r n))) kk) n).trans ((bXp r n n).trans (by kernel_rfl))
theorem cLg : D174 r n aQk x0 (K0 (bK r n)) = (K5 (aOk r n) 0 1 11 12 13) :=
 (by kernel_rfl : D174 r n aQk x0 (K0 (bK r n)) = D174 r n aGn (xs x0 0 (K0 (bK r n))) (K0 (bK r n))).trans
 ((cEe r n).trans (by kernel_rfl))
theorem bDm : D174 r n aCy x0 r174 = D174 r n xU x0 (K0 (bK r n)) :=
 congrArg (fun k => D174 r n xU x0 k) (cFr r n)
theorem bDh : D174 r n xU x0 (K0 (bK r n)) = D174 r n aZy x0 (K5 (aOk r n) 0 1 11 12 13) :=
 congrArg (fun k => D174 r n aZy x0 k) (cLg r n)
theorem cDk : D174 r n aCy x0 r174 = (K2 (aQr r n) 0 1) :=
 (bDm r n).trans
 ((bDh r n).trans
 ((by kernel_rfl)))
theorem cHk : D174 r n c174 x0 r174 = D174 r n aVo x0 (K2 (aQr r n) 0 1) :=
 congrArg (fun k => D174 r n aVo x0 k) (cDk r n)
theorem dOb : D174 r n c174 x0 r174 = (K2 (s174 r n) 0 1) :=
 (cHk r n).trans
 ((by kernel_rfl))
theorem dDl : aE CF r n 174 args h = s174 r n (aS args 0) (aS args 1) h :=
 (by kernel_rfl : aE CF r n 174 args h = D174 r n c174 x0 r174 (aG args) h).trans ((congrFun (congrFun (dOb r n) (aG args)) h).trans (by kernel_rfl))
noncomputable def bV (r : RT) (n : Nat) (x6 x9 : DV) (h0 : Hp) : aI :=
 bnd (aA x6 h0) fun v1 h1 =>
 bnd (aA x9 h1) fun v2 h2 =>
 some (.t [v1, v2], h2)
noncomputable def uQ (r : RT) (n : Nat) (kk9 : gW) (x2 x3 x6 x7 x9 x10 x11 x14 : DV) (h0 : Hp) : aI :=
 bnd (aD .add x11 (aF 1) h0) fun v1 h1 =>
 bnd (aA x3 h1) fun v2 h2 =>
 bnd (aJ 1 v2 x11 h2) fun v3 h3 =>
 bnd (aA v3 h3) fun v4 h4 =>
 bnd (fO CF r x10 [v1, v4, x14] h4) fun v5 h5 =>
  kk9 x2 x3 x6 x7 x9 x10 h5
noncomputable def aDj (r : RT) (n : Nat) (kk9 : gW) (x2 x3 x6 x7 x9 x10 x11 x12 x13 x14 : DV) (h0 : Hp) : aI :=
 bnd (aC 0 x12 h0) fun v1 h1 =>
 bnd (aA v1 h1) fun v2 h2 =>
 bnd (aD .eql v2 (aF 19) h2) fun v3 h3 =>
 aT v3 (
 bnd (aD .neq x13 (aF 1) h3) fun v4 h4 =>
 bnd (gD v4 false (aA x3 h4) h4) fun v5 h5 =>
 bnd (gD v4 false (some (x11, h5)) h5) fun v6 h6 =>
 bnd (gD v4 false (aJ 1 v5 v6 h6) h6) fun v7 h7 =>
 bnd (gD v4 false (aA v7 h7) h7) fun v8 h8 =>
 bnd (gD v4 false (aD .lss v8 (aF 0) h8) h8) fun v9 h9 =>
 bnd (aQ v4 (.b true) v9 h9) fun v10 h10 =>
 aT v10 (
 some (.t [.l0, (.b false)], h10)) (
   kk9 x2 x3 x6 x7 x9 x10 h10)) (
 bnd (aD .eql v2 (aF 20) h3) fun v11 h11 =>
 aT v11 (
   kk9 x2 x3 x6 x7 x9 x10 h11) (
 bnd (aD .eql v2 (aF 16) h11) fun v12 h12 =>
 aT v12 (
 bnd (aK 3 x12 h12) fun v13 h13 =>
 bnd (r 202 [v13] h13) fun v14 h14 =>
 bnd (aA x3 h14) fun v15 h15 =>
 cnd (bJ (aA x3 h12) v15 && true) (
 bnd (aJ 1 v15 x11 h15) fun v16 h16 =>
 bnd (aA v16 h16) fun v17 h17 =>
 cnd (bJ (aA v16 h12) v17 && true) (
 bnd (fO CF r x10 [v14, v17, x14] h17) fun v18 h18 =>
    kk9 x2 x3 x6 x7 x9 x10 h18))) (
 bnd (aD .eql v2 (aF 17) h12) fun v19 h19 =>
 aT v19 (
 bnd (aK 3 x12 h19) fun v20 h20 =>
 bnd (r 202 [v20] h20) fun v21 h21 =>
 bnd (aA x3 h21) fun v22 h22 =>
 cnd (bJ (aA x3 h19) v22 && true) (
 bnd (aJ 1 v22 x11 h22) fun v23 h23 =>
 bnd (aA v23 h23) fun v24 h24 =>
 cnd (bJ (aA v23 h19) v24 && true) (
 bnd (fO CF r x10 [v21, v24, x14] h24) fun v25 h25 =>
     uQ r n kk9 x2 x3 x6 x7 x9 x10 x11 x14 h25))) (
     uQ r n kk9 x2 x3 x6 x7 x9 x10 x11 x14 h19))))
noncomputable def aHq (r : RT) (n : Nat) (kk9 : gW) (x2 x3 x6 x7 x9 x10 x11 x12 x13 x14 : DV) (h0 : Hp) : aI :=
 bnd (aK 3 x12 h0) fun v1 h1 =>
 bnd (r 205 [v1] h1) fun v2 h2 =>
 bnd (aD .lss x13 v2 h2) fun v3 h3 =>
 bnd (gD v3 false (some (x14, h3)) h3) fun v4 h4 =>
 bnd (gD v3 false (aD .gtr v4 (aF 24) h4) h4) fun v5 h5 =>
 bnd (aQ v3 (.b true) v5 h5) fun v6 h6 =>
 aT v6 (
 some (.t [.l0, (.b false)], h6)) (
  aDj r n kk9 x2 x3 x6 x7 x9 x10 x11 x12 x13 x14 h6)
noncomputable def aJg (r : RT) (n : Nat) (kk9 : gW) (x2 x3 x6 x7 x9 x10 x11 x12 x13 : DV) (h0 : Hp) : aI :=
 bnd (aK 3 x12 h0) fun v1 h1 =>
 bnd (r 204 [v1] h1) fun v2 h2 =>
 bnd (aD .add x13 v2 h2) fun v3 h3 =>
  aHq r n kk9 x2 x3 x6 x7 x9 x10 x11 x12 x13 v3 h3
noncomputable def aDm (r : RT) (n : Nat) (kk9 : gW) (x2 x3 x6 x7 x9 x10 x11 : DV) (h0 : Hp) : aI :=
 bnd (aA x2 (resv 1 h0)) fun v1 h1 =>
 bnd (aJ 3 v1 x11 h1) fun v2 h2 =>
 bnd (aK 3 v2 h2) fun v3 h3 =>
 bnd (aA x6 h3) fun v4 h4 =>
 bnd (aJ 1 v4 x11 h4) fun v5 h5 =>
 bnd (aA v5 h5) fun v6 h6 =>
 bnd (kC (bW 0 h0.next) [(aF 0), (aF 0), (aF 0)] h6) fun v7 h7 =>
 bnd (aH 3 v7 v3 h7) fun v8 h8 =>
 cnd (bJ (aA v5 h8) v6 && (bJ (aA x6 h8) v4 && true)) (
  aJg r n kk9 x2 x3 x6 x7 x9 x10 x11 v7 v6 h8)
noncomputable def aGl (r : RT) (n : Nat) (kk9 : gW) (x2 x3 x6 x7 x9 x10 x11 : DV) (h0 : Hp) : aI :=
 bnd (aA x7 h0) fun v1 h1 =>
 bnd (aA x7 h1) fun v2 h2 =>
 bnd (cJ v2 h2) fun v3 h3 =>
 bnd (aD .sub v3 (aF 1) h3) fun v4 h4 =>
 bnd (cV 1 v1 none (some v4) h4) fun v5 h5 =>
 bnd (aH 1 x7 v5 h5) fun _ h6 =>
  aDm r n kk9 x2 x3 x6 x7 x9 x10 x11 h6
noncomputable def aJh (r : RT) (n : Nat) (kk9 : gW) (x2 x3 x6 x7 x9 x10 : DV) (h0 : Hp) : aI :=
 bnd (aA x7 h0) fun v1 h1 =>
 bnd (aA x7 h1) fun v2 h2 =>
 bnd (cJ v2 h2) fun v3 h3 =>
 bnd (aD .sub v3 (aF 1) h3) fun v4 h4 =>
 bnd (aJ 1 v1 v4 h4) fun v5 h5 =>
 bnd (aA v5 h5) fun v6 h6 =>
  aGl r n kk9 x2 x3 x6 x7 x9 x10 v6 h6
noncomputable def aXo (r : RT) (n : Nat) (kk9 : gW) (x2 x3 x6 x7 x9 x10 : DV) (h0 : Hp) : aI :=
 bnd (aA x7 h0) fun v1 h1 =>
 bnd (cJ v1 h1) fun v2 h2 =>
 bnd (aD .gtr v2 (aF 0) h2) fun v3 h3 =>
 bnd (gD v3 true (aA x9 h3) h3) fun v4 h4 =>
 bnd (aQ v3 v4 (.b false) h4) fun v5 h5 =>
 aT v5 (
   aJh r n kk9 x2 x3 x6 x7 x9 x10 h5) (
   bV r n x6 x9 h5)
noncomputable def tP (r : RT) (n : Nat) (m : Nat) : gW :=
 Nat.rec (motive := fun _ => gW) (fun _ _ _ _ _ _ _ => none) (fun _ ih => aXo r n ih) m
noncomputable def bLa (r : RT) (n : Nat) : gW := tP r n n
noncomputable def aOd (r : RT) (n : Nat) (x2 x3 x6 x7 x9 x10 : DV) (h0 : Hp) : aI :=
 bLa r n x2 x3 x6 x7 x9 x10 h0
noncomputable def aOh (r : RT) (n : Nat) (x2 x3 x6 x7 x9 x10 : DV) (h0 : Hp) : aI :=
 aOd r n x2 x3 x6 x7 x9 x10 h0
noncomputable def yS (r : RT) (n : Nat) (x2 x3 x6 x7 x9 : DV) (h0 : Hp) : aI :=
 aOh r n x2 x3 x6 x7 x9 (.f 203 [] [x2, x3, x6, x9, x7]) h0
noncomputable def cN (r : RT) (n : Nat) (x2 x3 x6 x7 : DV) (h0 : Hp) : aI :=
 bnd (bR [(.b false)] h0) fun v1 h1 =>
 bnd (aH 1 v1 (.b true) h1) fun _ h2 =>
  yS r n x2 x3 x6 x7 v1 h2
noncomputable def lP (r : RT) (n : Nat) (kk18 : gW) (x2 x3 x6 x7 x19 x20 : DV) (h0 : Hp) : aI :=
 bnd (aD .add x20 (aF 1) h0) fun v1 h1 =>
  kk18 x2 x3 x6 x7 x19 v1 h1
noncomputable def sP (r : RT) (n : Nat) (kk18 : gW) (x2 x3 x6 x7 x19 x20 : DV) (h0 : Hp) : aI :=
 bnd (aA x6 h0) fun v1 h1 =>
 bnd (aJ 1 v1 x20 h1) fun v2 h2 =>
 bnd (aH 1 v2 (.i .i64 (Int.negSucc 0)) h2) fun _ h3 =>
 bnd (aD .eql x20 (aF 0) h3) fun v4 h4 =>
 bnd (gD v4 false (some (x20, h4)) h4) fun v5 h5 =>
 bnd (gD v4 false (aD .gtr v5 (aF 1) h5) h5) fun v6 h6 =>
 bnd (gD v4 false (some (v6, h6)) h6) fun v7 h7 =>
 bnd (gD v7 true (aA x2 h7) h7) fun v8 h8 =>
 bnd (gD v7 true (some (x20, h8)) h8) fun v9 h9 =>
 bnd (gD v7 true (aD .sub v9 (aF 2) h9) h9) fun v10 h10 =>
 bnd (gD v7 true (aJ 3 v8 v10 h10) h10) fun v11 h11 =>
 bnd (gD v7 true (aC 0 v11 h11) h11) fun v12 h12 =>
 bnd (gD v7 true (aA v12 h12) h12) fun v13 h13 =>
 bnd (gD v7 true (aD .eql v13 (aF 18) h13) h13) fun v14 h14 =>
 bnd (gD v4 false (aQ v7 v14 (.b false) h14) h14) fun v15 h15 =>
 bnd (gD v4 false (some (v15, h15)) h15) fun v16 h16 =>
 bnd (gD v16 true (aA x3 h16) h16) fun v17 h17 =>
 bnd (gD v16 true (some (x20, h17)) h17) fun v18 h18 =>
 bnd (gD v16 true (aJ 1 v17 v18 h18) h18) fun v19 h19 =>
 bnd (gD v16 true (aA v19 h19) h19) fun v20 h20 =>
 bnd (gD v16 true (some (x20, h20)) h20) fun v21 h21 =>
 bnd (gD v16 true (aD .sub v21 (aF 2) h21) h21) fun v22 h22 =>
 bnd (gD v16 true (aD .eql v20 v22 h22) h22) fun v23 h23 =>
 bnd (gD v4 false (aQ v16 v23 (.b false) h23) h23) fun v24 h24 =>
 bnd (aQ v4 (.b true) v24 h24) fun v25 h25 =>
 aT v25 (
 bnd (aA x6 h25) fun v26 h26 =>
 bnd (aJ 1 v26 x20 h26) fun v27 h27 =>
 bnd (aH 1 v27 (aF 0) h27) fun _ h28 =>
 bnd (aA x7 h28) fun v29 h29 =>
 bnd (aL [(aF 0)] 1 [(0, 1, x20)] h29) fun v30 h30 =>
 bnd (bB 1 8 v29 v30 h30) fun v31 h31 =>
 bnd (aH 1 x7 v31 h31) fun _ h32 =>
  lP r n kk18 x2 x3 x6 x7 x19 x20 h32) (
  lP r n kk18 x2 x3 x6 x7 x19 x20 h25)
noncomputable def aJk (r : RT) (n : Nat) (kk18 : gW) (x2 x3 x6 x7 x19 x20 x21 : DV) (h0 : Hp) : aI :=
 aT x21 (
  sP r n kk18 x2 x3 x6 x7 x19 x20 h0) (
  cN r n x2 x3 x6 x7 h0)
noncomputable def aMc (r : RT) (n : Nat) (kk18 : gW) (x2 x3 x6 x7 x19 x20 : DV) (h0 : Hp) : aI :=
 bnd (aD .lss x20 x19 h0) fun v1 h1 =>
  aJk r n kk18 x2 x3 x6 x7 x19 x20 v1 h1
noncomputable def pH (r : RT) (n : Nat) (m : Nat) : gW :=
 Nat.rec (motive := fun _ => gW) (fun _ _ _ _ _ _ _ => none) (fun _ ih => aMc r n ih) m
noncomputable def bAv (r : RT) (n : Nat) : gW := pH r n n
noncomputable def aFq (r : RT) (n : Nat) (x2 x3 x6 x7 x19 x20 : DV) (h0 : Hp) : aI :=
 bAv r n x2 x3 x6 x7 x19 x20 h0
noncomputable def wD (r : RT) (n : Nat) (x2 x3 x6 x7 : DV) (h0 : Hp) : aI :=
 bnd (aA x6 h0) fun v1 h1 =>
 bnd (cJ v1 h1) fun v2 h2 =>
  aFq r n x2 x3 x6 x7 v2 (aF 0) h2
noncomputable def qB (r : RT) (n : Nat) (x2 x3 x6 : DV) (h0 : Hp) : aI :=
 bnd (bR [.l0] h0) fun v1 h1 =>
  wD r n x2 x3 x6 v1 h1
noncomputable def qN (r : RT) (n : Nat) (x2 x3 : DV) (h0 : Hp) : aI :=
 bnd (aA x2 h0) fun v1 h1 =>
 bnd (cJ v1 h1) fun v2 h2 =>
 bnd (cK 1 8 [(aF 0)] v2 v2 h2) fun v3 h3 =>
 bnd (bR [.l0] h3) fun v4 h4 =>
 bnd (aH 1 v4 v3 h4) fun _ h5 =>
  qB r n x2 x3 v4 h5
noncomputable def s175 (r : RT) (n : Nat) (x0 x1 : DV) (h0 : Hp) : aI :=
 bnd (bX x0 h0) fun v1 h1 =>
 bnd (bX x1 h1) fun v2 h2 =>
  qN r n v1 v2 h2
noncomputable abbrev c175 : Code := cf Tryz.f175
noncomputable abbrev aNw : Code := cR c175
noncomputable abbrev aGo : Code := cL aNw
noncomputable abbrev aIk : Code := cR aGo
noncomputable abbrev aGa : Code := cR aIk
noncomputable abbrev aFy : Code := cR aGa
noncomputable abbrev aGw : Code := cR aFy
noncomputable abbrev aJn : Code := cR aGw
noncomputable abbrev aFj : Code := cR aJn
noncomputable abbrev cXl : Code := cR aFj
noncomputable abbrev tT : Code := cL aFj
noncomputable abbrev sS : Code := cL tT
noncomputable abbrev iC : Code := cL sS
noncomputable abbrev aBu : Code := cR iC
noncomputable abbrev tH : Code := cL aBu
noncomputable abbrev tE : Code := cR tH
noncomputable abbrev sT : Code := cR tE
noncomputable abbrev sV : Code := cR sT
noncomputable abbrev sK : Code := cR sV
noncomputable abbrev tO : Code := cR sK
noncomputable abbrev cFh : Code := cR tO
noncomputable abbrev bAh : Code := cL tO
noncomputable abbrev aUs : Code := cL sK
noncomputable abbrev bBq : Code := cL sV
noncomputable abbrev aTp : Code := cL sT
noncomputable abbrev bBh : Code := cL tE
noncomputable abbrev bBf : Code := cL tH
noncomputable abbrev aTn : Code := cL iC
noncomputable abbrev aYa : Code := cL aJn
noncomputable abbrev aZb : Code := cL aGw
noncomputable abbrev aGf : Code := cL aFy
noncomputable abbrev oQ : Code := cL aGa
noncomputable abbrev aHd : Code := cR oQ
noncomputable abbrev tF : Code := cL aHd
noncomputable abbrev iA : Code := cL tF
noncomputable abbrev tN : Code := cR iA
noncomputable abbrev sU : Code := cR tN
noncomputable abbrev cOz : Code := cR sU
noncomputable abbrev aFn : Code := cL sU
noncomputable abbrev aWc : Code := cL tN
noncomputable abbrev aVk : Code := cL iA
noncomputable abbrev aUb : Code := cL oQ
noncomputable abbrev aFd : Code := cL aIk
noncomputable abbrev aGh : Code := cL aGo
noncomputable abbrev aCa : Code := cL c175
noncomputable abbrev r175 : K := aP CF Tryz.f175
noncomputable def D175 (r : RT) (n : Nat) (c : Code) (X : Nat → K) (k : K) : K := aM CF r 144 n c X r175 k
theorem cBx : D175 r n cXl x0 r175 = (K2 (bV r n) 6 9) :=
 (by kernel_rfl)
theorem bOt (kk9 : gW) : D175 r n cFh (xs (xs x0 2 (K2 (bV r n) 6 9)) 3 (K6 kk9 2 3 6 7 9 10)) (K6 kk9 2 3 6 7 9 10) = (K8 (uQ r n kk9) 2 3 6 7 9 10 11 14) :=
 (by kernel_rfl)
theorem bDo (kk9 : gW) : D175 r n tO (xs (xs x0 2 (K2 (bV r n) 6 9)) 3 (K6 kk9 2 3 6 7 9 10)) (K6 kk9 2 3 6 7 9 10) = D175 r n bAh (xs (xs x0 2 (K2 (bV r n) 6 9)) 3 (K6 kk9 2 3 6 7 9 10)) (K8 (uQ r n kk9) 2 3 6 7 9 10 11 14) :=
 congrArg (fun k => D175 r n bAh (xs (xs x0 2 (K2 (bV r n) 6 9)) 3 (K6 kk9 2 3 6 7 9 10)) k) (bOt r n kk9)
theorem bLr (kk9 : gW) : D175 r n tO (xs (xs x0 2 (K2 (bV r n) 6 9)) 3 (K6 kk9 2 3 6 7 9 10)) (K6 kk9 2 3 6 7 9 10) = (K10 (aDj r n kk9) 2 3 6 7 9 10 11 12 13 14) :=
 (bDo r n kk9).trans
 ((by kernel_rfl))
theorem bDu (kk9 : gW) : D175 r n sK (xs (xs x0 2 (K2 (bV r n) 6 9)) 3 (K6 kk9 2 3 6 7 9 10)) (K6 kk9 2 3 6 7 9 10) = D175 r n aUs (xs (xs x0 2 (K2 (bV r n) 6 9)) 3 (K6 kk9 2 3 6 7 9 10)) (K10 (aDj r n kk9) 2 3 6 7 9 10 11 12 13 14) :=
 congrArg (fun k => D175 r n aUs (xs (xs x0 2 (K2 (bV r n) 6 9)) 3 (K6 kk9 2 3 6 7 9 10)) k) (bLr r n kk9)
theorem bTt (kk9 : gW) : D175 r n sK (xs (xs x0 2 (K2 (bV r n) 6 9)) 3 (K6 kk9 2 3 6 7 9 10)) (K6 kk9 2 3 6 7 9 10) = (K10 (aHq r n kk9) 2 3 6 7 9 10 11 12 13 14) :=
 (bDu r n kk9).trans
 ((by kernel_rfl))
theorem bEt (kk9 : gW) : D175 r n sV (xs (xs x0 2 (K2 (bV r n) 6 9)) 3 (K6 kk9 2 3 6 7 9 10)) (K6 kk9 2 3 6 7 9 10) = D175 r n bBq (xs (xs x0 2 (K2 (bV r n) 6 9)) 3 (K6 kk9 2 3 6 7 9 10)) (K10 (aHq r n kk9) 2 3 6 7 9 10 11 12 13 14) :=
 congrArg (fun k => D175 r n bBq (xs (xs x0 2 (K2 (bV r n) 6 9)) 3 (K6 kk9 2 3 6 7 9 10)) k) (bTt r n kk9)
theorem bVf (kk9 : gW) : D175 r n sV (xs (xs x0 2 (K2 (bV r n) 6 9)) 3 (K6 kk9 2 3 6 7 9 10)) (K6 kk9 2 3 6 7 9 10) = (K9 (aJg r n kk9) 2 3 6 7 9 10 11 12 13) :=
 (bEt r n kk9).trans
 ((by kernel_rfl))
theorem bEh (kk9 : gW) : D175 r n sT (xs (xs x0 2 (K2 (bV r n) 6 9)) 3 (K6 kk9 2 3 6 7 9 10)) (K6 kk9 2 3 6 7 9 10) = D175 r n aTp (xs (xs x0 2 (K2 (bV r n) 6 9)) 3 (K6 kk9 2 3 6 7 9 10)) (K9 (aJg r n kk9) 2 3 6 7 9 10 11 12 13) :=
 congrArg (fun k => D175 r n aTp (xs (xs x0 2 (K2 (bV r n) 6 9)) 3 (K6 kk9 2 3 6 7 9 10)) k) (bVf r n kk9)
theorem bYu (kk9 : gW) : D175 r n sT (xs (xs x0 2 (K2 (bV r n) 6 9)) 3 (K6 kk9 2 3 6 7 9 10)) (K6 kk9 2 3 6 7 9 10) = (K7 (aDm r n kk9) 2 3 6 7 9 10 11) :=
 (bEh r n kk9).trans
 ((by kernel_rfl))
theorem bEs (kk9 : gW) : D175 r n tE (xs (xs x0 2 (K2 (bV r n) 6 9)) 3 (K6 kk9 2 3 6 7 9 10)) (K6 kk9 2 3 6 7 9 10) = D175 r n bBh (xs (xs x0 2 (K2 (bV r n) 6 9)) 3 (K6 kk9 2 3 6 7 9 10)) (K7 (aDm r n kk9) 2 3 6 7 9 10 11) :=
 congrArg (fun k => D175 r n bBh (xs (xs x0 2 (K2 (bV r n) 6 9)) 3 (K6 kk9 2 3 6 7 9 10)) k) (bYu r n kk9)
theorem bSg (kk9 : gW) : D175 r n tE (xs (xs x0 2 (K2 (bV r n) 6 9)) 3 (K6 kk9 2 3 6 7 9 10)) (K6 kk9 2 3 6 7 9 10) = (K7 (aGl r n kk9) 2 3 6 7 9 10 11) :=
 (bEs r n kk9).trans
 ((by kernel_rfl))
theorem bFg (kk9 : gW) : D175 r n tH (xs (xs x0 2 (K2 (bV r n) 6 9)) 3 (K6 kk9 2 3 6 7 9 10)) (K6 kk9 2 3 6 7 9 10) = D175 r n bBf (xs (xs x0 2 (K2 (bV r n) 6 9)) 3 (K6 kk9 2 3 6 7 9 10)) (K7 (aGl r n kk9) 2 3 6 7 9 10 11) :=
 congrArg (fun k => D175 r n bBf (xs (xs x0 2 (K2 (bV r n) 6 9)) 3 (K6 kk9 2 3 6 7 9 10)) k) (bSg r n kk9)
theorem bVe (kk9 : gW) : D175 r n aBu (xs x0 2 (K2 (bV r n) 6 9)) (K6 kk9 2 3 6 7 9 10) = (K6 (aJh r n kk9) 2 3 6 7 9 10) :=
 (by kernel_rfl : D175 r n aBu (xs x0 2 (K2 (bV r n) 6 9)) (K6 kk9 2 3 6 7 9 10) = D175 r n tH (xs (xs x0 2 (K2 (bV r n) 6 9)) 3 (K6 kk9 2 3 6 7 9 10)) (K6 kk9 2 3 6 7 9 10)).trans
 ((bFg r n kk9).trans
 ((by kernel_rfl)))
theorem bQh (kk9 : gW) : D175 r n iC (xs x0 2 (K2 (bV r n) 6 9)) (K6 kk9 2 3 6 7 9 10) = D175 r n aTn (xs x0 2 (K2 (bV r n) 6 9)) (K6 (aJh r n kk9) 2 3 6 7 9 10) :=
 congrArg (fun k => D175 r n aTn (xs x0 2 (K2 (bV r n) 6 9)) k) (bVe r n kk9)
theorem bWo (kk9 : gW) : D175 r n iC (xs x0 2 (K2 (bV r n) 6 9)) (K6 kk9 2 3 6 7 9 10) = (K6 (aXo r n kk9) 2 3 6 7 9 10) :=
 (bQh r n kk9).trans
 ((by kernel_rfl))
theorem bVd (m : Nat) : aR (fun kk => D175 r n iC (xs x0 2 (K2 (bV r n) 6 9)) kk) m = (K6 (tP r n m) 2 3 6 7 9 10) := by
 induction m with
 | zero => exact (by kernel_rfl : aR (fun kk => D175 r n iC (xs x0 2 (K2 (bV r n) 6 9)) kk) 0 = (K6 (tP r n 0) 2 3 6 7 9 10))
 | succ m ih =>
  refine (by kernel_rfl : aR (fun kk => D175 r n iC (xs x0 2 (K2 (bV r n) 6 9)) kk) (m + 1) = D175 r n iC (xs x0 2 (K2 (bV r n) 6 9)) (aR (fun kk => D175 r n iC (xs x0 2 (K2 (bV r n) 6 9)) kk) m)).trans ?_
  rw [ih]
  exact (bWo r n (tP r n m)).trans (by kernel_rfl)
theorem cIj : D175 r n sS (xs x0 2 (K2 (bV r n) 6 9)) (K2 (bV r n) 6 9) = (K6 (bLa r n) 2 3 6 7 9 10) :=
 (by kernel_rfl : D175 r n sS (xs x0 2 (K2 (bV r n) 6 9)) (K2 (bV r n) 6 9) = aR (fun kk => D175 r n iC (xs x0 2 (K2 (bV r n) 6 9)) kk) n).trans ((bVd r n n).trans (by kernel_rfl))
theorem bRh : D175 r n aFj x0 r175 = D175 r n tT x0 (K2 (bV r n) 6 9) :=
 congrArg (fun k => D175 r n tT x0 k) (cBx r n)
theorem cKc : D175 r n aFj x0 r175 = (K6 (aOd r n) 2 3 6 7 9 10) :=
 (bRh r n).trans
 ((by kernel_rfl : D175 r n tT x0 (K2 (bV r n) 6 9) = D175 r n sS (xs x0 2 (K2 (bV r n) 6 9)) (K2 (bV r n) 6 9)).trans
 ((cIj r n).trans (by kernel_rfl)))
theorem bGe : D175 r n aJn x0 r175 = D175 r n aYa x0 (K6 (aOd r n) 2 3 6 7 9 10) :=
 congrArg (fun k => D175 r n aYa x0 k) (cKc r n)
theorem cEw : D175 r n aJn x0 r175 = (K6 (aOh r n) 2 3 6 7 9 10) :=
 (bGe r n).trans
 ((by kernel_rfl))
theorem bGb : D175 r n aGw x0 r175 = D175 r n aZb x0 (K6 (aOh r n) 2 3 6 7 9 10) :=
 congrArg (fun k => D175 r n aZb x0 k) (cEw r n)
theorem cOa : D175 r n aGw x0 r175 = (K5 (yS r n) 2 3 6 7 9) :=
 (bGb r n).trans
 ((by kernel_rfl))
theorem bCt : D175 r n aFy x0 r175 = D175 r n aGf x0 (K5 (yS r n) 2 3 6 7 9) :=
 congrArg (fun k => D175 r n aGf x0 k) (cOa r n)
theorem bDs (q0 : cF) : D175 r n aGf x0 (K5 q0 2 3 6 7 9) = fun (env : aW) (h : Hp) =>
 bnd (bR [(.b false)] h) fun v1 h1 =>
 bnd (aH 1 v1 (.b true) h1) fun _ h2 =>
  q0 (env 2) (env 3) (env 6) (env 7) v1 h2 := by kernel_rfl
theorem aQt : (fun (env : aW) (h : Hp) =>
 bnd (bR [(.b false)] h) fun v1 h1 =>
 bnd (aH 1 v1 (.b true) h1) fun _ h2 =>
  yS r n (env 2) (env 3) (env 6) (env 7) v1 h2) = (K4 (cN r n) 2 3 6 7) := by kernel_rfl
theorem cMx : D175 r n aFy x0 r175 = (K4 (cN r n) 2 3 6 7) :=
 (bCt r n).trans
 ((bDs r n (yS r n)).trans (aQt r n))
theorem bJc (kk18 : gW) : D175 r n cOz (xs x0 0 (K4 (cN r n) 2 3 6 7)) (K6 kk18 2 3 6 7 19 20) = (K6 (lP r n kk18) 2 3 6 7 19 20) :=
 (by kernel_rfl)
theorem aSn (kk18 : gW) : D175 r n sU (xs x0 0 (K4 (cN r n) 2 3 6 7)) (K6 kk18 2 3 6 7 19 20) = D175 r n aFn (xs x0 0 (K4 (cN r n) 2 3 6 7)) (K6 (lP r n kk18) 2 3 6 7 19 20) :=
 congrArg (fun k => D175 r n aFn (xs x0 0 (K4 (cN r n) 2 3 6 7)) k) (bJc r n kk18)
theorem aQi (kk18 : gW) (q0 : gW) (q1 : dJ) : D175 r n aFn (xs x0 0 (K4 q1 2 3 6 7)) (K6 q0 2 3 6 7 19 20) = fun (env : aW) (h : Hp) =>
 bnd (aA (env 6) h) fun v1 h1 =>
 bnd (aJ 1 v1 (env 20) h1) fun v2 h2 =>
 bnd (aH 1 v2 (.i .i64 (Int.negSucc 0)) h2) fun _ h3 =>
 bnd (aD .eql (env 20) (aF 0) h3) fun v4 h4 =>
 bnd (gD v4 false (some ((env 20), h4)) h4) fun v5 h5 =>
 bnd (gD v4 false (aD .gtr v5 (aF 1) h5) h5) fun v6 h6 =>
 bnd (gD v4 false (some (v6, h6)) h6) fun v7 h7 =>
 bnd (gD v7 true (aA (env 2) h7) h7) fun v8 h8 =>
 bnd (gD v7 true (some ((env 20), h8)) h8) fun v9 h9 =>
 bnd (gD v7 true (aD .sub v9 (aF 2) h9) h9) fun v10 h10 =>
 bnd (gD v7 true (aJ 3 v8 v10 h10) h10) fun v11 h11 =>
 bnd (gD v7 true (aC 0 v11 h11) h11) fun v12 h12 =>
 bnd (gD v7 true (aA v12 h12) h12) fun v13 h13 =>
 bnd (gD v7 true (aD .eql v13 (aF 18) h13) h13) fun v14 h14 =>
 bnd (gD v4 false (aQ v7 v14 (.b false) h14) h14) fun v15 h15 =>
 bnd (gD v4 false (some (v15, h15)) h15) fun v16 h16 =>
 bnd (gD v16 true (aA (env 3) h16) h16) fun v17 h17 =>
 bnd (gD v16 true (some ((env 20), h17)) h17) fun v18 h18 =>
 bnd (gD v16 true (aJ 1 v17 v18 h18) h18) fun v19 h19 =>
 bnd (gD v16 true (aA v19 h19) h19) fun v20 h20 =>
 bnd (gD v16 true (some ((env 20), h20)) h20) fun v21 h21 =>
 bnd (gD v16 true (aD .sub v21 (aF 2) h21) h21) fun v22 h22 =>
 bnd (gD v16 true (aD .eql v20 v22 h22) h22) fun v23 h23 =>
 bnd (gD v4 false (aQ v16 v23 (.b false) h23) h23) fun v24 h24 =>
 bnd (aQ v4 (.b true) v24 h24) fun v25 h25 =>
 aT v25 (
 bnd (aA (env 6) h25) fun v26 h26 =>
 bnd (aJ 1 v26 (env 20) h26) fun v27 h27 =>
 bnd (aH 1 v27 (aF 0) h27) fun _ h28 =>
 bnd (aA (env 7) h28) fun v29 h29 =>
 bnd (aL [(aF 0)] 1 [(0, 1, (env 20))] h29) fun v30 h30 =>
 bnd (bB 1 8 v29 v30 h30) fun v31 h31 =>
 bnd (aH 1 (env 7) v31 h31) fun _ h32 =>
      q0 (env 2) (env 3) (env 6) (env 7) (env 19) (env 20) h32) (
      q0 (env 2) (env 3) (env 6) (env 7) (env 19) (env 20) h25) := by kernel_rfl
theorem aLx (kk18 : gW) : (fun (env : aW) (h : Hp) =>
 bnd (aA (env 6) h) fun v1 h1 =>
 bnd (aJ 1 v1 (env 20) h1) fun v2 h2 =>
 bnd (aH 1 v2 (.i .i64 (Int.negSucc 0)) h2) fun _ h3 =>
 bnd (aD .eql (env 20) (aF 0) h3) fun v4 h4 =>
 bnd (gD v4 false (some ((env 20), h4)) h4) fun v5 h5 =>
 bnd (gD v4 false (aD .gtr v5 (aF 1) h5) h5) fun v6 h6 =>
 bnd (gD v4 false (some (v6, h6)) h6) fun v7 h7 =>
 bnd (gD v7 true (aA (env 2) h7) h7) fun v8 h8 =>
 bnd (gD v7 true (some ((env 20), h8)) h8) fun v9 h9 =>
 bnd (gD v7 true (aD .sub v9 (aF 2) h9) h9) fun v10 h10 =>
 bnd (gD v7 true (aJ 3 v8 v10 h10) h10) fun v11 h11 =>
 bnd (gD v7 true (aC 0 v11 h11) h11) fun v12 h12 =>
 bnd (gD v7 true (aA v12 h12) h12) fun v13 h13 =>
 bnd (gD v7 true (aD .eql v13 (aF 18) h13) h13) fun v14 h14 =>
 bnd (gD v4 false (aQ v7 v14 (.b false) h14) h14) fun v15 h15 =>
 bnd (gD v4 false (some (v15, h15)) h15) fun v16 h16 =>
 bnd (gD v16 true (aA (env 3) h16) h16) fun v17 h17 =>
 bnd (gD v16 true (some ((env 20), h17)) h17) fun v18 h18 =>
 bnd (gD v16 true (aJ 1 v17 v18 h18) h18) fun v19 h19 =>
 bnd (gD v16 true (aA v19 h19) h19) fun v20 h20 =>
 bnd (gD v16 true (some ((env 20), h20)) h20) fun v21 h21 =>
 bnd (gD v16 true (aD .sub v21 (aF 2) h21) h21) fun v22 h22 =>
 bnd (gD v16 true (aD .eql v20 v22 h22) h22) fun v23 h23 =>
 bnd (gD v4 false (aQ v16 v23 (.b false) h23) h23) fun v24 h24 =>
 bnd (aQ v4 (.b true) v24 h24) fun v25 h25 =>
 aT v25 (
 bnd (aA (env 6) h25) fun v26 h26 =>
 bnd (aJ 1 v26 (env 20) h26) fun v27 h27 =>
 bnd (aH 1 v27 (aF 0) h27) fun _ h28 =>
 bnd (aA (env 7) h28) fun v29 h29 =>
 bnd (aL [(aF 0)] 1 [(0, 1, (env 20))] h29) fun v30 h30 =>
 bnd (bB 1 8 v29 v30 h30) fun v31 h31 =>
 bnd (aH 1 (env 7) v31 h31) fun _ h32 =>
      lP r n kk18 (env 2) (env 3) (env 6) (env 7) (env 19) (env 20) h32) (
      lP r n kk18 (env 2) (env 3) (env 6) (env 7) (env 19) (env 20) h25)) = (K6 (sP r n kk18) 2 3 6 7 19 20) := by kernel_rfl
theorem bNv (kk18 : gW) : D175 r n sU (xs x0 0 (K4 (cN r n) 2 3 6 7)) (K6 kk18 2 3 6 7 19 20) = (K6 (sP r n kk18) 2 3 6 7 19 20) :=
 (aSn r n kk18).trans
 ((aQi r n kk18 (lP r n kk18) (cN r n)).trans (aLx r n kk18))
theorem aMx (kk18 : gW) : D175 r n tN (xs x0 0 (K4 (cN r n) 2 3 6 7)) (K6 kk18 2 3 6 7 19 20) = D175 r n aWc (xs x0 0 (K4 (cN r n) 2 3 6 7)) (K6 (sP r n kk18) 2 3 6 7 19 20) :=
 congrArg (fun k => D175 r n aWc (xs x0 0 (K4 (cN r n) 2 3 6 7)) k) (bNv r n kk18)
theorem bNo (kk18 : gW) : D175 r n tN (xs x0 0 (K4 (cN r n) 2 3 6 7)) (K6 kk18 2 3 6 7 19 20) = (K7 (aJk r n kk18) 2 3 6 7 19 20 21) :=
 (aMx r n kk18).trans
 ((by kernel_rfl))
theorem aSi (kk18 : gW) : D175 r n iA (xs x0 0 (K4 (cN r n) 2 3 6 7)) (K6 kk18 2 3 6 7 19 20) = D175 r n aVk (xs x0 0 (K4 (cN r n) 2 3 6 7)) (K7 (aJk r n kk18) 2 3 6 7 19 20 21) :=
 congrArg (fun k => D175 r n aVk (xs x0 0 (K4 (cN r n) 2 3 6 7)) k) (bNo r n kk18)
theorem bCz (kk18 : gW) : D175 r n iA (xs x0 0 (K4 (cN r n) 2 3 6 7)) (K6 kk18 2 3 6 7 19 20) = (K6 (aMc r n kk18) 2 3 6 7 19 20) :=
 (aSi r n kk18).trans
 ((by kernel_rfl))
theorem bGc (m : Nat) : aR (fun kk => D175 r n iA (xs x0 0 (K4 (cN r n) 2 3 6 7)) kk) m = (K6 (pH r n m) 2 3 6 7 19 20) := by
 induction m with
 | zero => exact (by kernel_rfl : aR (fun kk => D175 r n iA (xs x0 0 (K4 (cN r n) 2 3 6 7)) kk) 0 = (K6 (pH r n 0) 2 3 6 7 19 20))
 | succ m ih =>
  refine (by kernel_rfl : aR (fun kk => D175 r n iA (xs x0 0 (K4 (cN r n) 2 3 6 7)) kk) (m + 1) = D175 r n iA (xs x0 0 (K4 (cN r n) 2 3 6 7)) (aR (fun kk => D175 r n iA (xs x0 0 (K4 (cN r n) 2 3 6 7)) kk) m)).trans ?_
  rw [ih]
  exact (bCz r n (pH r n m)).trans (by kernel_rfl)
theorem bJw : D175 r n tF (xs x0 0 (K4 (cN r n) 2 3 6 7)) (K4 (cN r n) 2 3 6 7) = (K6 (bAv r n) 2 3 6 7 19 20) :=
 (by kernel_rfl : D175 r n tF (xs x0 0 (K4 (cN r n) 2 3 6 7)) (K4 (cN r n) 2 3 6 7) = aR (fun kk => D175 r n iA (xs x0 0 (K4 (cN r n) 2 3 6 7)) kk) n).trans ((bGc r n n).trans (by kernel_rfl))
theorem bLu : D175 r n aHd x0 (K4 (cN r n) 2 3 6 7) = (K6 (aFq r n) 2 3 6 7 19 20) :=
 (by kernel_rfl : D175 r n aHd x0 (K4 (cN r n) 2 3 6 7) = D175 r n tF (xs x0 0 (K4 (cN r n) 2 3 6 7)) (K4 (cN r n) 2 3 6 7)).trans
 ((bJw r n).trans (by kernel_rfl))
theorem bCb : D175 r n aGa x0 r175 = D175 r n oQ x0 (K4 (cN r n) 2 3 6 7) :=
 congrArg (fun k => D175 r n oQ x0 k) (cMx r n)
theorem bFr : D175 r n oQ x0 (K4 (cN r n) 2 3 6 7) = D175 r n aUb x0 (K6 (aFq r n) 2 3 6 7 19 20) :=
 congrArg (fun k => D175 r n aUb x0 k) (bLu r n)
theorem cJq : D175 r n aGa x0 r175 = (K4 (wD r n) 2 3 6 7) :=
 (bCb r n).trans
 ((bFr r n).trans
 ((by kernel_rfl)))
theorem bCj : D175 r n aIk x0 r175 = D175 r n aFd x0 (K4 (wD r n) 2 3 6 7) :=
 congrArg (fun k => D175 r n aFd x0 k) (cJq r n)
theorem bFa (q0 : dJ) : D175 r n aFd x0 (K4 q0 2 3 6 7) = fun (env : aW) (h : Hp) =>
 bnd (bR [.l0] h) fun v1 h1 =>
  q0 (env 2) (env 3) (env 6) v1 h1 := by kernel_rfl
theorem aRn : (fun (env : aW) (h : Hp) =>
 bnd (bR [.l0] h) fun v1 h1 =>
  wD r n (env 2) (env 3) (env 6) v1 h1) = (K3 (qB r n) 2 3 6) := by kernel_rfl
theorem cFe : D175 r n aIk x0 r175 = (K3 (qB r n) 2 3 6) :=
 (bCj r n).trans
 ((bFa r n (wD r n)).trans (aRn r n))
theorem bFy : D175 r n aGo x0 r175 = D175 r n aGh x0 (K3 (qB r n) 2 3 6) :=
 congrArg (fun k => D175 r n aGh x0 k) (cFe r n)
theorem bDi (q0 : nB) : D175 r n aGh x0 (K3 q0 2 3 6) = fun (env : aW) (h : Hp) =>
 bnd (aA (env 2) h) fun v1 h1 =>
 bnd (cJ v1 h1) fun v2 h2 =>
 bnd (cK 1 8 [(aF 0)] v2 v2 h2) fun v3 h3 =>
 bnd (bR [.l0] h3) fun v4 h4 =>
 bnd (aH 1 v4 v3 h4) fun _ h5 =>
  q0 (env 2) (env 3) v4 h5 := by kernel_rfl
theorem aPb : (fun (env : aW) (h : Hp) =>
 bnd (aA (env 2) h) fun v1 h1 =>
 bnd (cJ v1 h1) fun v2 h2 =>
 bnd (cK 1 8 [(aF 0)] v2 v2 h2) fun v3 h3 =>
 bnd (bR [.l0] h3) fun v4 h4 =>
 bnd (aH 1 v4 v3 h4) fun _ h5 =>
  qB r n (env 2) (env 3) v4 h5) = (K2 (qN r n) 2 3) := by kernel_rfl
theorem cMc : D175 r n aNw x0 r175 = (K2 (qN r n) 2 3) :=
 (by kernel_rfl : D175 r n aNw x0 r175 = D175 r n aGo x0 r175).trans
 ((bFy r n).trans
 ((bDi r n (qB r n)).trans (aPb r n)))
theorem cKr : D175 r n c175 x0 r175 = D175 r n aCa x0 (K2 (qN r n) 2 3) :=
 congrArg (fun k => D175 r n aCa x0 k) (cMc r n)
theorem cBf (q0 : rP) : D175 r n aCa x0 (K2 q0 2 3) = fun (env : aW) (h : Hp) =>
 bnd (bX (env 0) h) fun v1 h1 =>
 bnd (bX (env 1) h1) fun v2 h2 =>
  q0 v1 v2 h2 := by kernel_rfl
theorem bZz : (fun (env : aW) (h : Hp) =>
 bnd (bX (env 0) h) fun v1 h1 =>
 bnd (bX (env 1) h1) fun v2 h2 =>
  qN r n v1 v2 h2) = (K2 (s175 r n) 0 1) := by kernel_rfl
theorem dNx : D175 r n c175 x0 r175 = (K2 (s175 r n) 0 1) :=
 (cKr r n).trans
 ((cBf r n (qN r n)).trans (bZz r n))
theorem dBp : aE CF r n 175 args h = s175 r n (aS args 0) (aS args 1) h :=
 (by kernel_rfl : aE CF r n 175 args h = D175 r n c175 x0 r175 (aG args) h).trans ((congrFun (congrFun (dNx r n) (aG args)) h).trans (by kernel_rfl))
noncomputable def s177 (r : RT) (n : Nat) (x0 : DV) (h0 : Hp) : aI :=
 bnd (r 148 [x0] h0) fun v1 h1 =>
 bnd (gD v1 false (some (x0, h1)) h1) fun v2 h2 =>
 bnd (gD v1 false (r 151 [v2] h2) h2) fun v3 h3 =>
 bnd (aQ v1 (.b true) v3 h3) fun v4 h4 =>
 some (v4, h4)
noncomputable abbrev c177 : Code := cf Tryz.f177
noncomputable abbrev r177 : K := aP CF Tryz.f177
noncomputable def D177 (r : RT) (n : Nat) (c : Code) (X : Nat → K) (k : K) : K := aM CF r 9 n c X r177 k
theorem dJa : D177 r n c177 x0 r177 = (K1 (s177 r n) 0) :=
 (by kernel_rfl)
theorem cVt : aE CF r n 177 args h = s177 r n (aS args 0) h :=
 (by kernel_rfl : aE CF r n 177 args h = D177 r n c177 x0 r177 (aG args) h).trans ((congrFun (congrFun (dJa r n) (aG args)) h).trans (by kernel_rfl))
end Go.Dd

namespace Go.Dd
open Go.Proofs
variable (r : RT) (n : Nat) (args : List DV) (h : Hp)
noncomputable def oK (r : RT) (n : Nat) (x2 : DV) (h0 : Hp) : aI :=
 bnd (bD lR [] h0) fun v1 h1 =>
 bnd (aH 6 x2 v1 h1) fun _ h2 =>
 bnd (aK 6 x2 h2) fun v3 _ =>
 some (v3, h2)
noncomputable def qX (r : RT) (n : Nat) (x0 x2 : DV) (h0 : Hp) : aI :=
 bnd (r 137 [x0, (aF 0)] h0) fun v1 h1 =>
 bnd (bR [(aF 0), (.s []), (aF 0), (aF 0)] h1) fun v2 h2 =>
 bnd (aH 4 v2 v1 h2) fun _ h3 =>
 bnd (aO x0 h3) fun v4 h4 =>
 bnd (aC 3 v4 h4) fun v5 h5 =>
 bnd (aA v5 h5) fun v6 h6 =>
 bnd (aD .neq v6 (aF 0) h6) fun v7 h7 =>
 aT v7 (
  oK r n x2 h7) (
 bnd (aC 0 v2 h7) fun v8 h8 =>
 bnd (aA v8 h8) fun v9 h9 =>
 bnd (aD .eql v9 (aF 1) h9) fun v10 h10 =>
 aT v10 (
 bnd (r 134 [x0] h10) fun v11 h11 =>
 bnd (fN 1 v11 h11) fun v12 h12 =>
 bnd (bD lR [(0, 1, (aF 5)), (1, 1, v12)] h12) fun v13 h13 =>
 bnd (aH 6 x2 v13 h13) fun _ h14 =>
 bnd (aK 6 x2 h14) fun v15 _ =>
 some (v15, h14)) (
 bnd (aC 0 v2 h10) fun v16 h16 =>
 bnd (aA v16 h16) fun v17 h17 =>
 bnd (aD .eql v17 (aF 7) h17) fun v18 h18 =>
 aT v18 (
 bnd (r 208 [x0, (.f 209 [x0] [])] h18) fun v19 h19 =>
 bnd (aH 6 x2 v19 h19) fun _ h20 =>
 bnd (aK 6 x2 h20) fun v21 _ =>
 some (v21, h20)) (
 bnd (r 133 [x0, (aF 10), (.s [40])] h18) fun v22 h22 =>
 aT v22 (
 bnd (r 208 [x0, (.f 210 [x0] [])] h22) fun v23 h23 =>
 bnd (aH 6 x2 v23 h23) fun _ h24 =>
 bnd (aK 6 x2 h24) fun v25 _ =>
 some (v25, h24)) (
 bnd (r 133 [x0, (aF 10), (.s [91])] h22) fun v26 h26 =>
 aT v26 (
 bnd (r 208 [x0, (.f 211 [x0] [])] h26) fun v27 h27 =>
 bnd (aH 6 x2 v27 h27) fun _ h28 =>
 bnd (aK 6 x2 h28) fun v29 _ =>
 some (v29, h28)) (
 bnd (aK 4 v2 h26) fun v30 h30 =>
 bnd (r 136 [x0, v30, (aF 13)] h30) fun v31 h31 =>
      oK r n x2 h31)))))
noncomputable def pV (r : RT) (n : Nat) (x0 x2 : DV) (h0 : Hp) : aI :=
 bnd (r 207 [x0] h0) fun v1 h1 =>
 bnd (aB 0 v1 h1) fun v2 h2 =>
 bnd (aB 1 v1 h2) fun v3 h3 =>
 bnd (bR lR h3) fun v4 h4 =>
 bnd (aH 6 v4 v2 h4) fun _ h5 =>
 aT v3 (
 bnd (aK 6 v4 h5) fun v6 h6 =>
 bnd (aH 6 x2 v6 h6) fun _ h7 =>
 bnd (aK 6 x2 h7) fun v8 _ =>
 some (v8, h7)) (
  qX r n x0 x2 h5)
noncomputable def s182 (r : RT) (n : Nat) (x0 : DV) (h0 : Hp) : aI :=
 bnd (bR lR h0) fun v1 h1 =>
  pV r n x0 v1 h1
noncomputable abbrev c182 : Code := cf Tryz.f182
noncomputable abbrev aJr : Code := cR c182
noncomputable abbrev aBm : Code := cR aJr
noncomputable abbrev cZr : Code := cR aBm
noncomputable abbrev aSc : Code := cL aBm
noncomputable abbrev aQh : Code := cL aJr
noncomputable abbrev aNr : Code := cL c182
noncomputable abbrev r182 : K := aP CF Tryz.f182
noncomputable def D182 (r : RT) (n : Nat) (c : Code) (X : Nat → K) (k : K) : K := aM CF r 55 n c X r182 k
theorem cHw : D182 r n cZr x0 r182 = (K1 (oK r n) 2) :=
 (by kernel_rfl)
theorem bTs : D182 r n aBm x0 r182 = D182 r n aSc x0 (K1 (oK r n) 2) :=
 congrArg (fun k => D182 r n aSc x0 k) (cHw r n)
theorem bWi (q0 : TT1) : D182 r n aSc x0 (K1 q0 2) = fun (env : aW) (h : Hp) =>
 bnd (r 137 [(env 0), (aF 0)] h) fun v1 h1 =>
 bnd (bR [(aF 0), (.s []), (aF 0), (aF 0)] h1) fun v2 h2 =>
 bnd (aH 4 v2 v1 h2) fun _ h3 =>
 bnd (aO (env 0) h3) fun v4 h4 =>
 bnd (aC 3 v4 h4) fun v5 h5 =>
 bnd (aA v5 h5) fun v6 h6 =>
 bnd (aD .neq v6 (aF 0) h6) fun v7 h7 =>
 aT v7 (
   q0 (env 2) h7) (
 bnd (aC 0 v2 h7) fun v8 h8 =>
 bnd (aA v8 h8) fun v9 h9 =>
 bnd (aD .eql v9 (aF 1) h9) fun v10 h10 =>
 aT v10 (
 bnd (r 134 [(env 0)] h10) fun v11 h11 =>
 bnd (fN 1 v11 h11) fun v12 h12 =>
 bnd (bD lR [(0, 1, (aF 5)), (1, 1, v12)] h12) fun v13 h13 =>
 bnd (aH 6 (env 2) v13 h13) fun _ h14 =>
 bnd (aK 6 (env 2) h14) fun v15 _ =>
 some (v15, h14)) (
 bnd (aC 0 v2 h10) fun v16 h16 =>
 bnd (aA v16 h16) fun v17 h17 =>
 bnd (aD .eql v17 (aF 7) h17) fun v18 h18 =>
 aT v18 (
 bnd (r 208 [(env 0), (.f 209 [(env 0)] [])] h18) fun v19 h19 =>
 bnd (aH 6 (env 2) v19 h19) fun _ h20 =>
 bnd (aK 6 (env 2) h20) fun v21 _ =>
 some (v21, h20)) (
 bnd (r 133 [(env 0), (aF 10), (.s [40])] h18) fun v22 h22 =>
 aT v22 (
 bnd (r 208 [(env 0), (.f 210 [(env 0)] [])] h22) fun v23 h23 =>
 bnd (aH 6 (env 2) v23 h23) fun _ h24 =>
 bnd (aK 6 (env 2) h24) fun v25 _ =>
 some (v25, h24)) (
 bnd (r 133 [(env 0), (aF 10), (.s [91])] h22) fun v26 h26 =>
 aT v26 (
 bnd (r 208 [(env 0), (.f 211 [(env 0)] [])] h26) fun v27 h27 =>
 bnd (aH 6 (env 2) v27 h27) fun _ h28 =>
 bnd (aK 6 (env 2) h28) fun v29 _ =>
 some (v29, h28)) (
 bnd (aK 4 v2 h26) fun v30 h30 =>
 bnd (r 136 [(env 0), v30, (aF 13)] h30) fun v31 h31 =>
       q0 (env 2) h31))))) := by kernel_rfl
theorem bEf : (fun (env : aW) (h : Hp) =>
 bnd (r 137 [(env 0), (aF 0)] h) fun v1 h1 =>
 bnd (bR [(aF 0), (.s []), (aF 0), (aF 0)] h1) fun v2 h2 =>
 bnd (aH 4 v2 v1 h2) fun _ h3 =>
 bnd (aO (env 0) h3) fun v4 h4 =>
 bnd (aC 3 v4 h4) fun v5 h5 =>
 bnd (aA v5 h5) fun v6 h6 =>
 bnd (aD .neq v6 (aF 0) h6) fun v7 h7 =>
 aT v7 (
   oK r n (env 2) h7) (
 bnd (aC 0 v2 h7) fun v8 h8 =>
 bnd (aA v8 h8) fun v9 h9 =>
 bnd (aD .eql v9 (aF 1) h9) fun v10 h10 =>
 aT v10 (
 bnd (r 134 [(env 0)] h10) fun v11 h11 =>
 bnd (fN 1 v11 h11) fun v12 h12 =>
 bnd (bD lR [(0, 1, (aF 5)), (1, 1, v12)] h12) fun v13 h13 =>
 bnd (aH 6 (env 2) v13 h13) fun _ h14 =>
 bnd (aK 6 (env 2) h14) fun v15 _ =>
 some (v15, h14)) (
 bnd (aC 0 v2 h10) fun v16 h16 =>
 bnd (aA v16 h16) fun v17 h17 =>
 bnd (aD .eql v17 (aF 7) h17) fun v18 h18 =>
 aT v18 (
 bnd (r 208 [(env 0), (.f 209 [(env 0)] [])] h18) fun v19 h19 =>
 bnd (aH 6 (env 2) v19 h19) fun _ h20 =>
 bnd (aK 6 (env 2) h20) fun v21 _ =>
 some (v21, h20)) (
 bnd (r 133 [(env 0), (aF 10), (.s [40])] h18) fun v22 h22 =>
 aT v22 (
 bnd (r 208 [(env 0), (.f 210 [(env 0)] [])] h22) fun v23 h23 =>
 bnd (aH 6 (env 2) v23 h23) fun _ h24 =>
 bnd (aK 6 (env 2) h24) fun v25 _ =>
 some (v25, h24)) (
 bnd (r 133 [(env 0), (aF 10), (.s [91])] h22) fun v26 h26 =>
 aT v26 (
 bnd (r 208 [(env 0), (.f 211 [(env 0)] [])] h26) fun v27 h27 =>
 bnd (aH 6 (env 2) v27 h27) fun _ h28 =>
 bnd (aK 6 (env 2) h28) fun v29 _ =>
 some (v29, h28)) (
 bnd (aK 4 v2 h26) fun v30 h30 =>
 bnd (r 136 [(env 0), v30, (aF 13)] h30) fun v31 h31 =>
       oK r n (env 2) h31)))))) = (K2 (qX r n) 0 2) := by kernel_rfl
theorem cCm : D182 r n aBm x0 r182 = (K2 (qX r n) 0 2) :=
 (bTs r n).trans
 ((bWi r n (oK r n)).trans (bEf r n))
theorem bQj : D182 r n aJr x0 r182 = D182 r n aQh x0 (K2 (qX r n) 0 2) :=
 congrArg (fun k => D182 r n aQh x0 k) (cCm r n)
theorem bHf (q0 : rP) : D182 r n aQh x0 (K2 q0 0 2) = fun (env : aW) (h : Hp) =>
 bnd (r 207 [(env 0)] h) fun v1 h1 =>
 bnd (aB 0 v1 h1) fun v2 h2 =>
 bnd (aB 1 v1 h2) fun v3 h3 =>
 bnd (bR lR h3) fun v4 h4 =>
 bnd (aH 6 v4 v2 h4) fun _ h5 =>
 aT v3 (
 bnd (aK 6 v4 h5) fun v6 h6 =>
 bnd (aH 6 (env 2) v6 h6) fun _ h7 =>
 bnd (aK 6 (env 2) h7) fun v8 _ =>
 some (v8, h7)) (
   q0 (env 0) (env 2) h5) := by kernel_rfl
theorem bFl : (fun (env : aW) (h : Hp) =>
 bnd (r 207 [(env 0)] h) fun v1 h1 =>
 bnd (aB 0 v1 h1) fun v2 h2 =>
 bnd (aB 1 v1 h2) fun v3 h3 =>
 bnd (bR lR h3) fun v4 h4 =>
 bnd (aH 6 v4 v2 h4) fun _ h5 =>
 aT v3 (
 bnd (aK 6 v4 h5) fun v6 h6 =>
 bnd (aH 6 (env 2) v6 h6) fun _ h7 =>
 bnd (aK 6 (env 2) h7) fun v8 _ =>
 some (v8, h7)) (
   qX r n (env 0) (env 2) h5)) = (K2 (pV r n) 0 2) := by kernel_rfl
theorem cPi : D182 r n aJr x0 r182 = (K2 (pV r n) 0 2) :=
 (bQj r n).trans
 ((bHf r n (qX r n)).trans (bFl r n))
theorem cYd : D182 r n c182 x0 r182 = D182 r n aNr x0 (K2 (pV r n) 0 2) :=
 congrArg (fun k => D182 r n aNr x0 k) (cPi r n)
theorem cYc (q0 : rP) : D182 r n aNr x0 (K2 q0 0 2) = fun (env : aW) (h : Hp) =>
 bnd (bR lR h) fun v1 h1 =>
  q0 (env 0) v1 h1 := by kernel_rfl
theorem cIe : (fun (env : aW) (h : Hp) =>
 bnd (bR lR h) fun v1 h1 =>
  pV r n (env 0) v1 h1) = (K1 (s182 r n) 0) := by kernel_rfl
theorem dGc : D182 r n c182 x0 r182 = (K1 (s182 r n) 0) :=
 (cYd r n).trans
 ((cYc r n (pV r n)).trans (cIe r n))
theorem cSk : aE CF r n 182 args h = s182 r n (aS args 0) h :=
 (by kernel_rfl : aE CF r n 182 args h = D182 r n c182 x0 r182 (aG args) h).trans ((congrFun (congrFun (dGc r n) (aG args)) h).trans (by kernel_rfl))
noncomputable def eP (r : RT) (n : Nat) (h0 : Hp) : aI :=
 some ((.i .i64 (Int.negSucc 0)), h0)
noncomputable def bBe (r : RT) (n : Nat) (kk4 : dJ) (x0 x1 x7 x8 : DV) (h0 : Hp) : aI :=
 bnd (aD .lss x8 x7 h0) fun v1 h1 =>
 aT v1 (
 bnd (aJ 4 x0 x8 h1) fun v2 h2 =>
 bnd (aK 4 v2 h2) fun v3 h3 =>
 bnd (fO CF r x1 [v3] h3) fun v4 h4 =>
 aT v4 (
 some (x8, h4)) (
 bnd (aD .add x8 (aF 1) h4) fun v5 h5 =>
    kk4 x0 x1 x7 v5 h5)) (
      eP r n h1)
noncomputable def tW (r : RT) (n : Nat) (m : Nat) : dJ :=
 Nat.rec (motive := fun _ => dJ) (fun _ _ _ _ _ => none) (fun _ ih => bBe r n ih) m
noncomputable def bSm (r : RT) (n : Nat) : dJ := tW r n n
noncomputable def aPc (r : RT) (n : Nat) (x0 x1 x7 x8 : DV) (h0 : Hp) : aI :=
 bSm r n x0 x1 x7 x8 h0
noncomputable def aQj (r : RT) (n : Nat) (x0 x1 : DV) (h0 : Hp) : aI :=
 bnd (cJ x0 h0) fun v1 h1 =>
  aPc r n x0 x1 v1 (aF 0) h1
noncomputable def s185 (r : RT) (n : Nat) (x0 x1 : DV) (h0 : Hp) : aI :=
 aQj r n x0 x1 h0
noncomputable abbrev c185 : Code := cf Tryz.f185
noncomputable abbrev aBg : Code := cR c185
noncomputable abbrev cZi : Code := cR aBg
noncomputable abbrev yX : Code := cL aBg
noncomputable abbrev aSo : Code := cR yX
noncomputable abbrev aHs : Code := cL aSo
noncomputable abbrev nV : Code := cL aHs
noncomputable abbrev bQu : Code := cL yX
noncomputable abbrev bJh : Code := cL c185
noncomputable abbrev r185 : K := aP CF Tryz.f185
noncomputable def D185 (r : RT) (n : Nat) (c : Code) (X : Nat → K) (k : K) : K := aM CF r 19 n c X r185 k
theorem cEm : D185 r n cZi x0 r185 = (K0 (eP r n)) :=
 (by kernel_rfl)
theorem bXk (kk4 : dJ) : D185 r n nV (xs x0 0 (K0 (eP r n))) (K4 kk4 0 1 7 8) = (K4 (bBe r n kk4) 0 1 7 8) :=
 (by kernel_rfl)
theorem bKx (m : Nat) : aR (fun kk => D185 r n nV (xs x0 0 (K0 (eP r n))) kk) m = (K4 (tW r n m) 0 1 7 8) := by
 induction m with
 | zero => exact (by kernel_rfl : aR (fun kk => D185 r n nV (xs x0 0 (K0 (eP r n))) kk) 0 = (K4 (tW r n 0) 0 1 7 8))
 | succ m ih =>
  refine (by kernel_rfl : aR (fun kk => D185 r n nV (xs x0 0 (K0 (eP r n))) kk) (m + 1) = D185 r n nV (xs x0 0 (K0 (eP r n))) (aR (fun kk => D185 r n nV (xs x0 0 (K0 (eP r n))) kk) m)).trans ?_
  rw [ih]
  exact (bXk r n (tW r n m)).trans (by kernel_rfl)
theorem cLb : D185 r n aHs (xs x0 0 (K0 (eP r n))) (K0 (eP r n)) = (K4 (bSm r n) 0 1 7 8) :=
 (by kernel_rfl : D185 r n aHs (xs x0 0 (K0 (eP r n))) (K0 (eP r n)) = aR (fun kk => D185 r n nV (xs x0 0 (K0 (eP r n))) kk) n).trans ((bKx r n n).trans (by kernel_rfl))
theorem cMn : D185 r n aSo x0 (K0 (eP r n)) = (K4 (aPc r n) 0 1 7 8) :=
 (by kernel_rfl : D185 r n aSo x0 (K0 (eP r n)) = D185 r n aHs (xs x0 0 (K0 (eP r n))) (K0 (eP r n))).trans
 ((cLb r n).trans (by kernel_rfl))
theorem bGx : D185 r n aBg x0 r185 = D185 r n yX x0 (K0 (eP r n)) :=
 congrArg (fun k => D185 r n yX x0 k) (cEm r n)
theorem bUv : D185 r n yX x0 (K0 (eP r n)) = D185 r n bQu x0 (K4 (aPc r n) 0 1 7 8) :=
 congrArg (fun k => D185 r n bQu x0 k) (cMn r n)
theorem cNf : D185 r n aBg x0 r185 = (K2 (aQj r n) 0 1) :=
 (bGx r n).trans
 ((bUv r n).trans
 ((by kernel_rfl)))
theorem cUv : D185 r n c185 x0 r185 = D185 r n bJh x0 (K2 (aQj r n) 0 1) :=
 congrArg (fun k => D185 r n bJh x0 k) (cNf r n)
theorem dHr : D185 r n c185 x0 r185 = (K2 (s185 r n) 0 1) :=
 (cUv r n).trans
 ((by kernel_rfl))
theorem cSu : aE CF r n 185 args h = s185 r n (aS args 0) (aS args 1) h :=
 (by kernel_rfl : aE CF r n 185 args h = D185 r n c185 x0 r185 (aG args) h).trans ((congrFun (congrFun (dHr r n) (aG args)) h).trans (by kernel_rfl))
noncomputable def s186 (r : RT) (n : Nat) (x0 x1 : DV) (h0 : Hp) : aI :=
 bnd (bX x0 h0) fun v1 h1 =>
 bnd (aC 0 v1 h1) fun v2 h2 =>
 bnd (aA v2 h2) fun v3 h3 =>
 bnd (aA x1 h3) fun v4 h4 =>
 bnd (gR .eql v3 v4 h4) fun v5 h5 =>
 some (v5, h5)
noncomputable abbrev c186 : Code := cf Tryz.f186
noncomputable abbrev r186 : K := aP CF Tryz.f186
noncomputable def D186 (r : RT) (n : Nat) (c : Code) (X : Nat → K) (k : K) : K := aM CF r 8 n c X r186 k
theorem dHu : D186 r n c186 x0 r186 = (K2 (s186 r n) 0 1) :=
 (by kernel_rfl)
theorem dAf : aE CF r n 186 args h = s186 r n (aS args 0) (aS args 1) h :=
 (by kernel_rfl : aE CF r n 186 args h = D186 r n c186 x0 r186 (aG args) h).trans ((congrFun (congrFun (dHu r n) (aG args)) h).trans (by kernel_rfl))
noncomputable def eU (r : RT) (n : Nat) (h0 : Hp) : aI :=
 some ((.i .i64 (Int.negSucc 0)), h0)
noncomputable def bAw (r : RT) (n : Nat) (kk4 : dJ) (x0 x1 x7 x8 : DV) (h0 : Hp) : aI :=
 bnd (aD .lss x8 x7 h0) fun v1 h1 =>
 aT v1 (
 bnd (aJ 4 x0 x8 h1) fun v2 h2 =>
 bnd (aK 4 v2 h2) fun v3 h3 =>
 bnd (fO CF r x1 [v3] h3) fun v4 h4 =>
 aT v4 (
 some (x8, h4)) (
 bnd (aD .add x8 (aF 1) h4) fun v5 h5 =>
    kk4 x0 x1 x7 v5 h5)) (
      eU r n h1)
noncomputable def tR (r : RT) (n : Nat) (m : Nat) : dJ :=
 Nat.rec (motive := fun _ => dJ) (fun _ _ _ _ _ => none) (fun _ ih => bAw r n ih) m
noncomputable def bVg (r : RT) (n : Nat) : dJ := tR r n n
noncomputable def aSj (r : RT) (n : Nat) (x0 x1 x7 x8 : DV) (h0 : Hp) : aI :=
 bVg r n x0 x1 x7 x8 h0
noncomputable def aOv (r : RT) (n : Nat) (x0 x1 : DV) (h0 : Hp) : aI :=
 bnd (cJ x0 h0) fun v1 h1 =>
  aSj r n x0 x1 v1 (aF 0) h1
noncomputable def s187 (r : RT) (n : Nat) (x0 x1 : DV) (h0 : Hp) : aI :=
 aOv r n x0 x1 h0
noncomputable abbrev c187 : Code := cf Tryz.f187
noncomputable abbrev aDz : Code := cR c187
noncomputable abbrev dDr : Code := cR aDz
noncomputable abbrev vV : Code := cL aDz
noncomputable abbrev aNx : Code := cR vV
noncomputable abbrev aHx : Code := cL aNx
noncomputable abbrev oB : Code := cL aHx
noncomputable abbrev bWw : Code := cL vV
noncomputable abbrev bZl : Code := cL c187
noncomputable abbrev r187 : K := aP CF Tryz.f187
noncomputable def D187 (r : RT) (n : Nat) (c : Code) (X : Nat → K) (k : K) : K := aM CF r 19 n c X r187 k
theorem cIs : D187 r n dDr x0 r187 = (K0 (eU r n)) :=
 (by kernel_rfl)
theorem bUe (kk4 : dJ) : D187 r n oB (xs x0 0 (K0 (eU r n))) (K4 kk4 0 1 7 8) = (K4 (bAw r n kk4) 0 1 7 8) :=
 (by kernel_rfl)
theorem bVc (m : Nat) : aR (fun kk => D187 r n oB (xs x0 0 (K0 (eU r n))) kk) m = (K4 (tR r n m) 0 1 7 8) := by
 induction m with
 | zero => exact (by kernel_rfl : aR (fun kk => D187 r n oB (xs x0 0 (K0 (eU r n))) kk) 0 = (K4 (tR r n 0) 0 1 7 8))
 | succ m ih =>
  refine (by kernel_rfl : aR (fun kk => D187 r n oB (xs x0 0 (K0 (eU r n))) kk) (m + 1) = D187 r n oB (xs x0 0 (K0 (eU r n))) (aR (fun kk => D187 r n oB (xs x0 0 (K0 (eU r n))) kk) m)).trans ?_
  rw [ih]
  exact (bUe r n (tR r n m)).trans (by kernel_rfl)
theorem cOb : D187 r n aHx (xs x0 0 (K0 (eU r n))) (K0 (eU r n)) = (K4 (bVg r n) 0 1 7 8) :=
 (by kernel_rfl : D187 r n aHx (xs x0 0 (K0 (eU r n))) (K0 (eU r n)) = aR (fun kk => D187 r n oB (xs x0 0 (K0 (eU r n))) kk) n).trans ((bVc r n n).trans (by kernel_rfl))
theorem cAs : D187 r n aNx x0 (K0 (eU r n)) = (K4 (aSj r n) 0 1 7 8) :=
 (by kernel_rfl : D187 r n aNx x0 (K0 (eU r n)) = D187 r n aHx (xs x0 0 (K0 (eU r n))) (K0 (eU r n))).trans
 ((cOb r n).trans (by kernel_rfl))
theorem bKi : D187 r n aDz x0 r187 = D187 r n vV x0 (K0 (eU r n)) :=
 congrArg (fun k => D187 r n vV x0 k) (cIs r n)
theorem bRr : D187 r n vV x0 (K0 (eU r n)) = D187 r n bWw x0 (K4 (aSj r n) 0 1 7 8) :=
 congrArg (fun k => D187 r n bWw x0 k) (cAs r n)
theorem cGn : D187 r n aDz x0 r187 = (K2 (aOv r n) 0 1) :=
 (bKi r n).trans
 ((bRr r n).trans
 ((by kernel_rfl)))
theorem dBq : D187 r n c187 x0 r187 = D187 r n bZl x0 (K2 (aOv r n) 0 1) :=
 congrArg (fun k => D187 r n bZl x0 k) (cGn r n)
theorem dFw : D187 r n c187 x0 r187 = (K2 (s187 r n) 0 1) :=
 (dBq r n).trans
 ((by kernel_rfl))
theorem cUo : aE CF r n 187 args h = s187 r n (aS args 0) (aS args 1) h :=
 (by kernel_rfl : aE CF r n 187 args h = D187 r n c187 x0 r187 (aG args) h).trans ((congrFun (congrFun (dFw r n) (aG args)) h).trans (by kernel_rfl))
noncomputable def s188 (r : RT) (n : Nat) (x0 x1 : DV) (h0 : Hp) : aI :=
 bnd (bX x0 h0) fun v1 h1 =>
 bnd (aK 4 v1 h1) fun v2 h2 =>
 bnd (aK 4 x1 h2) fun v3 h3 =>
 bnd (r 189 [v2, v3] h3) fun v4 h4 =>
 some (v4, h4)
noncomputable abbrev c188 : Code := cf Tryz.f188
noncomputable abbrev r188 : K := aP CF Tryz.f188
noncomputable def D188 (r : RT) (n : Nat) (c : Code) (X : Nat → K) (k : K) : K := aM CF r 7 n c X r188 k
theorem dHf : D188 r n c188 x0 r188 = (K2 (s188 r n) 0 1) :=
 (by kernel_rfl)
theorem cZu : aE CF r n 188 args h = s188 r n (aS args 0) (aS args 1) h :=
 (by kernel_rfl : aE CF r n 188 args h = D188 r n c188 x0 r188 (aG args) h).trans ((congrFun (congrFun (dHf r n) (aG args)) h).trans (by kernel_rfl))
noncomputable def s189 (r : RT) (n : Nat) (x0 x1 : DV) (h0 : Hp) : aI :=
 bnd (bX x0 h0) fun v1 h1 =>
 bnd (bX x1 h1) fun v2 h2 =>
 bnd (aC 0 v1 h2) fun v3 h3 =>
 bnd (aA v3 h3) fun v4 h4 =>
 bnd (aC 0 v2 h4) fun v5 h5 =>
 bnd (aA v5 h5) fun v6 h6 =>
 bnd (aD .eql v4 v6 h6) fun v7 h7 =>
 bnd (gD v7 true (aC 1 v1 h7) h7) fun v8 h8 =>
 bnd (gD v7 true (aA v8 h8) h8) fun v9 h9 =>
 bnd (gD v7 true (aC 1 v2 h9) h9) fun v10 h10 =>
 bnd (gD v7 true (aA v10 h10) h10) fun v11 h11 =>
 bnd (gD v7 true (gR .eql v9 v11 h11) h11) fun v12 h12 =>
 bnd (aQ v7 v12 (.b false) h12) fun v13 h13 =>
 bnd (gD v13 true (aC 2 v1 h13) h13) fun v14 h14 =>
 bnd (gD v13 true (aA v14 h14) h14) fun v15 h15 =>
 bnd (gD v13 true (aC 2 v2 h15) h15) fun v16 h16 =>
 bnd (gD v13 true (aA v16 h16) h16) fun v17 h17 =>
 bnd (gD v13 true (aD .eql v15 v17 h17) h17) fun v18 h18 =>
 bnd (aQ v13 v18 (.b false) h18) fun v19 h19 =>
 bnd (gD v19 true (aC 3 v1 h19) h19) fun v20 h20 =>
 bnd (gD v19 true (aA v20 h20) h20) fun v21 h21 =>
 bnd (gD v19 true (aC 3 v2 h21) h21) fun v22 h22 =>
 bnd (gD v19 true (aA v22 h22) h22) fun v23 h23 =>
 bnd (gD v19 true (r 213 [v21, v23, (.f 189 [] [])] h23) h23) fun v24 h24 =>
 bnd (aQ v19 v24 (.b false) h24) fun v25 h25 =>
 some (v25, h25)
noncomputable abbrev c189 : Code := cf Tryz.f189
noncomputable abbrev r189 : K := aP CF Tryz.f189
noncomputable def D189 (r : RT) (n : Nat) (c : Code) (X : Nat → K) (k : K) : K := aM CF r 31 n c X r189 k
theorem dIq : D189 r n c189 x0 r189 = (K2 (s189 r n) 0 1) :=
 (by kernel_rfl)
theorem cZo : aE CF r n 189 args h = s189 r n (aS args 0) (aS args 1) h :=
 (by kernel_rfl : aE CF r n 189 args h = D189 r n c189 x0 r189 (aG args) h).trans ((congrFun (congrFun (dIq r n) (aG args)) h).trans (by kernel_rfl))
noncomputable def s191 (r : RT) (n : Nat) (x0 x1 : DV) (h0 : Hp) : aI :=
 bnd (bD [(aF 0), (.s []), (aF 0), .l0] [(0, 1, (aF 3)), (1, 1, x1)] h0) fun v1 h1 =>
 bnd (lL [x0, v1] h1) fun v2 h2 =>
 some (v2, h2)
noncomputable abbrev c191 : Code := cf Tryz.f191
noncomputable abbrev r191 : K := aP CF Tryz.f191
noncomputable def D191 (r : RT) (n : Nat) (c : Code) (X : Nat → K) (k : K) : K := aM CF r 9 n c X r191 k
theorem dJo : D191 r n c191 x0 r191 = (K2 (s191 r n) 0 1) :=
 (by kernel_rfl)
theorem cVx : aE CF r n 191 args h = s191 r n (aS args 0) (aS args 1) h :=
 (by kernel_rfl : aE CF r n 191 args h = D191 r n c191 x0 r191 (aG args) h).trans ((congrFun (congrFun (dJo r n) (aG args)) h).trans (by kernel_rfl))
noncomputable def s195 (r : RT) (n : Nat) (x0 x1 : DV) (h0 : Hp) : aI :=
 bnd (bX x1 h0) fun v1 h1 =>
 bnd (aK 6 v1 h1) fun v2 h2 =>
 bnd (r 223 [v2] h2) fun v3 h3 =>
 aT v3 (
 bnd (r 141 [x0, (aF 1), (aF 0), (aF 0)] h3) fun v4 h4 =>
 some ((aF 15), h4)) (
 bnd (aK 6 v1 h3) fun v5 h5 =>
 bnd (r 140 [x0, v5] h5) fun v6 h6 =>
 some ((aF 14), h6))
noncomputable abbrev c195 : Code := cf Tryz.f195
noncomputable abbrev r195 : K := aP CF Tryz.f195
noncomputable def D195 (r : RT) (n : Nat) (c : Code) (X : Nat → K) (k : K) : K := aM CF r 12 n c X r195 k
theorem dOc : D195 r n c195 x0 r195 = (K2 (s195 r n) 0 1) :=
 (by kernel_rfl)
theorem dBi : aE CF r n 195 args h = s195 r n (aS args 0) (aS args 1) h :=
 (by kernel_rfl : aE CF r n 195 args h = D195 r n c195 x0 r195 (aG args) h).trans ((congrFun (congrFun (dOc r n) (aG args)) h).trans (by kernel_rfl))
noncomputable def dE (r : RT) (n : Nat) (x4 : DV) (h0 : Hp) : aI :=
 some (x4, h0)
noncomputable def aHt (r : RT) (n : Nat) (kk5 : dJ) (x0 x1 x4 x5 : DV) (h0 : Hp) : aI :=
 bnd (aD .add x5 (aF 1) h0) fun v1 h1 =>
  kk5 x0 x1 x4 v1 h1
noncomputable def aOw (r : RT) (n : Nat) (kk5 : dJ) (x0 x1 x4 x5 : DV) (h0 : Hp) : aI :=
 bnd (aA x1 h0) fun v1 h1 =>
 bnd (r 201 [v1, x5] h1) fun v2 h2 =>
 bnd (aB 0 v2 h2) fun v3 h3 =>
 bnd (aB 1 v2 h3) fun v4 h4 =>
 bnd (gD v4 true (some (x0, h4)) h4) fun v5 h5 =>
 bnd (gD v4 true (some (v3, h5)) h5) fun v6 h6 =>
 bnd (gD v4 true (aD .lss v5 v6 h6) h6) fun v7 h7 =>
 bnd (aQ v4 v7 (.b false) h7) fun v8 h8 =>
 aT v8 (
  aHt r n kk5 x0 x1 x5 x5 h8) (
  aHt r n kk5 x0 x1 x4 x5 h8)
noncomputable def bAj (r : RT) (n : Nat) (kk5 : dJ) (x0 x1 x4 x5 : DV) (h0 : Hp) : aI :=
 bnd (aD .add x5 (aF 2) h0) fun v1 h1 =>
 bnd (aD .leq v1 x0 h1) fun v2 h2 =>
 aT v2 (
   aOw r n kk5 x0 x1 x4 x5 h2) (
   dE r n x4 h2)
noncomputable def tD (r : RT) (n : Nat) (m : Nat) : dJ :=
 Nat.rec (motive := fun _ => dJ) (fun _ _ _ _ _ => none) (fun _ ih => bAj r n ih) m
noncomputable def bVq (r : RT) (n : Nat) : dJ := tD r n n
noncomputable def aRp (r : RT) (n : Nat) (x0 x1 x4 x5 : DV) (h0 : Hp) : aI :=
 bVq r n x0 x1 x4 x5 h0
noncomputable def aSl (r : RT) (n : Nat) (x0 x1 x4 : DV) (h0 : Hp) : aI :=
 aRp r n x0 x1 x4 (aF 0) h0
noncomputable def aOi (r : RT) (n : Nat) (x0 x1 : DV) (h0 : Hp) : aI :=
 aSl r n x0 x1 (.i .i64 (Int.negSucc 0)) h0
noncomputable def s200 (r : RT) (n : Nat) (x0 x1 : DV) (h0 : Hp) : aI :=
 aOi r n x0 x1 h0
noncomputable abbrev c200 : Code := cf Tryz.f200
noncomputable abbrev aIv : Code := cR c200
noncomputable abbrev aDk : Code := cR aIv
noncomputable abbrev cTn : Code := cR aDk
noncomputable abbrev uX : Code := cL aDk
noncomputable abbrev aRj : Code := cR uX
noncomputable abbrev aCd : Code := cL aRj
noncomputable abbrev kD : Code := cL aCd
noncomputable abbrev aIy : Code := cR kD
noncomputable abbrev cVa : Code := cR aIy
noncomputable abbrev aXh : Code := cL aIy
noncomputable abbrev aUi : Code := cL kD
noncomputable abbrev aVq : Code := cL uX
noncomputable abbrev aYj : Code := cL aIv
noncomputable abbrev aUo : Code := cL c200
noncomputable abbrev r200 : K := aP CF Tryz.f200
noncomputable def D200 (r : RT) (n : Nat) (c : Code) (X : Nat → K) (k : K) : K := aM CF r 28 n c X r200 k
theorem cKw : D200 r n cTn x0 r200 = (K1 (dE r n) 4) :=
 (by kernel_rfl)
theorem cBa (kk5 : dJ) : D200 r n cVa (xs x0 0 (K1 (dE r n) 4)) (K4 kk5 0 1 4 5) = (K4 (aHt r n kk5) 0 1 4 5) :=
 (by kernel_rfl)
theorem bWv (kk5 : dJ) : D200 r n aIy (xs x0 0 (K1 (dE r n) 4)) (K4 kk5 0 1 4 5) = D200 r n aXh (xs x0 0 (K1 (dE r n) 4)) (K4 (aHt r n kk5) 0 1 4 5) :=
 congrArg (fun k => D200 r n aXh (xs x0 0 (K1 (dE r n) 4)) k) (cBa r n kk5)
theorem cHa (kk5 : dJ) : D200 r n aIy (xs x0 0 (K1 (dE r n) 4)) (K4 kk5 0 1 4 5) = (K4 (aOw r n kk5) 0 1 4 5) :=
 (bWv r n kk5).trans
 ((by kernel_rfl))
theorem bOk (kk5 : dJ) : D200 r n kD (xs x0 0 (K1 (dE r n) 4)) (K4 kk5 0 1 4 5) = D200 r n aUi (xs x0 0 (K1 (dE r n) 4)) (K4 (aOw r n kk5) 0 1 4 5) :=
 congrArg (fun k => D200 r n aUi (xs x0 0 (K1 (dE r n) 4)) k) (cHa r n kk5)
theorem bSr (kk5 : dJ) : D200 r n kD (xs x0 0 (K1 (dE r n) 4)) (K4 kk5 0 1 4 5) = (K4 (bAj r n kk5) 0 1 4 5) :=
 (bOk r n kk5).trans
 ((by kernel_rfl))
theorem bWu (m : Nat) : aR (fun kk => D200 r n kD (xs x0 0 (K1 (dE r n) 4)) kk) m = (K4 (tD r n m) 0 1 4 5) := by
 induction m with
 | zero => exact (by kernel_rfl : aR (fun kk => D200 r n kD (xs x0 0 (K1 (dE r n) 4)) kk) 0 = (K4 (tD r n 0) 0 1 4 5))
 | succ m ih =>
  refine (by kernel_rfl : aR (fun kk => D200 r n kD (xs x0 0 (K1 (dE r n) 4)) kk) (m + 1) = D200 r n kD (xs x0 0 (K1 (dE r n) 4)) (aR (fun kk => D200 r n kD (xs x0 0 (K1 (dE r n) 4)) kk) m)).trans ?_
  rw [ih]
  exact (bSr r n (tD r n m)).trans (by kernel_rfl)
theorem cOc : D200 r n aCd (xs x0 0 (K1 (dE r n) 4)) (K1 (dE r n) 4) = (K4 (bVq r n) 0 1 4 5) :=
 (by kernel_rfl : D200 r n aCd (xs x0 0 (K1 (dE r n) 4)) (K1 (dE r n) 4) = aR (fun kk => D200 r n kD (xs x0 0 (K1 (dE r n) 4)) kk) n).trans ((bWu r n n).trans (by kernel_rfl))
theorem cOr : D200 r n aRj x0 (K1 (dE r n) 4) = (K4 (aRp r n) 0 1 4 5) :=
 (by kernel_rfl : D200 r n aRj x0 (K1 (dE r n) 4) = D200 r n aCd (xs x0 0 (K1 (dE r n) 4)) (K1 (dE r n) 4)).trans
 ((cOc r n).trans (by kernel_rfl))
theorem bYt : D200 r n aDk x0 r200 = D200 r n uX x0 (K1 (dE r n) 4) :=
 congrArg (fun k => D200 r n uX x0 k) (cKw r n)
theorem bJr : D200 r n uX x0 (K1 (dE r n) 4) = D200 r n aVq x0 (K4 (aRp r n) 0 1 4 5) :=
 congrArg (fun k => D200 r n aVq x0 k) (cOr r n)
theorem cHl : D200 r n aDk x0 r200 = (K3 (aSl r n) 0 1 4) :=
 (bYt r n).trans
 ((bJr r n).trans
 ((by kernel_rfl)))
theorem bYg : D200 r n aIv x0 r200 = D200 r n aYj x0 (K3 (aSl r n) 0 1 4) :=
 congrArg (fun k => D200 r n aYj x0 k) (cHl r n)
theorem cNk : D200 r n aIv x0 r200 = (K2 (aOi r n) 0 1) :=
 (bYg r n).trans
 ((by kernel_rfl))
theorem cXh : D200 r n c200 x0 r200 = D200 r n aUo x0 (K2 (aOi r n) 0 1) :=
 congrArg (fun k => D200 r n aUo x0 k) (cNk r n)
theorem dNm : D200 r n c200 x0 r200 = (K2 (s200 r n) 0 1) :=
 (cXh r n).trans
 ((by kernel_rfl))
theorem cYf : aE CF r n 200 args h = s200 r n (aS args 0) (aS args 1) h :=
 (by kernel_rfl : aE CF r n 200 args h = D200 r n c200 x0 r200 (aG args) h).trans ((congrFun (congrFun (dNm r n) (aG args)) h).trans (by kernel_rfl))
noncomputable def s201 (r : RT) (n : Nat) (x0 x1 : DV) (h0 : Hp) : aI :=
 bnd (aJ 3 x0 x1 h0) fun v1 h1 =>
 bnd (aC 0 v1 h1) fun v2 h2 =>
 bnd (aA v2 h2) fun v3 h3 =>
 bnd (aD .neq v3 (aF 18) h3) fun v4 h4 =>
 bnd (gD v4 false (some (x1, h4)) h4) fun v5 h5 =>
 bnd (gD v4 false (aD .add v5 (aF 1) h5) h5) fun v6 h6 =>
 bnd (gD v4 false (some (x0, h6)) h6) fun v7 h7 =>
 bnd (gD v4 false (cJ v7 h7) h7) fun v8 h8 =>
 bnd (gD v4 false (aD .geq v6 v8 h8) h8) fun v9 h9 =>
 bnd (aQ v4 (.b true) v9 h9) fun v10 h10 =>
 bnd (gD v10 false (some (x0, h10)) h10) fun v11 h11 =>
 bnd (gD v10 false (some (x1, h11)) h11) fun v12 h12 =>
 bnd (gD v10 false (aD .add v12 (aF 1) h12) h12) fun v13 h13 =>
 bnd (gD v10 false (aJ 3 v11 v13 h13) h13) fun v14 h14 =>
 bnd (gD v10 false (aC 0 v14 h14) h14) fun v15 h15 =>
 bnd (gD v10 false (aA v15 h15) h15) fun v16 h16 =>
 bnd (gD v10 false (aD .neq v16 (aF 16) h16) h16) fun v17 h17 =>
 bnd (aQ v10 (.b true) v17 h17) fun v18 h18 =>
 aT v18 (
 some (.t [(aF 0), (.b false)], h18)) (
 bnd (aD .add x1 (aF 1) h18) fun v19 h19 =>
 bnd (aJ 3 x0 v19 h19) fun v20 h20 =>
 bnd (aK 3 v20 h20) fun v21 h21 =>
 bnd (r 202 [v21] h21) fun v22 h22 =>
 bnd (aD .add x1 (aF 2) h22) fun v23 h23 =>
 bnd (aD .gtr v22 v23 h23) fun v24 h24 =>
 some (.t [v22, v24], h24))
noncomputable abbrev c201 : Code := cf Tryz.f201
noncomputable abbrev r201 : K := aP CF Tryz.f201
noncomputable def D201 (r : RT) (n : Nat) (c : Code) (X : Nat → K) (k : K) : K := aM CF r 40 n c X r201 k
theorem dMd : D201 r n c201 x0 r201 = (K2 (s201 r n) 0 1) :=
 (by kernel_rfl)
theorem cSn : aE CF r n 201 args h = s201 r n (aS args 0) (aS args 1) h :=
 (by kernel_rfl : aE CF r n 201 args h = D201 r n c201 x0 r201 (aG args) h).trans ((congrFun (congrFun (dMd r n) (aG args)) h).trans (by kernel_rfl))
noncomputable def s202 (r : RT) (n : Nat) (x0 : DV) (h0 : Hp) : aI :=
 bnd (bX x0 h0) fun v1 h1 =>
 bnd (aC 0 v1 h1) fun v2 h2 =>
 bnd (aA v2 h2) fun v3 h3 =>
 bnd (r 224 [v3] h3) fun v4 h4 =>
 bnd (dR .not v4 h4) fun v5 h5 =>
 aT v5 (
 some ((.i .i64 (Int.negSucc 0)), h5)) (
 bnd (aC 1 v1 h5) fun v6 h6 =>
 bnd (aA v6 h6) fun v7 h7 =>
 bnd (aC 2 v1 h7) fun v8 h8 =>
 bnd (aA v8 h8) fun v9 h9 =>
 bnd (cS .shl v9 (.i .u64 (Int.ofNat 8)) h9) fun v10 h10 =>
 bnd (aD .add v7 v10 h10) fun v11 h11 =>
 some (v11, h11))
noncomputable abbrev c202 : Code := cf Tryz.f202
noncomputable abbrev r202 : K := aP CF Tryz.f202
noncomputable def D202 (r : RT) (n : Nat) (c : Code) (X : Nat → K) (k : K) : K := aM CF r 13 n c X r202 k
theorem dMc : D202 r n c202 x0 r202 = (K1 (s202 r n) 0) :=
 (by kernel_rfl)
theorem dAt : aE CF r n 202 args h = s202 r n (aS args 0) h :=
 (by kernel_rfl : aE CF r n 202 args h = D202 r n c202 x0 r202 (aG args) h).trans ((congrFun (congrFun (dMc r n) (aG args)) h).trans (by kernel_rfl))
noncomputable def s203 (r : RT) (n : Nat) (x0 x1 x2 x3 x4 x5 x6 x7 : DV) (h0 : Hp) : aI :=
 bnd (aA x3 h0) fun v1 h1 =>
 bnd (cJ v1 h1) fun v2 h2 =>
 bnd (aD .geq x0 v2 h2) fun v3 h3 =>
 bnd (gD v3 false (aA x4 h3) h3) fun v4 h4 =>
 bnd (gD v3 false (some (x0, h4)) h4) fun v5 h5 =>
 bnd (gD v3 false (aJ 1 v4 v5 h5) h5) fun v6 h6 =>
 bnd (gD v3 false (aA v6 h6) h6) fun v7 h7 =>
 bnd (gD v3 false (some (x1, h7)) h7) fun v8 h8 =>
 bnd (gD v3 false (aD .neq v7 v8 h8) h8) fun v9 h9 =>
 bnd (aQ v3 (.b true) v9 h9) fun v10 h10 =>
 bnd (gD v10 false (aA x5 h10) h10) fun v11 h11 =>
 bnd (gD v10 false (some (x0, h11)) h11) fun v12 h12 =>
 bnd (gD v10 false (aJ 1 v11 v12 h12) h12) fun v13 h13 =>
 bnd (gD v10 false (aA v13 h13) h13) fun v14 h14 =>
 bnd (gD v10 false (aD .geq v14 (aF 0) h14) h14) fun v15 h15 =>
 bnd (gD v10 false (some (v15, h15)) h15) fun v16 h16 =>
 bnd (gD v16 true (aA x5 h16) h16) fun v17 h17 =>
 bnd (gD v16 true (some (x0, h17)) h17) fun v18 h18 =>
 bnd (gD v16 true (aJ 1 v17 v18 h18) h18) fun v19 h19 =>
 bnd (gD v16 true (aA v19 h19) h19) fun v20 h20 =>
 bnd (gD v16 true (some (x2, h20)) h20) fun v21 h21 =>
 bnd (gD v16 true (aD .neq v20 v21 h21) h21) fun v22 h22 =>
 bnd (gD v10 false (aQ v16 v22 (.b false) h22) h22) fun v23 h23 =>
 bnd (aQ v10 (.b true) v23 h23) fun v24 h24 =>
 aT v24 (
 bnd (aH 1 x6 (.b false) h24) fun _ h25 =>
 some (.t [], h25)) (
 bnd (aA x5 h24) fun v26 h26 =>
 bnd (aJ 1 v26 x0 h26) fun v27 h27 =>
 bnd (aA v27 h27) fun v28 h28 =>
 bnd (aD .lss v28 (aF 0) h28) fun v29 h29 =>
 aT v29 (
 bnd (aA x5 h29) fun v30 h30 =>
 bnd (aJ 1 v30 x0 h30) fun v31 h31 =>
 bnd (aH 1 v31 x2 h31) fun _ h32 =>
 bnd (aA x7 h32) fun v33 h33 =>
 bnd (aL [(aF 0)] 1 [(0, 1, x0)] h33) fun v34 h34 =>
 bnd (bB 1 8 v33 v34 h34) fun v35 h35 =>
 bnd (aH 1 x7 v35 h35) fun _ h36 =>
 some (.t [], h36)) (
 some (.t [], h29)))
noncomputable abbrev c203 : Code := cf Tryz.f203
noncomputable abbrev r203 : K := aP CF Tryz.f203
noncomputable def D203 (r : RT) (n : Nat) (c : Code) (X : Nat → K) (k : K) : K := aM CF r 53 n c X r203 k
theorem dHs : D203 r n c203 x0 r203 = (K8 (s203 r n) 0 1 2 3 4 5 6 7) :=
 (by kernel_rfl)
theorem dCy : aE CF r n 203 args h = s203 r n (aS args 0) (aS args 1) (aS args 2) (aS args 3) (aS args 4) (aS args 5) (aS args 6) (aS args 7) h :=
 (by kernel_rfl : aE CF r n 203 args h = D203 r n c203 x0 r203 (aG args) h).trans ((congrFun (congrFun (dHs r n) (aG args)) h).trans (by kernel_rfl))
end Go.Dd

namespace Go.Dd
open Go.Proofs
variable (r : RT) (n : Nat) (args : List DV) (h : Hp)
noncomputable def bZ (r : RT) (n : Nat) (h0 : Hp) : aI :=
 some ((aF 0), h0)
noncomputable def aJq (r : RT) (n : Nat) (x1 x22 : DV) (h0 : Hp) : aI :=
 aT x22 (
 bnd (aC 2 x1 h0) fun v1 h1 =>
 bnd (aA v1 h1) fun v2 h2 =>
 bnd (dR .neg v2 h2) fun v3 h3 =>
 some (v3, h3)) (
  bZ r n h0)
noncomputable def bTi (r : RT) (n : Nat) (x1 x4 : DV) (h0 : Hp) : aI :=
 bnd (aD .eql x4 (aF 14) h0) fun v1 h1 =>
 aT v1 (
  aJq r n x1 v1 h1) (
 bnd (aD .eql x4 (aF 15) h1) fun v2 h2 =>
  aJq r n x1 v2 h2)
noncomputable def rF (r : RT) (n : Nat) (x1 x4 x17 : DV) (h0 : Hp) : aI :=
 aT x17 (
 some ((.i .i64 (Int.negSucc 0)), h0)) (
  bTi r n x1 x4 h0)
noncomputable def bMl (r : RT) (n : Nat) (x1 x4 : DV) (h0 : Hp) : aI :=
 bnd (aD .eql x4 (aF 12) h0) fun v1 h1 =>
 aT v1 (
  rF r n x1 x4 v1 h1) (
 bnd (aD .eql x4 (aF 17) h1) fun v2 h2 =>
 aT v2 (
   rF r n x1 x4 v2 h2) (
 bnd (aD .eql x4 (aF 19) h2) fun v3 h3 =>
 aT v3 (
    rF r n x1 x4 v3 h3) (
 bnd (aD .eql x4 (aF 20) h3) fun v4 h4 =>
    rF r n x1 x4 v4 h4)))
noncomputable def hD (r : RT) (n : Nat) (x1 x4 x5 : DV) (h0 : Hp) : aI :=
 aT x5 (
 some ((aF 1), h0)) (
  bMl r n x1 x4 h0)
noncomputable def aNd (r : RT) (n : Nat) (x1 x4 : DV) (h0 : Hp) : aI :=
 bnd (aD .eql x4 (aF 1) h0) fun v1 h1 =>
 aT v1 (
  hD r n x1 x4 v1 h1) (
 bnd (aD .eql x4 (aF 2) h1) fun v2 h2 =>
 aT v2 (
   hD r n x1 x4 v2 h2) (
 bnd (aD .eql x4 (aF 3) h2) fun v3 h3 =>
 aT v3 (
    hD r n x1 x4 v3 h3) (
 bnd (aD .eql x4 (aF 4) h3) fun v4 h4 =>
 aT v4 (
     hD r n x1 x4 v4 h4) (
 bnd (aD .eql x4 (aF 5) h4) fun v5 h5 =>
 aT v5 (
      hD r n x1 x4 v5 h5) (
 bnd (aD .eql x4 (aF 6) h5) fun v6 h6 =>
 aT v6 (
       hD r n x1 x4 v6 h6) (
 bnd (aD .eql x4 (aF 7) h6) fun v7 h7 =>
 aT v7 (
        hD r n x1 x4 v7 h7) (
 bnd (aD .eql x4 (aF 8) h7) fun v8 h8 =>
 aT v8 (
         hD r n x1 x4 v8 h8) (
 bnd (aD .eql x4 (aF 9) h8) fun v9 h9 =>
 aT v9 (
          hD r n x1 x4 v9 h9) (
 bnd (aD .eql x4 (aF 13) h9) fun v10 h10 =>
 aT v10 (
           hD r n x1 x4 v10 h10) (
 bnd (aD .eql x4 (aF 18) h10) fun v11 h11 =>
           hD r n x1 x4 v11 h11))))))))))
noncomputable def xI (r : RT) (n : Nat) (x1 : DV) (h0 : Hp) : aI :=
 bnd (aC 0 x1 h0) fun v1 h1 =>
 bnd (aA v1 h1) fun v2 h2 =>
  aNd r n x1 v2 h2
noncomputable def s204 (r : RT) (n : Nat) (x0 : DV) (h0 : Hp) : aI :=
 bnd (bX x0 h0) fun v1 h1 =>
  xI r n v1 h1
noncomputable abbrev c204 : Code := cf Tryz.f204
noncomputable abbrev aFe : Code := cR c204
noncomputable abbrev dDs : Code := cR aFe
noncomputable abbrev wR : Code := cL aFe
noncomputable abbrev aSt : Code := cR wR
noncomputable abbrev aDy : Code := cL aSt
noncomputable abbrev xF : Code := cR aDy
noncomputable abbrev wH : Code := cR xF
noncomputable abbrev wT : Code := cR wH
noncomputable abbrev vI : Code := cR wT
noncomputable abbrev cGi : Code := cR vI
noncomputable abbrev bBn : Code := cL vI
noncomputable abbrev cDn : Code := cL wT
noncomputable abbrev aVf : Code := cL wH
noncomputable abbrev cLm : Code := cL xF
noncomputable abbrev aWj : Code := cL aDy
noncomputable abbrev aYb : Code := cL wR
noncomputable abbrev aEy : Code := cL c204
noncomputable abbrev r204 : K := aP CF Tryz.f204
noncomputable def D204 (r : RT) (n : Nat) (c : Code) (X : Nat → K) (k : K) : K := aM CF r 28 n c X r204 k
theorem cJz : D204 r n dDs x0 r204 = (K0 (bZ r n)) :=
 (by kernel_rfl)
theorem cLo : D204 r n cGi (xs x0 0 (K0 (bZ r n))) (K0 (bZ r n)) = (K2 (aJq r n) 1 22) :=
 (by kernel_rfl)
theorem bZt : D204 r n vI (xs x0 0 (K0 (bZ r n))) (K0 (bZ r n)) = D204 r n bBn (xs x0 0 (K0 (bZ r n))) (K2 (aJq r n) 1 22) :=
 congrArg (fun k => D204 r n bBn (xs x0 0 (K0 (bZ r n))) k) (cLo r n)
theorem cEy : D204 r n vI (xs x0 0 (K0 (bZ r n))) (K0 (bZ r n)) = (K2 (bTi r n) 1 4) :=
 (bZt r n).trans
 ((by kernel_rfl))
theorem cMt : D204 r n wT (xs x0 0 (K0 (bZ r n))) (K0 (bZ r n)) = (K3 (rF r n) 1 4 17) :=
 (by kernel_rfl : D204 r n wT (xs x0 0 (K0 (bZ r n))) (K0 (bZ r n)) = (fun (env : aW) (h : Hp) => aT (opr env (cC wT)) (D204 r n cDn (xs x0 0 (K0 (bZ r n))) (K0 (bZ r n)) env h) (D204 r n vI (xs x0 0 (K0 (bZ r n))) (K0 (bZ r n)) env h))).trans (by rw [cEy r n]; kernel_rfl)
theorem bKz : D204 r n wH (xs x0 0 (K0 (bZ r n))) (K0 (bZ r n)) = D204 r n aVf (xs x0 0 (K0 (bZ r n))) (K3 (rF r n) 1 4 17) :=
 congrArg (fun k => D204 r n aVf (xs x0 0 (K0 (bZ r n))) k) (cMt r n)
theorem cJy : D204 r n wH (xs x0 0 (K0 (bZ r n))) (K0 (bZ r n)) = (K2 (bMl r n) 1 4) :=
 (bKz r n).trans
 ((by kernel_rfl))
theorem cFp : D204 r n xF (xs x0 0 (K0 (bZ r n))) (K0 (bZ r n)) = (K3 (hD r n) 1 4 5) :=
 (by kernel_rfl : D204 r n xF (xs x0 0 (K0 (bZ r n))) (K0 (bZ r n)) = (fun (env : aW) (h : Hp) => aT (opr env (cC xF)) (D204 r n cLm (xs x0 0 (K0 (bZ r n))) (K0 (bZ r n)) env h) (D204 r n wH (xs x0 0 (K0 (bZ r n))) (K0 (bZ r n)) env h))).trans (by rw [cJy r n]; kernel_rfl)
theorem bRb : D204 r n aDy (xs x0 0 (K0 (bZ r n))) (K0 (bZ r n)) = D204 r n aWj (xs x0 0 (K0 (bZ r n))) (K3 (hD r n) 1 4 5) :=
 congrArg (fun k => D204 r n aWj (xs x0 0 (K0 (bZ r n))) k) (cFp r n)
theorem cAz : D204 r n aSt x0 (K0 (bZ r n)) = (K2 (aNd r n) 1 4) :=
 (by kernel_rfl : D204 r n aSt x0 (K0 (bZ r n)) = D204 r n aDy (xs x0 0 (K0 (bZ r n))) (K0 (bZ r n))).trans
 ((bRb r n).trans
 ((by kernel_rfl)))
theorem bPc : D204 r n aFe x0 r204 = D204 r n wR x0 (K0 (bZ r n)) :=
 congrArg (fun k => D204 r n wR x0 k) (cJz r n)
theorem bHw : D204 r n wR x0 (K0 (bZ r n)) = D204 r n aYb x0 (K2 (aNd r n) 1 4) :=
 congrArg (fun k => D204 r n aYb x0 k) (cAz r n)
theorem cOm : D204 r n aFe x0 r204 = (K1 (xI r n) 1) :=
 (bPc r n).trans
 ((bHw r n).trans
 ((by kernel_rfl)))
theorem cUa : D204 r n c204 x0 r204 = D204 r n aEy x0 (K1 (xI r n) 1) :=
 congrArg (fun k => D204 r n aEy x0 k) (cOm r n)
theorem cUq (q0 : TT1) : D204 r n aEy x0 (K1 q0 1) = fun (env : aW) (h : Hp) =>
 bnd (bX (env 0) h) fun v1 h1 =>
  q0 v1 h1 := by kernel_rfl
theorem cKd : (fun (env : aW) (h : Hp) =>
 bnd (bX (env 0) h) fun v1 h1 =>
  xI r n v1 h1) = (K1 (s204 r n) 0) := by kernel_rfl
theorem dLz : D204 r n c204 x0 r204 = (K1 (s204 r n) 0) :=
 (cUa r n).trans
 ((cUq r n (xI r n)).trans (cKd r n))
theorem cZk : aE CF r n 204 args h = s204 r n (aS args 0) h :=
 (by kernel_rfl : aE CF r n 204 args h = D204 r n c204 x0 r204 (aG args) h).trans ((congrFun (congrFun (dLz r n) (aG args)) h).trans (by kernel_rfl))
noncomputable def dA (r : RT) (n : Nat) (h0 : Hp) : aI :=
 some ((aF 0), h0)
noncomputable def aJc (r : RT) (n : Nat) (x1 x13 : DV) (h0 : Hp) : aI :=
 aT x13 (
 bnd (aC 2 x1 h0) fun v1 h1 =>
 bnd (aA v1 h1) fun v2 h2 =>
 bnd (aD .add v2 (aF 1) h2) fun v3 h3 =>
 some (v3, h3)) (
  dA r n h0)
noncomputable def bPt (r : RT) (n : Nat) (x1 x4 : DV) (h0 : Hp) : aI :=
 bnd (aD .eql x4 (aF 14) h0) fun v1 h1 =>
 aT v1 (
  aJc r n x1 v1 h1) (
 bnd (aD .eql x4 (aF 15) h1) fun v2 h2 =>
  aJc r n x1 v2 h2)
noncomputable def lH (r : RT) (n : Nat) (x1 x4 x5 : DV) (h0 : Hp) : aI :=
 aT x5 (
 some ((aF 1), h0)) (
  bPt r n x1 x4 h0)
noncomputable def aQs (r : RT) (n : Nat) (x1 x4 : DV) (h0 : Hp) : aI :=
 bnd (aD .eql x4 (aF 12) h0) fun v1 h1 =>
 aT v1 (
  lH r n x1 x4 v1 h1) (
 bnd (aD .eql x4 (aF 13) h1) fun v2 h2 =>
 aT v2 (
   lH r n x1 x4 v2 h2) (
 bnd (aD .eql x4 (aF 10) h2) fun v3 h3 =>
 aT v3 (
    lH r n x1 x4 v3 h3) (
 bnd (aD .eql x4 (aF 11) h3) fun v4 h4 =>
 aT v4 (
     lH r n x1 x4 v4 h4) (
 bnd (aD .eql x4 (aF 17) h4) fun v5 h5 =>
 aT v5 (
      lH r n x1 x4 v5 h5) (
 bnd (aD .eql x4 (aF 20) h5) fun v6 h6 =>
 aT v6 (
       lH r n x1 x4 v6 h6) (
 bnd (aD .eql x4 (aF 19) h6) fun v7 h7 =>
       lH r n x1 x4 v7 h7))))))
noncomputable def vH (r : RT) (n : Nat) (x1 : DV) (h0 : Hp) : aI :=
 bnd (aC 0 x1 h0) fun v1 h1 =>
 bnd (aA v1 h1) fun v2 h2 =>
  aQs r n x1 v2 h2
noncomputable def s205 (r : RT) (n : Nat) (x0 : DV) (h0 : Hp) : aI :=
 bnd (bX x0 h0) fun v1 h1 =>
  vH r n v1 h1
noncomputable abbrev c205 : Code := cf Tryz.f205
noncomputable abbrev aFm : Code := cR c205
noncomputable abbrev dEe : Code := cR aFm
noncomputable abbrev xM : Code := cL aFm
noncomputable abbrev aPw : Code := cR xM
noncomputable abbrev aBr : Code := cL aPw
noncomputable abbrev uW : Code := cR aBr
noncomputable abbrev xA : Code := cR uW
noncomputable abbrev dEy : Code := cR xA
noncomputable abbrev bWs : Code := cL xA
noncomputable abbrev cGa : Code := cL uW
noncomputable abbrev aUh : Code := cL aBr
noncomputable abbrev bBb : Code := cL xM
noncomputable abbrev aIa : Code := cL c205
noncomputable abbrev r205 : K := aP CF Tryz.f205
noncomputable def D205 (r : RT) (n : Nat) (c : Code) (X : Nat → K) (k : K) : K := aM CF r 19 n c X r205 k
theorem cKa : D205 r n dEe x0 r205 = (K0 (dA r n)) :=
 (by kernel_rfl)
theorem cOp : D205 r n dEy (xs x0 0 (K0 (dA r n))) (K0 (dA r n)) = (K2 (aJc r n) 1 13) :=
 (by kernel_rfl)
theorem bPv : D205 r n xA (xs x0 0 (K0 (dA r n))) (K0 (dA r n)) = D205 r n bWs (xs x0 0 (K0 (dA r n))) (K2 (aJc r n) 1 13) :=
 congrArg (fun k => D205 r n bWs (xs x0 0 (K0 (dA r n))) k) (cOp r n)
theorem cBp : D205 r n xA (xs x0 0 (K0 (dA r n))) (K0 (dA r n)) = (K2 (bPt r n) 1 4) :=
 (bPv r n).trans
 ((by kernel_rfl))
theorem cAr : D205 r n uW (xs x0 0 (K0 (dA r n))) (K0 (dA r n)) = (K3 (lH r n) 1 4 5) :=
 (by kernel_rfl : D205 r n uW (xs x0 0 (K0 (dA r n))) (K0 (dA r n)) = (fun (env : aW) (h : Hp) => aT (opr env (cC uW)) (D205 r n cGa (xs x0 0 (K0 (dA r n))) (K0 (dA r n)) env h) (D205 r n xA (xs x0 0 (K0 (dA r n))) (K0 (dA r n)) env h))).trans (by rw [cBp r n]; kernel_rfl)
theorem bUi : D205 r n aBr (xs x0 0 (K0 (dA r n))) (K0 (dA r n)) = D205 r n aUh (xs x0 0 (K0 (dA r n))) (K3 (lH r n) 1 4 5) :=
 congrArg (fun k => D205 r n aUh (xs x0 0 (K0 (dA r n))) k) (cAr r n)
theorem cOv : D205 r n aPw x0 (K0 (dA r n)) = (K2 (aQs r n) 1 4) :=
 (by kernel_rfl : D205 r n aPw x0 (K0 (dA r n)) = D205 r n aBr (xs x0 0 (K0 (dA r n))) (K0 (dA r n))).trans
 ((bUi r n).trans
 ((by kernel_rfl)))
theorem bJg : D205 r n aFm x0 r205 = D205 r n xM x0 (K0 (dA r n)) :=
 congrArg (fun k => D205 r n xM x0 k) (cKa r n)
theorem bKg : D205 r n xM x0 (K0 (dA r n)) = D205 r n bBb x0 (K2 (aQs r n) 1 4) :=
 congrArg (fun k => D205 r n bBb x0 k) (cOv r n)
theorem cOy : D205 r n aFm x0 r205 = (K1 (vH r n) 1) :=
 (bJg r n).trans
 ((bKg r n).trans
 ((by kernel_rfl)))
theorem dEb : D205 r n c205 x0 r205 = D205 r n aIa x0 (K1 (vH r n) 1) :=
 congrArg (fun k => D205 r n aIa x0 k) (cOy r n)
theorem cWl (q0 : TT1) : D205 r n aIa x0 (K1 q0 1) = fun (env : aW) (h : Hp) =>
 bnd (bX (env 0) h) fun v1 h1 =>
  q0 v1 h1 := by kernel_rfl
theorem cIu : (fun (env : aW) (h : Hp) =>
 bnd (bX (env 0) h) fun v1 h1 =>
  vH r n v1 h1) = (K1 (s205 r n) 0) := by kernel_rfl
theorem dNr : D205 r n c205 x0 r205 = (K1 (s205 r n) 0) :=
 (dEb r n).trans
 ((cWl r n (vH r n)).trans (cIu r n))
theorem cSm : aE CF r n 205 args h = s205 r n (aS args 0) h :=
 (by kernel_rfl : aE CF r n 205 args h = D205 r n c205 x0 r205 (aG args) h).trans ((congrFun (congrFun (dNr r n) (aG args)) h).trans (by kernel_rfl))
noncomputable def s206 (r : RT) (n : Nat) (x0 x1 : DV) (h0 : Hp) : aI :=
 bnd (bR lR h0) fun v1 h1 =>
 bnd (bD lR [(0, 1, (aF 7)), (1, 1, x0), (5, 1, x1)] h1) fun v2 h2 =>
 bnd (aH 6 v1 v2 h2) fun _ h3 =>
 bnd (aK 6 v1 h3) fun v4 _ =>
 some (v4, h3)
noncomputable abbrev c206 : Code := cf Tryz.f206
noncomputable abbrev r206 : K := aP CF Tryz.f206
noncomputable def D206 (r : RT) (n : Nat) (c : Code) (X : Nat → K) (k : K) : K := aM CF r 8 n c X r206 k
theorem dKc : D206 r n c206 x0 r206 = (K2 (s206 r n) 0 1) :=
 (by kernel_rfl)
theorem dDd : aE CF r n 206 args h = s206 r n (aS args 0) (aS args 1) h :=
 (by kernel_rfl : aE CF r n 206 args h = D206 r n c206 x0 r206 (aG args) h).trans ((congrFun (congrFun (dKc r n) (aG args)) h).trans (by kernel_rfl))
noncomputable def lC (r : RT) (n : Nat) (x0 x2 x5 : DV) (h0 : Hp) : aI :=
 bnd (r 134 [x0] h0) fun v1 h1 =>
 bnd (aK 6 x5 h1) fun v2 h2 =>
 bnd (aH 6 x2 v2 h2) fun _ h3 =>
 bnd (aK 6 x2 h3) fun v4 _ =>
 some (.t [v4, (.b true)], h3)
noncomputable def qK (r : RT) (n : Nat) (x0 x2 x4 x5 : DV) (h0 : Hp) : aI :=
 bnd (aO x0 h0) fun v1 h1 =>
 bnd (aC 3 v1 h1) fun v2 h2 =>
 bnd (aA v2 h2) fun v3 h3 =>
 bnd (aD .neq v3 (aF 0) h3) fun v4 h4 =>
 aT v4 (
 bnd (aK 6 x5 h4) fun v5 h5 =>
 bnd (aH 6 x2 v5 h5) fun _ h6 =>
 bnd (aK 6 x2 h6) fun v7 _ =>
 some (.t [v7, (.b false)], h6)) (
 bnd (r 225 [x0] h4) fun v8 h8 =>
 aT v8 (
 bnd (r 134 [x0] h8) fun v9 h9 =>
 bnd (r 134 [x0] h9) fun v10 h10 =>
 bnd (fN 2 v10 h10) fun v11 h11 =>
 bnd (dR .neg v11 h11) fun v12 h12 =>
 bnd (bD lR [(0, 1, (aF 1)), (2, 1, v12)] h12) fun v13 h13 =>
 bnd (aH 6 x2 v13 h13) fun _ h14 =>
 bnd (aK 6 x2 h14) fun v15 _ =>
 some (.t [v15, (.b true)], h14)) (
 bnd (aC 0 x4 h8) fun v16 h16 =>
 bnd (aA v16 h16) fun v17 h17 =>
 bnd (aD .eql v17 (aF 4) h17) fun v18 h18 =>
 aT v18 (
 bnd (aC 0 x5 h18) fun v19 h19 =>
 bnd (aH 1 v19 (aF 1) h19) fun _ h20 =>
    lC r n x0 x2 x5 h20) (
 bnd (aC 0 x4 h18) fun v21 h21 =>
 bnd (aA v21 h21) fun v22 h22 =>
 bnd (aD .eql v22 (aF 5) h22) fun v23 h23 =>
 aT v23 (
 bnd (aC 0 x5 h23) fun v24 h24 =>
 bnd (aH 1 v24 (aF 2) h24) fun _ h25 =>
     lC r n x0 x2 x5 h25) (
 bnd (aC 0 x4 h23) fun v26 h26 =>
 bnd (aA v26 h26) fun v27 h27 =>
 bnd (aD .eql v27 (aF 6) h27) fun v28 h28 =>
 aT v28 (
 bnd (aC 0 x5 h28) fun v29 h29 =>
 bnd (aH 1 v29 (aF 3) h29) fun _ h30 =>
      lC r n x0 x2 x5 h30) (
 bnd (aK 6 x5 h28) fun v31 h31 =>
 bnd (aH 6 x2 v31 h31) fun _ h32 =>
 bnd (aK 6 x2 h32) fun v33 _ =>
 some (.t [v33, (.b false)], h32))))))
noncomputable def qJ (r : RT) (n : Nat) (x0 x2 x4 : DV) (h0 : Hp) : aI :=
 bnd (aC 1 x4 h0) fun v1 h1 =>
 bnd (aA v1 h1) fun v2 h2 =>
 bnd (aC 2 x4 h2) fun v3 h3 =>
 bnd (aA v3 h3) fun v4 h4 =>
 bnd (bD lR [(1, 1, v2), (2, 1, v4)] h4) fun v5 h5 =>
 bnd (bR lR h5) fun v6 h6 =>
 bnd (aH 6 v6 v5 h6) fun _ h7 =>
  qK r n x0 x2 x4 v6 h7
noncomputable def rJ (r : RT) (n : Nat) (x0 x2 : DV) (h0 : Hp) : aI :=
 bnd (r 137 [x0, (aF 0)] h0) fun v1 h1 =>
 bnd (bR [(aF 0), (.s []), (aF 0), (aF 0)] h1) fun v2 h2 =>
 bnd (aH 4 v2 v1 h2) fun _ h3 =>
  qJ r n x0 x2 v2 h3
noncomputable def s207 (r : RT) (n : Nat) (x0 : DV) (h0 : Hp) : aI :=
 bnd (bR lR h0) fun v1 h1 =>
  rJ r n x0 v1 h1
noncomputable abbrev c207 : Code := cf Tryz.f207
noncomputable abbrev aJp : Code := cR c207
noncomputable abbrev aIn : Code := cR aJp
noncomputable abbrev aHw : Code := cR aIn
noncomputable abbrev cZt : Code := cR aHw
noncomputable abbrev aRk : Code := cL aHw
noncomputable abbrev aPp : Code := cL aIn
noncomputable abbrev aNh : Code := cL aJp
noncomputable abbrev aOn : Code := cL c207
noncomputable abbrev r207 : K := aP CF Tryz.f207
noncomputable def D207 (r : RT) (n : Nat) (c : Code) (X : Nat → K) (k : K) : K := aM CF r 49 n c X r207 k
theorem cNq : D207 r n cZt x0 r207 = (K3 (lC r n) 0 2 5) :=
 (by kernel_rfl)
theorem bSc : D207 r n aHw x0 r207 = D207 r n aRk x0 (K3 (lC r n) 0 2 5) :=
 congrArg (fun k => D207 r n aRk x0 k) (cNq r n)
theorem bIy (q0 : nB) : D207 r n aRk x0 (K3 q0 0 2 5) = fun (env : aW) (h : Hp) =>
 bnd (aO (env 0) h) fun v1 h1 =>
 bnd (aC 3 v1 h1) fun v2 h2 =>
 bnd (aA v2 h2) fun v3 h3 =>
 bnd (aD .neq v3 (aF 0) h3) fun v4 h4 =>
 aT v4 (
 bnd (aK 6 (env 5) h4) fun v5 h5 =>
 bnd (aH 6 (env 2) v5 h5) fun _ h6 =>
 bnd (aK 6 (env 2) h6) fun v7 _ =>
 some (.t [v7, (.b false)], h6)) (
 bnd (r 225 [(env 0)] h4) fun v8 h8 =>
 aT v8 (
 bnd (r 134 [(env 0)] h8) fun v9 h9 =>
 bnd (r 134 [(env 0)] h9) fun v10 h10 =>
 bnd (fN 2 v10 h10) fun v11 h11 =>
 bnd (dR .neg v11 h11) fun v12 h12 =>
 bnd (bD lR [(0, 1, (aF 1)), (2, 1, v12)] h12) fun v13 h13 =>
 bnd (aH 6 (env 2) v13 h13) fun _ h14 =>
 bnd (aK 6 (env 2) h14) fun v15 _ =>
 some (.t [v15, (.b true)], h14)) (
 bnd (aC 0 (env 4) h8) fun v16 h16 =>
 bnd (aA v16 h16) fun v17 h17 =>
 bnd (aD .eql v17 (aF 4) h17) fun v18 h18 =>
 aT v18 (
 bnd (aC 0 (env 5) h18) fun v19 h19 =>
 bnd (aH 1 v19 (aF 1) h19) fun _ h20 =>
     q0 (env 0) (env 2) (env 5) h20) (
 bnd (aC 0 (env 4) h18) fun v21 h21 =>
 bnd (aA v21 h21) fun v22 h22 =>
 bnd (aD .eql v22 (aF 5) h22) fun v23 h23 =>
 aT v23 (
 bnd (aC 0 (env 5) h23) fun v24 h24 =>
 bnd (aH 1 v24 (aF 2) h24) fun _ h25 =>
      q0 (env 0) (env 2) (env 5) h25) (
 bnd (aC 0 (env 4) h23) fun v26 h26 =>
 bnd (aA v26 h26) fun v27 h27 =>
 bnd (aD .eql v27 (aF 6) h27) fun v28 h28 =>
 aT v28 (
 bnd (aC 0 (env 5) h28) fun v29 h29 =>
 bnd (aH 1 v29 (aF 3) h29) fun _ h30 =>
       q0 (env 0) (env 2) (env 5) h30) (
 bnd (aK 6 (env 5) h28) fun v31 h31 =>
 bnd (aH 6 (env 2) v31 h31) fun _ h32 =>
 bnd (aK 6 (env 2) h32) fun v33 _ =>
 some (.t [v33, (.b false)], h32)))))) := by kernel_rfl
theorem bDb : (fun (env : aW) (h : Hp) =>
 bnd (aO (env 0) h) fun v1 h1 =>
 bnd (aC 3 v1 h1) fun v2 h2 =>
 bnd (aA v2 h2) fun v3 h3 =>
 bnd (aD .neq v3 (aF 0) h3) fun v4 h4 =>
 aT v4 (
 bnd (aK 6 (env 5) h4) fun v5 h5 =>
 bnd (aH 6 (env 2) v5 h5) fun _ h6 =>
 bnd (aK 6 (env 2) h6) fun v7 _ =>
 some (.t [v7, (.b false)], h6)) (
 bnd (r 225 [(env 0)] h4) fun v8 h8 =>
 aT v8 (
 bnd (r 134 [(env 0)] h8) fun v9 h9 =>
 bnd (r 134 [(env 0)] h9) fun v10 h10 =>
 bnd (fN 2 v10 h10) fun v11 h11 =>
 bnd (dR .neg v11 h11) fun v12 h12 =>
 bnd (bD lR [(0, 1, (aF 1)), (2, 1, v12)] h12) fun v13 h13 =>
 bnd (aH 6 (env 2) v13 h13) fun _ h14 =>
 bnd (aK 6 (env 2) h14) fun v15 _ =>
 some (.t [v15, (.b true)], h14)) (
 bnd (aC 0 (env 4) h8) fun v16 h16 =>
 bnd (aA v16 h16) fun v17 h17 =>
 bnd (aD .eql v17 (aF 4) h17) fun v18 h18 =>
 aT v18 (
 bnd (aC 0 (env 5) h18) fun v19 h19 =>
 bnd (aH 1 v19 (aF 1) h19) fun _ h20 =>
     lC r n (env 0) (env 2) (env 5) h20) (
 bnd (aC 0 (env 4) h18) fun v21 h21 =>
 bnd (aA v21 h21) fun v22 h22 =>
 bnd (aD .eql v22 (aF 5) h22) fun v23 h23 =>
 aT v23 (
 bnd (aC 0 (env 5) h23) fun v24 h24 =>
 bnd (aH 1 v24 (aF 2) h24) fun _ h25 =>
      lC r n (env 0) (env 2) (env 5) h25) (
 bnd (aC 0 (env 4) h23) fun v26 h26 =>
 bnd (aA v26 h26) fun v27 h27 =>
 bnd (aD .eql v27 (aF 6) h27) fun v28 h28 =>
 aT v28 (
 bnd (aC 0 (env 5) h28) fun v29 h29 =>
 bnd (aH 1 v29 (aF 3) h29) fun _ h30 =>
       lC r n (env 0) (env 2) (env 5) h30) (
 bnd (aK 6 (env 5) h28) fun v31 h31 =>
 bnd (aH 6 (env 2) v31 h31) fun _ h32 =>
 bnd (aK 6 (env 2) h32) fun v33 _ =>
 some (.t [v33, (.b false)], h32))))))) = (K4 (qK r n) 0 2 4 5) := by kernel_rfl
theorem cMj : D207 r n aHw x0 r207 = (K4 (qK r n) 0 2 4 5) :=
 (bSc r n).trans
 ((bIy r n (lC r n)).trans (bDb r n))
theorem bXs : D207 r n aIn x0 r207 = D207 r n aPp x0 (K4 (qK r n) 0 2 4 5) :=
 congrArg (fun k => D207 r n aPp x0 k) (cMj r n)
theorem bYm (q0 : dJ) : D207 r n aPp x0 (K4 q0 0 2 4 5) = fun (env : aW) (h : Hp) =>
 bnd (aC 1 (env 4) h) fun v1 h1 =>
 bnd (aA v1 h1) fun v2 h2 =>
 bnd (aC 2 (env 4) h2) fun v3 h3 =>
 bnd (aA v3 h3) fun v4 h4 =>
 bnd (bD lR [(1, 1, v2), (2, 1, v4)] h4) fun v5 h5 =>
 bnd (bR lR h5) fun v6 h6 =>
 bnd (aH 6 v6 v5 h6) fun _ h7 =>
  q0 (env 0) (env 2) (env 4) v6 h7 := by kernel_rfl
theorem bCv : (fun (env : aW) (h : Hp) =>
 bnd (aC 1 (env 4) h) fun v1 h1 =>
 bnd (aA v1 h1) fun v2 h2 =>
 bnd (aC 2 (env 4) h2) fun v3 h3 =>
 bnd (aA v3 h3) fun v4 h4 =>
 bnd (bD lR [(1, 1, v2), (2, 1, v4)] h4) fun v5 h5 =>
 bnd (bR lR h5) fun v6 h6 =>
 bnd (aH 6 v6 v5 h6) fun _ h7 =>
  qK r n (env 0) (env 2) (env 4) v6 h7) = (K3 (qJ r n) 0 2 4) := by kernel_rfl
theorem cLi : D207 r n aIn x0 r207 = (K3 (qJ r n) 0 2 4) :=
 (bXs r n).trans
 ((bYm r n (qK r n)).trans (bCv r n))
theorem bLg : D207 r n aJp x0 r207 = D207 r n aNh x0 (K3 (qJ r n) 0 2 4) :=
 congrArg (fun k => D207 r n aNh x0 k) (cLi r n)
theorem bNw (q0 : nB) : D207 r n aNh x0 (K3 q0 0 2 4) = fun (env : aW) (h : Hp) =>
 bnd (r 137 [(env 0), (aF 0)] h) fun v1 h1 =>
 bnd (bR [(aF 0), (.s []), (aF 0), (aF 0)] h1) fun v2 h2 =>
 bnd (aH 4 v2 v1 h2) fun _ h3 =>
  q0 (env 0) (env 2) v2 h3 := by kernel_rfl
theorem bEe : (fun (env : aW) (h : Hp) =>
 bnd (r 137 [(env 0), (aF 0)] h) fun v1 h1 =>
 bnd (bR [(aF 0), (.s []), (aF 0), (aF 0)] h1) fun v2 h2 =>
 bnd (aH 4 v2 v1 h2) fun _ h3 =>
  qJ r n (env 0) (env 2) v2 h3) = (K2 (rJ r n) 0 2) := by kernel_rfl
theorem cDp : D207 r n aJp x0 r207 = (K2 (rJ r n) 0 2) :=
 (bLg r n).trans
 ((bNw r n (qJ r n)).trans (bEe r n))
theorem dEh : D207 r n c207 x0 r207 = D207 r n aOn x0 (K2 (rJ r n) 0 2) :=
 congrArg (fun k => D207 r n aOn x0 k) (cDp r n)
theorem cWg (q0 : rP) : D207 r n aOn x0 (K2 q0 0 2) = fun (env : aW) (h : Hp) =>
 bnd (bR lR h) fun v1 h1 =>
  q0 (env 0) v1 h1 := by kernel_rfl
theorem cDo : (fun (env : aW) (h : Hp) =>
 bnd (bR lR h) fun v1 h1 =>
  rJ r n (env 0) v1 h1) = (K1 (s207 r n) 0) := by kernel_rfl
theorem dGl : D207 r n c207 x0 r207 = (K1 (s207 r n) 0) :=
 (dEh r n).trans
 ((cWg r n (rJ r n)).trans (cDo r n))
theorem cYh : aE CF r n 207 args h = s207 r n (aS args 0) h :=
 (by kernel_rfl : aE CF r n 207 args h = D207 r n c207 x0 r207 (aG args) h).trans ((congrFun (congrFun (dGl r n) (aG args)) h).trans (by kernel_rfl))
noncomputable def s223 (r : RT) (n : Nat) (x0 : DV) (h0 : Hp) : aI :=
 bnd (bX x0 h0) fun v1 h1 =>
 bnd (aC 0 v1 h1) fun v2 h2 =>
 bnd (aA v2 h2) fun v3 h3 =>
 bnd (aD .eql v3 (aF 5) h3) fun v4 h4 =>
 bnd (gD v4 true (aC 1 v1 h4) h4) fun v5 h5 =>
 bnd (gD v4 true (aA v5 h5) h5) fun v6 h6 =>
 bnd (gD v4 true (gR .eql v6 (.s [115, 117, 112, 101, 114]) h6) h6) fun v7 h7 =>
 bnd (aQ v4 v7 (.b false) h7) fun v8 h8 =>
 some (v8, h8)
noncomputable abbrev c223 : Code := cf Tryz.f223
noncomputable abbrev r223 : K := aP CF Tryz.f223
noncomputable def D223 (r : RT) (n : Nat) (c : Code) (X : Nat → K) (k : K) : K := aM CF r 11 n c X r223 k
theorem dJt : D223 r n c223 x0 r223 = (K1 (s223 r n) 0) :=
 (by kernel_rfl)
theorem dBr : aE CF r n 223 args h = s223 r n (aS args 0) h :=
 (by kernel_rfl : aE CF r n 223 args h = D223 r n c223 x0 r223 (aG args) h).trans ((congrFun (congrFun (dJt r n) (aG args)) h).trans (by kernel_rfl))
noncomputable def s224 (r : RT) (n : Nat) (x0 : DV) (h0 : Hp) : aI :=
 bnd (aD .eql x0 (aF 16) h0) fun v1 h1 =>
 bnd (gD v1 false (some (x0, h1)) h1) fun v2 h2 =>
 bnd (gD v1 false (aD .eql v2 (aF 17) h2) h2) fun v3 h3 =>
 bnd (aQ v1 (.b true) v3 h3) fun v4 h4 =>
 some (v4, h4)
noncomputable abbrev c224 : Code := cf Tryz.f224
noncomputable abbrev r224 : K := aP CF Tryz.f224
noncomputable def D224 (r : RT) (n : Nat) (c : Code) (X : Nat → K) (k : K) : K := aM CF r 9 n c X r224 k
theorem dLw : D224 r n c224 x0 r224 = (K1 (s224 r n) 0) :=
 (by kernel_rfl)
theorem cUk : aE CF r n 224 args h = s224 r n (aS args 0) h :=
 (by kernel_rfl : aE CF r n 224 args h = D224 r n c224 x0 r224 (aG args) h).trans ((congrFun (congrFun (dLw r n) (aG args)) h).trans (by kernel_rfl))
noncomputable def s225 (r : RT) (n : Nat) (x0 : DV) (h0 : Hp) : aI :=
 bnd (r 137 [x0, (aF 1)] h0) fun v1 h1 =>
 bnd (bR [(aF 0), (.s []), (aF 0), (aF 0)] h1) fun v2 h2 =>
 bnd (aH 4 v2 v1 h2) fun _ h3 =>
 bnd (r 133 [x0, (aF 3), (.s [45])] h3) fun v4 h4 =>
 bnd (gD v4 true (aC 0 v2 h4) h4) fun v5 h5 =>
 bnd (gD v4 true (aA v5 h5) h5) fun v6 h6 =>
 bnd (gD v4 true (aD .eql v6 (aF 4) h6) h6) fun v7 h7 =>
 bnd (aQ v4 v7 (.b false) h7) fun v8 h8 =>
 bnd (gD v8 true (aC 3 v2 h8) h8) fun v9 h9 =>
 bnd (gD v8 true (aA v9 h9) h9) fun v10 h10 =>
 bnd (gD v8 true (some (x0, h10)) h10) fun v11 h11 =>
 bnd (gD v8 true (r 137 [v11, (aF 0)] h11) h11) fun v12 h12 =>
 cnd (bJ (gD v8 true (aA v9 h12) h12) v10 && true) (
 bnd (gD v8 true (fN 3 v12 h12) h12) fun v13 h13 =>
 bnd (gD v8 true (aD .add v13 (aF 1) h13) h13) fun v14 h14 =>
 bnd (gD v8 true (aD .eql v10 v14 h14) h14) fun v15 h15 =>
 bnd (aQ v8 v15 (.b false) h15) fun v16 h16 =>
 some (v16, h16))
noncomputable abbrev c225 : Code := cf Tryz.f225
noncomputable abbrev r225 : K := aP CF Tryz.f225
noncomputable def D225 (r : RT) (n : Nat) (c : Code) (X : Nat → K) (k : K) : K := aM CF r 22 n c X r225 k
theorem dJi : D225 r n c225 x0 r225 = (K1 (s225 r n) 0) :=
 (by kernel_rfl)
theorem cUy : aE CF r n 225 args h = s225 r n (aS args 0) h :=
 (by kernel_rfl : aE CF r n 225 args h = D225 r n c225 x0 r225 (aG args) h).trans ((congrFun (congrFun (dJi r n) (aG args)) h).trans (by kernel_rfl))
end Go.Dd

namespace Go.Dd
open Go.Proofs
section
variable (ih : RT) (m : Nat) (f : FuncId) (args : List DV) (h : Hp)
theorem cO {i : Nat} {s r : aI} (e1 : s = aE CF ih m i args h) (e2 : r = aE CF ih m f args h) : (bif Nat.beq f i then s else r) = aE CF ih m f args h := by
 cases e : Nat.beq f i with
 | false => exact e2
 | true => cases Nat.eq_of_beq_eq_true e; exact e1
theorem ndC {i : Nat} {a b : aI} (e1 : a = aE CF ih m f args h) (e2 : b = aE CF ih m f args h) : (bif Nat.blt f i then a else b) = aE CF ih m f args h := by
 cases Nat.blt f i with
 | false => exact e2
 | true => exact e1
noncomputable def qg0 : aI := bif Nat.beq f 12 then s12 ih m h else bif Nat.beq f 13 then s13 ih m h else bif Nat.beq f 14 then s14 ih m (aS args 0) (aS args 1) h else bif Nat.beq f 15 then s15 ih m (aS args 0) (aS args 1) h else bif Nat.beq f 16 then s16 ih m (aS args 0) (aS args 1) (aS args 2) (aS args 3) h else bif Nat.beq f 17 then s17 ih m (aS args 0) h else bif Nat.beq f 18 then s18 ih m (aS args 0) (aS args 1) h else bif Nat.beq f 19 then s19 ih m (aS args 0) (aS args 1) h else aE CF ih m f args h
theorem dRl : qg0 ih m f args h = aE CF ih m f args h := cO ih m f args h (cRp ih m args h).symm (cO ih m f args h (cQr ih m args h).symm (cO ih m f args h (cQf ih m args h).symm (cO ih m f args h (cQb ih m args h).symm (cO ih m f args h (cSf ih m args h).symm (cO ih m f args h (cRl ih m args h).symm (cO ih m f args h (cQl ih m args h).symm (cO ih m f args h (cRi ih m args h).symm rfl)))))))
noncomputable def qg1 : aI := bif Nat.beq f 20 then s20 ih m (aS args 0) (aS args 1) h else bif Nat.beq f 21 then s21 ih m (aS args 0) (aS args 1) h else bif Nat.beq f 22 then s22 ih m (aS args 0) (aS args 1) h else bif Nat.beq f 23 then s23 ih m (aS args 0) h else bif Nat.beq f 25 then s25 ih m (aS args 0) (aS args 1) h else bif Nat.beq f 29 then s29 ih m (aS args 0) (aS args 1) h else bif Nat.beq f 30 then s30 ih m (aS args 0) (aS args 1) h else bif Nat.beq f 32 then s32 ih m (aS args 0) (aS args 1) h else aE CF ih m f args h
theorem dSa : qg1 ih m f args h = aE CF ih m f args h := cO ih m f args h (cQk ih m args h).symm (cO ih m f args h (cQo ih m args h).symm (cO ih m f args h (cSg ih m args h).symm (cO ih m f args h (cQu ih m args h).symm (cO ih m f args h (dMk ih m args h).symm (cO ih m f args h (dLq ih m args h).symm (cO ih m f args h (bIk ih m args h).symm (cO ih m f args h (dJr ih m args h).symm rfl)))))))
noncomputable def qg2 : aI := bif Nat.beq f 33 then s33 ih m (aS args 0) (aS args 1) h else bif Nat.beq f 34 then s34 ih m (aS args 0) (aS args 1) h else bif Nat.beq f 35 then s35 ih m (aS args 0) (aS args 1) h else bif Nat.beq f 36 then s36 ih m (aS args 0) h else bif Nat.beq f 37 then s37 ih m (aS args 0) (aS args 1) h else bif Nat.beq f 39 then s39 ih m (aS args 0) h else bif Nat.beq f 40 then s40 ih m (aS args 0) h else bif Nat.beq f 42 then s42 ih m (aS args 0) (aS args 1) h else aE CF ih m f args h
theorem dOl : qg2 ih m f args h = aE CF ih m f args h := cO ih m f args h (dMq ih m args h).symm (cO ih m f args h (dKk ih m args h).symm (cO ih m f args h (dJb ih m args h).symm (cO ih m f args h (dGm ih m args h).symm (cO ih m f args h (dHw ih m args h).symm (cO ih m f args h (cQs ih m args h).symm (cO ih m f args h (dMo ih m args h).symm (cO ih m f args h (cPy ih m args h).symm rfl)))))))
noncomputable def qg3 : aI := bif Nat.beq f 43 then s43 ih m (aS args 0) (aS args 1) h else bif Nat.beq f 44 then s44 ih m (aS args 0) (aS args 1) h else bif Nat.beq f 45 then s45 ih m (aS args 0) (aS args 1) h else bif Nat.beq f 46 then s46 ih m (aS args 0) (aS args 1) h else bif Nat.beq f 51 then s51 ih m (aS args 0) (aS args 1) (aS args 2) h else bif Nat.beq f 52 then s52 ih m (aS args 0) (aS args 1) h else bif Nat.beq f 53 then s53 ih m (aS args 0) (aS args 1) h else bif Nat.beq f 54 then s54 ih m h else aE CF ih m f args h
theorem dTp : qg3 ih m f args h = aE CF ih m f args h := cO ih m f args h (cRu ih m args h).symm (cO ih m f args h (cRa ih m args h).symm (cO ih m f args h (cRg ih m args h).symm (cO ih m f args h (cQi ih m args h).symm (cO ih m f args h (cQg ih m args h).symm (cO ih m f args h (bOb ih m args h).symm (cO ih m f args h (cSh ih m args h).symm (cO ih m f args h (bId ih m args h).symm rfl)))))))
noncomputable def qg4 : aI := bif Nat.beq f 55 then s55 ih m (aS args 0) h else bif Nat.beq f 56 then s56 ih m (aS args 0) h else bif Nat.beq f 57 then s57 ih m (aS args 0) h else bif Nat.beq f 58 then s58 ih m (aS args 0) h else bif Nat.beq f 60 then s60 ih m (aS args 0) h else bif Nat.beq f 61 then s61 ih m (aS args 0) h else bif Nat.beq f 62 then s62 ih m (aS args 0) h else bif Nat.beq f 67 then s67 ih m (aS args 0) (aS args 1) h else aE CF ih m f args h
theorem dPo : qg4 ih m f args h = aE CF ih m f args h := cO ih m f args h (cQt ih m args h).symm (cO ih m f args h (dOk ih m args h).symm (cO ih m f args h (dLm ih m args h).symm (cO ih m f args h (dMm ih m args h).symm (cO ih m f args h (dMb ih m args h).symm (cO ih m f args h (dHt ih m args h).symm (cO ih m f args h (cQh ih m args h).symm (cO ih m f args h (dJc ih m args h).symm rfl)))))))
noncomputable def qg5 : aI := bif Nat.beq f 71 then s71 ih m (aS args 0) h else bif Nat.beq f 73 then s73 ih m (aS args 0) (aS args 1) (aS args 2) h else bif Nat.beq f 75 then s75 ih m (aS args 0) (aS args 1) (aS args 2) h else bif Nat.beq f 77 then s77 ih m (aS args 0) (aS args 1) h else bif Nat.beq f 82 then s82 ih m (aS args 0) (aS args 1) (aS args 2) (aS args 3) h else bif Nat.beq f 83 then s83 ih m (aS args 0) (aS args 1) (aS args 2) h else bif Nat.beq f 84 then s84 ih m (aS args 0) (aS args 1) h else bif Nat.beq f 88 then s88 ih m (aS args 0) (aS args 1) (aS args 2) h else aE CF ih m f args h
theorem dQm : qg5 ih m f args h = aE CF ih m f args h := cO ih m f args h (dJl ih m args h).symm (cO ih m f args h (cRm ih m args h).symm (cO ih m f args h (dHo ih m args h).symm (cO ih m f args h (dOd ih m args h).symm (cO ih m f args h (cSc ih m args h).symm (cO ih m f args h (cRf ih m args h).symm (cO ih m f args h (cRz ih m args h).symm (cO ih m f args h (cSe ih m args h).symm rfl)))))))
noncomputable def qg6 : aI := bif Nat.beq f 89 then s89 ih m (aS args 0) (aS args 1) h else bif Nat.beq f 90 then s90 ih m (aS args 0) (aS args 1) h else bif Nat.beq f 91 then s91 ih m (aS args 0) (aS args 1) h else bif Nat.beq f 93 then s93 ih m (aS args 0) (aS args 1) h else bif Nat.beq f 94 then s94 ih m (aS args 0) (aS args 1) h else bif Nat.beq f 95 then s95 ih m (aS args 0) h else bif Nat.beq f 96 then s96 ih m (aS args 0) (aS args 1) h else bif Nat.beq f 97 then s97 ih m (aS args 0) h else aE CF ih m f args h
theorem dPv : qg6 ih m f args h = aE CF ih m f args h := cO ih m f args h (bRq ih m args h).symm (cO ih m f args h (cQp ih m args h).symm (cO ih m f args h (cQm ih m args h).symm (cO ih m f args h (cQz ih m args h).symm (cO ih m f args h (cRy ih m args h).symm (cO ih m f args h (cRc ih m args h).symm (cO ih m f args h (dFn ih m args h).symm (cO ih m f args h (dGp ih m args h).symm rfl)))))))
noncomputable def qg7 : aI := bif Nat.beq f 98 then s98 ih m (aS args 0) (aS args 1) h else bif Nat.beq f 99 then s99 ih m (aS args 0) h else bif Nat.beq f 100 then s100 ih m (aS args 0) (aS args 1) h else bif Nat.beq f 101 then s101 ih m (aS args 0) (aS args 1) (aS args 2) h else bif Nat.beq f 104 then s104 ih m (aS args 0) h else bif Nat.beq f 105 then s105 ih m (aS args 0) h else bif Nat.beq f 106 then s106 ih m (aS args 0) h else bif Nat.beq f 107 then s107 ih m (aS args 0) (aS args 1) h else aE CF ih m f args h
theorem dSu : qg7 ih m f args h = aE CF ih m f args h := cO ih m f args h (dFv ih m args h).symm (cO ih m f args h (dIm ih m args h).symm (cO ih m f args h (dBl ih m args h).symm (cO ih m f args h (dEp ih m args h).symm (cO ih m f args h (bNj ih m args h).symm (cO ih m f args h (bWt ih m args h).symm (cO ih m f args h (bVt ih m args h).symm (cO ih m f args h (cAn ih m args h).symm rfl)))))))
noncomputable def qg8 : aI := bif Nat.beq f 108 then s108 ih m (aS args 0) (aS args 1) h else bif Nat.beq f 109 then s109 ih m (aS args 0) (aS args 1) (aS args 2) h else bif Nat.beq f 110 then s110 ih m (aS args 0) (aS args 1) h else bif Nat.beq f 111 then s111 ih m (aS args 0) h else bif Nat.beq f 112 then s112 ih m (aS args 0) (aS args 1) (aS args 2) h else bif Nat.beq f 113 then s113 ih m (aS args 0) (aS args 1) (aS args 2) h else bif Nat.beq f 114 then s114 ih m (aS args 0) (aS args 1) (aS args 2) (aS args 3) h else bif Nat.beq f 116 then s116 ih m (aS args 0) (aS args 1) h else aE CF ih m f args h
theorem dPq : qg8 ih m f args h = aE CF ih m f args h := cO ih m f args h (bRf ih m args h).symm (cO ih m f args h (cYu ih m args h).symm (cO ih m f args h (dCi ih m args h).symm (cO ih m f args h (cXi ih m args h).symm (cO ih m f args h (cWb ih m args h).symm (cO ih m f args h (cVg ih m args h).symm (cO ih m f args h (cYi ih m args h).symm (cO ih m f args h (bSj ih m args h).symm rfl)))))))
noncomputable def qg9 : aI := bif Nat.beq f 117 then s117 ih m (aS args 0) h else bif Nat.beq f 120 then s120 ih m (aS args 0) (aS args 1) (aS args 2) h else bif Nat.beq f 121 then s121 ih m (aS args 0) (aS args 1) h else bif Nat.beq f 124 then s124 ih m (aS args 0) h else bif Nat.beq f 125 then s125 ih m (aS args 0) (aS args 1) h else bif Nat.beq f 126 then s126 ih m (aS args 0) (aS args 1) h else bif Nat.beq f 127 then s127 ih m (aS args 0) h else bif Nat.beq f 128 then s128 ih m (aS args 0) (aS args 1) h else aE CF ih m f args h
theorem dRv : qg9 ih m f args h = aE CF ih m f args h := cO ih m f args h (cVl ih m args h).symm (cO ih m f args h (cZw ih m args h).symm (cO ih m f args h (cWx ih m args h).symm (cO ih m f args h (cTg ih m args h).symm (cO ih m f args h (cTd ih m args h).symm (cO ih m f args h (cTq ih m args h).symm (cO ih m f args h (dFe ih m args h).symm (cO ih m f args h (cWe ih m args h).symm rfl)))))))
noncomputable def dGf : aI := bif Nat.beq f 129 then s129 ih m (aS args 0) (aS args 1) (aS args 2) h else bif Nat.beq f 130 then s130 ih m (aS args 0) h else bif Nat.beq f 131 then s131 ih m (aS args 0) (aS args 1) h else bif Nat.beq f 132 then s132 ih m (aS args 0) h else bif Nat.beq f 133 then s133 ih m (aS args 0) (aS args 1) (aS args 2) h else bif Nat.beq f 134 then s134 ih m (aS args 0) h else bif Nat.beq f 135 then s135 ih m (aS args 0) h else bif Nat.beq f 137 then s137 ih m (aS args 0) (aS args 1) h else aE CF ih m f args h
theorem dJs : dGf ih m f args h = aE CF ih m f args h := cO ih m f args h (dEn ih m args h).symm (cO ih m f args h (dCl ih m args h).symm (cO ih m f args h (cUc ih m args h).symm (cO ih m f args h (cTx ih m args h).symm (cO ih m f args h (dBd ih m args h).symm (cO ih m f args h (cXv ih m args h).symm (cO ih m f args h (cSt ih m args h).symm (cO ih m f args h (dCc ih m args h).symm rfl)))))))
noncomputable def dHz : aI := bif Nat.beq f 139 then s139 ih m (aS args 0) (aS args 1) (aS args 2) h else bif Nat.beq f 140 then s140 ih m (aS args 0) (aS args 1) h else bif Nat.beq f 141 then s141 ih m (aS args 0) (aS args 1) (aS args 2) (aS args 3) h else bif Nat.beq f 142 then s142 ih m (aS args 0) h else bif Nat.beq f 143 then s143 ih m (aS args 0) (aS args 1) h else bif Nat.beq f 144 then s144 ih m (aS args 0) (aS args 1) h else bif Nat.beq f 145 then s145 ih m (aS args 0) (aS args 1) h else bif Nat.beq f 146 then s146 ih m (aS args 0) (aS args 1) h else aE CF ih m f args h
theorem dGi : dHz ih m f args h = aE CF ih m f args h := cO ih m f args h (cSx ih m args h).symm (cO ih m f args h (cSi ih m args h).symm (cO ih m f args h (dAi ih m args h).symm (cO ih m f args h (cTv ih m args h).symm (cO ih m f args h (cYa ih m args h).symm (cO ih m f args h (dAb ih m args h).symm (cO ih m f args h (dCt ih m args h).symm (cO ih m f args h (cTy ih m args h).symm rfl)))))))
noncomputable def dGa : aI := bif Nat.beq f 147 then s147 ih m (aS args 0) (aS args 1) h else bif Nat.beq f 148 then s148 ih m (aS args 0) h else bif Nat.beq f 149 then s149 ih m (aS args 0) h else bif Nat.beq f 150 then s150 ih m (aS args 0) h else bif Nat.beq f 151 then s151 ih m (aS args 0) h else bif Nat.beq f 152 then s152 ih m (aS args 0) h else bif Nat.beq f 156 then s156 ih m (aS args 0) (aS args 1) h else bif Nat.beq f 157 then s157 ih m (aS args 0) h else aE CF ih m f args h
theorem dJw : dGa ih m f args h = aE CF ih m f args h := cO ih m f args h (dAo ih m args h).symm (cO ih m f args h (dEg ih m args h).symm (cO ih m f args h (dCo ih m args h).symm (cO ih m f args h (dAl ih m args h).symm (cO ih m f args h (cSo ih m args h).symm (cO ih m f args h (dEi ih m args h).symm (cO ih m f args h (dDw ih m args h).symm (cO ih m f args h (dDg ih m args h).symm rfl)))))))
noncomputable def dIt : aI := bif Nat.beq f 161 then s161 ih m (aS args 0) (aS args 1) h else bif Nat.beq f 163 then s163 ih m (aS args 0) (aS args 1) h else bif Nat.beq f 168 then s168 ih m (aS args 0) (aS args 1) (aS args 2) h else bif Nat.beq f 169 then s169 ih m (aS args 0) (aS args 1) h else bif Nat.beq f 170 then s170 ih m (aS args 0) h else bif Nat.beq f 171 then s171 ih m (aS args 0) (aS args 1) h else bif Nat.beq f 172 then s172 ih m (aS args 0) (aS args 1) (aS args 2) h else bif Nat.beq f 173 then s173 ih m (aS args 0) h else aE CF ih m f args h
theorem dIc : dIt ih m f args h = aE CF ih m f args h := cO ih m f args h (cTb ih m args h).symm (cO ih m f args h (cUx ih m args h).symm (cO ih m f args h (cYl ih m args h).symm (cO ih m f args h (cTt ih m args h).symm (cO ih m f args h (dAy ih m args h).symm (cO ih m f args h (cXe ih m args h).symm (cO ih m f args h (cZv ih m args h).symm (cO ih m f args h (cSy ih m args h).symm rfl)))))))
noncomputable def dOe : aI := bif Nat.beq f 174 then s174 ih m (aS args 0) (aS args 1) h else bif Nat.beq f 175 then s175 ih m (aS args 0) (aS args 1) h else bif Nat.beq f 177 then s177 ih m (aS args 0) h else bif Nat.beq f 182 then s182 ih m (aS args 0) h else bif Nat.beq f 185 then s185 ih m (aS args 0) (aS args 1) h else bif Nat.beq f 186 then s186 ih m (aS args 0) (aS args 1) h else bif Nat.beq f 187 then s187 ih m (aS args 0) (aS args 1) h else bif Nat.beq f 188 then s188 ih m (aS args 0) (aS args 1) h else aE CF ih m f args h
theorem dKb : dOe ih m f args h = aE CF ih m f args h := cO ih m f args h (dDl ih m args h).symm (cO ih m f args h (dBp ih m args h).symm (cO ih m f args h (cVt ih m args h).symm (cO ih m f args h (cSk ih m args h).symm (cO ih m f args h (cSu ih m args h).symm (cO ih m f args h (dAf ih m args h).symm (cO ih m f args h (cUo ih m args h).symm (cO ih m f args h (cZu ih m args h).symm rfl)))))))
noncomputable def dFp : aI := bif Nat.beq f 189 then s189 ih m (aS args 0) (aS args 1) h else bif Nat.beq f 191 then s191 ih m (aS args 0) (aS args 1) h else bif Nat.beq f 195 then s195 ih m (aS args 0) (aS args 1) h else bif Nat.beq f 200 then s200 ih m (aS args 0) (aS args 1) h else bif Nat.beq f 201 then s201 ih m (aS args 0) (aS args 1) h else bif Nat.beq f 202 then s202 ih m (aS args 0) h else bif Nat.beq f 203 then s203 ih m (aS args 0) (aS args 1) (aS args 2) (aS args 3) (aS args 4) (aS args 5) (aS args 6) (aS args 7) h else bif Nat.beq f 204 then s204 ih m (aS args 0) h else aE CF ih m f args h
theorem dJz : dFp ih m f args h = aE CF ih m f args h := cO ih m f args h (cZo ih m args h).symm (cO ih m f args h (cVx ih m args h).symm (cO ih m f args h (dBi ih m args h).symm (cO ih m f args h (cYf ih m args h).symm (cO ih m f args h (cSn ih m args h).symm (cO ih m f args h (dAt ih m args h).symm (cO ih m f args h (dCy ih m args h).symm (cO ih m f args h (cZk ih m args h).symm rfl)))))))
noncomputable def dNz : aI := bif Nat.beq f 205 then s205 ih m (aS args 0) h else bif Nat.beq f 206 then s206 ih m (aS args 0) (aS args 1) h else bif Nat.beq f 207 then s207 ih m (aS args 0) h else bif Nat.beq f 223 then s223 ih m (aS args 0) h else bif Nat.beq f 224 then s224 ih m (aS args 0) h else bif Nat.beq f 225 then s225 ih m (aS args 0) h else aE CF ih m f args h
theorem dNl : dNz ih m f args h = aE CF ih m f args h := cO ih m f args h (cSm ih m args h).symm (cO ih m f args h (dDd ih m args h).symm (cO ih m f args h (cYh ih m args h).symm (cO ih m f args h (dBr ih m args h).symm (cO ih m f args h (cUk ih m args h).symm (cO ih m f args h (cUy ih m args h).symm rfl)))))
noncomputable def qd0 : aI := bif Nat.blt f 20 then qg0 ih m f args h else qg1 ih m f args h
theorem dTv : qd0 ih m f args h = aE CF ih m f args h := ndC ih m f args h (dRl ih m f args h) (dSa ih m f args h)
noncomputable def qd1 : aI := bif Nat.blt f 43 then qg2 ih m f args h else qg3 ih m f args h
theorem dQa : qd1 ih m f args h = aE CF ih m f args h := ndC ih m f args h (dOl ih m f args h) (dTp ih m f args h)
noncomputable def qd2 : aI := bif Nat.blt f 33 then qd0 ih m f args h else qd1 ih m f args h
theorem dRd : qd2 ih m f args h = aE CF ih m f args h := ndC ih m f args h (dTv ih m f args h) (dQa ih m f args h)
noncomputable def qd3 : aI := bif Nat.blt f 71 then qg4 ih m f args h else qg5 ih m f args h
theorem dSl : qd3 ih m f args h = aE CF ih m f args h := ndC ih m f args h (dPo ih m f args h) (dQm ih m f args h)
noncomputable def qd4 : aI := bif Nat.blt f 98 then qg6 ih m f args h else qg7 ih m f args h
theorem dQq : qd4 ih m f args h = aE CF ih m f args h := ndC ih m f args h (dPv ih m f args h) (dSu ih m f args h)
noncomputable def qd5 : aI := bif Nat.blt f 89 then qd3 ih m f args h else qd4 ih m f args h
theorem dRf : qd5 ih m f args h = aE CF ih m f args h := ndC ih m f args h (dSl ih m f args h) (dQq ih m f args h)
noncomputable def qd6 : aI := bif Nat.blt f 55 then qd2 ih m f args h else qd5 ih m f args h
theorem dPs : qd6 ih m f args h = aE CF ih m f args h := ndC ih m f args h (dRd ih m f args h) (dRf ih m f args h)
noncomputable def qd7 : aI := bif Nat.blt f 117 then qg8 ih m f args h else qg9 ih m f args h
theorem dUc : qd7 ih m f args h = aE CF ih m f args h := ndC ih m f args h (dPq ih m f args h) (dRv ih m f args h)
noncomputable def qd8 : aI := bif Nat.blt f 139 then dGf ih m f args h else dHz ih m f args h
theorem dRo : qd8 ih m f args h = aE CF ih m f args h := ndC ih m f args h (dJs ih m f args h) (dGi ih m f args h)
noncomputable def qd9 : aI := bif Nat.blt f 129 then qd7 ih m f args h else qd8 ih m f args h
theorem dOm : qd9 ih m f args h = aE CF ih m f args h := ndC ih m f args h (dUc ih m f args h) (dRo ih m f args h)
noncomputable def dNb : aI := bif Nat.blt f 161 then dGa ih m f args h else dIt ih m f args h
theorem dMs : dNb ih m f args h = aE CF ih m f args h := ndC ih m f args h (dJw ih m f args h) (dIc ih m f args h)
noncomputable def dMh : aI := bif Nat.blt f 205 then dFp ih m f args h else dNz ih m f args h
theorem dMv : dMh ih m f args h = aE CF ih m f args h := ndC ih m f args h (dJz ih m f args h) (dNl ih m f args h)
noncomputable def dNq : aI := bif Nat.blt f 189 then dOe ih m f args h else dMh ih m f args h
theorem dNg : dNq ih m f args h = aE CF ih m f args h := ndC ih m f args h (dKb ih m f args h) (dMv ih m f args h)
noncomputable def dNv : aI := bif Nat.blt f 174 then dNb ih m f args h else dNq ih m f args h
theorem dFy : dNv ih m f args h = aE CF ih m f args h := ndC ih m f args h (dMs ih m f args h) (dNg ih m f args h)
noncomputable def dJg : aI := bif Nat.blt f 147 then qd9 ih m f args h else dNv ih m f args h
theorem dFq : dJg ih m f args h = aE CF ih m f args h := ndC ih m f args h (dOm ih m f args h) (dFy ih m f args h)
noncomputable def dLs : aI := bif Nat.blt f 108 then qd6 ih m f args h else dJg ih m f args h
theorem dIh : dLs ih m f args h = aE CF ih m f args h := ndC ih m f args h (dPs ih m f args h) (dFq ih m f args h)
end
noncomputable def shB (ih : RT) (m : Nat) (f : FuncId) (args : List DV) (h : Hp) : aI := dLs ih m f args h
theorem bMb (ih : RT) (m : Nat) (f : FuncId) (args : List DV) (h : Hp) : shB ih m f args h = aE CF ih m f args h := dIh ih m f args h
noncomputable def cQ (n : Nat) : FuncId → List DV → Hp → aI :=
 Nat.rec (motive := fun _ => FuncId → List DV → Hp → aI) (fun _ _ _ => none) (fun m ih => fun f args h => bif rgB f then mD CF ih m itm f args h else shB ih m f args h) n
theorem aJw (f : FuncId) (hf : rgB f = false) (n : Nat) (args : List DV) (h : Hp) : cQ (n + 1) f args h = aE CF (cQ n) n f args h := by
 show (bif rgB f then mD CF (cQ n) n itm f args h else shB (cQ n) n f args h) = _
 rw [hf, cond_false, bMb]
theorem vM : ∀ n, cQ n = fS CF n
 | 0 => rfl
 | n + 1 => by
  funext f args h
  show (bif rgB f then mD CF (cQ n) n itm f args h else shB (cQ n) n f args h) = (bif rgB f then mD CF (fS CF n) n itm f else aE CF (fS CF n) n f) args h
  rw [← vM n]
  cases rgB f with
  | true => rfl
  | false => exact bMb _ _ _ _ _
end Go.Dd

namespace Go.Dd
noncomputable section
def mkW (l : List Nat) : Nat → WT → WT := List.rec (motive := fun _ => Nat → WT → WT) (fun _ t => t) (fun x _ ih i t => ih (Nat.add i 1) (t.set i (.ofNat x))) l
def bKm (l : List (Nat × Nat)) : WT → WT := List.rec (motive := fun _ => WT → WT) (fun t => t) (fun x _ ih t => ih (t.set x.1 (.ofNat x.2))) l
def mkP (l : List Nat) : WT → WT := List.rec (motive := fun _ => WT → WT) (fun t => t) (fun x _ ih t => ih (t.set x (.ofNat 1))) l
def pU (l : List Nat) : Nat → List Nat := List.rec (motive := fun _ => Nat → List Nat) (fun _ => []) (fun x _ ih n => bif Nat.beq n 0 then [] else x :: ih (Nat.sub n 1)) l
def dFx (f : Nat) : Nat → Pos := Nat.rec (motive := fun _ => Nat → Pos) (fun _ => .h) (fun _ ih n => bif Nat.beq n 1 then .h else bif Nat.beq (Nat.mod n 2) 0 then .o (ih (Nat.div n 2)) else .i (ih (Nat.div n 2))) f
def aU (n : Nat) : Pos := dFx 24 (Nat.add 1023 n)
def eK : List Nat := [79, 98, 106, 101, 99, 116]
def aCr : List Nat := [67, 108, 97, 115, 115]
def yW : List Nat := [84, 114, 117, 101]
def nS : List Nat := [70, 97, 108, 115, 101]
def dT : List Nat := [73, 110, 116, 101, 103, 101, 114]
def aIr : List Nat := [65, 114, 114, 97, 121]
def pO : List Nat := [83, 116, 114, 105, 110, 103]
def cFc : List Nat := [83, 121, 109, 98, 111, 108]
def pX : List Nat := [66, 108, 111, 99, 107]
def iF : List Nat := [67, 111, 110, 116, 101, 120, 116]
def aKe : List Nat := [77, 101, 115, 115, 97, 103, 101]
def dKh : List (List Nat × List Nat) := [
 (eK, [61, 32, 111, 116, 104, 101, 114, 32, 94, 115, 101, 108, 102, 32, 61, 61, 32, 111, 116, 104, 101, 114]),
 (eK, [61, 61, 32, 111, 116, 104, 101, 114, 32, 60, 112, 114, 105, 109, 105, 116, 105, 118, 101, 58, 32, 49, 48, 62]),
 (eK, [99, 108, 97, 115, 115, 32, 60, 112, 114, 105, 109, 105, 116, 105, 118, 101, 58, 32, 49, 49, 62]),
 (eK, [105, 115, 78, 105, 108, 32, 94, 115, 101, 108, 102, 32, 61, 61, 32, 110, 105, 108]),
 (eK, [110, 111, 116, 78, 105, 108, 32, 94, 40, 115, 101, 108, 102, 32, 61, 61, 32, 110, 105, 108, 41, 32, 61, 61, 32, 102, 97, 108, 115, 101]),
 (eK, [126, 61, 32, 111, 116, 104, 101, 114, 32, 94, 40, 115, 101, 108, 102, 32, 61, 32, 111, 116, 104, 101, 114, 41, 32, 61, 61, 32, 102, 97, 108, 115, 101]),
 (eK, [121, 111, 117, 114, 115, 101, 108, 102, 32, 94, 115, 101, 108, 102]),
 (eK, [105, 110, 115, 116, 86, 97, 114, 65, 116, 58, 32, 105, 32, 60, 112, 114, 105, 109, 105, 116, 105, 118, 101, 58, 32, 53, 48, 62]),
 (eK, [105, 110, 115, 116, 86, 97, 114, 65, 116, 58, 32, 105, 32, 112, 117, 116, 58, 32, 120, 32, 60, 112, 114, 105, 109, 105, 116, 105, 118, 101, 58, 32, 53, 49, 62]),
 (eK, [98, 101, 99, 111, 109, 101, 58, 32, 111, 116, 104, 101, 114, 32, 60, 112, 114, 105, 109, 105, 116, 105, 118, 101, 58, 32, 54, 48, 62]),
 (eK, [112, 101, 114, 102, 111, 114, 109, 58, 32, 115, 32, 60, 112, 114, 105, 109, 105, 116, 105, 118, 101, 58, 32, 51, 49, 62]),
 (eK, [112, 101, 114, 102, 111, 114, 109, 58, 32, 115, 32, 119, 105, 116, 104, 58, 32, 97, 32, 60, 112, 114, 105, 109, 105, 116, 105, 118, 101, 58, 32, 51, 50, 62]),
 (eK, [115, 104, 111, 119, 32, 60, 112, 114, 105, 109, 105, 116, 105, 118, 101, 58, 32, 55, 48, 62]),
 (eK, [101, 114, 114, 111, 114, 58, 32, 115, 32, 60, 112, 114, 105, 109, 105, 116, 105, 118, 101, 58, 32, 55, 49, 62]),
 (eK, [100, 111, 101, 115, 78, 111, 116, 85, 110, 100, 101, 114, 115, 116, 97, 110, 100, 58, 32, 109, 32, 60, 112, 114, 105, 109, 105, 116, 105, 118, 101, 58, 32, 55, 50, 62]),
 (eK, [109, 117, 115, 116, 66, 101, 66, 111, 111, 108, 101, 97, 110, 32, 60, 112, 114, 105, 109, 105, 116, 105, 118, 101, 58, 32, 55, 51, 62]),
 (aCr, [110, 101, 119, 32, 60, 112, 114, 105, 109, 105, 116, 105, 118, 101, 58, 32, 50, 51, 62]),
 (aCr, [110, 101, 119, 58, 32, 110, 32, 60, 112, 114, 105, 109, 105, 116, 105, 118, 101, 58, 32, 50, 52, 62]),
 (aCr, [110, 97, 109, 101, 32, 60, 112, 114, 105, 109, 105, 116, 105, 118, 101, 58, 32, 52, 48, 62]),
 (aCr, [115, 117, 112, 101, 114, 99, 108, 97, 115, 115, 32, 60, 112, 114, 105, 109, 105, 116, 105, 118, 101, 58, 32, 52, 49, 62]),
 (yW, [105, 102, 84, 114, 117, 101, 58, 32, 98, 32, 94, 98, 32, 118, 97, 108, 117, 101]),
 (yW, [105, 102, 70, 97, 108, 115, 101, 58, 32, 98, 32, 94, 110, 105, 108]),
 (yW, [105, 102, 84, 114, 117, 101, 58, 32, 97, 32, 105, 102, 70, 97, 108, 115, 101, 58, 32, 98, 32, 94, 97, 32, 118, 97, 108, 117, 101]),
 (yW, [105, 102, 70, 97, 108, 115, 101, 58, 32, 97, 32, 105, 102, 84, 114, 117, 101, 58, 32, 98, 32, 94, 98, 32, 118, 97, 108, 117, 101]),
 (yW, [97, 110, 100, 58, 32, 98, 32, 94, 98, 32, 118, 97, 108, 117, 101]),
 (yW, [111, 114, 58, 32, 98, 32, 94, 115, 101, 108, 102]),
 (yW, [110, 111, 116, 32, 94, 102, 97, 108, 115, 101]),
 (nS, [105, 102, 84, 114, 117, 101, 58, 32, 98, 32, 94, 110, 105, 108]),
 (nS, [105, 102, 70, 97, 108, 115, 101, 58, 32, 98, 32, 94, 98, 32, 118, 97, 108, 117, 101]),
 (nS, [105, 102, 84, 114, 117, 101, 58, 32, 97, 32, 105, 102, 70, 97, 108, 115, 101, 58, 32, 98, 32, 94, 98, 32, 118, 97, 108, 117, 101]),
 (nS, [105, 102, 70, 97, 108, 115, 101, 58, 32, 97, 32, 105, 102, 84, 114, 117, 101, 58, 32, 98, 32, 94, 97, 32, 118, 97, 108, 117, 101]),
 (nS, [97, 110, 100, 58, 32, 98, 32, 94, 115, 101, 108, 102]),
 (nS, [111, 114, 58, 32, 98, 32, 94, 98, 32, 118, 97, 108, 117, 101]),
 (nS, [110, 111, 116, 32, 94, 116, 114, 117, 101]),
 (dT, [43, 32, 110, 32, 60, 112, 114, 105, 109, 105, 116, 105, 118, 101, 58, 32, 49, 62, 32, 94, 115, 101, 108, 102, 32, 101, 114, 114, 111, 114, 58, 32, 35, 110, 117, 109, 98, 101, 114]),
 (dT, [45, 32, 110, 32, 60, 112, 114, 105, 109, 105, 116, 105, 118, 101, 58, 32, 50, 62, 32, 94, 115, 101, 108, 102, 32, 101, 114, 114, 111, 114, 58, 32, 35, 110, 117, 109, 98, 101, 114]),
 (dT, [42, 32, 110, 32, 60, 112, 114, 105, 109, 105, 116, 105, 118, 101, 58, 32, 51, 62, 32, 94, 115, 101, 108, 102, 32, 101, 114, 114, 111, 114, 58, 32, 35, 110, 117, 109, 98, 101, 114]),
 (dT, [47, 47, 32, 110, 32, 60, 112, 114, 105, 109, 105, 116, 105, 118, 101, 58, 32, 52, 62, 32, 94, 115, 101, 108, 102, 32, 101, 114, 114, 111, 114, 58, 32, 35, 110, 117, 109, 98, 101, 114]),
 (dT, [37, 32, 110, 32, 60, 112, 114, 105, 109, 105, 116, 105, 118, 101, 58, 32, 53, 62, 32, 94, 115, 101, 108, 102, 32, 101, 114, 114, 111, 114, 58, 32, 35, 110, 117, 109, 98, 101, 114]),
 (dT, [60, 32, 110, 32, 60, 112, 114, 105, 109, 105, 116, 105, 118, 101, 58, 32, 54, 62, 32, 94, 115, 101, 108, 102, 32, 101, 114, 114, 111, 114, 58, 32, 35, 110, 117, 109, 98, 101, 114]),
 (dT, [61, 32, 110, 32, 60, 112, 114, 105, 109, 105, 116, 105, 118, 101, 58, 32, 55, 62, 32, 94, 102, 97, 108, 115, 101]),
 (dT, [62, 32, 110, 32, 94, 110, 32, 60, 32, 115, 101, 108, 102]),
 (dT, [60, 61, 32, 110, 32, 94, 40, 110, 32, 60, 32, 115, 101, 108, 102, 41, 32, 110, 111, 116]),
 (dT, [62, 61, 32, 110, 32, 94, 40, 115, 101, 108, 102, 32, 60, 32, 110, 41, 32, 110, 111, 116]),
 (dT, [110, 101, 103, 97, 116, 101, 100, 32, 94, 48, 32, 45, 32, 115, 101, 108, 102]),
 (dT, [97, 98, 115, 32, 115, 101, 108, 102, 32, 60, 32, 48, 32, 105, 102, 84, 114, 117, 101, 58, 32, 91, 94, 115, 101, 108, 102, 32, 110, 101, 103, 97, 116, 101, 100, 93]),
 (dT, [109, 97, 120, 58, 32, 110, 32, 115, 101, 108, 102, 32, 60, 32, 110, 32, 105, 102, 84, 114, 117, 101, 58, 32, 91, 94, 110, 93]),
 (dT, [116, 105, 109, 101, 115, 82, 101, 112, 101, 97, 116, 58, 32, 98, 32, 124, 32, 105, 32, 124, 32, 105, 32, 58, 61, 32, 48, 46, 32, 91, 105, 32, 60, 32, 115, 101, 108, 102, 93, 32, 119, 104, 105, 108, 101, 84, 114, 117, 101, 58, 32, 91, 98, 32, 118, 97, 108, 117, 101, 46, 32, 105, 32, 58, 61, 32, 105, 32, 43, 32, 49, 93]),
 (dT, [116, 111, 58, 32, 110, 32, 100, 111, 58, 32, 98, 32, 124, 32, 105, 32, 124, 32, 105, 32, 58, 61, 32, 115, 101, 108, 102, 46, 32, 91, 105, 32, 60, 61, 32, 110, 93, 32, 119, 104, 105, 108, 101, 84, 114, 117, 101, 58, 32, 91, 98, 32, 118, 97, 108, 117, 101, 58, 32, 105, 46, 32, 105, 32, 58, 61, 32, 105, 32, 43, 32, 49, 93]),
 (aIr, [97, 116, 58, 32, 105, 32, 60, 112, 114, 105, 109, 105, 116, 105, 118, 101, 58, 32, 50, 48, 62, 32, 94, 115, 101, 108, 102, 32, 101, 114, 114, 111, 114, 58, 32, 35, 105, 110, 100, 101, 120]),
 (aIr, [97, 116, 58, 32, 105, 32, 112, 117, 116, 58, 32, 120, 32, 60, 112, 114, 105, 109, 105, 116, 105, 118, 101, 58, 32, 50, 49, 62, 32, 94, 115, 101, 108, 102, 32, 101, 114, 114, 111, 114, 58, 32, 35, 105, 110, 100, 101, 120]),
 (aIr, [115, 105, 122, 101, 32, 60, 112, 114, 105, 109, 105, 116, 105, 118, 101, 58, 32, 50, 50, 62]),
 (aIr, [100, 111, 58, 32, 98, 32, 49, 32, 116, 111, 58, 32, 115, 101, 108, 102, 32, 115, 105, 122, 101, 32, 100, 111, 58, 32, 91, 58, 105, 32, 124, 32, 98, 32, 118, 97, 108, 117, 101, 58, 32, 40, 115, 101, 108, 102, 32, 97, 116, 58, 32, 105, 41, 93]),
 (pO, [97, 116, 58, 32, 105, 32, 60, 112, 114, 105, 109, 105, 116, 105, 118, 101, 58, 32, 50, 48, 62, 32, 94, 115, 101, 108, 102, 32, 101, 114, 114, 111, 114, 58, 32, 35, 105, 110, 100, 101, 120]),
 (pO, [97, 116, 58, 32, 105, 32, 112, 117, 116, 58, 32, 120, 32, 60, 112, 114, 105, 109, 105, 116, 105, 118, 101, 58, 32, 50, 49, 62, 32, 94, 115, 101, 108, 102, 32, 101, 114, 114, 111, 114, 58, 32, 35, 105, 110, 100, 101, 120]),
 (pO, [115, 105, 122, 101, 32, 60, 112, 114, 105, 109, 105, 116, 105, 118, 101, 58, 32, 50, 50, 62]),
 (pO, [44, 32, 115, 32, 60, 112, 114, 105, 109, 105, 116, 105, 118, 101, 58, 32, 50, 53, 62, 32, 94, 115, 101, 108, 102, 32, 101, 114, 114, 111, 114, 58, 32, 35, 115, 116, 114, 105, 110, 103]),
 (pO, [61, 32, 115, 32, 60, 112, 114, 105, 109, 105, 116, 105, 118, 101, 58, 32, 50, 54, 62]),
 (cFc, [61, 32, 115, 32, 94, 115, 101, 108, 102, 32, 61, 61, 32, 115]),
 (pX, [118, 97, 108, 117, 101, 32, 60, 112, 114, 105, 109, 105, 116, 105, 118, 101, 58, 32, 51, 51, 62, 32, 94, 115, 101, 108, 102, 32, 101, 114, 114, 111, 114, 58, 32, 35, 97, 114, 103, 117, 109, 101, 110, 116, 115]),
 (pX, [118, 97, 108, 117, 101, 58, 32, 97, 32, 60, 112, 114, 105, 109, 105, 116, 105, 118, 101, 58, 32, 51, 52, 62, 32, 94, 115, 101, 108, 102, 32, 101, 114, 114, 111, 114, 58, 32, 35, 97, 114, 103, 117, 109, 101, 110, 116, 115]),
 (pX, [118, 97, 108, 117, 101, 58, 32, 97, 32, 118, 97, 108, 117, 101, 58, 32, 98, 32, 60, 112, 114, 105, 109, 105, 116, 105, 118, 101, 58, 32, 51, 53, 62, 32, 94, 115, 101, 108, 102, 32, 101, 114, 114, 111, 114, 58, 32, 35, 97, 114, 103, 117, 109, 101, 110, 116, 115]),
 (pX, [119, 104, 105, 108, 101, 84, 114, 117, 101, 58, 32, 98, 32, 91, 115, 101, 108, 102, 32, 118, 97, 108, 117, 101, 93, 32, 119, 104, 105, 108, 101, 84, 114, 117, 101, 58, 32, 91, 98, 32, 118, 97, 108, 117, 101, 93]),
 (pX, [101, 110, 115, 117, 114, 101, 58, 32, 98, 32, 60, 112, 114, 105, 109, 105, 116, 105, 118, 101, 58, 32, 57, 48, 62, 32, 124, 32, 118, 32, 100, 111, 110, 101, 32, 124, 32, 118, 32, 58, 61, 32, 115, 101, 108, 102, 32, 118, 97, 108, 117, 101, 46, 32, 100, 111, 110, 101, 32, 58, 61, 32, 116, 114, 117, 101, 46, 32, 98, 32, 118, 97, 108, 117, 101, 46, 32, 94, 118]),
 (pX, [105, 102, 67, 117, 114, 116, 97, 105, 108, 101, 100, 58, 32, 98, 32, 60, 112, 114, 105, 109, 105, 116, 105, 118, 101, 58, 32, 57, 49, 62, 32, 124, 32, 118, 32, 100, 111, 110, 101, 32, 124, 32, 118, 32, 58, 61, 32, 115, 101, 108, 102, 32, 118, 97, 108, 117, 101, 46, 32, 100, 111, 110, 101, 32, 58, 61, 32, 116, 114, 117, 101, 46, 32, 94, 118]),
 (iF, [115, 101, 110, 100, 101, 114, 32, 60, 112, 114, 105, 109, 105, 116, 105, 118, 101, 58, 32, 56, 48, 62]),
 (iF, [114, 101, 99, 101, 105, 118, 101, 114, 32, 60, 112, 114, 105, 109, 105, 116, 105, 118, 101, 58, 32, 56, 49, 62]),
 (iF, [115, 101, 108, 101, 99, 116, 111, 114, 32, 60, 112, 114, 105, 109, 105, 116, 105, 118, 101, 58, 32, 56, 50, 62]),
 (iF, [112, 99, 32, 60, 112, 114, 105, 109, 105, 116, 105, 118, 101, 58, 32, 56, 51, 62]),
 (iF, [116, 101, 109, 112, 65, 116, 58, 32, 105, 32, 60, 112, 114, 105, 109, 105, 116, 105, 118, 101, 58, 32, 56, 52, 62, 32, 94, 115, 101, 108, 102, 32, 101, 114, 114, 111, 114, 58, 32, 35, 105, 110, 100, 101, 120]),
 (iF, [116, 101, 109, 112, 65, 116, 58, 32, 105, 32, 112, 117, 116, 58, 32, 120, 32, 60, 112, 114, 105, 109, 105, 116, 105, 118, 101, 58, 32, 56, 53, 62, 32, 94, 115, 101, 108, 102, 32, 101, 114, 114, 111, 114, 58, 32, 35, 105, 110, 100, 101, 120]),
 (iF, [114, 101, 116, 117, 114, 110, 58, 32, 120, 32, 60, 112, 114, 105, 109, 105, 116, 105, 118, 101, 58, 32, 56, 54, 62, 32, 94, 115, 101, 108, 102, 32, 99, 97, 110, 110, 111, 116, 82, 101, 116, 117, 114, 110, 58, 32, 120]),
 (iF, [99, 97, 110, 110, 111, 116, 82, 101, 116, 117, 114, 110, 58, 32, 120, 32, 60, 112, 114, 105, 109, 105, 116, 105, 118, 101, 58, 32, 55, 52, 62]),
 (aKe, [115, 101, 108, 101, 99, 116, 111, 114, 32, 94, 115, 101, 108, 101, 99, 116, 111, 114]),
 (aKe, [97, 114, 103, 117, 109, 101, 110, 116, 115, 32, 94, 97, 114, 103, 117, 109, 101, 110, 116, 115])]
def dRq (l : List (List Nat × List Nat)) : Nat → List DV := List.rec (motive := fun _ => Nat → List DV) (fun _ => []) (fun _ _ ih p => .l (aU p) 0 2 2 :: ih (Nat.add p 1)) l
def bDj (l : List (List Nat × Nat)) : List (DV × DV) := List.rec (motive := fun _ => List (DV × DV)) [] (fun x _ ih => (.s x.1, .i .i64 (.ofNat x.2)) :: ih) l
def dKs (l : List Nat) : List DV := List.rec (motive := fun _ => List DV) [] (fun x _ ih => .i .i64 (.ofNat x) :: ih) l
def wsF : List Nat := [0, 0, 0, 24, 24, 1, 294, 0, 1, 322, 2670, 1, 24, 24, 2, 338, 6, 1, 364, 3024, 7, 24, 24, 3, 380, 6, 1, 426, 0, 7, 24, 24, 4, 442, 6, 1, 472, 0, 7, 24, 24, 5, 488, 60, 1, 512, 3738, 7, 24, 24, 6, 528, 60, 1, 554, 4204, 7, 24, 24, 7, 570, 6, 1, 600, 6046, 7, 24, 24, 8, 616, 114, 1, 656, 0, 7, 24, 24, 9, 672, 114, 1, 712, 0, 7, 24, 24, 10, 728, 6, 1, 754, 6538, 3, 24, 24, 11, 770, 6, 1, 798, 6942, 5, 24, 24, 12, 814, 186, 1, 842, 7018, 5, 24, 24, 13, 858, 6, 1, 884, 7746, 7, 24, 24, 14, 900, 6, 1, 930, 8508, 7, 24, 24, 15, 946, 6, 1, 974, 0, 7, 24, 24, 16, 990, 6, 5, 1086, 8632, 1, 26, 204, 17, 79, 98, 106, 101, 99, 116, 8, 168, 18, 294, 0, 0, 168, 19, 8, 168, 20, 6, 0, 22, 204, 21, 67, 108, 97, 115, 115, 8, 168, 22, 338, 312, 0, 168, 23, 8, 168, 24, 24, 328, 62, 204, 25, 85, 110, 100, 101, 102, 105, 110, 101, 100, 79, 98, 106, 101, 99, 116, 8, 168, 26, 380, 354, 0, 168, 27, 8, 168, 28, 42, 370, 30, 204, 29, 66, 111, 111, 108, 101, 97, 110, 8, 168, 30, 442, 416, 0, 168, 31, 8, 168, 32, 60, 432, 18, 204, 33, 84, 114, 117, 101, 8, 168, 34, 488, 462, 0, 168, 35, 8, 168, 36, 78, 478, 22, 204, 37, 70, 97, 108, 115, 101, 8, 168, 38, 528, 502, 0, 168, 39, 8, 168, 40, 96, 518, 30, 204, 41, 73, 110, 116, 101, 103, 101, 114, 8, 168, 42, 570, 544, 0, 168, 43, 8, 168, 44, 114, 560, 50, 204, 45, 83, 109, 97, 108, 108, 73, 110, 116, 101, 103, 101, 114, 8, 168, 46, 616, 590, 0, 168, 47, 8, 168, 48, 132, 606, 50, 204, 49, 76, 97, 114, 103, 101, 73, 110, 116, 101, 103, 101, 114, 8, 168, 50, 672, 646, 0, 168, 51, 8, 168, 52, 150, 662, 22, 204, 53, 65, 114, 114, 97, 121, 8, 168, 54, 728, 702, 0, 168, 55, 8, 168, 56, 168, 718, 26, 204, 57, 83, 116, 114, 105, 110, 103, 8, 168, 58, 770, 744, 0, 168, 59, 8, 168, 60, 186, 760, 26, 204, 61, 83, 121, 109, 98, 111, 108, 8, 168, 62, 814, 788, 0, 168, 63, 8, 168, 64, 204, 804, 22, 204, 65, 66, 108, 111, 99, 107, 8, 168, 66, 858, 832, 0, 168, 67, 8, 168, 68, 222, 848, 30, 204, 69, 67, 111, 110, 116, 101, 120, 116, 8, 168, 70, 900, 874, 0, 168, 71, 8, 168, 72, 240, 890, 26, 204, 73, 77, 101, 116, 104, 111, 100, 8, 168, 74, 946, 920, 0, 168, 75, 8, 168, 76, 258, 936, 30, 204, 77, 77, 101, 115, 115, 97, 103, 101, 8, 168, 78, 990, 964, 34, 204, 79, 115, 101, 108, 101, 99, 116, 111, 114, 8, 168, 80, 1020, 1010, 38, 204, 81, 97, 114, 103, 117, 109, 101, 110, 116, 115, 8, 168, 82, 1052, 1042, 8, 168, 83, 1020, 1052, 8, 168, 84, 276, 980, 6, 204, 85, 61, 8, 168, 86, 1106, 1076, 10, 204, 87, 61, 61, 8, 168, 88, 1124, 1114, 4, 168, 89, 1124, 50, 186, 90, 1, 0, 0, 7, 0, 0, 14, 0, 1, 20, 0, 0, 4, 168, 91, 1152, 28, 258, 92, 1106, 3, 3, 1, 1144, 1182, 6, 8, 168, 93, 1190, 0, 0, 168, 94, 26, 186, 95, 1, 0, 0, 20, 0, 0, 4, 168, 96, 1226, 28, 258, 97, 1124, 3, 3, 21, 1220, 1244, 6, 8, 168, 98, 1252, 1210, 22, 204, 99, 99, 108, 97, 115, 115, 8, 168, 100, 1282, 1134, 0, 168, 101, 26, 186, 102, 1, 0, 0, 20, 0, 0, 4, 168, 103, 1314, 28, 258, 104, 1282, 1, 1, 23, 1308, 1332, 6, 8, 168, 105, 1340, 1272, 22, 204, 106, 105, 115, 78, 105, 108, 8, 168, 107, 1370, 1298, 4, 168, 108, 1124, 50, 186, 109, 1, 0, 0, 2, 0, 0, 14, 0, 1, 20, 0, 0, 4, 168, 110, 1404, 28, 258, 111, 1370, 1, 1, 1, 1396, 1434, 6, 8, 168, 112, 1442, 1360, 26, 204, 113, 110, 111, 116, 78, 105, 108, 8, 168, 114, 1472, 1386, 4, 168, 115, 1124, 74, 186, 116, 1, 0, 0, 2, 0, 0, 14, 0, 1, 4, 0, 0, 14, 0, 1, 20, 0, 0, 4, 168, 117, 1508, 28, 258, 118, 1472, 1, 1, 1, 1500, 1550, 6, 8, 168, 119, 1558, 1462, 10, 204, 120, 126, 61, 8, 168, 121, 1588, 1490, 8, 168, 122, 1106, 1124, 74, 186, 123, 1, 0, 0, 7, 0, 0, 14, 0, 1, 4, 0, 0, 14, 1, 1, 20, 0, 0, 4, 168, 124, 1618, 28, 258, 125, 1588, 3, 3, 1, 1608, 1660, 6, 8, 168, 126, 1668, 1578, 34, 204, 127, 121, 111, 117, 114, 115, 101, 108, 102, 8, 168, 128, 1698, 1598, 0, 168, 129, 26, 186, 130, 1, 0, 0, 20, 0, 0, 4, 168, 131, 1736, 28, 258, 132, 1698, 1, 1, 1, 1730, 1754, 6, 8, 168, 133, 1762, 1688, 42, 204, 134, 105, 110, 115, 116, 86, 97, 114, 65, 116, 58, 8, 168, 135, 1792, 1720, 0, 168, 136, 26, 186, 137, 1, 0, 0, 20, 0, 0, 4, 168, 138, 1834, 28, 258, 139, 1792, 3, 3, 101, 1828, 1852, 6, 8, 168, 140, 1860, 1782, 58, 204, 141, 105, 110, 115, 116, 86, 97, 114, 65, 116, 58, 112, 117, 116, 58, 8, 168, 142, 1890, 1818, 0, 168, 143, 26, 186, 144, 1, 0, 0, 20, 0, 0, 4, 168, 145, 1940, 28, 258, 146, 1890, 5, 5, 103, 1934, 1958, 6, 8, 168, 147, 1966, 1880, 30, 204, 148, 98, 101, 99, 111, 109, 101, 58, 8, 168, 149, 1996, 1924, 0, 168, 150, 26, 186, 151, 1, 0, 0, 20, 0, 0, 4, 168, 152, 2032, 28, 258, 153, 1996, 3, 3, 121, 2026, 2050, 6, 8, 168, 154, 2058, 1986, 34, 204, 155, 112, 101, 114, 102, 111, 114, 109, 58, 8, 168, 156, 2088, 2016, 0, 168, 157, 26, 186, 158, 1, 0, 0, 20, 0, 0, 4, 168, 159, 2126, 28, 258, 160, 2088, 3, 3, 63, 2120, 2144, 6, 8, 168, 161, 2152, 2078, 54, 204, 162, 112, 101, 114, 102, 111, 114, 109, 58, 119, 105, 116, 104, 58, 8, 168, 163, 2182, 2110, 0, 168, 164, 26, 186, 165, 1, 0, 0, 20, 0, 0, 4, 168, 166, 2230, 28, 258, 167, 2182, 5, 5, 65, 2224, 2248, 6, 8, 168, 168, 2256, 2172, 18, 204, 169, 115, 104, 111, 119, 8, 168, 170, 2286, 2214, 0, 168, 171, 26, 186, 172, 1, 0, 0, 20, 0, 0, 4, 168, 173, 2316, 28, 258, 174, 2286, 1, 1, 141, 2310, 2334, 6, 8, 168, 175, 2342, 2276, 26, 204, 176, 101, 114, 114, 111, 114, 58, 8, 168, 177, 2372, 2300, 0, 168, 178, 26, 186, 179, 1, 0, 0, 20, 0, 0, 4, 168, 180, 2406, 28, 258, 181, 2372, 3, 3, 143, 2400, 2424, 6, 8, 168, 182, 2432, 2362, 74, 204, 183, 100, 111, 101, 115, 78, 111, 116, 85, 110, 100, 101, 114, 115, 116, 97, 110, 100, 58, 8, 168, 184, 2462, 2390, 0, 168, 185, 26, 186, 186, 1, 0, 0, 20, 0, 0, 4, 168, 187, 2520, 28, 258, 188, 2462, 3, 3, 145, 2514, 2538, 6, 8, 168, 189, 2546, 2452, 54, 204, 190, 109, 117, 115, 116, 66, 101, 66, 111, 111, 108, 101, 97, 110, 8, 168, 191, 2576, 2504, 0, 168, 192, 26, 186, 193, 1, 0, 0, 20, 0, 0, 4, 168, 194, 2624, 28, 258, 195, 2576, 1, 1, 147, 2618, 2642, 6, 8, 168, 196, 2650, 2566, 14, 204, 197, 110, 101, 119, 8, 168, 198, 2680, 2608, 0, 168, 199, 26, 186, 200, 1, 0, 0, 20, 0, 0, 4, 168, 201, 2708, 28, 258, 202, 2680, 1, 1, 47, 2702, 2726, 24, 8, 168, 203, 2734, 0, 18, 204, 204, 110, 101, 119, 58, 8, 168, 205, 2764, 2692, 0, 168, 206, 26, 186, 207, 1, 0, 0, 20, 0, 0, 4, 168, 208, 2794, 28, 258, 209, 2764, 3, 3, 49, 2788, 2812, 24, 8, 168, 210, 2820, 2754, 18, 204, 211, 110, 97, 109, 101, 8, 168, 212, 2850, 2778, 0, 168, 213, 26, 186, 214, 1, 0, 0, 20, 0, 0, 4, 168, 215, 2880, 28, 258, 216, 2850, 1, 1, 81, 2874, 2898, 24, 8, 168, 217, 2906, 2840, 42, 204, 218, 115, 117, 112, 101, 114, 99, 108, 97, 115, 115, 8, 168, 219, 2936, 2864, 0, 168, 220, 26, 186, 221, 1, 0, 0, 20, 0, 0, 4, 168, 222, 2978, 28, 258, 223, 2936, 1, 1, 83, 2972, 2996, 24, 8, 168, 224, 3004, 2926, 30, 204, 225, 105, 102, 84, 114, 117, 101, 58, 8, 168, 226, 3034, 2962, 22, 204, 227, 118, 97, 108, 117, 101, 8, 168, 228, 3064, 3054, 4, 168, 229, 3064, 38, 186, 230, 7, 0, 0, 14, 0, 0, 20, 0, 0, 4, 168, 231, 3098, 28, 258, 232, 3034, 3, 3, 1, 3090, 3122, 78, 8, 168, 233, 3130, 0, 34, 204, 234, 105, 102, 70, 97, 108, 115, 101, 58, 8, 168, 235, 3160, 3080, 0, 168, 236, 26, 186, 237, 2, 0, 0, 20, 0, 0, 4, 168, 238, 3198, 28, 258, 239, 3160, 3, 3, 1, 3192, 3216, 78, 8, 168, 240, 3224, 3150, 62, 204, 241, 105, 102, 84, 114, 117, 101, 58, 105, 102, 70, 97, 108, 115, 101, 58, 8, 168, 242, 3254, 3182, 4, 168, 243, 3064, 38, 186, 244, 7, 0, 0, 14, 0, 0, 20, 0, 0, 4, 168, 245, 3308, 28, 258, 246, 3254, 5, 5, 1, 3300, 3332, 78, 8, 168, 247, 3340, 3244, 62, 204, 248, 105, 102, 70, 97, 108, 115, 101, 58, 105, 102, 84, 114, 117, 101, 58, 8, 168, 249, 3370, 3290, 4, 168, 250, 3064, 38, 186, 251, 7, 1, 0, 14, 0, 0, 20, 0, 0, 4, 168, 252, 3424, 28, 258, 253, 3370, 5, 5, 1, 3416, 3448, 78, 8, 168, 254, 3456, 3360, 18, 204, 255, 97, 110, 100, 58, 8, 168, 256, 3486, 3406, 4, 168, 257, 3064, 38, 186, 258, 7, 0, 0, 14, 0, 0, 20, 0, 0, 4, 168, 259, 3518, 28, 258, 260, 3486, 3, 3, 1, 3510, 3542, 78, 8, 168, 261, 3550, 3476, 14, 204, 262, 111, 114, 58, 8, 168, 263, 3580, 3500, 0, 168, 264, 26, 186, 265, 1, 0, 0, 20, 0, 0, 4, 168, 266, 3608, 28, 258, 267, 3580, 3, 3, 1, 3602, 3626, 78, 8, 168, 268, 3634, 3570, 14, 204, 269, 110, 111, 116, 8, 168, 270, 3664, 3592, 0, 168, 271, 26, 186, 272, 4, 0, 0, 20, 0, 0, 4, 168, 273, 3692, 28, 258, 274, 3664, 1, 1, 1, 3686, 3710, 78, 8, 168, 275, 3718, 3654, 0, 168, 276, 26, 186, 277, 2, 0, 0, 20, 0, 0, 4, 168, 278, 3754, 28, 258, 279, 3034, 3, 3, 1, 3748, 3772, 96, 8, 168, 280, 3780, 0, 4, 168, 281, 3064, 38, 186, 282, 7, 0, 0, 14, 0, 0, 20, 0, 0, 4, 168, 283, 3818, 28, 258, 284, 3160, 3, 3, 1, 3810, 3842, 96, 8, 168, 285, 3850, 3800, 4, 168, 286, 3064, 38, 186, 287, 7, 1, 0, 14, 0, 0, 20, 0, 0, 4, 168, 288, 3888, 28, 258, 289, 3254, 5, 5, 1, 3880, 3912, 96, 8, 168, 290, 3920, 3870, 4, 168, 291, 3064, 38, 186, 292, 7, 0, 0, 14, 0, 0, 20, 0, 0, 4, 168, 293, 3958, 28, 258, 294, 3370, 5, 5, 1, 3950, 3982, 96, 8, 168, 295, 3990, 3940, 0, 168, 296, 26, 186, 297, 1, 0, 0, 20, 0, 0, 4, 168, 298, 4026, 28, 258, 299, 3486, 3, 3, 1, 4020, 4044, 96, 8, 168, 300, 4052, 4010, 4, 168, 301, 3064, 38, 186, 302, 7, 0, 0, 14, 0, 0, 20, 0, 0, 4, 168, 303, 4090, 28, 258, 304, 3580, 3, 3, 1, 4082, 4114, 96, 8, 168, 305, 4122, 4072, 0, 168, 306, 26, 186, 307, 3, 0, 0, 20, 0, 0, 4, 168, 308, 4158, 28, 258, 309, 3664, 1, 1, 1, 4152, 4176, 96, 8, 168, 310, 4184, 4142, 6, 204, 311, 43, 8, 168, 312, 4214, 3676, 26, 204, 313, 110, 117, 109, 98, 101, 114, 8, 168, 314, 4232, 4222, 8, 168, 315, 4232, 2372, 50, 186, 316, 1, 0, 0, 6, 0, 0, 14, 1, 1, 20, 0, 0, 4, 168, 317, 4270, 28, 258, 318, 4214, 3, 3, 3, 4260, 4300, 114, 8, 168, 319, 4308, 0, 6, 204, 320, 45, 8, 168, 321, 4338, 4250, 8, 168, 322, 4232, 2372, 50, 186, 323, 1, 0, 0, 6, 0, 0, 14, 1, 1, 20, 0, 0, 4, 168, 324, 4366, 28, 258, 325, 4338, 3, 3, 5, 4356, 4396, 114, 8, 168, 326, 4404, 4328, 6, 204, 327, 42, 8, 168, 328, 4434, 4346, 8, 168, 329, 4232, 2372, 50, 186, 330, 1, 0, 0, 6, 0, 0, 14, 1, 1, 20, 0, 0, 4, 168, 331, 4462, 28, 258, 332, 4434, 3, 3, 7, 4452, 4492, 114, 8, 168, 333, 4500, 4424, 10, 204, 334, 47, 47, 8, 168, 335, 4530, 4442, 8, 168, 336, 4232, 2372, 50, 186, 337, 1, 0, 0, 6, 0, 0, 14, 1, 1, 20, 0, 0, 4, 168, 338, 4560, 28, 258, 339, 4530, 3, 3, 9, 4550, 4590, 114, 8, 168, 340, 4598, 4520, 6, 204, 341, 37, 8, 168, 342, 4628, 4540, 8, 168, 343, 4232, 2372, 50, 186, 344, 1, 0, 0, 6, 0, 0, 14, 1, 1, 20, 0, 0, 4, 168, 345, 4656, 28, 258, 346, 4628, 3, 3, 11, 4646, 4686, 114, 8, 168, 347, 4694, 4618, 6, 204, 348, 60, 8, 168, 349, 4724, 4636, 8, 168, 350, 4232, 2372, 50, 186, 351, 1, 0, 0, 6, 0, 0, 14, 1, 1, 20, 0, 0, 4, 168, 352, 4752, 28, 258, 353, 4724, 3, 3, 13, 4742, 4782, 114, 8, 168, 354, 4790, 4714, 0, 168, 355, 26, 186, 356, 4, 0, 0, 20, 0, 0, 4, 168, 357, 4826, 28, 258, 358, 1106, 3, 3, 15, 4820, 4844, 114, 8, 168, 359, 4852, 4810, 6, 204, 360, 62, 8, 168, 361, 4882, 4732, 4, 168, 362, 4724, 50, 186, 363, 7, 0, 0, 1, 0, 0, 14, 0, 1, 20, 0, 0, 4, 168, 364, 4908, 28, 258, 365, 4882, 3, 3, 1, 4900, 4938, 114, 8, 168, 366, 4946, 4872, 10, 204, 367, 60, 61, 8, 168, 368, 4976, 4890, 8, 168, 369, 4724, 3664, 62, 186, 370, 7, 0, 0, 1, 0, 0, 14, 0, 1, 14, 1, 0, 20, 0, 0, 4, 168, 371, 5006, 28, 258, 372, 4976, 3, 3, 1, 4996, 5042, 114, 8, 168, 373, 5050, 4966, 10, 204, 374, 62, 61, 8, 168, 375, 5080, 4986, 8, 168, 376, 4724, 3664, 62, 186, 377, 1, 0, 0, 7, 0, 0, 14, 0, 1, 14, 1, 0, 20, 0, 0, 4, 168, 378, 5110, 28, 258, 379, 5080, 3, 3, 1, 5100, 5146, 114, 8, 168, 380, 5154, 5070, 30, 204, 381, 110, 101, 103, 97, 116, 101, 100, 8, 168, 382, 5184, 5090, 8, 168, 383, 1, 4338, 50, 186, 384, 6, 0, 0, 1, 0, 0, 14, 1, 1, 20, 0, 0, 4, 168, 385, 5224, 28, 258, 386, 5184, 1, 1, 1, 5214, 5254, 114, 8, 168, 387, 5262, 5174, 14, 204, 388, 97, 98, 115, 8, 168, 389, 5292, 5204, 12, 168, 390, 1, 4724, 5184, 158, 186, 391, 1, 0, 0, 6, 0, 0, 14, 1, 1, 17, 9, 0, 1, 0, 0, 14, 2, 0, 20, 0, 0, 2, 0, 0, 16, 10, 0, 2, 0, 0, 12, 0, 0, 1, 0, 0, 20, 0, 0, 4, 168, 392, 5326, 28, 258, 393, 5292, 1, 1, 1, 5314, 5410, 114, 8, 168, 394, 5418, 5282, 18, 204, 395, 109, 97, 120, 58, 8, 168, 396, 5448, 5304, 4, 168, 397, 4724, 146, 186, 398, 1, 0, 0, 7, 0, 0, 14, 0, 1, 17, 8, 0, 7, 0, 0, 20, 0, 0, 2, 0, 0, 16, 9, 0, 2, 0, 0, 12, 0, 0, 1, 0, 0, 20, 0, 0, 4, 168, 399, 5480, 28, 258, 400, 5448, 3, 3, 1, 5472, 5558, 114, 8, 168, 401, 5566, 5438, 50, 204, 402, 116, 105, 109, 101, 115, 82, 101, 112, 101, 97, 116, 58, 8, 168, 403, 5596, 5462, 20, 168, 404, 1, 4724, 3064, 3, 4214, 242, 186, 405, 6, 0, 0, 10, 1, 0, 12, 0, 0, 7, 1, 0, 1, 0, 0, 14, 1, 1, 17, 16, 0, 7, 0, 0, 14, 2, 0, 12, 0, 0, 7, 1, 0, 6, 3, 0, 14, 4, 1, 10, 1, 0, 12, 0, 0, 16, 3, 0, 2, 0, 0, 12, 0, 0, 1, 0, 0, 20, 0, 0, 4, 168, 406, 5652, 28, 258, 407, 5596, 3, 5, 1, 5636, 5778, 114, 8, 168, 408, 5786, 5586, 26, 204, 409, 116, 111, 58, 100, 111, 58, 8, 168, 410, 5816, 5626, 26, 204, 411, 118, 97, 108, 117, 101, 58, 8, 168, 412, 5844, 5834, 16, 168, 413, 4976, 5844, 3, 4214, 254, 186, 414, 1, 0, 0, 10, 2, 0, 12, 0, 0, 7, 2, 0, 7, 0, 0, 14, 0, 1, 17, 17, 0, 7, 1, 0, 7, 2, 0, 14, 1, 1, 12, 0, 0, 7, 2, 0, 6, 2, 0, 14, 3, 1, 10, 2, 0, 12, 0, 0, 16, 3, 0, 2, 0, 0, 12, 0, 0, 1, 0, 0, 20, 0, 0, 4, 168, 415, 5886, 28, 258, 416, 5816, 5, 7, 1, 5872, 6018, 114, 8, 168, 417, 6026, 5806, 14, 204, 418, 97, 116, 58, 8, 168, 419, 6056, 5862, 22, 204, 420, 105, 110, 100, 101, 120, 8, 168, 421, 6078, 6068, 8, 168, 422, 6078, 2372, 50, 186, 423, 1, 0, 0, 6, 0, 0, 14, 1, 1, 20, 0, 0, 4, 168, 424, 6114, 28, 258, 425, 6056, 3, 3, 41, 6104, 6144, 168, 8, 168, 426, 6152, 0, 30, 204, 427, 97, 116, 58, 112, 117, 116, 58, 8, 168, 428, 6182, 6094, 8, 168, 429, 6078, 2372, 50, 186, 430, 1, 0, 0, 6, 0, 0, 14, 1, 1, 20, 0, 0, 4, 168, 431, 6222, 28, 258, 432, 6182, 5, 5, 43, 6212, 6252, 168, 8, 168, 433, 6260, 6172, 18, 204, 434, 115, 105, 122, 101, 8, 168, 435, 6290, 6202, 0, 168, 436, 26, 186, 437, 1, 0, 0, 20, 0, 0, 4, 168, 438, 6320, 28, 258, 439, 6290, 1, 1, 45, 6314, 6338, 168, 8, 168, 440, 6346, 6280, 14, 204, 441, 100, 111, 58, 8, 168, 442, 6376, 6304, 20, 168, 443, 3, 6290, 6056, 5844, 5816, 182, 186, 444, 6, 0, 0, 1, 0, 0, 14, 1, 0, 18, 1, 1, 16, 11, 0, 7, 0, 0, 1, 0, 0, 7, 1, 0, 14, 2, 1, 14, 3, 1, 19, 0, 0, 14, 4, 2, 12, 0, 0, 1, 0, 0, 20, 0, 0, 4, 168, 445, 6414, 28, 258, 446, 6376, 3, 5, 1, 6398, 6510, 168, 8, 168, 447, 6518, 6366, 8, 168, 448, 6078, 2372, 50, 186, 449, 1, 0, 0, 6, 0, 0, 14, 1, 1, 20, 0, 0, 4, 168, 450, 6558, 28, 258, 451, 6056, 3, 3, 41, 6548, 6588, 186, 8, 168, 452, 6596, 0, 8, 168, 453, 6078, 2372, 50, 186, 454, 1, 0, 0, 6, 0, 0, 14, 1, 1, 20, 0, 0, 4, 168, 455, 6636, 28, 258, 456, 6182, 5, 5, 43, 6626, 6666, 186, 8, 168, 457, 6674, 6616, 0, 168, 458, 26, 186, 459, 1, 0, 0, 20, 0, 0, 4, 168, 460, 6710, 28, 258, 461, 6290, 1, 1, 45, 6704, 6728, 186, 8, 168, 462, 6736, 6694, 6, 204, 463, 44, 8, 168, 464, 6766, 6388, 26, 204, 465, 115, 116, 114, 105, 110, 103, 8, 168, 466, 6784, 6774, 8, 168, 467, 6784, 2372, 50, 186, 468, 1, 0, 0, 6, 0, 0, 14, 1, 1, 20, 0, 0, 4, 168, 469, 6822, 28, 258, 470, 6766, 3, 3, 51, 6812, 6852, 186, 8, 168, 471, 6860, 6756, 0, 168, 472, 26, 186, 473, 1, 0, 0, 20, 0, 0, 4, 168, 474, 6896, 28, 258, 475, 1106, 3, 3, 53, 6890, 6914, 186, 8, 168, 476, 6922, 6880, 4, 168, 477, 1124, 50, 186, 478, 1, 0, 0, 7, 0, 0, 14, 0, 1, 20, 0, 0, 4, 168, 479, 6960, 28, 258, 480, 1106, 3, 3, 1, 6952, 6990, 204, 8, 168, 481, 6998, 0, 8, 168, 482, 1052, 2372, 50, 186, 483, 1, 0, 0, 6, 0, 0, 14, 1, 1, 20, 0, 0, 4, 168, 484, 7038, 28, 258, 485, 3064, 1, 1, 67, 7028, 7068, 222, 8, 168, 486, 7076, 0, 8, 168, 487, 1052, 2372, 50, 186, 488, 1, 0, 0, 6, 0, 0, 14, 1, 1, 20, 0, 0, 4, 168, 489, 7116, 28, 258, 490, 5844, 3, 3, 69, 7106, 7146, 222, 8, 168, 491, 7154, 7096, 50, 204, 492, 118, 97, 108, 117, 101, 58, 118, 97, 108, 117, 101, 58, 8, 168, 493, 7184, 6802, 8, 168, 494, 1052, 2372, 50, 186, 495, 1, 0, 0, 6, 0, 0, 14, 1, 1, 20, 0, 0, 4, 168, 496, 7234, 28, 258, 497, 7184, 5, 5, 71, 7224, 7264, 222, 8, 168, 498, 7272, 7174, 42, 204, 499, 119, 104, 105, 108, 101, 84, 114, 117, 101, 58, 8, 168, 500, 7302, 7214, 4, 168, 501, 3064, 134, 186, 502, 1, 0, 0, 14, 0, 0, 17, 7, 0, 7, 0, 0, 14, 0, 0, 12, 0, 0, 16, 0, 0, 2, 0, 0, 12, 0, 0, 1, 0, 0, 20, 0, 0, 4, 168, 503, 7346, 28, 258, 504, 7302, 3, 3, 1, 7338, 7418, 222, 8, 168, 505, 7426, 7292, 30, 204, 506, 101, 110, 115, 117, 114, 101, 58, 8, 168, 507, 7456, 7328, 4, 168, 508, 3064, 146, 186, 509, 1, 0, 0, 14, 0, 0, 10, 1, 0, 12, 0, 0, 3, 0, 0, 10, 2, 0, 12, 0, 0, 7, 0, 0, 14, 0, 0, 12, 0, 0, 7, 1, 0, 20, 0, 0, 4, 168, 510, 7494, 28, 258, 511, 7456, 3, 7, 181, 7486, 7572, 222, 8, 168, 512, 7580, 7446, 50, 204, 513, 105, 102, 67, 117, 114, 116, 97, 105, 108, 101, 100, 58, 8, 168, 514, 7610, 7476, 4, 168, 515, 3064, 110, 186, 516, 1, 0, 0, 14, 0, 0, 10, 1, 0, 12, 0, 0, 3, 0, 0, 10, 2, 0, 12, 0, 0, 7, 1, 0, 20, 0, 0, 4, 168, 517, 7658, 28, 258, 518, 7610, 3, 7, 183, 7650, 7718, 222, 8, 168, 519, 7726, 7600, 26, 204, 520, 115, 101, 110, 100, 101, 114, 8, 168, 521, 7756, 7640, 0, 168, 522, 26, 186, 523, 1, 0, 0, 20, 0, 0, 4, 168, 524, 7790, 28, 258, 525, 7756, 1, 1, 161, 7784, 7808, 240, 8, 168, 526, 7816, 0, 34, 204, 527, 114, 101, 99, 101, 105, 118, 101, 114, 8, 168, 528, 7846, 7774, 0, 168, 529, 26, 186, 530, 1, 0, 0, 20, 0, 0, 4, 168, 531, 7884, 28, 258, 532, 7846, 1, 1, 163, 7878, 7902, 240, 8, 168, 533, 7910, 7836, 0, 168, 534, 26, 186, 535, 1, 0, 0, 20, 0, 0, 4, 168, 536, 7946, 28, 258, 537, 1020, 1, 1, 165, 7940, 7964, 240, 8, 168, 538, 7972, 7930, 10, 204, 539, 112, 99, 8, 168, 540, 8002, 7868, 0, 168, 541, 26, 186, 542, 1, 0, 0, 20, 0, 0, 4, 168, 543, 8028, 28, 258, 544, 8002, 1, 1, 167, 8022, 8046, 240, 8, 168, 545, 8054, 7992, 30, 204, 546, 116, 101, 109, 112, 65, 116, 58, 8, 168, 547, 8084, 8012, 8, 168, 548, 6078, 2372, 50, 186, 549, 1, 0, 0, 6, 0, 0, 14, 1, 1, 20, 0, 0, 4, 168, 550, 8124, 28, 258, 551, 8084, 3, 3, 169, 8114, 8154, 240, 8, 168, 552, 8162, 8074, 46, 204, 553, 116, 101, 109, 112, 65, 116, 58, 112, 117, 116, 58, 8, 168, 554, 8192, 8104, 8, 168, 555, 6078, 2372, 50, 186, 556, 1, 0, 0, 6, 0, 0, 14, 1, 1, 20, 0, 0, 4, 168, 557, 8240, 28, 258, 558, 8192, 5, 5, 171, 8230, 8270, 240, 8, 168, 559, 8278, 8182, 30, 204, 560, 114, 101, 116, 117, 114, 110, 58, 8, 168, 561, 8308, 8220, 54, 204, 562, 99, 97, 110, 110, 111, 116, 82, 101, 116, 117, 114, 110, 58, 8, 168, 563, 8338, 8328, 4, 168, 564, 8338, 50, 186, 565, 1, 0, 0, 7, 0, 0, 14, 0, 1, 20, 0, 0, 4, 168, 566, 8388, 28, 258, 567, 8308, 3, 3, 173, 8380, 8418, 240, 8, 168, 568, 8426, 8298, 0, 168, 569, 26, 186, 570, 1, 0, 0, 20, 0, 0, 4, 168, 571, 8462, 28, 258, 572, 8338, 3, 3, 149, 8456, 8480, 240, 8, 168, 573, 8488, 8446, 0, 168, 574, 26, 186, 575, 8, 0, 0, 20, 0, 0, 4, 168, 576, 8524, 28, 258, 577, 1020, 1, 1, 1, 8518, 8542, 276, 8, 168, 578, 8550, 0, 0, 168, 579, 26, 186, 580, 8, 1, 0, 20, 0, 0, 4, 168, 581, 8586, 28, 258, 582, 1052, 1, 1, 1, 8580, 8604, 276, 8, 168, 583, 8612, 8570]
def plF : List Nat := [3, 12, 21, 30, 39, 48, 57, 66, 75, 84, 93, 102, 111, 120, 129, 138, 147, 156, 161, 164, 169, 177, 182, 185, 190, 208, 213, 216, 221, 231, 236, 239, 244, 251, 256, 259, 264, 272, 277, 280, 285, 295, 300, 303, 308, 323, 328, 331, 336, 351, 356, 359, 364, 372, 377, 380, 385, 394, 399, 402, 407, 416, 421, 424, 429, 437, 442, 445, 450, 460, 465, 468, 473, 482, 487, 490, 495, 505, 510, 521, 526, 538, 543, 548, 553, 557, 562, 567, 572, 576, 591, 595, 605, 610, 613, 622, 626, 636, 641, 649, 654, 657, 666, 670, 680, 685, 693, 698, 702, 717, 721, 731, 736, 745, 750, 754, 775, 779, 789, 794, 799, 804, 809, 830, 834, 844, 849, 860, 865, 868, 877, 881, 891, 896, 909, 914, 917, 926, 930, 940, 945, 962, 967, 970, 979, 983, 993, 998, 1008, 1013, 1016, 1025, 1029, 1039, 1044, 1055, 1060, 1063, 1072, 1076, 1086, 1091, 1107, 1112, 1115, 1124, 1128, 1138, 1143, 1150, 1155, 1158, 1167, 1171, 1181, 1186, 1195, 1200, 1203, 1212, 1216, 1226, 1231, 1252, 1257, 1260, 1269, 1273, 1283, 1288, 1304, 1309, 1312, 1321, 1325, 1335, 1340, 1346, 1351, 1354, 1363, 1367, 1377, 1382, 1389, 1394, 1397, 1406, 1410, 1420, 1425, 1432, 1437, 1440, 1449, 1453, 1463, 1468, 1481, 1486, 1489, 1498, 1502, 1512, 1517, 1527, 1532, 1540, 1545, 1549, 1561, 1565, 1575, 1580, 1591, 1596, 1599, 1608, 1612, 1622, 1627, 1645, 1650, 1654, 1666, 1670, 1680, 1685, 1703, 1708, 1712, 1724, 1728, 1738, 1743, 1750, 1755, 1759, 1771, 1775, 1785, 1790, 1796, 1801, 1804, 1813, 1817, 1827, 1832, 1838, 1843, 1846, 1855, 1859, 1869, 1874, 1877, 1886, 1890, 1900, 1905, 1909, 1921, 1925, 1935, 1940, 1944, 1956, 1960, 1970, 1975, 1979, 1991, 1995, 2005, 2010, 2013, 2022, 2026, 2036, 2041, 2045, 2057, 2061, 2071, 2076, 2079, 2088, 2092, 2102, 2107, 2111, 2116, 2125, 2130, 2135, 2150, 2154, 2164, 2169, 2173, 2178, 2183, 2198, 2202, 2212, 2217, 2221, 2226, 2231, 2246, 2250, 2260, 2265, 2270, 2275, 2280, 2295, 2299, 2309, 2314, 2318, 2323, 2328, 2343, 2347, 2357, 2362, 2366, 2371, 2376, 2391, 2395, 2405, 2410, 2413, 2422, 2426, 2436, 2441, 2445, 2450, 2454, 2469, 2473, 2483, 2488, 2493, 2498, 2503, 2521, 2525, 2535, 2540, 2545, 2550, 2555, 2573, 2577, 2587, 2592, 2602, 2607, 2612, 2627, 2631, 2641, 2646, 2652, 2657, 2663, 2705, 2709, 2719, 2724, 2731, 2736, 2740, 2779, 2783, 2793, 2798, 2813, 2818, 2826, 2889, 2893, 2903, 2908, 2917, 2922, 2931, 2936, 2943, 3009, 3013, 3023, 3028, 3034, 3039, 3047, 3052, 3057, 3072, 3076, 3086, 3091, 3101, 3106, 3111, 3126, 3130, 3140, 3145, 3152, 3157, 3160, 3169, 3173, 3183, 3188, 3194, 3199, 3207, 3255, 3259, 3269, 3274, 3279, 3294, 3298, 3308, 3313, 3318, 3333, 3337, 3347, 3352, 3355, 3364, 3368, 3378, 3383, 3387, 3392, 3401, 3406, 3411, 3426, 3430, 3440, 3445, 3448, 3457, 3461, 3471, 3476, 3480, 3495, 3499, 3509, 3514, 3519, 3534, 3538, 3548, 3553, 3558, 3573, 3577, 3587, 3592, 3607, 3612, 3617, 3632, 3636, 3646, 3651, 3664, 3669, 3673, 3709, 3713, 3723, 3728, 3738, 3743, 3747, 3786, 3790, 3800, 3805, 3820, 3825, 3829, 3859, 3863, 3873, 3878, 3887, 3892, 3895, 3904, 3908, 3918, 3923, 3934, 3939, 3942, 3951, 3955, 3965, 3970, 3973, 3982, 3986, 3996, 4001, 4006, 4011, 4014, 4023, 4027, 4037, 4042, 4052, 4057, 4062, 4077, 4081, 4091, 4096, 4110, 4115, 4120, 4135, 4139, 4149, 4154, 4164, 4169, 4185, 4190, 4194, 4209, 4213, 4223, 4228, 4231, 4240, 4244, 4254, 4259, 4262, 4271, 4275, 4285, 4290, 4293, 4302, 4306, 4316]
def syF : List (List Nat × Nat) := [([79, 98, 106, 101, 99, 116], 294), ([67, 108, 97, 115, 115], 338), ([85, 110, 100, 101, 102, 105, 110, 101, 100, 79, 98, 106, 101, 99, 116], 380), ([66, 111, 111, 108, 101, 97, 110], 442), ([84, 114, 117, 101], 488), ([70, 97, 108, 115, 101], 528), ([73, 110, 116, 101, 103, 101, 114], 570), ([83, 109, 97, 108, 108, 73, 110, 116, 101, 103, 101, 114], 616), ([76, 97, 114, 103, 101, 73, 110, 116, 101, 103, 101, 114], 672), ([65, 114, 114, 97, 121], 728), ([83, 116, 114, 105, 110, 103], 770), ([83, 121, 109, 98, 111, 108], 814), ([66, 108, 111, 99, 107], 858), ([67, 111, 110, 116, 101, 120, 116], 900), ([77, 101, 116, 104, 111, 100], 946), ([77, 101, 115, 115, 97, 103, 101], 990), ([115, 101, 108, 101, 99, 116, 111, 114], 1020), ([97, 114, 103, 117, 109, 101, 110, 116, 115], 1052), ([61], 1106), ([61, 61], 1124), ([99, 108, 97, 115, 115], 1282), ([105, 115, 78, 105, 108], 1370), ([110, 111, 116, 78, 105, 108], 1472), ([126, 61], 1588), ([121, 111, 117, 114, 115, 101, 108, 102], 1698), ([105, 110, 115, 116, 86, 97, 114, 65, 116, 58], 1792), ([105, 110, 115, 116, 86, 97, 114, 65, 116, 58, 112, 117, 116, 58], 1890), ([98, 101, 99, 111, 109, 101, 58], 1996), ([112, 101, 114, 102, 111, 114, 109, 58], 2088), ([112, 101, 114, 102, 111, 114, 109, 58, 119, 105, 116, 104, 58], 2182), ([115, 104, 111, 119], 2286), ([101, 114, 114, 111, 114, 58], 2372), ([100, 111, 101, 115, 78, 111, 116, 85, 110, 100, 101, 114, 115, 116, 97, 110, 100, 58], 2462), ([109, 117, 115, 116, 66, 101, 66, 111, 111, 108, 101, 97, 110], 2576), ([110, 101, 119], 2680), ([110, 101, 119, 58], 2764), ([110, 97, 109, 101], 2850), ([115, 117, 112, 101, 114, 99, 108, 97, 115, 115], 2936), ([105, 102, 84, 114, 117, 101, 58], 3034), ([118, 97, 108, 117, 101], 3064), ([105, 102, 70, 97, 108, 115, 101, 58], 3160), ([105, 102, 84, 114, 117, 101, 58, 105, 102, 70, 97, 108, 115, 101, 58], 3254), ([105, 102, 70, 97, 108, 115, 101, 58, 105, 102, 84, 114, 117, 101, 58], 3370), ([97, 110, 100, 58], 3486), ([111, 114, 58], 3580), ([110, 111, 116], 3664), ([43], 4214), ([110, 117, 109, 98, 101, 114], 4232), ([45], 4338), ([42], 4434), ([47, 47], 4530), ([37], 4628), ([60], 4724), ([62], 4882), ([60, 61], 4976), ([62, 61], 5080), ([110, 101, 103, 97, 116, 101, 100], 5184), ([97, 98, 115], 5292), ([109, 97, 120, 58], 5448), ([116, 105, 109, 101, 115, 82, 101, 112, 101, 97, 116, 58], 5596), ([116, 111, 58, 100, 111, 58], 5816), ([118, 97, 108, 117, 101, 58], 5844), ([97, 116, 58], 6056), ([105, 110, 100, 101, 120], 6078), ([97, 116, 58, 112, 117, 116, 58], 6182), ([115, 105, 122, 101], 6290), ([100, 111, 58], 6376), ([44], 6766), ([115, 116, 114, 105, 110, 103], 6784), ([118, 97, 108, 117, 101, 58, 118, 97, 108, 117, 101, 58], 7184), ([119, 104, 105, 108, 101, 84, 114, 117, 101, 58], 7302), ([101, 110, 115, 117, 114, 101, 58], 7456), ([105, 102, 67, 117, 114, 116, 97, 105, 108, 101, 100, 58], 7610), ([115, 101, 110, 100, 101, 114], 7756), ([114, 101, 99, 101, 105, 118, 101, 114], 7846), ([112, 99], 8002), ([116, 101, 109, 112, 65, 116, 58], 8084), ([116, 101, 109, 112, 65, 116, 58, 112, 117, 116, 58], 8192), ([114, 101, 116, 117, 114, 110, 58], 8308), ([99, 97, 110, 110, 111, 116, 82, 101, 116, 117, 114, 110, 58], 8338)]
def clF : List (List Nat × Nat) := [([79, 98, 106, 101, 99, 116], 6), ([67, 108, 97, 115, 115], 24), ([85, 110, 100, 101, 102, 105, 110, 101, 100, 79, 98, 106, 101, 99, 116], 42), ([66, 111, 111, 108, 101, 97, 110], 60), ([84, 114, 117, 101], 78), ([70, 97, 108, 115, 101], 96), ([73, 110, 116, 101, 103, 101, 114], 114), ([83, 109, 97, 108, 108, 73, 110, 116, 101, 103, 101, 114], 132), ([76, 97, 114, 103, 101, 73, 110, 116, 101, 103, 101, 114], 150), ([65, 114, 114, 97, 121], 168), ([83, 116, 114, 105, 110, 103], 186), ([83, 121, 109, 98, 111, 108], 204), ([66, 108, 111, 99, 107], 222), ([67, 111, 110, 116, 101, 120, 116], 240), ([77, 101, 116, 104, 111, 100], 258), ([77, 101, 115, 115, 97, 103, 101], 276)]
def bVv (l : List (List Nat × Nat)) : Nat → List (List Nat × Nat) := List.rec (motive := fun _ => Nat → List (List Nat × Nat)) (fun _ => []) (fun x _ ih n => bif Nat.beq n 0 then [] else x :: ih (Nat.sub n 1)) l
def dNo (l : List (List Nat × List Nat)) : Nat → List (Pos × Ob) := List.rec (motive := fun _ => Nat → List (Pos × Ob)) (fun _ => []) (fun x _ ih p => (aU p, .row .ex [.s x.1, .s x.2]) :: ih (Nat.add p 1)) l
def dKu (l : List (List Nat × List Nat)) : Nat → List (List Nat × List Nat) := List.rec (motive := fun _ => Nat → List (List Nat × List Nat)) (fun _ => []) (fun x l ih n => bif Nat.beq n 0 then x :: l else ih (Nat.sub n 1)) l
def mR (N fin made ns : Nat) (roots : List Nat) (pt : List (Nat × Nat)) (k : Nat) : List (Pos × Ob) :=
 (aU 7, .row .ex [.p (aU 3) 0, .l (aU 4) 0 18 18, .m (aU 5), .m (aU 6)]) ::
 (aU 6, .mp (bDj clF)) :: (aU 5, .mp (bDj (bVv syF ns))) :: (aU 4, .row .ex (dKs roots)) ::
 (aU 3, .row .ex [.l (aU 1) 0 N N, .i .i64 (.ofNat fin), .i .i64 (.ofNat made), .m (aU 2)]) ::
 (aU 2, .mi (mkP (pU plF made) .e)) :: (aU 1, .big N (bKm pt (mkW (pU wsF fin) 0 .e))) ::
 (aU 431, .row .ex (dRq dKh 356)) :: dNo (dKu dKh k) (Nat.add 356 k)
def cTz (l : List (Pos × Ob)) : Tr Ob := List.rec (motive := fun _ => Tr Ob) .e (fun x _ ih => Tr.set x.2 x.1 ih) l
def gX (nx : Nat) (l : List (Pos × Ob)) : Hp := ⟨aU nx, cTz l⟩
def gI (x y : Int) : Bool := match x, y with
 | .ofNat a, .ofNat b => Nat.beq a b
 | .negSucc a, .negSucc b => Nat.beq a b
 | _, _ => false
def wtE (t : WT) : WT → Bool := WT.rec (motive := fun _ => WT → Bool) (fun u => WT.rec (motive := fun _ => Bool) true (fun _ _ _ _ _ => false) u)
 (fun _ v _ ihl ihr u => WT.rec (motive := fun _ => Bool) false (fun l' v' r' _ _ => gI v v' && (ihl l' && ihr r')) u) t
def dvE (x y : DV) : Bool := match x, y with
 | .i .i64 a, .i .i64 b => gI a b
 | .s a, .s b => eqD a b
 | .p a o, .p b q => lB a b && Nat.beq o q
 | .l a o n c, .l b q m d => lB a b && (Nat.beq o q && (Nat.beq n m && Nat.beq c d))
 | .m a, .m b => lB a b
 | .b a, .b b => a == b
 | .l0, .l0 => true
 | .p0, .p0 => true
 | .m0, .m0 => true
 | _, _ => false
def cPa (l : List DV) : List DV → Bool := List.rec (motive := fun _ => List DV → Bool) (fun m => List.rec (motive := fun _ => Bool) true (fun _ _ _ => false) m)
 (fun x _ ih m => List.rec (motive := fun _ => Bool) false (fun y m _ => dvE x y && ih m) m) l
def cYv (l : List (DV × DV)) : List (DV × DV) → Bool := List.rec (motive := fun _ => List (DV × DV) → Bool) (fun m => List.rec (motive := fun _ => Bool) true (fun _ _ _ => false) m)
 (fun x _ ih m => List.rec (motive := fun _ => Bool) false (fun y m _ => dvE x.1 y.1 && (dvE x.2 y.2 && ih m)) m) l
def obE (o p : Ob) : Bool := match o, p with
 | .row .ex l, .row .ex m => cPa l m
 | .mp l, .mp m => cYv l m
 | .big n t, .big m u => Nat.beq n m && wtE t u
 | .mi t, .mi u => wtE t u
 | _, _ => false
def aXz (g : Tr Ob) (l : List (Pos × Ob)) : Bool := List.rec (motive := fun _ => Bool) true (fun x _ ih => (match g.get x.1 with
 | some o => obE o x.2
 | none => false) && ih) l
def lJ (r : aI) (vs : List DV) (nx : Nat) (l : List (Pos × Ob)) : Bool := match r with
 | some (.t us, g) => cPa us vs && (lB g.next (aU nx) && aXz g.bl l)
 | _ => false
def itN (n : Nat) (K : DV → DV → DV → DV → Hp → aI) : DV → DV → DV → DV → Hp → aI :=
 Nat.rec (motive := fun _ => DV → DV → DV → DV → Hp → aI) K (fun _ ih => jW (cQ 899) 899 ih) n
def bMk : DV → DV → DV → DV → Hp → aI := fun a b c d h => some (.t [a, b, c, d], h)
def kJ (k : Nat) : List DV := [.p (aU 7) 0, .l (aU 431) 0 75 75, .i .i64 (.ofNat 75), .i .i64 (.ofNat k)]
def nC (k n : Nat) (h : Hp) : aI := itN n bMk (.p (aU 7) 0) (.l (aU 431) 0 75 75) (.i .i64 (.ofNat 75)) (.i .i64 (.ofNat k)) h
end
end Go.Dd

