/- A part of the proof: Q9 Q10 Q11 Q12 Q13 Q14 Q15 Q16 Q17 Qt: each text has a comment of its own. -/
import Derived.Test.YtdpdcbdfgfeoeaaGreatTb2
set_option linter.unusedVariables false
set_option linter.unusedSimpArgs false
set_option linter.constructorNameAsVariable false
set_option maxRecDepth 100000
namespace Go.Dd
open Go.Proofs
variable (r : RT) (n : Nat) (args : List DV) (h : Hp)
noncomputable def bC (r : RT) (n : Nat) (h0 : Hp) : aH :=
 some ((.b true), h0)
noncomputable def wC (r : RT) (n : Nat) (x2 x3 x4 x27 x51 : DV) (h0 : Hp) : aH :=
 aU x51 (
 bnd (aB 1 x4 h0) fun v1 h1 =>
 bnd (aA v1 h1) fun v2 h2 =>
 bnd (aD .lss v2 x2 h2) fun v3 h3 =>
 some (v3, h3)) (
 bnd (aD .eql x27 (aF 18) h0) fun v4 h4 =>
 aU v4 (
 bnd (aB 2 x4 h4) fun v5 h5 =>
 bnd (aA v5 h5) fun v6 h6 =>
 bnd (aD .leq v6 (aF 4) h6) fun v7 h7 =>
 bnd (gD v7 true (aB 1 x4 h7) h7) fun v8 h8 =>
 bnd (gD v7 true (aA v8 h8) h8) fun v9 h9 =>
 bnd (gD v7 true (aB 2 x4 h9) h9) fun v10 h10 =>
 bnd (gD v7 true (aA v10 h10) h10) fun v11 h11 =>
 bnd (gD v7 true (aD .add v9 v11 h11) h11) fun v12 h12 =>
 bnd (gD v7 true (aB 2 x3 h12) h12) fun v13 h13 =>
 bnd (gD v7 true (aA v13 h13) h13) fun v14 h14 =>
 bnd (gD v7 true (aD .leq v12 v14 h14) h14) fun v15 h15 =>
 bnd (aN v7 v15 (.b false) h15) fun v16 h16 =>
 some (v16, h16)) (
   bC r n h4))
noncomputable def bAn (r : RT) (n : Nat) (x2 x3 x4 x27 : DV) (h0 : Hp) : aH :=
 bnd (aD .eql x27 (aF 8) h0) fun v1 h1 =>
 aU v1 (
  wC r n x2 x3 x4 x27 v1 h1) (
 bnd (aD .eql x27 (aF 11) h1) fun v2 h2 =>
  wC r n x2 x3 x4 x27 v2 h2)
noncomputable def uE (r : RT) (n : Nat) (x2 x3 x4 x27 x43 : DV) (h0 : Hp) : aH :=
 aU x43 (
 bnd (aB 1 x4 h0) fun v1 h1 =>
 bnd (aA v1 h1) fun v2 h2 =>
 bnd (aB 2 x3 h2) fun v3 h3 =>
 bnd (aA v3 h3) fun v4 h4 =>
 bnd (aD .lss v2 v4 h4) fun v5 h5 =>
 some (v5, h5)) (
  bAn r n x2 x3 x4 x27 h0)
noncomputable def bCy (r : RT) (n : Nat) (x2 x3 x4 x27 : DV) (h0 : Hp) : aH :=
 bnd (aD .eql x27 (aF 7) h0) fun v1 h1 =>
 aU v1 (
  uE r n x2 x3 x4 x27 v1 h1) (
 bnd (aD .eql x27 (aF 10) h1) fun v2 h2 =>
  uE r n x2 x3 x4 x27 v2 h2)
noncomputable def tO (r : RT) (n : Nat) (x2 x3 x4 x8 x27 x34 : DV) (h0 : Hp) : aH :=
 aU x34 (
 bnd (gD x8 true (aB 2 x4 h0) h0) fun v1 h1 =>
 bnd (gD x8 true (aA v1 h1) h1) fun v2 h2 =>
 bnd (gD x8 true (aD .leq v2 (aF 4) h2) h2) fun v3 h3 =>
 bnd (aN x8 v3 (.b false) h3) fun v4 h4 =>
 some (v4, h4)) (
  bCy r n x2 x3 x4 x27 h0)
noncomputable def cHe (r : RT) (n : Nat) (x2 x3 x4 x8 x27 : DV) (h0 : Hp) : aH :=
 bnd (aD .eql x27 (aF 14) h0) fun v1 h1 =>
 aU v1 (
  tO r n x2 x3 x4 x8 x27 v1 h1) (
 bnd (aD .eql x27 (aF 15) h1) fun v2 h2 =>
  tO r n x2 x3 x4 x8 x27 v2 h2)
noncomputable def aRv (r : RT) (n : Nat) (x2 x3 x4 x8 x27 x31 : DV) (h0 : Hp) : aH :=
 aU x31 (
 some (x8, h0)) (
  cHe r n x2 x3 x4 x8 x27 h0)
noncomputable def cIa (r : RT) (n : Nat) (x2 x3 x4 x8 x27 : DV) (h0 : Hp) : aH :=
 bnd (aD .eql x27 (aF 9) h0) fun v1 h1 =>
  aRv r n x2 x3 x4 x8 x27 v1 h1
noncomputable def aTz (r : RT) (n : Nat) (x2 x3 x4 x7 x8 x27 x28 : DV) (h0 : Hp) : aH :=
 aU x28 (
 some (x7, h0)) (
  cIa r n x2 x3 x4 x8 x27 h0)
noncomputable def aVn (r : RT) (n : Nat) (x2 x3 x4 x7 x8 x27 : DV) (h0 : Hp) : aH :=
 bnd (aD .eql x27 (aF 6) h0) fun v1 h1 =>
  aTz r n x2 x3 x4 x7 x8 x27 v1 h1
noncomputable def aXu (r : RT) (n : Nat) (x2 x3 x4 x7 x8 : DV) (h0 : Hp) : aH :=
 bnd (aB 0 x4 h0) fun v1 h1 =>
 bnd (aA v1 h1) fun v2 h2 =>
  aVn r n x2 x3 x4 x7 x8 v2 h2
noncomputable def aXi (r : RT) (n : Nat) (x2 x3 x4 x7 : DV) (h0 : Hp) : aH :=
 bnd (gD x7 true (aB 4 x3 h0) h0) fun v1 h1 =>
 bnd (gD x7 true (aA v1 h1) h1) fun v2 h2 =>
 bnd (gD x7 true (aB 1 x4 h2) h2) fun v3 h3 =>
 bnd (gD x7 true (aA v3 h3) h3) fun v4 h4 =>
 bnd (gD x7 true (aC 4 v2 v4 h4) h4) fun v5 h5 =>
 bnd (gD x7 true (aB 0 v5 h5) h5) fun v6 h6 =>
 bnd (gD x7 true (aA v6 h6) h6) fun v7 h7 =>
 bnd (gD x7 true (aD .eql v7 (aF 3) h7) h7) fun v8 h8 =>
 bnd (aN x7 v8 (.b false) h8) fun v9 h9 =>
  aXu r n x2 x3 x4 x7 v9 h9
noncomputable def yW (r : RT) (n : Nat) (x2 x3 x4 : DV) (h0 : Hp) : aH :=
 bnd (aB 1 x4 h0) fun v1 h1 =>
 bnd (aA v1 h1) fun v2 h2 =>
 bnd (aB 4 x3 h2) fun v3 h3 =>
 bnd (aA v3 h3) fun v4 h4 =>
 bnd (bJ v4 h4) fun v5 h5 =>
 bnd (aD .lss v2 v5 h5) fun v6 h6 =>
  aXi r n x2 x3 x4 v6 h6
noncomputable def s150 (r : RT) (n : Nat) (x0 x1 x2 : DV) (h0 : Hp) : aH :=
 bnd (bQ x0 h0) fun v1 h1 =>
 bnd (bQ x1 h1) fun v2 h2 =>
  yW r n x2 v1 v2 h2
noncomputable abbrev c150 : Code := cf Tryz.f150
noncomputable abbrev aKa : Code := cR c150
noncomputable abbrev aDl : Code := cR aKa
noncomputable abbrev aEo : Code := cR aDl
noncomputable abbrev dKr : Code := cR aEo
noncomputable abbrev xA : Code := cL aEo
noncomputable abbrev aRb : Code := cR xA
noncomputable abbrev aEe : Code := cL aRb
noncomputable abbrev zL : Code := cR aEe
noncomputable abbrev zC : Code := cR zL
noncomputable abbrev qY : Code := cR zC
noncomputable abbrev qS : Code := cR qY
noncomputable abbrev qB : Code := cR qS
noncomputable abbrev qQ : Code := cR qB
noncomputable abbrev qE : Code := cR qQ
noncomputable abbrev pW : Code := cR qE
noncomputable abbrev cNy : Code := cR pW
noncomputable abbrev bGs : Code := cL pW
noncomputable abbrev cRn : Code := cL qE
noncomputable abbrev bCl : Code := cL qQ
noncomputable abbrev cYp : Code := cL qB
noncomputable abbrev bAj : Code := cL qS
noncomputable abbrev cZi : Code := cL qY
noncomputable abbrev bGd : Code := cL zC
noncomputable abbrev cPj : Code := cL zL
noncomputable abbrev bAo : Code := cL aEe
noncomputable abbrev bCs : Code := cL xA
noncomputable abbrev bBz : Code := cL aDl
noncomputable abbrev bEu : Code := cL aKa
noncomputable abbrev aIg : Code := cL c150
noncomputable abbrev r150 : K := aQ CF Tryz.f150
noncomputable def D150 (r : RT) (n : Nat) (c : Code) (X : Nat → K) (k : K) : K := aP CF r 73 n c X r150 k
theorem dAy : D150 r n dKr x0 r150 = (K0 (bC r n)) :=
 (by kernel_rfl)
theorem cLz : D150 r n cNy (xs x0 0 (K0 (bC r n))) (K0 (bC r n)) = (K5 (wC r n) 2 3 4 27 51) :=
 (by kernel_rfl)
theorem bLj : D150 r n pW (xs x0 0 (K0 (bC r n))) (K0 (bC r n)) = D150 r n bGs (xs x0 0 (K0 (bC r n))) (K5 (wC r n) 2 3 4 27 51) :=
 congrArg (fun k => D150 r n bGs (xs x0 0 (K0 (bC r n))) k) (cLz r n)
theorem bWs : D150 r n pW (xs x0 0 (K0 (bC r n))) (K0 (bC r n)) = (K4 (bAn r n) 2 3 4 27) :=
 (bLj r n).trans
 ((by kernel_rfl))
theorem cJr : D150 r n qE (xs x0 0 (K0 (bC r n))) (K0 (bC r n)) = (K5 (uE r n) 2 3 4 27 43) :=
 (by kernel_rfl : D150 r n qE (xs x0 0 (K0 (bC r n))) (K0 (bC r n)) = (fun (env : aZ) (h : Hp) => aU (opr env (cC qE)) (D150 r n cRn (xs x0 0 (K0 (bC r n))) (K0 (bC r n)) env h) (D150 r n pW (xs x0 0 (K0 (bC r n))) (K0 (bC r n)) env h))).trans (by rw [bWs r n]; kernel_rfl)
theorem bLk : D150 r n qQ (xs x0 0 (K0 (bC r n))) (K0 (bC r n)) = D150 r n bCl (xs x0 0 (K0 (bC r n))) (K5 (uE r n) 2 3 4 27 43) :=
 congrArg (fun k => D150 r n bCl (xs x0 0 (K0 (bC r n))) k) (cJr r n)
theorem bOk : D150 r n qQ (xs x0 0 (K0 (bC r n))) (K0 (bC r n)) = (K4 (bCy r n) 2 3 4 27) :=
 (bLk r n).trans
 ((by kernel_rfl))
theorem bQn : D150 r n qB (xs x0 0 (K0 (bC r n))) (K0 (bC r n)) = (K6 (tO r n) 2 3 4 8 27 34) :=
 (by kernel_rfl : D150 r n qB (xs x0 0 (K0 (bC r n))) (K0 (bC r n)) = (fun (env : aZ) (h : Hp) => aU (opr env (cC qB)) (D150 r n cYp (xs x0 0 (K0 (bC r n))) (K0 (bC r n)) env h) (D150 r n qQ (xs x0 0 (K0 (bC r n))) (K0 (bC r n)) env h))).trans (by rw [bOk r n]; kernel_rfl)
theorem bOn : D150 r n qS (xs x0 0 (K0 (bC r n))) (K0 (bC r n)) = D150 r n bAj (xs x0 0 (K0 (bC r n))) (K6 (tO r n) 2 3 4 8 27 34) :=
 congrArg (fun k => D150 r n bAj (xs x0 0 (K0 (bC r n))) k) (bQn r n)
theorem cVx : D150 r n qS (xs x0 0 (K0 (bC r n))) (K0 (bC r n)) = (K5 (cHe r n) 2 3 4 8 27) :=
 (bOn r n).trans
 ((by kernel_rfl))
theorem cYt : D150 r n qY (xs x0 0 (K0 (bC r n))) (K0 (bC r n)) = (K6 (aRv r n) 2 3 4 8 27 31) :=
 (by kernel_rfl : D150 r n qY (xs x0 0 (K0 (bC r n))) (K0 (bC r n)) = (fun (env : aZ) (h : Hp) => aU (opr env (cC qY)) (D150 r n cZi (xs x0 0 (K0 (bC r n))) (K0 (bC r n)) env h) (D150 r n qS (xs x0 0 (K0 (bC r n))) (K0 (bC r n)) env h))).trans (by rw [cVx r n]; kernel_rfl)
theorem cCh : D150 r n zC (xs x0 0 (K0 (bC r n))) (K0 (bC r n)) = D150 r n bGd (xs x0 0 (K0 (bC r n))) (K6 (aRv r n) 2 3 4 8 27 31) :=
 congrArg (fun k => D150 r n bGd (xs x0 0 (K0 (bC r n))) k) (cYt r n)
theorem cVn : D150 r n zC (xs x0 0 (K0 (bC r n))) (K0 (bC r n)) = (K5 (cIa r n) 2 3 4 8 27) :=
 (cCh r n).trans
 ((by kernel_rfl))
theorem cQe : D150 r n zL (xs x0 0 (K0 (bC r n))) (K0 (bC r n)) = (K7 (aTz r n) 2 3 4 7 8 27 28) :=
 (by kernel_rfl : D150 r n zL (xs x0 0 (K0 (bC r n))) (K0 (bC r n)) = (fun (env : aZ) (h : Hp) => aU (opr env (cC zL)) (D150 r n cPj (xs x0 0 (K0 (bC r n))) (K0 (bC r n)) env h) (D150 r n zC (xs x0 0 (K0 (bC r n))) (K0 (bC r n)) env h))).trans (by rw [cVn r n]; kernel_rfl)
theorem bYe : D150 r n aEe (xs x0 0 (K0 (bC r n))) (K0 (bC r n)) = D150 r n bAo (xs x0 0 (K0 (bC r n))) (K7 (aTz r n) 2 3 4 7 8 27 28) :=
 congrArg (fun k => D150 r n bAo (xs x0 0 (K0 (bC r n))) k) (cQe r n)
theorem cXr : D150 r n aRb x0 (K0 (bC r n)) = (K6 (aVn r n) 2 3 4 7 8 27) :=
 (by kernel_rfl : D150 r n aRb x0 (K0 (bC r n)) = D150 r n aEe (xs x0 0 (K0 (bC r n))) (K0 (bC r n))).trans
 ((bYe r n).trans
 ((by kernel_rfl)))
theorem bXz : D150 r n aEo x0 r150 = D150 r n xA x0 (K0 (bC r n)) :=
 congrArg (fun k => D150 r n xA x0 k) (dAy r n)
theorem cIb : D150 r n xA x0 (K0 (bC r n)) = D150 r n bCs x0 (K6 (aVn r n) 2 3 4 7 8 27) :=
 congrArg (fun k => D150 r n bCs x0 k) (cXr r n)
theorem cRx : D150 r n aEo x0 r150 = (K5 (aXu r n) 2 3 4 7 8) :=
 (bXz r n).trans
 ((cIb r n).trans
 ((by kernel_rfl)))
theorem cLw : D150 r n aDl x0 r150 = D150 r n bBz x0 (K5 (aXu r n) 2 3 4 7 8) :=
 congrArg (fun k => D150 r n bBz x0 k) (cRx r n)
theorem dAm : D150 r n aDl x0 r150 = (K4 (aXi r n) 2 3 4 7) :=
 (cLw r n).trans
 ((by kernel_rfl))
theorem cLh : D150 r n aKa x0 r150 = D150 r n bEu x0 (K4 (aXi r n) 2 3 4 7) :=
 congrArg (fun k => D150 r n bEu x0 k) (dAm r n)
theorem cSz : D150 r n aKa x0 r150 = (K3 (yW r n) 2 3 4) :=
 (cLh r n).trans
 ((by kernel_rfl))
theorem cYj : D150 r n c150 x0 r150 = D150 r n aIg x0 (K3 (yW r n) 2 3 4) :=
 congrArg (fun k => D150 r n aIg x0 k) (cSz r n)
theorem cXv (q0 : bZ) : D150 r n aIg x0 (K3 q0 2 3 4) = fun (env : aZ) (h : Hp) =>
 bnd (bQ (env 0) h) fun v1 h1 =>
 bnd (bQ (env 1) h1) fun v2 h2 =>
  q0 (env 2) v1 v2 h2 := by kernel_rfl
theorem bTa : (fun (env : aZ) (h : Hp) =>
 bnd (bQ (env 0) h) fun v1 h1 =>
 bnd (bQ (env 1) h1) fun v2 h2 =>
  yW r n (env 2) v1 v2 h2) = (K3 (s150 r n) 0 1 2) := by kernel_rfl
theorem dYl : D150 r n c150 x0 r150 = (K3 (s150 r n) 0 1 2) :=
 (cYj r n).trans
 ((cXv r n (yW r n)).trans (bTa r n))
theorem dLl : aG CF r n 150 args h = s150 r n (aR args 0) (aR args 1) (aR args 2) h :=
 (by kernel_rfl : aG CF r n 150 args h = D150 r n c150 x0 r150 (aI args) h).trans ((congrFun (congrFun (dYl r n) (aI args)) h).trans (by kernel_rfl))
noncomputable def eW (r : RT) (n : Nat) (x3 : DV) (h0 : Hp) : aH :=
 some (x3, h0)
noncomputable def bHm (r : RT) (n : Nat) (kk6 : bT) (x3 x4 x11 x12 : DV) (h0 : Hp) : aH :=
 bnd (aD .lss x12 x11 h0) fun v1 h1 =>
 aU v1 (
 bnd (jX CF r x4 [x12] h1) fun v2 h2 =>
 bnd (aC 1 x3 x12 h2) fun v3 h3 =>
 bnd (aJ 1 v3 v2 h3) fun _ h4 =>
 bnd (aD .add x12 (aF 1) h4) fun v5 h5 =>
      kk6 x3 x4 x11 v5 h5) (
      eW r n x3 h1)
noncomputable def vA (r : RT) (n : Nat) (m : Nat) : bT :=
 Nat.rec (motive := fun _ => bT) (fun _ _ _ _ _ => none) (fun _ ih => bHm r n ih) m
noncomputable def bUs (r : RT) (n : Nat) : bT := vA r n n
noncomputable def aWn (r : RT) (n : Nat) (x3 x4 x11 x12 : DV) (h0 : Hp) : aH :=
 bUs r n x3 x4 x11 x12 h0
noncomputable def aWa (r : RT) (n : Nat) (x1 x3 x4 : DV) (h0 : Hp) : aH :=
 bnd (aA x1 h0) fun v1 h1 =>
 bnd (bJ v1 h1) fun v2 h2 =>
  aWn r n x3 x4 v2 (aF 0) h2
noncomputable def yR (r : RT) (n : Nat) (x1 x3 : DV) (h0 : Hp) : aH :=
 aWa r n x1 x3 (.f 191 [] [x1]) h0
noncomputable def rR (r : RT) (n : Nat) (x1 : DV) (h0 : Hp) : aH :=
 bnd (aA x1 h0) fun v1 h1 =>
 bnd (bJ v1 h1) fun v2 h2 =>
 bnd (cJ 1 8 [(aF 0)] v2 v2 h2) fun v3 h3 =>
  yR r n x1 v3 h3
noncomputable def s151 (r : RT) (n : Nat) (x0 : DV) (h0 : Hp) : aH :=
 bnd (bQ x0 h0) fun v1 h1 =>
  rR r n v1 h1
noncomputable abbrev c151 : Code := cf Tryz.f151
noncomputable abbrev aGc : Code := cR c151
noncomputable abbrev aMs : Code := cR aGc
noncomputable abbrev aJi : Code := cR aMs
noncomputable abbrev dLh : Code := cR aJi
noncomputable abbrev xL : Code := cL aJi
noncomputable abbrev aYj : Code := cR xL
noncomputable abbrev aDg : Code := cL aYj
noncomputable abbrev oQ : Code := cL aDg
noncomputable abbrev cDv : Code := cL xL
noncomputable abbrev bGx : Code := cL aMs
noncomputable abbrev aIn : Code := cL aGc
noncomputable abbrev aDd : Code := cL c151
noncomputable abbrev r151 : K := aQ CF Tryz.f151
noncomputable def D151 (r : RT) (n : Nat) (c : Code) (X : Nat → K) (k : K) : K := aP CF r 23 n c X r151 k
theorem cZy : D151 r n dLh x0 r151 = (K1 (eW r n) 3) :=
 (by kernel_rfl)
theorem cHd (kk6 : bT) : D151 r n oQ (xs x0 0 (K1 (eW r n) 3)) (K4 kk6 3 4 11 12) = (K4 (bHm r n kk6) 3 4 11 12) :=
 (by kernel_rfl)
theorem bVv (m : Nat) : aK (fun kk => D151 r n oQ (xs x0 0 (K1 (eW r n) 3)) kk) m = (K4 (vA r n m) 3 4 11 12) := by
 induction m with
 | zero => exact (by kernel_rfl : aK (fun kk => D151 r n oQ (xs x0 0 (K1 (eW r n) 3)) kk) 0 = (K4 (vA r n 0) 3 4 11 12))
 | succ m ih =>
  refine (by kernel_rfl : aK (fun kk => D151 r n oQ (xs x0 0 (K1 (eW r n) 3)) kk) (m + 1) = D151 r n oQ (xs x0 0 (K1 (eW r n) 3)) (aK (fun kk => D151 r n oQ (xs x0 0 (K1 (eW r n) 3)) kk) m)).trans ?_
  rw [ih]
  exact (cHd r n (vA r n m)).trans (by kernel_rfl)
theorem cZz : D151 r n aDg (xs x0 0 (K1 (eW r n) 3)) (K1 (eW r n) 3) = (K4 (bUs r n) 3 4 11 12) :=
 (by kernel_rfl : D151 r n aDg (xs x0 0 (K1 (eW r n) 3)) (K1 (eW r n) 3) = aK (fun kk => D151 r n oQ (xs x0 0 (K1 (eW r n) 3)) kk) n).trans ((bVv r n n).trans (by kernel_rfl))
theorem cWc : D151 r n aYj x0 (K1 (eW r n) 3) = (K4 (aWn r n) 3 4 11 12) :=
 (by kernel_rfl : D151 r n aYj x0 (K1 (eW r n) 3) = D151 r n aDg (xs x0 0 (K1 (eW r n) 3)) (K1 (eW r n) 3)).trans
 ((cZz r n).trans (by kernel_rfl))
theorem bUk : D151 r n aJi x0 r151 = D151 r n xL x0 (K1 (eW r n) 3) :=
 congrArg (fun k => D151 r n xL x0 k) (cZy r n)
theorem bUu : D151 r n xL x0 (K1 (eW r n) 3) = D151 r n cDv x0 (K4 (aWn r n) 3 4 11 12) :=
 congrArg (fun k => D151 r n cDv x0 k) (cWc r n)
theorem dDn : D151 r n aJi x0 r151 = (K3 (aWa r n) 1 3 4) :=
 (bUk r n).trans
 ((bUu r n).trans
 ((by kernel_rfl)))
theorem bOc : D151 r n aMs x0 r151 = D151 r n bGx x0 (K3 (aWa r n) 1 3 4) :=
 congrArg (fun k => D151 r n bGx x0 k) (dDn r n)
theorem dCx : D151 r n aMs x0 r151 = (K2 (yR r n) 1 3) :=
 (bOc r n).trans
 ((by kernel_rfl))
theorem cEd : D151 r n aGc x0 r151 = D151 r n aIn x0 (K2 (yR r n) 1 3) :=
 congrArg (fun k => D151 r n aIn x0 k) (dCx r n)
theorem cNj (q0 : gV) : D151 r n aIn x0 (K2 q0 1 3) = fun (env : aZ) (h : Hp) =>
 bnd (aA (env 1) h) fun v1 h1 =>
 bnd (bJ v1 h1) fun v2 h2 =>
 bnd (cJ 1 8 [(aF 0)] v2 v2 h2) fun v3 h3 =>
  q0 (env 1) v3 h3 := by kernel_rfl
theorem bLr : (fun (env : aZ) (h : Hp) =>
 bnd (aA (env 1) h) fun v1 h1 =>
 bnd (bJ v1 h1) fun v2 h2 =>
 bnd (cJ 1 8 [(aF 0)] v2 v2 h2) fun v3 h3 =>
  yR r n (env 1) v3 h3) = (K1 (rR r n) 1) := by kernel_rfl
theorem cVk : D151 r n aGc x0 r151 = (K1 (rR r n) 1) :=
 (cEd r n).trans
 ((cNj r n (yR r n)).trans (bLr r n))
theorem dLr : D151 r n c151 x0 r151 = D151 r n aDd x0 (K1 (rR r n) 1) :=
 congrArg (fun k => D151 r n aDd x0 k) (cVk r n)
theorem dMk (q0 : TT1) : D151 r n aDd x0 (K1 q0 1) = fun (env : aZ) (h : Hp) =>
 bnd (bQ (env 0) h) fun v1 h1 =>
  q0 v1 h1 := by kernel_rfl
theorem cXa : (fun (env : aZ) (h : Hp) =>
 bnd (bQ (env 0) h) fun v1 h1 =>
  rR r n v1 h1) = (K1 (s151 r n) 0) := by kernel_rfl
theorem eAa : D151 r n c151 x0 r151 = (K1 (s151 r n) 0) :=
 (dLr r n).trans
 ((dMk r n (rR r n)).trans (cXa r n))
theorem dTi : aG CF r n 151 args h = s151 r n (aR args 0) h :=
 (by kernel_rfl : aG CF r n 151 args h = D151 r n c151 x0 r151 (aI args) h).trans ((congrFun (congrFun (eAa r n) (aI args)) h).trans (by kernel_rfl))
noncomputable def bI (r : RT) (n : Nat) (h0 : Hp) : aH :=
 some ((.b true), h0)
noncomputable def cH (r : RT) (n : Nat) (kk4 : bK) (x0 x1 x11 x12 x13 : DV) (h0 : Hp) : aH :=
 bnd (aD .add x13 (aF 1) h0) fun v1 h1 =>
  kk4 x0 x1 x11 x12 v1 h1
noncomputable def gA (r : RT) (n : Nat) (kk4 : bK) (x0 x1 x5 x6 x11 x12 x13 : DV) (h0 : Hp) : aH :=
 bnd (aL 3 x6 h0) fun v1 h1 =>
 bnd (r 193 [v1] h1) fun v2 h2 =>
 bnd (aD .geq v2 (aF 0) h2) fun v3 h3 =>
 bnd (gD v3 true (some (v2, h3)) h3) fun v4 h4 =>
 bnd (gD v3 true (some (x0, h4)) h4) fun v5 h5 =>
 bnd (gD v3 true (bJ v5 h5) h5) fun v6 h6 =>
 bnd (gD v3 true (aD .geq v4 v6 h6) h6) fun v7 h7 =>
 bnd (gD v3 true (some (v7, h7)) h7) fun v8 h8 =>
 bnd (gD v8 false (some (x1, h8)) h8) fun v9 h9 =>
 bnd (gD v8 false (some (v2, h9)) h9) fun v10 h10 =>
 bnd (gD v8 false (aC 1 v9 v10 h10) h10) fun v11 h11 =>
 bnd (gD v8 false (aA v11 h11) h11) fun v12 h12 =>
 bnd (gD v8 false (some (x1, h12)) h12) fun v13 h13 =>
 bnd (gD v8 false (some (x5, h13)) h13) fun v14 h14 =>
 bnd (gD v8 false (aC 1 v13 v14 h14) h14) fun v15 h15 =>
 bnd (gD v8 false (aA v15 h15) h15) fun v16 h16 =>
 bnd (gD v8 false (aD .neq v12 v16 h16) h16) fun v17 h17 =>
 bnd (gD v3 true (aN v8 (.b true) v17 h17) h17) fun v18 h18 =>
 bnd (aN v3 v18 (.b false) h18) fun v19 h19 =>
 aU v19 (
 some ((.b false), h19)) (
  cH r n kk4 x0 x1 x11 x12 x13 h19)
noncomputable def uQ (r : RT) (n : Nat) (kk4 : bK) (x0 x1 x5 x6 x7 x8 x9 x11 x12 x13 : DV) (h0 : Hp) : aH :=
 bnd (gP .not x8 h0) fun v1 h1 =>
 bnd (gD v1 false (some (x7, h1)) h1) fun v2 h2 =>
 bnd (gD v1 false (some (x9, h2)) h2) fun v3 h3 =>
 bnd (gD v1 false (aD .gtr v2 v3 h3) h3) fun v4 h4 =>
 bnd (aN v1 (.b true) v4 h4) fun v5 h5 =>
 aU v5 (
 some ((.b false), h5)) (
  gA r n kk4 x0 x1 x5 x6 x11 x12 x13 h5)
noncomputable def aJo (r : RT) (n : Nat) (kk4 : bK) (x0 x1 x5 x6 x7 x8 x9 x11 x12 x13 : DV) (h0 : Hp) : aH :=
 bnd (aC 1 x1 x5 h0) fun v1 h1 =>
 bnd (aA v1 h1) fun v2 h2 =>
 bnd (aD .geq v2 (aF 0) h2) fun v3 h3 =>
 aU v3 (
 bnd (aC 1 x1 x5 h3) fun v4 h4 =>
 bnd (aA v4 h4) fun v5 h5 =>
 bnd (r 192 [x0, v5] h5) fun v6 h6 =>
 bnd (aE 0 v6 h6) fun v7 h7 =>
 bnd (aE 1 v6 h7) fun v8 h8 =>
  uQ r n kk4 x0 x1 x5 x6 x7 x8 v7 x11 x12 x13 h8) (
  uQ r n kk4 x0 x1 x5 x6 x7 x8 x9 x11 x12 x13 h3)
noncomputable def aFs (r : RT) (n : Nat) (kk4 : bK) (x0 x1 x5 x6 x7 x8 x11 x12 x13 : DV) (h0 : Hp) : aH :=
 bnd (bJ x0 h0) fun v1 h1 =>
  aJo r n kk4 x0 x1 x5 x6 x7 x8 v1 x11 x12 x13 h1
noncomputable def bDo (r : RT) (n : Nat) (kk4 : bK) (x0 x1 x5 x6 x11 x12 x13 : DV) (h0 : Hp) : aH :=
 bnd (r 192 [x0, x5] h0) fun v1 h1 =>
 bnd (aE 0 v1 h1) fun v2 h2 =>
 bnd (aE 1 v1 h2) fun v3 h3 =>
  aFs r n kk4 x0 x1 x5 x6 v2 v3 x11 x12 x13 h3
noncomputable def aKp (r : RT) (n : Nat) (kk4 : bK) (x0 x1 x5 x6 x11 x12 x13 x20 : DV) (h0 : Hp) : aH :=
 aU x20 (
  bDo r n kk4 x0 x1 x5 x6 x11 x12 x13 h0) (
  gA r n kk4 x0 x1 x5 x6 x11 x12 x13 h0)
noncomputable def yA (r : RT) (n : Nat) (kk4 : bK) (x0 x1 x5 x6 x11 x12 x13 : DV) (h0 : Hp) : aH :=
 bnd (aB 0 x6 h0) fun v1 h1 =>
 bnd (aA v1 h1) fun v2 h2 =>
 bnd (aD .eql v2 (aF 18) h2) fun v3 h3 =>
  aKp r n kk4 x0 x1 x5 x6 x11 x12 x13 v3 h3
noncomputable def aDj (r : RT) (n : Nat) (kk4 : bK) (x0 x1 x11 x12 x13 : DV) (h0 : Hp) : aH :=
 bnd (aC 3 x11 x13 h0) fun v1 h1 =>
 bnd (aL 3 v1 h1) fun v2 h2 =>
 bnd (bS [(aF 0), (aF 0), (aF 0)] h2) fun v3 h3 =>
 bnd (aJ 3 v3 v2 h3) fun _ h4 =>
  yA r n kk4 x0 x1 x13 v3 x11 x12 x13 h4
noncomputable def aYf (r : RT) (n : Nat) (kk4 : bK) (x0 x1 x11 x12 x13 x14 : DV) (h0 : Hp) : aH :=
 aU x14 (
  aDj r n kk4 x0 x1 x11 x12 x13 h0) (
  bI r n h0)
noncomputable def bHd (r : RT) (n : Nat) (kk4 : bK) (x0 x1 x11 x12 x13 : DV) (h0 : Hp) : aH :=
 bnd (aD .lss x13 x12 h0) fun v1 h1 =>
  aYf r n kk4 x0 x1 x11 x12 x13 v1 h1
noncomputable def vG (r : RT) (n : Nat) (m : Nat) : bK :=
 Nat.rec (motive := fun _ => bK) (fun _ _ _ _ _ _ => none) (fun _ ih => bHd r n ih) m
noncomputable def bUh (r : RT) (n : Nat) : bK := vG r n n
noncomputable def aTr (r : RT) (n : Nat) (x0 x1 x11 x12 x13 : DV) (h0 : Hp) : aH :=
 bUh r n x0 x1 x11 x12 x13 h0
noncomputable def aYx (r : RT) (n : Nat) (x0 x1 : DV) (h0 : Hp) : aH :=
 bnd (bJ x0 h0) fun v1 h1 =>
  aTr r n x0 x1 x0 v1 (aF 0) h1
noncomputable def s152 (r : RT) (n : Nat) (x0 x1 : DV) (h0 : Hp) : aH :=
 aYx r n x0 x1 h0
noncomputable abbrev c152 : Code := cf Tryz.f152
noncomputable abbrev aEz : Code := cR c152
noncomputable abbrev dPh : Code := cR aEz
noncomputable abbrev yZ : Code := cL aEz
noncomputable abbrev aYd : Code := cR yZ
noncomputable abbrev aJr : Code := cL aYd
noncomputable abbrev kO : Code := cL aJr
noncomputable abbrev aLr : Code := cR kO
noncomputable abbrev aJp : Code := cR aLr
noncomputable abbrev dHh : Code := cR aJp
noncomputable abbrev uZ : Code := cL aJp
noncomputable abbrev uX : Code := cL uZ
noncomputable abbrev tT : Code := cR uX
noncomputable abbrev dBw : Code := cR tT
noncomputable abbrev pZ : Code := cL tT
noncomputable abbrev qW : Code := cR pZ
noncomputable abbrev qT : Code := cL qW
noncomputable abbrev uR : Code := cR qT
noncomputable abbrev uW : Code := cR uR
noncomputable abbrev cSa : Code := cR uW
noncomputable abbrev bHa : Code := cL uW
noncomputable abbrev bHw : Code := cL uR
noncomputable abbrev bFk : Code := cL qT
noncomputable abbrev cWn : Code := cR qW
noncomputable abbrev bIm : Code := cL pZ
noncomputable abbrev aGr : Code := cL uX
noncomputable abbrev aZu : Code := cL aLr
noncomputable abbrev bBd : Code := cL kO
noncomputable abbrev bGk : Code := cL yZ
noncomputable abbrev aZq : Code := cL c152
noncomputable abbrev r152 : K := aQ CF Tryz.f152
noncomputable def D152 (r : RT) (n : Nat) (c : Code) (X : Nat → K) (k : K) : K := aP CF r 72 n c X r152 k
theorem cWs : D152 r n dPh x0 r152 = (K0 (bI r n)) :=
 (by kernel_rfl)
theorem dBk (kk4 : bK) : D152 r n dHh (xs x0 0 (K0 (bI r n))) (K5 kk4 0 1 11 12 13) = (K5 (cH r n kk4) 0 1 11 12 13) :=
 (by kernel_rfl)
theorem dAc (kk4 : bK) : D152 r n dBw (xs (xs x0 0 (K0 (bI r n))) 1 (K5 (cH r n kk4) 0 1 11 12 13)) (K5 (cH r n kk4) 0 1 11 12 13) = (K7 (gA r n kk4) 0 1 5 6 11 12 13) :=
 (by kernel_rfl)
theorem cNq (kk4 : bK) : D152 r n cSa (xs (xs x0 0 (K0 (bI r n))) 1 (K5 (cH r n kk4) 0 1 11 12 13)) (K7 (gA r n kk4) 0 1 5 6 11 12 13) = (K10 (uQ r n kk4) 0 1 5 6 7 8 9 11 12 13) :=
 (by kernel_rfl)
theorem bNh (kk4 : bK) : D152 r n uW (xs (xs x0 0 (K0 (bI r n))) 1 (K5 (cH r n kk4) 0 1 11 12 13)) (K7 (gA r n kk4) 0 1 5 6 11 12 13) = D152 r n bHa (xs (xs x0 0 (K0 (bI r n))) 1 (K5 (cH r n kk4) 0 1 11 12 13)) (K10 (uQ r n kk4) 0 1 5 6 7 8 9 11 12 13) :=
 congrArg (fun k => D152 r n bHa (xs (xs x0 0 (K0 (bI r n))) 1 (K5 (cH r n kk4) 0 1 11 12 13)) k) (cNq r n kk4)
theorem cIq (kk4 : bK) : D152 r n uW (xs (xs x0 0 (K0 (bI r n))) 1 (K5 (cH r n kk4) 0 1 11 12 13)) (K7 (gA r n kk4) 0 1 5 6 11 12 13) = (K10 (aJo r n kk4) 0 1 5 6 7 8 9 11 12 13) :=
 (bNh r n kk4).trans
 ((by kernel_rfl))
theorem bJk (kk4 : bK) : D152 r n uR (xs (xs x0 0 (K0 (bI r n))) 1 (K5 (cH r n kk4) 0 1 11 12 13)) (K7 (gA r n kk4) 0 1 5 6 11 12 13) = D152 r n bHw (xs (xs x0 0 (K0 (bI r n))) 1 (K5 (cH r n kk4) 0 1 11 12 13)) (K10 (aJo r n kk4) 0 1 5 6 7 8 9 11 12 13) :=
 congrArg (fun k => D152 r n bHw (xs (xs x0 0 (K0 (bI r n))) 1 (K5 (cH r n kk4) 0 1 11 12 13)) k) (cIq r n kk4)
theorem cCl (kk4 : bK) : D152 r n uR (xs (xs x0 0 (K0 (bI r n))) 1 (K5 (cH r n kk4) 0 1 11 12 13)) (K7 (gA r n kk4) 0 1 5 6 11 12 13) = (K9 (aFs r n kk4) 0 1 5 6 7 8 11 12 13) :=
 (bJk r n kk4).trans
 ((by kernel_rfl))
theorem bNk (kk4 : bK) : D152 r n qT (xs (xs x0 0 (K0 (bI r n))) 1 (K5 (cH r n kk4) 0 1 11 12 13)) (K7 (gA r n kk4) 0 1 5 6 11 12 13) = D152 r n bFk (xs (xs x0 0 (K0 (bI r n))) 1 (K5 (cH r n kk4) 0 1 11 12 13)) (K9 (aFs r n kk4) 0 1 5 6 7 8 11 12 13) :=
 congrArg (fun k => D152 r n bFk (xs (xs x0 0 (K0 (bI r n))) 1 (K5 (cH r n kk4) 0 1 11 12 13)) k) (cCl r n kk4)
theorem cKf (kk4 : bK) : D152 r n qT (xs (xs x0 0 (K0 (bI r n))) 1 (K5 (cH r n kk4) 0 1 11 12 13)) (K7 (gA r n kk4) 0 1 5 6 11 12 13) = (K7 (bDo r n kk4) 0 1 5 6 11 12 13) :=
 (bNk r n kk4).trans
 ((by kernel_rfl))
theorem bXr (kk4 : bK) : D152 r n qW (xs (xs x0 0 (K0 (bI r n))) 1 (K5 (cH r n kk4) 0 1 11 12 13)) (K7 (gA r n kk4) 0 1 5 6 11 12 13) = (K8 (aKp r n kk4) 0 1 5 6 11 12 13 20) :=
 (by kernel_rfl : D152 r n qW (xs (xs x0 0 (K0 (bI r n))) 1 (K5 (cH r n kk4) 0 1 11 12 13)) (K7 (gA r n kk4) 0 1 5 6 11 12 13) = (fun (env : aZ) (h : Hp) => aU (opr env (cC qW)) (D152 r n qT (xs (xs x0 0 (K0 (bI r n))) 1 (K5 (cH r n kk4) 0 1 11 12 13)) (K7 (gA r n kk4) 0 1 5 6 11 12 13) env h) (D152 r n cWn (xs (xs x0 0 (K0 (bI r n))) 1 (K5 (cH r n kk4) 0 1 11 12 13)) (K7 (gA r n kk4) 0 1 5 6 11 12 13) env h))).trans (by rw [cKf r n kk4]; kernel_rfl)
theorem bWd (kk4 : bK) : D152 r n tT (xs (xs x0 0 (K0 (bI r n))) 1 (K5 (cH r n kk4) 0 1 11 12 13)) (K5 (cH r n kk4) 0 1 11 12 13) = D152 r n pZ (xs (xs x0 0 (K0 (bI r n))) 1 (K5 (cH r n kk4) 0 1 11 12 13)) (K7 (gA r n kk4) 0 1 5 6 11 12 13) :=
 congrArg (fun k => D152 r n pZ (xs (xs x0 0 (K0 (bI r n))) 1 (K5 (cH r n kk4) 0 1 11 12 13)) k) (dAc r n kk4)
theorem bXl (kk4 : bK) : D152 r n pZ (xs (xs x0 0 (K0 (bI r n))) 1 (K5 (cH r n kk4) 0 1 11 12 13)) (K7 (gA r n kk4) 0 1 5 6 11 12 13) = D152 r n bIm (xs (xs x0 0 (K0 (bI r n))) 1 (K5 (cH r n kk4) 0 1 11 12 13)) (K8 (aKp r n kk4) 0 1 5 6 11 12 13 20) :=
 congrArg (fun k => D152 r n bIm (xs (xs x0 0 (K0 (bI r n))) 1 (K5 (cH r n kk4) 0 1 11 12 13)) k) (bXr r n kk4)
theorem dCi (kk4 : bK) : D152 r n tT (xs (xs x0 0 (K0 (bI r n))) 1 (K5 (cH r n kk4) 0 1 11 12 13)) (K5 (cH r n kk4) 0 1 11 12 13) = (K7 (yA r n kk4) 0 1 5 6 11 12 13) :=
 (bWd r n kk4).trans
 ((bXl r n kk4).trans
 ((by kernel_rfl)))
theorem bSi (kk4 : bK) : D152 r n aJp (xs x0 0 (K0 (bI r n))) (K5 kk4 0 1 11 12 13) = D152 r n uZ (xs x0 0 (K0 (bI r n))) (K5 (cH r n kk4) 0 1 11 12 13) :=
 congrArg (fun k => D152 r n uZ (xs x0 0 (K0 (bI r n))) k) (dBk r n kk4)
theorem cAd (kk4 : bK) : D152 r n uX (xs (xs x0 0 (K0 (bI r n))) 1 (K5 (cH r n kk4) 0 1 11 12 13)) (K5 (cH r n kk4) 0 1 11 12 13) = D152 r n aGr (xs (xs x0 0 (K0 (bI r n))) 1 (K5 (cH r n kk4) 0 1 11 12 13)) (K7 (yA r n kk4) 0 1 5 6 11 12 13) :=
 congrArg (fun k => D152 r n aGr (xs (xs x0 0 (K0 (bI r n))) 1 (K5 (cH r n kk4) 0 1 11 12 13)) k) (dCi r n kk4)
theorem cBx (kk4 : bK) (q0 : TT7) (q1 : Hp → aH) (q2 : bK) : D152 r n aGr (xs (xs x0 0 (K0 q1)) 1 (K5 q2 0 1 11 12 13)) (K7 q0 0 1 5 6 11 12 13) = fun (env : aZ) (h : Hp) =>
 bnd (aC 3 (env 11) (env 13) h) fun v1 h1 =>
 bnd (aL 3 v1 h1) fun v2 h2 =>
 bnd (bS [(aF 0), (aF 0), (aF 0)] h2) fun v3 h3 =>
 bnd (aJ 3 v3 v2 h3) fun _ h4 =>
  q0 (env 0) (env 1) (env 13) v3 (env 11) (env 12) (env 13) h4 := by kernel_rfl
theorem bLf (kk4 : bK) : (fun (env : aZ) (h : Hp) =>
 bnd (aC 3 (env 11) (env 13) h) fun v1 h1 =>
 bnd (aL 3 v1 h1) fun v2 h2 =>
 bnd (bS [(aF 0), (aF 0), (aF 0)] h2) fun v3 h3 =>
 bnd (aJ 3 v3 v2 h3) fun _ h4 =>
  yA r n kk4 (env 0) (env 1) (env 13) v3 (env 11) (env 12) (env 13) h4) = (K5 (aDj r n kk4) 0 1 11 12 13) := by kernel_rfl
theorem cZa (kk4 : bK) : D152 r n aJp (xs x0 0 (K0 (bI r n))) (K5 kk4 0 1 11 12 13) = (K5 (aDj r n kk4) 0 1 11 12 13) :=
 (bSi r n kk4).trans
 ((by kernel_rfl : D152 r n uZ (xs x0 0 (K0 (bI r n))) (K5 (cH r n kk4) 0 1 11 12 13) = D152 r n uX (xs (xs x0 0 (K0 (bI r n))) 1 (K5 (cH r n kk4) 0 1 11 12 13)) (K5 (cH r n kk4) 0 1 11 12 13)).trans
 ((cAd r n kk4).trans
 ((cBx r n kk4 (yA r n kk4) (bI r n) (cH r n kk4)).trans (bLf r n kk4))))
theorem cLq (kk4 : bK) : D152 r n aLr (xs x0 0 (K0 (bI r n))) (K5 kk4 0 1 11 12 13) = D152 r n aZu (xs x0 0 (K0 (bI r n))) (K5 (aDj r n kk4) 0 1 11 12 13) :=
 congrArg (fun k => D152 r n aZu (xs x0 0 (K0 (bI r n))) k) (cZa r n kk4)
theorem cXi (kk4 : bK) : D152 r n aLr (xs x0 0 (K0 (bI r n))) (K5 kk4 0 1 11 12 13) = (K6 (aYf r n kk4) 0 1 11 12 13 14) :=
 (cLq r n kk4).trans
 ((by kernel_rfl))
theorem bMh (kk4 : bK) : D152 r n kO (xs x0 0 (K0 (bI r n))) (K5 kk4 0 1 11 12 13) = D152 r n bBd (xs x0 0 (K0 (bI r n))) (K6 (aYf r n kk4) 0 1 11 12 13 14) :=
 congrArg (fun k => D152 r n bBd (xs x0 0 (K0 (bI r n))) k) (cXi r n kk4)
theorem bUt (kk4 : bK) : D152 r n kO (xs x0 0 (K0 (bI r n))) (K5 kk4 0 1 11 12 13) = (K5 (bHd r n kk4) 0 1 11 12 13) :=
 (bMh r n kk4).trans
 ((by kernel_rfl))
theorem cDi (m : Nat) : aK (fun kk => D152 r n kO (xs x0 0 (K0 (bI r n))) kk) m = (K5 (vG r n m) 0 1 11 12 13) := by
 induction m with
 | zero => exact (by kernel_rfl : aK (fun kk => D152 r n kO (xs x0 0 (K0 (bI r n))) kk) 0 = (K5 (vG r n 0) 0 1 11 12 13))
 | succ m ih =>
  refine (by kernel_rfl : aK (fun kk => D152 r n kO (xs x0 0 (K0 (bI r n))) kk) (m + 1) = D152 r n kO (xs x0 0 (K0 (bI r n))) (aK (fun kk => D152 r n kO (xs x0 0 (K0 (bI r n))) kk) m)).trans ?_
  rw [ih]
  exact (bUt r n (vG r n m)).trans (by kernel_rfl)
theorem dEd : D152 r n aJr (xs x0 0 (K0 (bI r n))) (K0 (bI r n)) = (K5 (bUh r n) 0 1 11 12 13) :=
 (by kernel_rfl : D152 r n aJr (xs x0 0 (K0 (bI r n))) (K0 (bI r n)) = aK (fun kk => D152 r n kO (xs x0 0 (K0 (bI r n))) kk) n).trans ((cDi r n n).trans (by kernel_rfl))
theorem cVw : D152 r n aYd x0 (K0 (bI r n)) = (K5 (aTr r n) 0 1 11 12 13) :=
 (by kernel_rfl : D152 r n aYd x0 (K0 (bI r n)) = D152 r n aJr (xs x0 0 (K0 (bI r n))) (K0 (bI r n))).trans
 ((dEd r n).trans (by kernel_rfl))
theorem bJg : D152 r n aEz x0 r152 = D152 r n yZ x0 (K0 (bI r n)) :=
 congrArg (fun k => D152 r n yZ x0 k) (cWs r n)
theorem bLl : D152 r n yZ x0 (K0 (bI r n)) = D152 r n bGk x0 (K5 (aTr r n) 0 1 11 12 13) :=
 congrArg (fun k => D152 r n bGk x0 k) (cVw r n)
theorem dEi : D152 r n aEz x0 r152 = (K2 (aYx r n) 0 1) :=
 (bJg r n).trans
 ((bLl r n).trans
 ((by kernel_rfl)))
theorem cVl : D152 r n c152 x0 r152 = D152 r n aZq x0 (K2 (aYx r n) 0 1) :=
 congrArg (fun k => D152 r n aZq x0 k) (dEi r n)
theorem eAi : D152 r n c152 x0 r152 = (K2 (s152 r n) 0 1) :=
 (cVl r n).trans
 ((by kernel_rfl))
theorem dIr : aG CF r n 152 args h = s152 r n (aR args 0) (aR args 1) h :=
 (by kernel_rfl : aG CF r n 152 args h = D152 r n c152 x0 r152 (aI args) h).trans ((congrFun (congrFun (eAi r n) (aI args)) h).trans (by kernel_rfl))
noncomputable def bW (r : RT) (n : Nat) (x6 x9 : DV) (h0 : Hp) : aH :=
 bnd (aA x6 h0) fun v1 h1 =>
 bnd (aA x9 h1) fun v2 h2 =>
 some (.t [v1, v2], h2)
noncomputable def vP (r : RT) (n : Nat) (kk9 : gX) (x2 x3 x6 x7 x9 x10 x11 x14 : DV) (h0 : Hp) : aH :=
 bnd (aD .add x11 (aF 1) h0) fun v1 h1 =>
 bnd (aA x3 h1) fun v2 h2 =>
 bnd (aC 1 v2 x11 h2) fun v3 h3 =>
 bnd (aA v3 h3) fun v4 h4 =>
 bnd (jX CF r x10 [v1, v4, x14] h4) fun v5 h5 =>
  kk9 x2 x3 x6 x7 x9 x10 h5
noncomputable def aLq (r : RT) (n : Nat) (kk9 : gX) (x2 x3 x6 x7 x9 x10 x11 x12 x13 x14 : DV) (h0 : Hp) : aH :=
 bnd (aB 0 x12 h0) fun v1 h1 =>
 bnd (aA v1 h1) fun v2 h2 =>
 bnd (aD .eql v2 (aF 19) h2) fun v3 h3 =>
 aU v3 (
 bnd (aD .neq x13 (aF 1) h3) fun v4 h4 =>
 bnd (gD v4 false (aA x3 h4) h4) fun v5 h5 =>
 bnd (gD v4 false (some (x11, h5)) h5) fun v6 h6 =>
 bnd (gD v4 false (aC 1 v5 v6 h6) h6) fun v7 h7 =>
 bnd (gD v4 false (aA v7 h7) h7) fun v8 h8 =>
 bnd (gD v4 false (aD .lss v8 (aF 0) h8) h8) fun v9 h9 =>
 bnd (aN v4 (.b true) v9 h9) fun v10 h10 =>
 aU v10 (
 some (.t [.l0, (.b false)], h10)) (
   kk9 x2 x3 x6 x7 x9 x10 h10)) (
 bnd (aD .eql v2 (aF 20) h3) fun v11 h11 =>
 aU v11 (
   kk9 x2 x3 x6 x7 x9 x10 h11) (
 bnd (aD .eql v2 (aF 16) h11) fun v12 h12 =>
 aU v12 (
 bnd (aL 3 x12 h12) fun v13 h13 =>
 bnd (r 193 [v13] h13) fun v14 h14 =>
 bnd (aA x3 h14) fun v15 h15 =>
 cnd (bR (aA x3 h12) v15 && true) (
 bnd (aC 1 v15 x11 h15) fun v16 h16 =>
 bnd (aA v16 h16) fun v17 h17 =>
 cnd (bR (aA v16 h12) v17 && true) (
 bnd (jX CF r x10 [v14, v17, x14] h17) fun v18 h18 =>
    kk9 x2 x3 x6 x7 x9 x10 h18))) (
 bnd (aD .eql v2 (aF 17) h12) fun v19 h19 =>
 aU v19 (
 bnd (aL 3 x12 h19) fun v20 h20 =>
 bnd (r 193 [v20] h20) fun v21 h21 =>
 bnd (aA x3 h21) fun v22 h22 =>
 cnd (bR (aA x3 h19) v22 && true) (
 bnd (aC 1 v22 x11 h22) fun v23 h23 =>
 bnd (aA v23 h23) fun v24 h24 =>
 cnd (bR (aA v23 h19) v24 && true) (
 bnd (jX CF r x10 [v21, v24, x14] h24) fun v25 h25 =>
     vP r n kk9 x2 x3 x6 x7 x9 x10 x11 x14 h25))) (
     vP r n kk9 x2 x3 x6 x7 x9 x10 x11 x14 h19))))
noncomputable def aDu (r : RT) (n : Nat) (kk9 : gX) (x2 x3 x6 x7 x9 x10 x11 x12 x13 x14 : DV) (h0 : Hp) : aH :=
 bnd (aL 3 x12 h0) fun v1 h1 =>
 bnd (r 196 [v1] h1) fun v2 h2 =>
 bnd (aD .lss x13 v2 h2) fun v3 h3 =>
 bnd (gD v3 false (some (x14, h3)) h3) fun v4 h4 =>
 bnd (gD v3 false (aD .gtr v4 (aF 24) h4) h4) fun v5 h5 =>
 bnd (aN v3 (.b true) v5 h5) fun v6 h6 =>
 aU v6 (
 some (.t [.l0, (.b false)], h6)) (
  aLq r n kk9 x2 x3 x6 x7 x9 x10 x11 x12 x13 x14 h6)
noncomputable def aLx (r : RT) (n : Nat) (kk9 : gX) (x2 x3 x6 x7 x9 x10 x11 x12 x13 : DV) (h0 : Hp) : aH :=
 bnd (aL 3 x12 h0) fun v1 h1 =>
 bnd (r 195 [v1] h1) fun v2 h2 =>
 bnd (aD .add x13 v2 h2) fun v3 h3 =>
  aDu r n kk9 x2 x3 x6 x7 x9 x10 x11 x12 x13 v3 h3
noncomputable def aGf (r : RT) (n : Nat) (kk9 : gX) (x2 x3 x6 x7 x9 x10 x11 : DV) (h0 : Hp) : aH :=
 bnd (aA x2 (resv 1 h0)) fun v1 h1 =>
 bnd (aC 3 v1 x11 h1) fun v2 h2 =>
 bnd (aL 3 v2 h2) fun v3 h3 =>
 bnd (aA x6 h3) fun v4 h4 =>
 bnd (aC 1 v4 x11 h4) fun v5 h5 =>
 bnd (aA v5 h5) fun v6 h6 =>
 bnd (iQ (bN 0 h0.next) [(aF 0), (aF 0), (aF 0)] h6) fun v7 h7 =>
 bnd (aJ 3 v7 v3 h7) fun v8 h8 =>
 cnd (bR (aA v5 h8) v6 && (bR (aA x6 h8) v4 && true)) (
  aLx r n kk9 x2 x3 x6 x7 x9 x10 x11 v7 v6 h8)
noncomputable def aEq (r : RT) (n : Nat) (kk9 : gX) (x2 x3 x6 x7 x9 x10 x11 : DV) (h0 : Hp) : aH :=
 bnd (aA x7 h0) fun v1 h1 =>
 bnd (aA x7 h1) fun v2 h2 =>
 bnd (bJ v2 h2) fun v3 h3 =>
 bnd (aD .sub v3 (aF 1) h3) fun v4 h4 =>
 bnd (cT 1 v1 none (some v4) h4) fun v5 h5 =>
 bnd (aJ 1 x7 v5 h5) fun _ h6 =>
  aGf r n kk9 x2 x3 x6 x7 x9 x10 x11 h6
noncomputable def aDo (r : RT) (n : Nat) (kk9 : gX) (x2 x3 x6 x7 x9 x10 : DV) (h0 : Hp) : aH :=
 bnd (aA x7 h0) fun v1 h1 =>
 bnd (aA x7 h1) fun v2 h2 =>
 bnd (bJ v2 h2) fun v3 h3 =>
 bnd (aD .sub v3 (aF 1) h3) fun v4 h4 =>
 bnd (aC 1 v1 v4 h4) fun v5 h5 =>
 bnd (aA v5 h5) fun v6 h6 =>
  aEq r n kk9 x2 x3 x6 x7 x9 x10 v6 h6
noncomputable def bCu (r : RT) (n : Nat) (kk9 : gX) (x2 x3 x6 x7 x9 x10 : DV) (h0 : Hp) : aH :=
 bnd (aA x7 h0) fun v1 h1 =>
 bnd (bJ v1 h1) fun v2 h2 =>
 bnd (aD .gtr v2 (aF 0) h2) fun v3 h3 =>
 bnd (gD v3 true (aA x9 h3) h3) fun v4 h4 =>
 bnd (aN v3 v4 (.b false) h4) fun v5 h5 =>
 aU v5 (
   aDo r n kk9 x2 x3 x6 x7 x9 x10 h5) (
   bW r n x6 x9 h5)
noncomputable def tY (r : RT) (n : Nat) (m : Nat) : gX :=
 Nat.rec (motive := fun _ => gX) (fun _ _ _ _ _ _ _ => none) (fun _ ih => bCu r n ih) m
noncomputable def cEm (r : RT) (n : Nat) : gX := tY r n n
noncomputable def aUn (r : RT) (n : Nat) (x2 x3 x6 x7 x9 x10 : DV) (h0 : Hp) : aH :=
 cEm r n x2 x3 x6 x7 x9 x10 h0
noncomputable def aWq (r : RT) (n : Nat) (x2 x3 x6 x7 x9 x10 : DV) (h0 : Hp) : aH :=
 aUn r n x2 x3 x6 x7 x9 x10 h0
noncomputable def aAm (r : RT) (n : Nat) (x2 x3 x6 x7 x9 : DV) (h0 : Hp) : aH :=
 aWq r n x2 x3 x6 x7 x9 (.f 194 [] [x2, x3, x6, x9, x7]) h0
noncomputable def cS (r : RT) (n : Nat) (x2 x3 x6 x7 : DV) (h0 : Hp) : aH :=
 bnd (bS [(.b false)] h0) fun v1 h1 =>
 bnd (aJ 1 v1 (.b true) h1) fun _ h2 =>
  aAm r n x2 x3 x6 x7 v1 h2
noncomputable def lR (r : RT) (n : Nat) (kk18 : gX) (x2 x3 x6 x7 x19 x20 : DV) (h0 : Hp) : aH :=
 bnd (aD .add x20 (aF 1) h0) fun v1 h1 =>
  kk18 x2 x3 x6 x7 x19 v1 h1
noncomputable def uY (r : RT) (n : Nat) (kk18 : gX) (x2 x3 x6 x7 x19 x20 : DV) (h0 : Hp) : aH :=
 bnd (aA x6 h0) fun v1 h1 =>
 bnd (aC 1 v1 x20 h1) fun v2 h2 =>
 bnd (aJ 1 v2 (.i .i64 (Int.negSucc 0)) h2) fun _ h3 =>
 bnd (aD .eql x20 (aF 0) h3) fun v4 h4 =>
 bnd (gD v4 false (some (x20, h4)) h4) fun v5 h5 =>
 bnd (gD v4 false (aD .gtr v5 (aF 1) h5) h5) fun v6 h6 =>
 bnd (gD v4 false (some (v6, h6)) h6) fun v7 h7 =>
 bnd (gD v7 true (aA x2 h7) h7) fun v8 h8 =>
 bnd (gD v7 true (some (x20, h8)) h8) fun v9 h9 =>
 bnd (gD v7 true (aD .sub v9 (aF 2) h9) h9) fun v10 h10 =>
 bnd (gD v7 true (aC 3 v8 v10 h10) h10) fun v11 h11 =>
 bnd (gD v7 true (aB 0 v11 h11) h11) fun v12 h12 =>
 bnd (gD v7 true (aA v12 h12) h12) fun v13 h13 =>
 bnd (gD v7 true (aD .eql v13 (aF 18) h13) h13) fun v14 h14 =>
 bnd (gD v4 false (aN v7 v14 (.b false) h14) h14) fun v15 h15 =>
 bnd (gD v4 false (some (v15, h15)) h15) fun v16 h16 =>
 bnd (gD v16 true (aA x3 h16) h16) fun v17 h17 =>
 bnd (gD v16 true (some (x20, h17)) h17) fun v18 h18 =>
 bnd (gD v16 true (aC 1 v17 v18 h18) h18) fun v19 h19 =>
 bnd (gD v16 true (aA v19 h19) h19) fun v20 h20 =>
 bnd (gD v16 true (some (x20, h20)) h20) fun v21 h21 =>
 bnd (gD v16 true (aD .sub v21 (aF 2) h21) h21) fun v22 h22 =>
 bnd (gD v16 true (aD .eql v20 v22 h22) h22) fun v23 h23 =>
 bnd (gD v4 false (aN v16 v23 (.b false) h23) h23) fun v24 h24 =>
 bnd (aN v4 (.b true) v24 h24) fun v25 h25 =>
 aU v25 (
 bnd (aA x6 h25) fun v26 h26 =>
 bnd (aC 1 v26 x20 h26) fun v27 h27 =>
 bnd (aJ 1 v27 (aF 0) h27) fun _ h28 =>
 bnd (aA x7 h28) fun v29 h29 =>
 bnd (aO [(aF 0)] 1 [(0, 1, x20)] h29) fun v30 h30 =>
 bnd (aW 1 8 v29 v30 h30) fun v31 h31 =>
 bnd (aJ 1 x7 v31 h31) fun _ h32 =>
  lR r n kk18 x2 x3 x6 x7 x19 x20 h32) (
  lR r n kk18 x2 x3 x6 x7 x19 x20 h25)
noncomputable def aDe (r : RT) (n : Nat) (kk18 : gX) (x2 x3 x6 x7 x19 x20 x21 : DV) (h0 : Hp) : aH :=
 aU x21 (
  uY r n kk18 x2 x3 x6 x7 x19 x20 h0) (
  cS r n x2 x3 x6 x7 h0)
noncomputable def aOp (r : RT) (n : Nat) (kk18 : gX) (x2 x3 x6 x7 x19 x20 : DV) (h0 : Hp) : aH :=
 bnd (aD .lss x20 x19 h0) fun v1 h1 =>
  aDe r n kk18 x2 x3 x6 x7 x19 x20 v1 h1
noncomputable def qG (r : RT) (n : Nat) (m : Nat) : gX :=
 Nat.rec (motive := fun _ => gX) (fun _ _ _ _ _ _ _ => none) (fun _ ih => aOp r n ih) m
noncomputable def bBj (r : RT) (n : Nat) : gX := qG r n n
noncomputable def aKb (r : RT) (n : Nat) (x2 x3 x6 x7 x19 x20 : DV) (h0 : Hp) : aH :=
 bBj r n x2 x3 x6 x7 x19 x20 h0
noncomputable def aAo (r : RT) (n : Nat) (x2 x3 x6 x7 : DV) (h0 : Hp) : aH :=
 bnd (aA x6 h0) fun v1 h1 =>
 bnd (bJ v1 h1) fun v2 h2 =>
  aKb r n x2 x3 x6 x7 v2 (aF 0) h2
noncomputable def sB (r : RT) (n : Nat) (x2 x3 x6 : DV) (h0 : Hp) : aH :=
 bnd (bS [.l0] h0) fun v1 h1 =>
  aAo r n x2 x3 x6 v1 h1
noncomputable def sH (r : RT) (n : Nat) (x2 x3 : DV) (h0 : Hp) : aH :=
 bnd (aA x2 h0) fun v1 h1 =>
 bnd (bJ v1 h1) fun v2 h2 =>
 bnd (cJ 1 8 [(aF 0)] v2 v2 h2) fun v3 h3 =>
 bnd (bS [.l0] h3) fun v4 h4 =>
 bnd (aJ 1 v4 v3 h4) fun _ h5 =>
  sB r n x2 x3 v4 h5
noncomputable def s153 (r : RT) (n : Nat) (x0 x1 : DV) (h0 : Hp) : aH :=
 bnd (bQ x0 h0) fun v1 h1 =>
 bnd (bQ x1 h1) fun v2 h2 =>
  sH r n v1 v2 h2
noncomputable abbrev c153 : Code := cf Tryz.f153
noncomputable abbrev aSg : Code := cR c153
noncomputable abbrev aFw : Code := cL aSg
noncomputable abbrev aEa : Code := cR aFw
noncomputable abbrev aEn : Code := cR aEa
noncomputable abbrev aIb : Code := cR aEn
noncomputable abbrev aFt : Code := cR aIb
noncomputable abbrev aMg : Code := cR aFt
noncomputable abbrev aJb : Code := cR aMg
noncomputable abbrev dIf : Code := cR aJb
noncomputable abbrev vM : Code := cL aJb
noncomputable abbrev uU : Code := cL vM
noncomputable abbrev iT : Code := cL uU
noncomputable abbrev aCh : Code := cR iT
noncomputable abbrev uH : Code := cL aCh
noncomputable abbrev uA : Code := cR uH
noncomputable abbrev wP : Code := cR uA
noncomputable abbrev wD : Code := cR wP
noncomputable abbrev wH : Code := cR wD
noncomputable abbrev uL : Code := cR wH
noncomputable abbrev dCv : Code := cR uL
noncomputable abbrev bHx : Code := cL uL
noncomputable abbrev bAi : Code := cL wH
noncomputable abbrev bCw : Code := cL wD
noncomputable abbrev bBp : Code := cL wP
noncomputable abbrev bGh : Code := cL uA
noncomputable abbrev bFe : Code := cL uH
noncomputable abbrev bFj : Code := cL iT
noncomputable abbrev bHe : Code := cL aMg
noncomputable abbrev bDh : Code := cL aFt
noncomputable abbrev aCn : Code := cL aIb
noncomputable abbrev rE : Code := cL aEn
noncomputable abbrev aNm : Code := cR rE
noncomputable abbrev vJ : Code := cL aNm
noncomputable abbrev iS : Code := cL vJ
noncomputable abbrev vU : Code := cR iS
noncomputable abbrev wB : Code := cR vU
noncomputable abbrev cRm : Code := cR wB
noncomputable abbrev aDc : Code := cL wB
noncomputable abbrev aZn : Code := cL vU
noncomputable abbrev bGe : Code := cL iS
noncomputable abbrev aZs : Code := cL rE
noncomputable abbrev aDp : Code := cL aEa
noncomputable abbrev aFr : Code := cL aFw
noncomputable abbrev aKl : Code := cL c153
noncomputable abbrev r153 : K := aQ CF Tryz.f153
noncomputable def D153 (r : RT) (n : Nat) (c : Code) (X : Nat → K) (k : K) : K := aP CF r 144 n c X r153 k
theorem cUw : D153 r n dIf x0 r153 = (K2 (bW r n) 6 9) :=
 (by kernel_rfl)
theorem cJk (kk9 : gX) : D153 r n dCv (xs (xs x0 2 (K2 (bW r n) 6 9)) 3 (K6 kk9 2 3 6 7 9 10)) (K6 kk9 2 3 6 7 9 10) = (K8 (vP r n kk9) 2 3 6 7 9 10 11 14) :=
 (by kernel_rfl)
theorem bNd (kk9 : gX) : D153 r n uL (xs (xs x0 2 (K2 (bW r n) 6 9)) 3 (K6 kk9 2 3 6 7 9 10)) (K6 kk9 2 3 6 7 9 10) = D153 r n bHx (xs (xs x0 2 (K2 (bW r n) 6 9)) 3 (K6 kk9 2 3 6 7 9 10)) (K8 (vP r n kk9) 2 3 6 7 9 10 11 14) :=
 congrArg (fun k => D153 r n bHx (xs (xs x0 2 (K2 (bW r n) 6 9)) 3 (K6 kk9 2 3 6 7 9 10)) k) (cJk r n kk9)
theorem bYv (kk9 : gX) : D153 r n uL (xs (xs x0 2 (K2 (bW r n) 6 9)) 3 (K6 kk9 2 3 6 7 9 10)) (K6 kk9 2 3 6 7 9 10) = (K10 (aLq r n kk9) 2 3 6 7 9 10 11 12 13 14) :=
 (bNd r n kk9).trans
 ((by kernel_rfl))
theorem bIr (kk9 : gX) : D153 r n wH (xs (xs x0 2 (K2 (bW r n) 6 9)) 3 (K6 kk9 2 3 6 7 9 10)) (K6 kk9 2 3 6 7 9 10) = D153 r n bAi (xs (xs x0 2 (K2 (bW r n) 6 9)) 3 (K6 kk9 2 3 6 7 9 10)) (K10 (aLq r n kk9) 2 3 6 7 9 10 11 12 13 14) :=
 congrArg (fun k => D153 r n bAi (xs (xs x0 2 (K2 (bW r n) 6 9)) 3 (K6 kk9 2 3 6 7 9 10)) k) (bYv r n kk9)
theorem cAh (kk9 : gX) : D153 r n wH (xs (xs x0 2 (K2 (bW r n) 6 9)) 3 (K6 kk9 2 3 6 7 9 10)) (K6 kk9 2 3 6 7 9 10) = (K10 (aDu r n kk9) 2 3 6 7 9 10 11 12 13 14) :=
 (bIr r n kk9).trans
 ((by kernel_rfl))
theorem bJt (kk9 : gX) : D153 r n wD (xs (xs x0 2 (K2 (bW r n) 6 9)) 3 (K6 kk9 2 3 6 7 9 10)) (K6 kk9 2 3 6 7 9 10) = D153 r n bCw (xs (xs x0 2 (K2 (bW r n) 6 9)) 3 (K6 kk9 2 3 6 7 9 10)) (K10 (aDu r n kk9) 2 3 6 7 9 10 11 12 13 14) :=
 congrArg (fun k => D153 r n bCw (xs (xs x0 2 (K2 (bW r n) 6 9)) 3 (K6 kk9 2 3 6 7 9 10)) k) (cAh r n kk9)
theorem bVw (kk9 : gX) : D153 r n wD (xs (xs x0 2 (K2 (bW r n) 6 9)) 3 (K6 kk9 2 3 6 7 9 10)) (K6 kk9 2 3 6 7 9 10) = (K9 (aLx r n kk9) 2 3 6 7 9 10 11 12 13) :=
 (bJt r n kk9).trans
 ((by kernel_rfl))
theorem bNl (kk9 : gX) : D153 r n wP (xs (xs x0 2 (K2 (bW r n) 6 9)) 3 (K6 kk9 2 3 6 7 9 10)) (K6 kk9 2 3 6 7 9 10) = D153 r n bBp (xs (xs x0 2 (K2 (bW r n) 6 9)) 3 (K6 kk9 2 3 6 7 9 10)) (K9 (aLx r n kk9) 2 3 6 7 9 10 11 12 13) :=
 congrArg (fun k => D153 r n bBp (xs (xs x0 2 (K2 (bW r n) 6 9)) 3 (K6 kk9 2 3 6 7 9 10)) k) (bVw r n kk9)
theorem cBg (kk9 : gX) : D153 r n wP (xs (xs x0 2 (K2 (bW r n) 6 9)) 3 (K6 kk9 2 3 6 7 9 10)) (K6 kk9 2 3 6 7 9 10) = (K7 (aGf r n kk9) 2 3 6 7 9 10 11) :=
 (bNl r n kk9).trans
 ((by kernel_rfl))
theorem bMp (kk9 : gX) : D153 r n uA (xs (xs x0 2 (K2 (bW r n) 6 9)) 3 (K6 kk9 2 3 6 7 9 10)) (K6 kk9 2 3 6 7 9 10) = D153 r n bGh (xs (xs x0 2 (K2 (bW r n) 6 9)) 3 (K6 kk9 2 3 6 7 9 10)) (K7 (aGf r n kk9) 2 3 6 7 9 10 11) :=
 congrArg (fun k => D153 r n bGh (xs (xs x0 2 (K2 (bW r n) 6 9)) 3 (K6 kk9 2 3 6 7 9 10)) k) (cBg r n kk9)
theorem cHt (kk9 : gX) : D153 r n uA (xs (xs x0 2 (K2 (bW r n) 6 9)) 3 (K6 kk9 2 3 6 7 9 10)) (K6 kk9 2 3 6 7 9 10) = (K7 (aEq r n kk9) 2 3 6 7 9 10 11) :=
 (bMp r n kk9).trans
 ((by kernel_rfl))
theorem bKe (kk9 : gX) : D153 r n uH (xs (xs x0 2 (K2 (bW r n) 6 9)) 3 (K6 kk9 2 3 6 7 9 10)) (K6 kk9 2 3 6 7 9 10) = D153 r n bFe (xs (xs x0 2 (K2 (bW r n) 6 9)) 3 (K6 kk9 2 3 6 7 9 10)) (K7 (aEq r n kk9) 2 3 6 7 9 10 11) :=
 congrArg (fun k => D153 r n bFe (xs (xs x0 2 (K2 (bW r n) 6 9)) 3 (K6 kk9 2 3 6 7 9 10)) k) (cHt r n kk9)
theorem cAv (kk9 : gX) : D153 r n aCh (xs x0 2 (K2 (bW r n) 6 9)) (K6 kk9 2 3 6 7 9 10) = (K6 (aDo r n kk9) 2 3 6 7 9 10) :=
 (by kernel_rfl : D153 r n aCh (xs x0 2 (K2 (bW r n) 6 9)) (K6 kk9 2 3 6 7 9 10) = D153 r n uH (xs (xs x0 2 (K2 (bW r n) 6 9)) 3 (K6 kk9 2 3 6 7 9 10)) (K6 kk9 2 3 6 7 9 10)).trans
 ((bKe r n kk9).trans
 ((by kernel_rfl)))
theorem bOo (kk9 : gX) : D153 r n iT (xs x0 2 (K2 (bW r n) 6 9)) (K6 kk9 2 3 6 7 9 10) = D153 r n bFj (xs x0 2 (K2 (bW r n) 6 9)) (K6 (aDo r n kk9) 2 3 6 7 9 10) :=
 congrArg (fun k => D153 r n bFj (xs x0 2 (K2 (bW r n) 6 9)) k) (cAv r n kk9)
theorem bTk (kk9 : gX) : D153 r n iT (xs x0 2 (K2 (bW r n) 6 9)) (K6 kk9 2 3 6 7 9 10) = (K6 (bCu r n kk9) 2 3 6 7 9 10) :=
 (bOo r n kk9).trans
 ((by kernel_rfl))
theorem cAo (m : Nat) : aK (fun kk => D153 r n iT (xs x0 2 (K2 (bW r n) 6 9)) kk) m = (K6 (tY r n m) 2 3 6 7 9 10) := by
 induction m with
 | zero => exact (by kernel_rfl : aK (fun kk => D153 r n iT (xs x0 2 (K2 (bW r n) 6 9)) kk) 0 = (K6 (tY r n 0) 2 3 6 7 9 10))
 | succ m ih =>
  refine (by kernel_rfl : aK (fun kk => D153 r n iT (xs x0 2 (K2 (bW r n) 6 9)) kk) (m + 1) = D153 r n iT (xs x0 2 (K2 (bW r n) 6 9)) (aK (fun kk => D153 r n iT (xs x0 2 (K2 (bW r n) 6 9)) kk) m)).trans ?_
  rw [ih]
  exact (bTk r n (tY r n m)).trans (by kernel_rfl)
theorem dBz : D153 r n uU (xs x0 2 (K2 (bW r n) 6 9)) (K2 (bW r n) 6 9) = (K6 (cEm r n) 2 3 6 7 9 10) :=
 (by kernel_rfl : D153 r n uU (xs x0 2 (K2 (bW r n) 6 9)) (K2 (bW r n) 6 9) = aK (fun kk => D153 r n iT (xs x0 2 (K2 (bW r n) 6 9)) kk) n).trans ((cAo r n n).trans (by kernel_rfl))
theorem cAj : D153 r n aJb x0 r153 = D153 r n vM x0 (K2 (bW r n) 6 9) :=
 congrArg (fun k => D153 r n vM x0 k) (cUw r n)
theorem cTh : D153 r n aJb x0 r153 = (K6 (aUn r n) 2 3 6 7 9 10) :=
 (cAj r n).trans
 ((by kernel_rfl : D153 r n vM x0 (K2 (bW r n) 6 9) = D153 r n uU (xs x0 2 (K2 (bW r n) 6 9)) (K2 (bW r n) 6 9)).trans
 ((dBz r n).trans (by kernel_rfl)))
theorem cLc : D153 r n aMg x0 r153 = D153 r n bHe x0 (K6 (aUn r n) 2 3 6 7 9 10) :=
 congrArg (fun k => D153 r n bHe x0 k) (cTh r n)
theorem cOv : D153 r n aMg x0 r153 = (K6 (aWq r n) 2 3 6 7 9 10) :=
 (cLc r n).trans
 ((by kernel_rfl))
theorem bJf : D153 r n aFt x0 r153 = D153 r n bDh x0 (K6 (aWq r n) 2 3 6 7 9 10) :=
 congrArg (fun k => D153 r n bDh x0 k) (cOv r n)
theorem cRg : D153 r n aFt x0 r153 = (K5 (aAm r n) 2 3 6 7 9) :=
 (bJf r n).trans
 ((by kernel_rfl))
theorem bKj : D153 r n aIb x0 r153 = D153 r n aCn x0 (K5 (aAm r n) 2 3 6 7 9) :=
 congrArg (fun k => D153 r n aCn x0 k) (cRg r n)
theorem bLh (q0 : bK) : D153 r n aCn x0 (K5 q0 2 3 6 7 9) = fun (env : aZ) (h : Hp) =>
 bnd (bS [(.b false)] h) fun v1 h1 =>
 bnd (aJ 1 v1 (.b true) h1) fun _ h2 =>
  q0 (env 2) (env 3) (env 6) (env 7) v1 h2 := by kernel_rfl
theorem aUv : (fun (env : aZ) (h : Hp) =>
 bnd (bS [(.b false)] h) fun v1 h1 =>
 bnd (aJ 1 v1 (.b true) h1) fun _ h2 =>
  aAm r n (env 2) (env 3) (env 6) (env 7) v1 h2) = (K4 (cS r n) 2 3 6 7) := by kernel_rfl
theorem cQq : D153 r n aIb x0 r153 = (K4 (cS r n) 2 3 6 7) :=
 (bKj r n).trans
 ((bLh r n (aAm r n)).trans (aUv r n))
theorem cGx (kk18 : gX) : D153 r n cRm (xs x0 0 (K4 (cS r n) 2 3 6 7)) (K6 kk18 2 3 6 7 19 20) = (K6 (lR r n kk18) 2 3 6 7 19 20) :=
 (by kernel_rfl)
theorem aYw (kk18 : gX) : D153 r n wB (xs x0 0 (K4 (cS r n) 2 3 6 7)) (K6 kk18 2 3 6 7 19 20) = D153 r n aDc (xs x0 0 (K4 (cS r n) 2 3 6 7)) (K6 (lR r n kk18) 2 3 6 7 19 20) :=
 congrArg (fun k => D153 r n aDc (xs x0 0 (K4 (cS r n) 2 3 6 7)) k) (cGx r n kk18)
theorem aSn (kk18 : gX) (q0 : gX) (q1 : bT) : D153 r n aDc (xs x0 0 (K4 q1 2 3 6 7)) (K6 q0 2 3 6 7 19 20) = fun (env : aZ) (h : Hp) =>
 bnd (aA (env 6) h) fun v1 h1 =>
 bnd (aC 1 v1 (env 20) h1) fun v2 h2 =>
 bnd (aJ 1 v2 (.i .i64 (Int.negSucc 0)) h2) fun _ h3 =>
 bnd (aD .eql (env 20) (aF 0) h3) fun v4 h4 =>
 bnd (gD v4 false (some ((env 20), h4)) h4) fun v5 h5 =>
 bnd (gD v4 false (aD .gtr v5 (aF 1) h5) h5) fun v6 h6 =>
 bnd (gD v4 false (some (v6, h6)) h6) fun v7 h7 =>
 bnd (gD v7 true (aA (env 2) h7) h7) fun v8 h8 =>
 bnd (gD v7 true (some ((env 20), h8)) h8) fun v9 h9 =>
 bnd (gD v7 true (aD .sub v9 (aF 2) h9) h9) fun v10 h10 =>
 bnd (gD v7 true (aC 3 v8 v10 h10) h10) fun v11 h11 =>
 bnd (gD v7 true (aB 0 v11 h11) h11) fun v12 h12 =>
 bnd (gD v7 true (aA v12 h12) h12) fun v13 h13 =>
 bnd (gD v7 true (aD .eql v13 (aF 18) h13) h13) fun v14 h14 =>
 bnd (gD v4 false (aN v7 v14 (.b false) h14) h14) fun v15 h15 =>
 bnd (gD v4 false (some (v15, h15)) h15) fun v16 h16 =>
 bnd (gD v16 true (aA (env 3) h16) h16) fun v17 h17 =>
 bnd (gD v16 true (some ((env 20), h17)) h17) fun v18 h18 =>
 bnd (gD v16 true (aC 1 v17 v18 h18) h18) fun v19 h19 =>
 bnd (gD v16 true (aA v19 h19) h19) fun v20 h20 =>
 bnd (gD v16 true (some ((env 20), h20)) h20) fun v21 h21 =>
 bnd (gD v16 true (aD .sub v21 (aF 2) h21) h21) fun v22 h22 =>
 bnd (gD v16 true (aD .eql v20 v22 h22) h22) fun v23 h23 =>
 bnd (gD v4 false (aN v16 v23 (.b false) h23) h23) fun v24 h24 =>
 bnd (aN v4 (.b true) v24 h24) fun v25 h25 =>
 aU v25 (
 bnd (aA (env 6) h25) fun v26 h26 =>
 bnd (aC 1 v26 (env 20) h26) fun v27 h27 =>
 bnd (aJ 1 v27 (aF 0) h27) fun _ h28 =>
 bnd (aA (env 7) h28) fun v29 h29 =>
 bnd (aO [(aF 0)] 1 [(0, 1, (env 20))] h29) fun v30 h30 =>
 bnd (aW 1 8 v29 v30 h30) fun v31 h31 =>
 bnd (aJ 1 (env 7) v31 h31) fun _ h32 =>
      q0 (env 2) (env 3) (env 6) (env 7) (env 19) (env 20) h32) (
      q0 (env 2) (env 3) (env 6) (env 7) (env 19) (env 20) h25) := by kernel_rfl
theorem aOs (kk18 : gX) : (fun (env : aZ) (h : Hp) =>
 bnd (aA (env 6) h) fun v1 h1 =>
 bnd (aC 1 v1 (env 20) h1) fun v2 h2 =>
 bnd (aJ 1 v2 (.i .i64 (Int.negSucc 0)) h2) fun _ h3 =>
 bnd (aD .eql (env 20) (aF 0) h3) fun v4 h4 =>
 bnd (gD v4 false (some ((env 20), h4)) h4) fun v5 h5 =>
 bnd (gD v4 false (aD .gtr v5 (aF 1) h5) h5) fun v6 h6 =>
 bnd (gD v4 false (some (v6, h6)) h6) fun v7 h7 =>
 bnd (gD v7 true (aA (env 2) h7) h7) fun v8 h8 =>
 bnd (gD v7 true (some ((env 20), h8)) h8) fun v9 h9 =>
 bnd (gD v7 true (aD .sub v9 (aF 2) h9) h9) fun v10 h10 =>
 bnd (gD v7 true (aC 3 v8 v10 h10) h10) fun v11 h11 =>
 bnd (gD v7 true (aB 0 v11 h11) h11) fun v12 h12 =>
 bnd (gD v7 true (aA v12 h12) h12) fun v13 h13 =>
 bnd (gD v7 true (aD .eql v13 (aF 18) h13) h13) fun v14 h14 =>
 bnd (gD v4 false (aN v7 v14 (.b false) h14) h14) fun v15 h15 =>
 bnd (gD v4 false (some (v15, h15)) h15) fun v16 h16 =>
 bnd (gD v16 true (aA (env 3) h16) h16) fun v17 h17 =>
 bnd (gD v16 true (some ((env 20), h17)) h17) fun v18 h18 =>
 bnd (gD v16 true (aC 1 v17 v18 h18) h18) fun v19 h19 =>
 bnd (gD v16 true (aA v19 h19) h19) fun v20 h20 =>
 bnd (gD v16 true (some ((env 20), h20)) h20) fun v21 h21 =>
 bnd (gD v16 true (aD .sub v21 (aF 2) h21) h21) fun v22 h22 =>
 bnd (gD v16 true (aD .eql v20 v22 h22) h22) fun v23 h23 =>
 bnd (gD v4 false (aN v16 v23 (.b false) h23) h23) fun v24 h24 =>
 bnd (aN v4 (.b true) v24 h24) fun v25 h25 =>
 aU v25 (
 bnd (aA (env 6) h25) fun v26 h26 =>
 bnd (aC 1 v26 (env 20) h26) fun v27 h27 =>
 bnd (aJ 1 v27 (aF 0) h27) fun _ h28 =>
 bnd (aA (env 7) h28) fun v29 h29 =>
 bnd (aO [(aF 0)] 1 [(0, 1, (env 20))] h29) fun v30 h30 =>
 bnd (aW 1 8 v29 v30 h30) fun v31 h31 =>
 bnd (aJ 1 (env 7) v31 h31) fun _ h32 =>
      lR r n kk18 (env 2) (env 3) (env 6) (env 7) (env 19) (env 20) h32) (
      lR r n kk18 (env 2) (env 3) (env 6) (env 7) (env 19) (env 20) h25)) = (K6 (uY r n kk18) 2 3 6 7 19 20) := by kernel_rfl
theorem cIw (kk18 : gX) : D153 r n wB (xs x0 0 (K4 (cS r n) 2 3 6 7)) (K6 kk18 2 3 6 7 19 20) = (K6 (uY r n kk18) 2 3 6 7 19 20) :=
 (aYw r n kk18).trans
 ((aSn r n kk18 (lR r n kk18) (cS r n)).trans (aOs r n kk18))
theorem aRg (kk18 : gX) : D153 r n vU (xs x0 0 (K4 (cS r n) 2 3 6 7)) (K6 kk18 2 3 6 7 19 20) = D153 r n aZn (xs x0 0 (K4 (cS r n) 2 3 6 7)) (K6 (uY r n kk18) 2 3 6 7 19 20) :=
 congrArg (fun k => D153 r n aZn (xs x0 0 (K4 (cS r n) 2 3 6 7)) k) (cIw r n kk18)
theorem bOa (kk18 : gX) : D153 r n vU (xs x0 0 (K4 (cS r n) 2 3 6 7)) (K6 kk18 2 3 6 7 19 20) = (K7 (aDe r n kk18) 2 3 6 7 19 20 21) :=
 (aRg r n kk18).trans
 ((by kernel_rfl))
theorem aWc (kk18 : gX) : D153 r n iS (xs x0 0 (K4 (cS r n) 2 3 6 7)) (K6 kk18 2 3 6 7 19 20) = D153 r n bGe (xs x0 0 (K4 (cS r n) 2 3 6 7)) (K7 (aDe r n kk18) 2 3 6 7 19 20 21) :=
 congrArg (fun k => D153 r n bGe (xs x0 0 (K4 (cS r n) 2 3 6 7)) k) (bOa r n kk18)
theorem bMx (kk18 : gX) : D153 r n iS (xs x0 0 (K4 (cS r n) 2 3 6 7)) (K6 kk18 2 3 6 7 19 20) = (K6 (aOp r n kk18) 2 3 6 7 19 20) :=
 (aWc r n kk18).trans
 ((by kernel_rfl))
theorem bKh (m : Nat) : aK (fun kk => D153 r n iS (xs x0 0 (K4 (cS r n) 2 3 6 7)) kk) m = (K6 (qG r n m) 2 3 6 7 19 20) := by
 induction m with
 | zero => exact (by kernel_rfl : aK (fun kk => D153 r n iS (xs x0 0 (K4 (cS r n) 2 3 6 7)) kk) 0 = (K6 (qG r n 0) 2 3 6 7 19 20))
 | succ m ih =>
  refine (by kernel_rfl : aK (fun kk => D153 r n iS (xs x0 0 (K4 (cS r n) 2 3 6 7)) kk) (m + 1) = D153 r n iS (xs x0 0 (K4 (cS r n) 2 3 6 7)) (aK (fun kk => D153 r n iS (xs x0 0 (K4 (cS r n) 2 3 6 7)) kk) m)).trans ?_
  rw [ih]
  exact (bMx r n (qG r n m)).trans (by kernel_rfl)
theorem cAk : D153 r n vJ (xs x0 0 (K4 (cS r n) 2 3 6 7)) (K4 (cS r n) 2 3 6 7) = (K6 (bBj r n) 2 3 6 7 19 20) :=
 (by kernel_rfl : D153 r n vJ (xs x0 0 (K4 (cS r n) 2 3 6 7)) (K4 (cS r n) 2 3 6 7) = aK (fun kk => D153 r n iS (xs x0 0 (K4 (cS r n) 2 3 6 7)) kk) n).trans ((bKh r n n).trans (by kernel_rfl))
theorem bQa : D153 r n aNm x0 (K4 (cS r n) 2 3 6 7) = (K6 (aKb r n) 2 3 6 7 19 20) :=
 (by kernel_rfl : D153 r n aNm x0 (K4 (cS r n) 2 3 6 7) = D153 r n vJ (xs x0 0 (K4 (cS r n) 2 3 6 7)) (K4 (cS r n) 2 3 6 7)).trans
 ((cAk r n).trans (by kernel_rfl))
theorem bKu : D153 r n aEn x0 r153 = D153 r n rE x0 (K4 (cS r n) 2 3 6 7) :=
 congrArg (fun k => D153 r n rE x0 k) (cQq r n)
theorem bJd : D153 r n rE x0 (K4 (cS r n) 2 3 6 7) = D153 r n aZs x0 (K6 (aKb r n) 2 3 6 7 19 20) :=
 congrArg (fun k => D153 r n aZs x0 k) (bQa r n)
theorem cUe : D153 r n aEn x0 r153 = (K4 (aAo r n) 2 3 6 7) :=
 (bKu r n).trans
 ((bJd r n).trans
 ((by kernel_rfl)))
theorem bMt : D153 r n aEa x0 r153 = D153 r n aDp x0 (K4 (aAo r n) 2 3 6 7) :=
 congrArg (fun k => D153 r n aDp x0 k) (cUe r n)
theorem bMw (q0 : bT) : D153 r n aDp x0 (K4 q0 2 3 6 7) = fun (env : aZ) (h : Hp) =>
 bnd (bS [.l0] h) fun v1 h1 =>
  q0 (env 2) (env 3) (env 6) v1 h1 := by kernel_rfl
theorem aVq : (fun (env : aZ) (h : Hp) =>
 bnd (bS [.l0] h) fun v1 h1 =>
  aAo r n (env 2) (env 3) (env 6) v1 h1) = (K3 (sB r n) 2 3 6) := by kernel_rfl
theorem cPq : D153 r n aEa x0 r153 = (K3 (sB r n) 2 3 6) :=
 (bMt r n).trans
 ((bMw r n (aAo r n)).trans (aVq r n))
theorem bJl : D153 r n aFw x0 r153 = D153 r n aFr x0 (K3 (sB r n) 2 3 6) :=
 congrArg (fun k => D153 r n aFr x0 k) (cPq r n)
theorem bLy (q0 : bZ) : D153 r n aFr x0 (K3 q0 2 3 6) = fun (env : aZ) (h : Hp) =>
 bnd (aA (env 2) h) fun v1 h1 =>
 bnd (bJ v1 h1) fun v2 h2 =>
 bnd (cJ 1 8 [(aF 0)] v2 v2 h2) fun v3 h3 =>
 bnd (bS [.l0] h3) fun v4 h4 =>
 bnd (aJ 1 v4 v3 h4) fun _ h5 =>
  q0 (env 2) (env 3) v4 h5 := by kernel_rfl
theorem aUq : (fun (env : aZ) (h : Hp) =>
 bnd (aA (env 2) h) fun v1 h1 =>
 bnd (bJ v1 h1) fun v2 h2 =>
 bnd (cJ 1 8 [(aF 0)] v2 v2 h2) fun v3 h3 =>
 bnd (bS [.l0] h3) fun v4 h4 =>
 bnd (aJ 1 v4 v3 h4) fun _ h5 =>
  sB r n (env 2) (env 3) v4 h5) = (K2 (sH r n) 2 3) := by kernel_rfl
theorem cQd : D153 r n aSg x0 r153 = (K2 (sH r n) 2 3) :=
 (by kernel_rfl : D153 r n aSg x0 r153 = D153 r n aFw x0 r153).trans
 ((bJl r n).trans
 ((bLy r n (sB r n)).trans (aUq r n)))
theorem cXf : D153 r n c153 x0 r153 = D153 r n aKl x0 (K2 (sH r n) 2 3) :=
 congrArg (fun k => D153 r n aKl x0 k) (cQd r n)
theorem cUn (q0 : gV) : D153 r n aKl x0 (K2 q0 2 3) = fun (env : aZ) (h : Hp) =>
 bnd (bQ (env 0) h) fun v1 h1 =>
 bnd (bQ (env 1) h1) fun v2 h2 =>
  q0 v1 v2 h2 := by kernel_rfl
theorem bTg : (fun (env : aZ) (h : Hp) =>
 bnd (bQ (env 0) h) fun v1 h1 =>
 bnd (bQ (env 1) h1) fun v2 h2 =>
  sH r n v1 v2 h2) = (K2 (s153 r n) 0 1) := by kernel_rfl
theorem dXh : D153 r n c153 x0 r153 = (K2 (s153 r n) 0 1) :=
 (cXf r n).trans
 ((cUn r n (sH r n)).trans (bTg r n))
theorem dIx : aG CF r n 153 args h = s153 r n (aR args 0) (aR args 1) h :=
 (by kernel_rfl : aG CF r n 153 args h = D153 r n c153 x0 r153 (aI args) h).trans ((congrFun (congrFun (dXh r n) (aI args)) h).trans (by kernel_rfl))
end Go.Dd

namespace Go.Dd
open Go.Proofs
variable (r : RT) (n : Nat) (args : List DV) (h : Hp)
noncomputable def fD (r : RT) (n : Nat) (x0 x6 : DV) (h0 : Hp) : aH :=
 bnd (dI x0 h0) fun v1 h1 =>
 bnd (bL [(aF 0), (.s []), (aF 0), (aF 0)] [(3, 1, v1)] h1) fun v2 h2 =>
 bnd (aO [(aF 0), (.s []), (aF 0), (aF 0)] 1 [(0, 4, v2)] h2) fun v3 h3 =>
 bnd (aW 4 40 x6 v3 h3) fun v4 h4 =>
 some (.t [v4, (aF 0), (aF 0)], h4)
noncomputable def aGy (r : RT) (n : Nat) (kk7 : bZ) (x0 x5 x6 : DV) (h0 : Hp) : aH :=
 bnd (r 198 [(.s [9, 10, 13, 32])] h0) fun v1 h1 =>
 bnd (dI x0 h1) fun v2 h2 =>
 bnd (r 197 [x5, v1, v2] h2) fun v3 h3 =>
 bnd (aX x5 h3) fun v4 h4 =>
 bnd (aB 1 v4 h4) fun v5 h5 =>
 bnd (aA v5 h5) fun v6 h6 =>
 bnd (dI x0 h6) fun v7 h7 =>
 bnd (aD .geq v6 v7 h7) fun v8 h8 =>
 aU v8 (
   fD r n x0 x6 h8) (
 bnd (aX x5 h8) fun v9 h9 =>
 bnd (aB 1 v9 h9) fun v10 h10 =>
 bnd (aA v10 h10) fun v11 h11 =>
 bnd (cQ x0 v11 h11) fun v12 h12 =>
 bnd (aD .eql v12 (.i .u8 (Int.ofNat 34)) h12) fun v13 h13 =>
 aU v13 (
 bnd (aX x5 h13) fun v14 h14 =>
 bnd (aB 1 v14 h14) fun v15 h15 =>
 bnd (aA v15 h15) fun v16 h16 =>
 bnd (aD .add v16 (aF 1) h16) fun v17 h17 =>
 bnd (fW x0 (some v17) none h17) fun v18 h18 =>
 bnd (r 199 [v18, (.i .u8 (Int.ofNat 34))] h18) fun v19 h19 =>
 bnd (aD .lss v19 (aF 0) h19) fun v20 h20 =>
 aU v20 (
 bnd (aX x5 h20) fun v21 h21 =>
 bnd (aB 1 v21 h21) fun v22 h22 =>
 bnd (aA v22 h22) fun v23 h23 =>
 some (.t [.l0, v23, (aF 11)], h23)) (
 bnd (aX x5 h20) fun v24 h24 =>
 bnd (aB 1 v24 h24) fun v25 h25 =>
 bnd (aA v25 h25) fun v26 h26 =>
 bnd (aD .add v19 (aF 2) h26) fun v27 h27 =>
 bnd (aD .add v26 v27 h27) fun v28 h28 =>
 bnd (aX x5 h28) fun v29 h29 =>
 bnd (aB 1 v29 h29) fun v30 h30 =>
 bnd (aJ 1 v30 v28 h30) fun _ h31 =>
     kk7 x0 x5 x6 h31)) (
 bnd (r 200 [x5] h13) fun v32 h32 =>
 bnd (aE 0 v32 h32) fun v33 h33 =>
 bnd (aE 1 v32 h33) fun v34 h34 =>
 bnd (bS [(aF 0), (.s []), (aF 0), (aF 0)] h34) fun v35 h35 =>
 bnd (aJ 4 v35 v33 h35) fun _ h36 =>
 bnd (aD .neq v34 (aF 0) h36) fun v37 h37 =>
 aU v37 (
 bnd (aB 3 v35 h37) fun v38 h38 =>
 bnd (aA v38 h38) fun v39 h39 =>
 some (.t [.l0, v39, v34], h39)) (
 bnd (aL 4 v35 h37) fun v40 h40 =>
 bnd (aO [(aF 0), (.s []), (aF 0), (aF 0)] 1 [(0, 4, v40)] h40) fun v41 h41 =>
 bnd (aW 4 40 x6 v41 h41) fun v42 h42 =>
     kk7 x0 x5 v42 h42)))
noncomputable def vH (r : RT) (n : Nat) (m : Nat) : bZ :=
 Nat.rec (motive := fun _ => bZ) (fun _ _ _ _ => none) (fun _ ih => aGy r n ih) m
noncomputable def cLp (r : RT) (n : Nat) : bZ := vH r n n
noncomputable def aVf (r : RT) (n : Nat) (x0 x5 x6 : DV) (h0 : Hp) : aH :=
 cLp r n x0 x5 x6 h0
noncomputable def aTo (r : RT) (n : Nat) (x0 x5 x6 : DV) (h0 : Hp) : aH :=
 aVf r n x0 x5 x6 h0
noncomputable def zG (r : RT) (n : Nat) (x0 x5 : DV) (h0 : Hp) : aH :=
 aTo r n x0 x5 .l0 h0
noncomputable def aLk (r : RT) (n : Nat) (x0 : DV) (h0 : Hp) : aH :=
 bnd (bL [(.s []), (aF 0)] [(0, 1, x0)] h0) fun v1 h1 =>
 bnd (bQ v1 h1) fun v2 h2 =>
  zG r n x0 v2 h2
noncomputable def aSl (r : RT) (n : Nat) (x0 : DV) (h0 : Hp) : aH :=
 bnd (dI x0 h0) fun v1 h1 =>
 bnd (aD .gtr v1 (aF 2000) h1) fun v2 h2 =>
 aU v2 (
 some (.t [.l0, (aF 0), (aF 12)], h2)) (
  aLk r n x0 h2)
noncomputable def s154 (r : RT) (n : Nat) (x0 : DV) (h0 : Hp) : aH :=
 aSl r n x0 h0
noncomputable abbrev c154 : Code := cf Tryz.f154
noncomputable abbrev aZg : Code := cR c154
noncomputable abbrev aMc : Code := cL aZg
noncomputable abbrev aLo : Code := cR aMc
noncomputable abbrev aEp : Code := cR aLo
noncomputable abbrev aKk : Code := cR aEp
noncomputable abbrev aDq : Code := cR aKk
noncomputable abbrev dLy : Code := cR aDq
noncomputable abbrev aGu : Code := cL aDq
noncomputable abbrev aLu : Code := cL aGu
noncomputable abbrev kG : Code := cL aLu
noncomputable abbrev bFp : Code := cL aKk
noncomputable abbrev bFh : Code := cL aEp
noncomputable abbrev aKw : Code := cL aLo
noncomputable abbrev bBe : Code := cL aMc
noncomputable abbrev bEs : Code := cL c154
noncomputable abbrev r154 : K := aQ CF Tryz.f154
noncomputable def D154 (r : RT) (n : Nat) (c : Code) (X : Nat → K) (k : K) : K := aP CF r 80 n c X r154 k
theorem cSd : D154 r n dLy x0 r154 = (K2 (fD r n) 0 6) :=
 (by kernel_rfl)
theorem bOb (kk7 : bZ) (q0 : gV) : D154 r n kG (xs x0 0 (K2 q0 0 6)) (K3 kk7 0 5 6) = fun (env : aZ) (h : Hp) =>
 bnd (r 198 [(.s [9, 10, 13, 32])] h) fun v1 h1 =>
 bnd (dI (env 0) h1) fun v2 h2 =>
 bnd (r 197 [(env 5), v1, v2] h2) fun v3 h3 =>
 bnd (aX (env 5) h3) fun v4 h4 =>
 bnd (aB 1 v4 h4) fun v5 h5 =>
 bnd (aA v5 h5) fun v6 h6 =>
 bnd (dI (env 0) h6) fun v7 h7 =>
 bnd (aD .geq v6 v7 h7) fun v8 h8 =>
 aU v8 (
   q0 (env 0) (env 6) h8) (
 bnd (aX (env 5) h8) fun v9 h9 =>
 bnd (aB 1 v9 h9) fun v10 h10 =>
 bnd (aA v10 h10) fun v11 h11 =>
 bnd (cQ (env 0) v11 h11) fun v12 h12 =>
 bnd (aD .eql v12 (.i .u8 (Int.ofNat 34)) h12) fun v13 h13 =>
 aU v13 (
 bnd (aX (env 5) h13) fun v14 h14 =>
 bnd (aB 1 v14 h14) fun v15 h15 =>
 bnd (aA v15 h15) fun v16 h16 =>
 bnd (aD .add v16 (aF 1) h16) fun v17 h17 =>
 bnd (fW (env 0) (some v17) none h17) fun v18 h18 =>
 bnd (r 199 [v18, (.i .u8 (Int.ofNat 34))] h18) fun v19 h19 =>
 bnd (aD .lss v19 (aF 0) h19) fun v20 h20 =>
 aU v20 (
 bnd (aX (env 5) h20) fun v21 h21 =>
 bnd (aB 1 v21 h21) fun v22 h22 =>
 bnd (aA v22 h22) fun v23 h23 =>
 some (.t [.l0, v23, (aF 11)], h23)) (
 bnd (aX (env 5) h20) fun v24 h24 =>
 bnd (aB 1 v24 h24) fun v25 h25 =>
 bnd (aA v25 h25) fun v26 h26 =>
 bnd (aD .add v19 (aF 2) h26) fun v27 h27 =>
 bnd (aD .add v26 v27 h27) fun v28 h28 =>
 bnd (aX (env 5) h28) fun v29 h29 =>
 bnd (aB 1 v29 h29) fun v30 h30 =>
 bnd (aJ 1 v30 v28 h30) fun _ h31 =>
     kk7 (env 0) (env 5) (env 6) h31)) (
 bnd (r 200 [(env 5)] h13) fun v32 h32 =>
 bnd (aE 0 v32 h32) fun v33 h33 =>
 bnd (aE 1 v32 h33) fun v34 h34 =>
 bnd (bS [(aF 0), (.s []), (aF 0), (aF 0)] h34) fun v35 h35 =>
 bnd (aJ 4 v35 v33 h35) fun _ h36 =>
 bnd (aD .neq v34 (aF 0) h36) fun v37 h37 =>
 aU v37 (
 bnd (aB 3 v35 h37) fun v38 h38 =>
 bnd (aA v38 h38) fun v39 h39 =>
 some (.t [.l0, v39, v34], h39)) (
 bnd (aL 4 v35 h37) fun v40 h40 =>
 bnd (aO [(aF 0), (.s []), (aF 0), (aF 0)] 1 [(0, 4, v40)] h40) fun v41 h41 =>
 bnd (aW 4 40 (env 6) v41 h41) fun v42 h42 =>
     kk7 (env 0) (env 5) v42 h42))) := by kernel_rfl
theorem bIy (kk7 : bZ) : (fun (env : aZ) (h : Hp) =>
 bnd (r 198 [(.s [9, 10, 13, 32])] h) fun v1 h1 =>
 bnd (dI (env 0) h1) fun v2 h2 =>
 bnd (r 197 [(env 5), v1, v2] h2) fun v3 h3 =>
 bnd (aX (env 5) h3) fun v4 h4 =>
 bnd (aB 1 v4 h4) fun v5 h5 =>
 bnd (aA v5 h5) fun v6 h6 =>
 bnd (dI (env 0) h6) fun v7 h7 =>
 bnd (aD .geq v6 v7 h7) fun v8 h8 =>
 aU v8 (
   fD r n (env 0) (env 6) h8) (
 bnd (aX (env 5) h8) fun v9 h9 =>
 bnd (aB 1 v9 h9) fun v10 h10 =>
 bnd (aA v10 h10) fun v11 h11 =>
 bnd (cQ (env 0) v11 h11) fun v12 h12 =>
 bnd (aD .eql v12 (.i .u8 (Int.ofNat 34)) h12) fun v13 h13 =>
 aU v13 (
 bnd (aX (env 5) h13) fun v14 h14 =>
 bnd (aB 1 v14 h14) fun v15 h15 =>
 bnd (aA v15 h15) fun v16 h16 =>
 bnd (aD .add v16 (aF 1) h16) fun v17 h17 =>
 bnd (fW (env 0) (some v17) none h17) fun v18 h18 =>
 bnd (r 199 [v18, (.i .u8 (Int.ofNat 34))] h18) fun v19 h19 =>
 bnd (aD .lss v19 (aF 0) h19) fun v20 h20 =>
 aU v20 (
 bnd (aX (env 5) h20) fun v21 h21 =>
 bnd (aB 1 v21 h21) fun v22 h22 =>
 bnd (aA v22 h22) fun v23 h23 =>
 some (.t [.l0, v23, (aF 11)], h23)) (
 bnd (aX (env 5) h20) fun v24 h24 =>
 bnd (aB 1 v24 h24) fun v25 h25 =>
 bnd (aA v25 h25) fun v26 h26 =>
 bnd (aD .add v19 (aF 2) h26) fun v27 h27 =>
 bnd (aD .add v26 v27 h27) fun v28 h28 =>
 bnd (aX (env 5) h28) fun v29 h29 =>
 bnd (aB 1 v29 h29) fun v30 h30 =>
 bnd (aJ 1 v30 v28 h30) fun _ h31 =>
     kk7 (env 0) (env 5) (env 6) h31)) (
 bnd (r 200 [(env 5)] h13) fun v32 h32 =>
 bnd (aE 0 v32 h32) fun v33 h33 =>
 bnd (aE 1 v32 h33) fun v34 h34 =>
 bnd (bS [(aF 0), (.s []), (aF 0), (aF 0)] h34) fun v35 h35 =>
 bnd (aJ 4 v35 v33 h35) fun _ h36 =>
 bnd (aD .neq v34 (aF 0) h36) fun v37 h37 =>
 aU v37 (
 bnd (aB 3 v35 h37) fun v38 h38 =>
 bnd (aA v38 h38) fun v39 h39 =>
 some (.t [.l0, v39, v34], h39)) (
 bnd (aL 4 v35 h37) fun v40 h40 =>
 bnd (aO [(aF 0), (.s []), (aF 0), (aF 0)] 1 [(0, 4, v40)] h40) fun v41 h41 =>
 bnd (aW 4 40 (env 6) v41 h41) fun v42 h42 =>
     kk7 (env 0) (env 5) v42 h42)))) = (K3 (aGy r n kk7) 0 5 6) := by kernel_rfl
theorem bQt (kk7 : bZ) : D154 r n kG (xs x0 0 (K2 (fD r n) 0 6)) (K3 kk7 0 5 6) = (K3 (aGy r n kk7) 0 5 6) :=
 (bOb r n kk7 (fD r n)).trans (bIy r n kk7)
theorem bRa (m : Nat) : aK (fun kk => D154 r n kG (xs x0 0 (K2 (fD r n) 0 6)) kk) m = (K3 (vH r n m) 0 5 6) := by
 induction m with
 | zero => exact (by kernel_rfl : aK (fun kk => D154 r n kG (xs x0 0 (K2 (fD r n) 0 6)) kk) 0 = (K3 (vH r n 0) 0 5 6))
 | succ m ih =>
  refine (by kernel_rfl : aK (fun kk => D154 r n kG (xs x0 0 (K2 (fD r n) 0 6)) kk) (m + 1) = D154 r n kG (xs x0 0 (K2 (fD r n) 0 6)) (aK (fun kk => D154 r n kG (xs x0 0 (K2 (fD r n) 0 6)) kk) m)).trans ?_
  rw [ih]
  exact (bQt r n (vH r n m)).trans (by kernel_rfl)
theorem dAj : D154 r n aLu (xs x0 0 (K2 (fD r n) 0 6)) (K2 (fD r n) 0 6) = (K3 (cLp r n) 0 5 6) :=
 (by kernel_rfl : D154 r n aLu (xs x0 0 (K2 (fD r n) 0 6)) (K2 (fD r n) 0 6) = aK (fun kk => D154 r n kG (xs x0 0 (K2 (fD r n) 0 6)) kk) n).trans ((bRa r n n).trans (by kernel_rfl))
theorem bQh : D154 r n aDq x0 r154 = D154 r n aGu x0 (K2 (fD r n) 0 6) :=
 congrArg (fun k => D154 r n aGu x0 k) (cSd r n)
theorem cTu : D154 r n aDq x0 r154 = (K3 (aVf r n) 0 5 6) :=
 (bQh r n).trans
 ((by kernel_rfl : D154 r n aGu x0 (K2 (fD r n) 0 6) = D154 r n aLu (xs x0 0 (K2 (fD r n) 0 6)) (K2 (fD r n) 0 6)).trans
 ((dAj r n).trans (by kernel_rfl)))
theorem bOy : D154 r n aKk x0 r154 = D154 r n bFp x0 (K3 (aVf r n) 0 5 6) :=
 congrArg (fun k => D154 r n bFp x0 k) (cTu r n)
theorem dAh : D154 r n aKk x0 r154 = (K3 (aTo r n) 0 5 6) :=
 (bOy r n).trans
 ((by kernel_rfl))
theorem cJe : D154 r n aEp x0 r154 = D154 r n bFh x0 (K3 (aTo r n) 0 5 6) :=
 congrArg (fun k => D154 r n bFh x0 k) (dAh r n)
theorem cYe : D154 r n aEp x0 r154 = (K2 (zG r n) 0 5) :=
 (cJe r n).trans
 ((by kernel_rfl))
theorem bOt : D154 r n aLo x0 r154 = D154 r n aKw x0 (K2 (zG r n) 0 5) :=
 congrArg (fun k => D154 r n aKw x0 k) (cYe r n)
theorem bUa (q0 : gV) : D154 r n aKw x0 (K2 q0 0 5) = fun (env : aZ) (h : Hp) =>
 bnd (bL [(.s []), (aF 0)] [(0, 1, (env 0))] h) fun v1 h1 =>
 bnd (bQ v1 h1) fun v2 h2 =>
  q0 (env 0) v2 h2 := by kernel_rfl
theorem bLa : (fun (env : aZ) (h : Hp) =>
 bnd (bL [(.s []), (aF 0)] [(0, 1, (env 0))] h) fun v1 h1 =>
 bnd (bQ v1 h1) fun v2 h2 =>
  zG r n (env 0) v2 h2) = (K1 (aLk r n) 0) := by kernel_rfl
theorem dBq : D154 r n aLo x0 r154 = (K1 (aLk r n) 0) :=
 (bOt r n).trans
 ((bUa r n (zG r n)).trans (bLa r n))
theorem bZv : D154 r n aMc x0 r154 = D154 r n bBe x0 (K1 (aLk r n) 0) :=
 congrArg (fun k => D154 r n bBe x0 k) (dBq r n)
theorem dDv : D154 r n aZg x0 r154 = (K1 (aSl r n) 0) :=
 (by kernel_rfl : D154 r n aZg x0 r154 = D154 r n aMc x0 r154).trans
 ((bZv r n).trans
 ((by kernel_rfl)))
theorem dSj : D154 r n c154 x0 r154 = D154 r n bEs x0 (K1 (aSl r n) 0) :=
 congrArg (fun k => D154 r n bEs x0 k) (dDv r n)
theorem eCa : D154 r n c154 x0 r154 = (K1 (s154 r n) 0) :=
 (dSj r n).trans
 ((by kernel_rfl))
theorem dQo : aG CF r n 154 args h = s154 r n (aR args 0) h :=
 (by kernel_rfl : aG CF r n 154 args h = D154 r n c154 x0 r154 (aI args) h).trans ((congrFun (congrFun (eCa r n) (aI args)) h).trans (by kernel_rfl))
noncomputable def s157 (r : RT) (n : Nat) (x0 x1 x2 : DV) (h0 : Hp) : aH :=
 bnd (bS [(aF 0), (.s []), (aF 0), (aF 0)] h0) fun v1 h1 =>
 bnd (r 201 [x0, x1, x2] h1) fun v2 h2 =>
 bnd (gP .not v2 h2) fun v3 h3 =>
 aU v3 (
 bnd (r 205 [x0, (aF 0)] h3) fun v4 h4 =>
 bnd (r 204 [x0, v4, (aF 13)] h4) fun v5 h5 =>
 bnd (bL [(aF 0), (.s []), (aF 0), (aF 0)] [] h5) fun v6 h6 =>
 bnd (aJ 4 v1 v6 h6) fun _ h7 =>
 bnd (aL 4 v1 h7) fun v8 _ =>
 some (v8, h7)) (
 bnd (r 202 [x0] h3) fun v9 h9 =>
 bnd (aJ 4 v1 v9 h9) fun _ h10 =>
 bnd (aL 4 v1 h10) fun v11 _ =>
 some (v11, h10))
noncomputable abbrev c157 : Code := cf Tryz.f157
noncomputable abbrev r157 : K := aQ CF Tryz.f157
noncomputable def D157 (r : RT) (n : Nat) (c : Code) (X : Nat → K) (k : K) : K := aP CF r 19 n c X r157 k
theorem eDz : D157 r n c157 x0 r157 = (K3 (s157 r n) 0 1 2) :=
 (by kernel_rfl)
theorem dQi : aG CF r n 157 args h = s157 r n (aR args 0) (aR args 1) (aR args 2) h :=
 (by kernel_rfl : aG CF r n 157 args h = D157 r n c157 x0 r157 (aI args) h).trans ((congrFun (congrFun (eDz r n) (aI args)) h).trans (by kernel_rfl))
noncomputable def eC (r : RT) (n : Nat) (x4 : DV) (h0 : Hp) : aH :=
 some (.t [x4, (aF 0)], h0)
noncomputable def aCp (r : RT) (n : Nat) (kk6 : bT) (x4 x10 x11 x12 : DV) (h0 : Hp) : aH :=
 bnd (aD .lss x12 x11 h0) fun v1 h1 =>
 aU v1 (
 bnd (aC 3 x10 x12 h1) fun v2 h2 =>
 bnd (aL 3 v2 h2) fun v3 h3 =>
 bnd (bS [(aF 0), (aF 0), (aF 0)] h3) fun v4 h4 =>
 bnd (aJ 3 v4 v3 h4) fun _ h5 =>
 bnd (aL 3 v4 h5) fun v6 h6 =>
 bnd (r 149 [v6] h6) fun v7 h7 =>
 bnd (gP .not v7 h7) fun v8 h8 =>
 aU v8 (
 some (.t [.l0, (aF 19)], h8)) (
 bnd (aB 0 v4 h8) fun v9 h9 =>
 bnd (aA v9 h9) fun v10 h10 =>
 bnd (cX .u8 v10 h10) fun v11 h11 =>
 bnd (aB 1 v4 h11) fun v12 h12 =>
 bnd (aA v12 h12) fun v13 h13 =>
 bnd (cX .u8 v13 h13) fun v14 h14 =>
 bnd (aB 2 v4 h14) fun v15 h15 =>
 bnd (aA v15 h15) fun v16 h16 =>
 bnd (cX .u8 v16 h16) fun v17 h17 =>
 bnd (aO [(.i .u8 (Int.ofNat 0)), (.i .u8 (Int.ofNat 0)), (.i .u8 (Int.ofNat 0))] 3 [(0, 1, v11), (1, 1, v14), (2, 1, v17)] h17) fun v18 h18 =>
 bnd (aW 1 1 x4 v18 h18) fun v19 h19 =>
 bnd (aD .add x12 (aF 1) h19) fun v20 h20 =>
    kk6 v19 x10 x11 v20 h20)) (
      eC r n x4 h1)
noncomputable def uC (r : RT) (n : Nat) (m : Nat) : bT :=
 Nat.rec (motive := fun _ => bT) (fun _ _ _ _ _ => none) (fun _ ih => aCp r n ih) m
noncomputable def cGu (r : RT) (n : Nat) : bT := uC r n n
noncomputable def aRa (r : RT) (n : Nat) (x4 x10 x11 x12 : DV) (h0 : Hp) : aH :=
 cGu r n x4 x10 x11 x12 h0
noncomputable def aXf (r : RT) (n : Nat) (x0 x4 : DV) (h0 : Hp) : aH :=
 bnd (bJ x0 h0) fun v1 h1 =>
  aRa r n x4 x0 v1 (aF 0) h1
noncomputable def aUu (r : RT) (n : Nat) (x0 : DV) (h0 : Hp) : aH :=
 aXf r n x0 .l0 h0
noncomputable def aWx (r : RT) (n : Nat) (x0 : DV) (h0 : Hp) : aH :=
 bnd (bJ x0 h0) fun v1 h1 =>
 bnd (aD .gtr v1 (aF 400) h1) fun v2 h2 =>
 aU v2 (
 some (.t [.l0, (aF 19)], h2)) (
  aUu r n x0 h2)
noncomputable def s161 (r : RT) (n : Nat) (x0 : DV) (h0 : Hp) : aH :=
 aWx r n x0 h0
noncomputable abbrev c161 : Code := cf Tryz.f161
noncomputable abbrev aDm : Code := cR c161
noncomputable abbrev aKq : Code := cR aDm
noncomputable abbrev aMb : Code := cR aKq
noncomputable abbrev dMt : Code := cR aMb
noncomputable abbrev yF : Code := cL aMb
noncomputable abbrev aSp : Code := cR yF
noncomputable abbrev aMt : Code := cL aSp
noncomputable abbrev mM : Code := cL aMt
noncomputable abbrev bYr : Code := cL yF
noncomputable abbrev bCa : Code := cL aKq
noncomputable abbrev bDq : Code := cL aDm
noncomputable abbrev bBw : Code := cL c161
noncomputable abbrev r161 : K := aQ CF Tryz.f161
noncomputable def D161 (r : RT) (n : Nat) (c : Code) (X : Nat → K) (k : K) : K := aP CF r 33 n c X r161 k
theorem cTn : D161 r n dMt x0 r161 = (K1 (eC r n) 4) :=
 (by kernel_rfl)
theorem bPe (kk6 : bT) (q0 : TT1) : D161 r n mM (xs x0 0 (K1 q0 4)) (K4 kk6 4 10 11 12) = fun (env : aZ) (h : Hp) =>
 bnd (aD .lss (env 12) (env 11) h) fun v1 h1 =>
 aU v1 (
 bnd (aC 3 (env 10) (env 12) h1) fun v2 h2 =>
 bnd (aL 3 v2 h2) fun v3 h3 =>
 bnd (bS [(aF 0), (aF 0), (aF 0)] h3) fun v4 h4 =>
 bnd (aJ 3 v4 v3 h4) fun _ h5 =>
 bnd (aL 3 v4 h5) fun v6 h6 =>
 bnd (r 149 [v6] h6) fun v7 h7 =>
 bnd (gP .not v7 h7) fun v8 h8 =>
 aU v8 (
 some (.t [.l0, (aF 19)], h8)) (
 bnd (aB 0 v4 h8) fun v9 h9 =>
 bnd (aA v9 h9) fun v10 h10 =>
 bnd (cX .u8 v10 h10) fun v11 h11 =>
 bnd (aB 1 v4 h11) fun v12 h12 =>
 bnd (aA v12 h12) fun v13 h13 =>
 bnd (cX .u8 v13 h13) fun v14 h14 =>
 bnd (aB 2 v4 h14) fun v15 h15 =>
 bnd (aA v15 h15) fun v16 h16 =>
 bnd (cX .u8 v16 h16) fun v17 h17 =>
 bnd (aO [(.i .u8 (Int.ofNat 0)), (.i .u8 (Int.ofNat 0)), (.i .u8 (Int.ofNat 0))] 3 [(0, 1, v11), (1, 1, v14), (2, 1, v17)] h17) fun v18 h18 =>
 bnd (aW 1 1 (env 4) v18 h18) fun v19 h19 =>
 bnd (aD .add (env 12) (aF 1) h19) fun v20 h20 =>
    kk6 v19 (env 10) (env 11) v20 h20)) (
      q0 (env 4) h1) := by kernel_rfl
theorem bLw (kk6 : bT) : (fun (env : aZ) (h : Hp) =>
 bnd (aD .lss (env 12) (env 11) h) fun v1 h1 =>
 aU v1 (
 bnd (aC 3 (env 10) (env 12) h1) fun v2 h2 =>
 bnd (aL 3 v2 h2) fun v3 h3 =>
 bnd (bS [(aF 0), (aF 0), (aF 0)] h3) fun v4 h4 =>
 bnd (aJ 3 v4 v3 h4) fun _ h5 =>
 bnd (aL 3 v4 h5) fun v6 h6 =>
 bnd (r 149 [v6] h6) fun v7 h7 =>
 bnd (gP .not v7 h7) fun v8 h8 =>
 aU v8 (
 some (.t [.l0, (aF 19)], h8)) (
 bnd (aB 0 v4 h8) fun v9 h9 =>
 bnd (aA v9 h9) fun v10 h10 =>
 bnd (cX .u8 v10 h10) fun v11 h11 =>
 bnd (aB 1 v4 h11) fun v12 h12 =>
 bnd (aA v12 h12) fun v13 h13 =>
 bnd (cX .u8 v13 h13) fun v14 h14 =>
 bnd (aB 2 v4 h14) fun v15 h15 =>
 bnd (aA v15 h15) fun v16 h16 =>
 bnd (cX .u8 v16 h16) fun v17 h17 =>
 bnd (aO [(.i .u8 (Int.ofNat 0)), (.i .u8 (Int.ofNat 0)), (.i .u8 (Int.ofNat 0))] 3 [(0, 1, v11), (1, 1, v14), (2, 1, v17)] h17) fun v18 h18 =>
 bnd (aW 1 1 (env 4) v18 h18) fun v19 h19 =>
 bnd (aD .add (env 12) (aF 1) h19) fun v20 h20 =>
    kk6 v19 (env 10) (env 11) v20 h20)) (
      eC r n (env 4) h1)) = (K4 (aCp r n kk6) 4 10 11 12) := by kernel_rfl
theorem cDz (kk6 : bT) : D161 r n mM (xs x0 0 (K1 (eC r n) 4)) (K4 kk6 4 10 11 12) = (K4 (aCp r n kk6) 4 10 11 12) :=
 (bPe r n kk6 (eC r n)).trans (bLw r n kk6)
theorem cHq (m : Nat) : aK (fun kk => D161 r n mM (xs x0 0 (K1 (eC r n) 4)) kk) m = (K4 (uC r n m) 4 10 11 12) := by
 induction m with
 | zero => exact (by kernel_rfl : aK (fun kk => D161 r n mM (xs x0 0 (K1 (eC r n) 4)) kk) 0 = (K4 (uC r n 0) 4 10 11 12))
 | succ m ih =>
  refine (by kernel_rfl : aK (fun kk => D161 r n mM (xs x0 0 (K1 (eC r n) 4)) kk) (m + 1) = D161 r n mM (xs x0 0 (K1 (eC r n) 4)) (aK (fun kk => D161 r n mM (xs x0 0 (K1 (eC r n) 4)) kk) m)).trans ?_
  rw [ih]
  exact (cDz r n (uC r n m)).trans (by kernel_rfl)
theorem cQh : D161 r n aMt (xs x0 0 (K1 (eC r n) 4)) (K1 (eC r n) 4) = (K4 (cGu r n) 4 10 11 12) :=
 (by kernel_rfl : D161 r n aMt (xs x0 0 (K1 (eC r n) 4)) (K1 (eC r n) 4) = aK (fun kk => D161 r n mM (xs x0 0 (K1 (eC r n) 4)) kk) n).trans ((cHq r n n).trans (by kernel_rfl))
theorem dEo : D161 r n aSp x0 (K1 (eC r n) 4) = (K4 (aRa r n) 4 10 11 12) :=
 (by kernel_rfl : D161 r n aSp x0 (K1 (eC r n) 4) = D161 r n aMt (xs x0 0 (K1 (eC r n) 4)) (K1 (eC r n) 4)).trans
 ((cQh r n).trans (by kernel_rfl))
theorem bUx : D161 r n aMb x0 r161 = D161 r n yF x0 (K1 (eC r n) 4) :=
 congrArg (fun k => D161 r n yF x0 k) (cTn r n)
theorem cHk : D161 r n yF x0 (K1 (eC r n) 4) = D161 r n bYr x0 (K4 (aRa r n) 4 10 11 12) :=
 congrArg (fun k => D161 r n bYr x0 k) (dEo r n)
theorem dCf : D161 r n aMb x0 r161 = (K2 (aXf r n) 0 4) :=
 (bUx r n).trans
 ((cHk r n).trans
 ((by kernel_rfl)))
theorem cCw : D161 r n aKq x0 r161 = D161 r n bCa x0 (K2 (aXf r n) 0 4) :=
 congrArg (fun k => D161 r n bCa x0 k) (dCf r n)
theorem cZj : D161 r n aKq x0 r161 = (K1 (aUu r n) 0) :=
 (cCw r n).trans
 ((by kernel_rfl))
theorem bXo : D161 r n aDm x0 r161 = D161 r n bDq x0 (K1 (aUu r n) 0) :=
 congrArg (fun k => D161 r n bDq x0 k) (cZj r n)
theorem dEb : D161 r n aDm x0 r161 = (K1 (aWx r n) 0) :=
 (bXo r n).trans
 ((by kernel_rfl))
theorem dSy : D161 r n c161 x0 r161 = D161 r n bBw x0 (K1 (aWx r n) 0) :=
 congrArg (fun k => D161 r n bBw x0 k) (dEb r n)
theorem eGg : D161 r n c161 x0 r161 = (K1 (s161 r n) 0) :=
 (dSy r n).trans
 ((by kernel_rfl))
theorem dSb : aG CF r n 161 args h = s161 r n (aR args 0) h :=
 (by kernel_rfl : aG CF r n 161 args h = D161 r n c161 x0 r161 (aI args) h).trans ((congrFun (congrFun (eGg r n) (aI args)) h).trans (by kernel_rfl))
noncomputable def eZ (r : RT) (n : Nat) (x0 x6 : DV) (h0 : Hp) : aH :=
 bnd (r 45 [x0, x6] h0) fun v1 h1 =>
 bnd (aE 0 v1 h1) fun v2 h2 =>
 bnd (aE 1 v1 h2) fun v3 h3 =>
 some (.t [v2, v3], h3)
noncomputable def aFa (r : RT) (n : Nat) (kk4 : bZ) (x0 x1 x6 : DV) (h0 : Hp) : aH :=
 bnd (bJ x1 h0) fun v1 h1 =>
 bnd (aD .gtr v1 (aF 0) h1) fun v2 h2 =>
 aU v2 (
 bnd (bJ x1 h2) fun v3 h3 =>
 bnd (aXo v3 (aF 240) h3) fun v4 h4 =>
 bnd (r 15 [x0, (aF 10)] h4) fun v5 h5 =>
 bnd (cT 1 x1 none (some v4) h5) fun v6 h6 =>
 cnd (bR (cT 1 x1 none (some v4) h4) v6 && true) (
 bnd (gY v6 h6) fun v7 h7 =>
 cnd (bR (gY v6 h4) v7 && true) (
 bnd (r 49 [x0, v5, v7] h7) fun v8 h8 =>
 bnd (aE 0 v8 h8) fun v9 h9 =>
 bnd (aE 1 v8 h9) fun v10 h10 =>
 bnd (aD .neq v10 (aF 0) h10) fun v11 h11 =>
 aU v11 (
 some (.t [(aF 0), v10], h11)) (
 bnd (bB (bN 0 h11.next) [(aF 0)] 1 [(0, 1, v9)] (resv 1 h11)) fun v12 h12 =>
 bnd (aW 1 8 x6 v12 h12) fun v13 h13 =>
 bnd (cT 1 x1 (some v4) none h13) fun v14 h14 =>
 cnd (bR (cT 1 x1 (some v4) none (resv 1 h11)) v14 && true) (
    kk4 x0 v14 v13 h14))))) (
      eZ r n x0 x6 h2)
noncomputable def vE (r : RT) (n : Nat) (m : Nat) : bZ :=
 Nat.rec (motive := fun _ => bZ) (fun _ _ _ _ => none) (fun _ ih => aFa r n ih) m
noncomputable def cAm (r : RT) (n : Nat) : bZ := vE r n n
noncomputable def aRd (r : RT) (n : Nat) (x0 x1 x6 : DV) (h0 : Hp) : aH :=
 cAm r n x0 x1 x6 h0
noncomputable def aSo (r : RT) (n : Nat) (x0 x1 : DV) (h0 : Hp) : aH :=
 aRd r n x0 x1 .l0 h0
noncomputable def s162 (r : RT) (n : Nat) (x0 x1 : DV) (h0 : Hp) : aH :=
 aSo r n x0 x1 h0
noncomputable abbrev c162 : Code := cf Tryz.f162
noncomputable abbrev aCm : Code := cR c162
noncomputable abbrev aMr : Code := cR aCm
noncomputable abbrev dRr : Code := cR aMr
noncomputable abbrev aFk : Code := cL aMr
noncomputable abbrev aNl : Code := cL aFk
noncomputable abbrev mR : Code := cL aNl
noncomputable abbrev cGa : Code := cL aCm
noncomputable abbrev bSk : Code := cL c162
noncomputable abbrev r162 : K := aQ CF Tryz.f162
noncomputable def D162 (r : RT) (n : Nat) (c : Code) (X : Nat → K) (k : K) : K := aP CF r 42 n c X r162 k
theorem cUd : D162 r n dRr x0 r162 = (K2 (eZ r n) 0 6) :=
 (by kernel_rfl)
theorem bVj (kk4 : bZ) (q0 : gV) : D162 r n mR (xs x0 0 (K2 q0 0 6)) (K3 kk4 0 1 6) = fun (env : aZ) (h : Hp) =>
 bnd (bJ (env 1) h) fun v1 h1 =>
 bnd (aD .gtr v1 (aF 0) h1) fun v2 h2 =>
 aU v2 (
 bnd (bJ (env 1) h2) fun v3 h3 =>
 bnd (aXo v3 (aF 240) h3) fun v4 h4 =>
 bnd (r 15 [(env 0), (aF 10)] h4) fun v5 h5 =>
 bnd (cT 1 (env 1) none (some v4) h5) fun v6 h6 =>
 cnd (bR (cT 1 (env 1) none (some v4) h4) v6 && true) (
 bnd (gY v6 h6) fun v7 h7 =>
 cnd (bR (gY v6 h4) v7 && true) (
 bnd (r 49 [(env 0), v5, v7] h7) fun v8 h8 =>
 bnd (aE 0 v8 h8) fun v9 h9 =>
 bnd (aE 1 v8 h9) fun v10 h10 =>
 bnd (aD .neq v10 (aF 0) h10) fun v11 h11 =>
 aU v11 (
 some (.t [(aF 0), v10], h11)) (
 bnd (bB (bN 0 h11.next) [(aF 0)] 1 [(0, 1, v9)] (resv 1 h11)) fun v12 h12 =>
 bnd (aW 1 8 (env 6) v12 h12) fun v13 h13 =>
 bnd (cT 1 (env 1) (some v4) none h13) fun v14 h14 =>
 cnd (bR (cT 1 (env 1) (some v4) none (resv 1 h11)) v14 && true) (
    kk4 (env 0) v14 v13 h14))))) (
      q0 (env 0) (env 6) h2) := by kernel_rfl
theorem bIx (kk4 : bZ) : (fun (env : aZ) (h : Hp) =>
 bnd (bJ (env 1) h) fun v1 h1 =>
 bnd (aD .gtr v1 (aF 0) h1) fun v2 h2 =>
 aU v2 (
 bnd (bJ (env 1) h2) fun v3 h3 =>
 bnd (aXo v3 (aF 240) h3) fun v4 h4 =>
 bnd (r 15 [(env 0), (aF 10)] h4) fun v5 h5 =>
 bnd (cT 1 (env 1) none (some v4) h5) fun v6 h6 =>
 cnd (bR (cT 1 (env 1) none (some v4) h4) v6 && true) (
 bnd (gY v6 h6) fun v7 h7 =>
 cnd (bR (gY v6 h4) v7 && true) (
 bnd (r 49 [(env 0), v5, v7] h7) fun v8 h8 =>
 bnd (aE 0 v8 h8) fun v9 h9 =>
 bnd (aE 1 v8 h9) fun v10 h10 =>
 bnd (aD .neq v10 (aF 0) h10) fun v11 h11 =>
 aU v11 (
 some (.t [(aF 0), v10], h11)) (
 bnd (bB (bN 0 h11.next) [(aF 0)] 1 [(0, 1, v9)] (resv 1 h11)) fun v12 h12 =>
 bnd (aW 1 8 (env 6) v12 h12) fun v13 h13 =>
 bnd (cT 1 (env 1) (some v4) none h13) fun v14 h14 =>
 cnd (bR (cT 1 (env 1) (some v4) none (resv 1 h11)) v14 && true) (
    kk4 (env 0) v14 v13 h14))))) (
      eZ r n (env 0) (env 6) h2)) = (K3 (aFa r n kk4) 0 1 6) := by kernel_rfl
theorem bTe (kk4 : bZ) : D162 r n mR (xs x0 0 (K2 (eZ r n) 0 6)) (K3 kk4 0 1 6) = (K3 (aFa r n kk4) 0 1 6) :=
 (bVj r n kk4 (eZ r n)).trans (bIx r n kk4)
theorem cCz (m : Nat) : aK (fun kk => D162 r n mR (xs x0 0 (K2 (eZ r n) 0 6)) kk) m = (K3 (vE r n m) 0 1 6) := by
 induction m with
 | zero => exact (by kernel_rfl : aK (fun kk => D162 r n mR (xs x0 0 (K2 (eZ r n) 0 6)) kk) 0 = (K3 (vE r n 0) 0 1 6))
 | succ m ih =>
  refine (by kernel_rfl : aK (fun kk => D162 r n mR (xs x0 0 (K2 (eZ r n) 0 6)) kk) (m + 1) = D162 r n mR (xs x0 0 (K2 (eZ r n) 0 6)) (aK (fun kk => D162 r n mR (xs x0 0 (K2 (eZ r n) 0 6)) kk) m)).trans ?_
  rw [ih]
  exact (bTe r n (vE r n m)).trans (by kernel_rfl)
theorem cXx : D162 r n aNl (xs x0 0 (K2 (eZ r n) 0 6)) (K2 (eZ r n) 0 6) = (K3 (cAm r n) 0 1 6) :=
 (by kernel_rfl : D162 r n aNl (xs x0 0 (K2 (eZ r n) 0 6)) (K2 (eZ r n) 0 6) = aK (fun kk => D162 r n mR (xs x0 0 (K2 (eZ r n) 0 6)) kk) n).trans ((cCz r n n).trans (by kernel_rfl))
theorem cIs : D162 r n aMr x0 r162 = D162 r n aFk x0 (K2 (eZ r n) 0 6) :=
 congrArg (fun k => D162 r n aFk x0 k) (cUd r n)
theorem dBo : D162 r n aMr x0 r162 = (K3 (aRd r n) 0 1 6) :=
 (cIs r n).trans
 ((by kernel_rfl : D162 r n aFk x0 (K2 (eZ r n) 0 6) = D162 r n aNl (xs x0 0 (K2 (eZ r n) 0 6)) (K2 (eZ r n) 0 6)).trans
 ((cXx r n).trans (by kernel_rfl)))
theorem bPj : D162 r n aCm x0 r162 = D162 r n cGa x0 (K3 (aRd r n) 0 1 6) :=
 congrArg (fun k => D162 r n cGa x0 k) (dBo r n)
theorem cWj : D162 r n aCm x0 r162 = (K2 (aSo r n) 0 1) :=
 (bPj r n).trans
 ((by kernel_rfl))
theorem dJz : D162 r n c162 x0 r162 = D162 r n bSk x0 (K2 (aSo r n) 0 1) :=
 congrArg (fun k => D162 r n bSk x0 k) (cWj r n)
theorem dVj : D162 r n c162 x0 r162 = (K2 (s162 r n) 0 1) :=
 (dJz r n).trans
 ((by kernel_rfl))
theorem dOj : aG CF r n 162 args h = s162 r n (aR args 0) (aR args 1) h :=
 (by kernel_rfl : aG CF r n 162 args h = D162 r n c162 x0 r162 (aI args) h).trans ((congrFun (congrFun (dVj r n) (aI args)) h).trans (by kernel_rfl))
end Go.Dd

namespace Go.Dd
open Go.Proofs
variable (r : RT) (n : Nat) (args : List DV) (h : Hp)
noncomputable def bP (r : RT) (n : Nat) (x1 : DV) (h0 : Hp) : aH :=
 some (.t [x1, (.b false)], h0)
noncomputable def fU (r : RT) (n : Nat) (kk3 : gV) (x0 x1 x6 : DV) (h0 : Hp) : aH :=
 bnd (dI x0 h0) fun v1 h1 =>
 bnd (aD .eql x6 v1 h1) fun v2 h2 =>
 aU v2 (
 some (.t [x1, (.b true)], h2)) (
 bnd (aD .add x6 (aF 1) h2) fun v3 h3 =>
  kk3 x0 v3 h3)
noncomputable def bGo (r : RT) (n : Nat) (kk3 : gV) (kk9 : bZ) (x0 x1 x6 : DV) (h0 : Hp) : aH :=
 bnd (dI x0 h0) fun v1 h1 =>
 bnd (aD .lss x6 v1 h1) fun v2 h2 =>
 bnd (gD v2 true (some (x0, h2)) h2) fun v3 h3 =>
 bnd (gD v2 true (some (x6, h3)) h3) fun v4 h4 =>
 bnd (gD v2 true (cQ v3 v4 h4) h4) fun v5 h5 =>
 bnd (gD v2 true (aD .neq v5 (.i .u8 (Int.ofNat 34)) h5) h5) fun v6 h6 =>
 bnd (aN v2 v6 (.b false) h6) fun v7 h7 =>
 aU v7 (
 bnd (aD .add x6 (aF 1) h7) fun v8 h8 =>
      kk9 x0 x1 v8 h8) (
      fU r n kk3 x0 x1 x6 h7)
noncomputable def wA (r : RT) (n : Nat) (kk3 : gV) (m : Nat) : bZ :=
 Nat.rec (motive := fun _ => bZ) (fun _ _ _ _ => none) (fun _ ih => bGo r n kk3 ih) m
noncomputable def bNv (r : RT) (n : Nat) (kk3 : gV) : bZ := wA r n kk3 n
noncomputable def aVu (r : RT) (n : Nat) (kk3 : gV) (x0 x1 x6 : DV) (h0 : Hp) : aH :=
 bNv r n kk3 x0 x1 x6 h0
noncomputable def aTx (r : RT) (n : Nat) (kk3 : gV) (x0 x1 : DV) (h0 : Hp) : aH :=
 bnd (aD .add x1 (aF 1) h0) fun v1 h1 =>
  aVu r n kk3 x0 x1 v1 h1
noncomputable def aRy (r : RT) (n : Nat) (kk3 : gV) (x0 x1 : DV) (h0 : Hp) : aH :=
 bnd (cQ x0 x1 h0) fun v1 h1 =>
 bnd (aD .neq v1 (.i .u8 (Int.ofNat 34)) h1) fun v2 h2 =>
 aU v2 (
  bP r n x1 h2) (
  aTx r n kk3 x0 x1 h2)
noncomputable def aWz (r : RT) (n : Nat) (kk3 : gV) (x0 x1 : DV) (h0 : Hp) : aH :=
 bnd (cQ x0 x1 h0) fun v1 h1 =>
 bnd (r 210 [v1] h1) fun v2 h2 =>
 bnd (aD .eql v2 (aF 5) h2) fun v3 h3 =>
 aU v3 (
 bnd (aD .add x1 (aF 1) h3) fun v4 h4 =>
  kk3 x0 v4 h4) (
  aRy r n kk3 x0 x1 h3)
noncomputable def bEd (r : RT) (n : Nat) (kk3 : gV) (x0 x1 : DV) (h0 : Hp) : aH :=
 bnd (dI x0 h0) fun v1 h1 =>
 bnd (aD .lss x1 v1 h1) fun v2 h2 =>
 aU v2 (
   aWz r n kk3 x0 x1 h2) (
   bP r n x1 h2)
noncomputable def tS (r : RT) (n : Nat) (m : Nat) : gV :=
 Nat.rec (motive := fun _ => gV) (fun _ _ _ => none) (fun _ ih => bEd r n ih) m
noncomputable def bNu (r : RT) (n : Nat) : gV := tS r n n
noncomputable def aWo (r : RT) (n : Nat) (x0 x1 : DV) (h0 : Hp) : aH :=
 bNu r n x0 x1 h0
noncomputable def s163 (r : RT) (n : Nat) (x0 x1 : DV) (h0 : Hp) : aH :=
 aWo r n x0 x1 h0
noncomputable abbrev c163 : Code := cf Tryz.f163
noncomputable abbrev aGa : Code := cR c163
noncomputable abbrev dMc : Code := cR aGa
noncomputable abbrev aDy : Code := cL aGa
noncomputable abbrev aHl : Code := cL aDy
noncomputable abbrev kR : Code := cL aHl
noncomputable abbrev aVr : Code := cR kR
noncomputable abbrev aLy : Code := cL aVr
noncomputable abbrev aMz : Code := cR aLy
noncomputable abbrev aMo : Code := cR aMz
noncomputable abbrev uS : Code := cR aMo
noncomputable abbrev cRf : Code := cR uS
noncomputable abbrev uI : Code := cL uS
noncomputable abbrev tX : Code := cL uI
noncomputable abbrev lZ : Code := cL tX
noncomputable abbrev bFz : Code := cL aMo
noncomputable abbrev bBv : Code := cL aMz
noncomputable abbrev bIa : Code := cL aLy
noncomputable abbrev bBt : Code := cL kR
noncomputable abbrev bGl : Code := cL c163
noncomputable abbrev r163 : K := aQ CF Tryz.f163
noncomputable def D163 (r : RT) (n : Nat) (c : Code) (X : Nat → K) (k : K) : K := aP CF r 44 n c X r163 k
theorem dBc : D163 r n dMc x0 r163 = (K1 (bP r n) 1) :=
 (by kernel_rfl)
theorem cTj (kk3 : gV) : D163 r n cRf (xs (xs x0 0 (K1 (bP r n) 1)) 1 (K2 kk3 0 1)) (K2 kk3 0 1) = (K3 (fU r n kk3) 0 1 6) :=
 (by kernel_rfl)
theorem cEw (kk3 : gV) (kk9 : bZ) : D163 r n lZ (xs (xs (xs x0 0 (K1 (bP r n) 1)) 1 (K2 kk3 0 1)) 2 (K3 (fU r n kk3) 0 1 6)) (K3 kk9 0 1 6) = (K3 (bGo r n kk3 kk9) 0 1 6) :=
 (by kernel_rfl)
theorem bPq (kk3 : gV) (m : Nat) : aK (fun kk => D163 r n lZ (xs (xs (xs x0 0 (K1 (bP r n) 1)) 1 (K2 kk3 0 1)) 2 (K3 (fU r n kk3) 0 1 6)) kk) m = (K3 (wA r n kk3 m) 0 1 6) := by
 induction m with
 | zero => exact (by kernel_rfl : aK (fun kk => D163 r n lZ (xs (xs (xs x0 0 (K1 (bP r n) 1)) 1 (K2 kk3 0 1)) 2 (K3 (fU r n kk3) 0 1 6)) kk) 0 = (K3 (wA r n kk3 0) 0 1 6))
 | succ m ih =>
  refine (by kernel_rfl : aK (fun kk => D163 r n lZ (xs (xs (xs x0 0 (K1 (bP r n) 1)) 1 (K2 kk3 0 1)) 2 (K3 (fU r n kk3) 0 1 6)) kk) (m + 1) = D163 r n lZ (xs (xs (xs x0 0 (K1 (bP r n) 1)) 1 (K2 kk3 0 1)) 2 (K3 (fU r n kk3) 0 1 6)) (aK (fun kk => D163 r n lZ (xs (xs (xs x0 0 (K1 (bP r n) 1)) 1 (K2 kk3 0 1)) 2 (K3 (fU r n kk3) 0 1 6)) kk) m)).trans ?_
  rw [ih]
  exact (cEw r n kk3 (wA r n kk3 m)).trans (by kernel_rfl)
theorem cOw (kk3 : gV) : D163 r n tX (xs (xs (xs x0 0 (K1 (bP r n) 1)) 1 (K2 kk3 0 1)) 2 (K3 (fU r n kk3) 0 1 6)) (K3 (fU r n kk3) 0 1 6) = (K3 (bNv r n kk3) 0 1 6) :=
 (by kernel_rfl : D163 r n tX (xs (xs (xs x0 0 (K1 (bP r n) 1)) 1 (K2 kk3 0 1)) 2 (K3 (fU r n kk3) 0 1 6)) (K3 (fU r n kk3) 0 1 6) = aK (fun kk => D163 r n lZ (xs (xs (xs x0 0 (K1 (bP r n) 1)) 1 (K2 kk3 0 1)) 2 (K3 (fU r n kk3) 0 1 6)) kk) n).trans ((bPq r n kk3 n).trans (by kernel_rfl))
theorem bVk (kk3 : gV) : D163 r n uS (xs (xs x0 0 (K1 (bP r n) 1)) 1 (K2 kk3 0 1)) (K2 kk3 0 1) = D163 r n uI (xs (xs x0 0 (K1 (bP r n) 1)) 1 (K2 kk3 0 1)) (K3 (fU r n kk3) 0 1 6) :=
 congrArg (fun k => D163 r n uI (xs (xs x0 0 (K1 (bP r n) 1)) 1 (K2 kk3 0 1)) k) (cTj r n kk3)
theorem cYc (kk3 : gV) : D163 r n uS (xs (xs x0 0 (K1 (bP r n) 1)) 1 (K2 kk3 0 1)) (K2 kk3 0 1) = (K3 (aVu r n kk3) 0 1 6) :=
 (bVk r n kk3).trans
 ((by kernel_rfl : D163 r n uI (xs (xs x0 0 (K1 (bP r n) 1)) 1 (K2 kk3 0 1)) (K3 (fU r n kk3) 0 1 6) = D163 r n tX (xs (xs (xs x0 0 (K1 (bP r n) 1)) 1 (K2 kk3 0 1)) 2 (K3 (fU r n kk3) 0 1 6)) (K3 (fU r n kk3) 0 1 6)).trans
 ((cOw r n kk3).trans (by kernel_rfl)))
theorem cKv (kk3 : gV) : D163 r n aMo (xs (xs x0 0 (K1 (bP r n) 1)) 1 (K2 kk3 0 1)) (K2 kk3 0 1) = D163 r n bFz (xs (xs x0 0 (K1 (bP r n) 1)) 1 (K2 kk3 0 1)) (K3 (aVu r n kk3) 0 1 6) :=
 congrArg (fun k => D163 r n bFz (xs (xs x0 0 (K1 (bP r n) 1)) 1 (K2 kk3 0 1)) k) (cYc r n kk3)
theorem cYl (kk3 : gV) : D163 r n aMo (xs (xs x0 0 (K1 (bP r n) 1)) 1 (K2 kk3 0 1)) (K2 kk3 0 1) = (K2 (aTx r n kk3) 0 1) :=
 (cKv r n kk3).trans
 ((by kernel_rfl))
theorem bUy (kk3 : gV) : D163 r n aMz (xs (xs x0 0 (K1 (bP r n) 1)) 1 (K2 kk3 0 1)) (K2 kk3 0 1) = D163 r n bBv (xs (xs x0 0 (K1 (bP r n) 1)) 1 (K2 kk3 0 1)) (K2 (aTx r n kk3) 0 1) :=
 congrArg (fun k => D163 r n bBv (xs (xs x0 0 (K1 (bP r n) 1)) 1 (K2 kk3 0 1)) k) (cYl r n kk3)
theorem cXw (kk3 : gV) : D163 r n aMz (xs (xs x0 0 (K1 (bP r n) 1)) 1 (K2 kk3 0 1)) (K2 kk3 0 1) = (K2 (aRy r n kk3) 0 1) :=
 (bUy r n kk3).trans
 ((by kernel_rfl))
theorem bNt (kk3 : gV) : D163 r n aLy (xs (xs x0 0 (K1 (bP r n) 1)) 1 (K2 kk3 0 1)) (K2 kk3 0 1) = D163 r n bIa (xs (xs x0 0 (K1 (bP r n) 1)) 1 (K2 kk3 0 1)) (K2 (aRy r n kk3) 0 1) :=
 congrArg (fun k => D163 r n bIa (xs (xs x0 0 (K1 (bP r n) 1)) 1 (K2 kk3 0 1)) k) (cXw r n kk3)
theorem cZx (kk3 : gV) : D163 r n aVr (xs x0 0 (K1 (bP r n) 1)) (K2 kk3 0 1) = (K2 (aWz r n kk3) 0 1) :=
 (by kernel_rfl : D163 r n aVr (xs x0 0 (K1 (bP r n) 1)) (K2 kk3 0 1) = D163 r n aLy (xs (xs x0 0 (K1 (bP r n) 1)) 1 (K2 kk3 0 1)) (K2 kk3 0 1)).trans
 ((bNt r n kk3).trans
 ((by kernel_rfl)))
theorem bVn (kk3 : gV) : D163 r n kR (xs x0 0 (K1 (bP r n) 1)) (K2 kk3 0 1) = D163 r n bBt (xs x0 0 (K1 (bP r n) 1)) (K2 (aWz r n kk3) 0 1) :=
 congrArg (fun k => D163 r n bBt (xs x0 0 (K1 (bP r n) 1)) k) (cZx r n kk3)
theorem bRc (kk3 : gV) : D163 r n kR (xs x0 0 (K1 (bP r n) 1)) (K2 kk3 0 1) = (K2 (bEd r n kk3) 0 1) :=
 (bVn r n kk3).trans
 ((by kernel_rfl))
theorem cBh (m : Nat) : aK (fun kk => D163 r n kR (xs x0 0 (K1 (bP r n) 1)) kk) m = (K2 (tS r n m) 0 1) := by
 induction m with
 | zero => exact (by kernel_rfl : aK (fun kk => D163 r n kR (xs x0 0 (K1 (bP r n) 1)) kk) 0 = (K2 (tS r n 0) 0 1))
 | succ m ih =>
  refine (by kernel_rfl : aK (fun kk => D163 r n kR (xs x0 0 (K1 (bP r n) 1)) kk) (m + 1) = D163 r n kR (xs x0 0 (K1 (bP r n) 1)) (aK (fun kk => D163 r n kR (xs x0 0 (K1 (bP r n) 1)) kk) m)).trans ?_
  rw [ih]
  exact (bRc r n (tS r n m)).trans (by kernel_rfl)
theorem dCs : D163 r n aHl (xs x0 0 (K1 (bP r n) 1)) (K1 (bP r n) 1) = (K2 (bNu r n) 0 1) :=
 (by kernel_rfl : D163 r n aHl (xs x0 0 (K1 (bP r n) 1)) (K1 (bP r n) 1) = aK (fun kk => D163 r n kR (xs x0 0 (K1 (bP r n) 1)) kk) n).trans ((cBh r n n).trans (by kernel_rfl))
theorem bPl : D163 r n aGa x0 r163 = D163 r n aDy x0 (K1 (bP r n) 1) :=
 congrArg (fun k => D163 r n aDy x0 k) (dBc r n)
theorem dEj : D163 r n aGa x0 r163 = (K2 (aWo r n) 0 1) :=
 (bPl r n).trans
 ((by kernel_rfl : D163 r n aDy x0 (K1 (bP r n) 1) = D163 r n aHl (xs x0 0 (K1 (bP r n) 1)) (K1 (bP r n) 1)).trans
 ((dCs r n).trans (by kernel_rfl)))
theorem dPj : D163 r n c163 x0 r163 = D163 r n bGl x0 (K2 (aWo r n) 0 1) :=
 congrArg (fun k => D163 r n bGl x0 k) (dEj r n)
theorem eEu : D163 r n c163 x0 r163 = (K2 (s163 r n) 0 1) :=
 (dPj r n).trans
 ((by kernel_rfl))
theorem dUt : aG CF r n 163 args h = s163 r n (aR args 0) (aR args 1) h :=
 (by kernel_rfl : aG CF r n 163 args h = D163 r n c163 x0 r163 (aI args) h).trans ((congrFun (congrFun (eEu r n) (aI args)) h).trans (by kernel_rfl))
noncomputable def gO (r : RT) (n : Nat) (x0 x1 x4 x7 x8 : DV) (h0 : Hp) : aH :=
 bnd (aD .eql x8 (aF 4) h0) fun v1 h1 =>
 aU v1 (
 bnd (aB 0 x7 h1) fun v2 h2 =>
 bnd (aJ 1 v2 (aF 10) h2) fun _ h3 =>
 bnd (aD .add x1 (aF 1) h3) fun v4 h4 =>
 bnd (fW x0 (some x1) (some v4) h4) fun v5 h5 =>
 bnd (aB 1 x7 h5) fun v6 h6 =>
 bnd (aJ 1 v6 v5 h6) fun _ h7 =>
 bnd (aL 4 x7 h7) fun v8 h8 =>
 bnd (aD .add x1 (aF 1) h8) fun v9 h9 =>
 bnd (aJ 4 x4 v8 h9) fun _ h10 =>
 bnd (aL 4 x4 h10) fun v11 _ =>
 some (.t [v11, v9, (aF 0)], h10)) (
 bnd (cQ x0 x1 h1) fun v12 h12 =>
 bnd (aD .eql v12 (.i .u8 (Int.ofNat 39)) h12) fun v13 h13 =>
 aU v13 (
 bnd (aB 0 x7 h13) fun v14 h14 =>
 bnd (aJ 1 v14 (aF 5) h14) fun _ h15 =>
 bnd (aL 4 x7 h15) fun v16 h16 =>
 bnd (r 214 [x0, v16] h16) fun v17 h17 =>
 bnd (aE 0 v17 h17) fun v18 h18 =>
 bnd (aE 1 v17 h18) fun v19 h19 =>
 bnd (aE 2 v17 h19) fun v20 h20 =>
 bnd (aJ 4 x4 v18 h20) fun _ h21 =>
 bnd (aL 4 x4 h21) fun v22 _ =>
 some (.t [v22, v19, v20], h21)) (
 bnd (cQ x0 x1 h13) fun v23 h23 =>
 bnd (aD .eql v23 (.i .u8 (Int.ofNat 35)) h23) fun v24 h24 =>
 aU v24 (
 bnd (aL 4 x7 h24) fun v25 h25 =>
 bnd (r 215 [x0, v25] h25) fun v26 h26 =>
 bnd (aE 0 v26 h26) fun v27 h27 =>
 bnd (aE 1 v26 h27) fun v28 h28 =>
 bnd (aE 2 v26 h28) fun v29 h29 =>
 bnd (aJ 4 x4 v27 h29) fun _ h30 =>
 bnd (aL 4 x4 h30) fun v31 _ =>
 some (.t [v31, v28, v29], h30)) (
 bnd (cQ x0 x1 h24) fun v32 h32 =>
 bnd (aD .eql v32 (.i .u8 (Int.ofNat 58)) h32) fun v33 h33 =>
 bnd (gD v33 true (some (x1, h33)) h33) fun v34 h34 =>
 bnd (gD v33 true (aD .add v34 (aF 1) h34) h34) fun v35 h35 =>
 bnd (gD v33 true (some (x0, h35)) h35) fun v36 h36 =>
 bnd (gD v33 true (dI v36 h36) h36) fun v37 h37 =>
 bnd (gD v33 true (aD .lss v35 v37 h37) h37) fun v38 h38 =>
 bnd (aN v33 v38 (.b false) h38) fun v39 h39 =>
 bnd (gD v39 true (some (x0, h39)) h39) fun v40 h40 =>
 bnd (gD v39 true (some (x1, h40)) h40) fun v41 h41 =>
 bnd (gD v39 true (aD .add v41 (aF 1) h41) h41) fun v42 h42 =>
 bnd (gD v39 true (cQ v40 v42 h42) h42) fun v43 h43 =>
 bnd (gD v39 true (aD .eql v43 (.i .u8 (Int.ofNat 61)) h43) h43) fun v44 h44 =>
 bnd (aN v39 v44 (.b false) h44) fun v45 h45 =>
 aU v45 (
 bnd (aB 0 x7 h45) fun v46 h46 =>
 bnd (aJ 1 v46 (aF 9) h46) fun _ h47 =>
 bnd (aL 4 x7 h47) fun v48 h48 =>
 bnd (aD .add x1 (aF 2) h48) fun v49 h49 =>
 bnd (aJ 4 x4 v48 h49) fun _ h50 =>
 bnd (aL 4 x4 h50) fun v51 _ =>
 some (.t [v51, v49, (aF 0)], h50)) (
 bnd (cQ x0 x1 h45) fun v52 h52 =>
 bnd (aD .eql v52 (.i .u8 (Int.ofNat 58)) h52) fun v53 h53 =>
 bnd (gD v53 true (some (x0, h53)) h53) fun v54 h54 =>
 bnd (gD v53 true (some (x1, h54)) h54) fun v55 h55 =>
 bnd (gD v53 true (aD .add v55 (aF 1) h55) h55) fun v56 h56 =>
 bnd (gD v53 true (r 211 [v54, v56] h56) h56) fun v57 h57 =>
 bnd (gD v53 true (aD .eql v57 (aF 1) h57) h57) fun v58 h58 =>
 bnd (aN v53 v58 (.b false) h58) fun v59 h59 =>
 aU v59 (
 bnd (aD .add x1 (aF 1) h59) fun v60 h60 =>
 bnd (r 212 [x0, v60] h60) fun v61 h61 =>
 bnd (aD .sub v61 x1 h61) fun v62 h62 =>
 bnd (aD .sub v62 (aF 1) h62) fun v63 h63 =>
 bnd (aD .gtr v63 (aF 24) h63) fun v64 h64 =>
 aU v64 (
 bnd (aL 4 x7 h64) fun v65 h65 =>
 bnd (aJ 4 x4 v65 h65) fun _ h66 =>
 bnd (aL 4 x4 h66) fun v67 _ =>
 some (.t [v67, (aF 0), (aF 12)], h66)) (
 bnd (aB 0 x7 h64) fun v68 h68 =>
 bnd (aJ 1 v68 (aF 8) h68) fun _ h69 =>
 bnd (aD .add x1 (aF 1) h69) fun v70 h70 =>
 bnd (fW x0 (some v70) (some v61) h70) fun v71 h71 =>
 bnd (aB 1 x7 h71) fun v72 h72 =>
 bnd (aJ 1 v72 v71 h72) fun _ h73 =>
 bnd (aL 4 x7 h73) fun v74 h74 =>
 bnd (aJ 4 x4 v74 h74) fun _ h75 =>
 bnd (aL 4 x4 h75) fun v76 _ =>
 some (.t [v76, v61, (aF 0)], h75))) (
 bnd (aL 4 x7 h59) fun v77 h77 =>
 bnd (aJ 4 x4 v77 h77) fun _ h78 =>
 bnd (aL 4 x4 h78) fun v79 _ =>
 some (.t [v79, (aF 0), (aF 10)], h78))))))
noncomputable def tU (r : RT) (n : Nat) (x0 x1 x4 x7 x11 : DV) (h0 : Hp) : aH :=
 bnd (fW x0 (some x1) (some x11) h0) fun v1 h1 =>
 bnd (aB 1 x7 h1) fun v2 h2 =>
 bnd (aJ 1 v2 v1 h2) fun _ h3 =>
 bnd (aL 4 x7 h3) fun v4 h4 =>
 bnd (aJ 4 x4 v4 h4) fun _ h5 =>
 bnd (aL 4 x4 h5) fun v6 _ =>
 some (.t [v6, x11, (aF 0)], h5)
noncomputable def aFp (r : RT) (n : Nat) (x0 x1 x4 x7 x11 : DV) (h0 : Hp) : aH :=
 bnd (r 211 [x0, x11] h0) fun v1 h1 =>
 bnd (aD .eql v1 (aF 3) h1) fun v2 h2 =>
 aU v2 (
 bnd (aD .add x11 (aF 1) h2) fun v3 h3 =>
  tU r n x0 x1 x4 x7 v3 h3) (
  tU r n x0 x1 x4 x7 x11 h2)
noncomputable def aZf (r : RT) (n : Nat) (x0 x1 x4 x7 : DV) (h0 : Hp) : aH :=
 bnd (aD .add x1 (aF 1) h0) fun v1 h1 =>
  aFp r n x0 x1 x4 x7 v1 h1
noncomputable def bZa (r : RT) (n : Nat) (x0 x1 x4 x7 : DV) (h0 : Hp) : aH :=
 bnd (aB 0 x7 h0) fun v1 h1 =>
 bnd (aJ 1 v1 (aF 3) h1) fun _ h2 =>
  aZf r n x0 x1 x4 x7 h2
noncomputable def aYl (r : RT) (n : Nat) (x0 x1 x4 x7 x8 x72 : DV) (h0 : Hp) : aH :=
 aU x72 (
  bZa r n x0 x1 x4 x7 h0) (
  gO r n x0 x1 x4 x7 x8 h0)
noncomputable def iL (r : RT) (n : Nat) (x0 x1 x4 x7 x8 : DV) (h0 : Hp) : aH :=
 bnd (aD .eql x8 (aF 3) h0) fun v1 h1 =>
  aYl r n x0 x1 x4 x7 x8 v1 h1
noncomputable def dU (r : RT) (n : Nat) (x1 x4 x7 : DV) (h0 : Hp) : aH :=
 bnd (aL 4 x7 h0) fun v1 h1 =>
 bnd (aJ 4 x4 v1 h1) fun _ h2 =>
 bnd (aL 4 x4 h2) fun v3 _ =>
 some (.t [v3, x1, (aF 0)], h2)
noncomputable def aOq (r : RT) (n : Nat) (kk16 : bT) (x0 x1 x4 x7 : DV) (h0 : Hp) : aH :=
 bnd (r 211 [x0, x1] h0) fun v1 h1 =>
 bnd (aD .eql v1 (aF 2) h1) fun v2 h2 =>
 aU v2 (
 bnd (cQ x0 x1 h2) fun v3 h3 =>
 bnd (aD .sub v3 (.i .u8 (Int.ofNat 48)) h3) fun v4 h4 =>
 bnd (cX .i64 v4 h4) fun v5 h5 =>
 bnd (aB 2 x7 h5) fun v6 h6 =>
 bnd (aA v6 h6) fun v7 h7 =>
 bnd (aD .sub (aF 1152921504606846976) v5 h7) fun v8 h8 =>
 bnd (aD .quo v8 (aF 10) h8) fun v9 h9 =>
 bnd (aD .gtr v7 v9 h9) fun v10 h10 =>
 aU v10 (
 bnd (aL 4 x7 h10) fun v11 h11 =>
 bnd (aJ 4 x4 v11 h11) fun _ h12 =>
 bnd (aL 4 x4 h12) fun v13 _ =>
 some (.t [v13, (aF 0), (aF 2)], h12)) (
 bnd (aB 2 x7 h10) fun v14 h14 =>
 bnd (aA v14 h14) fun v15 h15 =>
 bnd (aD .mul (aF 10) v15 h15) fun v16 h16 =>
 bnd (aD .add v16 v5 h16) fun v17 h17 =>
 bnd (aB 2 x7 h17) fun v18 h18 =>
 bnd (aJ 1 v18 v17 h18) fun _ h19 =>
 bnd (aD .add x1 (aF 1) h19) fun v20 h20 =>
    kk16 x0 v20 x4 x7 h20)) (
      dU r n x1 x4 x7 h2)
noncomputable def qR (r : RT) (n : Nat) (m : Nat) : bT :=
 Nat.rec (motive := fun _ => bT) (fun _ _ _ _ _ => none) (fun _ ih => aOq r n ih) m
noncomputable def bAw (r : RT) (n : Nat) : bT := qR r n n
noncomputable def aId (r : RT) (n : Nat) (x0 x1 x4 x7 : DV) (h0 : Hp) : aH :=
 bAw r n x0 x1 x4 x7 h0
noncomputable def bAf (r : RT) (n : Nat) (x0 x1 x4 x7 : DV) (h0 : Hp) : aH :=
 bnd (aB 0 x7 h0) fun v1 h1 =>
 bnd (aJ 1 v1 (aF 4) h1) fun _ h2 =>
  aId r n x0 x1 x4 x7 h2
noncomputable def aIi (r : RT) (n : Nat) (x0 x1 x4 x7 x8 x43 : DV) (h0 : Hp) : aH :=
 aU x43 (
  bAf r n x0 x1 x4 x7 h0) (
  iL r n x0 x1 x4 x7 x8 h0)
noncomputable def fQ (r : RT) (n : Nat) (x0 x1 x4 x7 x8 : DV) (h0 : Hp) : aH :=
 bnd (aD .eql x8 (aF 2) h0) fun v1 h1 =>
  aIi r n x0 x1 x4 x7 x8 v1 h1
noncomputable def vR (r : RT) (n : Nat) (x0 x1 x4 x7 x9 : DV) (h0 : Hp) : aH :=
 bnd (fW x0 (some x1) (some x9) h0) fun v1 h1 =>
 bnd (aB 1 x7 h1) fun v2 h2 =>
 bnd (aJ 1 v2 v1 h2) fun _ h3 =>
 bnd (aL 4 x7 h3) fun v4 h4 =>
 bnd (aJ 4 x4 v4 h4) fun _ h5 =>
 bnd (aL 4 x4 h5) fun v6 _ =>
 some (.t [v6, x9, (aF 0)], h5)
noncomputable def aDf (r : RT) (n : Nat) (x0 x1 x4 x7 x9 : DV) (h0 : Hp) : aH :=
 bnd (r 213 [x0, x9] h0) fun v1 h1 =>
 aU v1 (
 bnd (aB 0 x7 h1) fun v2 h2 =>
 bnd (aJ 1 v2 (aF 2) h2) fun _ h3 =>
 bnd (aD .add x9 (aF 1) h3) fun v4 h4 =>
  vR r n x0 x1 x4 x7 v4 h4) (
  vR r n x0 x1 x4 x7 x9 h1)
noncomputable def aEk (r : RT) (n : Nat) (x0 x1 x4 x7 x9 : DV) (h0 : Hp) : aH :=
 bnd (aB 0 x7 h0) fun v1 h1 =>
 bnd (aJ 1 v1 (aF 1) h1) fun _ h2 =>
  aDf r n x0 x1 x4 x7 x9 h2
noncomputable def aCf (r : RT) (n : Nat) (x0 x1 x4 x7 x9 : DV) (h0 : Hp) : aH :=
 bnd (aD .sub x9 x1 h0) fun v1 h1 =>
 bnd (aD .gtr v1 (aF 24) h1) fun v2 h2 =>
 aU v2 (
 bnd (aL 4 x7 h2) fun v3 h3 =>
 bnd (aJ 4 x4 v3 h3) fun _ h4 =>
 bnd (aL 4 x4 h4) fun v5 _ =>
 some (.t [v5, (aF 0), (aF 12)], h4)) (
  aEk r n x0 x1 x4 x7 x9 h2)
noncomputable def bAp (r : RT) (n : Nat) (x0 x1 x4 x7 : DV) (h0 : Hp) : aH :=
 bnd (r 212 [x0, x1] h0) fun v1 h1 =>
  aCf r n x0 x1 x4 x7 v1 h1
noncomputable def aMp (r : RT) (n : Nat) (x0 x1 x4 x7 x8 x19 : DV) (h0 : Hp) : aH :=
 aU x19 (
  bAp r n x0 x1 x4 x7 h0) (
  fQ r n x0 x1 x4 x7 x8 h0)
noncomputable def aZa (r : RT) (n : Nat) (x0 x1 x4 x7 x8 : DV) (h0 : Hp) : aH :=
 bnd (aD .eql x8 (aF 1) h0) fun v1 h1 =>
  aMp r n x0 x1 x4 x7 x8 v1 h1
noncomputable def aAj (r : RT) (n : Nat) (x0 x1 x4 x7 : DV) (h0 : Hp) : aH :=
 bnd (r 211 [x0, x1] h0) fun v1 h1 =>
  aZa r n x0 x1 x4 x7 v1 h1
noncomputable def sM (r : RT) (n : Nat) (x0 x1 x4 : DV) (h0 : Hp) : aH :=
 bnd (bL [(aF 0), (.s []), (aF 0), (aF 0)] [(3, 1, x1)] h0) fun v1 h1 =>
 bnd (bS [(aF 0), (.s []), (aF 0), (aF 0)] h1) fun v2 h2 =>
 bnd (aJ 4 v2 v1 h2) fun _ h3 =>
  aAj r n x0 x1 x4 v2 h3
noncomputable def s164 (r : RT) (n : Nat) (x0 x1 : DV) (h0 : Hp) : aH :=
 bnd (bS [(aF 0), (.s []), (aF 0), (aF 0)] h0) fun v1 h1 =>
  sM r n x0 x1 v1 h1
noncomputable abbrev c164 : Code := cf Tryz.f164
noncomputable abbrev aKn : Code := cR c164
noncomputable abbrev aHv : Code := cR aKn
noncomputable abbrev aJc : Code := cR aHv
noncomputable abbrev aMj : Code := cR aJc
noncomputable abbrev aGv : Code := cR aMj
noncomputable abbrev dSm : Code := cR aGv
noncomputable abbrev yL : Code := cL aGv
noncomputable abbrev aAr : Code := cR yL
noncomputable abbrev zZ : Code := cL aAr
noncomputable abbrev wQ : Code := cR zZ
noncomputable abbrev vI : Code := cR wQ
noncomputable abbrev cZk : Code := cR vI
noncomputable abbrev bFq : Code := cL vI
noncomputable abbrev bAy : Code := cL wQ
noncomputable abbrev bAz : Code := cL zZ
noncomputable abbrev dDo : Code := cR aAr
noncomputable abbrev bDw : Code := cL yL
noncomputable abbrev pV : Code := cL aMj
noncomputable abbrev qM : Code := cR pV
noncomputable abbrev qC : Code := cL qM
noncomputable abbrev wK : Code := cR qC
noncomputable abbrev cPd : Code := cR wK
noncomputable abbrev vV : Code := cL wK
noncomputable abbrev uF : Code := cL vV
noncomputable abbrev lO : Code := cL uF
noncomputable abbrev bAr : Code := cL qC
noncomputable abbrev cPk : Code := cR qM
noncomputable abbrev bIq : Code := cL pV
noncomputable abbrev rJ : Code := cL aJc
noncomputable abbrev qO : Code := cR rJ
noncomputable abbrev qH : Code := cL qO
noncomputable abbrev tM : Code := cR qH
noncomputable abbrev wL : Code := cR tM
noncomputable abbrev tP : Code := cR wL
noncomputable abbrev cZh : Code := cR tP
noncomputable abbrev bGv : Code := cL tP
noncomputable abbrev bCp : Code := cL wL
noncomputable abbrev bBl : Code := cL tM
noncomputable abbrev bGg : Code := cL qH
noncomputable abbrev cYu : Code := cR qO
noncomputable abbrev bEp : Code := cL rJ
noncomputable abbrev bHi : Code := cL aHv
noncomputable abbrev aEj : Code := cL aKn
noncomputable abbrev aHe : Code := cL c164
noncomputable abbrev r164 : K := aQ CF Tryz.f164
noncomputable def D164 (r : RT) (n : Nat) (c : Code) (X : Nat → K) (k : K) : K := aP CF r 175 n c X r164 k
theorem cUs : D164 r n dSm x0 r164 = (K5 (gO r n) 0 1 4 7 8) :=
 (by kernel_rfl)
theorem cMl : D164 r n cZk x0 (K5 (gO r n) 0 1 4 7 8) = (K5 (tU r n) 0 1 4 7 11) :=
 (by kernel_rfl)
theorem bKk : D164 r n vI x0 (K5 (gO r n) 0 1 4 7 8) = D164 r n bFq x0 (K5 (tU r n) 0 1 4 7 11) :=
 congrArg (fun k => D164 r n bFq x0 k) (cMl r n)
theorem bXa : D164 r n vI x0 (K5 (gO r n) 0 1 4 7 8) = (K5 (aFp r n) 0 1 4 7 11) :=
 (bKk r n).trans
 ((by kernel_rfl))
theorem cKy : D164 r n wQ x0 (K5 (gO r n) 0 1 4 7 8) = D164 r n bAy x0 (K5 (aFp r n) 0 1 4 7 11) :=
 congrArg (fun k => D164 r n bAy x0 k) (bXa r n)
theorem cWh : D164 r n wQ x0 (K5 (gO r n) 0 1 4 7 8) = (K4 (aZf r n) 0 1 4 7) :=
 (cKy r n).trans
 ((by kernel_rfl))
theorem bYh : D164 r n zZ x0 (K5 (gO r n) 0 1 4 7 8) = D164 r n bAz x0 (K4 (aZf r n) 0 1 4 7) :=
 congrArg (fun k => D164 r n bAz x0 k) (cWh r n)
theorem cUt : D164 r n zZ x0 (K5 (gO r n) 0 1 4 7 8) = (K4 (bZa r n) 0 1 4 7) :=
 (bYh r n).trans
 ((by kernel_rfl))
theorem cYk : D164 r n aAr x0 (K5 (gO r n) 0 1 4 7 8) = (K6 (aYl r n) 0 1 4 7 8 72) :=
 (by kernel_rfl : D164 r n aAr x0 (K5 (gO r n) 0 1 4 7 8) = (fun (env : aZ) (h : Hp) => aU (opr env (cC aAr)) (D164 r n zZ x0 (K5 (gO r n) 0 1 4 7 8) env h) (D164 r n dDo x0 (K5 (gO r n) 0 1 4 7 8) env h))).trans (by rw [cUt r n]; kernel_rfl)
theorem cLb : D164 r n aGv x0 r164 = D164 r n yL x0 (K5 (gO r n) 0 1 4 7 8) :=
 congrArg (fun k => D164 r n yL x0 k) (cUs r n)
theorem bUm : D164 r n yL x0 (K5 (gO r n) 0 1 4 7 8) = D164 r n bDw x0 (K6 (aYl r n) 0 1 4 7 8 72) :=
 congrArg (fun k => D164 r n bDw x0 k) (cYk r n)
theorem cPo : D164 r n aGv x0 r164 = (K5 (iL r n) 0 1 4 7 8) :=
 (cLb r n).trans
 ((bUm r n).trans
 ((by kernel_rfl)))
theorem cJp : D164 r n cPd x0 (K5 (iL r n) 0 1 4 7 8) = (K3 (dU r n) 1 4 7) :=
 (by kernel_rfl)
theorem bMm (kk16 : bT) : D164 r n lO (xs x0 0 (K3 (dU r n) 1 4 7)) (K4 kk16 0 1 4 7) = (K4 (aOq r n kk16) 0 1 4 7) :=
 (by kernel_rfl)
theorem bMy (m : Nat) : aK (fun kk => D164 r n lO (xs x0 0 (K3 (dU r n) 1 4 7)) kk) m = (K4 (qR r n m) 0 1 4 7) := by
 induction m with
 | zero => exact (by kernel_rfl : aK (fun kk => D164 r n lO (xs x0 0 (K3 (dU r n) 1 4 7)) kk) 0 = (K4 (qR r n 0) 0 1 4 7))
 | succ m ih =>
  refine (by kernel_rfl : aK (fun kk => D164 r n lO (xs x0 0 (K3 (dU r n) 1 4 7)) kk) (m + 1) = D164 r n lO (xs x0 0 (K3 (dU r n) 1 4 7)) (aK (fun kk => D164 r n lO (xs x0 0 (K3 (dU r n) 1 4 7)) kk) m)).trans ?_
  rw [ih]
  exact (bMm r n (qR r n m)).trans (by kernel_rfl)
theorem cEf : D164 r n uF (xs x0 0 (K3 (dU r n) 1 4 7)) (K3 (dU r n) 1 4 7) = (K4 (bAw r n) 0 1 4 7) :=
 (by kernel_rfl : D164 r n uF (xs x0 0 (K3 (dU r n) 1 4 7)) (K3 (dU r n) 1 4 7) = aK (fun kk => D164 r n lO (xs x0 0 (K3 (dU r n) 1 4 7)) kk) n).trans ((bMy r n n).trans (by kernel_rfl))
theorem bKp : D164 r n wK x0 (K5 (iL r n) 0 1 4 7 8) = D164 r n vV x0 (K3 (dU r n) 1 4 7) :=
 congrArg (fun k => D164 r n vV x0 k) (cJp r n)
theorem bYs : D164 r n wK x0 (K5 (iL r n) 0 1 4 7 8) = (K4 (aId r n) 0 1 4 7) :=
 (bKp r n).trans
 ((by kernel_rfl : D164 r n vV x0 (K3 (dU r n) 1 4 7) = D164 r n uF (xs x0 0 (K3 (dU r n) 1 4 7)) (K3 (dU r n) 1 4 7)).trans
 ((cEf r n).trans (by kernel_rfl)))
theorem bJw : D164 r n qC x0 (K5 (iL r n) 0 1 4 7 8) = D164 r n bAr x0 (K4 (aId r n) 0 1 4 7) :=
 congrArg (fun k => D164 r n bAr x0 k) (bYs r n)
theorem bRr : D164 r n qC x0 (K5 (iL r n) 0 1 4 7 8) = (K4 (bAf r n) 0 1 4 7) :=
 (bJw r n).trans
 ((by kernel_rfl))
theorem cDm : D164 r n qM x0 (K5 (iL r n) 0 1 4 7 8) = (K6 (aIi r n) 0 1 4 7 8 43) :=
 (by kernel_rfl : D164 r n qM x0 (K5 (iL r n) 0 1 4 7 8) = (fun (env : aZ) (h : Hp) => aU (opr env (cC qM)) (D164 r n qC x0 (K5 (iL r n) 0 1 4 7 8) env h) (D164 r n cPk x0 (K5 (iL r n) 0 1 4 7 8) env h))).trans (by rw [bRr r n]; kernel_rfl)
theorem cGo : D164 r n aMj x0 r164 = D164 r n pV x0 (K5 (iL r n) 0 1 4 7 8) :=
 congrArg (fun k => D164 r n pV x0 k) (cPo r n)
theorem cNb : D164 r n pV x0 (K5 (iL r n) 0 1 4 7 8) = D164 r n bIq x0 (K6 (aIi r n) 0 1 4 7 8 43) :=
 congrArg (fun k => D164 r n bIq x0 k) (cDm r n)
theorem cOc : D164 r n aMj x0 r164 = (K5 (fQ r n) 0 1 4 7 8) :=
 (cGo r n).trans
 ((cNb r n).trans
 ((by kernel_rfl)))
theorem bQo : D164 r n cZh x0 (K5 (fQ r n) 0 1 4 7 8) = (K5 (vR r n) 0 1 4 7 9) :=
 (by kernel_rfl)
theorem aYc : D164 r n tP x0 (K5 (fQ r n) 0 1 4 7 8) = D164 r n bGv x0 (K5 (vR r n) 0 1 4 7 9) :=
 congrArg (fun k => D164 r n bGv x0 k) (bQo r n)
theorem bXt : D164 r n tP x0 (K5 (fQ r n) 0 1 4 7 8) = (K5 (aDf r n) 0 1 4 7 9) :=
 (aYc r n).trans
 ((by kernel_rfl))
theorem aUw : D164 r n wL x0 (K5 (fQ r n) 0 1 4 7 8) = D164 r n bCp x0 (K5 (aDf r n) 0 1 4 7 9) :=
 congrArg (fun k => D164 r n bCp x0 k) (bXt r n)
theorem bOj : D164 r n wL x0 (K5 (fQ r n) 0 1 4 7 8) = (K5 (aEk r n) 0 1 4 7 9) :=
 (aUw r n).trans
 ((by kernel_rfl))
theorem aRt : D164 r n tM x0 (K5 (fQ r n) 0 1 4 7 8) = D164 r n bBl x0 (K5 (aEk r n) 0 1 4 7 9) :=
 congrArg (fun k => D164 r n bBl x0 k) (bOj r n)
theorem cDb : D164 r n tM x0 (K5 (fQ r n) 0 1 4 7 8) = (K5 (aCf r n) 0 1 4 7 9) :=
 (aRt r n).trans
 ((by kernel_rfl))
theorem aWy : D164 r n qH x0 (K5 (fQ r n) 0 1 4 7 8) = D164 r n bGg x0 (K5 (aCf r n) 0 1 4 7 9) :=
 congrArg (fun k => D164 r n bGg x0 k) (cDb r n)
theorem bWl : D164 r n qH x0 (K5 (fQ r n) 0 1 4 7 8) = (K4 (bAp r n) 0 1 4 7) :=
 (aWy r n).trans
 ((by kernel_rfl))
theorem cCq : D164 r n qO x0 (K5 (fQ r n) 0 1 4 7 8) = (K6 (aMp r n) 0 1 4 7 8 19) :=
 (by kernel_rfl : D164 r n qO x0 (K5 (fQ r n) 0 1 4 7 8) = (fun (env : aZ) (h : Hp) => aU (opr env (cC qO)) (D164 r n qH x0 (K5 (fQ r n) 0 1 4 7 8) env h) (D164 r n cYu x0 (K5 (fQ r n) 0 1 4 7 8) env h))).trans (by rw [bWl r n]; kernel_rfl)
theorem bJn : D164 r n aJc x0 r164 = D164 r n rJ x0 (K5 (fQ r n) 0 1 4 7 8) :=
 congrArg (fun k => D164 r n rJ x0 k) (cOc r n)
theorem bIs : D164 r n rJ x0 (K5 (fQ r n) 0 1 4 7 8) = D164 r n bEp x0 (K6 (aMp r n) 0 1 4 7 8 19) :=
 congrArg (fun k => D164 r n bEp x0 k) (cCq r n)
theorem cQa : D164 r n aJc x0 r164 = (K5 (aZa r n) 0 1 4 7 8) :=
 (bJn r n).trans
 ((bIs r n).trans
 ((by kernel_rfl)))
theorem bLg : D164 r n aHv x0 r164 = D164 r n bHi x0 (K5 (aZa r n) 0 1 4 7 8) :=
 congrArg (fun k => D164 r n bHi x0 k) (cQa r n)
theorem cWw : D164 r n aHv x0 r164 = (K4 (aAj r n) 0 1 4 7) :=
 (bLg r n).trans
 ((by kernel_rfl))
theorem bIt : D164 r n aKn x0 r164 = D164 r n aEj x0 (K4 (aAj r n) 0 1 4 7) :=
 congrArg (fun k => D164 r n aEj x0 k) (cWw r n)
theorem bKy (q0 : bT) : D164 r n aEj x0 (K4 q0 0 1 4 7) = fun (env : aZ) (h : Hp) =>
 bnd (bL [(aF 0), (.s []), (aF 0), (aF 0)] [(3, 1, (env 1))] h) fun v1 h1 =>
 bnd (bS [(aF 0), (.s []), (aF 0), (aF 0)] h1) fun v2 h2 =>
 bnd (aJ 4 v2 v1 h2) fun _ h3 =>
  q0 (env 0) (env 1) (env 4) v2 h3 := by kernel_rfl
theorem aYy : (fun (env : aZ) (h : Hp) =>
 bnd (bL [(aF 0), (.s []), (aF 0), (aF 0)] [(3, 1, (env 1))] h) fun v1 h1 =>
 bnd (bS [(aF 0), (.s []), (aF 0), (aF 0)] h1) fun v2 h2 =>
 bnd (aJ 4 v2 v1 h2) fun _ h3 =>
  aAj r n (env 0) (env 1) (env 4) v2 h3) = (K3 (sM r n) 0 1 4) := by kernel_rfl
theorem cQu : D164 r n aKn x0 r164 = (K3 (sM r n) 0 1 4) :=
 (bIt r n).trans
 ((bKy r n (aAj r n)).trans (aYy r n))
theorem cPc : D164 r n c164 x0 r164 = D164 r n aHe x0 (K3 (sM r n) 0 1 4) :=
 congrArg (fun k => D164 r n aHe x0 k) (cQu r n)
theorem cOl (q0 : bZ) : D164 r n aHe x0 (K3 q0 0 1 4) = fun (env : aZ) (h : Hp) =>
 bnd (bS [(aF 0), (.s []), (aF 0), (aF 0)] h) fun v1 h1 =>
  q0 (env 0) (env 1) v1 h1 := by kernel_rfl
theorem cCg : (fun (env : aZ) (h : Hp) =>
 bnd (bS [(aF 0), (.s []), (aF 0), (aF 0)] h) fun v1 h1 =>
  sM r n (env 0) (env 1) v1 h1) = (K2 (s164 r n) 0 1) := by kernel_rfl
theorem dYc : D164 r n c164 x0 r164 = (K2 (s164 r n) 0 1) :=
 (cPc r n).trans
 ((cOl r n (sM r n)).trans (cCg r n))
theorem dSa : aG CF r n 164 args h = s164 r n (aR args 0) (aR args 1) h :=
 (by kernel_rfl : aG CF r n 164 args h = D164 r n c164 x0 r164 (aI args) h).trans ((congrFun (congrFun (dYc r n) (aI args)) h).trans (by kernel_rfl))
noncomputable def s165 (r : RT) (n : Nat) (x0 x1 x2 : DV) (h0 : Hp) : aH :=
 bnd (r 170 [x0, (aF 0)] h0) fun v1 h1 =>
 bnd (bS [(aF 0), (.s []), (aF 0), (aF 0)] h1) fun v2 h2 =>
 bnd (aJ 4 v2 v1 h2) fun _ h3 =>
 bnd (aX x0 h3) fun v4 h4 =>
 bnd (aB 3 v4 h4) fun v5 h5 =>
 bnd (aA v5 h5) fun v6 h6 =>
 bnd (aD .eql v6 (aF 0) h6) fun v7 h7 =>
 bnd (gD v7 true (aB 0 v2 h7) h7) fun v8 h8 =>
 bnd (gD v7 true (aA v8 h8) h8) fun v9 h9 =>
 bnd (gD v7 true (some (x1, h9)) h9) fun v10 h10 =>
 bnd (gD v7 true (aD .eql v9 v10 h10) h10) fun v11 h11 =>
 bnd (aN v7 v11 (.b false) h11) fun v12 h12 =>
 bnd (gD v12 true (some (x2, h12)) h12) fun v13 h13 =>
 bnd (gD v12 true (fK .eql v13 (.s []) h13) h13) fun v14 h14 =>
 bnd (gD v12 true (some (v14, h14)) h14) fun v15 h15 =>
 bnd (gD v15 false (aB 1 v2 h15) h15) fun v16 h16 =>
 bnd (gD v15 false (aA v16 h16) h16) fun v17 h17 =>
 bnd (gD v15 false (some (x2, h17)) h17) fun v18 h18 =>
 bnd (gD v15 false (fK .eql v17 v18 h18) h18) fun v19 h19 =>
 bnd (gD v12 true (aN v15 (.b true) v19 h19) h19) fun v20 h20 =>
 bnd (aN v12 v20 (.b false) h20) fun v21 h21 =>
 some (v21, h21)
noncomputable abbrev c165 : Code := cf Tryz.f165
noncomputable abbrev r165 : K := aQ CF Tryz.f165
noncomputable def D165 (r : RT) (n : Nat) (c : Code) (X : Nat → K) (k : K) : K := aP CF r 31 n c X r165 k
theorem dZx : D165 r n c165 x0 r165 = (K3 (s165 r n) 0 1 2) :=
 (by kernel_rfl)
theorem dNu : aG CF r n 165 args h = s165 r n (aR args 0) (aR args 1) (aR args 2) h :=
 (by kernel_rfl : aG CF r n 165 args h = D165 r n c165 x0 r165 (aI args) h).trans ((congrFun (congrFun (dZx r n) (aI args)) h).trans (by kernel_rfl))
noncomputable def s166 (r : RT) (n : Nat) (x0 : DV) (h0 : Hp) : aH :=
 bnd (bS [(aF 0), (.s []), (aF 0), (aF 0)] h0) fun v1 h1 =>
 bnd (r 170 [x0, (aF 0)] h1) fun v2 h2 =>
 bnd (bS [(aF 0), (.s []), (aF 0), (aF 0)] h2) fun v3 h3 =>
 bnd (aJ 4 v3 v2 h3) fun _ h4 =>
 bnd (aX x0 h4) fun v5 h5 =>
 bnd (aB 1 v5 h5) fun v6 h6 =>
 bnd (aA v6 h6) fun v7 h7 =>
 bnd (aD .add v7 (aF 1) h7) fun v8 h8 =>
 bnd (aX x0 h8) fun v9 h9 =>
 bnd (aB 1 v9 h9) fun v10 h10 =>
 bnd (aJ 1 v10 v8 h10) fun _ h11 =>
 bnd (aL 4 v3 h11) fun v12 h12 =>
 bnd (aJ 4 v1 v12 h12) fun _ h13 =>
 bnd (aL 4 v1 h13) fun v14 _ =>
 some (v14, h13)
noncomputable abbrev c166 : Code := cf Tryz.f166
noncomputable abbrev r166 : K := aQ CF Tryz.f166
noncomputable def D166 (r : RT) (n : Nat) (c : Code) (X : Nat → K) (k : K) : K := aP CF r 14 n c X r166 k
theorem eGe : D166 r n c166 x0 r166 = (K1 (s166 r n) 0) :=
 (by kernel_rfl)
theorem dJo : aG CF r n 166 args h = s166 r n (aR args 0) h :=
 (by kernel_rfl : aG CF r n 166 args h = D166 r n c166 x0 r166 (aI args) h).trans ((congrFun (congrFun (eGe r n) (aI args)) h).trans (by kernel_rfl))
noncomputable def aIu (r : RT) (n : Nat) (x2 x7 : DV) (h0 : Hp) : aH :=
 bnd (aW 1 16 .l0 x2 h0) fun v1 h1 =>
 bnd (aB 1 x7 h1) fun v2 h2 =>
 bnd (aA v2 h2) fun v3 h3 =>
 bnd (aO [(.s [])] 1 [(0, 1, v3)] h3) fun v4 h4 =>
 bnd (aW 1 16 v1 v4 h4) fun v5 h5 =>
 some (v5, h5)
noncomputable def zM (r : RT) (n : Nat) (x0 x2 x7 : DV) (h0 : Hp) : aH :=
 bnd (aX x0 h0) fun v1 h1 =>
 bnd (aB 3 v1 h1) fun v2 h2 =>
 bnd (aA v2 h2) fun v3 h3 =>
 bnd (aD .eql v3 (aF 0) h3) fun v4 h4 =>
 bnd (gD v4 true (some (x2, h4)) h4) fun v5 h5 =>
 bnd (gD v4 true (bJ v5 h5) h5) fun v6 h6 =>
 bnd (gD v4 true (aD .eql v6 (aF 4) h6) h6) fun v7 h7 =>
 bnd (aN v4 v7 (.b false) h7) fun v8 h8 =>
 aU v8 (
 bnd (aL 4 x7 h8) fun v9 h9 =>
 bnd (r 168 [x0, v9, (aF 18)] h9) fun v10 h10 =>
  aIu r n x2 x7 h10) (
  aIu r n x2 x7 h8)
noncomputable def aJh (r : RT) (n : Nat) (x0 x1 x2 : DV) (h0 : Hp) : aH :=
 bnd (r 129 [x0, x1, (.s [])] h0) fun v1 h1 =>
 bnd (bS [(aF 0), (.s []), (aF 0), (aF 0)] h1) fun v2 h2 =>
 bnd (aJ 4 v2 v1 h2) fun _ h3 =>
  zM r n x0 x2 v2 h3
noncomputable def s167 (r : RT) (n : Nat) (x0 x1 x2 : DV) (h0 : Hp) : aH :=
 aJh r n x0 x1 x2 h0
noncomputable abbrev c167 : Code := cf Tryz.f167
noncomputable abbrev aCc : Code := cR c167
noncomputable abbrev aHx : Code := cR aCc
noncomputable abbrev dUg : Code := cR aHx
noncomputable abbrev cFy : Code := cL aHx
noncomputable abbrev aVk : Code := cL aCc
noncomputable abbrev bZp : Code := cL c167
noncomputable abbrev r167 : K := aQ CF Tryz.f167
noncomputable def D167 (r : RT) (n : Nat) (c : Code) (X : Nat → K) (k : K) : K := aP CF r 33 n c X r167 k
theorem cQo : D167 r n dUg x0 r167 = (K2 (aIu r n) 2 7) :=
 (by kernel_rfl)
theorem cKs : D167 r n aHx x0 r167 = D167 r n cFy x0 (K2 (aIu r n) 2 7) :=
 congrArg (fun k => D167 r n cFy x0 k) (cQo r n)
theorem cRa : D167 r n aHx x0 r167 = (K3 (zM r n) 0 2 7) :=
 (cKs r n).trans
 ((by kernel_rfl))
theorem cLm : D167 r n aCc x0 r167 = D167 r n aVk x0 (K3 (zM r n) 0 2 7) :=
 congrArg (fun k => D167 r n aVk x0 k) (cRa r n)
theorem cCb (q0 : bZ) : D167 r n aVk x0 (K3 q0 0 2 7) = fun (env : aZ) (h : Hp) =>
 bnd (r 129 [(env 0), (env 1), (.s [])] h) fun v1 h1 =>
 bnd (bS [(aF 0), (.s []), (aF 0), (aF 0)] h1) fun v2 h2 =>
 bnd (aJ 4 v2 v1 h2) fun _ h3 =>
  q0 (env 0) (env 2) v2 h3 := by kernel_rfl
theorem bNm : (fun (env : aZ) (h : Hp) =>
 bnd (r 129 [(env 0), (env 1), (.s [])] h) fun v1 h1 =>
 bnd (bS [(aF 0), (.s []), (aF 0), (aF 0)] h1) fun v2 h2 =>
 bnd (aJ 4 v2 v1 h2) fun _ h3 =>
  zM r n (env 0) (env 2) v2 h3) = (K3 (aJh r n) 0 1 2) := by kernel_rfl
theorem cTk : D167 r n aCc x0 r167 = (K3 (aJh r n) 0 1 2) :=
 (cLm r n).trans
 ((cCb r n (zM r n)).trans (bNm r n))
theorem dOu : D167 r n c167 x0 r167 = D167 r n bZp x0 (K3 (aJh r n) 0 1 2) :=
 congrArg (fun k => D167 r n bZp x0 k) (cTk r n)
theorem eFm : D167 r n c167 x0 r167 = (K3 (s167 r n) 0 1 2) :=
 (dOu r n).trans
 ((by kernel_rfl))
theorem dNo : aG CF r n 167 args h = s167 r n (aR args 0) (aR args 1) (aR args 2) h :=
 (by kernel_rfl : aG CF r n 167 args h = D167 r n c167 x0 r167 (aI args) h).trans ((congrFun (congrFun (eFm r n) (aI args)) h).trans (by kernel_rfl))
noncomputable def s170 (r : RT) (n : Nat) (x0 x1 : DV) (h0 : Hp) : aH :=
 bnd (bS [(aF 0), (.s []), (aF 0), (aF 0)] h0) fun v1 h1 =>
 bnd (aX x0 h1) fun v2 h2 =>
 bnd (aB 1 v2 h2) fun v3 h3 =>
 bnd (aA v3 h3) fun v4 h4 =>
 bnd (aD .add v4 x1 h4) fun v5 h5 =>
 bnd (aX x0 h5) fun v6 h6 =>
 bnd (aB 0 v6 h6) fun v7 h7 =>
 bnd (aA v7 h7) fun v8 h8 =>
 bnd (bJ v8 h8) fun v9 h9 =>
 bnd (aD .geq v5 v9 h9) fun v10 h10 =>
 aU v10 (
 bnd (aX x0 h10) fun v11 h11 =>
 bnd (aB 0 v11 h11) fun v12 h12 =>
 bnd (aA v12 h12) fun v13 h13 =>
 bnd (aX x0 h13) fun v14 h14 =>
 bnd (aB 0 v14 h14) fun v15 h15 =>
 bnd (aA v15 h15) fun v16 h16 =>
 bnd (bJ v16 h16) fun v17 h17 =>
 bnd (aD .sub v17 (aF 1) h17) fun v18 h18 =>
 bnd (aC 4 v13 v18 h18) fun v19 h19 =>
 bnd (aL 4 v19 h19) fun v20 h20 =>
 bnd (aJ 4 v1 v20 h20) fun v21 h21 =>
 bnd (aL 4 v1 h21) fun v22 _ =>
 some (v22, h21)) (
 bnd (aX x0 h10) fun v23 h23 =>
 bnd (aB 0 v23 h23) fun v24 h24 =>
 bnd (aA v24 h24) fun v25 h25 =>
 bnd (aX x0 h25) fun v26 h26 =>
 bnd (aB 1 v26 h26) fun v27 h27 =>
 bnd (aA v27 h27) fun v28 h28 =>
 bnd (aD .add v28 x1 h28) fun v29 h29 =>
 bnd (aC 4 v25 v29 h29) fun v30 h30 =>
 bnd (aL 4 v30 h30) fun v31 h31 =>
 bnd (aJ 4 v1 v31 h31) fun v32 h32 =>
 bnd (aL 4 v1 h32) fun v33 _ =>
 some (v33, h32))
noncomputable abbrev c170 : Code := cf Tryz.f170
noncomputable abbrev r170 : K := aQ CF Tryz.f170
noncomputable def D170 (r : RT) (n : Nat) (c : Code) (X : Nat → K) (k : K) : K := aP CF r 41 n c X r170 k
theorem eGd : D170 r n c170 x0 r170 = (K2 (s170 r n) 0 1) :=
 (by kernel_rfl)
theorem dRx : aG CF r n 170 args h = s170 r n (aR args 0) (aR args 1) h :=
 (by kernel_rfl : aG CF r n 170 args h = D170 r n c170 x0 r170 (aI args) h).trans ((congrFun (congrFun (eGd r n) (aI args)) h).trans (by kernel_rfl))
noncomputable def eU (r : RT) (n : Nat) (x4 : DV) (h0 : Hp) : aH :=
 bnd (bL [(.s []), (aF 0), (aF 0)] [] h0) fun v1 h1 =>
 bnd (aJ 3 x4 v1 h1) fun _ h2 =>
 bnd (aL 3 x4 h2) fun v3 _ =>
 some (v3, h2)
noncomputable def bDp (r : RT) (n : Nat) (kk4 : bT) (x0 x1 x4 x5 : DV) (h0 : Hp) : aH :=
 bnd (aX x0 h0) fun v1 h1 =>
 bnd (aB 6 v1 h1) fun v2 h2 =>
 bnd (aA v2 h2) fun v3 h3 =>
 bnd (bJ v3 h3) fun v4 h4 =>
 bnd (aD .lss x5 v4 h4) fun v5 h5 =>
 aU v5 (
 bnd (aX x0 h5) fun v6 h6 =>
 bnd (aB 6 v6 h6) fun v7 h7 =>
 bnd (aA v7 h7) fun v8 h8 =>
 bnd (aC 3 v8 x5 h8) fun v9 h9 =>
 bnd (aB 0 v9 h9) fun v10 h10 =>
 bnd (aA v10 h10) fun v11 h11 =>
 bnd (fK .eql v11 x1 h11) fun v12 h12 =>
 aU v12 (
 bnd (aX x0 h12) fun v13 h13 =>
 bnd (aB 6 v13 h13) fun v14 h14 =>
 bnd (aA v14 h14) fun v15 h15 =>
 bnd (aC 3 v15 x5 h15) fun v16 h16 =>
 bnd (aL 3 v16 h16) fun v17 h17 =>
 bnd (aJ 3 x4 v17 h17) fun _ h18 =>
 bnd (aL 3 x4 h18) fun v19 _ =>
 some (v19, h18)) (
 bnd (aD .add x5 (aF 1) h12) fun v20 h20 =>
    kk4 x0 x1 x4 v20 h20)) (
      eU r n x4 h5)
noncomputable def vB (r : RT) (n : Nat) (m : Nat) : bT :=
 Nat.rec (motive := fun _ => bT) (fun _ _ _ _ _ => none) (fun _ ih => bDp r n ih) m
noncomputable def cMa (r : RT) (n : Nat) : bT := vB r n n
noncomputable def aWr (r : RT) (n : Nat) (x0 x1 x4 x5 : DV) (h0 : Hp) : aH :=
 cMa r n x0 x1 x4 x5 h0
noncomputable def zQ (r : RT) (n : Nat) (x0 x1 x4 : DV) (h0 : Hp) : aH :=
 aWr r n x0 x1 x4 (aF 0) h0
noncomputable def s171 (r : RT) (n : Nat) (x0 x1 : DV) (h0 : Hp) : aH :=
 bnd (bS [(.s []), (aF 0), (aF 0)] h0) fun v1 h1 =>
  zQ r n x0 x1 v1 h1
noncomputable abbrev c171 : Code := cf Tryz.f171
noncomputable abbrev aKj : Code := cR c171
noncomputable abbrev dUb : Code := cR aKj
noncomputable abbrev yE : Code := cL aKj
noncomputable abbrev aXy : Code := cR yE
noncomputable abbrev aCy : Code := cL aXy
noncomputable abbrev oK : Code := cL aCy
noncomputable abbrev cBm : Code := cL yE
noncomputable abbrev aSm : Code := cL c171
noncomputable abbrev r171 : K := aQ CF Tryz.f171
noncomputable def D171 (r : RT) (n : Nat) (c : Code) (X : Nat → K) (k : K) : K := aP CF r 33 n c X r171 k
theorem cYq : D171 r n dUb x0 r171 = (K1 (eU r n) 4) :=
 (by kernel_rfl)
theorem bOg (kk4 : bT) : D171 r n oK (xs x0 0 (K1 (eU r n) 4)) (K4 kk4 0 1 4 5) = (K4 (bDp r n kk4) 0 1 4 5) :=
 (by kernel_rfl)
theorem bXx (m : Nat) : aK (fun kk => D171 r n oK (xs x0 0 (K1 (eU r n) 4)) kk) m = (K4 (vB r n m) 0 1 4 5) := by
 induction m with
 | zero => exact (by kernel_rfl : aK (fun kk => D171 r n oK (xs x0 0 (K1 (eU r n) 4)) kk) 0 = (K4 (vB r n 0) 0 1 4 5))
 | succ m ih =>
  refine (by kernel_rfl : aK (fun kk => D171 r n oK (xs x0 0 (K1 (eU r n) 4)) kk) (m + 1) = D171 r n oK (xs x0 0 (K1 (eU r n) 4)) (aK (fun kk => D171 r n oK (xs x0 0 (K1 (eU r n) 4)) kk) m)).trans ?_
  rw [ih]
  exact (bOg r n (vB r n m)).trans (by kernel_rfl)
theorem cWy : D171 r n aCy (xs x0 0 (K1 (eU r n) 4)) (K1 (eU r n) 4) = (K4 (cMa r n) 0 1 4 5) :=
 (by kernel_rfl : D171 r n aCy (xs x0 0 (K1 (eU r n) 4)) (K1 (eU r n) 4) = aK (fun kk => D171 r n oK (xs x0 0 (K1 (eU r n) 4)) kk) n).trans ((bXx r n n).trans (by kernel_rfl))
theorem cTd : D171 r n aXy x0 (K1 (eU r n) 4) = (K4 (aWr r n) 0 1 4 5) :=
 (by kernel_rfl : D171 r n aXy x0 (K1 (eU r n) 4) = D171 r n aCy (xs x0 0 (K1 (eU r n) 4)) (K1 (eU r n) 4)).trans
 ((cWy r n).trans (by kernel_rfl))
theorem cHj : D171 r n aKj x0 r171 = D171 r n yE x0 (K1 (eU r n) 4) :=
 congrArg (fun k => D171 r n yE x0 k) (cYq r n)
theorem bYx : D171 r n yE x0 (K1 (eU r n) 4) = D171 r n cBm x0 (K4 (aWr r n) 0 1 4 5) :=
 congrArg (fun k => D171 r n cBm x0 k) (cTd r n)
theorem cQw : D171 r n aKj x0 r171 = (K3 (zQ r n) 0 1 4) :=
 (cHj r n).trans
 ((bYx r n).trans
 ((by kernel_rfl)))
theorem dSn : D171 r n c171 x0 r171 = D171 r n aSm x0 (K3 (zQ r n) 0 1 4) :=
 congrArg (fun k => D171 r n aSm x0 k) (cQw r n)
theorem dUs (q0 : bZ) : D171 r n aSm x0 (K3 q0 0 1 4) = fun (env : aZ) (h : Hp) =>
 bnd (bS [(.s []), (aF 0), (aF 0)] h) fun v1 h1 =>
  q0 (env 0) (env 1) v1 h1 := by kernel_rfl
theorem dEa : (fun (env : aZ) (h : Hp) =>
 bnd (bS [(.s []), (aF 0), (aF 0)] h) fun v1 h1 =>
  zQ r n (env 0) (env 1) v1 h1) = (K2 (s171 r n) 0 1) := by kernel_rfl
theorem eGc : D171 r n c171 x0 r171 = (K2 (s171 r n) 0 1) :=
 (dSn r n).trans
 ((dUs r n (zQ r n)).trans (dEa r n))
theorem dNe : aG CF r n 171 args h = s171 r n (aR args 0) (aR args 1) h :=
 (by kernel_rfl : aG CF r n 171 args h = D171 r n c171 x0 r171 (aI args) h).trans ((congrFun (congrFun (eGc r n) (aI args)) h).trans (by kernel_rfl))
end Go.Dd

namespace Go.Dd
open Go.Proofs
variable (r : RT) (n : Nat) (args : List DV) (h : Hp)
noncomputable def s178 (r : RT) (n : Nat) (x0 x1 : DV) (h0 : Hp) : aH :=
 bnd (bQ x1 h0) fun v1 h1 =>
 bnd (aB 0 v1 h1) fun v2 h2 =>
 bnd (aA v2 h2) fun v3 h3 =>
 bnd (aD .eql v3 (aF 5) h3) fun v4 h4 =>
 bnd (gD v4 true (aB 1 v1 h4) h4) fun v5 h5 =>
 bnd (gD v4 true (aA v5 h5) h5) fun v6 h6 =>
 bnd (gD v4 true (fK .eql v6 (.s [115, 117, 112, 101, 114]) h6) h6) fun v7 h7 =>
 bnd (aN v4 v7 (.b false) h7) fun v8 h8 =>
 aU v8 (
 bnd (r 132 [x0, (aF 1), (aF 0), (aF 0)] h8) fun v9 h9 =>
 some ((aF 15), h9)) (
 bnd (aL 6 v1 h8) fun v10 h10 =>
 bnd (r 131 [x0, v10] h10) fun v11 h11 =>
 some ((aF 14), h11))
noncomputable abbrev c178 : Code := cf Tryz.f178
noncomputable abbrev r178 : K := aQ CF Tryz.f178
noncomputable def D178 (r : RT) (n : Nat) (c : Code) (X : Nat → K) (k : K) : K := aP CF r 18 n c X r178 k
theorem dXv : D178 r n c178 x0 r178 = (K2 (s178 r n) 0 1) :=
 (by kernel_rfl)
theorem dTj : aG CF r n 178 args h = s178 r n (aR args 0) (aR args 1) h :=
 (by kernel_rfl : aG CF r n 178 args h = D178 r n c178 x0 r178 (aI args) h).trans ((congrFun (congrFun (dXv r n) (aI args)) h).trans (by kernel_rfl))
noncomputable def fB (r : RT) (n : Nat) (h0 : Hp) : aH :=
 some ((.i .i64 (Int.negSucc 0)), h0)
noncomputable def bDk (r : RT) (n : Nat) (kk4 : bT) (x0 x1 x7 x8 : DV) (h0 : Hp) : aH :=
 bnd (aD .lss x8 x7 h0) fun v1 h1 =>
 aU v1 (
 bnd (aC 4 x0 x8 h1) fun v2 h2 =>
 bnd (aL 4 v2 h2) fun v3 h3 =>
 bnd (jX CF r x1 [v3] h3) fun v4 h4 =>
 aU v4 (
 some (x8, h4)) (
 bnd (aD .add x8 (aF 1) h4) fun v5 h5 =>
    kk4 x0 x1 x7 v5 h5)) (
      fB r n h1)
noncomputable def wO (r : RT) (n : Nat) (m : Nat) : bT :=
 Nat.rec (motive := fun _ => bT) (fun _ _ _ _ _ => none) (fun _ ih => bDk r n ih) m
noncomputable def bXm (r : RT) (n : Nat) : bT := wO r n n
noncomputable def aTl (r : RT) (n : Nat) (x0 x1 x7 x8 : DV) (h0 : Hp) : aH :=
 bXm r n x0 x1 x7 x8 h0
noncomputable def aUx (r : RT) (n : Nat) (x0 x1 : DV) (h0 : Hp) : aH :=
 bnd (bJ x0 h0) fun v1 h1 =>
  aTl r n x0 x1 v1 (aF 0) h1
noncomputable def s187 (r : RT) (n : Nat) (x0 x1 : DV) (h0 : Hp) : aH :=
 aUx r n x0 x1 h0
noncomputable abbrev c187 : Code := cf Tryz.f187
noncomputable abbrev aHm : Code := cR c187
noncomputable abbrev dJb : Code := cR aHm
noncomputable abbrev aAk : Code := cL aHm
noncomputable abbrev aVd : Code := cR aAk
noncomputable abbrev aHt : Code := cL aVd
noncomputable abbrev pI : Code := cL aHt
noncomputable abbrev bPh : Code := cL aAk
noncomputable abbrev cBj : Code := cL c187
noncomputable abbrev r187 : K := aQ CF Tryz.f187
noncomputable def D187 (r : RT) (n : Nat) (c : Code) (X : Nat → K) (k : K) : K := aP CF r 19 n c X r187 k
theorem cOb : D187 r n dJb x0 r187 = (K0 (fB r n)) :=
 (by kernel_rfl)
theorem bUd (kk4 : bT) : D187 r n pI (xs x0 0 (K0 (fB r n))) (K4 kk4 0 1 7 8) = (K4 (bDk r n kk4) 0 1 7 8) :=
 (by kernel_rfl)
theorem bRl (m : Nat) : aK (fun kk => D187 r n pI (xs x0 0 (K0 (fB r n))) kk) m = (K4 (wO r n m) 0 1 7 8) := by
 induction m with
 | zero => exact (by kernel_rfl : aK (fun kk => D187 r n pI (xs x0 0 (K0 (fB r n))) kk) 0 = (K4 (wO r n 0) 0 1 7 8))
 | succ m ih =>
  refine (by kernel_rfl : aK (fun kk => D187 r n pI (xs x0 0 (K0 (fB r n))) kk) (m + 1) = D187 r n pI (xs x0 0 (K0 (fB r n))) (aK (fun kk => D187 r n pI (xs x0 0 (K0 (fB r n))) kk) m)).trans ?_
  rw [ih]
  exact (bUd r n (wO r n m)).trans (by kernel_rfl)
theorem cQg : D187 r n aHt (xs x0 0 (K0 (fB r n))) (K0 (fB r n)) = (K4 (bXm r n) 0 1 7 8) :=
 (by kernel_rfl : D187 r n aHt (xs x0 0 (K0 (fB r n))) (K0 (fB r n)) = aK (fun kk => D187 r n pI (xs x0 0 (K0 (fB r n))) kk) n).trans ((bRl r n n).trans (by kernel_rfl))
theorem cXb : D187 r n aVd x0 (K0 (fB r n)) = (K4 (aTl r n) 0 1 7 8) :=
 (by kernel_rfl : D187 r n aVd x0 (K0 (fB r n)) = D187 r n aHt (xs x0 0 (K0 (fB r n))) (K0 (fB r n))).trans
 ((cQg r n).trans (by kernel_rfl))
theorem cDj : D187 r n aHm x0 r187 = D187 r n aAk x0 (K0 (fB r n)) :=
 congrArg (fun k => D187 r n aAk x0 k) (cOb r n)
theorem bYq : D187 r n aAk x0 (K0 (fB r n)) = D187 r n bPh x0 (K4 (aTl r n) 0 1 7 8) :=
 congrArg (fun k => D187 r n bPh x0 k) (cXb r n)
theorem cPf : D187 r n aHm x0 r187 = (K2 (aUx r n) 0 1) :=
 (cDj r n).trans
 ((bYq r n).trans
 ((by kernel_rfl)))
theorem dOb : D187 r n c187 x0 r187 = D187 r n cBj x0 (K2 (aUx r n) 0 1) :=
 congrArg (fun k => D187 r n cBj x0 k) (cPf r n)
theorem eDy : D187 r n c187 x0 r187 = (K2 (s187 r n) 0 1) :=
 (dOb r n).trans
 ((by kernel_rfl))
theorem dSd : aG CF r n 187 args h = s187 r n (aR args 0) (aR args 1) h :=
 (by kernel_rfl : aG CF r n 187 args h = D187 r n c187 x0 r187 (aI args) h).trans ((congrFun (congrFun (eDy r n) (aI args)) h).trans (by kernel_rfl))
end Go.Dd

namespace Go.Dd
open Go.Proofs
variable (r : RT) (n : Nat) (args : List DV) (h : Hp)
noncomputable def cI (r : RT) (n : Nat) (x2 x3 : DV) (h0 : Hp) : aH :=
 some (.t [x2, x3], h0)
noncomputable def cW (r : RT) (n : Nat) (x3 : DV) (h0 : Hp) : aH :=
 cI r n (.b true) x3 h0
noncomputable def dK (r : RT) (n : Nat) (h0 : Hp) : aH :=
 cW r n (.b true) h0
noncomputable def pN (r : RT) (n : Nat) (x2 x3 : DV) (h0 : Hp) : aH :=
 cI r n x2 x3 h0
noncomputable def nD (r : RT) (n : Nat) (x2 x3 x11 : DV) (h0 : Hp) : aH :=
 aU x11 (
  cW r n x3 h0) (
  pN r n x2 x3 h0)
noncomputable def xE (r : RT) (n : Nat) (x2 x3 x4 : DV) (h0 : Hp) : aH :=
 bnd (aD .eql x4 (aF 6) h0) fun v1 h1 =>
 aU v1 (
  nD r n x2 x3 v1 h1) (
 bnd (aD .eql x4 (aF 7) h1) fun v2 h2 =>
 aU v2 (
   nD r n x2 x3 v2 h2) (
 bnd (aD .eql x4 (aF 8) h2) fun v3 h3 =>
 aU v3 (
    nD r n x2 x3 v3 h3) (
 bnd (aD .eql x4 (aF 9) h3) fun v4 h4 =>
 aU v4 (
     nD r n x2 x3 v4 h4) (
 bnd (aD .eql x4 (aF 10) h4) fun v5 h5 =>
 aU v5 (
      nD r n x2 x3 v5 h5) (
 bnd (aD .eql x4 (aF 11) h5) fun v6 h6 =>
      nD r n x2 x3 v6 h6)))))
noncomputable def oZ (r : RT) (n : Nat) (x2 x3 x4 x5 : DV) (h0 : Hp) : aH :=
 aU x5 (
  dK r n h0) (
  xE r n x2 x3 x4 h0)
noncomputable def aWt (r : RT) (n : Nat) (x2 x3 x4 : DV) (h0 : Hp) : aH :=
 bnd (aD .eql x4 (aF 14) h0) fun v1 h1 =>
 aU v1 (
  oZ r n x2 x3 x4 v1 h1) (
 bnd (aD .eql x4 (aF 15) h1) fun v2 h2 =>
 aU v2 (
   oZ r n x2 x3 x4 v2 h2) (
 bnd (aD .eql x4 (aF 16) h2) fun v3 h3 =>
 aU v3 (
    oZ r n x2 x3 x4 v3 h3) (
 bnd (aD .eql x4 (aF 17) h3) fun v4 h4 =>
 aU v4 (
     oZ r n x2 x3 x4 v4 h4) (
 bnd (aD .eql x4 (aF 18) h4) fun v5 h5 =>
     oZ r n x2 x3 x4 v5 h5))))
noncomputable def aRp (r : RT) (n : Nat) (x0 x2 x3 : DV) (h0 : Hp) : aH :=
 aWt r n x2 x3 x0 h0
noncomputable def s189 (r : RT) (n : Nat) (x0 : DV) (h0 : Hp) : aH :=
 aRp r n x0 (.b false) (.b false) h0
noncomputable abbrev c189 : Code := cf Tryz.f189
noncomputable abbrev aJk : Code := cR c189
noncomputable abbrev dLv : Code := cR aJk
noncomputable abbrev wZ : Code := cL aJk
noncomputable abbrev aUa : Code := cR wZ
noncomputable abbrev aLv : Code := cL aUa
noncomputable abbrev dRs : Code := cR aLv
noncomputable abbrev aKx : Code := cL aLv
noncomputable abbrev aCw : Code := cL aKx
noncomputable abbrev dRl : Code := cR aCw
noncomputable abbrev vF : Code := cL aCw
noncomputable abbrev wM : Code := cL vF
noncomputable abbrev cXg : Code := cR wM
noncomputable abbrev qN : Code := cL wM
noncomputable abbrev wE : Code := cR qN
noncomputable abbrev cUc : Code := cR wE
noncomputable abbrev bDn : Code := cL wE
noncomputable abbrev qU : Code := cL qN
noncomputable abbrev cSk : Code := cR qU
noncomputable abbrev bBk : Code := cL qU
noncomputable abbrev bFv : Code := cL wZ
noncomputable abbrev bBr : Code := cL c189
noncomputable abbrev r189 : K := aQ CF Tryz.f189
noncomputable def D189 (r : RT) (n : Nat) (c : Code) (X : Nat → K) (k : K) : K := aP CF r 20 n c X r189 k
theorem dAw : D189 r n dLv x0 r189 = (K2 (cI r n) 2 3) :=
 (by kernel_rfl)
theorem cRt : D189 r n dRs (xs x0 0 (K2 (cI r n) 2 3)) (K2 (cI r n) 2 3) = (K1 (cW r n) 3) :=
 (by kernel_rfl)
theorem cQx : D189 r n dRl (xs (xs x0 0 (K2 (cI r n) 2 3)) 2 (K1 (cW r n) 3)) (K1 (cW r n) 3) = (K0 (dK r n)) :=
 (by kernel_rfl)
theorem dBj : D189 r n cXg (xs (xs (xs x0 0 (K2 (cI r n) 2 3)) 2 (K1 (cW r n) 3)) 1 (K0 (dK r n))) (K0 (dK r n)) = (K2 (pN r n) 2 3) :=
 (by kernel_rfl)
theorem cWi : D189 r n cUc (xs (xs (xs x0 0 (K2 (cI r n) 2 3)) 2 (K1 (cW r n) 3)) 1 (K0 (dK r n))) (K2 (pN r n) 2 3) = (K3 (nD r n) 2 3 11) :=
 (by kernel_rfl)
theorem bQf : D189 r n wE (xs (xs (xs x0 0 (K2 (cI r n) 2 3)) 2 (K1 (cW r n) 3)) 1 (K0 (dK r n))) (K2 (pN r n) 2 3) = D189 r n bDn (xs (xs (xs x0 0 (K2 (cI r n) 2 3)) 2 (K1 (cW r n) 3)) 1 (K0 (dK r n))) (K3 (nD r n) 2 3 11) :=
 congrArg (fun k => D189 r n bDn (xs (xs (xs x0 0 (K2 (cI r n) 2 3)) 2 (K1 (cW r n) 3)) 1 (K0 (dK r n))) k) (cWi r n)
theorem dAt : D189 r n wE (xs (xs (xs x0 0 (K2 (cI r n) 2 3)) 2 (K1 (cW r n) 3)) 1 (K0 (dK r n))) (K2 (pN r n) 2 3) = (K3 (xE r n) 2 3 4) :=
 (bQf r n).trans
 ((by kernel_rfl))
theorem dEx : D189 r n cSk (xs (xs (xs x0 0 (K2 (cI r n) 2 3)) 2 (K1 (cW r n) 3)) 1 (K0 (dK r n))) (K3 (xE r n) 2 3 4) = (K4 (oZ r n) 2 3 4 5) :=
 (by kernel_rfl)
theorem bWj : D189 r n aLv (xs x0 0 (K2 (cI r n) 2 3)) (K2 (cI r n) 2 3) = D189 r n aKx (xs x0 0 (K2 (cI r n) 2 3)) (K1 (cW r n) 3) :=
 congrArg (fun k => D189 r n aKx (xs x0 0 (K2 (cI r n) 2 3)) k) (cRt r n)
theorem cMh : D189 r n aCw (xs (xs x0 0 (K2 (cI r n) 2 3)) 2 (K1 (cW r n) 3)) (K1 (cW r n) 3) = D189 r n vF (xs (xs x0 0 (K2 (cI r n) 2 3)) 2 (K1 (cW r n) 3)) (K0 (dK r n)) :=
 congrArg (fun k => D189 r n vF (xs (xs x0 0 (K2 (cI r n) 2 3)) 2 (K1 (cW r n) 3)) k) (cQx r n)
theorem bOq : D189 r n wM (xs (xs (xs x0 0 (K2 (cI r n) 2 3)) 2 (K1 (cW r n) 3)) 1 (K0 (dK r n))) (K0 (dK r n)) = D189 r n qN (xs (xs (xs x0 0 (K2 (cI r n) 2 3)) 2 (K1 (cW r n) 3)) 1 (K0 (dK r n))) (K2 (pN r n) 2 3) :=
 congrArg (fun k => D189 r n qN (xs (xs (xs x0 0 (K2 (cI r n) 2 3)) 2 (K1 (cW r n) 3)) 1 (K0 (dK r n))) k) (dBj r n)
theorem bSy : D189 r n qN (xs (xs (xs x0 0 (K2 (cI r n) 2 3)) 2 (K1 (cW r n) 3)) 1 (K0 (dK r n))) (K2 (pN r n) 2 3) = D189 r n qU (xs (xs (xs x0 0 (K2 (cI r n) 2 3)) 2 (K1 (cW r n) 3)) 1 (K0 (dK r n))) (K3 (xE r n) 2 3 4) :=
 congrArg (fun k => D189 r n qU (xs (xs (xs x0 0 (K2 (cI r n) 2 3)) 2 (K1 (cW r n) 3)) 1 (K0 (dK r n))) k) (dAt r n)
theorem bPg : D189 r n qU (xs (xs (xs x0 0 (K2 (cI r n) 2 3)) 2 (K1 (cW r n) 3)) 1 (K0 (dK r n))) (K3 (xE r n) 2 3 4) = D189 r n bBk (xs (xs (xs x0 0 (K2 (cI r n) 2 3)) 2 (K1 (cW r n) 3)) 1 (K0 (dK r n))) (K4 (oZ r n) 2 3 4 5) :=
 congrArg (fun k => D189 r n bBk (xs (xs (xs x0 0 (K2 (cI r n) 2 3)) 2 (K1 (cW r n) 3)) 1 (K0 (dK r n))) k) (dEx r n)
theorem cOo : D189 r n aUa x0 (K2 (cI r n) 2 3) = (K3 (aWt r n) 2 3 4) :=
 (by kernel_rfl : D189 r n aUa x0 (K2 (cI r n) 2 3) = D189 r n aLv (xs x0 0 (K2 (cI r n) 2 3)) (K2 (cI r n) 2 3)).trans
 ((bWj r n).trans
 ((by kernel_rfl : D189 r n aKx (xs x0 0 (K2 (cI r n) 2 3)) (K1 (cW r n) 3) = D189 r n aCw (xs (xs x0 0 (K2 (cI r n) 2 3)) 2 (K1 (cW r n) 3)) (K1 (cW r n) 3)).trans
 ((cMh r n).trans
 ((by kernel_rfl : D189 r n vF (xs (xs x0 0 (K2 (cI r n) 2 3)) 2 (K1 (cW r n) 3)) (K0 (dK r n)) = D189 r n wM (xs (xs (xs x0 0 (K2 (cI r n) 2 3)) 2 (K1 (cW r n) 3)) 1 (K0 (dK r n))) (K0 (dK r n))).trans
 ((bOq r n).trans
 ((bSy r n).trans
 ((bPg r n).trans
 ((by kernel_rfl)))))))))
theorem bQy : D189 r n aJk x0 r189 = D189 r n wZ x0 (K2 (cI r n) 2 3) :=
 congrArg (fun k => D189 r n wZ x0 k) (dAw r n)
theorem cIc : D189 r n wZ x0 (K2 (cI r n) 2 3) = D189 r n bFv x0 (K3 (aWt r n) 2 3 4) :=
 congrArg (fun k => D189 r n bFv x0 k) (cOo r n)
theorem cWe : D189 r n aJk x0 r189 = (K3 (aRp r n) 0 2 3) :=
 (bQy r n).trans
 ((cIc r n).trans
 ((by kernel_rfl)))
theorem dKw : D189 r n c189 x0 r189 = D189 r n bBr x0 (K3 (aRp r n) 0 2 3) :=
 congrArg (fun k => D189 r n bBr x0 k) (cWe r n)
theorem dZf : D189 r n c189 x0 r189 = (K1 (s189 r n) 0) :=
 (dKw r n).trans
 ((by kernel_rfl))
theorem dKt : aG CF r n 189 args h = s189 r n (aR args 0) h :=
 (by kernel_rfl : aG CF r n 189 args h = D189 r n c189 x0 r189 (aI args) h).trans ((congrFun (congrFun (dZf r n) (aI args)) h).trans (by kernel_rfl))
noncomputable def s190 (r : RT) (n : Nat) (x0 x1 : DV) (h0 : Hp) : aH :=
 bnd (aD .eql x0 (aF 0) h0) fun v1 h1 =>
 bnd (gD v1 false (some (x1, h1)) h1) fun v2 h2 =>
 bnd (gD v1 false (some (v2, h2)) h2) fun v3 h3 =>
 bnd (gD v3 true (some (x0, h3)) h3) fun v4 h4 =>
 bnd (gD v3 true (aD .gtr v4 (aF 0) h4) h4) fun v5 h5 =>
 bnd (gD v1 false (aN v3 v5 (.b false) h5) h5) fun v6 h6 =>
 bnd (gD v1 false (some (v6, h6)) h6) fun v7 h7 =>
 bnd (gD v7 true (some (x0, h7)) h7) fun v8 h8 =>
 bnd (gD v7 true (aD .leq v8 (aF 255) h8) h8) fun v9 h9 =>
 bnd (gD v1 false (aN v7 v9 (.b false) h9) h9) fun v10 h10 =>
 bnd (aN v1 (.b true) v10 h10) fun v11 h11 =>
 some (v11, h11)
noncomputable abbrev c190 : Code := cf Tryz.f190
noncomputable abbrev r190 : K := aQ CF Tryz.f190
noncomputable def D190 (r : RT) (n : Nat) (c : Code) (X : Nat → K) (k : K) : K := aP CF r 18 n c X r190 k
theorem eBj : D190 r n c190 x0 r190 = (K2 (s190 r n) 0 1) :=
 (by kernel_rfl)
theorem dQp : aG CF r n 190 args h = s190 r n (aR args 0) (aR args 1) h :=
 (by kernel_rfl : aG CF r n 190 args h = D190 r n c190 x0 r190 (aI args) h).trans ((congrFun (congrFun (eBj r n) (aI args)) h).trans (by kernel_rfl))
noncomputable def dH (r : RT) (n : Nat) (x4 : DV) (h0 : Hp) : aH :=
 some (x4, h0)
noncomputable def aNp (r : RT) (n : Nat) (kk5 : bT) (x0 x1 x4 x5 : DV) (h0 : Hp) : aH :=
 bnd (aD .add x5 (aF 1) h0) fun v1 h1 =>
  kk5 x0 x1 x4 v1 h1
noncomputable def aQw (r : RT) (n : Nat) (kk5 : bT) (x0 x1 x4 x5 : DV) (h0 : Hp) : aH :=
 bnd (aA x1 h0) fun v1 h1 =>
 bnd (r 192 [v1, x5] h1) fun v2 h2 =>
 bnd (aE 0 v2 h2) fun v3 h3 =>
 bnd (aE 1 v2 h3) fun v4 h4 =>
 bnd (gD v4 true (some (x0, h4)) h4) fun v5 h5 =>
 bnd (gD v4 true (some (v3, h5)) h5) fun v6 h6 =>
 bnd (gD v4 true (aD .lss v5 v6 h6) h6) fun v7 h7 =>
 bnd (aN v4 v7 (.b false) h7) fun v8 h8 =>
 aU v8 (
  aNp r n kk5 x0 x1 x5 x5 h8) (
  aNp r n kk5 x0 x1 x4 x5 h8)
noncomputable def bEi (r : RT) (n : Nat) (kk5 : bT) (x0 x1 x4 x5 : DV) (h0 : Hp) : aH :=
 bnd (aD .add x5 (aF 2) h0) fun v1 h1 =>
 bnd (aD .leq v1 x0 h1) fun v2 h2 =>
 aU v2 (
   aQw r n kk5 x0 x1 x4 x5 h2) (
   dH r n x4 h2)
noncomputable def wJ (r : RT) (n : Nat) (m : Nat) : bT :=
 Nat.rec (motive := fun _ => bT) (fun _ _ _ _ _ => none) (fun _ ih => bEi r n ih) m
noncomputable def cHb (r : RT) (n : Nat) : bT := wJ r n n
noncomputable def aRc (r : RT) (n : Nat) (x0 x1 x4 x5 : DV) (h0 : Hp) : aH :=
 cHb r n x0 x1 x4 x5 h0
noncomputable def aYp (r : RT) (n : Nat) (x0 x1 x4 : DV) (h0 : Hp) : aH :=
 aRc r n x0 x1 x4 (aF 0) h0
noncomputable def aUl (r : RT) (n : Nat) (x0 x1 : DV) (h0 : Hp) : aH :=
 aYp r n x0 x1 (.i .i64 (Int.negSucc 0)) h0
noncomputable def s191 (r : RT) (n : Nat) (x0 x1 : DV) (h0 : Hp) : aH :=
 aUl r n x0 x1 h0
noncomputable abbrev c191 : Code := cf Tryz.f191
noncomputable abbrev aFv : Code := cR c191
noncomputable abbrev aLt : Code := cR aFv
noncomputable abbrev dGs : Code := cR aLt
noncomputable abbrev aAp : Code := cL aLt
noncomputable abbrev aXd : Code := cR aAp
noncomputable abbrev aEu : Code := cL aXd
noncomputable abbrev kS : Code := cL aEu
noncomputable abbrev aHc : Code := cR kS
noncomputable abbrev dHa : Code := cR aHc
noncomputable abbrev bBa : Code := cL aHc
noncomputable abbrev bBs : Code := cL kS
noncomputable abbrev bEz : Code := cL aAp
noncomputable abbrev bFo : Code := cL aFv
noncomputable abbrev bGj : Code := cL c191
noncomputable abbrev r191 : K := aQ CF Tryz.f191
noncomputable def D191 (r : RT) (n : Nat) (c : Code) (X : Nat → K) (k : K) : K := aP CF r 28 n c X r191 k
theorem dAv : D191 r n dGs x0 r191 = (K1 (dH r n) 4) :=
 (by kernel_rfl)
theorem dEt (kk5 : bT) : D191 r n dHa (xs x0 0 (K1 (dH r n) 4)) (K4 kk5 0 1 4 5) = (K4 (aNp r n kk5) 0 1 4 5) :=
 (by kernel_rfl)
theorem cGi (kk5 : bT) : D191 r n aHc (xs x0 0 (K1 (dH r n) 4)) (K4 kk5 0 1 4 5) = D191 r n bBa (xs x0 0 (K1 (dH r n) 4)) (K4 (aNp r n kk5) 0 1 4 5) :=
 congrArg (fun k => D191 r n bBa (xs x0 0 (K1 (dH r n) 4)) k) (dEt r n kk5)
theorem dCd (kk5 : bT) : D191 r n aHc (xs x0 0 (K1 (dH r n) 4)) (K4 kk5 0 1 4 5) = (K4 (aQw r n kk5) 0 1 4 5) :=
 (cGi r n kk5).trans
 ((by kernel_rfl))
theorem cAa (kk5 : bT) : D191 r n kS (xs x0 0 (K1 (dH r n) 4)) (K4 kk5 0 1 4 5) = D191 r n bBs (xs x0 0 (K1 (dH r n) 4)) (K4 (aQw r n kk5) 0 1 4 5) :=
 congrArg (fun k => D191 r n bBs (xs x0 0 (K1 (dH r n) 4)) k) (dCd r n kk5)
theorem cAi (kk5 : bT) : D191 r n kS (xs x0 0 (K1 (dH r n) 4)) (K4 kk5 0 1 4 5) = (K4 (bEi r n kk5) 0 1 4 5) :=
 (cAa r n kk5).trans
 ((by kernel_rfl))
theorem bXj (m : Nat) : aK (fun kk => D191 r n kS (xs x0 0 (K1 (dH r n) 4)) kk) m = (K4 (wJ r n m) 0 1 4 5) := by
 induction m with
 | zero => exact (by kernel_rfl : aK (fun kk => D191 r n kS (xs x0 0 (K1 (dH r n) 4)) kk) 0 = (K4 (wJ r n 0) 0 1 4 5))
 | succ m ih =>
  refine (by kernel_rfl : aK (fun kk => D191 r n kS (xs x0 0 (K1 (dH r n) 4)) kk) (m + 1) = D191 r n kS (xs x0 0 (K1 (dH r n) 4)) (aK (fun kk => D191 r n kS (xs x0 0 (K1 (dH r n) 4)) kk) m)).trans ?_
  rw [ih]
  exact (cAi r n (wJ r n m)).trans (by kernel_rfl)
theorem cQv : D191 r n aEu (xs x0 0 (K1 (dH r n) 4)) (K1 (dH r n) 4) = (K4 (cHb r n) 0 1 4 5) :=
 (by kernel_rfl : D191 r n aEu (xs x0 0 (K1 (dH r n) 4)) (K1 (dH r n) 4) = aK (fun kk => D191 r n kS (xs x0 0 (K1 (dH r n) 4)) kk) n).trans ((bXj r n n).trans (by kernel_rfl))
theorem cRj : D191 r n aXd x0 (K1 (dH r n) 4) = (K4 (aRc r n) 0 1 4 5) :=
 (by kernel_rfl : D191 r n aXd x0 (K1 (dH r n) 4) = D191 r n aEu (xs x0 0 (K1 (dH r n) 4)) (K1 (dH r n) 4)).trans
 ((cQv r n).trans (by kernel_rfl))
theorem cBe : D191 r n aLt x0 r191 = D191 r n aAp x0 (K1 (dH r n) 4) :=
 congrArg (fun k => D191 r n aAp x0 k) (dAv r n)
theorem cJo : D191 r n aAp x0 (K1 (dH r n) 4) = D191 r n bEz x0 (K4 (aRc r n) 0 1 4 5) :=
 congrArg (fun k => D191 r n bEz x0 k) (cRj r n)
theorem cVv : D191 r n aLt x0 r191 = (K3 (aYp r n) 0 1 4) :=
 (cBe r n).trans
 ((cJo r n).trans
 ((by kernel_rfl)))
theorem cFw : D191 r n aFv x0 r191 = D191 r n bFo x0 (K3 (aYp r n) 0 1 4) :=
 congrArg (fun k => D191 r n bFo x0 k) (cVv r n)
theorem cSo : D191 r n aFv x0 r191 = (K2 (aUl r n) 0 1) :=
 (cFw r n).trans
 ((by kernel_rfl))
theorem dTt : D191 r n c191 x0 r191 = D191 r n bGj x0 (K2 (aUl r n) 0 1) :=
 congrArg (fun k => D191 r n bGj x0 k) (cSo r n)
theorem eGo : D191 r n c191 x0 r191 = (K2 (s191 r n) 0 1) :=
 (dTt r n).trans
 ((by kernel_rfl))
theorem dQl : aG CF r n 191 args h = s191 r n (aR args 0) (aR args 1) h :=
 (by kernel_rfl : aG CF r n 191 args h = D191 r n c191 x0 r191 (aI args) h).trans ((congrFun (congrFun (eGo r n) (aI args)) h).trans (by kernel_rfl))
noncomputable def s192 (r : RT) (n : Nat) (x0 x1 : DV) (h0 : Hp) : aH :=
 bnd (aC 3 x0 x1 h0) fun v1 h1 =>
 bnd (aB 0 v1 h1) fun v2 h2 =>
 bnd (aA v2 h2) fun v3 h3 =>
 bnd (aD .neq v3 (aF 18) h3) fun v4 h4 =>
 bnd (gD v4 false (some (x1, h4)) h4) fun v5 h5 =>
 bnd (gD v4 false (aD .add v5 (aF 1) h5) h5) fun v6 h6 =>
 bnd (gD v4 false (some (x0, h6)) h6) fun v7 h7 =>
 bnd (gD v4 false (bJ v7 h7) h7) fun v8 h8 =>
 bnd (gD v4 false (aD .geq v6 v8 h8) h8) fun v9 h9 =>
 bnd (aN v4 (.b true) v9 h9) fun v10 h10 =>
 bnd (gD v10 false (some (x0, h10)) h10) fun v11 h11 =>
 bnd (gD v10 false (some (x1, h11)) h11) fun v12 h12 =>
 bnd (gD v10 false (aD .add v12 (aF 1) h12) h12) fun v13 h13 =>
 bnd (gD v10 false (aC 3 v11 v13 h13) h13) fun v14 h14 =>
 bnd (gD v10 false (aB 0 v14 h14) h14) fun v15 h15 =>
 bnd (gD v10 false (aA v15 h15) h15) fun v16 h16 =>
 bnd (gD v10 false (aD .neq v16 (aF 16) h16) h16) fun v17 h17 =>
 bnd (aN v10 (.b true) v17 h17) fun v18 h18 =>
 aU v18 (
 some (.t [(aF 0), (.b false)], h18)) (
 bnd (aD .add x1 (aF 1) h18) fun v19 h19 =>
 bnd (aC 3 x0 v19 h19) fun v20 h20 =>
 bnd (aL 3 v20 h20) fun v21 h21 =>
 bnd (r 193 [v21] h21) fun v22 h22 =>
 bnd (aD .add x1 (aF 2) h22) fun v23 h23 =>
 bnd (aD .gtr v22 v23 h23) fun v24 h24 =>
 some (.t [v22, v24], h24))
noncomputable abbrev c192 : Code := cf Tryz.f192
noncomputable abbrev r192 : K := aQ CF Tryz.f192
noncomputable def D192 (r : RT) (n : Nat) (c : Code) (X : Nat → K) (k : K) : K := aP CF r 40 n c X r192 k
theorem dYh : D192 r n c192 x0 r192 = (K2 (s192 r n) 0 1) :=
 (by kernel_rfl)
theorem dNr : aG CF r n 192 args h = s192 r n (aR args 0) (aR args 1) h :=
 (by kernel_rfl : aG CF r n 192 args h = D192 r n c192 x0 r192 (aI args) h).trans ((congrFun (congrFun (dYh r n) (aI args)) h).trans (by kernel_rfl))
noncomputable def s193 (r : RT) (n : Nat) (x0 : DV) (h0 : Hp) : aH :=
 bnd (bQ x0 h0) fun v1 h1 =>
 bnd (aB 0 v1 h1) fun v2 h2 =>
 bnd (aA v2 h2) fun v3 h3 =>
 bnd (r 227 [v3] h3) fun v4 h4 =>
 bnd (gP .not v4 h4) fun v5 h5 =>
 aU v5 (
 some ((.i .i64 (Int.negSucc 0)), h5)) (
 bnd (aB 1 v1 h5) fun v6 h6 =>
 bnd (aA v6 h6) fun v7 h7 =>
 bnd (aB 2 v1 h7) fun v8 h8 =>
 bnd (aA v8 h8) fun v9 h9 =>
 bnd (dL .shl v9 (.i .u64 (Int.ofNat 8)) h9) fun v10 h10 =>
 bnd (aD .add v7 v10 h10) fun v11 h11 =>
 some (v11, h11))
noncomputable abbrev c193 : Code := cf Tryz.f193
noncomputable abbrev r193 : K := aQ CF Tryz.f193
noncomputable def D193 (r : RT) (n : Nat) (c : Code) (X : Nat → K) (k : K) : K := aP CF r 13 n c X r193 k
theorem dZl : D193 r n c193 x0 r193 = (K1 (s193 r n) 0) :=
 (by kernel_rfl)
theorem dOz : aG CF r n 193 args h = s193 r n (aR args 0) h :=
 (by kernel_rfl : aG CF r n 193 args h = D193 r n c193 x0 r193 (aI args) h).trans ((congrFun (congrFun (dZl r n) (aI args)) h).trans (by kernel_rfl))
noncomputable def s194 (r : RT) (n : Nat) (x0 x1 x2 x3 x4 x5 x6 x7 : DV) (h0 : Hp) : aH :=
 bnd (aA x3 h0) fun v1 h1 =>
 bnd (bJ v1 h1) fun v2 h2 =>
 bnd (aD .geq x0 v2 h2) fun v3 h3 =>
 bnd (gD v3 false (aA x4 h3) h3) fun v4 h4 =>
 bnd (gD v3 false (some (x0, h4)) h4) fun v5 h5 =>
 bnd (gD v3 false (aC 1 v4 v5 h5) h5) fun v6 h6 =>
 bnd (gD v3 false (aA v6 h6) h6) fun v7 h7 =>
 bnd (gD v3 false (some (x1, h7)) h7) fun v8 h8 =>
 bnd (gD v3 false (aD .neq v7 v8 h8) h8) fun v9 h9 =>
 bnd (aN v3 (.b true) v9 h9) fun v10 h10 =>
 bnd (gD v10 false (aA x5 h10) h10) fun v11 h11 =>
 bnd (gD v10 false (some (x0, h11)) h11) fun v12 h12 =>
 bnd (gD v10 false (aC 1 v11 v12 h12) h12) fun v13 h13 =>
 bnd (gD v10 false (aA v13 h13) h13) fun v14 h14 =>
 bnd (gD v10 false (aD .geq v14 (aF 0) h14) h14) fun v15 h15 =>
 bnd (gD v10 false (some (v15, h15)) h15) fun v16 h16 =>
 bnd (gD v16 true (aA x5 h16) h16) fun v17 h17 =>
 bnd (gD v16 true (some (x0, h17)) h17) fun v18 h18 =>
 bnd (gD v16 true (aC 1 v17 v18 h18) h18) fun v19 h19 =>
 bnd (gD v16 true (aA v19 h19) h19) fun v20 h20 =>
 bnd (gD v16 true (some (x2, h20)) h20) fun v21 h21 =>
 bnd (gD v16 true (aD .neq v20 v21 h21) h21) fun v22 h22 =>
 bnd (gD v10 false (aN v16 v22 (.b false) h22) h22) fun v23 h23 =>
 bnd (aN v10 (.b true) v23 h23) fun v24 h24 =>
 aU v24 (
 bnd (aJ 1 x6 (.b false) h24) fun _ h25 =>
 some (.t [], h25)) (
 bnd (aA x5 h24) fun v26 h26 =>
 bnd (aC 1 v26 x0 h26) fun v27 h27 =>
 bnd (aA v27 h27) fun v28 h28 =>
 bnd (aD .lss v28 (aF 0) h28) fun v29 h29 =>
 aU v29 (
 bnd (aA x5 h29) fun v30 h30 =>
 bnd (aC 1 v30 x0 h30) fun v31 h31 =>
 bnd (aJ 1 v31 x2 h31) fun _ h32 =>
 bnd (aA x7 h32) fun v33 h33 =>
 bnd (aO [(aF 0)] 1 [(0, 1, x0)] h33) fun v34 h34 =>
 bnd (aW 1 8 v33 v34 h34) fun v35 h35 =>
 bnd (aJ 1 x7 v35 h35) fun _ h36 =>
 some (.t [], h36)) (
 some (.t [], h29)))
noncomputable abbrev c194 : Code := cf Tryz.f194
noncomputable abbrev r194 : K := aQ CF Tryz.f194
noncomputable def D194 (r : RT) (n : Nat) (c : Code) (X : Nat → K) (k : K) : K := aP CF r 53 n c X r194 k
theorem dVq : D194 r n c194 x0 r194 = (K8 (s194 r n) 0 1 2 3 4 5 6 7) :=
 (by kernel_rfl)
theorem dUi : aG CF r n 194 args h = s194 r n (aR args 0) (aR args 1) (aR args 2) (aR args 3) (aR args 4) (aR args 5) (aR args 6) (aR args 7) h :=
 (by kernel_rfl : aG CF r n 194 args h = D194 r n c194 x0 r194 (aI args) h).trans ((congrFun (congrFun (dVq r n) (aI args)) h).trans (by kernel_rfl))
noncomputable def cD (r : RT) (n : Nat) (h0 : Hp) : aH :=
 some ((aF 0), h0)
noncomputable def aFi (r : RT) (n : Nat) (x1 x22 : DV) (h0 : Hp) : aH :=
 aU x22 (
 bnd (aB 2 x1 h0) fun v1 h1 =>
 bnd (aA v1 h1) fun v2 h2 =>
 bnd (gP .neg v2 h2) fun v3 h3 =>
 some (v3, h3)) (
  cD r n h0)
noncomputable def cFk (r : RT) (n : Nat) (x1 x4 : DV) (h0 : Hp) : aH :=
 bnd (aD .eql x4 (aF 14) h0) fun v1 h1 =>
 aU v1 (
  aFi r n x1 v1 h1) (
 bnd (aD .eql x4 (aF 15) h1) fun v2 h2 =>
  aFi r n x1 v2 h2)
noncomputable def sF (r : RT) (n : Nat) (x1 x4 x17 : DV) (h0 : Hp) : aH :=
 aU x17 (
 some ((.i .i64 (Int.negSucc 0)), h0)) (
  cFk r n x1 x4 h0)
noncomputable def bUn (r : RT) (n : Nat) (x1 x4 : DV) (h0 : Hp) : aH :=
 bnd (aD .eql x4 (aF 12) h0) fun v1 h1 =>
 aU v1 (
  sF r n x1 x4 v1 h1) (
 bnd (aD .eql x4 (aF 17) h1) fun v2 h2 =>
 aU v2 (
   sF r n x1 x4 v2 h2) (
 bnd (aD .eql x4 (aF 19) h2) fun v3 h3 =>
 aU v3 (
    sF r n x1 x4 v3 h3) (
 bnd (aD .eql x4 (aF 20) h3) fun v4 h4 =>
    sF r n x1 x4 v4 h4)))
noncomputable def iN (r : RT) (n : Nat) (x1 x4 x5 : DV) (h0 : Hp) : aH :=
 aU x5 (
 some ((aF 1), h0)) (
  bUn r n x1 x4 h0)
noncomputable def aXh (r : RT) (n : Nat) (x1 x4 : DV) (h0 : Hp) : aH :=
 bnd (aD .eql x4 (aF 1) h0) fun v1 h1 =>
 aU v1 (
  iN r n x1 x4 v1 h1) (
 bnd (aD .eql x4 (aF 2) h1) fun v2 h2 =>
 aU v2 (
   iN r n x1 x4 v2 h2) (
 bnd (aD .eql x4 (aF 3) h2) fun v3 h3 =>
 aU v3 (
    iN r n x1 x4 v3 h3) (
 bnd (aD .eql x4 (aF 4) h3) fun v4 h4 =>
 aU v4 (
     iN r n x1 x4 v4 h4) (
 bnd (aD .eql x4 (aF 5) h4) fun v5 h5 =>
 aU v5 (
      iN r n x1 x4 v5 h5) (
 bnd (aD .eql x4 (aF 6) h5) fun v6 h6 =>
 aU v6 (
       iN r n x1 x4 v6 h6) (
 bnd (aD .eql x4 (aF 7) h6) fun v7 h7 =>
 aU v7 (
        iN r n x1 x4 v7 h7) (
 bnd (aD .eql x4 (aF 8) h7) fun v8 h8 =>
 aU v8 (
         iN r n x1 x4 v8 h8) (
 bnd (aD .eql x4 (aF 9) h8) fun v9 h9 =>
 aU v9 (
          iN r n x1 x4 v9 h9) (
 bnd (aD .eql x4 (aF 13) h9) fun v10 h10 =>
 aU v10 (
           iN r n x1 x4 v10 h10) (
 bnd (aD .eql x4 (aF 18) h10) fun v11 h11 =>
           iN r n x1 x4 v11 h11))))))))))
noncomputable def zR (r : RT) (n : Nat) (x1 : DV) (h0 : Hp) : aH :=
 bnd (aB 0 x1 h0) fun v1 h1 =>
 bnd (aA v1 h1) fun v2 h2 =>
  aXh r n x1 v2 h2
noncomputable def s195 (r : RT) (n : Nat) (x0 : DV) (h0 : Hp) : aH :=
 bnd (bQ x0 h0) fun v1 h1 =>
  zR r n v1 h1
noncomputable abbrev c195 : Code := cf Tryz.f195
noncomputable abbrev aLn : Code := cR c195
noncomputable abbrev dPk : Code := cR aLn
noncomputable abbrev yG : Code := cL aLn
noncomputable abbrev aWw : Code := cR yG
noncomputable abbrev aIy : Code := cL aWw
noncomputable abbrev yX : Code := cR aIy
noncomputable abbrev aAi : Code := cR yX
noncomputable abbrev yY : Code := cR aAi
noncomputable abbrev aAn : Code := cR yY
noncomputable abbrev dEm : Code := cR aAn
noncomputable abbrev bAh : Code := cL aAn
noncomputable abbrev cRl : Code := cL yY
noncomputable abbrev bFw : Code := cL aAi
noncomputable abbrev cPh : Code := cL yX
noncomputable abbrev bGn : Code := cL aIy
noncomputable abbrev bBb : Code := cL yG
noncomputable abbrev aNf : Code := cL c195
noncomputable abbrev r195 : K := aQ CF Tryz.f195
noncomputable def D195 (r : RT) (n : Nat) (c : Code) (X : Nat → K) (k : K) : K := aP CF r 28 n c X r195 k
theorem dEu : D195 r n dPk x0 r195 = (K0 (cD r n)) :=
 (by kernel_rfl)
theorem cPt : D195 r n dEm (xs x0 0 (K0 (cD r n))) (K0 (cD r n)) = (K2 (aFi r n) 1 22) :=
 (by kernel_rfl)
theorem bQk : D195 r n aAn (xs x0 0 (K0 (cD r n))) (K0 (cD r n)) = D195 r n bAh (xs x0 0 (K0 (cD r n))) (K2 (aFi r n) 1 22) :=
 congrArg (fun k => D195 r n bAh (xs x0 0 (K0 (cD r n))) k) (cPt r n)
theorem dBm : D195 r n aAn (xs x0 0 (K0 (cD r n))) (K0 (cD r n)) = (K2 (cFk r n) 1 4) :=
 (bQk r n).trans
 ((by kernel_rfl))
theorem cTi : D195 r n yY (xs x0 0 (K0 (cD r n))) (K0 (cD r n)) = (K3 (sF r n) 1 4 17) :=
 (by kernel_rfl : D195 r n yY (xs x0 0 (K0 (cD r n))) (K0 (cD r n)) = (fun (env : aZ) (h : Hp) => aU (opr env (cC yY)) (D195 r n cRl (xs x0 0 (K0 (cD r n))) (K0 (cD r n)) env h) (D195 r n aAn (xs x0 0 (K0 (cD r n))) (K0 (cD r n)) env h))).trans (by rw [dBm r n]; kernel_rfl)
theorem cIu : D195 r n aAi (xs x0 0 (K0 (cD r n))) (K0 (cD r n)) = D195 r n bFw (xs x0 0 (K0 (cD r n))) (K3 (sF r n) 1 4 17) :=
 congrArg (fun k => D195 r n bFw (xs x0 0 (K0 (cD r n))) k) (cTi r n)
theorem cVh : D195 r n aAi (xs x0 0 (K0 (cD r n))) (K0 (cD r n)) = (K2 (bUn r n) 1 4) :=
 (cIu r n).trans
 ((by kernel_rfl))
theorem cOt : D195 r n yX (xs x0 0 (K0 (cD r n))) (K0 (cD r n)) = (K3 (iN r n) 1 4 5) :=
 (by kernel_rfl : D195 r n yX (xs x0 0 (K0 (cD r n))) (K0 (cD r n)) = (fun (env : aZ) (h : Hp) => aU (opr env (cC yX)) (D195 r n cPh (xs x0 0 (K0 (cD r n))) (K0 (cD r n)) env h) (D195 r n aAi (xs x0 0 (K0 (cD r n))) (K0 (cD r n)) env h))).trans (by rw [cVh r n]; kernel_rfl)
theorem bYz : D195 r n aIy (xs x0 0 (K0 (cD r n))) (K0 (cD r n)) = D195 r n bGn (xs x0 0 (K0 (cD r n))) (K3 (iN r n) 1 4 5) :=
 congrArg (fun k => D195 r n bGn (xs x0 0 (K0 (cD r n))) k) (cOt r n)
theorem cQr : D195 r n aWw x0 (K0 (cD r n)) = (K2 (aXh r n) 1 4) :=
 (by kernel_rfl : D195 r n aWw x0 (K0 (cD r n)) = D195 r n aIy (xs x0 0 (K0 (cD r n))) (K0 (cD r n))).trans
 ((bYz r n).trans
 ((by kernel_rfl)))
theorem cGh : D195 r n aLn x0 r195 = D195 r n yG x0 (K0 (cD r n)) :=
 congrArg (fun k => D195 r n yG x0 k) (dEu r n)
theorem cEb : D195 r n yG x0 (K0 (cD r n)) = D195 r n bBb x0 (K2 (aXh r n) 1 4) :=
 congrArg (fun k => D195 r n bBb x0 k) (cQr r n)
theorem dAx : D195 r n aLn x0 r195 = (K1 (zR r n) 1) :=
 (cGh r n).trans
 ((cEb r n).trans
 ((by kernel_rfl)))
theorem dPz : D195 r n c195 x0 r195 = D195 r n aNf x0 (K1 (zR r n) 1) :=
 congrArg (fun k => D195 r n aNf x0 k) (dAx r n)
theorem dJt (q0 : TT1) : D195 r n aNf x0 (K1 q0 1) = fun (env : aZ) (h : Hp) =>
 bnd (bQ (env 0) h) fun v1 h1 =>
  q0 v1 h1 := by kernel_rfl
theorem dCu : (fun (env : aZ) (h : Hp) =>
 bnd (bQ (env 0) h) fun v1 h1 =>
  zR r n v1 h1) = (K1 (s195 r n) 0) := by kernel_rfl
theorem eEt : D195 r n c195 x0 r195 = (K1 (s195 r n) 0) :=
 (dPz r n).trans
 ((dJt r n (zR r n)).trans (dCu r n))
theorem dJj : aG CF r n 195 args h = s195 r n (aR args 0) h :=
 (by kernel_rfl : aG CF r n 195 args h = D195 r n c195 x0 r195 (aI args) h).trans ((congrFun (congrFun (eEt r n) (aI args)) h).trans (by kernel_rfl))
noncomputable def dE (r : RT) (n : Nat) (h0 : Hp) : aH :=
 some ((aF 0), h0)
noncomputable def aGi (r : RT) (n : Nat) (x1 x13 : DV) (h0 : Hp) : aH :=
 aU x13 (
 bnd (aB 2 x1 h0) fun v1 h1 =>
 bnd (aA v1 h1) fun v2 h2 =>
 bnd (aD .add v2 (aF 1) h2) fun v3 h3 =>
 some (v3, h3)) (
  dE r n h0)
noncomputable def cKk (r : RT) (n : Nat) (x1 x4 : DV) (h0 : Hp) : aH :=
 bnd (aD .eql x4 (aF 14) h0) fun v1 h1 =>
 aU v1 (
  aGi r n x1 v1 h1) (
 bnd (aD .eql x4 (aF 15) h1) fun v2 h2 =>
  aGi r n x1 v2 h2)
noncomputable def lW (r : RT) (n : Nat) (x1 x4 x5 : DV) (h0 : Hp) : aH :=
 aU x5 (
 some ((aF 1), h0)) (
  cKk r n x1 x4 h0)
noncomputable def aYr (r : RT) (n : Nat) (x1 x4 : DV) (h0 : Hp) : aH :=
 bnd (aD .eql x4 (aF 12) h0) fun v1 h1 =>
 aU v1 (
  lW r n x1 x4 v1 h1) (
 bnd (aD .eql x4 (aF 13) h1) fun v2 h2 =>
 aU v2 (
   lW r n x1 x4 v2 h2) (
 bnd (aD .eql x4 (aF 10) h2) fun v3 h3 =>
 aU v3 (
    lW r n x1 x4 v3 h3) (
 bnd (aD .eql x4 (aF 11) h3) fun v4 h4 =>
 aU v4 (
     lW r n x1 x4 v4 h4) (
 bnd (aD .eql x4 (aF 17) h4) fun v5 h5 =>
 aU v5 (
      lW r n x1 x4 v5 h5) (
 bnd (aD .eql x4 (aF 20) h5) fun v6 h6 =>
 aU v6 (
       lW r n x1 x4 v6 h6) (
 bnd (aD .eql x4 (aF 19) h6) fun v7 h7 =>
       lW r n x1 x4 v7 h7))))))
noncomputable def zX (r : RT) (n : Nat) (x1 : DV) (h0 : Hp) : aH :=
 bnd (aB 0 x1 h0) fun v1 h1 =>
 bnd (aA v1 h1) fun v2 h2 =>
  aYr r n x1 v2 h2
noncomputable def s196 (r : RT) (n : Nat) (x0 : DV) (h0 : Hp) : aH :=
 bnd (bQ x0 h0) fun v1 h1 =>
  zX r n v1 h1
noncomputable abbrev c196 : Code := cf Tryz.f196
noncomputable abbrev aIc : Code := cR c196
noncomputable abbrev dSr : Code := cR aIc
noncomputable abbrev aAq : Code := cL aIc
noncomputable abbrev aTb : Code := cR aAq
noncomputable abbrev aJd : Code := cL aTb
noncomputable abbrev xO : Code := cR aJd
noncomputable abbrev aAb : Code := cR xO
noncomputable abbrev dIa : Code := cR aAb
noncomputable abbrev cGs : Code := cL aAb
noncomputable abbrev cYn : Code := cL xO
noncomputable abbrev bHl : Code := cL aJd
noncomputable abbrev bFi : Code := cL aAq
noncomputable abbrev aDv : Code := cL c196
noncomputable abbrev r196 : K := aQ CF Tryz.f196
noncomputable def D196 (r : RT) (n : Nat) (c : Code) (X : Nat → K) (k : K) : K := aP CF r 19 n c X r196 k
theorem cSi : D196 r n dSr x0 r196 = (K0 (dE r n)) :=
 (by kernel_rfl)
theorem dEk : D196 r n dIa (xs x0 0 (K0 (dE r n))) (K0 (dE r n)) = (K2 (aGi r n) 1 13) :=
 (by kernel_rfl)
theorem cDk : D196 r n aAb (xs x0 0 (K0 (dE r n))) (K0 (dE r n)) = D196 r n cGs (xs x0 0 (K0 (dE r n))) (K2 (aGi r n) 1 13) :=
 congrArg (fun k => D196 r n cGs (xs x0 0 (K0 (dE r n))) k) (dEk r n)
theorem cPs : D196 r n aAb (xs x0 0 (K0 (dE r n))) (K0 (dE r n)) = (K2 (cKk r n) 1 4) :=
 (cDk r n).trans
 ((by kernel_rfl))
theorem cYw : D196 r n xO (xs x0 0 (K0 (dE r n))) (K0 (dE r n)) = (K3 (lW r n) 1 4 5) :=
 (by kernel_rfl : D196 r n xO (xs x0 0 (K0 (dE r n))) (K0 (dE r n)) = (fun (env : aZ) (h : Hp) => aU (opr env (cC xO)) (D196 r n cYn (xs x0 0 (K0 (dE r n))) (K0 (dE r n)) env h) (D196 r n aAb (xs x0 0 (K0 (dE r n))) (K0 (dE r n)) env h))).trans (by rw [cPs r n]; kernel_rfl)
theorem cEy : D196 r n aJd (xs x0 0 (K0 (dE r n))) (K0 (dE r n)) = D196 r n bHl (xs x0 0 (K0 (dE r n))) (K3 (lW r n) 1 4 5) :=
 congrArg (fun k => D196 r n bHl (xs x0 0 (K0 (dE r n))) k) (cYw r n)
theorem cWu : D196 r n aTb x0 (K0 (dE r n)) = (K2 (aYr r n) 1 4) :=
 (by kernel_rfl : D196 r n aTb x0 (K0 (dE r n)) = D196 r n aJd (xs x0 0 (K0 (dE r n))) (K0 (dE r n))).trans
 ((cEy r n).trans
 ((by kernel_rfl)))
theorem cHm : D196 r n aIc x0 r196 = D196 r n aAq x0 (K0 (dE r n)) :=
 congrArg (fun k => D196 r n aAq x0 k) (cSi r n)
theorem bXk : D196 r n aAq x0 (K0 (dE r n)) = D196 r n bFi x0 (K2 (aYr r n) 1 4) :=
 congrArg (fun k => D196 r n bFi x0 k) (cWu r n)
theorem cSc : D196 r n aIc x0 r196 = (K1 (zX r n) 1) :=
 (cHm r n).trans
 ((bXk r n).trans
 ((by kernel_rfl)))
theorem dRj : D196 r n c196 x0 r196 = D196 r n aDv x0 (K1 (zX r n) 1) :=
 congrArg (fun k => D196 r n aDv x0 k) (cSc r n)
theorem dJa (q0 : TT1) : D196 r n aDv x0 (K1 q0 1) = fun (env : aZ) (h : Hp) =>
 bnd (bQ (env 0) h) fun v1 h1 =>
  q0 v1 h1 := by kernel_rfl
theorem cRh : (fun (env : aZ) (h : Hp) =>
 bnd (bQ (env 0) h) fun v1 h1 =>
  zX r n v1 h1) = (K1 (s196 r n) 0) := by kernel_rfl
theorem eCp : D196 r n c196 x0 r196 = (K1 (s196 r n) 0) :=
 (dRj r n).trans
 ((dJa r n (zX r n)).trans (cRh r n))
theorem dHx : aG CF r n 196 args h = s196 r n (aR args 0) h :=
 (by kernel_rfl : aG CF r n 196 args h = D196 r n c196 x0 r196 (aI args) h).trans ((congrFun (congrFun (eCp r n) (aI args)) h).trans (by kernel_rfl))
noncomputable def fO (r : RT) (n : Nat) (x0 x7 : DV) (h0 : Hp) : aH :=
 bnd (aX x0 h0) fun v1 h1 =>
 bnd (aB 0 v1 h1) fun v2 h2 =>
 bnd (aA v2 h2) fun v3 h3 =>
 bnd (aX x0 h3) fun v4 h4 =>
 bnd (aB 1 v4 h4) fun v5 h5 =>
 bnd (aA v5 h5) fun v6 h6 =>
 bnd (fW v3 (some x7) (some v6) h6) fun v7 h7 =>
 some (v7, h7)
noncomputable def bFr (r : RT) (n : Nat) (kk4 : bT) (x0 x1 x2 x7 : DV) (h0 : Hp) : aH :=
 bnd (aX x0 h0) fun v1 h1 =>
 bnd (aB 1 v1 h1) fun v2 h2 =>
 bnd (aA v2 h2) fun v3 h3 =>
 bnd (aX x0 h3) fun v4 h4 =>
 bnd (aB 0 v4 h4) fun v5 h5 =>
 bnd (aA v5 h5) fun v6 h6 =>
 bnd (dI v6 h6) fun v7 h7 =>
 bnd (aD .lss v3 v7 h7) fun v8 h8 =>
 bnd (gD v8 true (some (x0, h8)) h8) fun v9 h9 =>
 bnd (gD v8 true (aX v9 h9) h9) fun v10 h10 =>
 bnd (gD v8 true (aB 1 v10 h10) h10) fun v11 h11 =>
 bnd (gD v8 true (aA v11 h11) h11) fun v12 h12 =>
 bnd (gD v8 true (some (x7, h12)) h12) fun v13 h13 =>
 bnd (gD v8 true (aD .sub v12 v13 h13) h13) fun v14 h14 =>
 bnd (gD v8 true (some (x2, h14)) h14) fun v15 h15 =>
 bnd (gD v8 true (aD .lss v14 v15 h15) h15) fun v16 h16 =>
 bnd (aN v8 v16 (.b false) h16) fun v17 h17 =>
 bnd (gD v17 true (some (x1, h17)) h17) fun v18 h18 =>
 bnd (gD v17 true (some (x0, h18)) h18) fun v19 h19 =>
 bnd (gD v17 true (aX v19 h19) h19) fun v20 h20 =>
 bnd (gD v17 true (aB 0 v20 h20) h20) fun v21 h21 =>
 bnd (gD v17 true (aA v21 h21) h21) fun v22 h22 =>
 bnd (gD v17 true (some (x0, h22)) h22) fun v23 h23 =>
 bnd (gD v17 true (aX v23 h23) h23) fun v24 h24 =>
 bnd (gD v17 true (aB 1 v24 h24) h24) fun v25 h25 =>
 bnd (gD v17 true (aA v25 h25) h25) fun v26 h26 =>
 bnd (gD v17 true (cQ v22 v26 h26) h26) fun v27 h27 =>
 bnd (gD v17 true (jX CF r v18 [v27] h27) h27) fun v28 h28 =>
 bnd (aN v17 v28 (.b false) h28) fun v29 h29 =>
 aU v29 (
 bnd (aX x0 h29) fun v30 h30 =>
 bnd (aB 1 v30 h30) fun v31 h31 =>
 bnd (aA v31 h31) fun v32 h32 =>
 bnd (aD .add v32 (aF 1) h32) fun v33 h33 =>
 bnd (aX x0 h33) fun v34 h34 =>
 bnd (aB 1 v34 h34) fun v35 h35 =>
 bnd (aJ 1 v35 v33 h35) fun _ h36 =>
      kk4 x0 x1 x2 x7 h36) (
      fO r n x0 x7 h29)
noncomputable def vQ (r : RT) (n : Nat) (m : Nat) : bT :=
 Nat.rec (motive := fun _ => bT) (fun _ _ _ _ _ => none) (fun _ ih => bFr r n ih) m
noncomputable def cNu (r : RT) (n : Nat) : bT := vQ r n n
noncomputable def aZk (r : RT) (n : Nat) (x0 x1 x2 x7 : DV) (h0 : Hp) : aH :=
 cNu r n x0 x1 x2 x7 h0
noncomputable def aXt (r : RT) (n : Nat) (x0 x1 x2 : DV) (h0 : Hp) : aH :=
 bnd (aX x0 h0) fun v1 h1 =>
 bnd (aB 1 v1 h1) fun v2 h2 =>
 bnd (aA v2 h2) fun v3 h3 =>
  aZk r n x0 x1 x2 v3 h3
noncomputable def s197 (r : RT) (n : Nat) (x0 x1 x2 : DV) (h0 : Hp) : aH :=
 aXt r n x0 x1 x2 h0
noncomputable abbrev c197 : Code := cf Tryz.f197
noncomputable abbrev aJy : Code := cR c197
noncomputable abbrev aFq : Code := cR aJy
noncomputable abbrev dSu : Code := cR aFq
noncomputable abbrev aKm : Code := cL aFq
noncomputable abbrev aDs : Code := cL aKm
noncomputable abbrev oO : Code := cL aDs
noncomputable abbrev bXp : Code := cL aJy
noncomputable abbrev bVa : Code := cL c197
noncomputable abbrev r197 : K := aQ CF Tryz.f197
noncomputable def D197 (r : RT) (n : Nat) (c : Code) (X : Nat → K) (k : K) : K := aP CF r 62 n c X r197 k
theorem cXq : D197 r n dSu x0 r197 = (K2 (fO r n) 0 7) :=
 (by kernel_rfl)
theorem bSl (kk4 : bT) : D197 r n oO (xs x0 0 (K2 (fO r n) 0 7)) (K4 kk4 0 1 2 7) = (K4 (bFr r n kk4) 0 1 2 7) :=
 (by kernel_rfl)
theorem bWk (m : Nat) : aK (fun kk => D197 r n oO (xs x0 0 (K2 (fO r n) 0 7)) kk) m = (K4 (vQ r n m) 0 1 2 7) := by
 induction m with
 | zero => exact (by kernel_rfl : aK (fun kk => D197 r n oO (xs x0 0 (K2 (fO r n) 0 7)) kk) 0 = (K4 (vQ r n 0) 0 1 2 7))
 | succ m ih =>
  refine (by kernel_rfl : aK (fun kk => D197 r n oO (xs x0 0 (K2 (fO r n) 0 7)) kk) (m + 1) = D197 r n oO (xs x0 0 (K2 (fO r n) 0 7)) (aK (fun kk => D197 r n oO (xs x0 0 (K2 (fO r n) 0 7)) kk) m)).trans ?_
  rw [ih]
  exact (bSl r n (vQ r n m)).trans (by kernel_rfl)
theorem cWm : D197 r n aDs (xs x0 0 (K2 (fO r n) 0 7)) (K2 (fO r n) 0 7) = (K4 (cNu r n) 0 1 2 7) :=
 (by kernel_rfl : D197 r n aDs (xs x0 0 (K2 (fO r n) 0 7)) (K2 (fO r n) 0 7) = aK (fun kk => D197 r n oO (xs x0 0 (K2 (fO r n) 0 7)) kk) n).trans ((bWk r n n).trans (by kernel_rfl))
theorem bPa : D197 r n aFq x0 r197 = D197 r n aKm x0 (K2 (fO r n) 0 7) :=
 congrArg (fun k => D197 r n aKm x0 k) (cXq r n)
theorem cQl : D197 r n aFq x0 r197 = (K4 (aZk r n) 0 1 2 7) :=
 (bPa r n).trans
 ((by kernel_rfl : D197 r n aKm x0 (K2 (fO r n) 0 7) = D197 r n aDs (xs x0 0 (K2 (fO r n) 0 7)) (K2 (fO r n) 0 7)).trans
 ((cWm r n).trans (by kernel_rfl)))
theorem cCt : D197 r n aJy x0 r197 = D197 r n bXp x0 (K4 (aZk r n) 0 1 2 7) :=
 congrArg (fun k => D197 r n bXp x0 k) (cQl r n)
theorem cOh : D197 r n aJy x0 r197 = (K3 (aXt r n) 0 1 2) :=
 (cCt r n).trans
 ((by kernel_rfl))
theorem dUq : D197 r n c197 x0 r197 = D197 r n bVa x0 (K3 (aXt r n) 0 1 2) :=
 congrArg (fun k => D197 r n bVa x0 k) (cOh r n)
theorem eCu : D197 r n c197 x0 r197 = (K3 (s197 r n) 0 1 2) :=
 (dUq r n).trans
 ((by kernel_rfl))
theorem dNj : aG CF r n 197 args h = s197 r n (aR args 0) (aR args 1) (aR args 2) h :=
 (by kernel_rfl : aG CF r n 197 args h = D197 r n c197 x0 r197 (aI args) h).trans ((congrFun (congrFun (eCu r n) (aI args)) h).trans (by kernel_rfl))
noncomputable def s198 (r : RT) (n : Nat) (x0 : DV) (h0 : Hp) : aH :=
 bnd (bQ x0 h0) fun v1 h1 =>
 some ((.f 228 [] [v1]), h1)
noncomputable abbrev c198 : Code := cf Tryz.f198
noncomputable abbrev r198 : K := aQ CF Tryz.f198
noncomputable def D198 (r : RT) (n : Nat) (c : Code) (X : Nat → K) (k : K) : K := aP CF r 4 n c X r198 k
theorem eFf : D198 r n c198 x0 r198 = (K1 (s198 r n) 0) :=
 (by kernel_rfl)
theorem dTm : aG CF r n 198 args h = s198 r n (aR args 0) h :=
 (by kernel_rfl : aG CF r n 198 args h = D198 r n c198 x0 r198 (aI args) h).trans ((congrFun (congrFun (eFf r n) (aI args)) h).trans (by kernel_rfl))
noncomputable def s199 (r : RT) (n : Nat) (x0 x1 : DV) (h0 : Hp) : aH :=
 bnd (r 229 [x0, x1] h0) fun v1 h1 =>
 some (v1, h1)
noncomputable abbrev c199 : Code := cf Tryz.f199
noncomputable abbrev r199 : K := aQ CF Tryz.f199
noncomputable def D199 (r : RT) (n : Nat) (c : Code) (X : Nat → K) (k : K) : K := aP CF r 8 n c X r199 k
theorem eFl : D199 r n c199 x0 r199 = (K2 (s199 r n) 0 1) :=
 (by kernel_rfl)
theorem dOn : aG CF r n 199 args h = s199 r n (aR args 0) (aR args 1) h :=
 (by kernel_rfl : aG CF r n 199 args h = D199 r n c199 x0 r199 (aI args) h).trans ((congrFun (congrFun (eFl r n) (aI args)) h).trans (by kernel_rfl))
noncomputable def iR (r : RT) (n : Nat) (x2 x4 x5 : DV) (h0 : Hp) : aH :=
 bnd (aL 4 x4 h0) fun v1 h1 =>
 bnd (aJ 4 x2 v1 h1) fun _ h2 =>
 bnd (aL 4 x2 h2) fun v3 _ =>
 some (.t [v3, x5], h2)
noncomputable def aRm (r : RT) (n : Nat) (x0 x2 x4 x5 x6 : DV) (h0 : Hp) : aH :=
 bnd (r 231 [x6] h0) fun v1 h1 =>
 aU v1 (
 bnd (aB 0 x4 h1) fun v2 h2 =>
 bnd (aJ 1 v2 (aF 1) h2) fun _ h3 =>
 bnd (r 232 [x0] h3) fun v4 h4 =>
 bnd (aE 0 v4 h4) fun v5 h5 =>
 bnd (aE 1 v4 h5) fun v6 h6 =>
 bnd (aB 1 x4 h6) fun v7 h7 =>
 bnd (aJ 1 v7 v5 h7) fun _ h8 =>
 bnd (aD .eql v6 (aF 0) h8) fun v9 h9 =>
 bnd (gD v9 true (some (x0, h9)) h9) fun v10 h10 =>
 bnd (gD v9 true (r 233 [v10] h10) h10) fun v11 h11 =>
 bnd (aN v9 v11 (.b false) h11) fun v12 h12 =>
 aU v12 (
 bnd (aB 1 x4 h12) fun v13 h13 =>
 bnd (aA v13 h13) fun v14 h14 =>
 bnd (fK .add v14 (.s [58]) h14) fun v15 h15 =>
 bnd (aB 0 x4 h15) fun v16 h16 =>
 bnd (aJ 1 v16 (aF 2) h16) fun _ h17 =>
 bnd (aB 1 x4 h17) fun v18 h18 =>
 bnd (aJ 1 v18 v15 h18) fun _ h19 =>
      iR r n x2 x4 v6 h19) (
      iR r n x2 x4 v6 h12)) (
 bnd (r 234 [x6] h1) fun v20 h20 =>
 aU v20 (
 bnd (aB 0 x4 h20) fun v21 h21 =>
 bnd (aJ 1 v21 (aF 4) h21) fun _ h22 =>
 bnd (r 235 [x0] h22) fun v23 h23 =>
 bnd (aE 0 v23 h23) fun v24 h24 =>
 bnd (aE 1 v23 h24) fun v25 h25 =>
 bnd (aB 2 x4 h25) fun v26 h26 =>
 bnd (aJ 1 v26 v24 h26) fun _ h27 =>
      iR r n x2 x4 v25 h27) (
 bnd (aD .eql x6 (.i .u8 (Int.ofNat 39)) h20) fun v28 h28 =>
 aU v28 (
 bnd (aX x0 h28) fun v29 h29 =>
 bnd (aB 1 v29 h29) fun v30 h30 =>
 bnd (aA v30 h30) fun v31 h31 =>
 bnd (aD .add v31 (aF 1) h31) fun v32 h32 =>
 bnd (aX x0 h32) fun v33 h33 =>
 bnd (aB 1 v33 h33) fun v34 h34 =>
 bnd (aJ 1 v34 v32 h34) fun _ h35 =>
 bnd (aB 0 x4 h35) fun v36 h36 =>
 bnd (aJ 1 v36 (aF 5) h36) fun _ h37 =>
 bnd (r 236 [x0] h37) fun v38 h38 =>
 bnd (aE 0 v38 h38) fun v39 h39 =>
 bnd (aE 1 v38 h39) fun v40 h40 =>
 bnd (aB 1 x4 h40) fun v41 h41 =>
 bnd (aJ 1 v41 v39 h41) fun _ h42 =>
    iR r n x2 x4 v40 h42) (
 bnd (aD .eql x6 (.i .u8 (Int.ofNat 35)) h28) fun v43 h43 =>
 bnd (gD v43 true (some (x0, h43)) h43) fun v44 h44 =>
 bnd (gD v43 true (r 230 [v44, (aF 1)] h44) h44) fun v45 h45 =>
 bnd (gD v43 true (aD .eql v45 (.i .u8 (Int.ofNat 40)) h45) h45) fun v46 h46 =>
 bnd (aN v43 v46 (.b false) h46) fun v47 h47 =>
 aU v47 (
 bnd (aX x0 h47) fun v48 h48 =>
 bnd (aB 1 v48 h48) fun v49 h49 =>
 bnd (aA v49 h49) fun v50 h50 =>
 bnd (aD .add v50 (aF 2) h50) fun v51 h51 =>
 bnd (aX x0 h51) fun v52 h52 =>
 bnd (aB 1 v52 h52) fun v53 h53 =>
 bnd (aJ 1 v53 v51 h53) fun _ h54 =>
 bnd (aB 0 x4 h54) fun v55 h55 =>
 bnd (aJ 1 v55 (aF 7) h55) fun _ h56 =>
     iR r n x2 x4 x5 h56) (
 bnd (aD .eql x6 (.i .u8 (Int.ofNat 35)) h47) fun v57 h57 =>
 aU v57 (
 bnd (aX x0 h57) fun v58 h58 =>
 bnd (aB 1 v58 h58) fun v59 h59 =>
 bnd (aA v59 h59) fun v60 h60 =>
 bnd (aD .add v60 (aF 1) h60) fun v61 h61 =>
 bnd (aX x0 h61) fun v62 h62 =>
 bnd (aB 1 v62 h62) fun v63 h63 =>
 bnd (aJ 1 v63 v61 h63) fun _ h64 =>
 bnd (aB 0 x4 h64) fun v65 h65 =>
 bnd (aJ 1 v65 (aF 6) h65) fun _ h66 =>
 bnd (r 237 [x0] h66) fun v67 h67 =>
 bnd (aE 0 v67 h67) fun v68 h68 =>
 bnd (aE 1 v67 h68) fun v69 h69 =>
 bnd (aB 1 x4 h69) fun v70 h70 =>
 bnd (aJ 1 v70 v68 h70) fun _ h71 =>
      iR r n x2 x4 v69 h71) (
 bnd (aD .eql x6 (.i .u8 (Int.ofNat 58)) h57) fun v72 h72 =>
 bnd (gD v72 true (some (x0, h72)) h72) fun v73 h73 =>
 bnd (gD v72 true (r 230 [v73, (aF 1)] h73) h73) fun v74 h74 =>
 bnd (gD v72 true (aD .eql v74 (.i .u8 (Int.ofNat 61)) h74) h74) fun v75 h75 =>
 bnd (aN v72 v75 (.b false) h75) fun v76 h76 =>
 aU v76 (
 bnd (aX x0 h76) fun v77 h77 =>
 bnd (aB 1 v77 h77) fun v78 h78 =>
 bnd (aA v78 h78) fun v79 h79 =>
 bnd (aD .add v79 (aF 2) h79) fun v80 h80 =>
 bnd (aX x0 h80) fun v81 h81 =>
 bnd (aB 1 v81 h81) fun v82 h82 =>
 bnd (aJ 1 v82 v80 h82) fun _ h83 =>
 bnd (aB 0 x4 h83) fun v84 h84 =>
 bnd (aJ 1 v84 (aF 9) h84) fun _ h85 =>
       iR r n x2 x4 x5 h85) (
 bnd (aD .eql x6 (.i .u8 (Int.ofNat 58)) h76) fun v86 h86 =>
 bnd (gD v86 true (some (x0, h86)) h86) fun v87 h87 =>
 bnd (gD v86 true (r 230 [v87, (aF 1)] h87) h87) fun v88 h88 =>
 bnd (gD v86 true (r 231 [v88] h88) h88) fun v89 h89 =>
 bnd (aN v86 v89 (.b false) h89) fun v90 h90 =>
 aU v90 (
 bnd (aX x0 h90) fun v91 h91 =>
 bnd (aB 1 v91 h91) fun v92 h92 =>
 bnd (aA v92 h92) fun v93 h93 =>
 bnd (aD .add v93 (aF 1) h93) fun v94 h94 =>
 bnd (aX x0 h94) fun v95 h95 =>
 bnd (aB 1 v95 h95) fun v96 h96 =>
 bnd (aJ 1 v96 v94 h96) fun _ h97 =>
 bnd (aB 0 x4 h97) fun v98 h98 =>
 bnd (aJ 1 v98 (aF 8) h98) fun _ h99 =>
 bnd (r 232 [x0] h99) fun v100 h100 =>
 bnd (aE 0 v100 h100) fun v101 h101 =>
 bnd (aE 1 v100 h101) fun v102 h102 =>
 bnd (aB 1 x4 h102) fun v103 h103 =>
 bnd (aJ 1 v103 v101 h103) fun _ h104 =>
        iR r n x2 x4 v102 h104) (
 bnd (r 198 [(.s [43, 45, 42, 47, 60, 62, 61, 126, 44, 64, 38, 37])] h90) fun v105 h105 =>
 bnd (jX CF r v105 [x6] h105) fun v106 h106 =>
 aU v106 (
 bnd (r 198 [(.s [43, 45, 42, 47, 60, 62, 61, 126, 44, 64, 38, 37])] h106) fun v107 h107 =>
 bnd (r 197 [x0, v107, (aF 2)] h107) fun v108 h108 =>
 bnd (aB 0 x4 h108) fun v109 h109 =>
 bnd (aJ 1 v109 (aF 3) h109) fun _ h110 =>
 bnd (aB 1 x4 h110) fun v111 h111 =>
 bnd (aJ 1 v111 v108 h111) fun _ h112 =>
         iR r n x2 x4 x5 h112) (
 bnd (r 198 [(.s [94, 46, 59, 40, 41, 91, 93, 124])] h106) fun v113 h113 =>
 bnd (jX CF r v113 [x6] h113) fun v114 h114 =>
 aU v114 (
 bnd (r 198 [(.s [94, 46, 59, 40, 41, 91, 93, 124])] h114) fun v115 h115 =>
 bnd (r 197 [x0, v115, (aF 1)] h115) fun v116 h116 =>
 bnd (aB 0 x4 h116) fun v117 h117 =>
 bnd (aJ 1 v117 (aF 10) h117) fun _ h118 =>
 bnd (aB 1 x4 h118) fun v119 h119 =>
 bnd (aJ 1 v119 v116 h119) fun _ h120 =>
          iR r n x2 x4 x5 h120) (
          iR r n x2 x4 (aF 10) h114)))))))))
noncomputable def aRi (r : RT) (n : Nat) (x0 x2 x4 x5 : DV) (h0 : Hp) : aH :=
 bnd (r 230 [x0, (aF 0)] h0) fun v1 h1 =>
  aRm r n x0 x2 x4 x5 v1 h1
noncomputable def xP (r : RT) (n : Nat) (x0 x2 x4 : DV) (h0 : Hp) : aH :=
 aRi r n x0 x2 x4 (aF 0) h0
noncomputable def sN (r : RT) (n : Nat) (x0 x2 : DV) (h0 : Hp) : aH :=
 bnd (aX x0 h0) fun v1 h1 =>
 bnd (aB 1 v1 h1) fun v2 h2 =>
 bnd (aA v2 h2) fun v3 h3 =>
 bnd (bL [(aF 0), (.s []), (aF 0), (aF 0)] [(3, 1, v3)] h3) fun v4 h4 =>
 bnd (bS [(aF 0), (.s []), (aF 0), (aF 0)] h4) fun v5 h5 =>
 bnd (aJ 4 v5 v4 h5) fun _ h6 =>
  xP r n x0 x2 v5 h6
noncomputable def s200 (r : RT) (n : Nat) (x0 : DV) (h0 : Hp) : aH :=
 bnd (bS [(aF 0), (.s []), (aF 0), (aF 0)] h0) fun v1 h1 =>
  sN r n x0 v1 h1
noncomputable abbrev c200 : Code := cf Tryz.f200
noncomputable abbrev aKd : Code := cR c200
noncomputable abbrev aKo : Code := cR aKd
noncomputable abbrev aEd : Code := cR aKo
noncomputable abbrev aEm : Code := cR aEd
noncomputable abbrev dSi : Code := cR aEm
noncomputable abbrev cCs : Code := cL aEm
noncomputable abbrev bSz : Code := cL aEd
noncomputable abbrev cAc : Code := cL aKo
noncomputable abbrev aTs : Code := cL aKd
noncomputable abbrev aCz : Code := cL c200
noncomputable abbrev r200 : K := aQ CF Tryz.f200
noncomputable def D200 (r : RT) (n : Nat) (c : Code) (X : Nat → K) (k : K) : K := aP CF r 153 n c X r200 k
theorem cRk : D200 r n dSi x0 r200 = (K3 (iR r n) 2 4 5) :=
 (by kernel_rfl)
theorem cFt : D200 r n aEm x0 r200 = D200 r n cCs x0 (K3 (iR r n) 2 4 5) :=
 congrArg (fun k => D200 r n cCs x0 k) (cRk r n)
theorem cVa : D200 r n aEm x0 r200 = (K5 (aRm r n) 0 2 4 5 6) :=
 (cFt r n).trans
 ((by kernel_rfl))
theorem bRx : D200 r n aEd x0 r200 = D200 r n bSz x0 (K5 (aRm r n) 0 2 4 5 6) :=
 congrArg (fun k => D200 r n bSz x0 k) (cVa r n)
theorem dEn : D200 r n aEd x0 r200 = (K4 (aRi r n) 0 2 4 5) :=
 (bRx r n).trans
 ((by kernel_rfl))
theorem cFi : D200 r n aKo x0 r200 = D200 r n cAc x0 (K4 (aRi r n) 0 2 4 5) :=
 congrArg (fun k => D200 r n cAc x0 k) (dEn r n)
theorem dAi : D200 r n aKo x0 r200 = (K3 (xP r n) 0 2 4) :=
 (cFi r n).trans
 ((by kernel_rfl))
theorem cDa : D200 r n aKd x0 r200 = D200 r n aTs x0 (K3 (xP r n) 0 2 4) :=
 congrArg (fun k => D200 r n aTs x0 k) (dAi r n)
theorem cKo (q0 : bZ) : D200 r n aTs x0 (K3 q0 0 2 4) = fun (env : aZ) (h : Hp) =>
 bnd (aX (env 0) h) fun v1 h1 =>
 bnd (aB 1 v1 h1) fun v2 h2 =>
 bnd (aA v2 h2) fun v3 h3 =>
 bnd (bL [(aF 0), (.s []), (aF 0), (aF 0)] [(3, 1, v3)] h3) fun v4 h4 =>
 bnd (bS [(aF 0), (.s []), (aF 0), (aF 0)] h4) fun v5 h5 =>
 bnd (aJ 4 v5 v4 h5) fun _ h6 =>
  q0 (env 0) (env 2) v5 h6 := by kernel_rfl
theorem bJe : (fun (env : aZ) (h : Hp) =>
 bnd (aX (env 0) h) fun v1 h1 =>
 bnd (aB 1 v1 h1) fun v2 h2 =>
 bnd (aA v2 h2) fun v3 h3 =>
 bnd (bL [(aF 0), (.s []), (aF 0), (aF 0)] [(3, 1, v3)] h3) fun v4 h4 =>
 bnd (bS [(aF 0), (.s []), (aF 0), (aF 0)] h4) fun v5 h5 =>
 bnd (aJ 4 v5 v4 h5) fun _ h6 =>
  xP r n (env 0) (env 2) v5 h6) = (K2 (sN r n) 0 2) := by kernel_rfl
theorem cXo : D200 r n aKd x0 r200 = (K2 (sN r n) 0 2) :=
 (cDa r n).trans
 ((cKo r n (xP r n)).trans (bJe r n))
theorem dRq : D200 r n c200 x0 r200 = D200 r n aCz x0 (K2 (sN r n) 0 2) :=
 congrArg (fun k => D200 r n aCz x0 k) (cXo r n)
theorem dOr (q0 : gV) : D200 r n aCz x0 (K2 q0 0 2) = fun (env : aZ) (h : Hp) =>
 bnd (bS [(aF 0), (.s []), (aF 0), (aF 0)] h) fun v1 h1 =>
  q0 (env 0) v1 h1 := by kernel_rfl
theorem dAr : (fun (env : aZ) (h : Hp) =>
 bnd (bS [(aF 0), (.s []), (aF 0), (aF 0)] h) fun v1 h1 =>
  sN r n (env 0) v1 h1) = (K1 (s200 r n) 0) := by kernel_rfl
theorem eAo : D200 r n c200 x0 r200 = (K1 (s200 r n) 0) :=
 (dRq r n).trans
 ((dOr r n (sN r n)).trans (dAr r n))
theorem dSk : aG CF r n 200 args h = s200 r n (aR args 0) h :=
 (by kernel_rfl : aG CF r n 200 args h = D200 r n c200 x0 r200 (aI args) h).trans ((congrFun (congrFun (eAo r n) (aI args)) h).trans (by kernel_rfl))
noncomputable def s201 (r : RT) (n : Nat) (x0 x1 x2 : DV) (h0 : Hp) : aH :=
 bnd (r 205 [x0, (aF 0)] h0) fun v1 h1 =>
 bnd (bS [(aF 0), (.s []), (aF 0), (aF 0)] h1) fun v2 h2 =>
 bnd (aJ 4 v2 v1 h2) fun _ h3 =>
 bnd (aX x0 h3) fun v4 h4 =>
 bnd (aB 3 v4 h4) fun v5 h5 =>
 bnd (aA v5 h5) fun v6 h6 =>
 bnd (aD .eql v6 (aF 0) h6) fun v7 h7 =>
 bnd (gD v7 true (aB 0 v2 h7) h7) fun v8 h8 =>
 bnd (gD v7 true (aA v8 h8) h8) fun v9 h9 =>
 bnd (gD v7 true (some (x1, h9)) h9) fun v10 h10 =>
 bnd (gD v7 true (aD .eql v9 v10 h10) h10) fun v11 h11 =>
 bnd (aN v7 v11 (.b false) h11) fun v12 h12 =>
 bnd (gD v12 true (some (x2, h12)) h12) fun v13 h13 =>
 bnd (gD v12 true (fK .eql v13 (.s []) h13) h13) fun v14 h14 =>
 bnd (gD v12 true (some (v14, h14)) h14) fun v15 h15 =>
 bnd (gD v15 false (aB 1 v2 h15) h15) fun v16 h16 =>
 bnd (gD v15 false (aA v16 h16) h16) fun v17 h17 =>
 bnd (gD v15 false (some (x2, h17)) h17) fun v18 h18 =>
 bnd (gD v15 false (fK .eql v17 v18 h18) h18) fun v19 h19 =>
 bnd (gD v12 true (aN v15 (.b true) v19 h19) h19) fun v20 h20 =>
 bnd (aN v12 v20 (.b false) h20) fun v21 h21 =>
 some (v21, h21)
noncomputable abbrev c201 : Code := cf Tryz.f201
noncomputable abbrev r201 : K := aQ CF Tryz.f201
noncomputable def D201 (r : RT) (n : Nat) (c : Code) (X : Nat → K) (k : K) : K := aP CF r 31 n c X r201 k
theorem dVm : D201 r n c201 x0 r201 = (K3 (s201 r n) 0 1 2) :=
 (by kernel_rfl)
theorem dLs : aG CF r n 201 args h = s201 r n (aR args 0) (aR args 1) (aR args 2) h :=
 (by kernel_rfl : aG CF r n 201 args h = D201 r n c201 x0 r201 (aI args) h).trans ((congrFun (congrFun (dVm r n) (aI args)) h).trans (by kernel_rfl))
noncomputable def aGo (r : RT) (n : Nat) (x2 x3 : DV) (h0 : Hp) : aH :=
 bnd (aL 4 x3 h0) fun v1 h1 =>
 bnd (aJ 4 x2 v1 h1) fun _ h2 =>
 bnd (aL 4 x2 h2) fun v3 _ =>
 some (v3, h2)
noncomputable def yJ (r : RT) (n : Nat) (x0 x2 x3 : DV) (h0 : Hp) : aH :=
 bnd (aB 0 x3 h0) fun v1 h1 =>
 bnd (aA v1 h1) fun v2 h2 =>
 bnd (aD .neq v2 (aF 0) h2) fun v3 h3 =>
 aU v3 (
 bnd (aX x0 h3) fun v4 h4 =>
 bnd (aB 0 v4 h4) fun v5 h5 =>
 bnd (aA v5 h5) fun v6 h6 =>
 bnd (cT 4 v6 (some (aF 1)) none h6) fun v7 h7 =>
 bnd (aX x0 h7) fun v8 h8 =>
 bnd (aB 0 v8 h8) fun v9 h9 =>
 bnd (aJ 1 v9 v7 h9) fun _ h10 =>
  aGo r n x2 x3 h10) (
  aGo r n x2 x3 h3)
noncomputable def rN (r : RT) (n : Nat) (x0 x2 : DV) (h0 : Hp) : aH :=
 bnd (r 205 [x0, (aF 0)] h0) fun v1 h1 =>
 bnd (bS [(aF 0), (.s []), (aF 0), (aF 0)] h1) fun v2 h2 =>
 bnd (aJ 4 v2 v1 h2) fun _ h3 =>
  yJ r n x0 x2 v2 h3
noncomputable def s202 (r : RT) (n : Nat) (x0 : DV) (h0 : Hp) : aH :=
 bnd (bS [(aF 0), (.s []), (aF 0), (aF 0)] h0) fun v1 h1 =>
  rN r n x0 v1 h1
noncomputable abbrev c202 : Code := cf Tryz.f202
noncomputable abbrev aCk : Code := cR c202
noncomputable abbrev aHs : Code := cR aCk
noncomputable abbrev dLm : Code := cR aHs
noncomputable abbrev cFu : Code := cL aHs
noncomputable abbrev aUe : Code := cL aCk
noncomputable abbrev aYa : Code := cL c202
noncomputable abbrev r202 : K := aQ CF Tryz.f202
noncomputable def D202 (r : RT) (n : Nat) (c : Code) (X : Nat → K) (k : K) : K := aP CF r 18 n c X r202 k
theorem cRr : D202 r n dLm x0 r202 = (K2 (aGo r n) 2 3) :=
 (by kernel_rfl)
theorem cHn : D202 r n aHs x0 r202 = D202 r n cFu x0 (K2 (aGo r n) 2 3) :=
 congrArg (fun k => D202 r n cFu x0 k) (cRr r n)
theorem cSy : D202 r n aHs x0 r202 = (K3 (yJ r n) 0 2 3) :=
 (cHn r n).trans
 ((by kernel_rfl))
theorem cFe : D202 r n aCk x0 r202 = D202 r n aUe x0 (K3 (yJ r n) 0 2 3) :=
 congrArg (fun k => D202 r n aUe x0 k) (cSy r n)
theorem cNg (q0 : bZ) : D202 r n aUe x0 (K3 q0 0 2 3) = fun (env : aZ) (h : Hp) =>
 bnd (r 205 [(env 0), (aF 0)] h) fun v1 h1 =>
 bnd (bS [(aF 0), (.s []), (aF 0), (aF 0)] h1) fun v2 h2 =>
 bnd (aJ 4 v2 v1 h2) fun _ h3 =>
  q0 (env 0) (env 2) v2 h3 := by kernel_rfl
theorem bNi : (fun (env : aZ) (h : Hp) =>
 bnd (r 205 [(env 0), (aF 0)] h) fun v1 h1 =>
 bnd (bS [(aF 0), (.s []), (aF 0), (aF 0)] h1) fun v2 h2 =>
 bnd (aJ 4 v2 v1 h2) fun _ h3 =>
  yJ r n (env 0) (env 2) v2 h3) = (K2 (rN r n) 0 2) := by kernel_rfl
theorem cVr : D202 r n aCk x0 r202 = (K2 (rN r n) 0 2) :=
 (cFe r n).trans
 ((cNg r n (yJ r n)).trans (bNi r n))
theorem dHr : D202 r n c202 x0 r202 = D202 r n aYa x0 (K2 (rN r n) 0 2) :=
 congrArg (fun k => D202 r n aYa x0 k) (cVr r n)
theorem dNy (q0 : gV) : D202 r n aYa x0 (K2 q0 0 2) = fun (env : aZ) (h : Hp) =>
 bnd (bS [(aF 0), (.s []), (aF 0), (aF 0)] h) fun v1 h1 =>
  q0 (env 0) v1 h1 := by kernel_rfl
theorem cUv : (fun (env : aZ) (h : Hp) =>
 bnd (bS [(aF 0), (.s []), (aF 0), (aF 0)] h) fun v1 h1 =>
  rN r n (env 0) v1 h1) = (K1 (s202 r n) 0) := by kernel_rfl
theorem dVx : D202 r n c202 x0 r202 = (K1 (s202 r n) 0) :=
 (dHr r n).trans
 ((dNy r n (rN r n)).trans (cUv r n))
theorem dUp : aG CF r n 202 args h = s202 r n (aR args 0) h :=
 (by kernel_rfl : aG CF r n 202 args h = D202 r n c202 x0 r202 (aI args) h).trans ((congrFun (congrFun (dVx r n) (aI args)) h).trans (by kernel_rfl))
noncomputable def s203 (r : RT) (n : Nat) (x0 : DV) (h0 : Hp) : aH :=
 bnd (bS tQ h0) fun v1 h1 =>
 bnd (r 201 [x0, (aF 1), (.s [])] h1) fun v2 h2 =>
 bnd (gD v2 true (some (x0, h2)) h2) fun v3 h3 =>
 bnd (gD v2 true (r 205 [v3, (aF 1)] h3) h3) fun v4 h4 =>
 bnd (gD v2 true (gJ 0 v4 h4) h4) fun v5 h5 =>
 bnd (gD v2 true (aD .eql v5 (aF 9) h5) h5) fun v6 h6 =>
 bnd (aN v2 v6 (.b false) h6) fun v7 h7 =>
 aU v7 (
 bnd (r 202 [x0] h7) fun v8 h8 =>
 bnd (gJ 1 v8 h8) fun v9 h9 =>
 bnd (bL tQ [(0, 1, (aF 6)), (1, 1, v9)] h9) fun v10 h10 =>
 bnd (bS tQ h10) fun v11 h11 =>
 bnd (aJ 6 v11 v10 h11) fun _ h12 =>
 bnd (r 202 [x0] h12) fun v13 h13 =>
 bnd (r 203 [x0] h13) fun v14 h14 =>
 bnd (aO tQ 1 [(0, 6, v14)] h14) fun v15 h15 =>
 bnd (aB 5 v11 h15) fun v16 h16 =>
 bnd (aJ 1 v16 v15 h16) fun _ h17 =>
 bnd (aL 6 v11 h17) fun v18 h18 =>
 bnd (aJ 6 v1 v18 h18) fun _ h19 =>
 bnd (aL 6 v1 h19) fun v20 _ =>
 some (v20, h19)) (
 bnd (r 238 [x0] h7) fun v21 h21 =>
 bnd (aJ 6 v1 v21 h21) fun _ h22 =>
 bnd (aL 6 v1 h22) fun v23 _ =>
 some (v23, h22))
noncomputable abbrev c203 : Code := cf Tryz.f203
noncomputable abbrev r203 : K := aQ CF Tryz.f203
noncomputable def D203 (r : RT) (n : Nat) (c : Code) (X : Nat → K) (k : K) : K := aP CF r 25 n c X r203 k
theorem eBl : D203 r n c203 x0 r203 = (K1 (s203 r n) 0) :=
 (by kernel_rfl)
theorem dSl : aG CF r n 203 args h = s203 r n (aR args 0) h :=
 (by kernel_rfl : aG CF r n 203 args h = D203 r n c203 x0 r203 (aI args) h).trans ((congrFun (congrFun (eBl r n) (aI args)) h).trans (by kernel_rfl))
noncomputable def s205 (r : RT) (n : Nat) (x0 x1 : DV) (h0 : Hp) : aH :=
 bnd (bS [(aF 0), (.s []), (aF 0), (aF 0)] h0) fun v1 h1 =>
 bnd (aX x0 h1) fun v2 h2 =>
 bnd (aB 0 v2 h2) fun v3 h3 =>
 bnd (aA v3 h3) fun v4 h4 =>
 bnd (aX x0 h4) fun v5 h5 =>
 bnd (aB 0 v5 h5) fun v6 h6 =>
 bnd (aA v6 h6) fun v7 h7 =>
 bnd (bJ v7 h7) fun v8 h8 =>
 bnd (aD .sub v8 (aF 1) h8) fun v9 h9 =>
 bnd (aXo x1 v9 h9) fun v10 h10 =>
 bnd (aC 4 v4 v10 h10) fun v11 h11 =>
 bnd (aL 4 v11 h11) fun v12 h12 =>
 bnd (aJ 4 v1 v12 h12) fun v13 h13 =>
 bnd (aL 4 v1 h13) fun v14 _ =>
 some (v14, h13)
noncomputable abbrev c205 : Code := cf Tryz.f205
noncomputable abbrev r205 : K := aQ CF Tryz.f205
noncomputable def D205 (r : RT) (n : Nat) (c : Code) (X : Nat → K) (k : K) : K := aP CF r 19 n c X r205 k
theorem eDl : D205 r n c205 x0 r205 = (K2 (s205 r n) 0 1) :=
 (by kernel_rfl)
theorem dKm : aG CF r n 205 args h = s205 r n (aR args 0) (aR args 1) h :=
 (by kernel_rfl : aG CF r n 205 args h = D205 r n c205 x0 r205 (aI args) h).trans ((congrFun (congrFun (eDl r n) (aI args)) h).trans (by kernel_rfl))
end Go.Dd

namespace Go.Dd
open Go.Proofs
variable (r : RT) (n : Nat) (args : List DV) (h : Hp)
noncomputable def sG (r : RT) (n : Nat) (x0 x3 x11 x14 : DV) (h0 : Hp) : aH :=
 aU x14 (
 bnd (aL 6 x3 h0) fun v1 h1 =>
 bnd (r 243 [x0, v1] h1) fun v2 h2 =>
 bnd (mA [x0, v2] h2) fun v3 h3 =>
 bnd (r 209 [x0, (aF 6), v3, (aF 0)] h3) fun v4 h4 =>
 some (.t [], h4)) (
 bnd (aD .eql x11 (aF 5) h0) fun v5 h5 =>
 aU v5 (
 bnd (aB 1 x3 h5) fun v6 h6 =>
 bnd (aA v6 h6) fun v7 h7 =>
 bnd (r 244 [x0, v7] h7) fun v8 h8 =>
 some (.t [], h8)) (
 bnd (aD .eql x11 (aF 6) h5) fun v9 h9 =>
 aU v9 (
 bnd (aL 6 x3 h9) fun v10 h10 =>
 bnd (r 245 [x0, v10] h10) fun v11 h11 =>
 some (.t [], h11)) (
 bnd (aD .eql x11 (aF 7) h9) fun v12 h12 =>
 aU v12 (
 bnd (aL 6 x3 h12) fun v13 h13 =>
 bnd (r 246 [x0, v13] h13) fun v14 h14 =>
 some (.t [], h14)) (
 bnd (aD .eql x11 (aF 8) h12) fun v15 h15 =>
 aU v15 (
 bnd (aL 6 x3 h15) fun v16 h16 =>
 bnd (r 247 [x0, v16] h16) fun v17 h17 =>
 some (.t [], h17)) (
 bnd (aD .eql x11 (aF 9) h15) fun v18 h18 =>
 aU v18 (
 bnd (aX x0 h18) fun v19 h19 =>
 bnd (aB 0 v19 h19) fun v20 h20 =>
 bnd (aB 2 v20 h20) fun v21 h21 =>
 bnd (aA v21 h21) fun v22 h22 =>
 bnd (aB 3 x3 h22) fun v23 h23 =>
 bnd (aA v23 h23) fun v24 h24 =>
 bnd (bJ v24 h24) fun v25 h25 =>
 bnd (r 209 [x0, (aF 18), v22, v25] h25) fun v26 h26 =>
 bnd (r 248 [x0, (aF 16)] h26) fun v27 h27 =>
 bnd (aL 6 x3 h27) fun v28 h28 =>
 bnd (r 249 [x0, v28] h28) fun v29 h29 =>
 bnd (r 209 [x0, (aF 19), (aF 0), (aF 0)] h29) fun v30 h30 =>
 bnd (jX CF r v27 [] h30) fun v31 h31 =>
 some (.t [], h31)) (
 bnd (aD .eql x11 (aF 10) h18) fun v32 h32 =>
 aU v32 (
 bnd (aL 6 x3 h32) fun v33 h33 =>
 bnd (r 250 [x0, v33] h33) fun v34 h34 =>
 aU v34 (
 bnd (aB 5 x3 h34) fun v35 h35 =>
 bnd (aA v35 h35) fun v36 h36 =>
 bnd (aC 6 v36 (aF 0) h36) fun v37 h37 =>
 bnd (aL 6 v37 h37) fun v38 h38 =>
 bnd (r 208 [x0, v38] h38) fun v39 h39 =>
 bnd (r 209 [x0, (aF 20), (aF 0), (aF 0)] h39) fun v40 h40 =>
 some (.t [], h40)) (
 some (.t [], h34))) (
 bnd (r 241 [x0, (.s []), (aF 1)] h32) fun v41 h41 =>
 some (.t [], h41))))))))
noncomputable def aVc (r : RT) (n : Nat) (x0 x3 x11 : DV) (h0 : Hp) : aH :=
 bnd (aD .eql x11 (aF 1) h0) fun v1 h1 =>
 aU v1 (
  sG r n x0 x3 x11 v1 h1) (
 bnd (aD .eql x11 (aF 2) h1) fun v2 h2 =>
 aU v2 (
   sG r n x0 x3 x11 v2 h2) (
 bnd (aD .eql x11 (aF 3) h2) fun v3 h3 =>
 aU v3 (
    sG r n x0 x3 x11 v3 h3) (
 bnd (aD .eql x11 (aF 4) h3) fun v4 h4 =>
    sG r n x0 x3 x11 v4 h4)))
noncomputable def aYm (r : RT) (n : Nat) (x0 x3 : DV) (h0 : Hp) : aH :=
 bnd (aB 0 x3 h0) fun v1 h1 =>
 bnd (aA v1 h1) fun v2 h2 =>
  aVc r n x0 x3 v2 h2
noncomputable def xD (r : RT) (n : Nat) (x0 x3 : DV) (h0 : Hp) : aH :=
 bnd (aX x0 h0) fun v1 h1 =>
 bnd (aB 8 v1 h1) fun v2 h2 =>
 bnd (aA v2 h2) fun v3 h3 =>
 bnd (aD .neq v3 (aF 0) h3) fun v4 h4 =>
 aU v4 (
 some (.t [], h4)) (
  aYm r n x0 x3 h4)
noncomputable def s208 (r : RT) (n : Nat) (x0 x1 : DV) (h0 : Hp) : aH :=
 bnd (bQ x1 h0) fun v1 h1 =>
  xD r n x0 v1 h1
noncomputable abbrev c208 : Code := cf Tryz.f208
noncomputable abbrev aHh : Code := cR c208
noncomputable abbrev aKv : Code := cR aHh
noncomputable abbrev aTg : Code := cR aKv
noncomputable abbrev aIo : Code := cL aTg
noncomputable abbrev dIw : Code := cR aIo
noncomputable abbrev bQv : Code := cL aIo
noncomputable abbrev cAg : Code := cL aKv
noncomputable abbrev cDu : Code := cL aHh
noncomputable abbrev aRk : Code := cL c208
noncomputable abbrev r208 : K := aQ CF Tryz.f208
noncomputable def D208 (r : RT) (n : Nat) (c : Code) (X : Nat → K) (k : K) : K := aP CF r 81 n c X r208 k
theorem cRi : D208 r n dIw (xs x0 0 r208) r208 = (K4 (sG r n) 0 3 11 14) :=
 (by kernel_rfl)
theorem bRv : D208 r n aIo (xs x0 0 r208) r208 = D208 r n bQv (xs x0 0 r208) (K4 (sG r n) 0 3 11 14) :=
 congrArg (fun k => D208 r n bQv (xs x0 0 r208) k) (cRi r n)
theorem cWf : D208 r n aTg x0 r208 = (K3 (aVc r n) 0 3 11) :=
 (by kernel_rfl : D208 r n aTg x0 r208 = D208 r n aIo (xs x0 0 r208) r208).trans
 ((bRv r n).trans
 ((by kernel_rfl)))
theorem cNd : D208 r n aKv x0 r208 = D208 r n cAg x0 (K3 (aVc r n) 0 3 11) :=
 congrArg (fun k => D208 r n cAg x0 k) (cWf r n)
theorem cZr : D208 r n aKv x0 r208 = (K2 (aYm r n) 0 3) :=
 (cNd r n).trans
 ((by kernel_rfl))
theorem cEg : D208 r n aHh x0 r208 = D208 r n cDu x0 (K2 (aYm r n) 0 3) :=
 congrArg (fun k => D208 r n cDu x0 k) (cZr r n)
theorem cRo : D208 r n aHh x0 r208 = (K2 (xD r n) 0 3) :=
 (cEg r n).trans
 ((by kernel_rfl))
theorem dUk : D208 r n c208 x0 r208 = D208 r n aRk x0 (K2 (xD r n) 0 3) :=
 congrArg (fun k => D208 r n aRk x0 k) (cRo r n)
theorem dLg (q0 : gV) : D208 r n aRk x0 (K2 q0 0 3) = fun (env : aZ) (h : Hp) =>
 bnd (bQ (env 1) h) fun v1 h1 =>
  q0 (env 0) v1 h1 := by kernel_rfl
theorem cTw : (fun (env : aZ) (h : Hp) =>
 bnd (bQ (env 1) h) fun v1 h1 =>
  xD r n (env 0) v1 h1) = (K2 (s208 r n) 0 1) := by kernel_rfl
theorem eBu : D208 r n c208 x0 r208 = (K2 (s208 r n) 0 1) :=
 (dUk r n).trans
 ((dLg r n (xD r n)).trans (cTw r n))
theorem dKu : aG CF r n 208 args h = s208 r n (aR args 0) (aR args 1) h :=
 (by kernel_rfl : aG CF r n 208 args h = D208 r n c208 x0 r208 (aI args) h).trans ((congrFun (congrFun (eBu r n) (aI args)) h).trans (by kernel_rfl))
noncomputable def s209 (r : RT) (n : Nat) (x0 x1 x2 x3 : DV) (h0 : Hp) : aH :=
 bnd (aX x0 h0) fun v1 h1 =>
 bnd (aB 0 v1 h1) fun v2 h2 =>
 bnd (aB 5 v2 h2) fun v3 h3 =>
 bnd (aA v3 h3) fun v4 h4 =>
 bnd (bL [(aF 0), (aF 0), (aF 0)] [(0, 1, x1), (1, 1, x2), (2, 1, x3)] h4) fun v5 h5 =>
 bnd (aO [(aF 0), (aF 0), (aF 0)] 1 [(0, 3, v5)] h5) fun v6 h6 =>
 bnd (aW 3 24 v4 v6 h6) fun v7 h7 =>
 bnd (aX x0 h7) fun v8 h8 =>
 bnd (aB 0 v8 h8) fun v9 h9 =>
 bnd (aB 5 v9 h9) fun v10 h10 =>
 bnd (aJ 1 v10 v7 h10) fun _ h11 =>
 some (.t [], h11)
noncomputable abbrev c209 : Code := cf Tryz.f209
noncomputable abbrev r209 : K := aQ CF Tryz.f209
noncomputable def D209 (r : RT) (n : Nat) (c : Code) (X : Nat → K) (k : K) : K := aP CF r 23 n c X r209 k
theorem eFa : D209 r n c209 x0 r209 = (K4 (s209 r n) 0 1 2 3) :=
 (by kernel_rfl)
theorem dVa : aG CF r n 209 args h = s209 r n (aR args 0) (aR args 1) (aR args 2) (aR args 3) h :=
 (by kernel_rfl : aG CF r n 209 args h = D209 r n c209 x0 r209 (aI args) h).trans ((congrFun (congrFun (eFa r n) (aI args)) h).trans (by kernel_rfl))
noncomputable def eR (r : RT) (n : Nat) (h0 : Hp) : aH :=
 some ((aF 0), h0)
noncomputable def aOe (r : RT) (n : Nat) (kk10 : bZ) (x0 x5 x6 : DV) (h0 : Hp) : aH :=
 bnd (dI x5 h0) fun v1 h1 =>
 bnd (aD .lss x6 v1 h1) fun v2 h2 =>
 aU v2 (
 bnd (cQ x5 x6 h2) fun v3 h3 =>
 bnd (aD .eql v3 x0 h3) fun v4 h4 =>
 aU v4 (
 some ((aF 4), h4)) (
 bnd (aD .add x6 (aF 1) h4) fun v5 h5 =>
    kk10 x0 x5 v5 h5)) (
      eR r n h2)
noncomputable def rG (r : RT) (n : Nat) (m : Nat) : bZ :=
 Nat.rec (motive := fun _ => bZ) (fun _ _ _ _ => none) (fun _ ih => aOe r n ih) m
noncomputable def bDy (r : RT) (n : Nat) : bZ := rG r n n
noncomputable def aRx (r : RT) (n : Nat) (x0 x5 x6 : DV) (h0 : Hp) : aH :=
 bDy r n x0 x5 x6 h0
noncomputable def aYe (r : RT) (n : Nat) (x0 x5 : DV) (h0 : Hp) : aH :=
 aRx r n x0 x5 (aF 0) h0
noncomputable def fC (r : RT) (n : Nat) (x0 : DV) (h0 : Hp) : aH :=
 aYe r n x0 (.s [94, 46, 59, 40, 41, 91, 93, 124]) h0
noncomputable def aQj (r : RT) (n : Nat) (kk12 : bZ) (x0 x3 x4 : DV) (h0 : Hp) : aH :=
 bnd (dI x3 h0) fun v1 h1 =>
 bnd (aD .lss x4 v1 h1) fun v2 h2 =>
 aU v2 (
 bnd (cQ x3 x4 h2) fun v3 h3 =>
 bnd (aD .eql v3 x0 h3) fun v4 h4 =>
 aU v4 (
 some ((aF 3), h4)) (
 bnd (aD .add x4 (aF 1) h4) fun v5 h5 =>
    kk12 x0 x3 v5 h5)) (
      fC r n x0 h2)
noncomputable def rD (r : RT) (n : Nat) (m : Nat) : bZ :=
 Nat.rec (motive := fun _ => bZ) (fun _ _ _ _ => none) (fun _ ih => aQj r n ih) m
noncomputable def aZw (r : RT) (n : Nat) : bZ := rD r n n
noncomputable def aFg (r : RT) (n : Nat) (x0 x3 x4 : DV) (h0 : Hp) : aH :=
 aZw r n x0 x3 x4 h0
noncomputable def aTa (r : RT) (n : Nat) (x0 x3 : DV) (h0 : Hp) : aH :=
 aFg r n x0 x3 (aF 0) h0
noncomputable def aYu (r : RT) (n : Nat) (x0 : DV) (h0 : Hp) : aH :=
 aTa r n x0 (.s [43, 45, 42, 47, 60, 62, 61, 126, 44, 64, 38, 37]) h0
noncomputable def aXx (r : RT) (n : Nat) (x0 : DV) (h0 : Hp) : aH :=
 bnd (aD .eql x0 (.i .u8 (Int.ofNat 9)) h0) fun v1 h1 =>
 bnd (gD v1 false (some (x0, h1)) h1) fun v2 h2 =>
 bnd (gD v1 false (aD .eql v2 (.i .u8 (Int.ofNat 10)) h2) h2) fun v3 h3 =>
 bnd (aN v1 (.b true) v3 h3) fun v4 h4 =>
 bnd (gD v4 false (some (x0, h4)) h4) fun v5 h5 =>
 bnd (gD v4 false (aD .eql v5 (.i .u8 (Int.ofNat 13)) h5) h5) fun v6 h6 =>
 bnd (aN v4 (.b true) v6 h6) fun v7 h7 =>
 bnd (gD v7 false (some (x0, h7)) h7) fun v8 h8 =>
 bnd (gD v7 false (aD .eql v8 (.i .u8 (Int.ofNat 32)) h8) h8) fun v9 h9 =>
 bnd (aN v7 (.b true) v9 h9) fun v10 h10 =>
 aU v10 (
 some ((aF 5), h10)) (
  aYu r n x0 h10)
noncomputable def aRu (r : RT) (n : Nat) (x0 : DV) (h0 : Hp) : aH :=
 bnd (aD .geq x0 (.i .u8 (Int.ofNat 48)) h0) fun v1 h1 =>
 bnd (gD v1 true (some (x0, h1)) h1) fun v2 h2 =>
 bnd (gD v1 true (aD .leq v2 (.i .u8 (Int.ofNat 57)) h2) h2) fun v3 h3 =>
 bnd (aN v1 v3 (.b false) h3) fun v4 h4 =>
 aU v4 (
 some ((aF 2), h4)) (
  aXx r n x0 h4)
noncomputable def aVy (r : RT) (n : Nat) (x0 : DV) (h0 : Hp) : aH :=
 bnd (aD .geq x0 (.i .u8 (Int.ofNat 97)) h0) fun v1 h1 =>
 bnd (gD v1 true (some (x0, h1)) h1) fun v2 h2 =>
 bnd (gD v1 true (aD .leq v2 (.i .u8 (Int.ofNat 122)) h2) h2) fun v3 h3 =>
 bnd (aN v1 v3 (.b false) h3) fun v4 h4 =>
 bnd (gD v4 false (some (x0, h4)) h4) fun v5 h5 =>
 bnd (gD v4 false (aD .geq v5 (.i .u8 (Int.ofNat 65)) h5) h5) fun v6 h6 =>
 bnd (gD v4 false (some (v6, h6)) h6) fun v7 h7 =>
 bnd (gD v7 true (some (x0, h7)) h7) fun v8 h8 =>
 bnd (gD v7 true (aD .leq v8 (.i .u8 (Int.ofNat 90)) h8) h8) fun v9 h9 =>
 bnd (gD v4 false (aN v7 v9 (.b false) h9) h9) fun v10 h10 =>
 bnd (aN v4 (.b true) v10 h10) fun v11 h11 =>
 aU v11 (
 some ((aF 1), h11)) (
  aRu r n x0 h11)
noncomputable def s210 (r : RT) (n : Nat) (x0 : DV) (h0 : Hp) : aH :=
 aVy r n x0 h0
noncomputable abbrev c210 : Code := cf Tryz.f210
noncomputable abbrev aCi : Code := cR c210
noncomputable abbrev aLz : Code := cR aCi
noncomputable abbrev aFc : Code := cR aLz
noncomputable abbrev aNe : Code := cR aFc
noncomputable abbrev aGe : Code := cR aNe
noncomputable abbrev aKc : Code := cR aGe
noncomputable abbrev aCb : Code := cR aKc
noncomputable abbrev dJm : Code := cR aCb
noncomputable abbrev yD : Code := cL aCb
noncomputable abbrev aGh : Code := cR yD
noncomputable abbrev tN : Code := cL aGh
noncomputable abbrev lQ : Code := cL tN
noncomputable abbrev bFm : Code := cL yD
noncomputable abbrev bGb : Code := cL aKc
noncomputable abbrev qX : Code := cL aGe
noncomputable abbrev aDh : Code := cR qX
noncomputable abbrev wI : Code := cL aDh
noncomputable abbrev mD : Code := cL wI
noncomputable abbrev bAd : Code := cL qX
noncomputable abbrev bAa : Code := cL aNe
noncomputable abbrev bFx : Code := cL aFc
noncomputable abbrev bCi : Code := cL aLz
noncomputable abbrev bId : Code := cL aCi
noncomputable abbrev bFs : Code := cL c210
noncomputable abbrev r210 : K := aQ CF Tryz.f210
noncomputable def D210 (r : RT) (n : Nat) (c : Code) (X : Nat → K) (k : K) : K := aP CF r 63 n c X r210 k
theorem dBp : D210 r n dJm x0 r210 = (K0 (eR r n)) :=
 (by kernel_rfl)
theorem bMo (kk10 : bZ) : D210 r n lQ (xs x0 2 (K0 (eR r n))) (K3 kk10 0 5 6) = (K3 (aOe r n kk10) 0 5 6) :=
 (by kernel_rfl)
theorem bNa (m : Nat) : aK (fun kk => D210 r n lQ (xs x0 2 (K0 (eR r n))) kk) m = (K3 (rG r n m) 0 5 6) := by
 induction m with
 | zero => exact (by kernel_rfl : aK (fun kk => D210 r n lQ (xs x0 2 (K0 (eR r n))) kk) 0 = (K3 (rG r n 0) 0 5 6))
 | succ m ih =>
  refine (by kernel_rfl : aK (fun kk => D210 r n lQ (xs x0 2 (K0 (eR r n))) kk) (m + 1) = D210 r n lQ (xs x0 2 (K0 (eR r n))) (aK (fun kk => D210 r n lQ (xs x0 2 (K0 (eR r n))) kk) m)).trans ?_
  rw [ih]
  exact (bMo r n (rG r n m)).trans (by kernel_rfl)
theorem bNz : D210 r n tN (xs x0 2 (K0 (eR r n))) (K0 (eR r n)) = (K3 (bDy r n) 0 5 6) :=
 (by kernel_rfl : D210 r n tN (xs x0 2 (K0 (eR r n))) (K0 (eR r n)) = aK (fun kk => D210 r n lQ (xs x0 2 (K0 (eR r n))) kk) n).trans ((bNa r n n).trans (by kernel_rfl))
theorem cWr : D210 r n aGh x0 (K0 (eR r n)) = (K3 (aRx r n) 0 5 6) :=
 (by kernel_rfl : D210 r n aGh x0 (K0 (eR r n)) = D210 r n tN (xs x0 2 (K0 (eR r n))) (K0 (eR r n))).trans
 ((bNz r n).trans (by kernel_rfl))
theorem cEp : D210 r n aCb x0 r210 = D210 r n yD x0 (K0 (eR r n)) :=
 congrArg (fun k => D210 r n yD x0 k) (dBp r n)
theorem bXu : D210 r n yD x0 (K0 (eR r n)) = D210 r n bFm x0 (K3 (aRx r n) 0 5 6) :=
 congrArg (fun k => D210 r n bFm x0 k) (cWr r n)
theorem dBe : D210 r n aCb x0 r210 = (K2 (aYe r n) 0 5) :=
 (cEp r n).trans
 ((bXu r n).trans
 ((by kernel_rfl)))
theorem cFn : D210 r n aKc x0 r210 = D210 r n bGb x0 (K2 (aYe r n) 0 5) :=
 congrArg (fun k => D210 r n bGb x0 k) (dBe r n)
theorem cRz : D210 r n aKc x0 r210 = (K1 (fC r n) 0) :=
 (cFn r n).trans
 ((by kernel_rfl))
theorem bNc (kk12 : bZ) : D210 r n mD (xs x0 0 (K1 (fC r n) 0)) (K3 kk12 0 3 4) = (K3 (aQj r n kk12) 0 3 4) :=
 (by kernel_rfl)
theorem bNo (m : Nat) : aK (fun kk => D210 r n mD (xs x0 0 (K1 (fC r n) 0)) kk) m = (K3 (rD r n m) 0 3 4) := by
 induction m with
 | zero => exact (by kernel_rfl : aK (fun kk => D210 r n mD (xs x0 0 (K1 (fC r n) 0)) kk) 0 = (K3 (rD r n 0) 0 3 4))
 | succ m ih =>
  refine (by kernel_rfl : aK (fun kk => D210 r n mD (xs x0 0 (K1 (fC r n) 0)) kk) (m + 1) = D210 r n mD (xs x0 0 (K1 (fC r n) 0)) (aK (fun kk => D210 r n mD (xs x0 0 (K1 (fC r n) 0)) kk) m)).trans ?_
  rw [ih]
  exact (bNc r n (rD r n m)).trans (by kernel_rfl)
theorem cJb : D210 r n wI (xs x0 0 (K1 (fC r n) 0)) (K1 (fC r n) 0) = (K3 (aZw r n) 0 3 4) :=
 (by kernel_rfl : D210 r n wI (xs x0 0 (K1 (fC r n) 0)) (K1 (fC r n) 0) = aK (fun kk => D210 r n mD (xs x0 0 (K1 (fC r n) 0)) kk) n).trans ((bNo r n n).trans (by kernel_rfl))
theorem cEi : D210 r n aDh x0 (K1 (fC r n) 0) = (K3 (aFg r n) 0 3 4) :=
 (by kernel_rfl : D210 r n aDh x0 (K1 (fC r n) 0) = D210 r n wI (xs x0 0 (K1 (fC r n) 0)) (K1 (fC r n) 0)).trans
 ((cJb r n).trans (by kernel_rfl))
theorem cBk : D210 r n aGe x0 r210 = D210 r n qX x0 (K1 (fC r n) 0) :=
 congrArg (fun k => D210 r n qX x0 k) (cRz r n)
theorem bSv : D210 r n qX x0 (K1 (fC r n) 0) = D210 r n bAd x0 (K3 (aFg r n) 0 3 4) :=
 congrArg (fun k => D210 r n bAd x0 k) (cEi r n)
theorem cSf : D210 r n aGe x0 r210 = (K2 (aTa r n) 0 3) :=
 (cBk r n).trans
 ((bSv r n).trans
 ((by kernel_rfl)))
theorem bVg : D210 r n aNe x0 r210 = D210 r n bAa x0 (K2 (aTa r n) 0 3) :=
 congrArg (fun k => D210 r n bAa x0 k) (cSf r n)
theorem cOm : D210 r n aNe x0 r210 = (K1 (aYu r n) 0) :=
 (bVg r n).trans
 ((by kernel_rfl))
theorem bQp : D210 r n aFc x0 r210 = D210 r n bFx x0 (K1 (aYu r n) 0) :=
 congrArg (fun k => D210 r n bFx x0 k) (cOm r n)
theorem dDf : D210 r n aFc x0 r210 = (K1 (aXx r n) 0) :=
 (bQp r n).trans
 ((by kernel_rfl))
theorem bPc : D210 r n aLz x0 r210 = D210 r n bCi x0 (K1 (aXx r n) 0) :=
 congrArg (fun k => D210 r n bCi x0 k) (dDf r n)
theorem cSj : D210 r n aLz x0 r210 = (K1 (aRu r n) 0) :=
 (bPc r n).trans
 ((by kernel_rfl))
theorem cBi : D210 r n aCi x0 r210 = D210 r n bId x0 (K1 (aRu r n) 0) :=
 congrArg (fun k => D210 r n bId x0 k) (cSj r n)
theorem cQf : D210 r n aCi x0 r210 = (K1 (aVy r n) 0) :=
 (cBi r n).trans
 ((by kernel_rfl))
theorem cXp : D210 r n c210 x0 r210 = D210 r n bFs x0 (K1 (aVy r n) 0) :=
 congrArg (fun k => D210 r n bFs x0 k) (cQf r n)
theorem dXi : D210 r n c210 x0 r210 = (K1 (s210 r n) 0) :=
 (cXp r n).trans
 ((by kernel_rfl))
theorem dTl : aG CF r n 210 args h = s210 r n (aR args 0) h :=
 (by kernel_rfl : aG CF r n 210 args h = D210 r n c210 x0 r210 (aI args) h).trans ((congrFun (congrFun (dXi r n) (aI args)) h).trans (by kernel_rfl))
noncomputable def s211 (r : RT) (n : Nat) (x0 x1 : DV) (h0 : Hp) : aH :=
 bnd (dI x0 h0) fun v1 h1 =>
 bnd (aD .geq x1 v1 h1) fun v2 h2 =>
 aU v2 (
 some ((.i .i64 (Int.negSucc 0)), h2)) (
 bnd (cQ x0 x1 h2) fun v3 h3 =>
 bnd (r 210 [v3] h3) fun v4 h4 =>
 some (v4, h4))
noncomputable abbrev c211 : Code := cf Tryz.f211
noncomputable abbrev r211 : K := aQ CF Tryz.f211
noncomputable def D211 (r : RT) (n : Nat) (c : Code) (X : Nat → K) (k : K) : K := aP CF r 13 n c X r211 k
theorem eAl : D211 r n c211 x0 r211 = (K2 (s211 r n) 0 1) :=
 (by kernel_rfl)
theorem dNn : aG CF r n 211 args h = s211 r n (aR args 0) (aR args 1) h :=
 (by kernel_rfl : aG CF r n 211 args h = D211 r n c211 x0 r211 (aI args) h).trans ((congrFun (congrFun (eAl r n) (aI args)) h).trans (by kernel_rfl))
noncomputable def fS (r : RT) (n : Nat) (x1 : DV) (h0 : Hp) : aH :=
 some (x1, h0)
noncomputable def bCt (r : RT) (n : Nat) (kk3 : gV) (x0 x1 : DV) (h0 : Hp) : aH :=
 bnd (r 211 [x0, x1] h0) fun v1 h1 =>
 bnd (aD .eql v1 (aF 1) h1) fun v2 h2 =>
 bnd (gD v2 false (some (x0, h2)) h2) fun v3 h3 =>
 bnd (gD v2 false (some (x1, h3)) h3) fun v4 h4 =>
 bnd (gD v2 false (r 211 [v3, v4] h4) h4) fun v5 h5 =>
 bnd (gD v2 false (aD .eql v5 (aF 2) h5) h5) fun v6 h6 =>
 bnd (aN v2 (.b true) v6 h6) fun v7 h7 =>
 aU v7 (
 bnd (aD .add x1 (aF 1) h7) fun v8 h8 =>
      kk3 x0 v8 h8) (
      fS r n x1 h7)
noncomputable def vN (r : RT) (n : Nat) (m : Nat) : gV :=
 Nat.rec (motive := fun _ => gV) (fun _ _ _ => none) (fun _ ih => bCt r n ih) m
noncomputable def bSs (r : RT) (n : Nat) : gV := vN r n n
noncomputable def aWp (r : RT) (n : Nat) (x0 x1 : DV) (h0 : Hp) : aH :=
 bSs r n x0 x1 h0
noncomputable def s212 (r : RT) (n : Nat) (x0 x1 : DV) (h0 : Hp) : aH :=
 aWp r n x0 x1 h0
noncomputable abbrev c212 : Code := cf Tryz.f212
noncomputable abbrev aNj : Code := cR c212
noncomputable abbrev dQd : Code := cR aNj
noncomputable abbrev aJm : Code := cL aNj
noncomputable abbrev aEx : Code := cL aJm
noncomputable abbrev pH : Code := cL aEx
noncomputable abbrev bTh : Code := cL c212
noncomputable abbrev r212 : K := aQ CF Tryz.f212
noncomputable def D212 (r : RT) (n : Nat) (c : Code) (X : Nat → K) (k : K) : K := aP CF r 18 n c X r212 k
theorem dBv : D212 r n dQd x0 r212 = (K1 (fS r n) 1) :=
 (by kernel_rfl)
theorem cNs (kk3 : gV) : D212 r n pH (xs x0 0 (K1 (fS r n) 1)) (K2 kk3 0 1) = (K2 (bCt r n kk3) 0 1) :=
 (by kernel_rfl)
theorem cCx (m : Nat) : aK (fun kk => D212 r n pH (xs x0 0 (K1 (fS r n) 1)) kk) m = (K2 (vN r n m) 0 1) := by
 induction m with
 | zero => exact (by kernel_rfl : aK (fun kk => D212 r n pH (xs x0 0 (K1 (fS r n) 1)) kk) 0 = (K2 (vN r n 0) 0 1))
 | succ m ih =>
  refine (by kernel_rfl : aK (fun kk => D212 r n pH (xs x0 0 (K1 (fS r n) 1)) kk) (m + 1) = D212 r n pH (xs x0 0 (K1 (fS r n) 1)) (aK (fun kk => D212 r n pH (xs x0 0 (K1 (fS r n) 1)) kk) m)).trans ?_
  rw [ih]
  exact (cNs r n (vN r n m)).trans (by kernel_rfl)
theorem dDa : D212 r n aEx (xs x0 0 (K1 (fS r n) 1)) (K1 (fS r n) 1) = (K2 (bSs r n) 0 1) :=
 (by kernel_rfl : D212 r n aEx (xs x0 0 (K1 (fS r n) 1)) (K1 (fS r n) 1) = aK (fun kk => D212 r n pH (xs x0 0 (K1 (fS r n) 1)) kk) n).trans ((cCx r n n).trans (by kernel_rfl))
theorem bXq : D212 r n aNj x0 r212 = D212 r n aJm x0 (K1 (fS r n) 1) :=
 congrArg (fun k => D212 r n aJm x0 k) (dBv r n)
theorem cYb : D212 r n aNj x0 r212 = (K2 (aWp r n) 0 1) :=
 (bXq r n).trans
 ((by kernel_rfl : D212 r n aJm x0 (K1 (fS r n) 1) = D212 r n aEx (xs x0 0 (K1 (fS r n) 1)) (K1 (fS r n) 1)).trans
 ((dDa r n).trans (by kernel_rfl)))
theorem dSs : D212 r n c212 x0 r212 = D212 r n bTh x0 (K2 (aWp r n) 0 1) :=
 congrArg (fun k => D212 r n bTh x0 k) (cYb r n)
theorem eDh : D212 r n c212 x0 r212 = (K2 (s212 r n) 0 1) :=
 (dSs r n).trans
 ((by kernel_rfl))
theorem dMf : aG CF r n 212 args h = s212 r n (aR args 0) (aR args 1) h :=
 (by kernel_rfl : aG CF r n 212 args h = D212 r n c212 x0 r212 (aI args) h).trans ((congrFun (congrFun (eDh r n) (aI args)) h).trans (by kernel_rfl))
noncomputable def s213 (r : RT) (n : Nat) (x0 x1 : DV) (h0 : Hp) : aH :=
 bnd (dI x0 h0) fun v1 h1 =>
 bnd (aD .lss x1 v1 h1) fun v2 h2 =>
 bnd (gD v2 true (some (x0, h2)) h2) fun v3 h3 =>
 bnd (gD v2 true (some (x1, h3)) h3) fun v4 h4 =>
 bnd (gD v2 true (cQ v3 v4 h4) h4) fun v5 h5 =>
 bnd (gD v2 true (aD .eql v5 (.i .u8 (Int.ofNat 58)) h5) h5) fun v6 h6 =>
 bnd (aN v2 v6 (.b false) h6) fun v7 h7 =>
 bnd (gD v7 true (some (x1, h7)) h7) fun v8 h8 =>
 bnd (gD v7 true (aD .add v8 (aF 1) h8) h8) fun v9 h9 =>
 bnd (gD v7 true (some (x0, h9)) h9) fun v10 h10 =>
 bnd (gD v7 true (dI v10 h10) h10) fun v11 h11 =>
 bnd (gD v7 true (aD .lss v9 v11 h11) h11) fun v12 h12 =>
 bnd (gD v7 true (some (v12, h12)) h12) fun v13 h13 =>
 bnd (gD v13 true (some (x0, h13)) h13) fun v14 h14 =>
 bnd (gD v13 true (some (x1, h14)) h14) fun v15 h15 =>
 bnd (gD v13 true (aD .add v15 (aF 1) h15) h15) fun v16 h16 =>
 bnd (gD v13 true (cQ v14 v16 h16) h16) fun v17 h17 =>
 bnd (gD v13 true (aD .eql v17 (.i .u8 (Int.ofNat 61)) h17) h17) fun v18 h18 =>
 bnd (gD v7 true (aN v13 v18 (.b false) h18) h18) fun v19 h19 =>
 bnd (gD v7 true (gP .not v19 h19) h19) fun v20 h20 =>
 bnd (aN v7 v20 (.b false) h20) fun v21 h21 =>
 some (v21, h21)
noncomputable abbrev c213 : Code := cf Tryz.f213
noncomputable abbrev r213 : K := aQ CF Tryz.f213
noncomputable def D213 (r : RT) (n : Nat) (c : Code) (X : Nat → K) (k : K) : K := aP CF r 30 n c X r213 k
theorem dZd : D213 r n c213 x0 r213 = (K2 (s213 r n) 0 1) :=
 (by kernel_rfl)
theorem dHl : aG CF r n 213 args h = s213 r n (aR args 0) (aR args 1) h :=
 (by kernel_rfl : aG CF r n 213 args h = D213 r n c213 x0 r213 (aI args) h).trans ((congrFun (congrFun (dZd r n) (aI args)) h).trans (by kernel_rfl))
noncomputable def s219 (r : RT) (n : Nat) (x0 x1 : DV) (h0 : Hp) : aH :=
 bnd (bQ x1 h0) fun v1 h1 =>
 bnd (bS tQ h1) fun v2 h2 =>
 bnd (r 165 [x0, (aF 2), (.s [])] h2) fun v3 h3 =>
 bnd (gP .not v3 h3) fun v4 h4 =>
 aU v4 (
 bnd (aL 6 v1 h4) fun v5 h5 =>
 bnd (aJ 6 v2 v5 h5) fun _ h6 =>
 bnd (aL 6 v2 h6) fun v7 _ =>
 some (v7, h6)) (
 bnd (r 220 [x0] h4) fun v8 h8 =>
 bnd (bS tQ h8) fun v9 h9 =>
 bnd (aJ 6 v9 v8 h9) fun _ h10 =>
 bnd (aL 6 v1 h10) fun v11 h11 =>
 bnd (aO tQ 1 [(0, 6, v11)] h11) fun v12 h12 =>
 bnd (aB 5 v9 h12) fun v13 h13 =>
 bnd (aA v13 h13) fun v14 h14 =>
 bnd (aW 6 104 v12 v14 h14) fun v15 h15 =>
 bnd (aB 1 v9 h15) fun v16 h16 =>
 bnd (aA v16 h16) fun v17 h17 =>
 bnd (bL tQ [(0, 1, (aF 7)), (1, 1, v17), (5, 1, v15)] h17) fun v18 h18 =>
 bnd (aJ 6 v2 v18 h18) fun _ h19 =>
 bnd (aL 6 v2 h19) fun v20 _ =>
 some (v20, h19))
noncomputable abbrev c219 : Code := cf Tryz.f219
noncomputable abbrev r219 : K := aQ CF Tryz.f219
noncomputable def D219 (r : RT) (n : Nat) (c : Code) (X : Nat → K) (k : K) : K := aP CF r 23 n c X r219 k
theorem dYm : D219 r n c219 x0 r219 = (K2 (s219 r n) 0 1) :=
 (by kernel_rfl)
theorem dMg : aG CF r n 219 args h = s219 r n (aR args 0) (aR args 1) h :=
 (by kernel_rfl : aG CF r n 219 args h = D219 r n c219 x0 r219 (aI args) h).trans ((congrFun (congrFun (dYm r n) (aI args)) h).trans (by kernel_rfl))
noncomputable def s222 (r : RT) (n : Nat) (x0 x1 : DV) (h0 : Hp) : aH :=
 bnd (bL [(aF 0), (.s []), (aF 0), .l0] [(0, 1, (aF 3)), (1, 1, x1)] h0) fun v1 h1 =>
 bnd (fJ [x0, v1] h1) fun v2 h2 =>
 some (v2, h2)
noncomputable abbrev c222 : Code := cf Tryz.f222
noncomputable abbrev r222 : K := aQ CF Tryz.f222
noncomputable def D222 (r : RT) (n : Nat) (c : Code) (X : Nat → K) (k : K) : K := aP CF r 9 n c X r222 k
theorem dVr : D222 r n c222 x0 r222 = (K2 (s222 r n) 0 1) :=
 (by kernel_rfl)
theorem dPa : aG CF r n 222 args h = s222 r n (aR args 0) (aR args 1) h :=
 (by kernel_rfl : aG CF r n 222 args h = D222 r n c222 x0 r222 (aI args) h).trans ((congrFun (congrFun (dVr r n) (aI args)) h).trans (by kernel_rfl))
noncomputable def s223 (r : RT) (n : Nat) (x0 : DV) (h0 : Hp) : aH :=
 bnd (bQ x0 h0) fun v1 h1 =>
 bnd (aB 0 v1 h1) fun v2 h2 =>
 bnd (aA v2 h2) fun v3 h3 =>
 bnd (aD .eql v3 (aF 9) h3) fun v4 h4 =>
 bnd (gD v4 true (aB 3 v1 h4) h4) fun v5 h5 =>
 bnd (gD v4 true (aA v5 h5) h5) fun v6 h6 =>
 bnd (gD v4 true (bJ v6 h6) h6) fun v7 h7 =>
 bnd (gD v4 true (aD .eql v7 (aF 0) h7) h7) fun v8 h8 =>
 bnd (aN v4 v8 (.b false) h8) fun v9 h9 =>
 some (v9, h9)
noncomputable abbrev c223 : Code := cf Tryz.f223
noncomputable abbrev r223 : K := aQ CF Tryz.f223
noncomputable def D223 (r : RT) (n : Nat) (c : Code) (X : Nat → K) (k : K) : K := aP CF r 12 n c X r223 k
theorem eDk : D223 r n c223 x0 r223 = (K1 (s223 r n) 0) :=
 (by kernel_rfl)
theorem dTp : aG CF r n 223 args h = s223 r n (aR args 0) h :=
 (by kernel_rfl : aG CF r n 223 args h = D223 r n c223 x0 r223 (aI args) h).trans ((congrFun (congrFun (eDk r n) (aI args)) h).trans (by kernel_rfl))
end Go.Dd

namespace Go.Dd
open Go.Proofs
variable (r : RT) (n : Nat) (args : List DV) (h : Hp)
noncomputable def s227 (r : RT) (n : Nat) (x0 : DV) (h0 : Hp) : aH :=
 bnd (aD .eql x0 (aF 16) h0) fun v1 h1 =>
 bnd (gD v1 false (some (x0, h1)) h1) fun v2 h2 =>
 bnd (gD v1 false (aD .eql v2 (aF 17) h2) h2) fun v3 h3 =>
 bnd (aN v1 (.b true) v3 h3) fun v4 h4 =>
 some (v4, h4)
noncomputable abbrev c227 : Code := cf Tryz.f227
noncomputable abbrev r227 : K := aQ CF Tryz.f227
noncomputable def D227 (r : RT) (n : Nat) (c : Code) (X : Nat → K) (k : K) : K := aP CF r 9 n c X r227 k
theorem eFj : D227 r n c227 x0 r227 = (K1 (s227 r n) 0) :=
 (by kernel_rfl)
theorem dUo : aG CF r n 227 args h = s227 r n (aR args 0) h :=
 (by kernel_rfl : aG CF r n 227 args h = D227 r n c227 x0 r227 (aI args) h).trans ((congrFun (congrFun (eFj r n) (aI args)) h).trans (by kernel_rfl))
noncomputable def s228 (r : RT) (n : Nat) (x0 x1 : DV) (h0 : Hp) : aH :=
 bnd (aA x1 h0) fun v1 h1 =>
 bnd (r 199 [v1, x0] h1) fun v2 h2 =>
 bnd (aD .geq v2 (aF 0) h2) fun v3 h3 =>
 some (v3, h3)
noncomputable abbrev c228 : Code := cf Tryz.f228
noncomputable abbrev r228 : K := aQ CF Tryz.f228
noncomputable def D228 (r : RT) (n : Nat) (c : Code) (X : Nat → K) (k : K) : K := aP CF r 8 n c X r228 k
theorem eAz : D228 r n c228 x0 r228 = (K2 (s228 r n) 0 1) :=
 (by kernel_rfl)
theorem dPg : aG CF r n 228 args h = s228 r n (aR args 0) (aR args 1) h :=
 (by kernel_rfl : aG CF r n 228 args h = D228 r n c228 x0 r228 (aI args) h).trans ((congrFun (congrFun (eAz r n) (aI args)) h).trans (by kernel_rfl))
noncomputable def s229 (r : RT) (n : Nat) (x0 x1 : DV) (h0 : Hp) : aH :=
 bnd (mI [x0, x1] h0) fun v1 h1 =>
 some (v1, h1)
noncomputable abbrev c229 : Code := cf Tryz.f229
noncomputable abbrev r229 : K := aQ CF Tryz.f229
noncomputable def D229 (r : RT) (n : Nat) (c : Code) (X : Nat → K) (k : K) : K := aP CF r 8 n c X r229 k
theorem dXm : D229 r n c229 x0 r229 = (K2 (s229 r n) 0 1) :=
 (by kernel_rfl)
theorem dTv : aG CF r n 229 args h = s229 r n (aR args 0) (aR args 1) h :=
 (by kernel_rfl : aG CF r n 229 args h = D229 r n c229 x0 r229 (aI args) h).trans ((congrFun (congrFun (dXm r n) (aI args)) h).trans (by kernel_rfl))
noncomputable def s230 (r : RT) (n : Nat) (x0 x1 : DV) (h0 : Hp) : aH :=
 bnd (aX x0 h0) fun v1 h1 =>
 bnd (aB 1 v1 h1) fun v2 h2 =>
 bnd (aA v2 h2) fun v3 h3 =>
 bnd (aD .add v3 x1 h3) fun v4 h4 =>
 bnd (aX x0 h4) fun v5 h5 =>
 bnd (aB 0 v5 h5) fun v6 h6 =>
 bnd (aA v6 h6) fun v7 h7 =>
 bnd (dI v7 h7) fun v8 h8 =>
 bnd (aD .geq v4 v8 h8) fun v9 h9 =>
 aU v9 (
 some ((.i .u8 (Int.ofNat 0)), h9)) (
 bnd (aX x0 h9) fun v10 h10 =>
 bnd (aB 0 v10 h10) fun v11 h11 =>
 bnd (aA v11 h11) fun v12 h12 =>
 bnd (aX x0 h12) fun v13 h13 =>
 bnd (aB 1 v13 h13) fun v14 h14 =>
 bnd (aA v14 h14) fun v15 h15 =>
 bnd (aD .add v15 x1 h15) fun v16 h16 =>
 bnd (cQ v12 v16 h16) fun v17 h17 =>
 some (v17, h17))
noncomputable abbrev c230 : Code := cf Tryz.f230
noncomputable abbrev r230 : K := aQ CF Tryz.f230
noncomputable def D230 (r : RT) (n : Nat) (c : Code) (X : Nat → K) (k : K) : K := aP CF r 28 n c X r230 k
theorem eEf : D230 r n c230 x0 r230 = (K2 (s230 r n) 0 1) :=
 (by kernel_rfl)
theorem dMz : aG CF r n 230 args h = s230 r n (aR args 0) (aR args 1) h :=
 (by kernel_rfl : aG CF r n 230 args h = D230 r n c230 x0 r230 (aI args) h).trans ((congrFun (congrFun (eEf r n) (aI args)) h).trans (by kernel_rfl))
noncomputable def s231 (r : RT) (n : Nat) (x0 : DV) (h0 : Hp) : aH :=
 bnd (aD .geq x0 (.i .u8 (Int.ofNat 97)) h0) fun v1 h1 =>
 bnd (gD v1 true (some (x0, h1)) h1) fun v2 h2 =>
 bnd (gD v1 true (aD .leq v2 (.i .u8 (Int.ofNat 122)) h2) h2) fun v3 h3 =>
 bnd (aN v1 v3 (.b false) h3) fun v4 h4 =>
 bnd (gD v4 false (some (x0, h4)) h4) fun v5 h5 =>
 bnd (gD v4 false (aD .geq v5 (.i .u8 (Int.ofNat 65)) h5) h5) fun v6 h6 =>
 bnd (gD v4 false (some (v6, h6)) h6) fun v7 h7 =>
 bnd (gD v7 true (some (x0, h7)) h7) fun v8 h8 =>
 bnd (gD v7 true (aD .leq v8 (.i .u8 (Int.ofNat 90)) h8) h8) fun v9 h9 =>
 bnd (gD v4 false (aN v7 v9 (.b false) h9) h9) fun v10 h10 =>
 bnd (aN v4 (.b true) v10 h10) fun v11 h11 =>
 some (v11, h11)
noncomputable abbrev c231 : Code := cf Tryz.f231
noncomputable abbrev r231 : K := aQ CF Tryz.f231
noncomputable def D231 (r : RT) (n : Nat) (c : Code) (X : Nat → K) (k : K) : K := aP CF r 17 n c X r231 k
theorem dYs : D231 r n c231 x0 r231 = (K1 (s231 r n) 0) :=
 (by kernel_rfl)
theorem dHu : aG CF r n 231 args h = s231 r n (aR args 0) h :=
 (by kernel_rfl : aG CF r n 231 args h = D231 r n c231 x0 r231 (aI args) h).trans ((congrFun (congrFun (dYs r n) (aI args)) h).trans (by kernel_rfl))
noncomputable def s232 (r : RT) (n : Nat) (x0 : DV) (h0 : Hp) : aH :=
 bnd (aX x0 h0) fun v1 h1 =>
 bnd (aB 0 v1 h1) fun v2 h2 =>
 bnd (aA v2 h2) fun v3 h3 =>
 bnd (dI v3 h3) fun v4 h4 =>
 bnd (r 197 [x0, (.f 267 [] []), v4] h4) fun v5 h5 =>
 bnd (dI v5 h5) fun v6 h6 =>
 bnd (aD .gtr v6 (aF 24) h6) fun v7 h7 =>
 aU v7 (
 some (.t [(.s []), (aF 12)], h7)) (
 some (.t [v5, (aF 0)], h7))
noncomputable abbrev c232 : Code := cf Tryz.f232
noncomputable abbrev r232 : K := aQ CF Tryz.f232
noncomputable def D232 (r : RT) (n : Nat) (c : Code) (X : Nat → K) (k : K) : K := aP CF r 16 n c X r232 k
theorem dZq : D232 r n c232 x0 r232 = (K1 (s232 r n) 0) :=
 (by kernel_rfl)
theorem dNa : aG CF r n 232 args h = s232 r n (aR args 0) h :=
 (by kernel_rfl : aG CF r n 232 args h = D232 r n c232 x0 r232 (aI args) h).trans ((congrFun (congrFun (dZq r n) (aI args)) h).trans (by kernel_rfl))
noncomputable def s233 (r : RT) (n : Nat) (x0 : DV) (h0 : Hp) : aH :=
 bnd (r 230 [x0, (aF 0)] h0) fun v1 h1 =>
 bnd (aD .neq v1 (.i .u8 (Int.ofNat 58)) h1) fun v2 h2 =>
 bnd (gD v2 false (some (x0, h2)) h2) fun v3 h3 =>
 bnd (gD v2 false (r 230 [v3, (aF 1)] h3) h3) fun v4 h4 =>
 bnd (gD v2 false (aD .eql v4 (.i .u8 (Int.ofNat 61)) h4) h4) fun v5 h5 =>
 bnd (aN v2 (.b true) v5 h5) fun v6 h6 =>
 aU v6 (
 some ((.b false), h6)) (
 bnd (aX x0 h6) fun v7 h7 =>
 bnd (aB 1 v7 h7) fun v8 h8 =>
 bnd (aA v8 h8) fun v9 h9 =>
 bnd (aD .add v9 (aF 1) h9) fun v10 h10 =>
 bnd (aX x0 h10) fun v11 h11 =>
 bnd (aB 1 v11 h11) fun v12 h12 =>
 bnd (aJ 1 v12 v10 h12) fun _ h13 =>
 some ((.b true), h13))
noncomputable abbrev c233 : Code := cf Tryz.f233
noncomputable abbrev r233 : K := aQ CF Tryz.f233
noncomputable def D233 (r : RT) (n : Nat) (c : Code) (X : Nat → K) (k : K) : K := aP CF r 18 n c X r233 k
theorem eCv : D233 r n c233 x0 r233 = (K1 (s233 r n) 0) :=
 (by kernel_rfl)
theorem dLz : aG CF r n 233 args h = s233 r n (aR args 0) h :=
 (by kernel_rfl : aG CF r n 233 args h = D233 r n c233 x0 r233 (aI args) h).trans ((congrFun (congrFun (eCv r n) (aI args)) h).trans (by kernel_rfl))
noncomputable def s234 (r : RT) (n : Nat) (x0 : DV) (h0 : Hp) : aH :=
 bnd (aD .geq x0 (.i .u8 (Int.ofNat 48)) h0) fun v1 h1 =>
 bnd (gD v1 true (some (x0, h1)) h1) fun v2 h2 =>
 bnd (gD v1 true (aD .leq v2 (.i .u8 (Int.ofNat 57)) h2) h2) fun v3 h3 =>
 bnd (aN v1 v3 (.b false) h3) fun v4 h4 =>
 some (v4, h4)
noncomputable abbrev c234 : Code := cf Tryz.f234
noncomputable abbrev r234 : K := aQ CF Tryz.f234
noncomputable def D234 (r : RT) (n : Nat) (c : Code) (X : Nat → K) (k : K) : K := aP CF r 9 n c X r234 k
theorem eBn : D234 r n c234 x0 r234 = (K1 (s234 r n) 0) :=
 (by kernel_rfl)
theorem dJs : aG CF r n 234 args h = s234 r n (aR args 0) h :=
 (by kernel_rfl : aG CF r n 234 args h = D234 r n c234 x0 r234 (aI args) h).trans ((congrFun (congrFun (eBn r n) (aI args)) h).trans (by kernel_rfl))
noncomputable def eY (r : RT) (n : Nat) (x4 : DV) (h0 : Hp) : aH :=
 some (.t [x4, (aF 0)], h0)
noncomputable def bDb (r : RT) (n : Nat) (kk5 : gV) (x4 x14 : DV) (h0 : Hp) : aH :=
 bnd (xH x14 h0) fun v1 h1 =>
 bnd (aE 0 v1 h1) fun v2 h2 =>
 aU v2 (
 bnd (aE 2 v1 h2) fun v3 h3 =>
 bnd (aD .gtr x4 (aF 115292150460684697) h3) fun v4 h4 =>
 aU v4 (
 some (.t [(aF 0), (aF 2)], h4)) (
 bnd (aD .mul x4 (aF 10) h4) fun v5 h5 =>
 bnd (aD .sub v3 (.i .i32 (Int.ofNat 48)) h5) fun v6 h6 =>
 bnd (cX .i64 v6 h6) fun v7 h7 =>
 bnd (aD .add v5 v7 h7) fun v8 h8 =>
 bnd (aD .gtr v8 (aF 1152921504606846976) h8) fun v9 h9 =>
 aU v9 (
 some (.t [(aF 0), (aF 2)], h9)) (
     kk5 v8 x14 h9))) (
   eY r n x4 h2)
noncomputable def vK (r : RT) (n : Nat) (m : Nat) : gV :=
 Nat.rec (motive := fun _ => gV) (fun _ _ _ => none) (fun _ ih => bDb r n ih) m
noncomputable def bYo (r : RT) (n : Nat) : gV := vK r n n
noncomputable def aSz (r : RT) (n : Nat) (x4 x14 : DV) (h0 : Hp) : aH :=
 bYo r n x4 x14 h0
noncomputable def aTc (r : RT) (n : Nat) (x0 x4 : DV) (h0 : Hp) : aH :=
 bnd (aX x0 h0) fun v1 h1 =>
 bnd (aB 0 v1 h1) fun v2 h2 =>
 bnd (aA v2 h2) fun v3 h3 =>
 bnd (dI v3 h3) fun v4 h4 =>
 bnd (r 197 [x0, (.f 234 [] []), v4] h4) fun v5 h5 =>
 bnd (pO v5 h5) fun v6 h6 =>
  aSz r n x4 v6 h6
noncomputable def aWv (r : RT) (n : Nat) (x0 : DV) (h0 : Hp) : aH :=
 aTc r n x0 (aF 0) h0
noncomputable def s235 (r : RT) (n : Nat) (x0 : DV) (h0 : Hp) : aH :=
 aWv r n x0 h0
noncomputable abbrev c235 : Code := cf Tryz.f235
noncomputable abbrev aHg : Code := cR c235
noncomputable abbrev aMf : Code := cR aHg
noncomputable abbrev dOs : Code := cR aMf
noncomputable abbrev xB : Code := cL aMf
noncomputable abbrev aTt : Code := cR xB
noncomputable abbrev aJs : Code := cL aTt
noncomputable abbrev oY : Code := cL aJs
noncomputable abbrev cKa : Code := cL xB
noncomputable abbrev cEo : Code := cL aHg
noncomputable abbrev bHj : Code := cL c235
noncomputable abbrev r235 : K := aQ CF Tryz.f235
noncomputable def D235 (r : RT) (n : Nat) (c : Code) (X : Nat → K) (k : K) : K := aP CF r 29 n c X r235 k
theorem cRv : D235 r n dOs x0 r235 = (K1 (eY r n) 4) :=
 (by kernel_rfl)
theorem cEc (kk5 : gV) : D235 r n oY (xs x0 0 (K1 (eY r n) 4)) (K2 kk5 4 14) = (K2 (bDb r n kk5) 4 14) :=
 (by kernel_rfl)
theorem bQg (m : Nat) : aK (fun kk => D235 r n oY (xs x0 0 (K1 (eY r n) 4)) kk) m = (K2 (vK r n m) 4 14) := by
 induction m with
 | zero => exact (by kernel_rfl : aK (fun kk => D235 r n oY (xs x0 0 (K1 (eY r n) 4)) kk) 0 = (K2 (vK r n 0) 4 14))
 | succ m ih =>
  refine (by kernel_rfl : aK (fun kk => D235 r n oY (xs x0 0 (K1 (eY r n) 4)) kk) (m + 1) = D235 r n oY (xs x0 0 (K1 (eY r n) 4)) (aK (fun kk => D235 r n oY (xs x0 0 (K1 (eY r n) 4)) kk) m)).trans ?_
  rw [ih]
  exact (cEc r n (vK r n m)).trans (by kernel_rfl)
theorem dCo : D235 r n aJs (xs x0 0 (K1 (eY r n) 4)) (K1 (eY r n) 4) = (K2 (bYo r n) 4 14) :=
 (by kernel_rfl : D235 r n aJs (xs x0 0 (K1 (eY r n) 4)) (K1 (eY r n) 4) = aK (fun kk => D235 r n oY (xs x0 0 (K1 (eY r n) 4)) kk) n).trans ((bQg r n n).trans (by kernel_rfl))
theorem cSb : D235 r n aTt x0 (K1 (eY r n) 4) = (K2 (aSz r n) 4 14) :=
 (by kernel_rfl : D235 r n aTt x0 (K1 (eY r n) 4) = D235 r n aJs (xs x0 0 (K1 (eY r n) 4)) (K1 (eY r n) 4)).trans
 ((dCo r n).trans (by kernel_rfl))
theorem bUe : D235 r n aMf x0 r235 = D235 r n xB x0 (K1 (eY r n) 4) :=
 congrArg (fun k => D235 r n xB x0 k) (cRv r n)
theorem cGj : D235 r n xB x0 (K1 (eY r n) 4) = D235 r n cKa x0 (K2 (aSz r n) 4 14) :=
 congrArg (fun k => D235 r n cKa x0 k) (cSb r n)
theorem cTq : D235 r n aMf x0 r235 = (K2 (aTc r n) 0 4) :=
 (bUe r n).trans
 ((cGj r n).trans
 ((by kernel_rfl)))
theorem bTo : D235 r n aHg x0 r235 = D235 r n cEo x0 (K2 (aTc r n) 0 4) :=
 congrArg (fun k => D235 r n cEo x0 k) (cTq r n)
theorem cPn : D235 r n aHg x0 r235 = (K1 (aWv r n) 0) :=
 (bTo r n).trans
 ((by kernel_rfl))
theorem dLa : D235 r n c235 x0 r235 = D235 r n bHj x0 (K1 (aWv r n) 0) :=
 congrArg (fun k => D235 r n bHj x0 k) (cPn r n)
theorem eEg : D235 r n c235 x0 r235 = (K1 (s235 r n) 0) :=
 (dLa r n).trans
 ((by kernel_rfl))
theorem dJf : aG CF r n 235 args h = s235 r n (aR args 0) h :=
 (by kernel_rfl : aG CF r n 235 args h = D235 r n c235 x0 r235 (aI args) h).trans ((congrFun (congrFun (eEg r n) (aI args)) h).trans (by kernel_rfl))
noncomputable def s239 (r : RT) (n : Nat) (x0 x1 : DV) (h0 : Hp) : aH :=
 bnd (bQ x1 h0) fun v1 h1 =>
 bnd (bS [(.s []), (.b false), (.b false), (aF 0)] h1) fun v2 h2 =>
 bnd (aX x0 h2) fun v3 h3 =>
 bnd (aB 6 v3 h3) fun v4 h4 =>
 bnd (aA v4 h4) fun v5 h5 =>
 bnd (r 275 [v5, (.f 276 [] [v1])] h5) fun v6 h6 =>
 bnd (aD .lss v6 (aF 0) h6) fun v7 h7 =>
 aU v7 (
 bnd (bL [(.s []), (.b false), (.b false), (aF 0)] [] h7) fun v8 h8 =>
 bnd (aJ 4 v2 v8 h8) fun _ h9 =>
 bnd (aL 4 v2 h9) fun v10 _ =>
 some (.t [v10, (.b false)], h9)) (
 bnd (aX x0 h7) fun v11 h11 =>
 bnd (aB 6 v11 h11) fun v12 h12 =>
 bnd (aA v12 h12) fun v13 h13 =>
 bnd (aC 4 v13 v6 h13) fun v14 h14 =>
 bnd (aL 4 v14 h14) fun v15 h15 =>
 bnd (aJ 4 v2 v15 h15) fun _ h16 =>
 bnd (aL 4 v2 h16) fun v17 _ =>
 some (.t [v17, (.b true)], h16))
noncomputable abbrev c239 : Code := cf Tryz.f239
noncomputable abbrev r239 : K := aQ CF Tryz.f239
noncomputable def D239 (r : RT) (n : Nat) (c : Code) (X : Nat → K) (k : K) : K := aP CF r 23 n c X r239 k
theorem dXg : D239 r n c239 x0 r239 = (K2 (s239 r n) 0 1) :=
 (by kernel_rfl)
theorem dKg : aG CF r n 239 args h = s239 r n (aR args 0) (aR args 1) h :=
 (by kernel_rfl : aG CF r n 239 args h = D239 r n c239 x0 r239 (aI args) h).trans ((congrFun (congrFun (dXg r n) (aI args)) h).trans (by kernel_rfl))
noncomputable def aJe (r : RT) (n : Nat) (x0 x1 : DV) (h0 : Hp) : aH :=
 bnd (r 239 [x0, x1] h0) fun v1 h1 =>
 bnd (aE 0 v1 h1) fun v2 h2 =>
 bnd (aE 1 v1 h2) fun v3 h3 =>
 bnd (bS [(.s []), (.b false), (.b false), (aF 0)] h3) fun v4 h4 =>
 bnd (aJ 4 v4 v2 h4) fun _ h5 =>
 bnd (gD v3 true (aB 1 v4 h5) h5) fun v6 h6 =>
 bnd (gD v3 true (aA v6 h6) h6) fun v7 h7 =>
 bnd (aN v3 v7 (.b false) h7) fun v8 h8 =>
 aU v8 (
 bnd (aB 3 v4 h8) fun v9 h9 =>
 bnd (aA v9 h9) fun v10 h10 =>
 bnd (r 209 [x0, (aF 8), v10, (aF 0)] h10) fun v11 h11 =>
 some (.t [], h11)) (
 aU v3 (
 bnd (aB 3 v4 h8) fun v12 h12 =>
 bnd (aA v12 h12) fun v13 h13 =>
 bnd (r 209 [x0, (aF 7), v13, (aF 0)] h13) fun v14 h14 =>
 some (.t [], h14)) (
 bnd (r 279 [x1] h8) fun v15 h15 =>
 aU v15 (
 bnd (r 280 [x0, x1] h15) fun v16 h16 =>
 bnd (r 209 [x0, (aF 9), v16, (aF 0)] h16) fun v17 h17 =>
 some (.t [], h17)) (
 bnd (r 241 [x0, x1, (aF 15)] h15) fun v18 h18 =>
 some (.t [], h18))))
noncomputable def s244 (r : RT) (n : Nat) (x0 x1 : DV) (h0 : Hp) : aH :=
 bnd (fK .eql x1 (.s [115, 101, 108, 102]) h0) fun v1 h1 =>
 aU v1 (
 bnd (r 209 [x0, (aF 1), (aF 0), (aF 0)] h1) fun v2 h2 =>
 some (.t [], h2)) (
 bnd (fK .eql x1 (.s [110, 105, 108]) h1) fun v3 h3 =>
 aU v3 (
 bnd (r 209 [x0, (aF 2), (aF 0), (aF 0)] h3) fun v4 h4 =>
 some (.t [], h4)) (
 bnd (fK .eql x1 (.s [116, 114, 117, 101]) h3) fun v5 h5 =>
 aU v5 (
 bnd (r 209 [x0, (aF 3), (aF 0), (aF 0)] h5) fun v6 h6 =>
 some (.t [], h6)) (
 bnd (fK .eql x1 (.s [102, 97, 108, 115, 101]) h5) fun v7 h7 =>
 aU v7 (
 bnd (r 209 [x0, (aF 4), (aF 0), (aF 0)] h7) fun v8 h8 =>
 some (.t [], h8)) (
 bnd (fK .eql x1 (.s [116, 104, 105, 115, 67, 111, 110, 116, 101, 120, 116]) h7) fun v9 h9 =>
 aU v9 (
 bnd (r 209 [x0, (aF 5), (aF 0), (aF 0)] h9) fun v10 h10 =>
 some (.t [], h10)) (
 bnd (fK .eql x1 (.s [115, 117, 112, 101, 114]) h9) fun v11 h11 =>
 aU v11 (
 bnd (r 241 [x0, x1, (aF 15)] h11) fun v12 h12 =>
       aJe r n x0 x1 h12) (
       aJe r n x0 x1 h11))))))
noncomputable abbrev c244 : Code := cf Tryz.f244
noncomputable abbrev dIh : Code := cR c244
noncomputable abbrev bQe : Code := cL c244
noncomputable abbrev r244 : K := aQ CF Tryz.f244
noncomputable def D244 (r : RT) (n : Nat) (c : Code) (X : Nat → K) (k : K) : K := aP CF r 65 n c X r244 k
theorem dBd : D244 r n dIh x0 r244 = (K2 (aJe r n) 0 1) :=
 (by kernel_rfl)
theorem dKn : D244 r n c244 x0 r244 = D244 r n bQe x0 (K2 (aJe r n) 0 1) :=
 congrArg (fun k => D244 r n bQe x0 k) (dBd r n)
theorem eDn : D244 r n c244 x0 r244 = (K2 (s244 r n) 0 1) :=
 (dKn r n).trans
 ((by kernel_rfl))
theorem dOy : aG CF r n 244 args h = s244 r n (aR args 0) (aR args 1) h :=
 (by kernel_rfl : aG CF r n 244 args h = D244 r n c244 x0 r244 (aI args) h).trans ((congrFun (congrFun (eDn r n) (aI args)) h).trans (by kernel_rfl))
noncomputable def s246 (r : RT) (n : Nat) (x0 x1 : DV) (h0 : Hp) : aH :=
 bnd (bQ x1 h0) fun v1 h1 =>
 bnd (aB 5 v1 h1) fun v2 h2 =>
 bnd (aA v2 h2) fun v3 h3 =>
 bnd (bJ v3 h3) fun v4 h4 =>
 bnd (aD .eql v4 (aF 0) h4) fun v5 h5 =>
 aU v5 (
 bnd (r 241 [x0, (.s []), (aF 1)] h5) fun v6 h6 =>
 some (.t [], h6)) (
 bnd (aL 6 v1 h5) fun v7 h7 =>
 bnd (r 281 [x0, v7] h7) fun v8 h8 =>
 bnd (gD v8 false (some (x0, h8)) h8) fun v9 h9 =>
 bnd (gD v8 false (aL 6 v1 h9) h9) fun v10 h10 =>
 bnd (gD v8 false (r 282 [v9, v10] h10) h10) fun v11 h11 =>
 bnd (aN v8 (.b true) v11 h11) fun v12 h12 =>
 aU v12 (
 some (.t [], h12)) (
 bnd (aB 5 v1 h12) fun v13 h13 =>
 bnd (aA v13 h13) fun v14 h14 =>
 bnd (aC 6 v14 (aF 0) h14) fun v15 h15 =>
 bnd (aL 6 v15 h15) fun v16 h16 =>
 bnd (r 284 [x0, v16] h16) fun v17 h17 =>
 bnd (aB 1 v1 h17) fun v18 h18 =>
 bnd (aA v18 h18) fun v19 h19 =>
 cnd (bR (aA v18 h12) v19 && true) (
 bnd (aB 5 v1 h19) fun v20 h20 =>
 bnd (aA v20 h20) fun v21 h21 =>
 cnd (bR (aA v20 h12) v21 && true) (
 bnd (cT 6 v21 (some (aF 1)) none h21) fun v22 h22 =>
 cnd (bR (cT 6 v21 (some (aF 1)) none h12) v22 && true) (
 bnd (r 283 [x0, v17, v19, v22] h22) fun v23 h23 =>
 some (.t [], h23))))))
noncomputable abbrev c246 : Code := cf Tryz.f246
noncomputable abbrev r246 : K := aQ CF Tryz.f246
noncomputable def D246 (r : RT) (n : Nat) (c : Code) (X : Nat → K) (k : K) : K := aP CF r 31 n c X r246 k
theorem eEb : D246 r n c246 x0 r246 = (K2 (s246 r n) 0 1) :=
 (by kernel_rfl)
theorem dHn : aG CF r n 246 args h = s246 r n (aR args 0) (aR args 1) h :=
 (by kernel_rfl : aG CF r n 246 args h = D246 r n c246 x0 r246 (aI args) h).trans ((congrFun (congrFun (eEb r n) (aI args)) h).trans (by kernel_rfl))
end Go.Dd

namespace Go.Dd
open Go.Proofs
variable (r : RT) (n : Nat) (args : List DV) (h : Hp)
noncomputable def s251 (r : RT) (n : Nat) (x0 : DV) (h0 : Hp) : aH :=
 bnd (bS tQ h0) fun v1 h1 =>
 bnd (r 170 [x0, (aF 0)] h1) fun v2 h2 =>
 bnd (bS [(aF 0), (.s []), (aF 0), (aF 0)] h2) fun v3 h3 =>
 bnd (aJ 4 v3 v2 h3) fun _ h4 =>
 bnd (r 165 [x0, (aF 3), (.s [45])] h4) fun v5 h5 =>
 bnd (gD v5 true (some (x0, h5)) h5) fun v6 h6 =>
 bnd (gD v5 true (r 170 [v6, (aF 1)] h6) h6) fun v7 h7 =>
 bnd (gD v5 true (gJ 0 v7 h7) h7) fun v8 h8 =>
 bnd (gD v5 true (aD .eql v8 (aF 4) h8) h8) fun v9 h9 =>
 bnd (aN v5 v9 (.b false) h9) fun v10 h10 =>
 bnd (gD v10 true (some (x0, h10)) h10) fun v11 h11 =>
 bnd (gD v10 true (r 170 [v11, (aF 1)] h11) h11) fun v12 h12 =>
 bnd (gD v10 true (gJ 3 v12 h12) h12) fun v13 h13 =>
 bnd (gD v10 true (aB 3 v3 h13) h13) fun v14 h14 =>
 bnd (gD v10 true (aA v14 h14) h14) fun v15 h15 =>
 cnd (bR (gD v10 true (aA v14 h7) h7) v15 && true) (
 bnd (gD v10 true (aD .add v15 (aF 1) h15) h15) fun v16 h16 =>
 bnd (gD v10 true (aD .eql v13 v16 h16) h16) fun v17 h17 =>
 bnd (aN v10 v17 (.b false) h17) fun v18 h18 =>
 aU v18 (
 bnd (r 166 [x0] h18) fun v19 h19 =>
 bnd (r 166 [x0] h19) fun v20 h20 =>
 bnd (gJ 2 v20 h20) fun v21 h21 =>
 bnd (gP .neg v21 h21) fun v22 h22 =>
 bnd (bL tQ [(0, 1, (aF 1)), (2, 1, v22)] h22) fun v23 h23 =>
 bnd (aJ 6 v1 v23 h23) fun _ h24 =>
 bnd (aL 6 v1 h24) fun v25 _ =>
 some (.t [v25, (.b true)], h24)) (
 bnd (r 165 [x0, (aF 4), (.s [])] h18) fun v26 h26 =>
 aU v26 (
 bnd (r 166 [x0] h26) fun v27 h27 =>
 bnd (gJ 2 v27 h27) fun v28 h28 =>
 bnd (bL tQ [(0, 1, (aF 1)), (2, 1, v28)] h28) fun v29 h29 =>
 bnd (aJ 6 v1 v29 h29) fun _ h30 =>
 bnd (aL 6 v1 h30) fun v31 _ =>
 some (.t [v31, (.b true)], h30)) (
 bnd (r 165 [x0, (aF 5), (.s [])] h26) fun v32 h32 =>
 aU v32 (
 bnd (r 166 [x0] h32) fun v33 h33 =>
 bnd (gJ 1 v33 h33) fun v34 h34 =>
 bnd (bL tQ [(0, 1, (aF 2)), (1, 1, v34)] h34) fun v35 h35 =>
 bnd (aJ 6 v1 v35 h35) fun _ h36 =>
 bnd (aL 6 v1 h36) fun v37 _ =>
 some (.t [v37, (.b true)], h36)) (
 bnd (r 165 [x0, (aF 6), (.s [])] h32) fun v38 h38 =>
 aU v38 (
 bnd (r 166 [x0] h38) fun v39 h39 =>
 bnd (gJ 1 v39 h39) fun v40 h40 =>
 bnd (bL tQ [(0, 1, (aF 3)), (1, 1, v40)] h40) fun v41 h41 =>
 bnd (aJ 6 v1 v41 h41) fun _ h42 =>
 bnd (aL 6 v1 h42) fun v43 _ =>
 some (.t [v43, (.b true)], h42)) (
 bnd (bL tQ [] h38) fun v44 h44 =>
 bnd (aJ 6 v1 v44 h44) fun _ h45 =>
 bnd (aL 6 v1 h45) fun v46 _ =>
 some (.t [v46, (.b false)], h45))))))
noncomputable abbrev c251 : Code := cf Tryz.f251
noncomputable abbrev r251 : K := aQ CF Tryz.f251
noncomputable def D251 (r : RT) (n : Nat) (c : Code) (X : Nat → K) (k : K) : K := aP CF r 50 n c X r251 k
theorem dXe : D251 r n c251 x0 r251 = (K1 (s251 r n) 0) :=
 (by kernel_rfl)
theorem dKb : aG CF r n 251 args h = s251 r n (aR args 0) h :=
 (by kernel_rfl : aG CF r n 251 args h = D251 r n c251 x0 r251 (aI args) h).trans ((congrFun (congrFun (dXe r n) (aI args)) h).trans (by kernel_rfl))
noncomputable def s267 (r : RT) (n : Nat) (x0 : DV) (h0 : Hp) : aH :=
 bnd (r 231 [x0] h0) fun v1 h1 =>
 bnd (gD v1 false (some (x0, h1)) h1) fun v2 h2 =>
 bnd (gD v1 false (r 234 [v2] h2) h2) fun v3 h3 =>
 bnd (aN v1 (.b true) v3 h3) fun v4 h4 =>
 some (v4, h4)
noncomputable abbrev c267 : Code := cf Tryz.f267
noncomputable abbrev r267 : K := aQ CF Tryz.f267
noncomputable def D267 (r : RT) (n : Nat) (c : Code) (X : Nat → K) (k : K) : K := aP CF r 9 n c X r267 k
theorem dVk : D267 r n c267 x0 r267 = (K1 (s267 r n) 0) :=
 (by kernel_rfl)
theorem dKa : aG CF r n 267 args h = s267 r n (aR args 0) h :=
 (by kernel_rfl : aG CF r n 267 args h = D267 r n c267 x0 r267 (aI args) h).trans ((congrFun (congrFun (dVk r n) (aI args)) h).trans (by kernel_rfl))
noncomputable def eS (r : RT) (n : Nat) (h0 : Hp) : aH :=
 some ((.i .i64 (Int.negSucc 0)), h0)
noncomputable def bEy (r : RT) (n : Nat) (kk4 : bT) (x0 x1 x7 x8 : DV) (h0 : Hp) : aH :=
 bnd (aD .lss x8 x7 h0) fun v1 h1 =>
 aU v1 (
 bnd (aC 4 x0 x8 h1) fun v2 h2 =>
 bnd (aL 4 v2 h2) fun v3 h3 =>
 bnd (jX CF r x1 [v3] h3) fun v4 h4 =>
 aU v4 (
 some (x8, h4)) (
 bnd (aD .add x8 (aF 1) h4) fun v5 h5 =>
    kk4 x0 x1 x7 v5 h5)) (
      eS r n h1)
noncomputable def vL (r : RT) (n : Nat) (m : Nat) : bT :=
 Nat.rec (motive := fun _ => bT) (fun _ _ _ _ _ => none) (fun _ ih => bEy r n ih) m
noncomputable def bYb (r : RT) (n : Nat) : bT := vL r n n
noncomputable def aVb (r : RT) (n : Nat) (x0 x1 x7 x8 : DV) (h0 : Hp) : aH :=
 bYb r n x0 x1 x7 x8 h0
noncomputable def aZb (r : RT) (n : Nat) (x0 x1 : DV) (h0 : Hp) : aH :=
 bnd (bJ x0 h0) fun v1 h1 =>
  aVb r n x0 x1 v1 (aF 0) h1
noncomputable def s275 (r : RT) (n : Nat) (x0 x1 : DV) (h0 : Hp) : aH :=
 aZb r n x0 x1 h0
noncomputable abbrev c275 : Code := cf Tryz.f275
noncomputable abbrev aDr : Code := cR c275
noncomputable abbrev dQa : Code := cR aDr
noncomputable abbrev zS : Code := cL aDr
noncomputable abbrev aRs : Code := cR zS
noncomputable abbrev aIt : Code := cL aRs
noncomputable abbrev oX : Code := cL aIt
noncomputable abbrev cHu : Code := cL zS
noncomputable abbrev cKx : Code := cL c275
noncomputable abbrev r275 : K := aQ CF Tryz.f275
noncomputable def D275 (r : RT) (n : Nat) (c : Code) (X : Nat → K) (k : K) : K := aP CF r 19 n c X r275 k
theorem dEe : D275 r n dQa x0 r275 = (K0 (eS r n)) :=
 (by kernel_rfl)
theorem cFf (kk4 : bT) : D275 r n oX (xs x0 0 (K0 (eS r n))) (K4 kk4 0 1 7 8) = (K4 (bEy r n kk4) 0 1 7 8) :=
 (by kernel_rfl)
theorem bVm (m : Nat) : aK (fun kk => D275 r n oX (xs x0 0 (K0 (eS r n))) kk) m = (K4 (vL r n m) 0 1 7 8) := by
 induction m with
 | zero => exact (by kernel_rfl : aK (fun kk => D275 r n oX (xs x0 0 (K0 (eS r n))) kk) 0 = (K4 (vL r n 0) 0 1 7 8))
 | succ m ih =>
  refine (by kernel_rfl : aK (fun kk => D275 r n oX (xs x0 0 (K0 (eS r n))) kk) (m + 1) = D275 r n oX (xs x0 0 (K0 (eS r n))) (aK (fun kk => D275 r n oX (xs x0 0 (K0 (eS r n))) kk) m)).trans ?_
  rw [ih]
  exact (cFf r n (vL r n m)).trans (by kernel_rfl)
theorem cUi : D275 r n aIt (xs x0 0 (K0 (eS r n))) (K0 (eS r n)) = (K4 (bYb r n) 0 1 7 8) :=
 (by kernel_rfl : D275 r n aIt (xs x0 0 (K0 (eS r n))) (K0 (eS r n)) = aK (fun kk => D275 r n oX (xs x0 0 (K0 (eS r n))) kk) n).trans ((bVm r n n).trans (by kernel_rfl))
theorem cPx : D275 r n aRs x0 (K0 (eS r n)) = (K4 (aVb r n) 0 1 7 8) :=
 (by kernel_rfl : D275 r n aRs x0 (K0 (eS r n)) = D275 r n aIt (xs x0 0 (K0 (eS r n))) (K0 (eS r n))).trans
 ((cUi r n).trans (by kernel_rfl))
theorem bTj : D275 r n aDr x0 r275 = D275 r n zS x0 (K0 (eS r n)) :=
 congrArg (fun k => D275 r n zS x0 k) (dEe r n)
theorem bQj : D275 r n zS x0 (K0 (eS r n)) = D275 r n cHu x0 (K4 (aVb r n) 0 1 7 8) :=
 congrArg (fun k => D275 r n cHu x0 k) (cPx r n)
theorem cVq : D275 r n aDr x0 r275 = (K2 (aZb r n) 0 1) :=
 (bTj r n).trans
 ((bQj r n).trans
 ((by kernel_rfl)))
theorem dOp : D275 r n c275 x0 r275 = D275 r n cKx x0 (K2 (aZb r n) 0 1) :=
 congrArg (fun k => D275 r n cKx x0 k) (cVq r n)
theorem dZh : D275 r n c275 x0 r275 = (K2 (s275 r n) 0 1) :=
 (dOp r n).trans
 ((by kernel_rfl))
theorem dKo : aG CF r n 275 args h = s275 r n (aR args 0) (aR args 1) h :=
 (by kernel_rfl : aG CF r n 275 args h = D275 r n c275 x0 r275 (aI args) h).trans ((congrFun (congrFun (dZh r n) (aI args)) h).trans (by kernel_rfl))
noncomputable def s276 (r : RT) (n : Nat) (x0 x1 : DV) (h0 : Hp) : aH :=
 bnd (bQ x0 h0) fun v1 h1 =>
 bnd (aB 0 v1 h1) fun v2 h2 =>
 bnd (aA v2 h2) fun v3 h3 =>
 bnd (aA x1 h3) fun v4 h4 =>
 bnd (fK .eql v3 v4 h4) fun v5 h5 =>
 some (v5, h5)
noncomputable abbrev c276 : Code := cf Tryz.f276
noncomputable abbrev r276 : K := aQ CF Tryz.f276
noncomputable def D276 (r : RT) (n : Nat) (c : Code) (X : Nat → K) (k : K) : K := aP CF r 8 n c X r276 k
theorem eCc : D276 r n c276 x0 r276 = (K2 (s276 r n) 0 1) :=
 (by kernel_rfl)
theorem dQx : aG CF r n 276 args h = s276 r n (aR args 0) (aR args 1) h :=
 (by kernel_rfl : aG CF r n 276 args h = D276 r n c276 x0 r276 (aI args) h).trans ((congrFun (congrFun (eCc r n) (aI args)) h).trans (by kernel_rfl))
noncomputable def s277 (r : RT) (n : Nat) (x0 x1 : DV) (h0 : Hp) : aH :=
 bnd (bQ x0 h0) fun v1 h1 =>
 bnd (aL 4 v1 h1) fun v2 h2 =>
 bnd (aL 4 x1 h2) fun v3 h3 =>
 bnd (r 278 [v2, v3] h3) fun v4 h4 =>
 some (v4, h4)
noncomputable abbrev c277 : Code := cf Tryz.f277
noncomputable abbrev r277 : K := aQ CF Tryz.f277
noncomputable def D277 (r : RT) (n : Nat) (c : Code) (X : Nat → K) (k : K) : K := aP CF r 7 n c X r277 k
theorem eEm : D277 r n c277 x0 r277 = (K2 (s277 r n) 0 1) :=
 (by kernel_rfl)
theorem dUf : aG CF r n 277 args h = s277 r n (aR args 0) (aR args 1) h :=
 (by kernel_rfl : aG CF r n 277 args h = D277 r n c277 x0 r277 (aI args) h).trans ((congrFun (congrFun (eEm r n) (aI args)) h).trans (by kernel_rfl))
noncomputable def s278 (r : RT) (n : Nat) (x0 x1 : DV) (h0 : Hp) : aH :=
 bnd (bQ x0 h0) fun v1 h1 =>
 bnd (bQ x1 h1) fun v2 h2 =>
 bnd (aB 0 v1 h2) fun v3 h3 =>
 bnd (aA v3 h3) fun v4 h4 =>
 bnd (aB 0 v2 h4) fun v5 h5 =>
 bnd (aA v5 h5) fun v6 h6 =>
 bnd (aD .eql v4 v6 h6) fun v7 h7 =>
 bnd (gD v7 true (aB 1 v1 h7) h7) fun v8 h8 =>
 bnd (gD v7 true (aA v8 h8) h8) fun v9 h9 =>
 bnd (gD v7 true (aB 1 v2 h9) h9) fun v10 h10 =>
 bnd (gD v7 true (aA v10 h10) h10) fun v11 h11 =>
 bnd (gD v7 true (fK .eql v9 v11 h11) h11) fun v12 h12 =>
 bnd (aN v7 v12 (.b false) h12) fun v13 h13 =>
 bnd (gD v13 true (aB 2 v1 h13) h13) fun v14 h14 =>
 bnd (gD v13 true (aA v14 h14) h14) fun v15 h15 =>
 bnd (gD v13 true (aB 2 v2 h15) h15) fun v16 h16 =>
 bnd (gD v13 true (aA v16 h16) h16) fun v17 h17 =>
 bnd (gD v13 true (aD .eql v15 v17 h17) h17) fun v18 h18 =>
 bnd (aN v13 v18 (.b false) h18) fun v19 h19 =>
 bnd (gD v19 true (aB 3 v1 h19) h19) fun v20 h20 =>
 bnd (gD v19 true (aA v20 h20) h20) fun v21 h21 =>
 bnd (gD v19 true (aB 3 v2 h21) h21) fun v22 h22 =>
 bnd (gD v19 true (aA v22 h22) h22) fun v23 h23 =>
 bnd (gD v19 true (r 301 [v21, v23, (.f 278 [] [])] h23) h23) fun v24 h24 =>
 bnd (aN v19 v24 (.b false) h24) fun v25 h25 =>
 some (v25, h25)
noncomputable abbrev c278 : Code := cf Tryz.f278
noncomputable abbrev r278 : K := aQ CF Tryz.f278
noncomputable def D278 (r : RT) (n : Nat) (c : Code) (X : Nat → K) (k : K) : K := aP CF r 31 n c X r278 k
theorem eEh : D278 r n c278 x0 r278 = (K2 (s278 r n) 0 1) :=
 (by kernel_rfl)
theorem dUv : aG CF r n 278 args h = s278 r n (aR args 0) (aR args 1) h :=
 (by kernel_rfl : aG CF r n 278 args h = D278 r n c278 x0 r278 (aI args) h).trans ((congrFun (congrFun (eEh r n) (aI args)) h).trans (by kernel_rfl))
noncomputable def s280 (r : RT) (n : Nat) (x0 x1 : DV) (h0 : Hp) : aH :=
 bnd (bL [(aF 0), (.s []), (aF 0), .l0] [(0, 1, (aF 3)), (1, 1, x1)] h0) fun v1 h1 =>
 bnd (mA [x0, v1] h1) fun v2 h2 =>
 some (v2, h2)
noncomputable abbrev c280 : Code := cf Tryz.f280
noncomputable abbrev r280 : K := aQ CF Tryz.f280
noncomputable def D280 (r : RT) (n : Nat) (c : Code) (X : Nat → K) (k : K) : K := aP CF r 9 n c X r280 k
theorem eFr : D280 r n c280 x0 r280 = (K2 (s280 r n) 0 1) :=
 (by kernel_rfl)
theorem dSt : aG CF r n 280 args h = s280 r n (aR args 0) (aR args 1) h :=
 (by kernel_rfl : aG CF r n 280 args h = D280 r n c280 x0 r280 (aI args) h).trans ((congrFun (congrFun (eFr r n) (aI args)) h).trans (by kernel_rfl))
end Go.Dd

namespace Go.Dd
open Go.Proofs
variable (r : RT) (n : Nat) (args : List DV) (h : Hp)
noncomputable def s284 (r : RT) (n : Nat) (x0 x1 : DV) (h0 : Hp) : aH :=
 bnd (bQ x1 h0) fun v1 h1 =>
 bnd (aL 6 v1 h1) fun v2 h2 =>
 bnd (r 311 [v2] h2) fun v3 h3 =>
 aU v3 (
 bnd (r 209 [x0, (aF 1), (aF 0), (aF 0)] h3) fun v4 h4 =>
 some ((aF 15), h4)) (
 bnd (aL 6 v1 h3) fun v5 h5 =>
 bnd (r 208 [x0, v5] h5) fun v6 h6 =>
 some ((aF 14), h6))
noncomputable abbrev c284 : Code := cf Tryz.f284
noncomputable abbrev r284 : K := aQ CF Tryz.f284
noncomputable def D284 (r : RT) (n : Nat) (c : Code) (X : Nat → K) (k : K) : K := aP CF r 12 n c X r284 k
theorem eEx : D284 r n c284 x0 r284 = (K2 (s284 r n) 0 1) :=
 (by kernel_rfl)
theorem dMn : aG CF r n 284 args h = s284 r n (aR args 0) (aR args 1) h :=
 (by kernel_rfl : aG CF r n 284 args h = D284 r n c284 x0 r284 (aI args) h).trans ((congrFun (congrFun (eEx r n) (aI args)) h).trans (by kernel_rfl))
noncomputable def s311 (r : RT) (n : Nat) (x0 : DV) (h0 : Hp) : aH :=
 bnd (bQ x0 h0) fun v1 h1 =>
 bnd (aB 0 v1 h1) fun v2 h2 =>
 bnd (aA v2 h2) fun v3 h3 =>
 bnd (aD .eql v3 (aF 5) h3) fun v4 h4 =>
 bnd (gD v4 true (aB 1 v1 h4) h4) fun v5 h5 =>
 bnd (gD v4 true (aA v5 h5) h5) fun v6 h6 =>
 bnd (gD v4 true (fK .eql v6 (.s [115, 117, 112, 101, 114]) h6) h6) fun v7 h7 =>
 bnd (aN v4 v7 (.b false) h7) fun v8 h8 =>
 some (v8, h8)
noncomputable abbrev c311 : Code := cf Tryz.f311
noncomputable abbrev r311 : K := aQ CF Tryz.f311
noncomputable def D311 (r : RT) (n : Nat) (c : Code) (X : Nat → K) (k : K) : K := aP CF r 11 n c X r311 k
theorem dYp : D311 r n c311 x0 r311 = (K1 (s311 r n) 0) :=
 (by kernel_rfl)
theorem dQf : aG CF r n 311 args h = s311 r n (aR args 0) h :=
 (by kernel_rfl : aG CF r n 311 args h = D311 r n c311 x0 r311 (aI args) h).trans ((congrFun (congrFun (dYp r n) (aI args)) h).trans (by kernel_rfl))
noncomputable def s313 (r : RT) (n : Nat) (x0 : DV) (h0 : Hp) : aH :=
 bnd (r 205 [x0, (aF 1)] h0) fun v1 h1 =>
 bnd (bS [(aF 0), (.s []), (aF 0), (aF 0)] h1) fun v2 h2 =>
 bnd (aJ 4 v2 v1 h2) fun _ h3 =>
 bnd (r 201 [x0, (aF 3), (.s [45])] h3) fun v4 h4 =>
 bnd (gD v4 true (aB 0 v2 h4) h4) fun v5 h5 =>
 bnd (gD v4 true (aA v5 h5) h5) fun v6 h6 =>
 bnd (gD v4 true (aD .eql v6 (aF 4) h6) h6) fun v7 h7 =>
 bnd (aN v4 v7 (.b false) h7) fun v8 h8 =>
 bnd (gD v8 true (aB 3 v2 h8) h8) fun v9 h9 =>
 bnd (gD v8 true (aA v9 h9) h9) fun v10 h10 =>
 bnd (gD v8 true (some (x0, h10)) h10) fun v11 h11 =>
 bnd (gD v8 true (r 205 [v11, (aF 0)] h11) h11) fun v12 h12 =>
 cnd (bR (gD v8 true (aA v9 h12) h12) v10 && true) (
 bnd (gD v8 true (gJ 3 v12 h12) h12) fun v13 h13 =>
 bnd (gD v8 true (aD .add v13 (aF 1) h13) h13) fun v14 h14 =>
 bnd (gD v8 true (aD .eql v10 v14 h14) h14) fun v15 h15 =>
 bnd (aN v8 v15 (.b false) h15) fun v16 h16 =>
 some (v16, h16))
noncomputable abbrev c313 : Code := cf Tryz.f313
noncomputable abbrev r313 : K := aQ CF Tryz.f313
noncomputable def D313 (r : RT) (n : Nat) (c : Code) (X : Nat → K) (k : K) : K := aP CF r 22 n c X r313 k
theorem dWb : D313 r n c313 x0 r313 = (K1 (s313 r n) 0) :=
 (by kernel_rfl)
theorem dIi : aG CF r n 313 args h = s313 r n (aR args 0) h :=
 (by kernel_rfl : aG CF r n 313 args h = D313 r n c313 x0 r313 (aI args) h).trans ((congrFun (congrFun (dWb r n) (aI args)) h).trans (by kernel_rfl))
end Go.Dd

namespace Go.Dd
open Go.Proofs
section
variable (ih : RT) (m : Nat) (f : FuncId) (args : List DV) (h : Hp)
theorem cV {i : Nat} {s r : aH} (e1 : s = aG CF ih m i args h) (e2 : r = aG CF ih m f args h) : (bif Nat.beq f i then s else r) = aG CF ih m f args h := by
 cases e : Nat.beq f i with
 | false => exact e2
 | true => cases Nat.eq_of_beq_eq_true e; exact e1
theorem ndC {i : Nat} {a b : aH} (e1 : a = aG CF ih m f args h) (e2 : b = aG CF ih m f args h) : (bif Nat.blt f i then a else b) = aG CF ih m f args h := by
 cases Nat.blt f i with
 | false => exact e2
 | true => exact e1
noncomputable def qg0 : aH := bif Nat.beq f 10 then s10 ih m (aR args 0) h else bif Nat.beq f 11 then s11 ih m (aR args 0) (aR args 1) h else bif Nat.beq f 13 then s13 ih m (aR args 0) (aR args 1) h else bif Nat.beq f 14 then s14 ih m (aR args 0) (aR args 1) h else bif Nat.beq f 15 then s15 ih m (aR args 0) (aR args 1) h else bif Nat.beq f 16 then s16 ih m h else bif Nat.beq f 18 then s18 ih m (aR args 0) (aR args 1) h else bif Nat.beq f 25 then s25 ih m (aR args 0) (aR args 1) h else aG CF ih m f args h
theorem eIr : qg0 ih m f args h = aG CF ih m f args h := cV ih m f args h (eFx ih m args h).symm (cV ih m f args h (eBh ih m args h).symm (cV ih m f args h (dVo ih m args h).symm (cV ih m f args h (eCd ih m args h).symm (cV ih m f args h (eBw ih m args h).symm (cV ih m f args h (dFi ih m args h).symm (cV ih m f args h (eAs ih m args h).symm (cV ih m f args h (dYw ih m args h).symm rfl)))))))
noncomputable def qg1 : aH := bif Nat.beq f 28 then s28 ih m h else bif Nat.beq f 34 then s34 ih m (aR args 0) (aR args 1) (aR args 2) h else bif Nat.beq f 35 then s35 ih m (aR args 0) (aR args 1) (aR args 2) h else bif Nat.beq f 40 then s40 ih m (aR args 0) (aR args 1) (aR args 2) h else bif Nat.beq f 45 then s45 ih m (aR args 0) (aR args 1) h else bif Nat.beq f 46 then s46 ih m (aR args 0) h else bif Nat.beq f 48 then s48 ih m (aR args 0) (aR args 1) (aR args 2) h else bif Nat.beq f 49 then s49 ih m (aR args 0) (aR args 1) (aR args 2) h else aG CF ih m f args h
theorem eKk : qg1 ih m f args h = aG CF ih m f args h := cV ih m f args h (dWj ih m args h).symm (cV ih m f args h (eAe ih m args h).symm (cV ih m f args h (dZr ih m args h).symm (cV ih m f args h (dFe ih m args h).symm (cV ih m f args h (dWa ih m args h).symm (cV ih m f args h (eFo ih m args h).symm (cV ih m f args h (eGb ih m args h).symm (cV ih m f args h (eEy ih m args h).symm rfl)))))))
noncomputable def qg2 : aH := bif Nat.beq f 53 then s53 ih m (aR args 0) (aR args 1) (aR args 2) h else bif Nat.beq f 55 then s55 ih m (aR args 0) (aR args 1) h else bif Nat.beq f 56 then s56 ih m (aR args 0) (aR args 1) h else bif Nat.beq f 58 then s58 ih m (aR args 0) (aR args 1) h else bif Nat.beq f 61 then s61 ih m (aR args 0) (aR args 1) (aR args 2) (aR args 3) h else bif Nat.beq f 65 then s65 ih m (aR args 0) (aR args 1) h else bif Nat.beq f 66 then s66 ih m (aR args 0) (aR args 1) h else bif Nat.beq f 67 then s67 ih m (aR args 0) (aR args 1) h else aG CF ih m f args h
theorem eKh : qg2 ih m f args h = aG CF ih m f args h := cV ih m f args h (dWc ih m args h).symm (cV ih m f args h (dWz ih m args h).symm (cV ih m f args h (eCt ih m args h).symm (cV ih m f args h (eCh ih m args h).symm (cV ih m f args h (eBr ih m args h).symm (cV ih m f args h (eCo ih m args h).symm (cV ih m f args h (dYi ih m args h).symm (cV ih m f args h (dYf ih m args h).symm rfl)))))))
noncomputable def qg3 : aH := bif Nat.beq f 68 then s68 ih m (aR args 0) h else bif Nat.beq f 69 then s69 ih m (aR args 0) (aR args 1) h else bif Nat.beq f 70 then s70 ih m (aR args 0) h else bif Nat.beq f 71 then s71 ih m (aR args 0) h else bif Nat.beq f 72 then s72 ih m (aR args 0) h else bif Nat.beq f 82 then s82 ih m (aR args 0) (aR args 1) h else bif Nat.beq f 83 then s83 ih m (aR args 0) (aR args 1) h else bif Nat.beq f 84 then s84 ih m (aR args 0) h else aG CF ih m f args h
theorem eJt : qg3 ih m f args h = aG CF ih m f args h := cV ih m f args h (eGf ih m args h).symm (cV ih m f args h (dZk ih m args h).symm (cV ih m f args h (dZo ih m args h).symm (cV ih m f args h (eEa ih m args h).symm (cV ih m f args h (eBb ih m args h).symm (cV ih m f args h (eEc ih m args h).symm (cV ih m f args h (eDv ih m args h).symm (cV ih m f args h (dWg ih m args h).symm rfl)))))))
noncomputable def qg4 : aH := bif Nat.beq f 86 then s86 ih m (aR args 0) h else bif Nat.beq f 87 then s87 ih m (aR args 0) (aR args 1) h else bif Nat.beq f 88 then s88 ih m (aR args 0) (aR args 1) (aR args 2) h else bif Nat.beq f 91 then s91 ih m (aR args 0) (aR args 1) (aR args 2) h else bif Nat.beq f 92 then s92 ih m (aR args 0) (aR args 1) h else bif Nat.beq f 93 then s93 ih m (aR args 0) (aR args 1) h else bif Nat.beq f 96 then s96 ih m (aR args 0) (aR args 1) h else bif Nat.beq f 97 then s97 ih m (aR args 0) (aR args 1) h else aG CF ih m f args h
theorem eJk : qg4 ih m f args h = aG CF ih m f args h := cV ih m f args h (dXp ih m args h).symm (cV ih m f args h (dZp ih m args h).symm (cV ih m f args h (dXl ih m args h).symm (cV ih m f args h (eDf ih m args h).symm (cV ih m f args h (eFe ih m args h).symm (cV ih m f args h (dYj ih m args h).symm (cV ih m f args h (dVz ih m args h).symm (cV ih m f args h (eAc ih m args h).symm rfl)))))))
noncomputable def qg5 : aH := bif Nat.beq f 106 then s106 ih m (aR args 0) (aR args 1) h else bif Nat.beq f 109 then s109 ih m (aR args 0) (aR args 1) h else bif Nat.beq f 112 then s112 ih m (aR args 0) h else bif Nat.beq f 114 then s114 ih m (aR args 0) (aR args 1) h else bif Nat.beq f 116 then s116 ih m (aR args 0) h else bif Nat.beq f 117 then s117 ih m (aR args 0) (aR args 1) (aR args 2) h else bif Nat.beq f 118 then s118 ih m (aR args 0) (aR args 1) h else bif Nat.beq f 120 then s120 ih m (aR args 0) (aR args 1) h else aG CF ih m f args h
theorem eJu : qg5 ih m f args h = aG CF ih m f args h := cV ih m f args h (dIy ih m args h).symm (cV ih m f args h (dQt ih m args h).symm (cV ih m f args h (dUn ih m args h).symm (cV ih m f args h (dIj ih m args h).symm (cV ih m f args h (dRw ih m args h).symm (cV ih m f args h (dPd ih m args h).symm (cV ih m f args h (dSo ih m args h).symm (cV ih m f args h (dQw ih m args h).symm rfl)))))))
noncomputable def qg6 : aH := bif Nat.beq f 121 then s121 ih m (aR args 0) h else bif Nat.beq f 123 then s123 ih m (aR args 0) (aR args 1) (aR args 2) h else bif Nat.beq f 124 then s124 ih m (aR args 0) (aR args 1) (aR args 2) (aR args 3) h else bif Nat.beq f 125 then s125 ih m (aR args 0) h else bif Nat.beq f 129 then s129 ih m (aR args 0) (aR args 1) (aR args 2) h else bif Nat.beq f 130 then s130 ih m (aR args 0) (aR args 1) (aR args 2) h else bif Nat.beq f 131 then s131 ih m (aR args 0) (aR args 1) h else bif Nat.beq f 132 then s132 ih m (aR args 0) (aR args 1) (aR args 2) (aR args 3) h else aG CF ih m f args h
theorem eJp : qg6 ih m f args h = aG CF ih m f args h := cV ih m f args h (dIt ih m args h).symm (cV ih m f args h (dQu ih m args h).symm (cV ih m f args h (dMh ih m args h).symm (cV ih m f args h (dUa ih m args h).symm (cV ih m f args h (dMs ih m args h).symm (cV ih m f args h (dOm ih m args h).symm (cV ih m f args h (dTe ih m args h).symm (cV ih m f args h (dLe ih m args h).symm rfl)))))))
noncomputable def qg7 : aH := bif Nat.beq f 134 then s134 ih m (aR args 0) (aR args 1) h else bif Nat.beq f 135 then s135 ih m (aR args 0) (aR args 1) h else bif Nat.beq f 144 then s144 ih m (aR args 0) h else bif Nat.beq f 145 then s145 ih m (aR args 0) (aR args 1) (aR args 2) h else bif Nat.beq f 146 then s146 ih m (aR args 0) (aR args 1) h else bif Nat.beq f 147 then s147 ih m (aR args 0) h else bif Nat.beq f 148 then s148 ih m (aR args 0) (aR args 1) h else bif Nat.beq f 149 then s149 ih m (aR args 0) h else aG CF ih m f args h
theorem eGt : qg7 ih m f args h = aG CF ih m f args h := cV ih m f args h (dHe ih m args h).symm (cV ih m f args h (dTc ih m args h).symm (cV ih m f args h (dRk ih m args h).symm (cV ih m f args h (dUu ih m args h).symm (cV ih m f args h (dGt ih m args h).symm (cV ih m f args h (dOg ih m args h).symm (cV ih m f args h (dMd ih m args h).symm (cV ih m f args h (dPl ih m args h).symm rfl)))))))
noncomputable def qg8 : aH := bif Nat.beq f 150 then s150 ih m (aR args 0) (aR args 1) (aR args 2) h else bif Nat.beq f 151 then s151 ih m (aR args 0) h else bif Nat.beq f 152 then s152 ih m (aR args 0) (aR args 1) h else bif Nat.beq f 153 then s153 ih m (aR args 0) (aR args 1) h else bif Nat.beq f 154 then s154 ih m (aR args 0) h else bif Nat.beq f 157 then s157 ih m (aR args 0) (aR args 1) (aR args 2) h else bif Nat.beq f 161 then s161 ih m (aR args 0) h else bif Nat.beq f 162 then s162 ih m (aR args 0) (aR args 1) h else aG CF ih m f args h
theorem eLd : qg8 ih m f args h = aG CF ih m f args h := cV ih m f args h (dLl ih m args h).symm (cV ih m f args h (dTi ih m args h).symm (cV ih m f args h (dIr ih m args h).symm (cV ih m f args h (dIx ih m args h).symm (cV ih m f args h (dQo ih m args h).symm (cV ih m f args h (dQi ih m args h).symm (cV ih m f args h (dSb ih m args h).symm (cV ih m f args h (dOj ih m args h).symm rfl)))))))
noncomputable def qg9 : aH := bif Nat.beq f 163 then s163 ih m (aR args 0) (aR args 1) h else bif Nat.beq f 164 then s164 ih m (aR args 0) (aR args 1) h else bif Nat.beq f 165 then s165 ih m (aR args 0) (aR args 1) (aR args 2) h else bif Nat.beq f 166 then s166 ih m (aR args 0) h else bif Nat.beq f 167 then s167 ih m (aR args 0) (aR args 1) (aR args 2) h else bif Nat.beq f 170 then s170 ih m (aR args 0) (aR args 1) h else bif Nat.beq f 171 then s171 ih m (aR args 0) (aR args 1) h else bif Nat.beq f 178 then s178 ih m (aR args 0) (aR args 1) h else aG CF ih m f args h
theorem eHq : qg9 ih m f args h = aG CF ih m f args h := cV ih m f args h (dUt ih m args h).symm (cV ih m f args h (dSa ih m args h).symm (cV ih m f args h (dNu ih m args h).symm (cV ih m f args h (dJo ih m args h).symm (cV ih m f args h (dNo ih m args h).symm (cV ih m f args h (dRx ih m args h).symm (cV ih m f args h (dNe ih m args h).symm (cV ih m f args h (dTj ih m args h).symm rfl)))))))
noncomputable def dWm : aH := bif Nat.beq f 187 then s187 ih m (aR args 0) (aR args 1) h else bif Nat.beq f 189 then s189 ih m (aR args 0) h else bif Nat.beq f 190 then s190 ih m (aR args 0) (aR args 1) h else bif Nat.beq f 191 then s191 ih m (aR args 0) (aR args 1) h else bif Nat.beq f 192 then s192 ih m (aR args 0) (aR args 1) h else bif Nat.beq f 193 then s193 ih m (aR args 0) h else bif Nat.beq f 194 then s194 ih m (aR args 0) (aR args 1) (aR args 2) (aR args 3) (aR args 4) (aR args 5) (aR args 6) (aR args 7) h else bif Nat.beq f 195 then s195 ih m (aR args 0) h else aG CF ih m f args h
theorem dZz : dWm ih m f args h = aG CF ih m f args h := cV ih m f args h (dSd ih m args h).symm (cV ih m f args h (dKt ih m args h).symm (cV ih m f args h (dQp ih m args h).symm (cV ih m f args h (dQl ih m args h).symm (cV ih m f args h (dNr ih m args h).symm (cV ih m f args h (dOz ih m args h).symm (cV ih m f args h (dUi ih m args h).symm (cV ih m f args h (dJj ih m args h).symm rfl)))))))
noncomputable def eBa : aH := bif Nat.beq f 196 then s196 ih m (aR args 0) h else bif Nat.beq f 197 then s197 ih m (aR args 0) (aR args 1) (aR args 2) h else bif Nat.beq f 198 then s198 ih m (aR args 0) h else bif Nat.beq f 199 then s199 ih m (aR args 0) (aR args 1) h else bif Nat.beq f 200 then s200 ih m (aR args 0) h else bif Nat.beq f 201 then s201 ih m (aR args 0) (aR args 1) (aR args 2) h else bif Nat.beq f 202 then s202 ih m (aR args 0) h else bif Nat.beq f 203 then s203 ih m (aR args 0) h else aG CF ih m f args h
theorem eEl : eBa ih m f args h = aG CF ih m f args h := cV ih m f args h (dHx ih m args h).symm (cV ih m f args h (dNj ih m args h).symm (cV ih m f args h (dTm ih m args h).symm (cV ih m f args h (dOn ih m args h).symm (cV ih m f args h (dSk ih m args h).symm (cV ih m f args h (dLs ih m args h).symm (cV ih m f args h (dUp ih m args h).symm (cV ih m f args h (dSl ih m args h).symm rfl)))))))
noncomputable def eEj : aH := bif Nat.beq f 205 then s205 ih m (aR args 0) (aR args 1) h else bif Nat.beq f 208 then s208 ih m (aR args 0) (aR args 1) h else bif Nat.beq f 209 then s209 ih m (aR args 0) (aR args 1) (aR args 2) (aR args 3) h else bif Nat.beq f 210 then s210 ih m (aR args 0) h else bif Nat.beq f 211 then s211 ih m (aR args 0) (aR args 1) h else bif Nat.beq f 212 then s212 ih m (aR args 0) (aR args 1) h else bif Nat.beq f 213 then s213 ih m (aR args 0) (aR args 1) h else bif Nat.beq f 219 then s219 ih m (aR args 0) (aR args 1) h else aG CF ih m f args h
theorem eBi : eEj ih m f args h = aG CF ih m f args h := cV ih m f args h (dKm ih m args h).symm (cV ih m f args h (dKu ih m args h).symm (cV ih m f args h (dVa ih m args h).symm (cV ih m f args h (dTl ih m args h).symm (cV ih m f args h (dNn ih m args h).symm (cV ih m f args h (dMf ih m args h).symm (cV ih m f args h (dHl ih m args h).symm (cV ih m f args h (dMg ih m args h).symm rfl)))))))
noncomputable def dWe : aH := bif Nat.beq f 222 then s222 ih m (aR args 0) (aR args 1) h else bif Nat.beq f 223 then s223 ih m (aR args 0) h else bif Nat.beq f 227 then s227 ih m (aR args 0) h else bif Nat.beq f 228 then s228 ih m (aR args 0) (aR args 1) h else bif Nat.beq f 229 then s229 ih m (aR args 0) (aR args 1) h else bif Nat.beq f 230 then s230 ih m (aR args 0) (aR args 1) h else bif Nat.beq f 231 then s231 ih m (aR args 0) h else bif Nat.beq f 232 then s232 ih m (aR args 0) h else aG CF ih m f args h
theorem dXk : dWe ih m f args h = aG CF ih m f args h := cV ih m f args h (dPa ih m args h).symm (cV ih m f args h (dTp ih m args h).symm (cV ih m f args h (dUo ih m args h).symm (cV ih m f args h (dPg ih m args h).symm (cV ih m f args h (dTv ih m args h).symm (cV ih m f args h (dMz ih m args h).symm (cV ih m f args h (dHu ih m args h).symm (cV ih m f args h (dNa ih m args h).symm rfl)))))))
noncomputable def eCn : aH := bif Nat.beq f 233 then s233 ih m (aR args 0) h else bif Nat.beq f 234 then s234 ih m (aR args 0) h else bif Nat.beq f 235 then s235 ih m (aR args 0) h else bif Nat.beq f 239 then s239 ih m (aR args 0) (aR args 1) h else bif Nat.beq f 244 then s244 ih m (aR args 0) (aR args 1) h else bif Nat.beq f 246 then s246 ih m (aR args 0) (aR args 1) h else bif Nat.beq f 251 then s251 ih m (aR args 0) h else bif Nat.beq f 267 then s267 ih m (aR args 0) h else aG CF ih m f args h
theorem dYn : eCn ih m f args h = aG CF ih m f args h := cV ih m f args h (dLz ih m args h).symm (cV ih m f args h (dJs ih m args h).symm (cV ih m f args h (dJf ih m args h).symm (cV ih m f args h (dKg ih m args h).symm (cV ih m f args h (dOy ih m args h).symm (cV ih m f args h (dHn ih m args h).symm (cV ih m f args h (dKb ih m args h).symm (cV ih m f args h (dKa ih m args h).symm rfl)))))))
noncomputable def eAf : aH := bif Nat.beq f 275 then s275 ih m (aR args 0) (aR args 1) h else bif Nat.beq f 276 then s276 ih m (aR args 0) (aR args 1) h else bif Nat.beq f 277 then s277 ih m (aR args 0) (aR args 1) h else bif Nat.beq f 278 then s278 ih m (aR args 0) (aR args 1) h else bif Nat.beq f 280 then s280 ih m (aR args 0) (aR args 1) h else bif Nat.beq f 284 then s284 ih m (aR args 0) (aR args 1) h else bif Nat.beq f 311 then s311 ih m (aR args 0) h else bif Nat.beq f 313 then s313 ih m (aR args 0) h else aG CF ih m f args h
theorem dZv : eAf ih m f args h = aG CF ih m f args h := cV ih m f args h (dKo ih m args h).symm (cV ih m f args h (dQx ih m args h).symm (cV ih m f args h (dUf ih m args h).symm (cV ih m f args h (dUv ih m args h).symm (cV ih m f args h (dSt ih m args h).symm (cV ih m f args h (dMn ih m args h).symm (cV ih m f args h (dQf ih m args h).symm (cV ih m f args h (dIi ih m args h).symm rfl)))))))
noncomputable def qd0 : aH := bif Nat.blt f 28 then qg0 ih m f args h else qg1 ih m f args h
theorem eIl : qd0 ih m f args h = aG CF ih m f args h := ndC ih m f args h (eIr ih m f args h) (eKk ih m f args h)
noncomputable def qd1 : aH := bif Nat.blt f 68 then qg2 ih m f args h else qg3 ih m f args h
theorem eJd : qd1 ih m f args h = aG CF ih m f args h := ndC ih m f args h (eKh ih m f args h) (eJt ih m f args h)
noncomputable def qd2 : aH := bif Nat.blt f 53 then qd0 ih m f args h else qd1 ih m f args h
theorem eIa : qd2 ih m f args h = aG CF ih m f args h := ndC ih m f args h (eIl ih m f args h) (eJd ih m f args h)
noncomputable def qd3 : aH := bif Nat.blt f 106 then qg4 ih m f args h else qg5 ih m f args h
theorem eHk : qd3 ih m f args h = aG CF ih m f args h := ndC ih m f args h (eJk ih m f args h) (eJu ih m f args h)
noncomputable def qd4 : aH := bif Nat.blt f 134 then qg6 ih m f args h else qg7 ih m f args h
theorem eLh : qd4 ih m f args h = aG CF ih m f args h := ndC ih m f args h (eJp ih m f args h) (eGt ih m f args h)
noncomputable def qd5 : aH := bif Nat.blt f 121 then qd3 ih m f args h else qd4 ih m f args h
theorem eIu : qd5 ih m f args h = aG CF ih m f args h := ndC ih m f args h (eHk ih m f args h) (eLh ih m f args h)
noncomputable def qd6 : aH := bif Nat.blt f 86 then qd2 ih m f args h else qd5 ih m f args h
theorem eKu : qd6 ih m f args h = aG CF ih m f args h := ndC ih m f args h (eIa ih m f args h) (eIu ih m f args h)
noncomputable def qd7 : aH := bif Nat.blt f 163 then qg8 ih m f args h else qg9 ih m f args h
theorem eIg : qd7 ih m f args h = aG CF ih m f args h := ndC ih m f args h (eLd ih m f args h) (eHq ih m f args h)
noncomputable def qd8 : aH := bif Nat.blt f 196 then dWm ih m f args h else eBa ih m f args h
theorem eHg : qd8 ih m f args h = aG CF ih m f args h := ndC ih m f args h (dZz ih m f args h) (eEl ih m f args h)
noncomputable def qd9 : aH := bif Nat.blt f 187 then qd7 ih m f args h else qd8 ih m f args h
theorem eGr : qd9 ih m f args h = aG CF ih m f args h := ndC ih m f args h (eIg ih m f args h) (eHg ih m f args h)
noncomputable def eDm : aH := bif Nat.blt f 222 then eEj ih m f args h else dWe ih m f args h
theorem dXn : eDm ih m f args h = aG CF ih m f args h := ndC ih m f args h (eBi ih m f args h) (dXk ih m f args h)
noncomputable def dXz : aH := bif Nat.blt f 275 then eCn ih m f args h else eAf ih m f args h
theorem dYb : dXz ih m f args h = aG CF ih m f args h := ndC ih m f args h (dYn ih m f args h) (dZv ih m f args h)
noncomputable def dVn : aH := bif Nat.blt f 233 then eDm ih m f args h else dXz ih m f args h
theorem eCw : dVn ih m f args h = aG CF ih m f args h := ndC ih m f args h (dXn ih m f args h) (dYb ih m f args h)
noncomputable def dYa : aH := bif Nat.blt f 205 then qd9 ih m f args h else dVn ih m f args h
theorem eAk : dYa ih m f args h = aG CF ih m f args h := ndC ih m f args h (eGr ih m f args h) (eCw ih m f args h)
noncomputable def eDt : aH := bif Nat.blt f 150 then qd6 ih m f args h else dYa ih m f args h
theorem eEn : eDt ih m f args h = aG CF ih m f args h := ndC ih m f args h (eKu ih m f args h) (eAk ih m f args h)
end
noncomputable def shB (ih : RT) (m : Nat) (f : FuncId) (args : List DV) (h : Hp) : aH := eDt ih m f args h
theorem cFm (ih : RT) (m : Nat) (f : FuncId) (args : List DV) (h : Hp) : shB ih m f args h = aG CF ih m f args h := eEn ih m f args h
noncomputable def eD (n : Nat) : FuncId → List DV → Hp → aH :=
 Nat.rec (motive := fun _ => FuncId → List DV → Hp → aH) (fun _ _ _ => none) (fun m ih => fun f args h => bif rgB f then jF CF ih m itm f args h else shB ih m f args h) n
theorem yM (f : FuncId) (hf : rgB f = false) (n : Nat) (args : List DV) (h : Hp) : eD (n + 1) f args h = aG CF (eD n) n f args h := by
 show (bif rgB f then jF CF (eD n) n itm f args h else shB (eD n) n f args h) = _
 rw [hf, cond_false, cFm]
theorem aCl : ∀ n, eD n = fV CF n
 | 0 => rfl
 | n + 1 => by
  funext f args h
  show (bif rgB f then jF CF (eD n) n itm f args h else shB (eD n) n f args h) = (bif rgB f then jF CF (fV CF n) n itm f else aG CF (fV CF n) n f) args h
  rw [← aCl n]
  cases rgB f with
  | true => rfl
  | false => exact cFm _ _ _ _ _
end Go.Dd

