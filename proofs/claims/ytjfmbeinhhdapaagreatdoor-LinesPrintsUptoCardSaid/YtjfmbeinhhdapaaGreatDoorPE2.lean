/- A part of the proof: Q1 Q2 Q3 Q4 Q5 Q6 Q7 Q8 Q9 Q10: each text has a comment of its own. -/
import Derived.Test.YtjfmbeinhhdapaaGreatDoorPE1
set_option linter.unusedVariables false
set_option linter.unusedSimpArgs false
set_option linter.constructorNameAsVariable false
set_option maxRecDepth 100000
noncomputable section
namespace Go.Dd
open Go.Proofs
variable (r : RT) (n : Nat) (args : List DV) (h : Hp)
def cP (r : RT) (n : Nat) (x3 : DV) (h0 : Hp) : aH :=
 some (x3,h0)
def dG (r : RT) (n : Nat) (kk5 : dP) (x0 x3 x4 : DV) (h0 : Hp) : aH :=
 bnd (aD .add x4 (.i .i64 (Int.ofNat 1)) h0) fun v1 h1 =>
  kk5 x0 x3 v1 h1
def qV (r : RT) (n : Nat) (kk5 : dP) (x0 x3 x4 x5 : DV) (h0 : Hp) : aH :=
 bnd (aK 6 x5 h0) fun v1 h1 =>
 bnd (aO [(.i .i64 (Int.ofNat 0)),(.s []),(.s []),.l0,(.s []),(.i .i64 (Int.ofNat 0))] 1 [(0,6,v1)] h1) fun v2 h2 =>
 bnd (bB 6 88 x3 v2 h2) fun v3 h3 =>
  dG r n kk5 x0 v3 x4 h3
def qU (r : RT) (n : Nat) (kk5 : dP) (x0 x3 x4 x5 : DV) (h0 : Hp) : aH :=
 bnd (aB 3 x5 h0) fun v1 h1 =>
 bnd (aA v1 h1) fun v2 h2 =>
 bnd (cB v2 h2) fun v3 h3 =>
 bnd (aD .gtr v3 (.i .i64 (Int.ofNat 9)) h3) fun v4 h4 =>
 aT v4 (
 bnd (aB 3 x5 h4) fun v5 h5 =>
 bnd (aA v5 h5) fun v6 h6 =>
 bnd (dF 1 v6 none (some (.i .i64 (Int.ofNat 9))) h6) fun v7 h7 =>
 bnd (aB 3 x5 h7) fun v8 h8 =>
 bnd (aG 1 v8 v7 h8) fun _ h9 =>
  qV r n kk5 x0 x3 x4 x5 h9) (
  qV r n kk5 x0 x3 x4 x5 h4)
def qY (r : RT) (n : Nat) (kk5 : dP) (x0 x3 x4 x5 : DV) (h0 : Hp) : aH :=
 bnd (aB 2 x5 h0) fun v1 h1 =>
 bnd (aA v1 h1) fun v2 h2 =>
 bnd (cM v2 h2) fun v3 h3 =>
 bnd (aD .gtr v3 (.i .i64 (Int.ofNat 40)) h3) fun v4 h4 =>
 aT v4 (
 bnd (aB 2 x5 h4) fun v5 h5 =>
 bnd (aA v5 h5) fun v6 h6 =>
 bnd (cK v6 none (some (.i .i64 (Int.ofNat 40))) h6) fun v7 h7 =>
 bnd (aB 2 x5 h7) fun v8 h8 =>
 bnd (aG 1 v8 v7 h8) fun _ h9 =>
  qU r n kk5 x0 x3 x4 x5 h9) (
  qU r n kk5 x0 x3 x4 x5 h4)
def xZ (r : RT) (n : Nat) (kk5 : dP) (x0 x3 x4 x5 : DV) (h0 : Hp) : aH :=
 bnd (aB 1 x5 h0) fun v1 h1 =>
 bnd (aA v1 h1) fun v2 h2 =>
 bnd (cM v2 h2) fun v3 h3 =>
 bnd (aD .gtr v3 (.i .i64 (Int.ofNat 40)) h3) fun v4 h4 =>
 aT v4 (
 bnd (aB 1 x5 h4) fun v5 h5 =>
 bnd (aA v5 h5) fun v6 h6 =>
 bnd (cK v6 none (some (.i .i64 (Int.ofNat 40))) h6) fun v7 h7 =>
 bnd (aB 1 x5 h7) fun v8 h8 =>
 bnd (aG 1 v8 v7 h8) fun _ h9 =>
  qY r n kk5 x0 x3 x4 x5 h9) (
  qY r n kk5 x0 x3 x4 x5 h4)
def zZ (r : RT) (n : Nat) (kk5 : dP) (x0 x3 x4 x5 : DV) (h0 : Hp) : aH :=
 bnd (aB 4 x5 h0) fun v1 h1 =>
 bnd (aA v1 h1) fun v2 h2 =>
 bnd (cM v2 h2) fun v3 h3 =>
 bnd (aD .gtr v3 (.i .i64 (Int.ofNat 200)) h3) fun v4 h4 =>
 aT v4 (
 bnd (aB 4 x5 h4) fun v5 h5 =>
 bnd (aA v5 h5) fun v6 h6 =>
 bnd (cK v6 none (some (.i .i64 (Int.ofNat 200))) h6) fun v7 h7 =>
 bnd (aB 4 x5 h7) fun v8 h8 =>
 bnd (aG 1 v8 v7 h8) fun _ h9 =>
  xZ r n kk5 x0 x3 x4 x5 h9) (
  xZ r n kk5 x0 x3 x4 x5 h4)
def aNo (r : RT) (n : Nat) (kk5 : dP) (x0 x3 x4 : DV) (h0 : Hp) : aH :=
 bnd (aE 6 x0 x4 h0) fun v1 h1 =>
 bnd (aK 6 v1 h1) fun v2 h2 =>
 bnd (bY [(.i .i64 (Int.ofNat 0)),(.s []),(.s []),.l0,(.s []),(.i .i64 (Int.ofNat 0))] h2) fun v3 h3 =>
 bnd (aG 6 v3 v2 h3) fun _ h4 =>
  zZ r n kk5 x0 x3 x4 v3 h4
def tB (r : RT) (n : Nat) (kk5 : dP) (x0 x3 x4 : DV) (h0 : Hp) : aH :=
 bnd (cB x0 h0) fun v1 h1 =>
 bnd (aD .lss x4 v1 h1) fun v2 h2 =>
 bnd (gD v2 true (some (x4,h2)) h2) fun v3 h3 =>
 bnd (gD v2 true (aD .lss v3 (.i .i64 (Int.ofNat 20)) h3) h3) fun v4 h4 =>
 bnd (aP v2 v4 (.b false) h4) fun v5 h5 =>
 aT v5 (
   aNo r n kk5 x0 x3 x4 h5) (
   cP r n x3 h5)
def kK (r : RT) (n : Nat) (m : Nat) : dP :=
 Nat.rec (motive:=fun _=>dP) (fun _ _ _ _=>none) (fun _ ih=>tB r n ih) m
def bPs (r : RT) (n : Nat) : dP:=kK r n n
def aYi (r : RT) (n : Nat) (x0 x3 x4 : DV) (h0 : Hp) : aH :=
 bPs r n x0 x3 x4 h0
def aYu (r : RT) (n : Nat) (x0 x3 : DV) (h0 : Hp) : aH :=
 aYi r n x0 x3 (.i .i64 (Int.ofNat 0)) h0
def aXm (r : RT) (n : Nat) (x0 : DV) (h0 : Hp) : aH :=
 aYu r n x0 .l0 h0
def s14 (r : RT) (n : Nat) (x0 : DV) (h0 : Hp) : aH :=
 aXm r n x0 h0
abbrev c14 : Code:=cf Tryz.f14
abbrev aYa : Code:=cR c14
abbrev bAb : Code:=cR aYa
abbrev dPf : Code:=cR bAb
abbrev aMh : Code:=cL bAb
abbrev cAm : Code:=cR aMh
abbrev bCl : Code:=cL cAm
abbrev pH : Code:=cL bCl
abbrev bCi : Code:=cR pH
abbrev dQi : Code:=cR bCi
abbrev aKy : Code:=cL bCi
abbrev aEv : Code:=cL aKy
abbrev aGj : Code:=cR aEv
abbrev aIp : Code:=cR aGj
abbrev aKd : Code:=cR aIp
abbrev aEn : Code:=cR aKd
abbrev bJj : Code:=cR aEn
abbrev bNj : Code:=cL aEn
abbrev bUx : Code:=cL aKd
abbrev bVz : Code:=cL aIp
abbrev bVj : Code:=cL aGj
abbrev aUo : Code:=cL aEv
abbrev bWd : Code:=cL pH
abbrev bLj : Code:=cL aMh
abbrev bSt : Code:=cL aYa
abbrev cBk : Code:=cL c14
abbrev r14 : K:=aR CF Tryz.f14
def D14 (r : RT) (n : Nat) (c : Code) (X : Nat → K) (k : K) : K:=aM CF r 57 n c X r14 k
theorem cXn : D14 r n dPf x0 r14 = (K1 (cP r n) 3) :=
 (by kernel_rfl)
theorem dGm (kk5 : dP) : D14 r n dQi (xs x0 0 (K1 (cP r n) 3)) (K3 kk5 0 3 4) = (K3 (dG r n kk5) 0 3 4) :=
 (by kernel_rfl)
theorem bSj (kk5 : dP) (q0 : dP) (q1 : TT1) : D14 r n bJj (xs (xs x0 0 (K1 q1 3)) 1 (K3 q0 0 3 4)) (K3 q0 0 3 4) = fun (env : bA) (h : Hp) =>
 bnd (aK 6 (env 5) h) fun v1 h1 =>
 bnd (aO [(.i .i64 (Int.ofNat 0)),(.s []),(.s []),.l0,(.s []),(.i .i64 (Int.ofNat 0))] 1 [(0,6,v1)] h1) fun v2 h2 =>
 bnd (bB 6 88 (env 3) v2 h2) fun v3 h3 =>
  q0 (env 0) v3 (env 4) h3:=by kernel_rfl
theorem bGi (kk5 : dP) : (fun (env : bA) (h : Hp) =>
 bnd (aK 6 (env 5) h) fun v1 h1 =>
 bnd (aO [(.i .i64 (Int.ofNat 0)),(.s []),(.s []),.l0,(.s []),(.i .i64 (Int.ofNat 0))] 1 [(0,6,v1)] h1) fun v2 h2 =>
 bnd (bB 6 88 (env 3) v2 h2) fun v3 h3 =>
  dG r n kk5 (env 0) v3 (env 4) h3) = (K4 (qV r n kk5) 0 3 4 5):=by kernel_rfl
theorem cIt (kk5 : dP) : D14 r n bJj (xs (xs x0 0 (K1 (cP r n) 3)) 1 (K3 (dG r n kk5) 0 3 4)) (K3 (dG r n kk5) 0 3 4) = (K4 (qV r n kk5) 0 3 4 5) :=
 (bSj r n kk5 (dG r n kk5) (cP r n)).trans (bGi r n kk5)
theorem bOz (kk5 : dP) : D14 r n aEn (xs (xs x0 0 (K1 (cP r n) 3)) 1 (K3 (dG r n kk5) 0 3 4)) (K3 (dG r n kk5) 0 3 4) = D14 r n bNj (xs (xs x0 0 (K1 (cP r n) 3)) 1 (K3 (dG r n kk5) 0 3 4)) (K4 (qV r n kk5) 0 3 4 5) :=
 congrArg (fun k=>D14 r n bNj (xs (xs x0 0 (K1 (cP r n) 3)) 1 (K3 (dG r n kk5) 0 3 4)) k) (cIt r n kk5)
theorem cEi (kk5 : dP) : D14 r n aEn (xs (xs x0 0 (K1 (cP r n) 3)) 1 (K3 (dG r n kk5) 0 3 4)) (K3 (dG r n kk5) 0 3 4) = (K4 (qU r n kk5) 0 3 4 5) :=
 (bOz r n kk5).trans
 ((by kernel_rfl))
theorem bXq (kk5 : dP) : D14 r n aKd (xs (xs x0 0 (K1 (cP r n) 3)) 1 (K3 (dG r n kk5) 0 3 4)) (K3 (dG r n kk5) 0 3 4) = D14 r n bUx (xs (xs x0 0 (K1 (cP r n) 3)) 1 (K3 (dG r n kk5) 0 3 4)) (K4 (qU r n kk5) 0 3 4 5) :=
 congrArg (fun k=>D14 r n bUx (xs (xs x0 0 (K1 (cP r n) 3)) 1 (K3 (dG r n kk5) 0 3 4)) k) (cEi r n kk5)
theorem cKg (kk5 : dP) : D14 r n aKd (xs (xs x0 0 (K1 (cP r n) 3)) 1 (K3 (dG r n kk5) 0 3 4)) (K3 (dG r n kk5) 0 3 4) = (K4 (qY r n kk5) 0 3 4 5) :=
 (bXq r n kk5).trans
 ((by kernel_rfl))
theorem cPj (kk5 : dP) : D14 r n aIp (xs (xs x0 0 (K1 (cP r n) 3)) 1 (K3 (dG r n kk5) 0 3 4)) (K3 (dG r n kk5) 0 3 4) = D14 r n bVz (xs (xs x0 0 (K1 (cP r n) 3)) 1 (K3 (dG r n kk5) 0 3 4)) (K4 (qY r n kk5) 0 3 4 5) :=
 congrArg (fun k=>D14 r n bVz (xs (xs x0 0 (K1 (cP r n) 3)) 1 (K3 (dG r n kk5) 0 3 4)) k) (cKg r n kk5)
theorem cVd (kk5 : dP) : D14 r n aIp (xs (xs x0 0 (K1 (cP r n) 3)) 1 (K3 (dG r n kk5) 0 3 4)) (K3 (dG r n kk5) 0 3 4) = (K4 (xZ r n kk5) 0 3 4 5) :=
 (cPj r n kk5).trans
 ((by kernel_rfl))
theorem cIm (kk5 : dP) : D14 r n aGj (xs (xs x0 0 (K1 (cP r n) 3)) 1 (K3 (dG r n kk5) 0 3 4)) (K3 (dG r n kk5) 0 3 4) = D14 r n bVj (xs (xs x0 0 (K1 (cP r n) 3)) 1 (K3 (dG r n kk5) 0 3 4)) (K4 (xZ r n kk5) 0 3 4 5) :=
 congrArg (fun k=>D14 r n bVj (xs (xs x0 0 (K1 (cP r n) 3)) 1 (K3 (dG r n kk5) 0 3 4)) k) (cVd r n kk5)
theorem dDe (kk5 : dP) : D14 r n aGj (xs (xs x0 0 (K1 (cP r n) 3)) 1 (K3 (dG r n kk5) 0 3 4)) (K3 (dG r n kk5) 0 3 4) = (K4 (zZ r n kk5) 0 3 4 5) :=
 (cIm r n kk5).trans
 ((by kernel_rfl))
theorem cDd (kk5 : dP) : D14 r n bCi (xs x0 0 (K1 (cP r n) 3)) (K3 kk5 0 3 4) = D14 r n aKy (xs x0 0 (K1 (cP r n) 3)) (K3 (dG r n kk5) 0 3 4) :=
 congrArg (fun k=>D14 r n aKy (xs x0 0 (K1 (cP r n) 3)) k) (dGm r n kk5)
theorem cDt (kk5 : dP) : D14 r n aEv (xs (xs x0 0 (K1 (cP r n) 3)) 1 (K3 (dG r n kk5) 0 3 4)) (K3 (dG r n kk5) 0 3 4) = D14 r n aUo (xs (xs x0 0 (K1 (cP r n) 3)) 1 (K3 (dG r n kk5) 0 3 4)) (K4 (zZ r n kk5) 0 3 4 5) :=
 congrArg (fun k=>D14 r n aUo (xs (xs x0 0 (K1 (cP r n) 3)) 1 (K3 (dG r n kk5) 0 3 4)) k) (dDe r n kk5)
theorem cJj (kk5 : dP) (q0 : eJ) (q1 : TT1) (q2 : dP) : D14 r n aUo (xs (xs x0 0 (K1 q1 3)) 1 (K3 q2 0 3 4)) (K4 q0 0 3 4 5) = fun (env : bA) (h : Hp) =>
 bnd (aE 6 (env 0) (env 4) h) fun v1 h1 =>
 bnd (aK 6 v1 h1) fun v2 h2 =>
 bnd (bY [(.i .i64 (Int.ofNat 0)),(.s []),(.s []),.l0,(.s []),(.i .i64 (Int.ofNat 0))] h2) fun v3 h3 =>
 bnd (aG 6 v3 v2 h3) fun _ h4 =>
  q0 (env 0) (env 3) (env 4) v3 h4:=by kernel_rfl
theorem bTm (kk5 : dP) : (fun (env : bA) (h : Hp) =>
 bnd (aE 6 (env 0) (env 4) h) fun v1 h1 =>
 bnd (aK 6 v1 h1) fun v2 h2 =>
 bnd (bY [(.i .i64 (Int.ofNat 0)),(.s []),(.s []),.l0,(.s []),(.i .i64 (Int.ofNat 0))] h2) fun v3 h3 =>
 bnd (aG 6 v3 v2 h3) fun _ h4 =>
  zZ r n kk5 (env 0) (env 3) (env 4) v3 h4) = (K3 (aNo r n kk5) 0 3 4):=by kernel_rfl
theorem cWr (kk5 : dP) : D14 r n bCi (xs x0 0 (K1 (cP r n) 3)) (K3 kk5 0 3 4) = (K3 (aNo r n kk5) 0 3 4) :=
 (cDd r n kk5).trans
 ((by kernel_rfl : D14 r n aKy (xs x0 0 (K1 (cP r n) 3)) (K3 (dG r n kk5) 0 3 4) = D14 r n aEv (xs (xs x0 0 (K1 (cP r n) 3)) 1 (K3 (dG r n kk5) 0 3 4)) (K3 (dG r n kk5) 0 3 4)).trans
 ((cDt r n kk5).trans
 ((cJj r n kk5 (zZ r n kk5) (cP r n) (dG r n kk5)).trans (bTm r n kk5))))
theorem cLq (kk5 : dP) : D14 r n pH (xs x0 0 (K1 (cP r n) 3)) (K3 kk5 0 3 4) = D14 r n bWd (xs x0 0 (K1 (cP r n) 3)) (K3 (aNo r n kk5) 0 3 4) :=
 congrArg (fun k=>D14 r n bWd (xs x0 0 (K1 (cP r n) 3)) k) (cWr r n kk5)
theorem cMk (kk5 : dP) : D14 r n pH (xs x0 0 (K1 (cP r n) 3)) (K3 kk5 0 3 4) = (K3 (tB r n kk5) 0 3 4) :=
 (cLq r n kk5).trans
 ((by kernel_rfl))
theorem cLe (m : Nat) : aL (fun kk=>D14 r n pH (xs x0 0 (K1 (cP r n) 3)) kk) m = (K3 (kK r n m) 0 3 4):=by
 induction m with
 | zero=>exact (by kernel_rfl : aL (fun kk=>D14 r n pH (xs x0 0 (K1 (cP r n) 3)) kk) 0 = (K3 (kK r n 0) 0 3 4))
 | succ m ih =>
  refine (by kernel_rfl : aL (fun kk=>D14 r n pH (xs x0 0 (K1 (cP r n) 3)) kk) (m + 1) = D14 r n pH (xs x0 0 (K1 (cP r n) 3)) (aL (fun kk=>D14 r n pH (xs x0 0 (K1 (cP r n) 3)) kk) m)).trans ?_
  rw [ih]
  exact (cMk r n (kK r n m)).trans (by kernel_rfl)
theorem dAj : D14 r n bCl (xs x0 0 (K1 (cP r n) 3)) (K1 (cP r n) 3) = (K3 (bPs r n) 0 3 4) :=
 (by kernel_rfl : D14 r n bCl (xs x0 0 (K1 (cP r n) 3)) (K1 (cP r n) 3) = aL (fun kk=>D14 r n pH (xs x0 0 (K1 (cP r n) 3)) kk) n).trans ((cLe r n n).trans (by kernel_rfl))
theorem cUu : D14 r n cAm x0 (K1 (cP r n) 3) = (K3 (aYi r n) 0 3 4) :=
 (by kernel_rfl : D14 r n cAm x0 (K1 (cP r n) 3) = D14 r n bCl (xs x0 0 (K1 (cP r n) 3)) (K1 (cP r n) 3)).trans
 ((dAj r n).trans (by kernel_rfl))
theorem bVm : D14 r n bAb x0 r14 = D14 r n aMh x0 (K1 (cP r n) 3) :=
 congrArg (fun k=>D14 r n aMh x0 k) (cXn r n)
theorem cAr : D14 r n aMh x0 (K1 (cP r n) 3) = D14 r n bLj x0 (K3 (aYi r n) 0 3 4) :=
 congrArg (fun k=>D14 r n bLj x0 k) (cUu r n)
theorem dFp : D14 r n bAb x0 r14 = (K2 (aYu r n) 0 3) :=
 (bVm r n).trans
 ((cAr r n).trans
 ((by kernel_rfl)))
theorem bOw : D14 r n aYa x0 r14 = D14 r n bSt x0 (K2 (aYu r n) 0 3) :=
 congrArg (fun k=>D14 r n bSt x0 k) (dFp r n)
theorem dAx : D14 r n aYa x0 r14 = (K1 (aXm r n) 0) :=
 (bOw r n).trans
 ((by kernel_rfl))
theorem dHe : D14 r n c14 x0 r14 = D14 r n cBk x0 (K1 (aXm r n) 0) :=
 congrArg (fun k=>D14 r n cBk x0 k) (dAx r n)
theorem dVl : D14 r n c14 x0 r14 = (K1 (s14 r n) 0) :=
 (dHe r n).trans
 ((by kernel_rfl))
theorem cTa : aF CF r n 14 args h = s14 r n (aV args 0) h :=
 (by kernel_rfl : aF CF r n 14 args h = D14 r n c14 x0 r14 (aJ args) h).trans ((congrFun (congrFun (dVl r n) (aJ args)) h).trans (by kernel_rfl))
def gE (r : RT) (n : Nat) (x4 : DV) (h0 : Hp) : aH :=
 some (.t [x4,(.i .i64 (Int.ofNat 0))],h0)
def pZ (r : RT) (n : Nat) (kk5 : eJ) (x4 x10 x11 x12 : DV) (h0 : Hp) : aH :=
 bnd (aD .lss x12 x11 h0) fun v1 h1 =>
 aT v1 (
 bnd (aE 6 x10 x12 h1) fun v2 h2 =>
 bnd (aK 6 v2 h2) fun v3 h3 =>
 bnd (bY [(.i .i64 (Int.ofNat 0)),(.s []),(.s []),.l0,(.s []),(.i .i64 (Int.ofNat 0))] h3) fun v4 h4 =>
 bnd (aG 6 v4 v3 h4) fun _ h5 =>
 bnd (aK 6 v4 h5) fun v6 h6 =>
 bnd (r 28 [v6] h6) fun v7 h7 =>
 bnd (r 18 [v7] h7) fun v8 h8 =>
 bnd (aC 0 v8 h8) fun v9 h9 =>
 bnd (aC 1 v8 h9) fun v10 h10 =>
 bnd (bY [(.i .i64 (Int.ofNat 0)),(.s []),(.s []),.l0,(.s []),(.i .i64 (Int.ofNat 0))] h10) fun v11 h11 =>
 bnd (aG 6 v11 v9 h11) fun _ h12 =>
 bnd (gQ .not v10 h12) fun v13 h13 =>
 bnd (gD v13 false (aK 6 v4 h13) h13) fun v14 h14 =>
 bnd (gD v13 false (aK 6 v11 h14) h14) fun v15 h15 =>
 bnd (gD v13 false (r 29 [v14,v15] h15) h15) fun v16 h16 =>
 bnd (gD v13 false (gQ .not v16 h16) h16) fun v17 h17 =>
 bnd (aP v13 (.b true) v17 h17) fun v18 h18 =>
 bnd (gD v18 false (some (v7,h18)) h18) fun v19 h19 =>
 bnd (gD v18 false (r 30 [v19,(.i .u8 (Int.ofNat 10))] h19) h19) fun v20 h20 =>
 bnd (gD v18 false (aD .geq v20 (.i .i64 (Int.ofNat 0)) h20) h20) fun v21 h21 =>
 bnd (aP v18 (.b true) v21 h21) fun v22 h22 =>
 aT v22 (
 some (.t [(.s []),(.i .i64 (Int.ofNat 1))],h22)) (
 bnd (bI .add v7 (.s [10]) h22) fun v23 h23 =>
 bnd (bI .add x4 v23 h23) fun v24 h24 =>
 bnd (aD .add x12 (.i .i64 (Int.ofNat 1)) h24) fun v25 h25 =>
    kk5 v24 x10 x11 v25 h25)) (
      gE r n x4 h1)
def qQ (r : RT) (n : Nat) (m : Nat) : eJ :=
 Nat.rec (motive:=fun _=>eJ) (fun _ _ _ _ _=>none) (fun _ ih=>pZ r n ih) m
def bTu (r : RT) (n : Nat) : eJ:=qQ r n n
def aWh (r : RT) (n : Nat) (x4 x10 x11 x12 : DV) (h0 : Hp) : aH :=
 bTu r n x4 x10 x11 x12 h0
def bAx (r : RT) (n : Nat) (x0 x4 : DV) (h0 : Hp) : aH :=
 bnd (cB x0 h0) fun v1 h1 =>
  aWh r n x4 x0 v1 (.i .i64 (Int.ofNat 0)) h1
def bEe (r : RT) (n : Nat) (x0 : DV) (h0 : Hp) : aH :=
 bAx r n x0 (.s []) h0
def s15 (r : RT) (n : Nat) (x0 : DV) (h0 : Hp) : aH :=
 bEe r n x0 h0
abbrev c15 : Code:=cf Tryz.f15
abbrev aVo : Code:=cR c15
abbrev aXo : Code:=cR aVo
abbrev dJp : Code:=cR aXo
abbrev aPh : Code:=cL aXo
abbrev bPr : Code:=cR aPh
abbrev aZk : Code:=cL bPr
abbrev vD : Code:=cL aZk
abbrev cTv : Code:=cL aPh
abbrev cTk : Code:=cL aVo
abbrev bWy : Code:=cL c15
abbrev r15 : K:=aR CF Tryz.f15
def D15 (r : RT) (n : Nat) (c : Code) (X : Nat → K) (k : K) : K:=aM CF r 42 n c X r15 k
theorem dEx : D15 r n dJp x0 r15 = (K1 (gE r n) 4) :=
 (by kernel_rfl)
theorem cHl (kk5 : eJ) (q0 : TT1) : D15 r n vD (xs x0 0 (K1 q0 4)) (K4 kk5 4 10 11 12) = fun (env : bA) (h : Hp) =>
 bnd (aD .lss (env 12) (env 11) h) fun v1 h1 =>
 aT v1 (
 bnd (aE 6 (env 10) (env 12) h1) fun v2 h2 =>
 bnd (aK 6 v2 h2) fun v3 h3 =>
 bnd (bY [(.i .i64 (Int.ofNat 0)),(.s []),(.s []),.l0,(.s []),(.i .i64 (Int.ofNat 0))] h3) fun v4 h4 =>
 bnd (aG 6 v4 v3 h4) fun _ h5 =>
 bnd (aK 6 v4 h5) fun v6 h6 =>
 bnd (r 28 [v6] h6) fun v7 h7 =>
 bnd (r 18 [v7] h7) fun v8 h8 =>
 bnd (aC 0 v8 h8) fun v9 h9 =>
 bnd (aC 1 v8 h9) fun v10 h10 =>
 bnd (bY [(.i .i64 (Int.ofNat 0)),(.s []),(.s []),.l0,(.s []),(.i .i64 (Int.ofNat 0))] h10) fun v11 h11 =>
 bnd (aG 6 v11 v9 h11) fun _ h12 =>
 bnd (gQ .not v10 h12) fun v13 h13 =>
 bnd (gD v13 false (aK 6 v4 h13) h13) fun v14 h14 =>
 bnd (gD v13 false (aK 6 v11 h14) h14) fun v15 h15 =>
 bnd (gD v13 false (r 29 [v14,v15] h15) h15) fun v16 h16 =>
 bnd (gD v13 false (gQ .not v16 h16) h16) fun v17 h17 =>
 bnd (aP v13 (.b true) v17 h17) fun v18 h18 =>
 bnd (gD v18 false (some (v7,h18)) h18) fun v19 h19 =>
 bnd (gD v18 false (r 30 [v19,(.i .u8 (Int.ofNat 10))] h19) h19) fun v20 h20 =>
 bnd (gD v18 false (aD .geq v20 (.i .i64 (Int.ofNat 0)) h20) h20) fun v21 h21 =>
 bnd (aP v18 (.b true) v21 h21) fun v22 h22 =>
 aT v22 (
 some (.t [(.s []),(.i .i64 (Int.ofNat 1))],h22)) (
 bnd (bI .add v7 (.s [10]) h22) fun v23 h23 =>
 bnd (bI .add (env 4) v23 h23) fun v24 h24 =>
 bnd (aD .add (env 12) (.i .i64 (Int.ofNat 1)) h24) fun v25 h25 =>
    kk5 v24 (env 10) (env 11) v25 h25)) (
      q0 (env 4) h1):=by kernel_rfl
theorem bMs (kk5 : eJ) : (fun (env : bA) (h : Hp) =>
 bnd (aD .lss (env 12) (env 11) h) fun v1 h1 =>
 aT v1 (
 bnd (aE 6 (env 10) (env 12) h1) fun v2 h2 =>
 bnd (aK 6 v2 h2) fun v3 h3 =>
 bnd (bY [(.i .i64 (Int.ofNat 0)),(.s []),(.s []),.l0,(.s []),(.i .i64 (Int.ofNat 0))] h3) fun v4 h4 =>
 bnd (aG 6 v4 v3 h4) fun _ h5 =>
 bnd (aK 6 v4 h5) fun v6 h6 =>
 bnd (r 28 [v6] h6) fun v7 h7 =>
 bnd (r 18 [v7] h7) fun v8 h8 =>
 bnd (aC 0 v8 h8) fun v9 h9 =>
 bnd (aC 1 v8 h9) fun v10 h10 =>
 bnd (bY [(.i .i64 (Int.ofNat 0)),(.s []),(.s []),.l0,(.s []),(.i .i64 (Int.ofNat 0))] h10) fun v11 h11 =>
 bnd (aG 6 v11 v9 h11) fun _ h12 =>
 bnd (gQ .not v10 h12) fun v13 h13 =>
 bnd (gD v13 false (aK 6 v4 h13) h13) fun v14 h14 =>
 bnd (gD v13 false (aK 6 v11 h14) h14) fun v15 h15 =>
 bnd (gD v13 false (r 29 [v14,v15] h15) h15) fun v16 h16 =>
 bnd (gD v13 false (gQ .not v16 h16) h16) fun v17 h17 =>
 bnd (aP v13 (.b true) v17 h17) fun v18 h18 =>
 bnd (gD v18 false (some (v7,h18)) h18) fun v19 h19 =>
 bnd (gD v18 false (r 30 [v19,(.i .u8 (Int.ofNat 10))] h19) h19) fun v20 h20 =>
 bnd (gD v18 false (aD .geq v20 (.i .i64 (Int.ofNat 0)) h20) h20) fun v21 h21 =>
 bnd (aP v18 (.b true) v21 h21) fun v22 h22 =>
 aT v22 (
 some (.t [(.s []),(.i .i64 (Int.ofNat 1))],h22)) (
 bnd (bI .add v7 (.s [10]) h22) fun v23 h23 =>
 bnd (bI .add (env 4) v23 h23) fun v24 h24 =>
 bnd (aD .add (env 12) (.i .i64 (Int.ofNat 1)) h24) fun v25 h25 =>
    kk5 v24 (env 10) (env 11) v25 h25)) (
      gE r n (env 4) h1)) = (K4 (pZ r n kk5) 4 10 11 12):=by kernel_rfl
theorem cGw (kk5 : eJ) : D15 r n vD (xs x0 0 (K1 (gE r n) 4)) (K4 kk5 4 10 11 12) = (K4 (pZ r n kk5) 4 10 11 12) :=
 (cHl r n kk5 (gE r n)).trans (bMs r n kk5)
theorem cGo (m : Nat) : aL (fun kk=>D15 r n vD (xs x0 0 (K1 (gE r n) 4)) kk) m = (K4 (qQ r n m) 4 10 11 12):=by
 induction m with
 | zero=>exact (by kernel_rfl : aL (fun kk=>D15 r n vD (xs x0 0 (K1 (gE r n) 4)) kk) 0 = (K4 (qQ r n 0) 4 10 11 12))
 | succ m ih =>
  refine (by kernel_rfl : aL (fun kk=>D15 r n vD (xs x0 0 (K1 (gE r n) 4)) kk) (m + 1) = D15 r n vD (xs x0 0 (K1 (gE r n) 4)) (aL (fun kk=>D15 r n vD (xs x0 0 (K1 (gE r n) 4)) kk) m)).trans ?_
  rw [ih]
  exact (cGw r n (qQ r n m)).trans (by kernel_rfl)
theorem cZz : D15 r n aZk (xs x0 0 (K1 (gE r n) 4)) (K1 (gE r n) 4) = (K4 (bTu r n) 4 10 11 12) :=
 (by kernel_rfl : D15 r n aZk (xs x0 0 (K1 (gE r n) 4)) (K1 (gE r n) 4) = aL (fun kk=>D15 r n vD (xs x0 0 (K1 (gE r n) 4)) kk) n).trans ((cGo r n n).trans (by kernel_rfl))
theorem cYi : D15 r n bPr x0 (K1 (gE r n) 4) = (K4 (aWh r n) 4 10 11 12) :=
 (by kernel_rfl : D15 r n bPr x0 (K1 (gE r n) 4) = D15 r n aZk (xs x0 0 (K1 (gE r n) 4)) (K1 (gE r n) 4)).trans
 ((cZz r n).trans (by kernel_rfl))
theorem cKm : D15 r n aXo x0 r15 = D15 r n aPh x0 (K1 (gE r n) 4) :=
 congrArg (fun k=>D15 r n aPh x0 k) (dEx r n)
theorem cFx : D15 r n aPh x0 (K1 (gE r n) 4) = D15 r n cTv x0 (K4 (aWh r n) 4 10 11 12) :=
 congrArg (fun k=>D15 r n cTv x0 k) (cYi r n)
theorem dCk : D15 r n aXo x0 r15 = (K2 (bAx r n) 0 4) :=
 (cKm r n).trans
 ((cFx r n).trans
 ((by kernel_rfl)))
theorem cPo : D15 r n aVo x0 r15 = D15 r n cTk x0 (K2 (bAx r n) 0 4) :=
 congrArg (fun k=>D15 r n cTk x0 k) (dCk r n)
theorem cXv : D15 r n aVo x0 r15 = (K1 (bEe r n) 0) :=
 (cPo r n).trans
 ((by kernel_rfl))
theorem dPs : D15 r n c15 x0 r15 = D15 r n bWy x0 (K1 (bEe r n) 0) :=
 congrArg (fun k=>D15 r n bWy x0 k) (cXv r n)
theorem dWq : D15 r n c15 x0 r15 = (K1 (s15 r n) 0) :=
 (dPs r n).trans
 ((by kernel_rfl))
theorem cTj : aF CF r n 15 args h = s15 r n (aV args 0) h :=
 (by kernel_rfl : aF CF r n 15 args h = D15 r n c15 x0 r15 (aJ args) h).trans ((congrFun (congrFun (dWq r n) (aJ args)) h).trans (by kernel_rfl))
def gF (r : RT) (n : Nat) (x4 : DV) (h0 : Hp) : aH :=
 some (.t [x4,(.i .i64 (Int.ofNat 0))],h0)
def qB (r : RT) (n : Nat) (kk5 : dP) (x0 x4 x5 : DV) (h0 : Hp) : aH :=
 bnd (cB x0 h0) fun v1 h1 =>
 bnd (aD .lss x5 v1 h1) fun v2 h2 =>
 aT v2 (
 bnd (aE 6 x0 x5 h2) fun v3 h3 =>
 bnd (aK 6 v3 h3) fun v4 h4 =>
 bnd (r 31 [v4] h4) fun v5 h5 =>
 bnd (r 20 [v5] h5) fun v6 h6 =>
 bnd (aC 0 v6 h6) fun v7 h7 =>
 bnd (aC 1 v6 h7) fun v8 h8 =>
 bnd (bY [(.i .i64 (Int.ofNat 0)),(.s []),(.s []),.l0,(.s []),(.i .i64 (Int.ofNat 0))] h8) fun v9 h9 =>
 bnd (aG 6 v9 v7 h9) fun _ h10 =>
 bnd (aE 6 x0 x5 h10) fun v11 h11 =>
 bnd (aK 6 v11 h11) fun v12 h12 =>
 bnd (aK 6 v9 h12) fun v13 h13 =>
 bnd (r 21 [v12,v13] h13) fun v14 h14 =>
 bnd (gQ .not v8 h14) fun v15 h15 =>
 bnd (gD v15 false (some (v14,h15)) h15) fun v16 h16 =>
 bnd (gD v15 false (gQ .not v16 h16) h16) fun v17 h17 =>
 bnd (aP v15 (.b true) v17 h17) fun v18 h18 =>
 bnd (gD v18 false (some (v5,h18)) h18) fun v19 h19 =>
 bnd (gD v18 false (r 19 [v19,(.i .u8 (Int.ofNat 10))] h19) h19) fun v20 h20 =>
 bnd (gD v18 false (cB v20 h20) h20) fun v21 h21 =>
 bnd (gD v18 false (aD .gtr v21 (.i .i64 (Int.ofNat 1)) h21) h21) fun v22 h22 =>
 bnd (aP v18 (.b true) v22 h22) fun v23 h23 =>
 aT v23 (
 some (.t [(.s []),(.i .i64 (Int.ofNat 1))],h23)) (
 bnd (bI .add x4 v5 h23) fun v24 h24 =>
 bnd (bI .add v24 (.s [10]) h24) fun v25 h25 =>
 bnd (aD .add x5 (.i .i64 (Int.ofNat 1)) h25) fun v26 h26 =>
    kk5 x0 v25 v26 h26)) (
      gF r n x4 h2)
def pX (r : RT) (n : Nat) (m : Nat) : dP :=
 Nat.rec (motive:=fun _=>dP) (fun _ _ _ _=>none) (fun _ ih=>qB r n ih) m
def bIz (r : RT) (n : Nat) : dP:=pX r n n
def aZo (r : RT) (n : Nat) (x0 x4 x5 : DV) (h0 : Hp) : aH :=
 bIz r n x0 x4 x5 h0
def bCo (r : RT) (n : Nat) (x0 x4 : DV) (h0 : Hp) : aH :=
 aZo r n x0 x4 (.i .i64 (Int.ofNat 0)) h0
def bBl (r : RT) (n : Nat) (x0 : DV) (h0 : Hp) : aH :=
 bCo r n x0 (.s []) h0
def s16 (r : RT) (n : Nat) (x0 : DV) (h0 : Hp) : aH :=
 bBl r n x0 h0
abbrev c16 : Code:=cf Tryz.f16
abbrev aWc : Code:=cR c16
abbrev aXj : Code:=cR aWc
abbrev dLs : Code:=cR aXj
abbrev aMs : Code:=cL aXj
abbrev bXc : Code:=cR aMs
abbrev bDb : Code:=cL bXc
abbrev vP : Code:=cL bDb
abbrev cUj : Code:=cL aMs
abbrev cUa : Code:=cL aWc
abbrev bWf : Code:=cL c16
abbrev r16 : K:=aR CF Tryz.f16
def D16 (r : RT) (n : Nat) (c : Code) (X : Nat → K) (k : K) : K:=aM CF r 49 n c X r16 k
theorem dFl : D16 r n dLs x0 r16 = (K1 (gF r n) 4) :=
 (by kernel_rfl)
theorem cJp (kk5 : dP) (q0 : TT1) : D16 r n vP (xs x0 0 (K1 q0 4)) (K3 kk5 0 4 5) = fun (env : bA) (h : Hp) =>
 bnd (cB (env 0) h) fun v1 h1 =>
 bnd (aD .lss (env 5) v1 h1) fun v2 h2 =>
 aT v2 (
 bnd (aE 6 (env 0) (env 5) h2) fun v3 h3 =>
 bnd (aK 6 v3 h3) fun v4 h4 =>
 bnd (r 31 [v4] h4) fun v5 h5 =>
 bnd (r 20 [v5] h5) fun v6 h6 =>
 bnd (aC 0 v6 h6) fun v7 h7 =>
 bnd (aC 1 v6 h7) fun v8 h8 =>
 bnd (bY [(.i .i64 (Int.ofNat 0)),(.s []),(.s []),.l0,(.s []),(.i .i64 (Int.ofNat 0))] h8) fun v9 h9 =>
 bnd (aG 6 v9 v7 h9) fun _ h10 =>
 bnd (aE 6 (env 0) (env 5) h10) fun v11 h11 =>
 bnd (aK 6 v11 h11) fun v12 h12 =>
 bnd (aK 6 v9 h12) fun v13 h13 =>
 bnd (r 21 [v12,v13] h13) fun v14 h14 =>
 bnd (gQ .not v8 h14) fun v15 h15 =>
 bnd (gD v15 false (some (v14,h15)) h15) fun v16 h16 =>
 bnd (gD v15 false (gQ .not v16 h16) h16) fun v17 h17 =>
 bnd (aP v15 (.b true) v17 h17) fun v18 h18 =>
 bnd (gD v18 false (some (v5,h18)) h18) fun v19 h19 =>
 bnd (gD v18 false (r 19 [v19,(.i .u8 (Int.ofNat 10))] h19) h19) fun v20 h20 =>
 bnd (gD v18 false (cB v20 h20) h20) fun v21 h21 =>
 bnd (gD v18 false (aD .gtr v21 (.i .i64 (Int.ofNat 1)) h21) h21) fun v22 h22 =>
 bnd (aP v18 (.b true) v22 h22) fun v23 h23 =>
 aT v23 (
 some (.t [(.s []),(.i .i64 (Int.ofNat 1))],h23)) (
 bnd (bI .add (env 4) v5 h23) fun v24 h24 =>
 bnd (bI .add v24 (.s [10]) h24) fun v25 h25 =>
 bnd (aD .add (env 5) (.i .i64 (Int.ofNat 1)) h25) fun v26 h26 =>
    kk5 (env 0) v25 v26 h26)) (
      q0 (env 4) h2):=by kernel_rfl
theorem bSa (kk5 : dP) : (fun (env : bA) (h : Hp) =>
 bnd (cB (env 0) h) fun v1 h1 =>
 bnd (aD .lss (env 5) v1 h1) fun v2 h2 =>
 aT v2 (
 bnd (aE 6 (env 0) (env 5) h2) fun v3 h3 =>
 bnd (aK 6 v3 h3) fun v4 h4 =>
 bnd (r 31 [v4] h4) fun v5 h5 =>
 bnd (r 20 [v5] h5) fun v6 h6 =>
 bnd (aC 0 v6 h6) fun v7 h7 =>
 bnd (aC 1 v6 h7) fun v8 h8 =>
 bnd (bY [(.i .i64 (Int.ofNat 0)),(.s []),(.s []),.l0,(.s []),(.i .i64 (Int.ofNat 0))] h8) fun v9 h9 =>
 bnd (aG 6 v9 v7 h9) fun _ h10 =>
 bnd (aE 6 (env 0) (env 5) h10) fun v11 h11 =>
 bnd (aK 6 v11 h11) fun v12 h12 =>
 bnd (aK 6 v9 h12) fun v13 h13 =>
 bnd (r 21 [v12,v13] h13) fun v14 h14 =>
 bnd (gQ .not v8 h14) fun v15 h15 =>
 bnd (gD v15 false (some (v14,h15)) h15) fun v16 h16 =>
 bnd (gD v15 false (gQ .not v16 h16) h16) fun v17 h17 =>
 bnd (aP v15 (.b true) v17 h17) fun v18 h18 =>
 bnd (gD v18 false (some (v5,h18)) h18) fun v19 h19 =>
 bnd (gD v18 false (r 19 [v19,(.i .u8 (Int.ofNat 10))] h19) h19) fun v20 h20 =>
 bnd (gD v18 false (cB v20 h20) h20) fun v21 h21 =>
 bnd (gD v18 false (aD .gtr v21 (.i .i64 (Int.ofNat 1)) h21) h21) fun v22 h22 =>
 bnd (aP v18 (.b true) v22 h22) fun v23 h23 =>
 aT v23 (
 some (.t [(.s []),(.i .i64 (Int.ofNat 1))],h23)) (
 bnd (bI .add (env 4) v5 h23) fun v24 h24 =>
 bnd (bI .add v24 (.s [10]) h24) fun v25 h25 =>
 bnd (aD .add (env 5) (.i .i64 (Int.ofNat 1)) h25) fun v26 h26 =>
    kk5 (env 0) v25 v26 h26)) (
      gF r n (env 4) h2)) = (K3 (qB r n kk5) 0 4 5):=by kernel_rfl
theorem cJi (kk5 : dP) : D16 r n vP (xs x0 0 (K1 (gF r n) 4)) (K3 kk5 0 4 5) = (K3 (qB r n kk5) 0 4 5) :=
 (cJp r n kk5 (gF r n)).trans (bSa r n kk5)
theorem cCe (m : Nat) : aL (fun kk=>D16 r n vP (xs x0 0 (K1 (gF r n) 4)) kk) m = (K3 (pX r n m) 0 4 5):=by
 induction m with
 | zero=>exact (by kernel_rfl : aL (fun kk=>D16 r n vP (xs x0 0 (K1 (gF r n) 4)) kk) 0 = (K3 (pX r n 0) 0 4 5))
 | succ m ih =>
  refine (by kernel_rfl : aL (fun kk=>D16 r n vP (xs x0 0 (K1 (gF r n) 4)) kk) (m + 1) = D16 r n vP (xs x0 0 (K1 (gF r n) 4)) (aL (fun kk=>D16 r n vP (xs x0 0 (K1 (gF r n) 4)) kk) m)).trans ?_
  rw [ih]
  exact (cJi r n (pX r n m)).trans (by kernel_rfl)
theorem cUm : D16 r n bDb (xs x0 0 (K1 (gF r n) 4)) (K1 (gF r n) 4) = (K3 (bIz r n) 0 4 5) :=
 (by kernel_rfl : D16 r n bDb (xs x0 0 (K1 (gF r n) 4)) (K1 (gF r n) 4) = aL (fun kk=>D16 r n vP (xs x0 0 (K1 (gF r n) 4)) kk) n).trans ((cCe r n n).trans (by kernel_rfl))
theorem dDy : D16 r n bXc x0 (K1 (gF r n) 4) = (K3 (aZo r n) 0 4 5) :=
 (by kernel_rfl : D16 r n bXc x0 (K1 (gF r n) 4) = D16 r n bDb (xs x0 0 (K1 (gF r n) 4)) (K1 (gF r n) 4)).trans
 ((cUm r n).trans (by kernel_rfl))
theorem cEu : D16 r n aXj x0 r16 = D16 r n aMs x0 (K1 (gF r n) 4) :=
 congrArg (fun k=>D16 r n aMs x0 k) (dFl r n)
theorem cJf : D16 r n aMs x0 (K1 (gF r n) 4) = D16 r n cUj x0 (K3 (aZo r n) 0 4 5) :=
 congrArg (fun k=>D16 r n cUj x0 k) (dDy r n)
theorem dBh : D16 r n aXj x0 r16 = (K2 (bCo r n) 0 4) :=
 (cEu r n).trans
 ((cJf r n).trans
 ((by kernel_rfl)))
theorem cDa : D16 r n aWc x0 r16 = D16 r n cUa x0 (K2 (bCo r n) 0 4) :=
 congrArg (fun k=>D16 r n cUa x0 k) (dBh r n)
theorem cVb : D16 r n aWc x0 r16 = (K1 (bBl r n) 0) :=
 (cDa r n).trans
 ((by kernel_rfl))
theorem dLu : D16 r n c16 x0 r16 = D16 r n bWf x0 (K1 (bBl r n) 0) :=
 congrArg (fun k=>D16 r n bWf x0 k) (cVb r n)
theorem dTa : D16 r n c16 x0 r16 = (K1 (s16 r n) 0) :=
 (dLu r n).trans
 ((by kernel_rfl))
theorem cTs : aF CF r n 16 args h = s16 r n (aV args 0) h :=
 (by kernel_rfl : aF CF r n 16 args h = D16 r n c16 x0 r16 (aJ args) h).trans ((congrFun (congrFun (dTa r n) (aJ args)) h).trans (by kernel_rfl))
def s17 (r : RT) (n : Nat) (x0 x1 : DV) (h0 : Hp) : aH :=
 bnd (mU [x0,x1,(.i .i64 (Int.ofNat 0)),(.i .i64 (Int.negSucc 0))] h0) fun v1 h1 =>
 some (v1,h1)
abbrev c17 : Code:=cf Tryz.f17
abbrev r17 : K:=aR CF Tryz.f17
def D17 (r : RT) (n : Nat) (c : Code) (X : Nat → K) (k : K) : K:=aM CF r 8 n c X r17 k
theorem dWn : D17 r n c17 x0 r17 = (K2 (s17 r n) 0 1) :=
 (by kernel_rfl)
theorem cTr : aF CF r n 17 args h = s17 r n (aV args 0) (aV args 1) h :=
 (by kernel_rfl : aF CF r n 17 args h = D17 r n c17 x0 r17 (aJ args) h).trans ((congrFun (congrFun (dWn r n) (aJ args)) h).trans (by kernel_rfl))
def s18 (r : RT) (n : Nat) (x0 : DV) (h0 : Hp) : aH :=
 bnd (bY [(.i .i64 (Int.ofNat 0)),(.s []),(.s []),.l0,(.s []),(.i .i64 (Int.ofNat 0))] h0) fun v1 h1 =>
 bnd (bI .eql x0 (.s [99,111,108,108,101,99,116]) h1) fun v2 h2 =>
 aT v2 (
 bnd (bK [(.i .i64 (Int.ofNat 0)),(.s []),(.s []),.l0,(.s []),(.i .i64 (Int.ofNat 0))] [(0,1,(.i .i64 (Int.ofNat 5)))] h2) fun v3 h3 =>
 bnd (aG 6 v1 v3 h3) fun _ h4 =>
 bnd (aK 6 v1 h4) fun v5 _ =>
 some (.t [v5,(.b true)],h4)) (
 bnd (bI .eql x0 (.s [102,108,117,115,104]) h2) fun v6 h6 =>
 aT v6 (
 bnd (bK [(.i .i64 (Int.ofNat 0)),(.s []),(.s []),.l0,(.s []),(.i .i64 (Int.ofNat 0))] [(0,1,(.i .i64 (Int.ofNat 6)))] h6) fun v7 h7 =>
 bnd (aG 6 v1 v7 h7) fun _ h8 =>
 bnd (aK 6 v1 h8) fun v9 _ =>
 some (.t [v9,(.b true)],h8)) (
 bnd (bI .eql x0 (.s [105,109,97,103,101]) h6) fun v10 h10 =>
 aT v10 (
 bnd (bK [(.i .i64 (Int.ofNat 0)),(.s []),(.s []),.l0,(.s []),(.i .i64 (Int.ofNat 0))] [(0,1,(.i .i64 (Int.ofNat 7)))] h10) fun v11 h11 =>
 bnd (aG 6 v1 v11 h11) fun _ h12 =>
 bnd (aK 6 v1 h12) fun v13 _ =>
 some (.t [v13,(.b true)],h12)) (
 bnd (tL [x0,(.s [32])] h10) fun v14 h14 =>
 bnd (aC 0 v14 h14) fun v15 h15 =>
 bnd (aC 1 v14 h15) fun v16 h16 =>
 bnd (aC 2 v14 h16) fun v17 h17 =>
 bnd (r 34 [] h17) fun v18 h18 =>
 bnd (eH .string .f0 true v18 v15 h18) fun v19 h19 =>
 bnd (aC 0 v19 h19) fun v20 h20 =>
 bnd (aC 1 v19 h20) fun v21 h21 =>
 bnd (gQ .not v17 h21) fun v22 h22 =>
 bnd (gD v22 false (some (v21,h22)) h22) fun v23 h23 =>
 bnd (gD v22 false (gQ .not v23 h23) h23) fun v24 h24 =>
 bnd (aP v22 (.b true) v24 h24) fun v25 h25 =>
 aT v25 (
 bnd (bK [(.i .i64 (Int.ofNat 0)),(.s []),(.s []),.l0,(.s []),(.i .i64 (Int.ofNat 0))] [] h25) fun v26 h26 =>
 bnd (aG 6 v1 v26 h26) fun _ h27 =>
 bnd (aK 6 v1 h27) fun v28 _ =>
 some (.t [v28,(.b false)],h27)) (
 bnd (jY CF r v20 [v16] h25) fun v29 h29 =>
 bnd (aC 0 v29 h29) fun v30 h30 =>
 bnd (aC 1 v29 h30) fun v31 h31 =>
 bnd (aG 6 v1 v30 h31) fun _ h32 =>
 bnd (aK 6 v1 h32) fun v33 _ =>
 some (.t [v33,v31],h32)))))
abbrev c18 : Code:=cf Tryz.f18
abbrev r18 : K:=aR CF Tryz.f18
def D18 (r : RT) (n : Nat) (c : Code) (X : Nat → K) (k : K) : K:=aM CF r 43 n c X r18 k
theorem dXl : D18 r n c18 x0 r18 = (K1 (s18 r n) 0) :=
 (by kernel_rfl)
theorem cSn : aF CF r n 18 args h = s18 r n (aV args 0) h :=
 (by kernel_rfl : aF CF r n 18 args h = D18 r n c18 x0 r18 (aJ args) h).trans ((congrFun (congrFun (dXl r n) (aJ args)) h).trans (by kernel_rfl))
def eW (r : RT) (n : Nat) (x5 : DV) (h0 : Hp) : aH :=
 some (x5,h0)
def pR (r : RT) (n : Nat) (kk6 : dJ) (x0 x1 x5 x6 x7 : DV) (h0 : Hp) : aH :=
 bnd (aD .add x7 (.i .i64 (Int.ofNat 1)) h0) fun v1 h1 =>
  kk6 x0 x1 x5 x6 v1 h1
def yC (r : RT) (n : Nat) (kk6 : dJ) (x0 x1 x5 x6 x7 : DV) (h0 : Hp) : aH :=
 bnd (cM x0 h0) fun v1 h1 =>
 bnd (aD .eql x7 v1 h1) fun v2 h2 =>
 bnd (gD v2 false (some (x0,h2)) h2) fun v3 h3 =>
 bnd (gD v2 false (some (x7,h3)) h3) fun v4 h4 =>
 bnd (gD v2 false (bX v3 v4 h4) h4) fun v5 h5 =>
 bnd (gD v2 false (some (x1,h5)) h5) fun v6 h6 =>
 bnd (gD v2 false (aD .eql v5 v6 h6) h6) fun v7 h7 =>
 bnd (aP v2 (.b true) v7 h7) fun v8 h8 =>
 aT v8 (
 bnd (cK x0 (some x6) (some x7) h8) fun v9 h9 =>
 bnd (aO [(.s [])] 1 [(0,1,v9)] h9) fun v10 h10 =>
 bnd (bB 1 16 x5 v10 h10) fun v11 h11 =>
 bnd (aD .add x7 (.i .i64 (Int.ofNat 1)) h11) fun v12 h12 =>
  pR r n kk6 x0 x1 v11 v12 x7 h12) (
  pR r n kk6 x0 x1 x5 x6 x7 h8)
def lN (r : RT) (n : Nat) (kk6 : dJ) (x0 x1 x5 x6 x7 : DV) (h0 : Hp) : aH :=
 bnd (cM x0 h0) fun v1 h1 =>
 bnd (aD .leq x7 v1 h1) fun v2 h2 =>
 aT v2 (
   yC r n kk6 x0 x1 x5 x6 x7 h2) (
   eW r n x5 h2)
def mK (r : RT) (n : Nat) (m : Nat) : dJ :=
 Nat.rec (motive:=fun _=>dJ) (fun _ _ _ _ _ _=>none) (fun _ ih=>lN r n ih) m
def cRl (r : RT) (n : Nat) : dJ:=mK r n n
def bMj (r : RT) (n : Nat) (x0 x1 x5 x6 x7 : DV) (h0 : Hp) : aH :=
 cRl r n x0 x1 x5 x6 x7 h0
def cBc (r : RT) (n : Nat) (x0 x1 x5 x6 : DV) (h0 : Hp) : aH :=
 bMj r n x0 x1 x5 x6 (.i .i64 (Int.ofNat 0)) h0
def bJi (r : RT) (n : Nat) (x0 x1 x5 : DV) (h0 : Hp) : aH :=
 cBc r n x0 x1 x5 (.i .i64 (Int.ofNat 0)) h0
def bSh (r : RT) (n : Nat) (x0 x1 : DV) (h0 : Hp) : aH :=
 bJi r n x0 x1 .l0 h0
def s19 (r : RT) (n : Nat) (x0 x1 : DV) (h0 : Hp) : aH :=
 bSh r n x0 x1 h0
abbrev c19 : Code:=cf Tryz.f19
abbrev bBk : Code:=cR c19
abbrev bBs : Code:=cR bBk
abbrev aWi : Code:=cR bBs
abbrev dNa : Code:=cR aWi
abbrev aMx : Code:=cL aWi
abbrev bPh : Code:=cR aMx
abbrev bBr : Code:=cL bPh
abbrev pP : Code:=cL bBr
abbrev bCa : Code:=cR pP
abbrev cWc : Code:=cR bCa
abbrev aPy : Code:=cL bCa
abbrev bMi : Code:=cL pP
abbrev bNh : Code:=cL aMx
abbrev cAx : Code:=cL bBs
abbrev bXm : Code:=cL bBk
abbrev bPm : Code:=cL c19
abbrev r19 : K:=aR CF Tryz.f19
def D19 (r : RT) (n : Nat) (c : Code) (X : Nat → K) (k : K) : K:=aM CF r 35 n c X r19 k
theorem dFj : D19 r n dNa x0 r19 = (K1 (eW r n) 5) :=
 (by kernel_rfl)
theorem cXz (kk6 : dJ) : D19 r n cWc (xs x0 0 (K1 (eW r n) 5)) (K5 kk6 0 1 5 6 7) = (K5 (pR r n kk6) 0 1 5 6 7) :=
 (by kernel_rfl)
theorem cIo (kk6 : dJ) : D19 r n bCa (xs x0 0 (K1 (eW r n) 5)) (K5 kk6 0 1 5 6 7) = D19 r n aPy (xs x0 0 (K1 (eW r n) 5)) (K5 (pR r n kk6) 0 1 5 6 7) :=
 congrArg (fun k=>D19 r n aPy (xs x0 0 (K1 (eW r n) 5)) k) (cXz r n kk6)
theorem cJo (kk6 : dJ) (q0 : dJ) (q1 : TT1) : D19 r n aPy (xs x0 0 (K1 q1 5)) (K5 q0 0 1 5 6 7) = fun (env : bA) (h : Hp) =>
 bnd (cM (env 0) h) fun v1 h1 =>
 bnd (aD .eql (env 7) v1 h1) fun v2 h2 =>
 bnd (gD v2 false (some ((env 0),h2)) h2) fun v3 h3 =>
 bnd (gD v2 false (some ((env 7),h3)) h3) fun v4 h4 =>
 bnd (gD v2 false (bX v3 v4 h4) h4) fun v5 h5 =>
 bnd (gD v2 false (some ((env 1),h5)) h5) fun v6 h6 =>
 bnd (gD v2 false (aD .eql v5 v6 h6) h6) fun v7 h7 =>
 bnd (aP v2 (.b true) v7 h7) fun v8 h8 =>
 aT v8 (
 bnd (cK (env 0) (some (env 6)) (some (env 7)) h8) fun v9 h9 =>
 bnd (aO [(.s [])] 1 [(0,1,v9)] h9) fun v10 h10 =>
 bnd (bB 1 16 (env 5) v10 h10) fun v11 h11 =>
 bnd (aD .add (env 7) (.i .i64 (Int.ofNat 1)) h11) fun v12 h12 =>
      q0 (env 0) (env 1) v11 v12 (env 7) h12) (
      q0 (env 0) (env 1) (env 5) (env 6) (env 7) h8):=by kernel_rfl
theorem bQj (kk6 : dJ) : (fun (env : bA) (h : Hp) =>
 bnd (cM (env 0) h) fun v1 h1 =>
 bnd (aD .eql (env 7) v1 h1) fun v2 h2 =>
 bnd (gD v2 false (some ((env 0),h2)) h2) fun v3 h3 =>
 bnd (gD v2 false (some ((env 7),h3)) h3) fun v4 h4 =>
 bnd (gD v2 false (bX v3 v4 h4) h4) fun v5 h5 =>
 bnd (gD v2 false (some ((env 1),h5)) h5) fun v6 h6 =>
 bnd (gD v2 false (aD .eql v5 v6 h6) h6) fun v7 h7 =>
 bnd (aP v2 (.b true) v7 h7) fun v8 h8 =>
 aT v8 (
 bnd (cK (env 0) (some (env 6)) (some (env 7)) h8) fun v9 h9 =>
 bnd (aO [(.s [])] 1 [(0,1,v9)] h9) fun v10 h10 =>
 bnd (bB 1 16 (env 5) v10 h10) fun v11 h11 =>
 bnd (aD .add (env 7) (.i .i64 (Int.ofNat 1)) h11) fun v12 h12 =>
      pR r n kk6 (env 0) (env 1) v11 v12 (env 7) h12) (
      pR r n kk6 (env 0) (env 1) (env 5) (env 6) (env 7) h8)) = (K5 (yC r n kk6) 0 1 5 6 7):=by kernel_rfl
theorem dFs (kk6 : dJ) : D19 r n bCa (xs x0 0 (K1 (eW r n) 5)) (K5 kk6 0 1 5 6 7) = (K5 (yC r n kk6) 0 1 5 6 7) :=
 (cIo r n kk6).trans
 ((cJo r n kk6 (pR r n kk6) (eW r n)).trans (bQj r n kk6))
theorem cGs (kk6 : dJ) : D19 r n pP (xs x0 0 (K1 (eW r n) 5)) (K5 kk6 0 1 5 6 7) = D19 r n bMi (xs x0 0 (K1 (eW r n) 5)) (K5 (yC r n kk6) 0 1 5 6 7) :=
 congrArg (fun k=>D19 r n bMi (xs x0 0 (K1 (eW r n) 5)) k) (dFs r n kk6)
theorem cCg (kk6 : dJ) : D19 r n pP (xs x0 0 (K1 (eW r n) 5)) (K5 kk6 0 1 5 6 7) = (K5 (lN r n kk6) 0 1 5 6 7) :=
 (cGs r n kk6).trans
 ((by kernel_rfl))
theorem cDx (m : Nat) : aL (fun kk=>D19 r n pP (xs x0 0 (K1 (eW r n) 5)) kk) m = (K5 (mK r n m) 0 1 5 6 7):=by
 induction m with
 | zero=>exact (by kernel_rfl : aL (fun kk=>D19 r n pP (xs x0 0 (K1 (eW r n) 5)) kk) 0 = (K5 (mK r n 0) 0 1 5 6 7))
 | succ m ih =>
  refine (by kernel_rfl : aL (fun kk=>D19 r n pP (xs x0 0 (K1 (eW r n) 5)) kk) (m + 1) = D19 r n pP (xs x0 0 (K1 (eW r n) 5)) (aL (fun kk=>D19 r n pP (xs x0 0 (K1 (eW r n) 5)) kk) m)).trans ?_
  rw [ih]
  exact (cCg r n (mK r n m)).trans (by kernel_rfl)
theorem dDr : D19 r n bBr (xs x0 0 (K1 (eW r n) 5)) (K1 (eW r n) 5) = (K5 (cRl r n) 0 1 5 6 7) :=
 (by kernel_rfl : D19 r n bBr (xs x0 0 (K1 (eW r n) 5)) (K1 (eW r n) 5) = aL (fun kk=>D19 r n pP (xs x0 0 (K1 (eW r n) 5)) kk) n).trans ((cDx r n n).trans (by kernel_rfl))
theorem cYg : D19 r n bPh x0 (K1 (eW r n) 5) = (K5 (bMj r n) 0 1 5 6 7) :=
 (by kernel_rfl : D19 r n bPh x0 (K1 (eW r n) 5) = D19 r n bBr (xs x0 0 (K1 (eW r n) 5)) (K1 (eW r n) 5)).trans
 ((dDr r n).trans (by kernel_rfl))
theorem cJx : D19 r n aWi x0 r19 = D19 r n aMx x0 (K1 (eW r n) 5) :=
 congrArg (fun k=>D19 r n aMx x0 k) (dFj r n)
theorem cPv : D19 r n aMx x0 (K1 (eW r n) 5) = D19 r n bNh x0 (K5 (bMj r n) 0 1 5 6 7) :=
 congrArg (fun k=>D19 r n bNh x0 k) (cYg r n)
theorem dFr : D19 r n aWi x0 r19 = (K4 (cBc r n) 0 1 5 6) :=
 (cJx r n).trans
 ((cPv r n).trans
 ((by kernel_rfl)))
theorem cPf : D19 r n bBs x0 r19 = D19 r n cAx x0 (K4 (cBc r n) 0 1 5 6) :=
 congrArg (fun k=>D19 r n cAx x0 k) (dFr r n)
theorem cZs : D19 r n bBs x0 r19 = (K3 (bJi r n) 0 1 5) :=
 (cPf r n).trans
 ((by kernel_rfl))
theorem cIw : D19 r n bBk x0 r19 = D19 r n bXm x0 (K3 (bJi r n) 0 1 5) :=
 congrArg (fun k=>D19 r n bXm x0 k) (cZs r n)
theorem cZe : D19 r n bBk x0 r19 = (K2 (bSh r n) 0 1) :=
 (cIw r n).trans
 ((by kernel_rfl))
theorem dJj : D19 r n c19 x0 r19 = D19 r n bPm x0 (K2 (bSh r n) 0 1) :=
 congrArg (fun k=>D19 r n bPm x0 k) (cZe r n)
theorem dSf : D19 r n c19 x0 r19 = (K2 (s19 r n) 0 1) :=
 (dJj r n).trans
 ((by kernel_rfl))
theorem cTp : aF CF r n 19 args h = s19 r n (aV args 0) (aV args 1) h :=
 (by kernel_rfl : aF CF r n 19 args h = D19 r n c19 x0 r19 (aJ args) h).trans ((congrFun (congrFun (dSf r n) (aJ args)) h).trans (by kernel_rfl))
def bH (r : RT) (n : Nat) (x2 x4 : DV) (h0 : Hp) : aH :=
 bnd (aK 6 x4 h0) fun v1 h1 =>
 bnd (aG 6 x2 v1 h1) fun _ h2 =>
 bnd (aK 6 x2 h2) fun v3 _ =>
 some (.t [v3,(.b false)],h2)
def uQ (r : RT) (n : Nat) (x2 x4 : DV) (h0 : Hp) : aH :=
 bnd (aK 6 x4 h0) fun v1 h1 =>
 bnd (aG 6 x2 v1 h1) fun _ h2 =>
 bnd (aK 6 x2 h2) fun v3 _ =>
 some (.t [v3,(.b true)],h2)
def tO (r : RT) (n : Nat) (x2 x4 x5 : DV) (h0 : Hp) : aH :=
 bnd (aE 1 x5 (.i .i64 (Int.ofNat 0)) h0) fun v1 h1 =>
 bnd (aA v1 h1) fun v2 h2 =>
 bnd (bI .eql v2 (.s [102,97,115,116]) h2) fun v3 h3 =>
 aT v3 (
 bnd (aB 5 x4 h3) fun v4 h4 =>
 bnd (aG 1 v4 (.i .i64 (Int.ofNat 1)) h4) fun _ h5 =>
  uQ r n x2 x4 h5) (
  uQ r n x2 x4 h3)
def aAb (r : RT) (n : Nat) (x2 x4 x5 : DV) (h0 : Hp) : aH :=
 bnd (aE 1 x5 (.i .i64 (Int.ofNat 1)) h0) fun v1 h1 =>
 bnd (aA v1 h1) fun v2 h2 =>
 bnd (aE 1 x5 (.i .i64 (Int.ofNat 2)) h2) fun v3 h3 =>
 bnd (aA v3 h3) fun v4 h4 =>
 bnd (bK [(.i .i64 (Int.ofNat 0)),(.s []),(.s []),.l0,(.s []),(.i .i64 (Int.ofNat 0))] [(0,1,(.i .i64 (Int.ofNat 4))),(1,1,v2),(4,1,v4)] h4) fun v5 h5 =>
 bnd (aG 6 x4 v5 h5) fun v6 h6 =>
  tO r n x2 x4 x5 h6
def aUx (r : RT) (n : Nat) (x2 x4 x5 x6 : DV) (h0 : Hp) : aH :=
 bnd (cB x5 h0) fun v1 h1 =>
 bnd (aD .neq v1 (.i .i64 (Int.ofNat 3)) h1) fun v2 h2 =>
 bnd (gD v2 false (some (x6,h2)) h2) fun v3 h3 =>
 bnd (aP v2 (.b true) v3 h3) fun v4 h4 =>
 aT v4 (
 bnd (aK 6 x4 h4) fun v5 h5 =>
 bnd (aG 6 x2 v5 h5) fun _ h6 =>
 bnd (aK 6 x2 h6) fun v7 _ =>
 some (.t [v7,(.b false)],h6)) (
  aAb r n x2 x4 x5 h4)
def qK (r : RT) (n : Nat) (x2 x4 x5 x6 x43 x112 : DV) (h0 : Hp) : aH :=
 aT x112 (
  aUx r n x2 x4 x5 x6 h0) (
 bnd (bI .eql x43 (.s [101,118,101,114,121]) h0) fun v1 h1 =>
 aT v1 (
 bnd (cB x5 h1) fun v2 h2 =>
 bnd (aD .neq v2 (.i .i64 (Int.ofNat 2)) h2) fun v3 h3 =>
 bnd (gD v3 false (some (x5,h3)) h3) fun v4 h4 =>
 bnd (gD v3 false (aE 1 v4 (.i .i64 (Int.ofNat 1)) h4) h4) fun v5 h5 =>
 bnd (gD v3 false (aA v5 h5) h5) fun v6 h6 =>
 bnd (gD v3 false (r 35 [v6] h6) h6) fun v7 h7 =>
 bnd (gD v3 false (aD .lss v7 (.i .i64 (Int.ofNat 0)) h7) h7) fun v8 h8 =>
 bnd (aP v3 (.b true) v8 h8) fun v9 h9 =>
 aT v9 (
 bnd (aK 6 x4 h9) fun v10 h10 =>
 bnd (aG 6 x2 v10 h10) fun _ h11 =>
 bnd (aK 6 x2 h11) fun v12 _ =>
 some (.t [v12,(.b false)],h11)) (
 bnd (aE 1 x5 (.i .i64 (Int.ofNat 1)) h9) fun v13 h13 =>
 bnd (aA v13 h13) fun v14 h14 =>
 bnd (r 35 [v14] h14) fun v15 h15 =>
 bnd (bK [(.i .i64 (Int.ofNat 0)),(.s []),(.s []),.l0,(.s []),(.i .i64 (Int.ofNat 0))] [(0,1,(.i .i64 (Int.ofNat 8))),(5,1,v15)] h15) fun v16 h16 =>
 bnd (aG 6 x2 v16 h16) fun _ h17 =>
 bnd (aK 6 x2 h17) fun v18 _ =>
 some (.t [v18,(.b true)],h17))) (
   bH r n x2 x4 h1))
def aRj (r : RT) (n : Nat) (x2 x4 x5 x6 x43 : DV) (h0 : Hp) : aH :=
 bnd (bI .eql x43 (.s [102,97,115,116]) h0) fun v1 h1 =>
 aT v1 (
  qK r n x2 x4 x5 x6 x43 v1 h1) (
 bnd (bI .eql x43 (.s [115,108,111,119]) h1) fun v2 h2 =>
  qK r n x2 x4 x5 x6 x43 v2 h2)
def aGs (r : RT) (n : Nat) (x0 x2 x4 x5 x6 x43 x86 : DV) (h0 : Hp) : aH :=
 aT x86 (
 bnd (cB x5 h0) fun v1 h1 =>
 bnd (aD .lss v1 (.i .i64 (Int.ofNat 3)) h1) fun v2 h2 =>
 bnd (gD v2 false (some (x5,h2)) h2) fun v3 h3 =>
 bnd (gD v2 false (aE 1 v3 (.i .i64 (Int.ofNat 1)) h3) h3) fun v4 h4 =>
 bnd (gD v2 false (aA v4 h4) h4) fun v5 h5 =>
 bnd (gD v2 false (r 35 [v5] h5) h5) fun v6 h6 =>
 bnd (gD v2 false (aD .lss v6 (.i .i64 (Int.ofNat 0)) h6) h6) fun v7 h7 =>
 bnd (aP v2 (.b true) v7 h7) fun v8 h8 =>
 aT v8 (
 bnd (aK 6 x4 h8) fun v9 h9 =>
 bnd (aG 6 x2 v9 h9) fun _ h10 =>
 bnd (aK 6 x2 h10) fun v11 _ =>
 some (.t [v11,(.b false)],h10)) (
 bnd (aE 1 x5 (.i .i64 (Int.ofNat 1)) h8) fun v12 h12 =>
 bnd (aA v12 h12) fun v13 h13 =>
 bnd (r 35 [v13] h13) fun v14 h14 =>
 bnd (aE 1 x5 (.i .i64 (Int.ofNat 1)) h14) fun v15 h15 =>
 bnd (aA v15 h15) fun v16 h16 =>
 cnd (bJ (aA v15 h8) v16 && true) (
 bnd (cM v16 h16) fun v17 h17 =>
 bnd (aD .add (.i .i64 (Int.ofNat 3)) v17 h17) fun v18 h18 =>
 bnd (aD .add v18 (.i .i64 (Int.ofNat 1)) h18) fun v19 h19 =>
 bnd (cK x0 (some v19) none h19) fun v20 h20 =>
 bnd (bK [(.i .i64 (Int.ofNat 0)),(.s []),(.s []),.l0,(.s []),(.i .i64 (Int.ofNat 0))] [(0,1,(.i .i64 (Int.ofNat 3))),(5,1,v14),(4,1,v20)] h20) fun v21 h21 =>
 bnd (aG 6 x2 v21 h21) fun v22 h22 =>
 bnd (aK 6 x2 h22) fun v23 _ =>
 some (.t [v23,(.b true)],h22)))) (
  aRj r n x2 x4 x5 x6 x43 h0)
def aUg (r : RT) (n : Nat) (x0 x2 x4 x5 x6 x43 : DV) (h0 : Hp) : aH :=
 bnd (bI .eql x43 (.s [100,111]) h0) fun v1 h1 =>
  aGs r n x0 x2 x4 x5 x6 x43 v1 h1
def aHj (r : RT) (n : Nat) (x0 x2 x4 x5 x6 x43 x62 : DV) (h0 : Hp) : aH :=
 aT x62 (
 bnd (cB x5 h0) fun v1 h1 =>
 bnd (aD .lss v1 (.i .i64 (Int.ofNat 3)) h1) fun v2 h2 =>
 bnd (gD v2 false (some (x5,h2)) h2) fun v3 h3 =>
 bnd (gD v2 false (aE 1 v3 (.i .i64 (Int.ofNat 1)) h3) h3) fun v4 h4 =>
 bnd (gD v2 false (aA v4 h4) h4) fun v5 h5 =>
 bnd (gD v2 false (bI .eql v5 (.s []) h5) h5) fun v6 h6 =>
 bnd (aP v2 (.b true) v6 h6) fun v7 h7 =>
 aT v7 (
 bnd (aK 6 x4 h7) fun v8 h8 =>
 bnd (aG 6 x2 v8 h8) fun _ h9 =>
 bnd (aK 6 x2 h9) fun v10 _ =>
 some (.t [v10,(.b false)],h9)) (
 bnd (aE 1 x5 (.i .i64 (Int.ofNat 1)) h7) fun v11 h11 =>
 bnd (aA v11 h11) fun v12 h12 =>
 bnd (aE 1 x5 (.i .i64 (Int.ofNat 1)) h12) fun v13 h13 =>
 bnd (aA v13 h13) fun v14 h14 =>
 bnd (cM v14 h14) fun v15 h15 =>
 bnd (aD .add (.i .i64 (Int.ofNat 7)) v15 h15) fun v16 h16 =>
 bnd (aD .add v16 (.i .i64 (Int.ofNat 1)) h16) fun v17 h17 =>
 bnd (cK x0 (some v17) none h17) fun v18 h18 =>
 bnd (bK [(.i .i64 (Int.ofNat 0)),(.s []),(.s []),.l0,(.s []),(.i .i64 (Int.ofNat 0))] [(0,1,(.i .i64 (Int.ofNat 2))),(1,1,v12),(4,1,v18)] h18) fun v19 h19 =>
 bnd (aG 6 x2 v19 h19) fun v20 h20 =>
 bnd (aK 6 x2 h20) fun v21 _ =>
 some (.t [v21,(.b true)],h20))) (
  aUg r n x0 x2 x4 x5 x6 x43 h0)
def aSo (r : RT) (n : Nat) (x0 x2 x4 x5 x6 x43 : DV) (h0 : Hp) : aH :=
 bnd (bI .eql x43 (.s [109,101,116,104,111,100]) h0) fun v1 h1 =>
  aHj r n x0 x2 x4 x5 x6 x43 v1 h1
def bAp (r : RT) (n : Nat) (x0 x2 x4 x5 x6 x43 x44 : DV) (h0 : Hp) : aH :=
 aT x44 (
 bnd (cB x5 h0) fun v1 h1 =>
 bnd (aD .lss v1 (.i .i64 (Int.ofNat 3)) h1) fun v2 h2 =>
 bnd (gD v2 false (some (x6,h2)) h2) fun v3 h3 =>
 bnd (aP v2 (.b true) v3 h3) fun v4 h4 =>
 aT v4 (
 bnd (aK 6 x4 h4) fun v5 h5 =>
 bnd (aG 6 x2 v5 h5) fun _ h6 =>
 bnd (aK 6 x2 h6) fun v7 _ =>
 some (.t [v7,(.b false)],h6)) (
 bnd (aE 1 x5 (.i .i64 (Int.ofNat 1)) h4) fun v8 h8 =>
 bnd (aA v8 h8) fun v9 h9 =>
 bnd (aE 1 x5 (.i .i64 (Int.ofNat 2)) h9) fun v10 h10 =>
 bnd (aA v10 h10) fun v11 h11 =>
 bnd (dF 1 x5 (some (.i .i64 (Int.ofNat 3))) none h11) fun v12 h12 =>
 bnd (bK [(.i .i64 (Int.ofNat 0)),(.s []),(.s []),.l0,(.s []),(.i .i64 (Int.ofNat 0))] [(0,1,(.i .i64 (Int.ofNat 1))),(1,1,v9),(2,1,v11),(3,1,v12)] h12) fun v13 h13 =>
 bnd (aG 6 x2 v13 h13) fun v14 h14 =>
 bnd (aK 6 x2 h14) fun v15 _ =>
 some (.t [v15,(.b true)],h14))) (
  aSo r n x0 x2 x4 x5 x6 x43 h0)
def aVv (r : RT) (n : Nat) (x0 x2 x4 x5 x6 x43 : DV) (h0 : Hp) : aH :=
 bnd (bI .eql x43 (.s [99,108,97,115,115]) h0) fun v1 h1 =>
  bAp r n x0 x2 x4 x5 x6 x43 v1 h1
def gC (r : RT) (n : Nat) (x0 x2 x4 x5 x6 : DV) (h0 : Hp) : aH :=
 bnd (aE 1 x5 (.i .i64 (Int.ofNat 0)) h0) fun v1 h1 =>
 bnd (aA v1 h1) fun v2 h2 =>
  aVv r n x0 x2 x4 x5 x6 v2 h2
def pD (r : RT) (n : Nat) (kk21 : gU) (x0 x2 x4 x5 x6 x7 : DV) (h0 : Hp) : aH :=
 bnd (cB x5 h0) fun v1 h1 =>
 bnd (aD .lss x7 v1 h1) fun v2 h2 =>
 aT v2 (
 bnd (gD x6 false (some (x5,h2)) h2) fun v3 h3 =>
 bnd (gD x6 false (some (x7,h3)) h3) fun v4 h4 =>
 bnd (gD x6 false (aE 1 v3 v4 h4) h4) fun v5 h5 =>
 bnd (gD x6 false (aA v5 h5) h5) fun v6 h6 =>
 bnd (gD x6 false (bI .eql v6 (.s []) h6) h6) fun v7 h7 =>
 bnd (aP x6 (.b true) v7 h7) fun v8 h8 =>
 bnd (aD .add x7 (.i .i64 (Int.ofNat 1)) h8) fun v9 h9 =>
      kk21 x0 x2 x4 x5 v8 v9 h9) (
      gC r n x0 x2 x4 x5 x6 h2)
def nG (r : RT) (n : Nat) (m : Nat) : gU :=
 Nat.rec (motive:=fun _=>gU) (fun _ _ _ _ _ _ _=>none) (fun _ ih=>pD r n ih) m
def aRl (r : RT) (n : Nat) : gU:=nG r n n
def aIa (r : RT) (n : Nat) (x0 x2 x4 x5 x6 x7 : DV) (h0 : Hp) : aH :=
 aRl r n x0 x2 x4 x5 x6 x7 h0
def aWa (r : RT) (n : Nat) (x0 x2 x4 x5 x6 : DV) (h0 : Hp) : aH :=
 aIa r n x0 x2 x4 x5 x6 (.i .i64 (Int.ofNat 1)) h0
def nI (r : RT) (n : Nat) (x0 x2 x4 x5 : DV) (h0 : Hp) : aH :=
 aWa r n x0 x2 x4 x5 (.b false) h0
def nC (r : RT) (n : Nat) (x2 x4 : DV) (h0 : Hp) : aH :=
 bnd (aK 6 x4 h0) fun v1 h1 =>
 bnd (aB 0 x4 h1) fun v2 h2 =>
 bnd (aA v2 h2) fun v3 h3 =>
 bnd (aD .neq v3 (.i .i64 (Int.ofNat 0)) h3) fun v4 h4 =>
 bnd (aG 6 x2 v1 h4) fun v5 h5 =>
 cnd (bJ (aA v2 h5) v3 && true) (
 bnd (aK 6 x2 h5) fun v6 _ =>
 some (.t [v6,v4],h5))
def aJo (r : RT) (n : Nat) (x0 x2 x4 : DV) (h0 : Hp) : aH :=
 bnd (bI .eql x0 (.s [99,111,108,108,101,99,116]) h0) fun v1 h1 =>
 aT v1 (
 bnd (aB 0 x4 h1) fun v2 h2 =>
 bnd (aG 1 v2 (.i .i64 (Int.ofNat 5)) h2) fun _ h3 =>
  nC r n x2 x4 h3) (
 bnd (bI .eql x0 (.s [102,108,117,115,104]) h1) fun v4 h4 =>
 aT v4 (
 bnd (aB 0 x4 h4) fun v5 h5 =>
 bnd (aG 1 v5 (.i .i64 (Int.ofNat 6)) h5) fun _ h6 =>
      nC r n x2 x4 h6) (
 bnd (bI .eql x0 (.s [105,109,97,103,101]) h4) fun v7 h7 =>
 aT v7 (
 bnd (aB 0 x4 h7) fun v8 h8 =>
 bnd (aG 1 v8 (.i .i64 (Int.ofNat 7)) h8) fun _ h9 =>
    nC r n x2 x4 h9) (
    nC r n x2 x4 h7)))
def aHs (r : RT) (n : Nat) (x0 x2 x4 x5 x12 : DV) (h0 : Hp) : aH :=
 aT x12 (
  aJo r n x0 x2 x4 h0) (
  nI r n x0 x2 x4 x5 h0)
def aOb (r : RT) (n : Nat) (x0 x2 x4 x5 : DV) (h0 : Hp) : aH :=
 bnd (cB x5 h0) fun v1 h1 =>
 bnd (aD .eql v1 (.i .i64 (Int.ofNat 1)) h1) fun v2 h2 =>
  aHs r n x0 x2 x4 x5 v2 h2
def aDj (r : RT) (n : Nat) (x0 x2 x4 : DV) (h0 : Hp) : aH :=
 bnd (r 19 [x0,(.i .u8 (Int.ofNat 32))] h0) fun v1 h1 =>
  aOb r n x0 x2 x4 v1 h1
def zE (r : RT) (n : Nat) (x0 x2 : DV) (h0 : Hp) : aH :=
 bnd (bY [(.i .i64 (Int.ofNat 0)),(.s []),(.s []),.l0,(.s []),(.i .i64 (Int.ofNat 0))] h0) fun v1 h1 =>
  aDj r n x0 x2 v1 h1
def s20 (r : RT) (n : Nat) (x0 : DV) (h0 : Hp) : aH :=
 bnd (bY [(.i .i64 (Int.ofNat 0)),(.s []),(.s []),.l0,(.s []),(.i .i64 (Int.ofNat 0))] h0) fun v1 h1 =>
  zE r n x0 v1 h1
abbrev c20 : Code:=cf Tryz.f20
abbrev bAd : Code:=cR c20
abbrev bBw : Code:=cR bAd
abbrev aWb : Code:=cR bBw
abbrev bAl : Code:=cR aWb
abbrev bCz : Code:=cR bAl
abbrev bAi : Code:=cR bCz
abbrev dLd : Code:=cR bAi
abbrev aNv : Code:=cL bAi
abbrev bLh : Code:=cR aNv
abbrev aIx : Code:=cL bLh
abbrev zO : Code:=cR aIx
abbrev xU : Code:=cR zO
abbrev yJ : Code:=cR xU
abbrev xS : Code:=cR yJ
abbrev yS : Code:=cR xS
abbrev aBa : Code:=cR yS
abbrev yB : Code:=cR aBa
abbrev zA : Code:=cL yB
abbrev aKb : Code:=cR zA
abbrev aEj : Code:=cR aKb
abbrev dEn : Code:=cR aEj
abbrev bQn : Code:=cL aEj
abbrev aTz : Code:=cL aKb
abbrev bYs : Code:=cL zA
abbrev dDo : Code:=cR yB
abbrev bKi : Code:=cL aBa
abbrev dDb : Code:=cL yS
abbrev bTw : Code:=cL xS
abbrev dAh : Code:=cL yJ
abbrev bXf : Code:=cL xU
abbrev dCp : Code:=cL zO
abbrev bXx : Code:=cL aIx
abbrev bIy : Code:=cL aNv
abbrev zL : Code:=cL bCz
abbrev aQq : Code:=cR zL
abbrev aJs : Code:=cL aQq
abbrev qR : Code:=cL aJs
abbrev bWg : Code:=cL zL
abbrev bPi : Code:=cL bAl
abbrev zH : Code:=cL aWb
abbrev zN : Code:=cR zH
abbrev aBp : Code:=cL zN
abbrev dHb : Code:=cR aBp
abbrev bPk : Code:=cL aBp
abbrev dBc : Code:=cR zN
abbrev bIo : Code:=cL zH
abbrev bQg : Code:=cL bBw
abbrev aUc : Code:=cL bAd
abbrev aQn : Code:=cL c20
abbrev r20 : K:=aR CF Tryz.f20
def D20 (r : RT) (n : Nat) (c : Code) (X : Nat → K) (k : K) : K:=aM CF r 154 n c X r20 k
theorem cXd : D20 r n dLd x0 r20 = (K2 (bH r n) 2 4) :=
 (by kernel_rfl)
theorem cBt : D20 r n dEn (xs x0 3 (K2 (bH r n) 2 4)) (K2 (bH r n) 2 4) = (K2 (uQ r n) 2 4) :=
 (by kernel_rfl)
theorem bYc : D20 r n aEj (xs x0 3 (K2 (bH r n) 2 4)) (K2 (bH r n) 2 4) = D20 r n bQn (xs x0 3 (K2 (bH r n) 2 4)) (K2 (uQ r n) 2 4) :=
 congrArg (fun k=>D20 r n bQn (xs x0 3 (K2 (bH r n) 2 4)) k) (cBt r n)
theorem cNh : D20 r n aEj (xs x0 3 (K2 (bH r n) 2 4)) (K2 (bH r n) 2 4) = (K3 (tO r n) 2 4 5) :=
 (bYc r n).trans
 ((by kernel_rfl))
theorem bPx : D20 r n aKb (xs x0 3 (K2 (bH r n) 2 4)) (K2 (bH r n) 2 4) = D20 r n aTz (xs x0 3 (K2 (bH r n) 2 4)) (K3 (tO r n) 2 4 5) :=
 congrArg (fun k=>D20 r n aTz (xs x0 3 (K2 (bH r n) 2 4)) k) (cNh r n)
theorem bQq (q0 : dP) (q1 : TT2) : D20 r n aTz (xs x0 3 (K2 q1 2 4)) (K3 q0 2 4 5) = fun (env : bA) (h : Hp) =>
 bnd (aE 1 (env 5) (.i .i64 (Int.ofNat 1)) h) fun v1 h1 =>
 bnd (aA v1 h1) fun v2 h2 =>
 bnd (aE 1 (env 5) (.i .i64 (Int.ofNat 2)) h2) fun v3 h3 =>
 bnd (aA v3 h3) fun v4 h4 =>
 bnd (bK [(.i .i64 (Int.ofNat 0)),(.s []),(.s []),.l0,(.s []),(.i .i64 (Int.ofNat 0))] [(0,1,(.i .i64 (Int.ofNat 4))),(1,1,v2),(4,1,v4)] h4) fun v5 h5 =>
 bnd (aG 6 (env 4) v5 h5) fun v6 h6 =>
  q0 (env 2) (env 4) (env 5) h6:=by kernel_rfl
theorem bGo : (fun (env : bA) (h : Hp) =>
 bnd (aE 1 (env 5) (.i .i64 (Int.ofNat 1)) h) fun v1 h1 =>
 bnd (aA v1 h1) fun v2 h2 =>
 bnd (aE 1 (env 5) (.i .i64 (Int.ofNat 2)) h2) fun v3 h3 =>
 bnd (aA v3 h3) fun v4 h4 =>
 bnd (bK [(.i .i64 (Int.ofNat 0)),(.s []),(.s []),.l0,(.s []),(.i .i64 (Int.ofNat 0))] [(0,1,(.i .i64 (Int.ofNat 4))),(1,1,v2),(4,1,v4)] h4) fun v5 h5 =>
 bnd (aG 6 (env 4) v5 h5) fun v6 h6 =>
  tO r n (env 2) (env 4) (env 5) h6) = (K3 (aAb r n) 2 4 5):=by kernel_rfl
theorem cGb : D20 r n aKb (xs x0 3 (K2 (bH r n) 2 4)) (K2 (bH r n) 2 4) = (K3 (aAb r n) 2 4 5) :=
 (bPx r n).trans
 ((bQq r n (tO r n) (bH r n)).trans (bGo r n))
theorem bZj : D20 r n zA (xs x0 3 (K2 (bH r n) 2 4)) (K2 (bH r n) 2 4) = D20 r n bYs (xs x0 3 (K2 (bH r n) 2 4)) (K3 (aAb r n) 2 4 5) :=
 congrArg (fun k=>D20 r n bYs (xs x0 3 (K2 (bH r n) 2 4)) k) (cGb r n)
theorem cDb : D20 r n zA (xs x0 3 (K2 (bH r n) 2 4)) (K2 (bH r n) 2 4) = (K4 (aUx r n) 2 4 5 6) :=
 (bZj r n).trans
 ((by kernel_rfl))
theorem cEm : D20 r n yB (xs x0 3 (K2 (bH r n) 2 4)) (K2 (bH r n) 2 4) = (K6 (qK r n) 2 4 5 6 43 112) :=
 (by kernel_rfl : D20 r n yB (xs x0 3 (K2 (bH r n) 2 4)) (K2 (bH r n) 2 4) = (fun (env : bA) (h : Hp)=>aT (opr env (cC yB)) (D20 r n zA (xs x0 3 (K2 (bH r n) 2 4)) (K2 (bH r n) 2 4) env h) (D20 r n dDo (xs x0 3 (K2 (bH r n) 2 4)) (K2 (bH r n) 2 4) env h))).trans (by rw [cDb r n]; kernel_rfl)
theorem bKs : D20 r n aBa (xs x0 3 (K2 (bH r n) 2 4)) (K2 (bH r n) 2 4) = D20 r n bKi (xs x0 3 (K2 (bH r n) 2 4)) (K6 (qK r n) 2 4 5 6 43 112) :=
 congrArg (fun k=>D20 r n bKi (xs x0 3 (K2 (bH r n) 2 4)) k) (cEm r n)
theorem cMn : D20 r n aBa (xs x0 3 (K2 (bH r n) 2 4)) (K2 (bH r n) 2 4) = (K5 (aRj r n) 2 4 5 6 43) :=
 (bKs r n).trans
 ((by kernel_rfl))
theorem cNu : D20 r n yS (xs x0 3 (K2 (bH r n) 2 4)) (K2 (bH r n) 2 4) = (K7 (aGs r n) 0 2 4 5 6 43 86) :=
 (by kernel_rfl : D20 r n yS (xs x0 3 (K2 (bH r n) 2 4)) (K2 (bH r n) 2 4) = (fun (env : bA) (h : Hp)=>aT (opr env (cC yS)) (D20 r n dDb (xs x0 3 (K2 (bH r n) 2 4)) (K2 (bH r n) 2 4) env h) (D20 r n aBa (xs x0 3 (K2 (bH r n) 2 4)) (K2 (bH r n) 2 4) env h))).trans (by rw [cMn r n]; kernel_rfl)
theorem cAp : D20 r n xS (xs x0 3 (K2 (bH r n) 2 4)) (K2 (bH r n) 2 4) = D20 r n bTw (xs x0 3 (K2 (bH r n) 2 4)) (K7 (aGs r n) 0 2 4 5 6 43 86) :=
 congrArg (fun k=>D20 r n bTw (xs x0 3 (K2 (bH r n) 2 4)) k) (cNu r n)
theorem cHw : D20 r n xS (xs x0 3 (K2 (bH r n) 2 4)) (K2 (bH r n) 2 4) = (K6 (aUg r n) 0 2 4 5 6 43) :=
 (cAp r n).trans
 ((by kernel_rfl))
theorem cCo : D20 r n yJ (xs x0 3 (K2 (bH r n) 2 4)) (K2 (bH r n) 2 4) = (K7 (aHj r n) 0 2 4 5 6 43 62) :=
 (by kernel_rfl : D20 r n yJ (xs x0 3 (K2 (bH r n) 2 4)) (K2 (bH r n) 2 4) = (fun (env : bA) (h : Hp)=>aT (opr env (cC yJ)) (D20 r n dAh (xs x0 3 (K2 (bH r n) 2 4)) (K2 (bH r n) 2 4) env h) (D20 r n xS (xs x0 3 (K2 (bH r n) 2 4)) (K2 (bH r n) 2 4) env h))).trans (by rw [cHw r n]; kernel_rfl)
theorem bZx : D20 r n xU (xs x0 3 (K2 (bH r n) 2 4)) (K2 (bH r n) 2 4) = D20 r n bXf (xs x0 3 (K2 (bH r n) 2 4)) (K7 (aHj r n) 0 2 4 5 6 43 62) :=
 congrArg (fun k=>D20 r n bXf (xs x0 3 (K2 (bH r n) 2 4)) k) (cCo r n)
theorem cOp : D20 r n xU (xs x0 3 (K2 (bH r n) 2 4)) (K2 (bH r n) 2 4) = (K6 (aSo r n) 0 2 4 5 6 43) :=
 (bZx r n).trans
 ((by kernel_rfl))
theorem cXo : D20 r n zO (xs x0 3 (K2 (bH r n) 2 4)) (K2 (bH r n) 2 4) = (K7 (bAp r n) 0 2 4 5 6 43 44) :=
 (by kernel_rfl : D20 r n zO (xs x0 3 (K2 (bH r n) 2 4)) (K2 (bH r n) 2 4) = (fun (env : bA) (h : Hp)=>aT (opr env (cC zO)) (D20 r n dCp (xs x0 3 (K2 (bH r n) 2 4)) (K2 (bH r n) 2 4) env h) (D20 r n xU (xs x0 3 (K2 (bH r n) 2 4)) (K2 (bH r n) 2 4) env h))).trans (by rw [cOp r n]; kernel_rfl)
theorem cGu : D20 r n aIx (xs x0 3 (K2 (bH r n) 2 4)) (K2 (bH r n) 2 4) = D20 r n bXx (xs x0 3 (K2 (bH r n) 2 4)) (K7 (bAp r n) 0 2 4 5 6 43 44) :=
 congrArg (fun k=>D20 r n bXx (xs x0 3 (K2 (bH r n) 2 4)) k) (cXo r n)
theorem dEi : D20 r n bLh x0 (K2 (bH r n) 2 4) = (K6 (aVv r n) 0 2 4 5 6 43) :=
 (by kernel_rfl : D20 r n bLh x0 (K2 (bH r n) 2 4) = D20 r n aIx (xs x0 3 (K2 (bH r n) 2 4)) (K2 (bH r n) 2 4)).trans
 ((cGu r n).trans
 ((by kernel_rfl)))
theorem cCl : D20 r n bAi x0 r20 = D20 r n aNv x0 (K2 (bH r n) 2 4) :=
 congrArg (fun k=>D20 r n aNv x0 k) (cXd r n)
theorem bTd : D20 r n aNv x0 (K2 (bH r n) 2 4) = D20 r n bIy x0 (K6 (aVv r n) 0 2 4 5 6 43) :=
 congrArg (fun k=>D20 r n bIy x0 k) (dEi r n)
theorem dBq : D20 r n bAi x0 r20 = (K5 (gC r n) 0 2 4 5 6) :=
 (cCl r n).trans
 ((bTd r n).trans
 ((by kernel_rfl)))
theorem bVa (kk21 : gU) : D20 r n qR (xs x0 1 (K5 (gC r n) 0 2 4 5 6)) (K6 kk21 0 2 4 5 6 7) = (K6 (pD r n kk21) 0 2 4 5 6 7) :=
 (by kernel_rfl)
theorem cBa (m : Nat) : aL (fun kk=>D20 r n qR (xs x0 1 (K5 (gC r n) 0 2 4 5 6)) kk) m = (K6 (nG r n m) 0 2 4 5 6 7):=by
 induction m with
 | zero=>exact (by kernel_rfl : aL (fun kk=>D20 r n qR (xs x0 1 (K5 (gC r n) 0 2 4 5 6)) kk) 0 = (K6 (nG r n 0) 0 2 4 5 6 7))
 | succ m ih =>
  refine (by kernel_rfl : aL (fun kk=>D20 r n qR (xs x0 1 (K5 (gC r n) 0 2 4 5 6)) kk) (m + 1) = D20 r n qR (xs x0 1 (K5 (gC r n) 0 2 4 5 6)) (aL (fun kk=>D20 r n qR (xs x0 1 (K5 (gC r n) 0 2 4 5 6)) kk) m)).trans ?_
  rw [ih]
  exact (bVa r n (nG r n m)).trans (by kernel_rfl)
theorem cGa : D20 r n aJs (xs x0 1 (K5 (gC r n) 0 2 4 5 6)) (K5 (gC r n) 0 2 4 5 6) = (K6 (aRl r n) 0 2 4 5 6 7) :=
 (by kernel_rfl : D20 r n aJs (xs x0 1 (K5 (gC r n) 0 2 4 5 6)) (K5 (gC r n) 0 2 4 5 6) = aL (fun kk=>D20 r n qR (xs x0 1 (K5 (gC r n) 0 2 4 5 6)) kk) n).trans ((cBa r n n).trans (by kernel_rfl))
theorem cIk : D20 r n aQq x0 (K5 (gC r n) 0 2 4 5 6) = (K6 (aIa r n) 0 2 4 5 6 7) :=
 (by kernel_rfl : D20 r n aQq x0 (K5 (gC r n) 0 2 4 5 6) = D20 r n aJs (xs x0 1 (K5 (gC r n) 0 2 4 5 6)) (K5 (gC r n) 0 2 4 5 6)).trans
 ((cGa r n).trans (by kernel_rfl))
theorem bVv : D20 r n bCz x0 r20 = D20 r n zL x0 (K5 (gC r n) 0 2 4 5 6) :=
 congrArg (fun k=>D20 r n zL x0 k) (dBq r n)
theorem bRt : D20 r n zL x0 (K5 (gC r n) 0 2 4 5 6) = D20 r n bWg x0 (K6 (aIa r n) 0 2 4 5 6 7) :=
 congrArg (fun k=>D20 r n bWg x0 k) (cIk r n)
theorem dCx : D20 r n bCz x0 r20 = (K5 (aWa r n) 0 2 4 5 6) :=
 (bVv r n).trans
 ((bRt r n).trans
 ((by kernel_rfl)))
theorem bOq : D20 r n bAl x0 r20 = D20 r n bPi x0 (K5 (aWa r n) 0 2 4 5 6) :=
 congrArg (fun k=>D20 r n bPi x0 k) (dCx r n)
theorem cVo : D20 r n bAl x0 r20 = (K4 (nI r n) 0 2 4 5) :=
 (bOq r n).trans
 ((by kernel_rfl))
theorem cGd : D20 r n dHb x0 (K4 (nI r n) 0 2 4 5) = (K2 (nC r n) 2 4) :=
 (by kernel_rfl)
theorem bIk : D20 r n aBp x0 (K4 (nI r n) 0 2 4 5) = D20 r n bPk x0 (K2 (nC r n) 2 4) :=
 congrArg (fun k=>D20 r n bPk x0 k) (cGd r n)
theorem cCp : D20 r n aBp x0 (K4 (nI r n) 0 2 4 5) = (K3 (aJo r n) 0 2 4) :=
 (bIk r n).trans
 ((by kernel_rfl))
theorem cId : D20 r n zN x0 (K4 (nI r n) 0 2 4 5) = (K5 (aHs r n) 0 2 4 5 12) :=
 (by kernel_rfl : D20 r n zN x0 (K4 (nI r n) 0 2 4 5) = (fun (env : bA) (h : Hp)=>aT (opr env (cC zN)) (D20 r n aBp x0 (K4 (nI r n) 0 2 4 5) env h) (D20 r n dBc x0 (K4 (nI r n) 0 2 4 5) env h))).trans (by rw [cCp r n]; kernel_rfl)
theorem bTs : D20 r n aWb x0 r20 = D20 r n zH x0 (K4 (nI r n) 0 2 4 5) :=
 congrArg (fun k=>D20 r n zH x0 k) (cVo r n)
theorem bRi : D20 r n zH x0 (K4 (nI r n) 0 2 4 5) = D20 r n bIo x0 (K5 (aHs r n) 0 2 4 5 12) :=
 congrArg (fun k=>D20 r n bIo x0 k) (cId r n)
theorem dAr : D20 r n aWb x0 r20 = (K4 (aOb r n) 0 2 4 5) :=
 (bTs r n).trans
 ((bRi r n).trans
 ((by kernel_rfl)))
theorem bRx : D20 r n bBw x0 r20 = D20 r n bQg x0 (K4 (aOb r n) 0 2 4 5) :=
 congrArg (fun k=>D20 r n bQg x0 k) (dAr r n)
theorem dGv : D20 r n bBw x0 r20 = (K3 (aDj r n) 0 2 4) :=
 (bRx r n).trans
 ((by kernel_rfl))
theorem bNa : D20 r n bAd x0 r20 = D20 r n aUc x0 (K3 (aDj r n) 0 2 4) :=
 congrArg (fun k=>D20 r n aUc x0 k) (dGv r n)
theorem bMk (q0 : dP) : D20 r n aUc x0 (K3 q0 0 2 4) = fun (env : bA) (h : Hp) =>
 bnd (bY [(.i .i64 (Int.ofNat 0)),(.s []),(.s []),.l0,(.s []),(.i .i64 (Int.ofNat 0))] h) fun v1 h1 =>
  q0 (env 0) (env 2) v1 h1:=by kernel_rfl
theorem bIl : (fun (env : bA) (h : Hp) =>
 bnd (bY [(.i .i64 (Int.ofNat 0)),(.s []),(.s []),.l0,(.s []),(.i .i64 (Int.ofNat 0))] h) fun v1 h1 =>
  aDj r n (env 0) (env 2) v1 h1) = (K2 (zE r n) 0 2):=by kernel_rfl
theorem cYs : D20 r n bAd x0 r20 = (K2 (zE r n) 0 2) :=
 (bNa r n).trans
 ((bMk r n (aDj r n)).trans (bIl r n))
theorem dBw : D20 r n c20 x0 r20 = D20 r n aQn x0 (K2 (zE r n) 0 2) :=
 congrArg (fun k=>D20 r n aQn x0 k) (cYs r n)
theorem cZc (q0 : TT2) : D20 r n aQn x0 (K2 q0 0 2) = fun (env : bA) (h : Hp) =>
 bnd (bY [(.i .i64 (Int.ofNat 0)),(.s []),(.s []),.l0,(.s []),(.i .i64 (Int.ofNat 0))] h) fun v1 h1 =>
  q0 (env 0) v1 h1:=by kernel_rfl
theorem cDy : (fun (env : bA) (h : Hp) =>
 bnd (bY [(.i .i64 (Int.ofNat 0)),(.s []),(.s []),.l0,(.s []),(.i .i64 (Int.ofNat 0))] h) fun v1 h1 =>
  zE r n (env 0) v1 h1) = (K1 (s20 r n) 0):=by kernel_rfl
theorem dWd : D20 r n c20 x0 r20 = (K1 (s20 r n) 0) :=
 (dBw r n).trans
 ((cZc r n (zE r n)).trans (cDy r n))
theorem cUe : aF CF r n 20 args h = s20 r n (aV args 0) h :=
 (by kernel_rfl : aF CF r n 20 args h = D20 r n c20 x0 r20 (aJ args) h).trans ((congrFun (congrFun (dWd r n) (aJ args)) h).trans (by kernel_rfl))
def gX (r : RT) (n : Nat) (h0 : Hp) : aH :=
 some ((.b true),h0)
def tJ (r : RT) (n : Nat) (kk5 : dP) (x2 x3 x5 : DV) (h0 : Hp) : aH :=
 bnd (aB 3 x2 h0) fun v1 h1 =>
 bnd (aA v1 h1) fun v2 h2 =>
 bnd (cB v2 h2) fun v3 h3 =>
 bnd (aD .lss x5 v3 h3) fun v4 h4 =>
 aT v4 (
 bnd (aB 3 x2 h4) fun v5 h5 =>
 bnd (aA v5 h5) fun v6 h6 =>
 bnd (aE 1 v6 x5 h6) fun v7 h7 =>
 bnd (aA v7 h7) fun v8 h8 =>
 bnd (aB 3 x3 h8) fun v9 h9 =>
 bnd (aA v9 h9) fun v10 h10 =>
 bnd (aE 1 v10 x5 h10) fun v11 h11 =>
 bnd (aA v11 h11) fun v12 h12 =>
 bnd (bI .neq v8 v12 h12) fun v13 h13 =>
 aT v13 (
 some ((.b false),h13)) (
 bnd (aD .add x5 (.i .i64 (Int.ofNat 1)) h13) fun v14 h14 =>
    kk5 x2 x3 v14 h14)) (
      gX r n h4)
def nQ (r : RT) (n : Nat) (m : Nat) : dP :=
 Nat.rec (motive:=fun _=>dP) (fun _ _ _ _=>none) (fun _ ih=>tJ r n ih) m
def cRz (r : RT) (n : Nat) : dP:=nQ r n n
def bQu (r : RT) (n : Nat) (x2 x3 x5 : DV) (h0 : Hp) : aH :=
 cRz r n x2 x3 x5 h0
def bNf (r : RT) (n : Nat) (x2 x3 : DV) (h0 : Hp) : aH :=
 bQu r n x2 x3 (.i .i64 (Int.ofNat 0)) h0
def aCu (r : RT) (n : Nat) (x2 x3 : DV) (h0 : Hp) : aH :=
 bnd (aB 0 x2 h0) fun v1 h1 =>
 bnd (aA v1 h1) fun v2 h2 =>
 bnd (aB 0 x3 h2) fun v3 h3 =>
 bnd (aA v3 h3) fun v4 h4 =>
 bnd (aD .neq v2 v4 h4) fun v5 h5 =>
 bnd (gD v5 false (aB 1 x2 h5) h5) fun v6 h6 =>
 bnd (gD v5 false (aA v6 h6) h6) fun v7 h7 =>
 bnd (gD v5 false (aB 1 x3 h7) h7) fun v8 h8 =>
 bnd (gD v5 false (aA v8 h8) h8) fun v9 h9 =>
 bnd (gD v5 false (bI .neq v7 v9 h9) h9) fun v10 h10 =>
 bnd (aP v5 (.b true) v10 h10) fun v11 h11 =>
 bnd (gD v11 false (aB 2 x2 h11) h11) fun v12 h12 =>
 bnd (gD v11 false (aA v12 h12) h12) fun v13 h13 =>
 bnd (gD v11 false (aB 2 x3 h13) h13) fun v14 h14 =>
 bnd (gD v11 false (aA v14 h14) h14) fun v15 h15 =>
 bnd (gD v11 false (bI .neq v13 v15 h15) h15) fun v16 h16 =>
 bnd (aP v11 (.b true) v16 h16) fun v17 h17 =>
 bnd (gD v17 false (aB 4 x2 h17) h17) fun v18 h18 =>
 bnd (gD v17 false (aA v18 h18) h18) fun v19 h19 =>
 bnd (gD v17 false (aB 4 x3 h19) h19) fun v20 h20 =>
 bnd (gD v17 false (aA v20 h20) h20) fun v21 h21 =>
 bnd (gD v17 false (bI .neq v19 v21 h21) h21) fun v22 h22 =>
 bnd (aP v17 (.b true) v22 h22) fun v23 h23 =>
 bnd (gD v23 false (aB 5 x2 h23) h23) fun v24 h24 =>
 bnd (gD v23 false (aA v24 h24) h24) fun v25 h25 =>
 bnd (gD v23 false (aB 5 x3 h25) h25) fun v26 h26 =>
 bnd (gD v23 false (aA v26 h26) h26) fun v27 h27 =>
 bnd (gD v23 false (aD .neq v25 v27 h27) h27) fun v28 h28 =>
 bnd (aP v23 (.b true) v28 h28) fun v29 h29 =>
 bnd (gD v29 false (aB 3 x2 h29) h29) fun v30 h30 =>
 bnd (gD v29 false (aA v30 h30) h30) fun v31 h31 =>
 bnd (gD v29 false (cB v31 h31) h31) fun v32 h32 =>
 bnd (gD v29 false (aB 3 x3 h32) h32) fun v33 h33 =>
 bnd (gD v29 false (aA v33 h33) h33) fun v34 h34 =>
 bnd (gD v29 false (cB v34 h34) h34) fun v35 h35 =>
 bnd (gD v29 false (aD .neq v32 v35 h35) h35) fun v36 h36 =>
 bnd (aP v29 (.b true) v36 h36) fun v37 h37 =>
 aT v37 (
 some ((.b false),h37)) (
  bNf r n x2 x3 h37)
def s21 (r : RT) (n : Nat) (x0 x1 : DV) (h0 : Hp) : aH :=
 bnd (dA x0 h0) fun v1 h1 =>
 bnd (dA x1 h1) fun v2 h2 =>
  aCu r n v1 v2 h2
abbrev c21 : Code:=cf Tryz.f21
abbrev bAh : Code:=cR c21
abbrev aVn : Code:=cR bAh
abbrev dNw : Code:=cR aVn
abbrev aNy : Code:=cL aVn
abbrev bQl : Code:=cR aNy
abbrev aYr : Code:=cL bQl
abbrev aBd : Code:=cL aYr
abbrev cRh : Code:=cL aNy
abbrev cUi : Code:=cL bAh
abbrev aRz : Code:=cL c21
abbrev r21 : K:=aR CF Tryz.f21
def D21 (r : RT) (n : Nat) (c : Code) (X : Nat → K) (k : K) : K:=aM CF r 66 n c X r21 k
theorem dDu : D21 r n dNw x0 r21 = (K0 (gX r n)) :=
 (by kernel_rfl)
theorem cEb (kk5 : dP) : D21 r n aBd (xs x0 0 (K0 (gX r n))) (K3 kk5 2 3 5) = (K3 (tJ r n kk5) 2 3 5) :=
 (by kernel_rfl)
theorem cPg (m : Nat) : aL (fun kk=>D21 r n aBd (xs x0 0 (K0 (gX r n))) kk) m = (K3 (nQ r n m) 2 3 5):=by
 induction m with
 | zero=>exact (by kernel_rfl : aL (fun kk=>D21 r n aBd (xs x0 0 (K0 (gX r n))) kk) 0 = (K3 (nQ r n 0) 2 3 5))
 | succ m ih =>
  refine (by kernel_rfl : aL (fun kk=>D21 r n aBd (xs x0 0 (K0 (gX r n))) kk) (m + 1) = D21 r n aBd (xs x0 0 (K0 (gX r n))) (aL (fun kk=>D21 r n aBd (xs x0 0 (K0 (gX r n))) kk) m)).trans ?_
  rw [ih]
  exact (cEb r n (nQ r n m)).trans (by kernel_rfl)
theorem cZd : D21 r n aYr (xs x0 0 (K0 (gX r n))) (K0 (gX r n)) = (K3 (cRz r n) 2 3 5) :=
 (by kernel_rfl : D21 r n aYr (xs x0 0 (K0 (gX r n))) (K0 (gX r n)) = aL (fun kk=>D21 r n aBd (xs x0 0 (K0 (gX r n))) kk) n).trans ((cPg r n n).trans (by kernel_rfl))
theorem cZk : D21 r n bQl x0 (K0 (gX r n)) = (K3 (bQu r n) 2 3 5) :=
 (by kernel_rfl : D21 r n bQl x0 (K0 (gX r n)) = D21 r n aYr (xs x0 0 (K0 (gX r n))) (K0 (gX r n))).trans
 ((cZd r n).trans (by kernel_rfl))
theorem cEh : D21 r n aVn x0 r21 = D21 r n aNy x0 (K0 (gX r n)) :=
 congrArg (fun k=>D21 r n aNy x0 k) (dDu r n)
theorem cBr : D21 r n aNy x0 (K0 (gX r n)) = D21 r n cRh x0 (K3 (bQu r n) 2 3 5) :=
 congrArg (fun k=>D21 r n cRh x0 k) (cZk r n)
theorem dFa : D21 r n aVn x0 r21 = (K2 (bNf r n) 2 3) :=
 (cEh r n).trans
 ((cBr r n).trans
 ((by kernel_rfl)))
theorem cIh : D21 r n bAh x0 r21 = D21 r n cUi x0 (K2 (bNf r n) 2 3) :=
 congrArg (fun k=>D21 r n cUi x0 k) (dFa r n)
theorem dEe : D21 r n bAh x0 r21 = (K2 (aCu r n) 2 3) :=
 (cIh r n).trans
 ((by kernel_rfl))
theorem dNh : D21 r n c21 x0 r21 = D21 r n aRz x0 (K2 (aCu r n) 2 3) :=
 congrArg (fun k=>D21 r n aRz x0 k) (dEe r n)
theorem dMb (q0 : TT2) : D21 r n aRz x0 (K2 q0 2 3) = fun (env : bA) (h : Hp) =>
 bnd (dA (env 0) h) fun v1 h1 =>
 bnd (dA (env 1) h1) fun v2 h2 =>
  q0 v1 v2 h2:=by kernel_rfl
theorem dCc : (fun (env : bA) (h : Hp) =>
 bnd (dA (env 0) h) fun v1 h1 =>
 bnd (dA (env 1) h1) fun v2 h2 =>
  aCu r n v1 v2 h2) = (K2 (s21 r n) 0 1):=by kernel_rfl
theorem dUk : D21 r n c21 x0 r21 = (K2 (s21 r n) 0 1) :=
 (dNh r n).trans
 ((dMb r n (aCu r n)).trans (dCc r n))
theorem cSz : aF CF r n 21 args h = s21 r n (aV args 0) (aV args 1) h :=
 (by kernel_rfl : aF CF r n 21 args h = D21 r n c21 x0 r21 (aJ args) h).trans ((congrFun (congrFun (dUk r n) (aJ args)) h).trans (by kernel_rfl))
end Go.Dd

namespace Go.Dd
open Go.Proofs
variable (r : RT) (n : Nat) (args : List DV) (h : Hp)
def gH (r : RT) (n : Nat) (x11 : DV) (h0 : Hp) : aH :=
 some (.t [x11,(.i .i64 (Int.ofNat 0)),(.i .i64 (Int.ofNat 0))],h0)
def aTl (r : RT) (n : Nat) (kk9 : dJ) (x10 x11 x32 x33 x34 : DV) (h0 : Hp) : aH :=
 bnd (aD .lss x34 x33 h0) fun v1 h1 =>
 aT v1 (
 bnd (aE 6 x32 x34 h1) fun v2 h2 =>
 bnd (aK 6 v2 h2) fun v3 h3 =>
 bnd (bY [(.i .i64 (Int.ofNat 0)),(.s []),(.s []),.l0,(.s []),(.i .i64 (Int.ofNat 0))] h3) fun v4 h4 =>
 bnd (aG 6 v4 v3 h4) fun _ h5 =>
 bnd (aK 6 v4 h5) fun v6 h6 =>
 bnd (r 37 [x10,v6] h6) fun v7 h7 =>
 bnd (r 12 [v7] h7) fun v8 h8 =>
 bnd (bI .add x11 v8 h8) fun v9 h9 =>
 bnd (aD .add x34 (.i .i64 (Int.ofNat 1)) h9) fun v10 h10 =>
      kk9 x10 v9 x32 x33 v10 h10) (
      gH r n x11 h1)
def aFq (r : RT) (n : Nat) (m : Nat) : dJ :=
 Nat.rec (motive:=fun _=>dJ) (fun _ _ _ _ _ _=>none) (fun _ ih=>aTl r n ih) m
def cRx (r : RT) (n : Nat) : dJ:=aFq r n n
def bMd (r : RT) (n : Nat) (x10 x11 x32 x33 x34 : DV) (h0 : Hp) : aH :=
 cRx r n x10 x11 x32 x33 x34 h0
def bOm (r : RT) (n : Nat) (x7 x10 x11 : DV) (h0 : Hp) : aH :=
 bnd (cB x7 h0) fun v1 h1 =>
  bMd r n x10 x11 x7 v1 (.i .i64 (Int.ofNat 0)) h1
def bPt (r : RT) (n : Nat) (x7 x10 : DV) (h0 : Hp) : aH :=
 bOm r n x7 x10 (.s []) h0
def bSm (r : RT) (n : Nat) (x7 x9 x10 : DV) (h0 : Hp) : aH :=
 bnd (aD .neq x9 (.i .i64 (Int.ofNat 0)) h0) fun v1 h1 =>
 aT v1 (
 some (.t [(.s []),(.i .i64 (Int.ofNat 0)),x9],h1)) (
  bPt r n x7 x10 h1)
def bQb (r : RT) (n : Nat) (x0 x7 : DV) (h0 : Hp) : aH :=
 bnd (r 36 [x0] h0) fun v1 h1 =>
 bnd (aC 0 v1 h1) fun v2 h2 =>
 bnd (aC 1 v1 h2) fun v3 h3 =>
  bSm r n x7 v3 v2 h3
def bMo (r : RT) (n : Nat) (x0 x7 x8 x9 : DV) (h0 : Hp) : aH :=
 bnd (aD .neq x9 (.i .i64 (Int.ofNat 0)) h0) fun v1 h1 =>
 aT v1 (
 some (.t [(.s []),x8,x9],h1)) (
  bQb r n x0 x7 h1)
def cAz (r : RT) (n : Nat) (x0 x1 : DV) (h0 : Hp) : aH :=
 bnd (r 8 [x1] h0) fun v1 h1 =>
 bnd (aC 0 v1 h1) fun v2 h2 =>
 bnd (aC 1 v1 h2) fun v3 h3 =>
 bnd (aC 2 v1 h3) fun v4 h4 =>
  bMo r n x0 v2 v3 v4 h4
def s22 (r : RT) (n : Nat) (x0 x1 : DV) (h0 : Hp) : aH :=
 cAz r n x0 x1 h0
abbrev c22 : Code:=cf Tryz.f22
abbrev bDe : Code:=cR c22
abbrev bCg : Code:=cR bDe
abbrev aWg : Code:=cR bCg
abbrev bEd : Code:=cR aWg
abbrev bBx : Code:=cR bEd
abbrev aXk : Code:=cR bBx
abbrev dKi : Code:=cR aXk
abbrev aOc : Code:=cL aXk
abbrev bOn : Code:=cR aOc
abbrev aHz : Code:=cL bOn
abbrev oC : Code:=cL aHz
abbrev bTp : Code:=cL aOc
abbrev bZf : Code:=cL bBx
abbrev bWa : Code:=cL bEd
abbrev bSe : Code:=cL aWg
abbrev bSb : Code:=cL bCg
abbrev bRr : Code:=cL bDe
abbrev bYr : Code:=cL c22
abbrev r22 : K:=aR CF Tryz.f22
def D22 (r : RT) (n : Nat) (c : Code) (X : Nat → K) (k : K) : K:=aM CF r 46 n c X r22 k
theorem dFh : D22 r n dKi x0 r22 = (K1 (gH r n) 11) :=
 (by kernel_rfl)
theorem cNt (kk9 : dJ) (q0 : TT1) : D22 r n oC (xs x0 0 (K1 q0 11)) (K5 kk9 10 11 32 33 34) = fun (env : bA) (h : Hp) =>
 bnd (aD .lss (env 34) (env 33) h) fun v1 h1 =>
 aT v1 (
 bnd (aE 6 (env 32) (env 34) h1) fun v2 h2 =>
 bnd (aK 6 v2 h2) fun v3 h3 =>
 bnd (bY [(.i .i64 (Int.ofNat 0)),(.s []),(.s []),.l0,(.s []),(.i .i64 (Int.ofNat 0))] h3) fun v4 h4 =>
 bnd (aG 6 v4 v3 h4) fun _ h5 =>
 bnd (aK 6 v4 h5) fun v6 h6 =>
 bnd (r 37 [(env 10),v6] h6) fun v7 h7 =>
 bnd (r 12 [v7] h7) fun v8 h8 =>
 bnd (bI .add (env 11) v8 h8) fun v9 h9 =>
 bnd (aD .add (env 34) (.i .i64 (Int.ofNat 1)) h9) fun v10 h10 =>
      kk9 (env 10) v9 (env 32) (env 33) v10 h10) (
      q0 (env 11) h1):=by kernel_rfl
theorem cAa (kk9 : dJ) : (fun (env : bA) (h : Hp) =>
 bnd (aD .lss (env 34) (env 33) h) fun v1 h1 =>
 aT v1 (
 bnd (aE 6 (env 32) (env 34) h1) fun v2 h2 =>
 bnd (aK 6 v2 h2) fun v3 h3 =>
 bnd (bY [(.i .i64 (Int.ofNat 0)),(.s []),(.s []),.l0,(.s []),(.i .i64 (Int.ofNat 0))] h3) fun v4 h4 =>
 bnd (aG 6 v4 v3 h4) fun _ h5 =>
 bnd (aK 6 v4 h5) fun v6 h6 =>
 bnd (r 37 [(env 10),v6] h6) fun v7 h7 =>
 bnd (r 12 [v7] h7) fun v8 h8 =>
 bnd (bI .add (env 11) v8 h8) fun v9 h9 =>
 bnd (aD .add (env 34) (.i .i64 (Int.ofNat 1)) h9) fun v10 h10 =>
      kk9 (env 10) v9 (env 32) (env 33) v10 h10) (
      gH r n (env 11) h1)) = (K5 (aTl r n kk9) 10 11 32 33 34):=by kernel_rfl
theorem cOr (kk9 : dJ) : D22 r n oC (xs x0 0 (K1 (gH r n) 11)) (K5 kk9 10 11 32 33 34) = (K5 (aTl r n kk9) 10 11 32 33 34) :=
 (cNt r n kk9 (gH r n)).trans (cAa r n kk9)
theorem cPl (m : Nat) : aL (fun kk=>D22 r n oC (xs x0 0 (K1 (gH r n) 11)) kk) m = (K5 (aFq r n m) 10 11 32 33 34):=by
 induction m with
 | zero=>exact (by kernel_rfl : aL (fun kk=>D22 r n oC (xs x0 0 (K1 (gH r n) 11)) kk) 0 = (K5 (aFq r n 0) 10 11 32 33 34))
 | succ m ih =>
  refine (by kernel_rfl : aL (fun kk=>D22 r n oC (xs x0 0 (K1 (gH r n) 11)) kk) (m + 1) = D22 r n oC (xs x0 0 (K1 (gH r n) 11)) (aL (fun kk=>D22 r n oC (xs x0 0 (K1 (gH r n) 11)) kk) m)).trans ?_
  rw [ih]
  exact (cOr r n (aFq r n m)).trans (by kernel_rfl)
theorem dFf : D22 r n aHz (xs x0 0 (K1 (gH r n) 11)) (K1 (gH r n) 11) = (K5 (cRx r n) 10 11 32 33 34) :=
 (by kernel_rfl : D22 r n aHz (xs x0 0 (K1 (gH r n) 11)) (K1 (gH r n) 11) = aL (fun kk=>D22 r n oC (xs x0 0 (K1 (gH r n) 11)) kk) n).trans ((cPl r n n).trans (by kernel_rfl))
theorem dAu : D22 r n bOn x0 (K1 (gH r n) 11) = (K5 (bMd r n) 10 11 32 33 34) :=
 (by kernel_rfl : D22 r n bOn x0 (K1 (gH r n) 11) = D22 r n aHz (xs x0 0 (K1 (gH r n) 11)) (K1 (gH r n) 11)).trans
 ((dFf r n).trans (by kernel_rfl))
theorem cFb : D22 r n aXk x0 r22 = D22 r n aOc x0 (K1 (gH r n) 11) :=
 congrArg (fun k=>D22 r n aOc x0 k) (dFh r n)
theorem cJd : D22 r n aOc x0 (K1 (gH r n) 11) = D22 r n bTp x0 (K5 (bMd r n) 10 11 32 33 34) :=
 congrArg (fun k=>D22 r n bTp x0 k) (dAu r n)
theorem dDp : D22 r n aXk x0 r22 = (K3 (bOm r n) 7 10 11) :=
 (cFb r n).trans
 ((cJd r n).trans
 ((by kernel_rfl)))
theorem cFp : D22 r n bBx x0 r22 = D22 r n bZf x0 (K3 (bOm r n) 7 10 11) :=
 congrArg (fun k=>D22 r n bZf x0 k) (dDp r n)
theorem dEm : D22 r n bBx x0 r22 = (K2 (bPt r n) 7 10) :=
 (cFp r n).trans
 ((by kernel_rfl))
theorem cPr : D22 r n bEd x0 r22 = D22 r n bWa x0 (K2 (bPt r n) 7 10) :=
 congrArg (fun k=>D22 r n bWa x0 k) (dEm r n)
theorem dAp : D22 r n bEd x0 r22 = (K3 (bSm r n) 7 9 10) :=
 (cPr r n).trans
 ((by kernel_rfl))
theorem cFl : D22 r n aWg x0 r22 = D22 r n bSe x0 (K3 (bSm r n) 7 9 10) :=
 congrArg (fun k=>D22 r n bSe x0 k) (dAp r n)
theorem dDk : D22 r n aWg x0 r22 = (K2 (bQb r n) 0 7) :=
 (cFl r n).trans
 ((by kernel_rfl))
theorem cHn : D22 r n bCg x0 r22 = D22 r n bSb x0 (K2 (bQb r n) 0 7) :=
 congrArg (fun k=>D22 r n bSb x0 k) (dDk r n)
theorem cXm : D22 r n bCg x0 r22 = (K4 (bMo r n) 0 7 8 9) :=
 (cHn r n).trans
 ((by kernel_rfl))
theorem cDj : D22 r n bDe x0 r22 = D22 r n bRr x0 (K4 (bMo r n) 0 7 8 9) :=
 congrArg (fun k=>D22 r n bRr x0 k) (cXm r n)
theorem dFb : D22 r n bDe x0 r22 = (K2 (cAz r n) 0 1) :=
 (cDj r n).trans
 ((by kernel_rfl))
theorem dNd : D22 r n c22 x0 r22 = D22 r n bYr x0 (K2 (cAz r n) 0 1) :=
 congrArg (fun k=>D22 r n bYr x0 k) (dFb r n)
theorem dUq : D22 r n c22 x0 r22 = (K2 (s22 r n) 0 1) :=
 (dNd r n).trans
 ((by kernel_rfl))
theorem cRy : aF CF r n 22 args h = s22 r n (aV args 0) (aV args 1) h :=
 (by kernel_rfl : aF CF r n 22 args h = D22 r n c22 x0 r22 (aJ args) h).trans ((congrFun (congrFun (dUq r n) (aJ args)) h).trans (by kernel_rfl))
def gW (r : RT) (n : Nat) (x3 : DV) (h0 : Hp) : aH :=
 bnd (bI .add (.s [45]) x3 h0) fun v1 h1 =>
 some (v1,h1)
def qL (r : RT) (n : Nat) (kk6 : TT2) (x0 x3 : DV) (h0 : Hp) : aH :=
 bnd (aD .lss x0 (.i .i64 (Int.ofNat 0)) h0) fun v1 h1 =>
 aT v1 (
 bnd (aD .rem x0 (.i .i64 (Int.ofNat 10)) h1) fun v2 h2 =>
 bnd (aD .sub (.i .i64 (Int.ofNat 48)) v2 h2) fun v3 h3 =>
 bnd (dV .u8 v3 h3) fun v4 h4 =>
 bnd (aO [(.i .u8 (Int.ofNat 0))] 1 [(0,1,v4)] h4) fun v5 h5 =>
 bnd (eZ v5 h5) fun v6 h6 =>
 bnd (bI .add v6 x3 h6) fun v7 h7 =>
 bnd (aD .quo x0 (.i .i64 (Int.ofNat 10)) h7) fun v8 h8 =>
      kk6 v8 v7 h8) (
      gW r n x3 h1)
def mY (r : RT) (n : Nat) (m : Nat) : TT2 :=
 Nat.rec (motive:=fun _=>TT2) (fun _ _ _=>none) (fun _ ih=>qL r n ih) m
def bVl (r : RT) (n : Nat) : TT2:=mY r n n
def aWo (r : RT) (n : Nat) (x0 x3 : DV) (h0 : Hp) : aH :=
 bVl r n x0 x3 h0
def aXp (r : RT) (n : Nat) (x0 : DV) (h0 : Hp) : aH :=
 aWo r n x0 (.s []) h0
def aBz (r : RT) (n : Nat) (x0 : DV) (h0 : Hp) : aH :=
 bnd (aD .gtr x0 (.i .i64 (Int.ofNat 0)) h0) fun v1 h1 =>
 aT v1 (
 bnd (aD .quo x0 (.i .i64 (Int.ofNat 10)) h1) fun v2 h2 =>
 bnd (r 26 [v2] h2) fun v3 h3 =>
 bnd (aD .rem x0 (.i .i64 (Int.ofNat 10)) h3) fun v4 h4 =>
 bnd (r 26 [v4] h4) fun v5 h5 =>
 bnd (bI .add v3 v5 h5) fun v6 h6 =>
 some (v6,h6)) (
  aXp r n x0 h1)
def yD (r : RT) (n : Nat) (x0 : DV) (h0 : Hp) : aH :=
 bnd (aD .geq x0 (.i .i64 (Int.ofNat 0)) h0) fun v1 h1 =>
 bnd (gD v1 true (some (x0,h1)) h1) fun v2 h2 =>
 bnd (gD v1 true (aD .lss v2 (.i .i64 (Int.ofNat 10)) h2) h2) fun v3 h3 =>
 bnd (aP v1 v3 (.b false) h3) fun v4 h4 =>
 aT v4 (
 bnd (aD .add (.i .i64 (Int.ofNat 48)) x0 h4) fun v5 h5 =>
 bnd (dV .u8 v5 h5) fun v6 h6 =>
 bnd (aO [(.i .u8 (Int.ofNat 0))] 1 [(0,1,v6)] h6) fun v7 h7 =>
 bnd (eZ v7 h7) fun v8 h8 =>
 some (v8,h8)) (
  aBz r n x0 h4)
def s26 (r : RT) (n : Nat) (x0 : DV) (h0 : Hp) : aH :=
 yD r n x0 h0
abbrev c26 : Code:=cf Tryz.f26
abbrev aVy : Code:=cR c26
abbrev aXb : Code:=cR aVy
abbrev bDr : Code:=cR aXb
abbrev aZm : Code:=cR bDr
abbrev dOg : Code:=cR aZm
abbrev bCn : Code:=cL aZm
abbrev aZj : Code:=cL bCn
abbrev vB : Code:=cL aZj
abbrev cSu : Code:=cL bDr
abbrev bJc : Code:=cL aXb
abbrev aRq : Code:=cL aVy
abbrev bQh : Code:=cL c26
abbrev r26 : K:=aR CF Tryz.f26
def D26 (r : RT) (n : Nat) (c : Code) (X : Nat → K) (k : K) : K:=aM CF r 38 n c X r26 k
theorem dEb : D26 r n dOg x0 r26 = (K1 (gW r n) 3) :=
 (by kernel_rfl)
theorem cKt (kk6 : TT2) (q0 : TT1) : D26 r n vB (xs x0 0 (K1 q0 3)) (K2 kk6 0 3) = fun (env : bA) (h : Hp) =>
 bnd (aD .lss (env 0) (.i .i64 (Int.ofNat 0)) h) fun v1 h1 =>
 aT v1 (
 bnd (aD .rem (env 0) (.i .i64 (Int.ofNat 10)) h1) fun v2 h2 =>
 bnd (aD .sub (.i .i64 (Int.ofNat 48)) v2 h2) fun v3 h3 =>
 bnd (dV .u8 v3 h3) fun v4 h4 =>
 bnd (aO [(.i .u8 (Int.ofNat 0))] 1 [(0,1,v4)] h4) fun v5 h5 =>
 bnd (eZ v5 h5) fun v6 h6 =>
 bnd (bI .add v6 (env 3) h6) fun v7 h7 =>
 bnd (aD .quo (env 0) (.i .i64 (Int.ofNat 10)) h7) fun v8 h8 =>
      kk6 v8 v7 h8) (
      q0 (env 3) h1):=by kernel_rfl
theorem bWl (kk6 : TT2) : (fun (env : bA) (h : Hp) =>
 bnd (aD .lss (env 0) (.i .i64 (Int.ofNat 0)) h) fun v1 h1 =>
 aT v1 (
 bnd (aD .rem (env 0) (.i .i64 (Int.ofNat 10)) h1) fun v2 h2 =>
 bnd (aD .sub (.i .i64 (Int.ofNat 48)) v2 h2) fun v3 h3 =>
 bnd (dV .u8 v3 h3) fun v4 h4 =>
 bnd (aO [(.i .u8 (Int.ofNat 0))] 1 [(0,1,v4)] h4) fun v5 h5 =>
 bnd (eZ v5 h5) fun v6 h6 =>
 bnd (bI .add v6 (env 3) h6) fun v7 h7 =>
 bnd (aD .quo (env 0) (.i .i64 (Int.ofNat 10)) h7) fun v8 h8 =>
      kk6 v8 v7 h8) (
      gW r n (env 3) h1)) = (K2 (qL r n kk6) 0 3):=by kernel_rfl
theorem cKx (kk6 : TT2) : D26 r n vB (xs x0 0 (K1 (gW r n) 3)) (K2 kk6 0 3) = (K2 (qL r n kk6) 0 3) :=
 (cKt r n kk6 (gW r n)).trans (bWl r n kk6)
theorem cFy (m : Nat) : aL (fun kk=>D26 r n vB (xs x0 0 (K1 (gW r n) 3)) kk) m = (K2 (mY r n m) 0 3):=by
 induction m with
 | zero=>exact (by kernel_rfl : aL (fun kk=>D26 r n vB (xs x0 0 (K1 (gW r n) 3)) kk) 0 = (K2 (mY r n 0) 0 3))
 | succ m ih =>
  refine (by kernel_rfl : aL (fun kk=>D26 r n vB (xs x0 0 (K1 (gW r n) 3)) kk) (m + 1) = D26 r n vB (xs x0 0 (K1 (gW r n) 3)) (aL (fun kk=>D26 r n vB (xs x0 0 (K1 (gW r n) 3)) kk) m)).trans ?_
  rw [ih]
  exact (cKx r n (mY r n m)).trans (by kernel_rfl)
theorem dDh : D26 r n aZj (xs x0 0 (K1 (gW r n) 3)) (K1 (gW r n) 3) = (K2 (bVl r n) 0 3) :=
 (by kernel_rfl : D26 r n aZj (xs x0 0 (K1 (gW r n) 3)) (K1 (gW r n) 3) = aL (fun kk=>D26 r n vB (xs x0 0 (K1 (gW r n) 3)) kk) n).trans ((cFy r n n).trans (by kernel_rfl))
theorem cKo : D26 r n aZm x0 r26 = D26 r n bCn x0 (K1 (gW r n) 3) :=
 congrArg (fun k=>D26 r n bCn x0 k) (dEb r n)
theorem dFv : D26 r n aZm x0 r26 = (K2 (aWo r n) 0 3) :=
 (cKo r n).trans
 ((by kernel_rfl : D26 r n bCn x0 (K1 (gW r n) 3) = D26 r n aZj (xs x0 0 (K1 (gW r n) 3)) (K1 (gW r n) 3)).trans
 ((dDh r n).trans (by kernel_rfl)))
theorem cPb : D26 r n bDr x0 r26 = D26 r n cSu x0 (K2 (aWo r n) 0 3) :=
 congrArg (fun k=>D26 r n cSu x0 k) (dFv r n)
theorem dGk : D26 r n bDr x0 r26 = (K1 (aXp r n) 0) :=
 (cPb r n).trans
 ((by kernel_rfl))
theorem cPi : D26 r n aXb x0 r26 = D26 r n bJc x0 (K1 (aXp r n) 0) :=
 congrArg (fun k=>D26 r n bJc x0 k) (dGk r n)
theorem cZh : D26 r n aXb x0 r26 = (K1 (aBz r n) 0) :=
 (cPi r n).trans
 ((by kernel_rfl))
theorem cKk : D26 r n aVy x0 r26 = D26 r n aRq x0 (K1 (aBz r n) 0) :=
 congrArg (fun k=>D26 r n aRq x0 k) (cZh r n)
theorem cPh (q0 : TT1) : D26 r n aRq x0 (K1 q0 0) = fun (env : bA) (h : Hp) =>
 bnd (aD .geq (env 0) (.i .i64 (Int.ofNat 0)) h) fun v1 h1 =>
 bnd (gD v1 true (some ((env 0),h1)) h1) fun v2 h2 =>
 bnd (gD v1 true (aD .lss v2 (.i .i64 (Int.ofNat 10)) h2) h2) fun v3 h3 =>
 bnd (aP v1 v3 (.b false) h3) fun v4 h4 =>
 aT v4 (
 bnd (aD .add (.i .i64 (Int.ofNat 48)) (env 0) h4) fun v5 h5 =>
 bnd (dV .u8 v5 h5) fun v6 h6 =>
 bnd (aO [(.i .u8 (Int.ofNat 0))] 1 [(0,1,v6)] h6) fun v7 h7 =>
 bnd (eZ v7 h7) fun v8 h8 =>
 some (v8,h8)) (
   q0 (env 0) h4):=by kernel_rfl
theorem bPz : (fun (env : bA) (h : Hp) =>
 bnd (aD .geq (env 0) (.i .i64 (Int.ofNat 0)) h) fun v1 h1 =>
 bnd (gD v1 true (some ((env 0),h1)) h1) fun v2 h2 =>
 bnd (gD v1 true (aD .lss v2 (.i .i64 (Int.ofNat 10)) h2) h2) fun v3 h3 =>
 bnd (aP v1 v3 (.b false) h3) fun v4 h4 =>
 aT v4 (
 bnd (aD .add (.i .i64 (Int.ofNat 48)) (env 0) h4) fun v5 h5 =>
 bnd (dV .u8 v5 h5) fun v6 h6 =>
 bnd (aO [(.i .u8 (Int.ofNat 0))] 1 [(0,1,v6)] h6) fun v7 h7 =>
 bnd (eZ v7 h7) fun v8 h8 =>
 some (v8,h8)) (
   aBz r n (env 0) h4)) = (K1 (yD r n) 0):=by kernel_rfl
theorem dGe : D26 r n aVy x0 r26 = (K1 (yD r n) 0) :=
 (cKk r n).trans
 ((cPh r n (aBz r n)).trans (bPz r n))
theorem dQm : D26 r n c26 x0 r26 = D26 r n bQh x0 (K1 (yD r n) 0) :=
 congrArg (fun k=>D26 r n bQh x0 k) (dGe r n)
theorem dRq : D26 r n c26 x0 r26 = (K1 (s26 r n) 0) :=
 (dQm r n).trans
 ((by kernel_rfl))
theorem cRm : aF CF r n 26 args h = s26 r n (aV args 0) h :=
 (by kernel_rfl : aF CF r n 26 args h = D26 r n c26 x0 r26 (aJ args) h).trans ((congrFun (congrFun (dRq r n) (aJ args)) h).trans (by kernel_rfl))
def dO (r : RT) (n : Nat) (x3 : DV) (h0 : Hp) : aH :=
 bnd (bI .add x3 (.s [34]) h0) fun v1 h1 =>
 some (v1,h1)
def iJ (r : RT) (n : Nat) (kk5 : dP) (x0 x3 x4 : DV) (h0 : Hp) : aH :=
 bnd (aD .add x4 (aN 1) h0) fun v1 h1 =>
  kk5 x0 x3 v1 h1
def aWm (r : RT) (n : Nat) (kk5 : dP) (x0 x3 x4 : DV) (h0 : Hp) : aH :=
 bnd (aD .add x4 (aN 1) h0) fun v1 h1 =>
 bnd (cK x0 (some x4) (some v1) h1) fun v2 h2 =>
 bnd (bI .add x3 v2 h2) fun v3 h3 =>
  iJ r n kk5 x0 v3 x4 h3
def bZe (r : RT) (n : Nat) (kk5 : dP) (x0 x3 x4 : DV) (h0 : Hp) : aH :=
 bnd (bX x0 x4 h0) fun v1 h1 =>
 bnd (aD .eql v1 (.i .u8 (Int.ofNat 34)) h1) fun v2 h2 =>
 bnd (gD v2 false (some (x0,h2)) h2) fun v3 h3 =>
 bnd (gD v2 false (some (x4,h3)) h3) fun v4 h4 =>
 bnd (gD v2 false (bX v3 v4 h4) h4) fun v5 h5 =>
 bnd (gD v2 false (aD .eql v5 (.i .u8 (Int.ofNat 92)) h5) h5) fun v6 h6 =>
 bnd (aP v2 (.b true) v6 h6) fun v7 h7 =>
 aT v7 (
 bnd (bI .add x3 (.s [92]) h7) fun v8 h8 =>
  aWm r n kk5 x0 v8 x4 h8) (
  aWm r n kk5 x0 x3 x4 h7)
def bWr (r : RT) (n : Nat) (kk5 : dP) (x0 x3 x4 : DV) (h0 : Hp) : aH :=
 bnd (bX x0 x4 h0) fun v1 h1 =>
 bnd (aD .eql v1 (.i .u8 (Int.ofNat 10)) h1) fun v2 h2 =>
 aT v2 (
 bnd (bI .add x3 (.s [92,110]) h2) fun v3 h3 =>
  iJ r n kk5 x0 v3 x4 h3) (
  bZe r n kk5 x0 x3 x4 h2)
def bTl (r : RT) (n : Nat) (kk5 : dP) (x0 x3 x4 : DV) (h0 : Hp) : aH :=
 bnd (cM x0 h0) fun v1 h1 =>
 bnd (aD .lss x4 v1 h1) fun v2 h2 =>
 aT v2 (
   bWr r n kk5 x0 x3 x4 h2) (
   dO r n x3 h2)
def aHl (r : RT) (n : Nat) (m : Nat) : dP :=
 Nat.rec (motive:=fun _=>dP) (fun _ _ _ _=>none) (fun _ ih=>bTl r n ih) m
def cTc (r : RT) (n : Nat) : dP:=aHl r n n
def bTx (r : RT) (n : Nat) (x0 x3 x4 : DV) (h0 : Hp) : aH :=
 cTc r n x0 x3 x4 h0
def bMe (r : RT) (n : Nat) (x0 x3 : DV) (h0 : Hp) : aH :=
 bTx r n x0 x3 (aN 0) h0
def bUj (r : RT) (n : Nat) (x0 : DV) (h0 : Hp) : aH :=
 bMe r n x0 (.s [34]) h0
def s27 (r : RT) (n : Nat) (x0 : DV) (h0 : Hp) : aH :=
 bUj r n x0 h0
abbrev c27 : Code:=cf Tryz.f27
abbrev aWr : Code:=cR c27
abbrev aZt : Code:=cR aWr
abbrev dNs : Code:=cR aZt
abbrev aLt : Code:=cL aZt
abbrev bWt : Code:=cR aLt
abbrev aYz : Code:=cL bWt
abbrev pL : Code:=cL aYz
abbrev aVq : Code:=cR pL
abbrev dJn : Code:=cR aVq
abbrev aHu : Code:=cL aVq
abbrev aFa : Code:=cL aHu
abbrev aFh : Code:=cR aFa
abbrev cVw : Code:=cR aFh
abbrev bXl : Code:=cL aFh
abbrev bVi : Code:=cL aFa
abbrev bRw : Code:=cL pL
abbrev bVe : Code:=cL aLt
abbrev cBd : Code:=cL aWr
abbrev bLq : Code:=cL c27
abbrev r27 : K:=aR CF Tryz.f27
def D27 (r : RT) (n : Nat) (c : Code) (X : Nat → K) (k : K) : K:=aM CF r 38 n c X r27 k
theorem dDq : D27 r n dNs x0 r27 = (K1 (dO r n) 3) :=
 (by kernel_rfl)
theorem cZp (kk5 : dP) : D27 r n dJn (xs x0 0 (K1 (dO r n) 3)) (K3 kk5 0 3 4) = (K3 (iJ r n kk5) 0 3 4) :=
 (by kernel_rfl)
theorem dGw (kk5 : dP) : D27 r n cVw (xs (xs x0 0 (K1 (dO r n) 3)) 1 (K3 (iJ r n kk5) 0 3 4)) (K3 (iJ r n kk5) 0 3 4) = (K3 (aWm r n kk5) 0 3 4) :=
 (by kernel_rfl)
theorem cFc (kk5 : dP) : D27 r n aFh (xs (xs x0 0 (K1 (dO r n) 3)) 1 (K3 (iJ r n kk5) 0 3 4)) (K3 (iJ r n kk5) 0 3 4) = D27 r n bXl (xs (xs x0 0 (K1 (dO r n) 3)) 1 (K3 (iJ r n kk5) 0 3 4)) (K3 (aWm r n kk5) 0 3 4) :=
 congrArg (fun k=>D27 r n bXl (xs (xs x0 0 (K1 (dO r n) 3)) 1 (K3 (iJ r n kk5) 0 3 4)) k) (dGw r n kk5)
theorem cZr (kk5 : dP) : D27 r n aFh (xs (xs x0 0 (K1 (dO r n) 3)) 1 (K3 (iJ r n kk5) 0 3 4)) (K3 (iJ r n kk5) 0 3 4) = (K3 (bZe r n kk5) 0 3 4) :=
 (cFc r n kk5).trans
 ((by kernel_rfl))
theorem cLz (kk5 : dP) : D27 r n aVq (xs x0 0 (K1 (dO r n) 3)) (K3 kk5 0 3 4) = D27 r n aHu (xs x0 0 (K1 (dO r n) 3)) (K3 (iJ r n kk5) 0 3 4) :=
 congrArg (fun k=>D27 r n aHu (xs x0 0 (K1 (dO r n) 3)) k) (cZp r n kk5)
theorem cOq (kk5 : dP) : D27 r n aFa (xs (xs x0 0 (K1 (dO r n) 3)) 1 (K3 (iJ r n kk5) 0 3 4)) (K3 (iJ r n kk5) 0 3 4) = D27 r n bVi (xs (xs x0 0 (K1 (dO r n) 3)) 1 (K3 (iJ r n kk5) 0 3 4)) (K3 (bZe r n kk5) 0 3 4) :=
 congrArg (fun k=>D27 r n bVi (xs (xs x0 0 (K1 (dO r n) 3)) 1 (K3 (iJ r n kk5) 0 3 4)) k) (cZr r n kk5)
theorem cVh (kk5 : dP) : D27 r n aVq (xs x0 0 (K1 (dO r n) 3)) (K3 kk5 0 3 4) = (K3 (bWr r n kk5) 0 3 4) :=
 (cLz r n kk5).trans
 ((by kernel_rfl : D27 r n aHu (xs x0 0 (K1 (dO r n) 3)) (K3 (iJ r n kk5) 0 3 4) = D27 r n aFa (xs (xs x0 0 (K1 (dO r n) 3)) 1 (K3 (iJ r n kk5) 0 3 4)) (K3 (iJ r n kk5) 0 3 4)).trans
 ((cOq r n kk5).trans
 ((by kernel_rfl))))
theorem cNg (kk5 : dP) : D27 r n pL (xs x0 0 (K1 (dO r n) 3)) (K3 kk5 0 3 4) = D27 r n bRw (xs x0 0 (K1 (dO r n) 3)) (K3 (bWr r n kk5) 0 3 4) :=
 congrArg (fun k=>D27 r n bRw (xs x0 0 (K1 (dO r n) 3)) k) (cVh r n kk5)
theorem cKv (kk5 : dP) : D27 r n pL (xs x0 0 (K1 (dO r n) 3)) (K3 kk5 0 3 4) = (K3 (bTl r n kk5) 0 3 4) :=
 (cNg r n kk5).trans
 ((by kernel_rfl))
theorem cGp (m : Nat) : aL (fun kk=>D27 r n pL (xs x0 0 (K1 (dO r n) 3)) kk) m = (K3 (aHl r n m) 0 3 4):=by
 induction m with
 | zero=>exact (by kernel_rfl : aL (fun kk=>D27 r n pL (xs x0 0 (K1 (dO r n) 3)) kk) 0 = (K3 (aHl r n 0) 0 3 4))
 | succ m ih =>
  refine (by kernel_rfl : aL (fun kk=>D27 r n pL (xs x0 0 (K1 (dO r n) 3)) kk) (m + 1) = D27 r n pL (xs x0 0 (K1 (dO r n) 3)) (aL (fun kk=>D27 r n pL (xs x0 0 (K1 (dO r n) 3)) kk) m)).trans ?_
  rw [ih]
  exact (cKv r n (aHl r n m)).trans (by kernel_rfl)
theorem cUs : D27 r n aYz (xs x0 0 (K1 (dO r n) 3)) (K1 (dO r n) 3) = (K3 (cTc r n) 0 3 4) :=
 (by kernel_rfl : D27 r n aYz (xs x0 0 (K1 (dO r n) 3)) (K1 (dO r n) 3) = aL (fun kk=>D27 r n pL (xs x0 0 (K1 (dO r n) 3)) kk) n).trans ((cGp r n n).trans (by kernel_rfl))
theorem dEz : D27 r n bWt x0 (K1 (dO r n) 3) = (K3 (bTx r n) 0 3 4) :=
 (by kernel_rfl : D27 r n bWt x0 (K1 (dO r n) 3) = D27 r n aYz (xs x0 0 (K1 (dO r n) 3)) (K1 (dO r n) 3)).trans
 ((cUs r n).trans (by kernel_rfl))
theorem cQb : D27 r n aZt x0 r27 = D27 r n aLt x0 (K1 (dO r n) 3) :=
 congrArg (fun k=>D27 r n aLt x0 k) (dDq r n)
theorem cJy : D27 r n aLt x0 (K1 (dO r n) 3) = D27 r n bVe x0 (K3 (bTx r n) 0 3 4) :=
 congrArg (fun k=>D27 r n bVe x0 k) (dEz r n)
theorem dFt : D27 r n aZt x0 r27 = (K2 (bMe r n) 0 3) :=
 (cQb r n).trans
 ((cJy r n).trans
 ((by kernel_rfl)))
theorem cDu : D27 r n aWr x0 r27 = D27 r n cBd x0 (K2 (bMe r n) 0 3) :=
 congrArg (fun k=>D27 r n cBd x0 k) (dFt r n)
theorem cZl : D27 r n aWr x0 r27 = (K1 (bUj r n) 0) :=
 (cDu r n).trans
 ((by kernel_rfl))
theorem dKm : D27 r n c27 x0 r27 = D27 r n bLq x0 (K1 (bUj r n) 0) :=
 congrArg (fun k=>D27 r n bLq x0 k) (cZl r n)
theorem dSv : D27 r n c27 x0 r27 = (K1 (s27 r n) 0) :=
 (dKm r n).trans
 ((by kernel_rfl))
theorem dJh : aF CF r n 27 args h = s27 r n (aV args 0) h :=
 (by kernel_rfl : aF CF r n 27 args h = D27 r n c27 x0 r27 (aJ args) h).trans ((congrFun (congrFun (dSv r n) (aJ args)) h).trans (by kernel_rfl))
def s28 (r : RT) (n : Nat) (x0 : DV) (h0 : Hp) : aH :=
 bnd (dA x0 h0) fun v1 h1 =>
 bnd (aB 0 v1 h1) fun v2 h2 =>
 bnd (aA v2 h2) fun v3 h3 =>
 bnd (aD .eql v3 (.i .i64 (Int.ofNat 1)) h3) fun v4 h4 =>
 aT v4 (
 bnd (aB 1 v1 h4) fun v5 h5 =>
 bnd (aA v5 h5) fun v6 h6 =>
 bnd (aB 2 v1 h6) fun v7 h7 =>
 bnd (aA v7 h7) fun v8 h8 =>
 bnd (aO [(.s []),(.s []),(.s [])] 3 [(0,1,(.s [99,108,97,115,115])),(1,1,v6),(2,1,v8)] h8) fun v9 h9 =>
 bnd (aB 3 v1 h9) fun v10 h10 =>
 bnd (aA v10 h10) fun v11 h11 =>
 bnd (bB 1 16 v9 v11 h11) fun v12 h12 =>
 bnd (pT [v12,(.s [32])] h12) fun v13 h13 =>
 some (v13,h13)) (
 bnd (aD .eql v3 (.i .i64 (Int.ofNat 2)) h4) fun v14 h14 =>
 aT v14 (
 bnd (aB 1 v1 h14) fun v15 h15 =>
 bnd (aA v15 h15) fun v16 h16 =>
 bnd (bI .add (.s [109,101,116,104,111,100,32]) v16 h16) fun v17 h17 =>
 bnd (bI .add v17 (.s [32]) h17) fun v18 h18 =>
 bnd (aB 4 v1 h18) fun v19 h19 =>
 bnd (aA v19 h19) fun v20 h20 =>
 bnd (bI .add v18 v20 h20) fun v21 h21 =>
 some (v21,h21)) (
 bnd (aD .eql v3 (.i .i64 (Int.ofNat 3)) h14) fun v22 h22 =>
 aT v22 (
 bnd (aB 5 v1 h22) fun v23 h23 =>
 bnd (aA v23 h23) fun v24 h24 =>
 bnd (jP [v24] h24) fun v25 h25 =>
 bnd (bI .add (.s [100,111,32]) v25 h25) fun v26 h26 =>
 bnd (bI .add v26 (.s [32]) h26) fun v27 h27 =>
 bnd (aB 4 v1 h27) fun v28 h28 =>
 bnd (aA v28 h28) fun v29 h29 =>
 cnd (bJ (aA v28 h22) v29 && true) (
 bnd (bI .add v27 v29 h29) fun v30 h30 =>
 some (v30,h30))) (
 bnd (aD .eql v3 (.i .i64 (Int.ofNat 4)) h22) fun v31 h31 =>
 aT v31 (
 bnd (aB 5 v1 h31) fun v32 h32 =>
 bnd (aA v32 h32) fun v33 h33 =>
 bnd (aD .eql v33 (.i .i64 (Int.ofNat 1)) h33) fun v34 h34 =>
 aT v34 (
 bnd (aB 1 v1 h34) fun v35 h35 =>
 bnd (aA v35 h35) fun v36 h36 =>
 bnd (bI .add (.s [102,97,115,116,32]) v36 h36) fun v37 h37 =>
 bnd (bI .add v37 (.s [32]) h37) fun v38 h38 =>
 bnd (aB 4 v1 h38) fun v39 h39 =>
 bnd (aA v39 h39) fun v40 h40 =>
 bnd (bI .add v38 v40 h40) fun v41 h41 =>
 some (v41,h41)) (
 bnd (aB 1 v1 h34) fun v42 h42 =>
 bnd (aA v42 h42) fun v43 h43 =>
 bnd (bI .add (.s [115,108,111,119,32]) v43 h43) fun v44 h44 =>
 bnd (bI .add v44 (.s [32]) h44) fun v45 h45 =>
 bnd (aB 4 v1 h45) fun v46 h46 =>
 bnd (aA v46 h46) fun v47 h47 =>
 bnd (bI .add v45 v47 h47) fun v48 h48 =>
 some (v48,h48))) (
 bnd (aD .eql v3 (.i .i64 (Int.ofNat 5)) h31) fun v49 h49 =>
 aT v49 (
 some ((.s [99,111,108,108,101,99,116]),h49)) (
 bnd (aD .eql v3 (.i .i64 (Int.ofNat 6)) h49) fun v50 h50 =>
 aT v50 (
 some ((.s [102,108,117,115,104]),h50)) (
 bnd (aD .eql v3 (.i .i64 (Int.ofNat 7)) h50) fun v51 h51 =>
 aT v51 (
 some ((.s [105,109,97,103,101]),h51)) (
 bnd (aB 5 v1 h51) fun v52 h52 =>
 bnd (aA v52 h52) fun v53 h53 =>
 bnd (jP [v53] h53) fun v54 h54 =>
 bnd (bI .add (.s [101,118,101,114,121,32]) v54 h54) fun v55 h55 =>
 some (v55,h55))))))))
abbrev c28 : Code:=cf Tryz.f28
abbrev r28 : K:=aR CF Tryz.f28
def D28 (r : RT) (n : Nat) (c : Code) (X : Nat → K) (k : K) : K:=aM CF r 64 n c X r28 k
theorem dWf : D28 r n c28 x0 r28 = (K1 (s28 r n) 0) :=
 (by kernel_rfl)
theorem cSc : aF CF r n 28 args h = s28 r n (aV args 0) h :=
 (by kernel_rfl : aF CF r n 28 args h = D28 r n c28 x0 r28 (aJ args) h).trans ((congrFun (congrFun (dWf r n) (aJ args)) h).trans (by kernel_rfl))
def s29 (r : RT) (n : Nat) (x0 x1 : DV) (h0 : Hp) : aH :=
 bnd (dA x0 h0) fun v1 h1 =>
 bnd (dA x1 h1) fun v2 h2 =>
 bnd (aB 0 v1 h2) fun v3 h3 =>
 bnd (aA v3 h3) fun v4 h4 =>
 bnd (aB 0 v2 h4) fun v5 h5 =>
 bnd (aA v5 h5) fun v6 h6 =>
 bnd (aD .eql v4 v6 h6) fun v7 h7 =>
 bnd (gD v7 true (aB 1 v1 h7) h7) fun v8 h8 =>
 bnd (gD v7 true (aA v8 h8) h8) fun v9 h9 =>
 bnd (gD v7 true (aB 1 v2 h9) h9) fun v10 h10 =>
 bnd (gD v7 true (aA v10 h10) h10) fun v11 h11 =>
 bnd (gD v7 true (bI .eql v9 v11 h11) h11) fun v12 h12 =>
 bnd (aP v7 v12 (.b false) h12) fun v13 h13 =>
 bnd (gD v13 true (aB 2 v1 h13) h13) fun v14 h14 =>
 bnd (gD v13 true (aA v14 h14) h14) fun v15 h15 =>
 bnd (gD v13 true (aB 2 v2 h15) h15) fun v16 h16 =>
 bnd (gD v13 true (aA v16 h16) h16) fun v17 h17 =>
 bnd (gD v13 true (bI .eql v15 v17 h17) h17) fun v18 h18 =>
 bnd (aP v13 v18 (.b false) h18) fun v19 h19 =>
 bnd (gD v19 true (aB 3 v1 h19) h19) fun v20 h20 =>
 bnd (gD v19 true (aA v20 h20) h20) fun v21 h21 =>
 bnd (gD v19 true (aB 3 v2 h21) h21) fun v22 h22 =>
 bnd (gD v19 true (aA v22 h22) h22) fun v23 h23 =>
 bnd (gD v19 true (r 44 [v21,v23] h23) h23) fun v24 h24 =>
 bnd (aP v19 v24 (.b false) h24) fun v25 h25 =>
 bnd (gD v25 true (aB 4 v1 h25) h25) fun v26 h26 =>
 bnd (gD v25 true (aA v26 h26) h26) fun v27 h27 =>
 bnd (gD v25 true (aB 4 v2 h27) h27) fun v28 h28 =>
 bnd (gD v25 true (aA v28 h28) h28) fun v29 h29 =>
 bnd (gD v25 true (bI .eql v27 v29 h29) h29) fun v30 h30 =>
 bnd (aP v25 v30 (.b false) h30) fun v31 h31 =>
 bnd (gD v31 true (aB 5 v1 h31) h31) fun v32 h32 =>
 bnd (gD v31 true (aA v32 h32) h32) fun v33 h33 =>
 bnd (gD v31 true (aB 5 v2 h33) h33) fun v34 h34 =>
 bnd (gD v31 true (aA v34 h34) h34) fun v35 h35 =>
 bnd (gD v31 true (aD .eql v33 v35 h35) h35) fun v36 h36 =>
 bnd (aP v31 v36 (.b false) h36) fun v37 h37 =>
 some (v37,h37)
abbrev c29 : Code:=cf Tryz.f29
abbrev r29 : K:=aR CF Tryz.f29
def D29 (r : RT) (n : Nat) (c : Code) (X : Nat → K) (k : K) : K:=aM CF r 45 n c X r29 k
theorem dVe : D29 r n c29 x0 r29 = (K2 (s29 r n) 0 1) :=
 (by kernel_rfl)
theorem cSx : aF CF r n 29 args h = s29 r n (aV args 0) (aV args 1) h :=
 (by kernel_rfl : aF CF r n 29 args h = D29 r n c29 x0 r29 (aJ args) h).trans ((congrFun (congrFun (dVe r n) (aJ args)) h).trans (by kernel_rfl))
def s30 (r : RT) (n : Nat) (x0 x1 : DV) (h0 : Hp) : aH :=
 bnd (r 45 [x0,x1] h0) fun v1 h1 =>
 some (v1,h1)
abbrev c30 : Code:=cf Tryz.f30
abbrev r30 : K:=aR CF Tryz.f30
def D30 (r : RT) (n : Nat) (c : Code) (X : Nat → K) (k : K) : K:=aM CF r 8 n c X r30 k
theorem dXq : D30 r n c30 x0 r30 = (K2 (s30 r n) 0 1) :=
 (by kernel_rfl)
theorem cRi : aF CF r n 30 args h = s30 r n (aV args 0) (aV args 1) h :=
 (by kernel_rfl : aF CF r n 30 args h = D30 r n c30 x0 r30 (aJ args) h).trans ((congrFun (congrFun (dXq r n) (aJ args)) h).trans (by kernel_rfl))
def cU (r : RT) (n : Nat) (x1 : DV) (h0 : Hp) : aH :=
 bnd (aB 5 x1 h0) fun v1 h1 =>
 bnd (aA v1 h1) fun v2 h2 =>
 bnd (r 26 [v2] h2) fun v3 h3 =>
 bnd (bI .add (.s [101,118,101,114,121,32]) v3 h3) fun v4 h4 =>
 some (v4,h4)
def gS (r : RT) (n : Nat) (x3 : DV) (h0 : Hp) : aH :=
 some (x3,h0)
def tQ (r : RT) (n : Nat) (kk9 : dP) (x1 x3 x4 : DV) (h0 : Hp) : aH :=
 bnd (aB 3 x1 h0) fun v1 h1 =>
 bnd (aA v1 h1) fun v2 h2 =>
 bnd (cB v2 h2) fun v3 h3 =>
 bnd (aD .lss x4 v3 h3) fun v4 h4 =>
 aT v4 (
 bnd (bI .add x3 (.s [32]) h4) fun v5 h5 =>
 bnd (aB 3 x1 h5) fun v6 h6 =>
 bnd (aA v6 h6) fun v7 h7 =>
 bnd (aE 1 v7 x4 h7) fun v8 h8 =>
 bnd (aA v8 h8) fun v9 h9 =>
 bnd (bI .add v5 v9 h9) fun v10 h10 =>
 bnd (aD .add x4 (.i .i64 (Int.ofNat 1)) h10) fun v11 h11 =>
      kk9 x1 v10 v11 h11) (
      gS r n x3 h4)
def qM (r : RT) (n : Nat) (m : Nat) : dP :=
 Nat.rec (motive:=fun _=>dP) (fun _ _ _ _=>none) (fun _ ih=>tQ r n ih) m
def bMw (r : RT) (n : Nat) : dP:=qM r n n
def bDy (r : RT) (n : Nat) (x1 x3 x4 : DV) (h0 : Hp) : aH :=
 bMw r n x1 x3 x4 h0
def bBo (r : RT) (n : Nat) (x1 x3 : DV) (h0 : Hp) : aH :=
 bDy r n x1 x3 (.i .i64 (Int.ofNat 0)) h0
def bJx (r : RT) (n : Nat) (x1 : DV) (h0 : Hp) : aH :=
 bnd (aB 1 x1 h0) fun v1 h1 =>
 bnd (aA v1 h1) fun v2 h2 =>
 bnd (bI .add (.s [99,108,97,115,115,32]) v2 h2) fun v3 h3 =>
 bnd (bI .add v3 (.s [32]) h3) fun v4 h4 =>
 bnd (aB 2 x1 h4) fun v5 h5 =>
 bnd (aA v5 h5) fun v6 h6 =>
 bnd (bI .add v4 v6 h6) fun v7 h7 =>
  bBo r n x1 v7 h7
def bCh (r : RT) (n : Nat) (x1 x6 x7 : DV) (h0 : Hp) : aH :=
 aT x7 (
  bJx r n x1 h0) (
 bnd (aD .eql x6 (.i .i64 (Int.ofNat 2)) h0) fun v1 h1 =>
 aT v1 (
 bnd (aB 1 x1 h1) fun v2 h2 =>
 bnd (aA v2 h2) fun v3 h3 =>
 bnd (bI .add (.s [109,101,116,104,111,100,32]) v3 h3) fun v4 h4 =>
 bnd (bI .add v4 (.s [32]) h4) fun v5 h5 =>
 bnd (aB 4 x1 h5) fun v6 h6 =>
 bnd (aA v6 h6) fun v7 h7 =>
 bnd (bI .add v5 v7 h7) fun v8 h8 =>
 some (v8,h8)) (
 bnd (aD .eql x6 (.i .i64 (Int.ofNat 3)) h1) fun v9 h9 =>
 aT v9 (
 bnd (aB 5 x1 h9) fun v10 h10 =>
 bnd (aA v10 h10) fun v11 h11 =>
 bnd (r 26 [v11] h11) fun v12 h12 =>
 bnd (bI .add (.s [100,111,32]) v12 h12) fun v13 h13 =>
 bnd (bI .add v13 (.s [32]) h13) fun v14 h14 =>
 bnd (aB 4 x1 h14) fun v15 h15 =>
 bnd (aA v15 h15) fun v16 h16 =>
 cnd (bJ (aA v15 h9) v16 && true) (
 bnd (bI .add v14 v16 h16) fun v17 h17 =>
 some (v17,h17))) (
 bnd (aD .eql x6 (.i .i64 (Int.ofNat 4)) h9) fun v18 h18 =>
 aT v18 (
 bnd (aB 5 x1 h18) fun v19 h19 =>
 bnd (aA v19 h19) fun v20 h20 =>
 bnd (aD .eql v20 (.i .i64 (Int.ofNat 1)) h20) fun v21 h21 =>
 aT v21 (
 bnd (aB 1 x1 h21) fun v22 h22 =>
 bnd (aA v22 h22) fun v23 h23 =>
 bnd (bI .add (.s [102,97,115,116,32]) v23 h23) fun v24 h24 =>
 bnd (bI .add v24 (.s [32]) h24) fun v25 h25 =>
 bnd (aB 4 x1 h25) fun v26 h26 =>
 bnd (aA v26 h26) fun v27 h27 =>
 bnd (bI .add v25 v27 h27) fun v28 h28 =>
 some (v28,h28)) (
 bnd (aB 1 x1 h21) fun v29 h29 =>
 bnd (aA v29 h29) fun v30 h30 =>
 bnd (bI .add (.s [115,108,111,119,32]) v30 h30) fun v31 h31 =>
 bnd (bI .add v31 (.s [32]) h31) fun v32 h32 =>
 bnd (aB 4 x1 h32) fun v33 h33 =>
 bnd (aA v33 h33) fun v34 h34 =>
 bnd (bI .add v32 v34 h34) fun v35 h35 =>
 some (v35,h35))) (
 bnd (aD .eql x6 (.i .i64 (Int.ofNat 5)) h18) fun v36 h36 =>
 aT v36 (
 some ((.s [99,111,108,108,101,99,116]),h36)) (
 bnd (aD .eql x6 (.i .i64 (Int.ofNat 6)) h36) fun v37 h37 =>
 aT v37 (
 some ((.s [102,108,117,115,104]),h37)) (
 bnd (aD .eql x6 (.i .i64 (Int.ofNat 7)) h37) fun v38 h38 =>
 aT v38 (
 some ((.s [105, 109, 97, 103, 101]), h38)) (
        cU r n x1 h38)))))))
def bEf (r : RT) (n : Nat) (x1 x6 : DV) (h0 : Hp) : aH :=
 bnd (aD .eql x6 (.i .i64 (Int.ofNat 1)) h0) fun v1 h1 =>
  bCh r n x1 x6 v1 h1
def aCt (r : RT) (n : Nat) (x1 : DV) (h0 : Hp) : aH :=
 bnd (aB 0 x1 h0) fun v1 h1 =>
 bnd (aA v1 h1) fun v2 h2 =>
  bEf r n x1 v2 h2
def s31 (r : RT) (n : Nat) (x0 : DV) (h0 : Hp) : aH :=
 bnd (dA x0 h0) fun v1 h1 =>
  aCt r n v1 h1
abbrev c31 : Code:=cf Tryz.f31
abbrev bBz : Code:=cR c31
abbrev dNr : Code:=cR bBz
abbrev aNm : Code:=cL bBz
abbrev bRh : Code:=cR aNm
abbrev bDf : Code:=cL bRh
abbrev aNt : Code:=cR bDf
abbrev aLu : Code:=cL aNt
abbrev aWy : Code:=cR aLu
abbrev dKj : Code:=cR aWy
abbrev yH : Code:=cL aWy
abbrev aRg : Code:=cR yH
abbrev aHx : Code:=cL aRg
abbrev qA : Code:=cL aHx
abbrev bZb : Code:=cL yH
abbrev bIr : Code:=cL aLu
abbrev dFw : Code:=cR aNt
abbrev bJm : Code:=cL bDf
abbrev bZp : Code:=cL aNm
abbrev aTx : Code:=cL c31
abbrev r31 : K:=aR CF Tryz.f31
def D31 (r : RT) (n : Nat) (c : Code) (X : Nat → K) (k : K) : K:=aM CF r 80 n c X r31 k
theorem cXf : D31 r n dNr x0 r31 = (K1 (cU r n) 1) :=
 (by kernel_rfl)
theorem cZx : D31 r n dKj (xs x0 0 (K1 (cU r n) 1)) (K1 (cU r n) 1) = (K1 (gS r n) 3) :=
 (by kernel_rfl)
theorem cLt (kk9 : dP) : D31 r n qA (xs (xs x0 0 (K1 (cU r n) 1)) 1 (K1 (gS r n) 3)) (K3 kk9 1 3 4) = (K3 (tQ r n kk9) 1 3 4) :=
 (by kernel_rfl)
theorem cFv (m : Nat) : aL (fun kk=>D31 r n qA (xs (xs x0 0 (K1 (cU r n) 1)) 1 (K1 (gS r n) 3)) kk) m = (K3 (qM r n m) 1 3 4):=by
 induction m with
 | zero=>exact (by kernel_rfl : aL (fun kk=>D31 r n qA (xs (xs x0 0 (K1 (cU r n) 1)) 1 (K1 (gS r n) 3)) kk) 0 = (K3 (qM r n 0) 1 3 4))
 | succ m ih =>
  refine (by kernel_rfl : aL (fun kk=>D31 r n qA (xs (xs x0 0 (K1 (cU r n) 1)) 1 (K1 (gS r n) 3)) kk) (m + 1) = D31 r n qA (xs (xs x0 0 (K1 (cU r n) 1)) 1 (K1 (gS r n) 3)) (aL (fun kk=>D31 r n qA (xs (xs x0 0 (K1 (cU r n) 1)) 1 (K1 (gS r n) 3)) kk) m)).trans ?_
  rw [ih]
  exact (cLt r n (qM r n m)).trans (by kernel_rfl)
theorem cUx : D31 r n aHx (xs (xs x0 0 (K1 (cU r n) 1)) 1 (K1 (gS r n) 3)) (K1 (gS r n) 3) = (K3 (bMw r n) 1 3 4) :=
 (by kernel_rfl : D31 r n aHx (xs (xs x0 0 (K1 (cU r n) 1)) 1 (K1 (gS r n) 3)) (K1 (gS r n) 3) = aL (fun kk=>D31 r n qA (xs (xs x0 0 (K1 (cU r n) 1)) 1 (K1 (gS r n) 3)) kk) n).trans ((cFv r n n).trans (by kernel_rfl))
theorem dDa : D31 r n aRg (xs x0 0 (K1 (cU r n) 1)) (K1 (gS r n) 3) = (K3 (bDy r n) 1 3 4) :=
 (by kernel_rfl : D31 r n aRg (xs x0 0 (K1 (cU r n) 1)) (K1 (gS r n) 3) = D31 r n aHx (xs (xs x0 0 (K1 (cU r n) 1)) 1 (K1 (gS r n) 3)) (K1 (gS r n) 3)).trans
 ((cUx r n).trans (by kernel_rfl))
theorem cPw : D31 r n aWy (xs x0 0 (K1 (cU r n) 1)) (K1 (cU r n) 1) = D31 r n yH (xs x0 0 (K1 (cU r n) 1)) (K1 (gS r n) 3) :=
 congrArg (fun k=>D31 r n yH (xs x0 0 (K1 (cU r n) 1)) k) (cZx r n)
theorem cJe : D31 r n yH (xs x0 0 (K1 (cU r n) 1)) (K1 (gS r n) 3) = D31 r n bZb (xs x0 0 (K1 (cU r n) 1)) (K3 (bDy r n) 1 3 4) :=
 congrArg (fun k=>D31 r n bZb (xs x0 0 (K1 (cU r n) 1)) k) (dDa r n)
theorem cVp : D31 r n aWy (xs x0 0 (K1 (cU r n) 1)) (K1 (cU r n) 1) = (K2 (bBo r n) 1 3) :=
 (cPw r n).trans
 ((cJe r n).trans
 ((by kernel_rfl)))
theorem cEq : D31 r n aLu (xs x0 0 (K1 (cU r n) 1)) (K1 (cU r n) 1) = D31 r n bIr (xs x0 0 (K1 (cU r n) 1)) (K2 (bBo r n) 1 3) :=
 congrArg (fun k=>D31 r n bIr (xs x0 0 (K1 (cU r n) 1)) k) (cVp r n)
theorem dDz : D31 r n aLu (xs x0 0 (K1 (cU r n) 1)) (K1 (cU r n) 1) = (K1 (bJx r n) 1) :=
 (cEq r n).trans
 ((by kernel_rfl))
theorem cWw : D31 r n aNt (xs x0 0 (K1 (cU r n) 1)) (K1 (cU r n) 1) = (K3 (bCh r n) 1 6 7) :=
 (by kernel_rfl : D31 r n aNt (xs x0 0 (K1 (cU r n) 1)) (K1 (cU r n) 1) = (fun (env : bA) (h : Hp)=>aT (opr env (cC aNt)) (D31 r n aLu (xs x0 0 (K1 (cU r n) 1)) (K1 (cU r n) 1) env h) (D31 r n dFw (xs x0 0 (K1 (cU r n) 1)) (K1 (cU r n) 1) env h))).trans (by rw [dDz r n]; kernel_rfl)
theorem cNx : D31 r n bDf (xs x0 0 (K1 (cU r n) 1)) (K1 (cU r n) 1) = D31 r n bJm (xs x0 0 (K1 (cU r n) 1)) (K3 (bCh r n) 1 6 7) :=
 congrArg (fun k=>D31 r n bJm (xs x0 0 (K1 (cU r n) 1)) k) (cWw r n)
theorem dDf : D31 r n bRh x0 (K1 (cU r n) 1) = (K2 (bEf r n) 1 6) :=
 (by kernel_rfl : D31 r n bRh x0 (K1 (cU r n) 1) = D31 r n bDf (xs x0 0 (K1 (cU r n) 1)) (K1 (cU r n) 1)).trans
 ((cNx r n).trans
 ((by kernel_rfl)))
theorem cOi : D31 r n bBz x0 r31 = D31 r n aNm x0 (K1 (cU r n) 1) :=
 congrArg (fun k=>D31 r n aNm x0 k) (cXf r n)
theorem cOu : D31 r n aNm x0 (K1 (cU r n) 1) = D31 r n bZp x0 (K2 (bEf r n) 1 6) :=
 congrArg (fun k=>D31 r n bZp x0 k) (dDf r n)
theorem cZa : D31 r n bBz x0 r31 = (K1 (aCt r n) 1) :=
 (cOi r n).trans
 ((cOu r n).trans
 ((by kernel_rfl)))
theorem dPc : D31 r n c31 x0 r31 = D31 r n aTx x0 (K1 (aCt r n) 1) :=
 congrArg (fun k=>D31 r n aTx x0 k) (cZa r n)
theorem dOk (q0 : TT1) : D31 r n aTx x0 (K1 q0 1) = fun (env : bA) (h : Hp) =>
 bnd (dA (env 0) h) fun v1 h1 =>
  q0 v1 h1:=by kernel_rfl
theorem dBy : (fun (env : bA) (h : Hp) =>
 bnd (dA (env 0) h) fun v1 h1 =>
  aCt r n v1 h1) = (K1 (s31 r n) 0):=by kernel_rfl
theorem dTt : D31 r n c31 x0 r31 = (K1 (s31 r n) 0) :=
 (dPc r n).trans
 ((dOk r n (aCt r n)).trans (dBy r n))
theorem cSv : aF CF r n 31 args h = s31 r n (aV args 0) h :=
 (by kernel_rfl : aF CF r n 31 args h = D31 r n c31 x0 r31 (aJ args) h).trans ((congrFun (congrFun (dTt r n) (aJ args)) h).trans (by kernel_rfl))
def s34 (r : RT) (n : Nat) (h0 : Hp) : aH :=
 bnd (dW h0) fun v1 h1 =>
 bnd (dS .string v1 (.s [99,108,97,115,115]) (.f 50 [] []) h1) fun _ h2 =>
 bnd (dS .string v1 (.s [109,101,116,104,111,100]) (.f 51 [] []) h2) fun _ h3 =>
 bnd (dS .string v1 (.s [100,111]) (.f 52 [] []) h3) fun _ h4 =>
 bnd (r 53 [(.i .i64 (Int.ofNat 1))] h4) fun v5 h5 =>
 bnd (dS .string v1 (.s [102,97,115,116]) v5 h5) fun _ h6 =>
 bnd (r 53 [(.i .i64 (Int.ofNat 0))] h6) fun v7 h7 =>
 bnd (dS .string v1 (.s [115,108,111,119]) v7 h7) fun _ h8 =>
 bnd (dS .string v1 (.s [101,118,101,114,121]) (.f 54 [] []) h8) fun _ h9 =>
 some (v1,h9)
abbrev c34 : Code:=cf Tryz.f34
abbrev r34 : K:=aR CF Tryz.f34
def D34 (r : RT) (n : Nat) (c : Code) (X : Nat → K) (k : K) : K:=aM CF r 5 n c X r34 k
theorem dSe : D34 r n c34 x0 r34 = (K0 (s34 r n)) :=
 (by kernel_rfl)
theorem cTn : aF CF r n 34 args h = s34 r n h :=
 (by kernel_rfl : aF CF r n 34 args h = D34 r n c34 x0 r34 (aJ args) h).trans ((congrFun (congrFun (dSe r n) (aJ args)) h).trans (by kernel_rfl))
def gZ (r : RT) (n : Nat) (x3 : DV) (h0 : Hp) : aH :=
 some (x3,h0)
def tH (r : RT) (n : Nat) (kk6 : dP) (x0 x3 x4 : DV) (h0 : Hp) : aH :=
 bnd (cM x0 h0) fun v1 h1 =>
 bnd (aD .lss x4 v1 h1) fun v2 h2 =>
 aT v2 (
 bnd (bX x0 x4 h2) fun v3 h3 =>
 bnd (aD .lss v3 (.i .u8 (Int.ofNat 48)) h3) fun v4 h4 =>
 bnd (gD v4 false (some (x0,h4)) h4) fun v5 h5 =>
 bnd (gD v4 false (some (x4,h5)) h5) fun v6 h6 =>
 bnd (gD v4 false (bX v5 v6 h6) h6) fun v7 h7 =>
 bnd (gD v4 false (aD .gtr v7 (.i .u8 (Int.ofNat 57)) h7) h7) fun v8 h8 =>
 bnd (aP v4 (.b true) v8 h8) fun v9 h9 =>
 aT v9 (
 some ((.i .i64 (Int.negSucc 0)),h9)) (
 bnd (aD .mul (.i .i64 (Int.ofNat 10)) x3 h9) fun v10 h10 =>
 bnd (bX x0 x4 h10) fun v11 h11 =>
 bnd (aD .sub v11 (.i .u8 (Int.ofNat 48)) h11) fun v12 h12 =>
 bnd (dV .i64 v12 h12) fun v13 h13 =>
 bnd (aD .add v10 v13 h13) fun v14 h14 =>
 bnd (aD .add x4 (.i .i64 (Int.ofNat 1)) h14) fun v15 h15 =>
    kk6 x0 v14 v15 h15)) (
      gZ r n x3 h2)
def qF (r : RT) (n : Nat) (m : Nat) : dP :=
 Nat.rec (motive:=fun _=>dP) (fun _ _ _ _=>none) (fun _ ih=>tH r n ih) m
def cSk (r : RT) (n : Nat) : dP:=qF r n n
def bSo (r : RT) (n : Nat) (x0 x3 x4 : DV) (h0 : Hp) : aH :=
 cSk r n x0 x3 x4 h0
def bSs (r : RT) (n : Nat) (x0 x3 : DV) (h0 : Hp) : aH :=
 bSo r n x0 x3 (.i .i64 (Int.ofNat 0)) h0
def bAz (r : RT) (n : Nat) (x0 : DV) (h0 : Hp) : aH :=
 bSs r n x0 (.i .i64 (Int.ofNat 0)) h0
def bBi (r : RT) (n : Nat) (x0 : DV) (h0 : Hp) : aH :=
 bnd (cM x0 h0) fun v1 h1 =>
 bnd (aD .lss v1 (.i .i64 (Int.ofNat 1)) h1) fun v2 h2 =>
 bnd (gD v2 false (some (x0,h2)) h2) fun v3 h3 =>
 bnd (gD v2 false (cM v3 h3) h3) fun v4 h4 =>
 bnd (gD v2 false (aD .gtr v4 (.i .i64 (Int.ofNat 9)) h4) h4) fun v5 h5 =>
 bnd (aP v2 (.b true) v5 h5) fun v6 h6 =>
 bnd (gD v6 false (some (x0,h6)) h6) fun v7 h7 =>
 bnd (gD v6 false (cM v7 h7) h7) fun v8 h8 =>
 bnd (gD v6 false (aD .gtr v8 (.i .i64 (Int.ofNat 1)) h8) h8) fun v9 h9 =>
 bnd (gD v6 false (some (v9,h9)) h9) fun v10 h10 =>
 bnd (gD v10 true (some (x0,h10)) h10) fun v11 h11 =>
 bnd (gD v10 true (bX v11 (.i .i64 (Int.ofNat 0)) h11) h11) fun v12 h12 =>
 bnd (gD v10 true (aD .eql v12 (.i .u8 (Int.ofNat 48)) h12) h12) fun v13 h13 =>
 bnd (gD v6 false (aP v10 v13 (.b false) h13) h13) fun v14 h14 =>
 bnd (aP v6 (.b true) v14 h14) fun v15 h15 =>
 aT v15 (
 some ((.i .i64 (Int.negSucc 0)),h15)) (
  bAz r n x0 h15)
def s35 (r : RT) (n : Nat) (x0 : DV) (h0 : Hp) : aH :=
 bBi r n x0 h0
abbrev c35 : Code:=cf Tryz.f35
abbrev aZv : Code:=cR c35
abbrev bBy : Code:=cR aZv
abbrev aZb : Code:=cR bBy
abbrev dIv : Code:=cR aZb
abbrev aOp : Code:=cL aZb
abbrev bUm : Code:=cR aOp
abbrev aWk : Code:=cL bUm
abbrev aBc : Code:=cL aWk
abbrev cRa : Code:=cL aOp
abbrev bYz : Code:=cL bBy
abbrev bYm : Code:=cL aZv
abbrev bOh : Code:=cL c35
abbrev r35 : K:=aR CF Tryz.f35
def D35 (r : RT) (n : Nat) (c : Code) (X : Nat → K) (k : K) : K:=aM CF r 48 n c X r35 k
theorem cXg : D35 r n dIv x0 r35 = (K1 (gZ r n) 3) :=
 (by kernel_rfl)
theorem cMi (kk6 : dP) : D35 r n aBc (xs x0 0 (K1 (gZ r n) 3)) (K3 kk6 0 3 4) = (K3 (tH r n kk6) 0 3 4) :=
 (by kernel_rfl)
theorem cOm (m : Nat) : aL (fun kk=>D35 r n aBc (xs x0 0 (K1 (gZ r n) 3)) kk) m = (K3 (qF r n m) 0 3 4):=by
 induction m with
 | zero=>exact (by kernel_rfl : aL (fun kk=>D35 r n aBc (xs x0 0 (K1 (gZ r n) 3)) kk) 0 = (K3 (qF r n 0) 0 3 4))
 | succ m ih =>
  refine (by kernel_rfl : aL (fun kk=>D35 r n aBc (xs x0 0 (K1 (gZ r n) 3)) kk) (m + 1) = D35 r n aBc (xs x0 0 (K1 (gZ r n) 3)) (aL (fun kk=>D35 r n aBc (xs x0 0 (K1 (gZ r n) 3)) kk) m)).trans ?_
  rw [ih]
  exact (cMi r n (qF r n m)).trans (by kernel_rfl)
theorem dCs : D35 r n aWk (xs x0 0 (K1 (gZ r n) 3)) (K1 (gZ r n) 3) = (K3 (cSk r n) 0 3 4) :=
 (by kernel_rfl : D35 r n aWk (xs x0 0 (K1 (gZ r n) 3)) (K1 (gZ r n) 3) = aL (fun kk=>D35 r n aBc (xs x0 0 (K1 (gZ r n) 3)) kk) n).trans ((cOm r n n).trans (by kernel_rfl))
theorem cVj : D35 r n bUm x0 (K1 (gZ r n) 3) = (K3 (bSo r n) 0 3 4) :=
 (by kernel_rfl : D35 r n bUm x0 (K1 (gZ r n) 3) = D35 r n aWk (xs x0 0 (K1 (gZ r n) 3)) (K1 (gZ r n) 3)).trans
 ((dCs r n).trans (by kernel_rfl))
theorem cGn : D35 r n aZb x0 r35 = D35 r n aOp x0 (K1 (gZ r n) 3) :=
 congrArg (fun k=>D35 r n aOp x0 k) (cXg r n)
theorem cPz : D35 r n aOp x0 (K1 (gZ r n) 3) = D35 r n cRa x0 (K3 (bSo r n) 0 3 4) :=
 congrArg (fun k=>D35 r n cRa x0 k) (cVj r n)
theorem dHi : D35 r n aZb x0 r35 = (K2 (bSs r n) 0 3) :=
 (cGn r n).trans
 ((cPz r n).trans
 ((by kernel_rfl)))
theorem cDs : D35 r n bBy x0 r35 = D35 r n bYz x0 (K2 (bSs r n) 0 3) :=
 congrArg (fun k=>D35 r n bYz x0 k) (dHi r n)
theorem cWg : D35 r n bBy x0 r35 = (K1 (bAz r n) 0) :=
 (cDs r n).trans
 ((by kernel_rfl))
theorem cPa : D35 r n aZv x0 r35 = D35 r n bYm x0 (K1 (bAz r n) 0) :=
 congrArg (fun k=>D35 r n bYm x0 k) (cWg r n)
theorem dGx : D35 r n aZv x0 r35 = (K1 (bBi r n) 0) :=
 (cPa r n).trans
 ((by kernel_rfl))
theorem dIa : D35 r n c35 x0 r35 = D35 r n bOh x0 (K1 (bBi r n) 0) :=
 congrArg (fun k=>D35 r n bOh x0 k) (dGx r n)
theorem dUf : D35 r n c35 x0 r35 = (K1 (s35 r n) 0) :=
 (dIa r n).trans
 ((by kernel_rfl))
theorem cSj : aF CF r n 35 args h = s35 r n (aV args 0) h :=
 (by kernel_rfl : aF CF r n 35 args h = D35 r n c35 x0 r35 (aJ args) h).trans ((congrFun (congrFun (dUf r n) (aJ args)) h).trans (by kernel_rfl))
def s36 (r : RT) (n : Nat) (x0 : DV) (h0 : Hp) : aH :=
 bnd (r 55 [x0] h0) fun v1 h1 =>
 bnd (aC 0 v1 h1) fun v2 h2 =>
 bnd (aC 1 v1 h2) fun v3 h3 =>
 bnd (aD .neq v3 (.i .i64 (Int.ofNat 0)) h3) fun v4 h4 =>
 aT v4 (
 some (.t [.p0,v3],h4)) (
 bnd (bK [.p0,.p0,.p0,.l0,(.i .i64 (Int.ofNat 0))] [] h4) fun v5 h5 =>
 bnd (dA v5 h5) fun v6 h6 =>
 bnd (r 56 [v6,v2] h6) fun v7 h7 =>
 some (.t [v6,(.i .i64 (Int.ofNat 0))],h7))
abbrev c36 : Code:=cf Tryz.f36
abbrev r36 : K:=aR CF Tryz.f36
def D36 (r : RT) (n : Nat) (c : Code) (X : Nat → K) (k : K) : K:=aM CF r 21 n c X r36 k
theorem dSp : D36 r n c36 x0 r36 = (K1 (s36 r n) 0) :=
 (by kernel_rfl)
theorem cTx : aF CF r n 36 args h = s36 r n (aV args 0) h :=
 (by kernel_rfl : aF CF r n 36 args h = D36 r n c36 x0 r36 (aJ args) h).trans ((congrFun (congrFun (dSp r n) (aJ args)) h).trans (by kernel_rfl))
def gR (r : RT) (n : Nat) (h0 : Hp) : aH :=
 some ((.b true),h0)
def uH (r : RT) (n : Nat) (kk5 : eJ) (x0 x1 x12 x13 : DV) (h0 : Hp) : aH :=
 bnd (aD .lss x13 x12 h0) fun v1 h1 =>
 aT v1 (
 bnd (aE 1 x0 x13 h1) fun v2 h2 =>
 bnd (aA v2 h2) fun v3 h3 =>
 bnd (aE 1 x1 x13 h3) fun v4 h4 =>
 bnd (aA v4 h4) fun v5 h5 =>
 bnd (bI .neq v3 v5 h5) fun v6 h6 =>
 aT v6 (
 some ((.b false),h6)) (
 bnd (aD .add x13 (.i .i64 (Int.ofNat 1)) h6) fun v7 h7 =>
    kk5 x0 x1 x12 v7 h7)) (
      gR r n h1)
def qG (r : RT) (n : Nat) (m : Nat) : eJ :=
 Nat.rec (motive:=fun _=>eJ) (fun _ _ _ _ _=>none) (fun _ ih=>uH r n ih) m
def bYp (r : RT) (n : Nat) : eJ:=qG r n n
def bCs (r : RT) (n : Nat) (x0 x1 x12 x13 : DV) (h0 : Hp) : aH :=
 bYp r n x0 x1 x12 x13 h0
def aZh (r : RT) (n : Nat) (x0 x1 : DV) (h0 : Hp) : aH :=
 bnd (cB x0 h0) fun v1 h1 =>
  bCs r n x0 x1 v1 (.i .i64 (Int.ofNat 0)) h1
def bDi (r : RT) (n : Nat) (x0 x1 : DV) (h0 : Hp) : aH :=
 bnd (cB x0 h0) fun v1 h1 =>
 bnd (cB x1 h1) fun v2 h2 =>
 bnd (aD .neq v1 v2 h2) fun v3 h3 =>
 aT v3 (
 some ((.b false),h3)) (
  aZh r n x0 x1 h3)
def s44 (r : RT) (n : Nat) (x0 x1 : DV) (h0 : Hp) : aH :=
 bDi r n x0 x1 h0
abbrev c44 : Code:=cf Tryz.f44
abbrev aWv : Code:=cR c44
abbrev aWq : Code:=cR aWv
abbrev dMq : Code:=cR aWq
abbrev aNx : Code:=cL aWq
abbrev bQe : Code:=cR aNx
abbrev bAf : Code:=cL bQe
abbrev yW : Code:=cL bAf
abbrev cRb : Code:=cL aNx
abbrev cRt : Code:=cL aWv
abbrev bMz : Code:=cL c44
abbrev r44 : K:=aR CF Tryz.f44
def D44 (r : RT) (n : Nat) (c : Code) (X : Nat → K) (k : K) : K:=aM CF r 26 n c X r44 k
theorem dAf : D44 r n dMq x0 r44 = (K0 (gR r n)) :=
 (by kernel_rfl)
theorem cNz (kk5 : eJ) : D44 r n yW (xs x0 0 (K0 (gR r n))) (K4 kk5 0 1 12 13) = (K4 (uH r n kk5) 0 1 12 13) :=
 (by kernel_rfl)
theorem cGz (m : Nat) : aL (fun kk=>D44 r n yW (xs x0 0 (K0 (gR r n))) kk) m = (K4 (qG r n m) 0 1 12 13):=by
 induction m with
 | zero=>exact (by kernel_rfl : aL (fun kk=>D44 r n yW (xs x0 0 (K0 (gR r n))) kk) 0 = (K4 (qG r n 0) 0 1 12 13))
 | succ m ih =>
  refine (by kernel_rfl : aL (fun kk=>D44 r n yW (xs x0 0 (K0 (gR r n))) kk) (m + 1) = D44 r n yW (xs x0 0 (K0 (gR r n))) (aL (fun kk=>D44 r n yW (xs x0 0 (K0 (gR r n))) kk) m)).trans ?_
  rw [ih]
  exact (cNz r n (qG r n m)).trans (by kernel_rfl)
theorem dFq : D44 r n bAf (xs x0 0 (K0 (gR r n))) (K0 (gR r n)) = (K4 (bYp r n) 0 1 12 13) :=
 (by kernel_rfl : D44 r n bAf (xs x0 0 (K0 (gR r n))) (K0 (gR r n)) = aL (fun kk=>D44 r n yW (xs x0 0 (K0 (gR r n))) kk) n).trans ((cGz r n n).trans (by kernel_rfl))
theorem dFu : D44 r n bQe x0 (K0 (gR r n)) = (K4 (bCs r n) 0 1 12 13) :=
 (by kernel_rfl : D44 r n bQe x0 (K0 (gR r n)) = D44 r n bAf (xs x0 0 (K0 (gR r n))) (K0 (gR r n))).trans
 ((dFq r n).trans (by kernel_rfl))
theorem cJl : D44 r n aWq x0 r44 = D44 r n aNx x0 (K0 (gR r n)) :=
 congrArg (fun k=>D44 r n aNx x0 k) (dAf r n)
theorem cJu : D44 r n aNx x0 (K0 (gR r n)) = D44 r n cRb x0 (K4 (bCs r n) 0 1 12 13) :=
 congrArg (fun k=>D44 r n cRb x0 k) (dFu r n)
theorem cVq : D44 r n aWq x0 r44 = (K2 (aZh r n) 0 1) :=
 (cJl r n).trans
 ((cJu r n).trans
 ((by kernel_rfl)))
theorem cEd : D44 r n aWv x0 r44 = D44 r n cRt x0 (K2 (aZh r n) 0 1) :=
 congrArg (fun k=>D44 r n cRt x0 k) (cVq r n)
theorem cVm : D44 r n aWv x0 r44 = (K2 (bDi r n) 0 1) :=
 (cEd r n).trans
 ((by kernel_rfl))
theorem dJm : D44 r n c44 x0 r44 = D44 r n bMz x0 (K2 (bDi r n) 0 1) :=
 congrArg (fun k=>D44 r n bMz x0 k) (cVm r n)
theorem dQx : D44 r n c44 x0 r44 = (K2 (s44 r n) 0 1) :=
 (dJm r n).trans
 ((by kernel_rfl))
theorem cSq : aF CF r n 44 args h = s44 r n (aV args 0) (aV args 1) h :=
 (by kernel_rfl : aF CF r n 44 args h = D44 r n c44 x0 r44 (aJ args) h).trans ((congrFun (congrFun (dQx r n) (aJ args)) h).trans (by kernel_rfl))
def s45 (r : RT) (n : Nat) (x0 x1 : DV) (h0 : Hp) : aH :=
 bnd (aNu [x0,x1] h0) fun v1 h1 =>
 some (v1,h1)
abbrev c45 : Code:=cf Tryz.f45
abbrev r45 : K:=aR CF Tryz.f45
def D45 (r : RT) (n : Nat) (c : Code) (X : Nat → K) (k : K) : K:=aM CF r 8 n c X r45 k
theorem dUl : D45 r n c45 x0 r45 = (K2 (s45 r n) 0 1) :=
 (by kernel_rfl)
theorem cTw : aF CF r n 45 args h = s45 r n (aV args 0) (aV args 1) h :=
 (by kernel_rfl : aF CF r n 45 args h = D45 r n c45 x0 r45 (aJ args) h).trans ((congrFun (congrFun (dUl r n) (aJ args)) h).trans (by kernel_rfl))
def s50 (r : RT) (n : Nat) (x0 : DV) (h0 : Hp) : aH :=
 bnd (bY [(.i .i64 (Int.ofNat 0)),(.s []),(.s []),.l0,(.s []),(.i .i64 (Int.ofNat 0))] h0) fun v1 h1 =>
 bnd (r 17 [x0,(.s [32])] h1) fun v2 h2 =>
 bnd (cB v2 h2) fun v3 h3 =>
 bnd (aD .lss v3 (.i .i64 (Int.ofNat 2)) h3) fun v4 h4 =>
 bnd (gD v4 false (some (v2,h4)) h4) fun v5 h5 =>
 bnd (gD v4 false (r 73 [v5] h5) h5) fun v6 h6 =>
 bnd (gD v4 false (gQ .not v6 h6) h6) fun v7 h7 =>
 bnd (aP v4 (.b true) v7 h7) fun v8 h8 =>
 aT v8 (
 bnd (bK [(.i .i64 (Int.ofNat 0)),(.s []),(.s []),.l0,(.s []),(.i .i64 (Int.ofNat 0))] [] h8) fun v9 h9 =>
 bnd (aG 6 v1 v9 h9) fun _ h10 =>
 bnd (aK 6 v1 h10) fun v11 _ =>
 some (.t [v11,(.b false)],h10)) (
 bnd (aE 1 v2 (.i .i64 (Int.ofNat 0)) h8) fun v12 h12 =>
 bnd (aA v12 h12) fun v13 h13 =>
 bnd (aE 1 v2 (.i .i64 (Int.ofNat 1)) h13) fun v14 h14 =>
 bnd (aA v14 h14) fun v15 h15 =>
 bnd (dF 1 v2 (some (.i .i64 (Int.ofNat 2))) none h15) fun v16 h16 =>
 bnd (bK [(.i .i64 (Int.ofNat 0)),(.s []),(.s []),.l0,(.s []),(.i .i64 (Int.ofNat 0))] [(0,1,(.i .i64 (Int.ofNat 1))),(1,1,v13),(2,1,v15),(3,1,v16)] h16) fun v17 h17 =>
 bnd (aG 6 v1 v17 h17) fun v18 h18 =>
 bnd (aK 6 v1 h18) fun v19 _ =>
 some (.t [v19,(.b true)],h18))
abbrev c50 : Code:=cf Tryz.f50
abbrev r50 : K:=aR CF Tryz.f50
def D50 (r : RT) (n : Nat) (c : Code) (X : Nat → K) (k : K) : K:=aM CF r 25 n c X r50 k
theorem dVv : D50 r n c50 x0 r50 = (K1 (s50 r n) 0) :=
 (by kernel_rfl)
theorem cTd : aF CF r n 50 args h = s50 r n (aV args 0) h :=
 (by kernel_rfl : aF CF r n 50 args h = D50 r n c50 x0 r50 (aJ args) h).trans ((congrFun (congrFun (dVv r n) (aJ args)) h).trans (by kernel_rfl))
def s51 (r : RT) (n : Nat) (x0 : DV) (h0 : Hp) : aH :=
 bnd (bY [(.i .i64 (Int.ofNat 0)),(.s []),(.s []),.l0,(.s []),(.i .i64 (Int.ofNat 0))] h0) fun v1 h1 =>
 bnd (tL [x0,(.s [32])] h1) fun v2 h2 =>
 bnd (aC 0 v2 h2) fun v3 h3 =>
 bnd (aC 1 v2 h3) fun v4 h4 =>
 bnd (aC 2 v2 h4) fun v5 h5 =>
 bnd (bK [(.i .i64 (Int.ofNat 0)),(.s []),(.s []),.l0,(.s []),(.i .i64 (Int.ofNat 0))] [(0,1,(.i .i64 (Int.ofNat 2))),(1,1,v3),(4,1,v4)] h5) fun v6 h6 =>
 bnd (gD v5 true (some (v3,h6)) h6) fun v7 h7 =>
 bnd (gD v5 true (bI .neq v7 (.s []) h7) h7) fun v8 h8 =>
 bnd (aP v5 v8 (.b false) h8) fun v9 h9 =>
 bnd (aG 6 v1 v6 h9) fun _ h10 =>
 bnd (aK 6 v1 h10) fun v11 _ =>
 some (.t [v11,v9],h10)
abbrev c51 : Code:=cf Tryz.f51
abbrev r51 : K:=aR CF Tryz.f51
def D51 (r : RT) (n : Nat) (c : Code) (X : Nat → K) (k : K) : K:=aM CF r 21 n c X r51 k
theorem dVo : D51 r n c51 x0 r51 = (K1 (s51 r n) 0) :=
 (by kernel_rfl)
theorem cRp : aF CF r n 51 args h = s51 r n (aV args 0) h :=
 (by kernel_rfl : aF CF r n 51 args h = D51 r n c51 x0 r51 (aJ args) h).trans ((congrFun (congrFun (dVo r n) (aJ args)) h).trans (by kernel_rfl))
def s52 (r : RT) (n : Nat) (x0 : DV) (h0 : Hp) : aH :=
 bnd (bY [(.i .i64 (Int.ofNat 0)),(.s []),(.s []),.l0,(.s []),(.i .i64 (Int.ofNat 0))] h0) fun v1 h1 =>
 bnd (tL [x0,(.s [32])] h1) fun v2 h2 =>
 bnd (aC 0 v2 h2) fun v3 h3 =>
 bnd (aC 1 v2 h3) fun v4 h4 =>
 bnd (aC 2 v2 h4) fun v5 h5 =>
 bnd (gK [v3] h5) fun v6 h6 =>
 bnd (aC 0 v6 h6) fun v7 h7 =>
 bnd (aC 1 v6 h7) fun v8 h8 =>
 bnd (bK [(.i .i64 (Int.ofNat 0)),(.s []),(.s []),.l0,(.s []),(.i .i64 (Int.ofNat 0))] [(0,1,(.i .i64 (Int.ofNat 3))),(5,1,v7),(4,1,v4)] h8) fun v9 h9 =>
 bnd (gD v5 true (some (v8,h9)) h9) fun v10 h10 =>
 bnd (aP v5 v10 (.b false) h10) fun v11 h11 =>
 bnd (aG 6 v1 v9 h11) fun _ h12 =>
 bnd (aK 6 v1 h12) fun v13 _ =>
 some (.t [v13,v11],h12)
abbrev c52 : Code:=cf Tryz.f52
abbrev r52 : K:=aR CF Tryz.f52
def D52 (r : RT) (n : Nat) (c : Code) (X : Nat → K) (k : K) : K:=aM CF r 27 n c X r52 k
theorem dTk : D52 r n c52 x0 r52 = (K1 (s52 r n) 0) :=
 (by kernel_rfl)
theorem cTh : aF CF r n 52 args h = s52 r n (aV args 0) h :=
 (by kernel_rfl : aF CF r n 52 args h = D52 r n c52 x0 r52 (aJ args) h).trans ((congrFun (congrFun (dTk r n) (aJ args)) h).trans (by kernel_rfl))
def s53 (r : RT) (n : Nat) (x0 : DV) (h0 : Hp) : aH :=
 bnd (dA x0 h0) fun v1 h1 =>
 some ((.f 75 [] [v1]),h1)
abbrev c53 : Code:=cf Tryz.f53
abbrev r53 : K:=aR CF Tryz.f53
def D53 (r : RT) (n : Nat) (c : Code) (X : Nat → K) (k : K) : K:=aM CF r 4 n c X r53 k
theorem dVp : D53 r n c53 x0 r53 = (K1 (s53 r n) 0) :=
 (by kernel_rfl)
theorem cUh : aF CF r n 53 args h = s53 r n (aV args 0) h :=
 (by kernel_rfl : aF CF r n 53 args h = D53 r n c53 x0 r53 (aJ args) h).trans ((congrFun (congrFun (dVp r n) (aJ args)) h).trans (by kernel_rfl))
def s54 (r : RT) (n : Nat) (x0 : DV) (h0 : Hp) : aH :=
 bnd (bY [(.i .i64 (Int.ofNat 0)),(.s []),(.s []),.l0,(.s []),(.i .i64 (Int.ofNat 0))] h0) fun v1 h1 =>
 bnd (gK [x0] h1) fun v2 h2 =>
 bnd (aC 0 v2 h2) fun v3 h3 =>
 bnd (aC 1 v2 h3) fun v4 h4 =>
 bnd (bK [(.i .i64 (Int.ofNat 0)),(.s []),(.s []),.l0,(.s []),(.i .i64 (Int.ofNat 0))] [(0,1,(.i .i64 (Int.ofNat 8))),(5,1,v3)] h4) fun v5 h5 =>
 bnd (aG 6 v1 v5 h5) fun _ h6 =>
 bnd (aK 6 v1 h6) fun v7 _ =>
 some (.t [v7,v4],h6)
abbrev c54 : Code:=cf Tryz.f54
abbrev r54 : K:=aR CF Tryz.f54
def D54 (r : RT) (n : Nat) (c : Code) (X : Nat → K) (k : K) : K:=aM CF r 14 n c X r54 k
theorem dUj : D54 r n c54 x0 r54 = (K1 (s54 r n) 0) :=
 (by kernel_rfl)
theorem cTe : aF CF r n 54 args h = s54 r n (aV args 0) h :=
 (by kernel_rfl : aF CF r n 54 args h = D54 r n c54 x0 r54 (aJ args) h).trans ((congrFun (congrFun (dUj r n) (aJ args)) h).trans (by kernel_rfl))
end Go.Dd

namespace Go.Dd
open Go.Proofs
variable (r : RT) (n : Nat) (args : List DV) (h : Hp)
def fM (r : RT) (n : Nat) (x5 : DV) (h0 : Hp) : aH :=
 some (.t [x5,(.i .i64 (Int.ofNat 0))],h0)
def lK (r : RT) (n : Nat) (kk9 : eJ) (x5 x155 x156 x157 : DV) (h0 : Hp) : aH :=
 bnd (aD .lss x157 x156 h0) fun v1 h1 =>
 aT v1 (
 bnd (aE 1 x155 x157 h1) fun v2 h2 =>
 bnd (aA v2 h2) fun v3 h3 =>
 bnd (aE 1 v3 (.i .i64 (Int.ofNat 0)) h3) fun v4 h4 =>
 bnd (aA v4 h4) fun v5 h5 =>
 bnd (aE 1 v3 (.i .i64 (Int.ofNat 1)) h5) fun v6 h6 =>
 bnd (aA v6 h6) fun v7 h7 =>
 bnd (r 87 [x5,v5,v7] h7) fun v8 h8 =>
 bnd (aC 0 v8 h8) fun v9 h9 =>
 bnd (aC 1 v8 h9) fun v10 h10 =>
 bnd (aC 2 v8 h10) fun v11 h11 =>
 bnd (aC 3 v8 h11) fun v12 h12 =>
 bnd (aD .neq v12 (.i .i64 (Int.ofNat 0)) h12) fun v13 h13 =>
 aT v13 (
 some (.t [.p0,v12],h13)) (
 bnd (aD .add x157 (.i .i64 (Int.ofNat 1)) h13) fun v14 h14 =>
    kk9 x5 x155 x156 v14 h14)) (
      fM r n x5 h1)
def lH (r : RT) (n : Nat) (m : Nat) : eJ :=
 Nat.rec (motive:=fun _=>eJ) (fun _ _ _ _ _=>none) (fun _ ih=>lK r n ih) m
def aWf (r : RT) (n : Nat) : eJ:=lH r n n
def bMr (r : RT) (n : Nat) (x5 x155 x156 x157 : DV) (h0 : Hp) : aH :=
 aWf r n x5 x155 x156 x157 h0
def bE (r : RT) (n : Nat) (x5 : DV) (h0 : Hp) : aH :=
 bnd (r 86 [] h0) fun v1 h1 =>
 bnd (cB v1 h1) fun v2 h2 =>
  bMr r n x5 v1 v2 (.i .i64 (Int.ofNat 0)) h2
def aX (r : RT) (n : Nat) (kk11 : dJ) (x4 x5 x59 x60 x61 : DV) (h0 : Hp) : aH :=
 bnd (aD .add x61 (.i .i64 (Int.ofNat 1)) h0) fun v1 h1 =>
  kk11 x4 x5 x59 x60 v1 h1
def fH (r : RT) (n : Nat) (kk11 : dJ) (x4 x5 x8 x9 x59 x60 x61 : DV) (h0 : Hp) : aH :=
 bnd (aY x5 h0) fun v1 h1 =>
 bnd (aB 1 v1 h1) fun v2 h2 =>
 bnd (aA v2 h2) fun v3 h3 =>
 bnd (aY x5 h3) fun v4 h4 =>
 bnd (aB 1 v4 h4) fun v5 h5 =>
 bnd (aA v5 h5) fun v6 h6 =>
 bnd (aE 1 v6 (.i .i64 (Int.ofNat 1)) h6) fun v7 h7 =>
 bnd (aA v7 h7) fun v8 h8 =>
 bnd (r 85 [x5,x9,v8] h8) fun v9 h9 =>
 cnd (bJ (aA v2 h9) v3 && true) (
 bnd (aC 0 v9 h9) fun v10 h10 =>
 bnd (aC 1 v9 h10) fun v11 h11 =>
 bnd (aE 1 v3 (.i .i64 (Int.ofNat 1)) h11) fun v12 h12 =>
 bnd (aG 1 v12 v10 h12) fun v13 h13 =>
 bnd (aY x5 h13) fun v14 h14 =>
 bnd (aB 3 v14 h14) fun v15 h15 =>
 bnd (aA v15 h15) fun v16 h16 =>
 bnd (aB 0 x8 h16) fun v17 h17 =>
 bnd (aA v17 h17) fun v18 h18 =>
 bnd (dS .string v16 v18 x9 h18) fun v19 h19 =>
  aX r n kk11 x4 x5 x59 x60 x61 h19)
def aYh (r : RT) (n : Nat) (kk11 : dJ) (kk25 : aTv) (x4 x5 x8 x9 x59 x60 x61 x117 x118 x119 : DV) (h0 : Hp) : aH :=
 bnd (aD .lss x119 x118 h0) fun v1 h1 =>
 aT v1 (
 bnd (aE 1 x117 x119 h1) fun v2 h2 =>
 bnd (aA v2 h2) fun v3 h3 =>
 bnd (aMi [x4,x9,x119,v3] h3) fun v4 h4 =>
 bnd (aD .add x119 (.i .i64 (Int.ofNat 1)) h4) fun v5 h5 =>
      kk25 x4 x5 x8 x9 x59 x60 x61 x117 x118 v5 h5) (
      fH r n kk11 x4 x5 x8 x9 x59 x60 x61 h1)
def xR (r : RT) (n : Nat) (kk11 : dJ) (m : Nat) : aTv :=
 Nat.rec (motive:=fun _=>aTv) (fun _ _ _ _ _ _ _ _ _ _ _=>none) (fun _ ih=>aYh r n kk11 ih) m
def bLl (r : RT) (n : Nat) (kk11 : dJ) : aTv:=xR r n kk11 n
def aBj (r : RT) (n : Nat) (kk11 : dJ) (x4 x5 x8 x9 x59 x60 x61 x117 x118 x119 : DV) (h0 : Hp) : aH :=
 bLl r n kk11 x4 x5 x8 x9 x59 x60 x61 x117 x118 x119 h0
def aJj (r : RT) (n : Nat) (kk11 : dJ) (x4 x5 x8 x9 x10 x12 x13 x19 x59 x60 x61 : DV) (h0 : Hp) : aH :=
 bnd (r 83 [x13] (resv 1 h0)) fun v1 h1 =>
 bnd (aB 2 x8 h1) fun v2 h2 =>
 bnd (aA v2 h2) fun v3 h3 =>
 cnd (bJ (aA v2 (resv 1 h0)) v3 && true) (
 bnd (r 83 [v3] h3) fun v4 h4 =>
 bnd (cS (cW 0 h0.next) [(.i .i64 (Int.ofNat 0)),(.i .i64 (Int.ofNat 0)),(.i .i64 (Int.ofNat 0)),(.i .i64 (Int.ofNat 0)),(.i .i64 (Int.ofNat 0)),(.i .i64 (Int.ofNat 0))] 6 [(0,1,x10),(1,1,x12),(2,1,v1),(3,1,x19),(4,1,(.i .i64 (Int.ofNat 0))),(5,1,v4)] h4) fun v5 h5 =>
 bnd (cB v5 h5) fun v6 h6 =>
  aBj r n kk11 x4 x5 x8 x9 x59 x60 x61 v5 v6 (.i .i64 (Int.ofNat 0)) h6)
def qT (r : RT) (n : Nat) (kk11 : dJ) (x4 x5 x8 x9 x10 x12 x13 x14 x59 x60 x61 : DV) (h0 : Hp) : aH :=
 bnd (r 82 [x5,x14] h0) fun v1 h1 =>
 bnd (aC 0 v1 h1) fun v2 h2 =>
 bnd (aC 1 v1 h2) fun v3 h3 =>
  aJj r n kk11 x4 x5 x8 x9 x10 x12 x13 v2 x59 x60 x61 h3
def aBw (r : RT) (n : Nat) (kk11 : dJ) (x4 x5 x7 x8 x9 x10 x12 x13 x14 x59 x60 x61 : DV) (h0 : Hp) : aH :=
 bnd (aD .eql x7 (.i .i64 (Int.ofNat 15)) h0) fun v1 h1 =>
 aT v1 (
 bnd (r 81 [x5,(.s [115,101,108,101,99,116,111,114])] h1) fun v2 h2 =>
 bnd (aC 0 v2 h2) fun v3 h3 =>
 bnd (aC 1 v2 h3) fun v4 h4 =>
 bnd (r 81 [x5,(.s [97,114,103,117,109,101,110,116,115])] h4) fun v5 h5 =>
 bnd (aC 0 v5 h5) fun v6 h6 =>
 bnd (aC 1 v5 h6) fun v7 h7 =>
 bnd (aO [(.i .i64 (Int.ofNat 0)),(.i .i64 (Int.ofNat 0))] 2 [(0,1,v3),(1,1,v6)] h7) fun v8 h8 =>
  qT r n kk11 x4 x5 x8 x9 x10 x12 (.i .i64 (Int.ofNat 2)) v8 x59 x60 x61 h8) (
  qT r n kk11 x4 x5 x8 x9 x10 x12 x13 x14 x59 x60 x61 h1)
def aTu (r : RT) (n : Nat) (kk11 : dJ) (x4 x5 x7 x8 x9 x10 x12 x13 x14 x59 x60 x61 : DV) (h0 : Hp) : aH :=
 bnd (aB 1 x8 h0) fun v1 h1 =>
 bnd (aA v1 h1) fun v2 h2 =>
 bnd (aD .geq v2 (.i .i64 (Int.ofNat 0)) h2) fun v3 h3 =>
 aT v3 (
 bnd (aB 1 x8 h3) fun v4 h4 =>
 bnd (aA v4 h4) fun v5 h5 =>
 bnd (r 79 [x5,v5] h5) fun v6 h6 =>
  aBw r n kk11 x4 x5 x7 x8 x9 x10 v6 x13 x14 x59 x60 x61 h6) (
  aBw r n kk11 x4 x5 x7 x8 x9 x10 x12 x13 x14 x59 x60 x61 h3)
def aUu (r : RT) (n : Nat) (kk11 : dJ) (x4 x5 x7 x8 x9 x10 x59 x60 x61 : DV) (h0 : Hp) : aH :=
 aTu r n kk11 x4 x5 x7 x8 x9 x10 (.i .i64 (Int.ofNat 0)) (.i .i64 (Int.ofNat 0)) .l0 x59 x60 x61 h0
def aPq (r : RT) (n : Nat) (kk11 : dJ) (x4 x5 x7 x8 x9 x59 x60 x61 : DV) (h0 : Hp) : aH :=
 bnd (aB 0 x8 h0) fun v1 h1 =>
 bnd (aA v1 h1) fun v2 h2 =>
 bnd (r 81 [x5,v2] h2) fun v3 h3 =>
 bnd (aC 0 v3 h3) fun v4 h4 =>
 bnd (aC 1 v3 h4) fun v5 h5 =>
  aUu r n kk11 x4 x5 x7 x8 x9 v4 x59 x60 x61 h5
def aQv (r : RT) (n : Nat) (kk11 : dJ) (x4 x5 x7 x8 x9 x59 x60 x61 : DV) (h0 : Hp) : aH :=
 bnd (r 79 [x5,(.i .i64 (Int.ofNat 1))] h0) fun v1 h1 =>
 bnd (lV [x4,x9,v1] h1) fun v2 h2 =>
  aPq r n kk11 x4 x5 x7 x8 x9 x59 x60 x61 h2
def xX (r : RT) (n : Nat) (kk11 : dJ) (x4 x5 x7 x8 x59 x60 x61 : DV) (h0 : Hp) : aH :=
 bnd (r 79 [x5,x7] h0) fun v1 h1 =>
  aQv r n kk11 x4 x5 x7 x8 v1 x59 x60 x61 h1
def aGz (r : RT) (n : Nat) (kk11 : dJ) (x4 x5 x59 x60 x61 : DV) (h0 : Hp) : aH :=
 bnd (aE 3 x59 x61 h0) fun v1 h1 =>
 bnd (aK 3 v1 h1) fun v2 h2 =>
 bnd (bY [(.s []),(.i .i64 (Int.ofNat 0)),(.i .i64 (Int.ofNat 0))] h2) fun v3 h3 =>
 bnd (aG 3 v3 v2 h3) fun _ h4 =>
  xX r n kk11 x4 x5 x61 v3 x59 x60 x61 h4
def aQx (r : RT) (n : Nat) (kk11 : dJ) (x4 x5 x59 x60 x61 x62 : DV) (h0 : Hp) : aH :=
 aT x62 (
  aGz r n kk11 x4 x5 x59 x60 x61 h0) (
  bE r n x5 h0)
def bDv (r : RT) (n : Nat) (kk11 : dJ) (x4 x5 x59 x60 x61 : DV) (h0 : Hp) : aH :=
 bnd (aD .lss x61 x60 h0) fun v1 h1 =>
  aQx r n kk11 x4 x5 x59 x60 x61 v1 h1
def vT (r : RT) (n : Nat) (m : Nat) : dJ :=
 Nat.rec (motive:=fun _=>dJ) (fun _ _ _ _ _ _=>none) (fun _ ih=>bDv r n ih) m
def bUk (r : RT) (n : Nat) : dJ:=vT r n n
def aSl (r : RT) (n : Nat) (x4 x5 x59 x60 x61 : DV) (h0 : Hp) : aH :=
 bUk r n x4 x5 x59 x60 x61 h0
def iH (r : RT) (n : Nat) (x4 x5 : DV) (h0 : Hp) : aH :=
 bnd (r 78 [] h0) fun v1 h1 =>
 bnd (cB v1 h1) fun v2 h2 =>
  aSl r n x4 x5 v1 v2 (.i .i64 (Int.ofNat 0)) h2
def bCp (r : RT) (n : Nat) (kk27 : dP) (x4 x5 x43 : DV) (h0 : Hp) : aH :=
 bnd (aD .lss x43 (.i .i64 (Int.ofNat 16)) h0) fun v1 h1 =>
 aT v1 (
 bnd (aY x5 h1) fun v2 h2 =>
 bnd (aB 1 v2 h2) fun v3 h3 =>
 bnd (aA v3 h3) fun v4 h4 =>
 bnd (aD .add (.i .i64 (Int.ofNat 2)) x43 h4) fun v5 h5 =>
 bnd (uZ [x4,(.i .i64 (Int.ofNat 0)),(.i .i64 (Int.ofNat 0)),(.i .i64 (Int.ofNat 6))] h5) fun v6 h6 =>
 cnd (bJ (aA v3 h6) v4 && true) (
 bnd (aC 0 v6 h6) fun v7 h7 =>
 bnd (aC 1 v6 h7) fun v8 h8 =>
 bnd (aE 1 v4 v5 h8) fun v9 h9 =>
 bnd (aG 1 v9 v7 h9) fun v10 h10 =>
 bnd (aD .add x43 (.i .i64 (Int.ofNat 1)) h10) fun v11 h11 =>
      kk27 x4 x5 v11 h11)) (
      iH r n x4 x5 h1)
def vZ (r : RT) (n : Nat) (m : Nat) : dP :=
 Nat.rec (motive:=fun _=>dP) (fun _ _ _ _=>none) (fun _ ih=>bCp r n ih) m
def bQm (r : RT) (n : Nat) : dP:=vZ r n n
def aTa (r : RT) (n : Nat) (x4 x5 x43 : DV) (h0 : Hp) : aH :=
 bQm r n x4 x5 x43 h0
def aLx (r : RT) (n : Nat) (x4 x5 : DV) (h0 : Hp) : aH :=
 aTa r n x4 x5 (.i .i64 (Int.ofNat 0)) h0
def aXc (r : RT) (n : Nat) (x4 : DV) (h0 : Hp) : aH :=
 bnd (bU 1 8 [(.i .i64 (Int.ofNat 0))] (.i .i64 (Int.ofNat 18)) (.i .i64 (Int.ofNat 18)) h0) fun v1 h1 =>
 bnd (dW h1) fun v2 h2 =>
 bnd (dW h2) fun v3 h3 =>
 bnd (bK [.p0,.l0,.m0,.m0] [(0,1,x4),(1,1,v1),(2,1,v2),(3,1,v3)] h3) fun v4 h4 =>
 bnd (dA v4 h4) fun v5 h5 =>
  aLx r n x4 v5 h5
def bXy (r : RT) (n : Nat) (x0 x4 : DV) (h0 : Hp) : aH :=
 bnd (pEq (.pointer 181) true x4 .p0 h0) fun v1 h1 =>
 aT v1 (
 some (.t [.p0,(.i .i64 (Int.ofNat 1))],h1)) (
 bnd (aD .lss x0 (.i .i64 (Int.ofNat 16384)) h1) fun v2 h2 =>
 aT v2 (
 some (.t [.p0,(.i .i64 (Int.ofNat 4))],h2)) (
   aXc r n x4 h2))
def bPn (r : RT) (n : Nat) (x0 : DV) (h0 : Hp) : aH :=
 bnd (aUy [x0] h0) fun v1 h1 =>
  bXy r n x0 v1 h1
def s55 (r : RT) (n : Nat) (x0 : DV) (h0 : Hp) : aH :=
 bPn r n x0 h0
abbrev c55 : Code:=cf Tryz.f55
abbrev bAs : Code:=cR c55
abbrev aYk : Code:=cR bAs
abbrev bCb : Code:=cR aYk
abbrev aXh : Code:=cR bCb
abbrev bDs : Code:=cR aXh
abbrev aZi : Code:=cR bDs
abbrev dJw : Code:=cR aZi
abbrev aOh : Code:=cL aZi
abbrev bSp : Code:=cR aOh
abbrev aEi : Code:=cL bSp
abbrev rG : Code:=cL aEi
abbrev bPj : Code:=cL aOh
abbrev aCb : Code:=cL bDs
abbrev aUa : Code:=cR aCb
abbrev aFm : Code:=cL aUa
abbrev lF : Code:=cL aFm
abbrev aIj : Code:=cR lF
abbrev aLc : Code:=cR aIj
abbrev cWx : Code:=cR aLc
abbrev aKr : Code:=cL aLc
abbrev aEz : Code:=cL aKr
abbrev aJl : Code:=cR aEz
abbrev aIe : Code:=cR aJl
abbrev aFo : Code:=cR aIe
abbrev aGa : Code:=cR aFo
abbrev aJk : Code:=cR aGa
abbrev aGe : Code:=cR aJk
abbrev aGm : Code:=cR aGe
abbrev aEs : Code:=cR aGm
abbrev dHc : Code:=cR aEs
abbrev yA : Code:=cL aEs
abbrev aRh : Code:=cR yA
abbrev aLb : Code:=cL aRh
abbrev qO : Code:=cL aLb
abbrev aSz : Code:=cL yA
abbrev bKf : Code:=cL aGm
abbrev aSh : Code:=cL aGe
abbrev bKe : Code:=cL aJk
abbrev bSu : Code:=cL aGa
abbrev bWb : Code:=cL aFo
abbrev bLb : Code:=cL aIe
abbrev bZk : Code:=cL aJl
abbrev aSd : Code:=cL aEz
abbrev bTo : Code:=cL aIj
abbrev bVc : Code:=cL lF
abbrev bSy : Code:=cL aCb
abbrev aAc : Code:=cL aXh
abbrev aPk : Code:=cR aAc
abbrev aId : Code:=cL aPk
abbrev qE : Code:=cL aId
abbrev bVp : Code:=cL aAc
abbrev aTk : Code:=cL bCb
abbrev bTh : Code:=cL aYk
abbrev bUc : Code:=cL bAs
abbrev bVs : Code:=cL c55
abbrev r55 : K:=aR CF Tryz.f55
def D55 (r : RT) (n : Nat) (c : Code) (X : Nat → K) (k : K) : K:=aM CF r 179 n c X r55 k
theorem bOp : D55 r n dJw x0 r55 = (K1 (fM r n) 5) :=
 (by kernel_rfl)
theorem aYb (kk9 : eJ) : D55 r n rG (xs x0 7 (K1 (fM r n) 5)) (K4 kk9 5 155 156 157) = (K4 (lK r n kk9) 5 155 156 157) :=
 (by kernel_rfl)
theorem cCy (m : Nat) : aL (fun kk=>D55 r n rG (xs x0 7 (K1 (fM r n) 5)) kk) m = (K4 (lH r n m) 5 155 156 157):=by
 induction m with
 | zero=>exact (by kernel_rfl : aL (fun kk=>D55 r n rG (xs x0 7 (K1 (fM r n) 5)) kk) 0 = (K4 (lH r n 0) 5 155 156 157))
 | succ m ih =>
  refine (by kernel_rfl : aL (fun kk=>D55 r n rG (xs x0 7 (K1 (fM r n) 5)) kk) (m + 1) = D55 r n rG (xs x0 7 (K1 (fM r n) 5)) (aL (fun kk=>D55 r n rG (xs x0 7 (K1 (fM r n) 5)) kk) m)).trans ?_
  rw [ih]
  exact (aYb r n (lH r n m)).trans (by kernel_rfl)
theorem bYi : D55 r n aEi (xs x0 7 (K1 (fM r n) 5)) (K1 (fM r n) 5) = (K4 (aWf r n) 5 155 156 157) :=
 (by kernel_rfl : D55 r n aEi (xs x0 7 (K1 (fM r n) 5)) (K1 (fM r n) 5) = aL (fun kk=>D55 r n rG (xs x0 7 (K1 (fM r n) 5)) kk) n).trans ((cCy r n n).trans (by kernel_rfl))
theorem cXy : D55 r n bSp x0 (K1 (fM r n) 5) = (K4 (bMr r n) 5 155 156 157) :=
 (by kernel_rfl : D55 r n bSp x0 (K1 (fM r n) 5) = D55 r n aEi (xs x0 7 (K1 (fM r n) 5)) (K1 (fM r n) 5)).trans
 ((bYi r n).trans (by kernel_rfl))
theorem cIb : D55 r n aZi x0 r55 = D55 r n aOh x0 (K1 (fM r n) 5) :=
 congrArg (fun k=>D55 r n aOh x0 k) (bOp r n)
theorem cGk : D55 r n aOh x0 (K1 (fM r n) 5) = D55 r n bPj x0 (K4 (bMr r n) 5 155 156 157) :=
 congrArg (fun k=>D55 r n bPj x0 k) (cXy r n)
theorem dGc : D55 r n aZi x0 r55 = (K1 (bE r n) 5) :=
 (cIb r n).trans
 ((cGk r n).trans
 ((by kernel_rfl)))
theorem cHj (kk11 : dJ) : D55 r n cWx (xs x0 3 (K1 (bE r n) 5)) (K5 kk11 4 5 59 60 61) = (K5 (aX r n kk11) 4 5 59 60 61) :=
 (by kernel_rfl)
theorem cEf (kk11 : dJ) : D55 r n dHc (xs (xs x0 3 (K1 (bE r n) 5)) 4 (K5 (aX r n kk11) 4 5 59 60 61)) (K5 (aX r n kk11) 4 5 59 60 61) = (K7 (fH r n kk11) 4 5 8 9 59 60 61) :=
 (by kernel_rfl)
theorem bKn (kk11 : dJ) (kk25 : aTv) : D55 r n qO (xs (xs (xs x0 3 (K1 (bE r n) 5)) 4 (K5 (aX r n kk11) 4 5 59 60 61)) 5 (K7 (fH r n kk11) 4 5 8 9 59 60 61)) (K10 kk25 4 5 8 9 59 60 61 117 118 119) = (K10 (aYh r n kk11 kk25) 4 5 8 9 59 60 61 117 118 119) :=
 (by kernel_rfl)
theorem bVw (kk11 : dJ) (m : Nat) : aL (fun kk=>D55 r n qO (xs (xs (xs x0 3 (K1 (bE r n) 5)) 4 (K5 (aX r n kk11) 4 5 59 60 61)) 5 (K7 (fH r n kk11) 4 5 8 9 59 60 61)) kk) m = (K10 (xR r n kk11 m) 4 5 8 9 59 60 61 117 118 119):=by
 induction m with
 | zero=>exact (by kernel_rfl : aL (fun kk=>D55 r n qO (xs (xs (xs x0 3 (K1 (bE r n) 5)) 4 (K5 (aX r n kk11) 4 5 59 60 61)) 5 (K7 (fH r n kk11) 4 5 8 9 59 60 61)) kk) 0 = (K10 (xR r n kk11 0) 4 5 8 9 59 60 61 117 118 119))
 | succ m ih =>
  refine (by kernel_rfl : aL (fun kk=>D55 r n qO (xs (xs (xs x0 3 (K1 (bE r n) 5)) 4 (K5 (aX r n kk11) 4 5 59 60 61)) 5 (K7 (fH r n kk11) 4 5 8 9 59 60 61)) kk) (m + 1) = D55 r n qO (xs (xs (xs x0 3 (K1 (bE r n) 5)) 4 (K5 (aX r n kk11) 4 5 59 60 61)) 5 (K7 (fH r n kk11) 4 5 8 9 59 60 61)) (aL (fun kk=>D55 r n qO (xs (xs (xs x0 3 (K1 (bE r n) 5)) 4 (K5 (aX r n kk11) 4 5 59 60 61)) 5 (K7 (fH r n kk11) 4 5 8 9 59 60 61)) kk) m)).trans ?_
  rw [ih]
  exact (bKn r n kk11 (xR r n kk11 m)).trans (by kernel_rfl)
theorem cQe (kk11 : dJ) : D55 r n aLb (xs (xs (xs x0 3 (K1 (bE r n) 5)) 4 (K5 (aX r n kk11) 4 5 59 60 61)) 5 (K7 (fH r n kk11) 4 5 8 9 59 60 61)) (K7 (fH r n kk11) 4 5 8 9 59 60 61) = (K10 (bLl r n kk11) 4 5 8 9 59 60 61 117 118 119) :=
 (by kernel_rfl : D55 r n aLb (xs (xs (xs x0 3 (K1 (bE r n) 5)) 4 (K5 (aX r n kk11) 4 5 59 60 61)) 5 (K7 (fH r n kk11) 4 5 8 9 59 60 61)) (K7 (fH r n kk11) 4 5 8 9 59 60 61) = aL (fun kk=>D55 r n qO (xs (xs (xs x0 3 (K1 (bE r n) 5)) 4 (K5 (aX r n kk11) 4 5 59 60 61)) 5 (K7 (fH r n kk11) 4 5 8 9 59 60 61)) kk) n).trans ((bVw r n kk11 n).trans (by kernel_rfl))
theorem cGx (kk11 : dJ) : D55 r n aRh (xs (xs x0 3 (K1 (bE r n) 5)) 4 (K5 (aX r n kk11) 4 5 59 60 61)) (K7 (fH r n kk11) 4 5 8 9 59 60 61) = (K10 (aBj r n kk11) 4 5 8 9 59 60 61 117 118 119) :=
 (by kernel_rfl : D55 r n aRh (xs (xs x0 3 (K1 (bE r n) 5)) 4 (K5 (aX r n kk11) 4 5 59 60 61)) (K7 (fH r n kk11) 4 5 8 9 59 60 61) = D55 r n aLb (xs (xs (xs x0 3 (K1 (bE r n) 5)) 4 (K5 (aX r n kk11) 4 5 59 60 61)) 5 (K7 (fH r n kk11) 4 5 8 9 59 60 61)) (K7 (fH r n kk11) 4 5 8 9 59 60 61)).trans
 ((cQe r n kk11).trans (by kernel_rfl))
theorem bJn (kk11 : dJ) : D55 r n aEs (xs (xs x0 3 (K1 (bE r n) 5)) 4 (K5 (aX r n kk11) 4 5 59 60 61)) (K5 (aX r n kk11) 4 5 59 60 61) = D55 r n yA (xs (xs x0 3 (K1 (bE r n) 5)) 4 (K5 (aX r n kk11) 4 5 59 60 61)) (K7 (fH r n kk11) 4 5 8 9 59 60 61) :=
 congrArg (fun k=>D55 r n yA (xs (xs x0 3 (K1 (bE r n) 5)) 4 (K5 (aX r n kk11) 4 5 59 60 61)) k) (cEf r n kk11)
theorem cBh (kk11 : dJ) : D55 r n yA (xs (xs x0 3 (K1 (bE r n) 5)) 4 (K5 (aX r n kk11) 4 5 59 60 61)) (K7 (fH r n kk11) 4 5 8 9 59 60 61) = D55 r n aSz (xs (xs x0 3 (K1 (bE r n) 5)) 4 (K5 (aX r n kk11) 4 5 59 60 61)) (K10 (aBj r n kk11) 4 5 8 9 59 60 61 117 118 119) :=
 congrArg (fun k=>D55 r n aSz (xs (xs x0 3 (K1 (bE r n) 5)) 4 (K5 (aX r n kk11) 4 5 59 60 61)) k) (cGx r n kk11)
theorem bJp (kk11 : dJ) (q0 : aTv) (q1 : TT1) (q2 : dJ) : D55 r n aSz (xs (xs x0 3 (K1 q1 5)) 4 (K5 q2 4 5 59 60 61)) (K10 q0 4 5 8 9 59 60 61 117 118 119) = fun (env : bA) (h : Hp) =>
 bnd (r 83 [(env 13)] (resv 1 h)) fun v1 h1 =>
 bnd (aB 2 (env 8) h1) fun v2 h2 =>
 bnd (aA v2 h2) fun v3 h3 =>
 cnd (bJ (aA v2 (resv 1 h)) v3 && true) (
 bnd (r 83 [v3] h3) fun v4 h4 =>
 bnd (cS (cW 0 h.next) [(.i .i64 (Int.ofNat 0)),(.i .i64 (Int.ofNat 0)),(.i .i64 (Int.ofNat 0)),(.i .i64 (Int.ofNat 0)),(.i .i64 (Int.ofNat 0)),(.i .i64 (Int.ofNat 0))] 6 [(0,1,(env 10)),(1,1,(env 12)),(2,1,v1),(3,1,(env 19)),(4,1,(.i .i64 (Int.ofNat 0))),(5,1,v4)] h4) fun v5 h5 =>
 bnd (cB v5 h5) fun v6 h6 =>
  q0 (env 4) (env 5) (env 8) (env 9) (env 59) (env 60) (env 61) v5 v6 (.i .i64 (Int.ofNat 0)) h6):=by kernel_rfl
theorem bFw (kk11 : dJ) : (fun (env : bA) (h : Hp) =>
 bnd (r 83 [(env 13)] (resv 1 h)) fun v1 h1 =>
 bnd (aB 2 (env 8) h1) fun v2 h2 =>
 bnd (aA v2 h2) fun v3 h3 =>
 cnd (bJ (aA v2 (resv 1 h)) v3 && true) (
 bnd (r 83 [v3] h3) fun v4 h4 =>
 bnd (cS (cW 0 h.next) [(.i .i64 (Int.ofNat 0)),(.i .i64 (Int.ofNat 0)),(.i .i64 (Int.ofNat 0)),(.i .i64 (Int.ofNat 0)),(.i .i64 (Int.ofNat 0)),(.i .i64 (Int.ofNat 0))] 6 [(0,1,(env 10)),(1,1,(env 12)),(2,1,v1),(3,1,(env 19)),(4,1,(.i .i64 (Int.ofNat 0))),(5,1,v4)] h4) fun v5 h5 =>
 bnd (cB v5 h5) fun v6 h6 =>
  aBj r n kk11 (env 4) (env 5) (env 8) (env 9) (env 59) (env 60) (env 61) v5 v6 (.i .i64 (Int.ofNat 0)) h6)) = (K11 (aJj r n kk11) 4 5 8 9 10 12 13 19 59 60 61):=by kernel_rfl
theorem cMb (kk11 : dJ) : D55 r n aEs (xs (xs x0 3 (K1 (bE r n) 5)) 4 (K5 (aX r n kk11) 4 5 59 60 61)) (K5 (aX r n kk11) 4 5 59 60 61) = (K11 (aJj r n kk11) 4 5 8 9 10 12 13 19 59 60 61) :=
 (bJn r n kk11).trans
 ((cBh r n kk11).trans
 ((bJp r n kk11 (aBj r n kk11) (bE r n) (aX r n kk11)).trans (bFw r n kk11)))
theorem bQo (kk11 : dJ) : D55 r n aGm (xs (xs x0 3 (K1 (bE r n) 5)) 4 (K5 (aX r n kk11) 4 5 59 60 61)) (K5 (aX r n kk11) 4 5 59 60 61) = D55 r n bKf (xs (xs x0 3 (K1 (bE r n) 5)) 4 (K5 (aX r n kk11) 4 5 59 60 61)) (K11 (aJj r n kk11) 4 5 8 9 10 12 13 19 59 60 61) :=
 congrArg (fun k=>D55 r n bKf (xs (xs x0 3 (K1 (bE r n) 5)) 4 (K5 (aX r n kk11) 4 5 59 60 61)) k) (cMb r n kk11)
theorem cIg (kk11 : dJ) : D55 r n aGm (xs (xs x0 3 (K1 (bE r n) 5)) 4 (K5 (aX r n kk11) 4 5 59 60 61)) (K5 (aX r n kk11) 4 5 59 60 61) = (K11 (qT r n kk11) 4 5 8 9 10 12 13 14 59 60 61) :=
 (bQo r n kk11).trans
 ((by kernel_rfl))
theorem bYx (kk11 : dJ) : D55 r n aGe (xs (xs x0 3 (K1 (bE r n) 5)) 4 (K5 (aX r n kk11) 4 5 59 60 61)) (K5 (aX r n kk11) 4 5 59 60 61) = D55 r n aSh (xs (xs x0 3 (K1 (bE r n) 5)) 4 (K5 (aX r n kk11) 4 5 59 60 61)) (K11 (qT r n kk11) 4 5 8 9 10 12 13 14 59 60 61) :=
 congrArg (fun k=>D55 r n aSh (xs (xs x0 3 (K1 (bE r n) 5)) 4 (K5 (aX r n kk11) 4 5 59 60 61)) k) (cIg r n kk11)
theorem cAh (kk11 : dJ) (q0 : dIy) (q1 : TT1) (q2 : dJ) : D55 r n aSh (xs (xs x0 3 (K1 q1 5)) 4 (K5 q2 4 5 59 60 61)) (K11 q0 4 5 8 9 10 12 13 14 59 60 61) = fun (env : bA) (h : Hp) =>
 bnd (aD .eql (env 7) (.i .i64 (Int.ofNat 15)) h) fun v1 h1 =>
 aT v1 (
 bnd (r 81 [(env 5),(.s [115,101,108,101,99,116,111,114])] h1) fun v2 h2 =>
 bnd (aC 0 v2 h2) fun v3 h3 =>
 bnd (aC 1 v2 h3) fun v4 h4 =>
 bnd (r 81 [(env 5),(.s [97,114,103,117,109,101,110,116,115])] h4) fun v5 h5 =>
 bnd (aC 0 v5 h5) fun v6 h6 =>
 bnd (aC 1 v5 h6) fun v7 h7 =>
 bnd (aO [(.i .i64 (Int.ofNat 0)), (.i .i64 (Int.ofNat 0))] 2 [(0, 1, v3), (1, 1, v6)] h7) fun v8 h8 =>
      q0 (env 4) (env 5) (env 8) (env 9) (env 10) (env 12) (.i .i64 (Int.ofNat 2)) v8 (env 59) (env 60) (env 61) h8) (
      q0 (env 4) (env 5) (env 8) (env 9) (env 10) (env 12) (env 13) (env 14) (env 59) (env 60) (env 61) h1):=by kernel_rfl
theorem bFe (kk11 : dJ) : (fun (env : bA) (h : Hp) =>
 bnd (aD .eql (env 7) (.i .i64 (Int.ofNat 15)) h) fun v1 h1 =>
 aT v1 (
 bnd (r 81 [(env 5),(.s [115,101,108,101,99,116,111,114])] h1) fun v2 h2 =>
 bnd (aC 0 v2 h2) fun v3 h3 =>
 bnd (aC 1 v2 h3) fun v4 h4 =>
 bnd (r 81 [(env 5),(.s [97,114,103,117,109,101,110,116,115])] h4) fun v5 h5 =>
 bnd (aC 0 v5 h5) fun v6 h6 =>
 bnd (aC 1 v5 h6) fun v7 h7 =>
 bnd (aO [(.i .i64 (Int.ofNat 0)), (.i .i64 (Int.ofNat 0))] 2 [(0, 1, v3), (1, 1, v6)] h7) fun v8 h8 =>
      qT r n kk11 (env 4) (env 5) (env 8) (env 9) (env 10) (env 12) (.i .i64 (Int.ofNat 2)) v8 (env 59) (env 60) (env 61) h8) (
      qT r n kk11 (env 4) (env 5) (env 8) (env 9) (env 10) (env 12) (env 13) (env 14) (env 59) (env 60) (env 61) h1)) = (K12 (aBw r n kk11) 4 5 7 8 9 10 12 13 14 59 60 61):=by kernel_rfl
theorem cLy (kk11 : dJ) : D55 r n aGe (xs (xs x0 3 (K1 (bE r n) 5)) 4 (K5 (aX r n kk11) 4 5 59 60 61)) (K5 (aX r n kk11) 4 5 59 60 61) = (K12 (aBw r n kk11) 4 5 7 8 9 10 12 13 14 59 60 61) :=
 (bYx r n kk11).trans
 ((cAh r n kk11 (qT r n kk11) (bE r n) (aX r n kk11)).trans (bFe r n kk11))
theorem bPp (kk11 : dJ) : D55 r n aJk (xs (xs x0 3 (K1 (bE r n) 5)) 4 (K5 (aX r n kk11) 4 5 59 60 61)) (K5 (aX r n kk11) 4 5 59 60 61) = D55 r n bKe (xs (xs x0 3 (K1 (bE r n) 5)) 4 (K5 (aX r n kk11) 4 5 59 60 61)) (K12 (aBw r n kk11) 4 5 7 8 9 10 12 13 14 59 60 61) :=
 congrArg (fun k=>D55 r n bKe (xs (xs x0 3 (K1 (bE r n) 5)) 4 (K5 (aX r n kk11) 4 5 59 60 61)) k) (cLy r n kk11)
theorem cHm (kk11 : dJ) : D55 r n aJk (xs (xs x0 3 (K1 (bE r n) 5)) 4 (K5 (aX r n kk11) 4 5 59 60 61)) (K5 (aX r n kk11) 4 5 59 60 61) = (K12 (aTu r n kk11) 4 5 7 8 9 10 12 13 14 59 60 61) :=
 (bPp r n kk11).trans
 ((by kernel_rfl))
theorem bHg (kk11 : dJ) : D55 r n aGa (xs (xs x0 3 (K1 (bE r n) 5)) 4 (K5 (aX r n kk11) 4 5 59 60 61)) (K5 (aX r n kk11) 4 5 59 60 61) = D55 r n bSu (xs (xs x0 3 (K1 (bE r n) 5)) 4 (K5 (aX r n kk11) 4 5 59 60 61)) (K12 (aTu r n kk11) 4 5 7 8 9 10 12 13 14 59 60 61) :=
 congrArg (fun k=>D55 r n bSu (xs (xs x0 3 (K1 (bE r n) 5)) 4 (K5 (aX r n kk11) 4 5 59 60 61)) k) (cHm r n kk11)
theorem cGt (kk11 : dJ) : D55 r n aGa (xs (xs x0 3 (K1 (bE r n) 5)) 4 (K5 (aX r n kk11) 4 5 59 60 61)) (K5 (aX r n kk11) 4 5 59 60 61) = (K9 (aUu r n kk11) 4 5 7 8 9 10 59 60 61) :=
 (bHg r n kk11).trans
 ((by kernel_rfl))
theorem bIc (kk11 : dJ) : D55 r n aFo (xs (xs x0 3 (K1 (bE r n) 5)) 4 (K5 (aX r n kk11) 4 5 59 60 61)) (K5 (aX r n kk11) 4 5 59 60 61) = D55 r n bWb (xs (xs x0 3 (K1 (bE r n) 5)) 4 (K5 (aX r n kk11) 4 5 59 60 61)) (K9 (aUu r n kk11) 4 5 7 8 9 10 59 60 61) :=
 congrArg (fun k=>D55 r n bWb (xs (xs x0 3 (K1 (bE r n) 5)) 4 (K5 (aX r n kk11) 4 5 59 60 61)) k) (cGt r n kk11)
theorem cBu (kk11 : dJ) : D55 r n aFo (xs (xs x0 3 (K1 (bE r n) 5)) 4 (K5 (aX r n kk11) 4 5 59 60 61)) (K5 (aX r n kk11) 4 5 59 60 61) = (K8 (aPq r n kk11) 4 5 7 8 9 59 60 61) :=
 (bIc r n kk11).trans
 ((by kernel_rfl))
theorem bFa (kk11 : dJ) : D55 r n aIe (xs (xs x0 3 (K1 (bE r n) 5)) 4 (K5 (aX r n kk11) 4 5 59 60 61)) (K5 (aX r n kk11) 4 5 59 60 61) = D55 r n bLb (xs (xs x0 3 (K1 (bE r n) 5)) 4 (K5 (aX r n kk11) 4 5 59 60 61)) (K8 (aPq r n kk11) 4 5 7 8 9 59 60 61) :=
 congrArg (fun k=>D55 r n bLb (xs (xs x0 3 (K1 (bE r n) 5)) 4 (K5 (aX r n kk11) 4 5 59 60 61)) k) (cBu r n kk11)
theorem cDo (kk11 : dJ) : D55 r n aIe (xs (xs x0 3 (K1 (bE r n) 5)) 4 (K5 (aX r n kk11) 4 5 59 60 61)) (K5 (aX r n kk11) 4 5 59 60 61) = (K8 (aQv r n kk11) 4 5 7 8 9 59 60 61) :=
 (bFa r n kk11).trans
 ((by kernel_rfl))
theorem bFc (kk11 : dJ) : D55 r n aJl (xs (xs x0 3 (K1 (bE r n) 5)) 4 (K5 (aX r n kk11) 4 5 59 60 61)) (K5 (aX r n kk11) 4 5 59 60 61) = D55 r n bZk (xs (xs x0 3 (K1 (bE r n) 5)) 4 (K5 (aX r n kk11) 4 5 59 60 61)) (K8 (aQv r n kk11) 4 5 7 8 9 59 60 61) :=
 congrArg (fun k=>D55 r n bZk (xs (xs x0 3 (K1 (bE r n) 5)) 4 (K5 (aX r n kk11) 4 5 59 60 61)) k) (cDo r n kk11)
theorem cLn (kk11 : dJ) : D55 r n aJl (xs (xs x0 3 (K1 (bE r n) 5)) 4 (K5 (aX r n kk11) 4 5 59 60 61)) (K5 (aX r n kk11) 4 5 59 60 61) = (K7 (xX r n kk11) 4 5 7 8 59 60 61) :=
 (bFc r n kk11).trans
 ((by kernel_rfl))
theorem bGc (kk11 : dJ) : D55 r n aLc (xs x0 3 (K1 (bE r n) 5)) (K5 kk11 4 5 59 60 61) = D55 r n aKr (xs x0 3 (K1 (bE r n) 5)) (K5 (aX r n kk11) 4 5 59 60 61) :=
 congrArg (fun k=>D55 r n aKr (xs x0 3 (K1 (bE r n) 5)) k) (cHj r n kk11)
theorem bGq (kk11 : dJ) : D55 r n aEz (xs (xs x0 3 (K1 (bE r n) 5)) 4 (K5 (aX r n kk11) 4 5 59 60 61)) (K5 (aX r n kk11) 4 5 59 60 61) = D55 r n aSd (xs (xs x0 3 (K1 (bE r n) 5)) 4 (K5 (aX r n kk11) 4 5 59 60 61)) (K7 (xX r n kk11) 4 5 7 8 59 60 61) :=
 congrArg (fun k=>D55 r n aSd (xs (xs x0 3 (K1 (bE r n) 5)) 4 (K5 (aX r n kk11) 4 5 59 60 61)) k) (cLn r n kk11)
theorem bHf (kk11 : dJ) (q0 : TT7) (q1 : TT1) (q2 : dJ) : D55 r n aSd (xs (xs x0 3 (K1 q1 5)) 4 (K5 q2 4 5 59 60 61)) (K7 q0 4 5 7 8 59 60 61) = fun (env : bA) (h : Hp) =>
 bnd (aE 3 (env 59) (env 61) h) fun v1 h1 =>
 bnd (aK 3 v1 h1) fun v2 h2 =>
 bnd (bY [(.s []),(.i .i64 (Int.ofNat 0)),(.i .i64 (Int.ofNat 0))] h2) fun v3 h3 =>
 bnd (aG 3 v3 v2 h3) fun _ h4 =>
  q0 (env 4) (env 5) (env 61) v3 (env 59) (env 60) (env 61) h4:=by kernel_rfl
theorem aSr (kk11 : dJ) : (fun (env : bA) (h : Hp) =>
 bnd (aE 3 (env 59) (env 61) h) fun v1 h1 =>
 bnd (aK 3 v1 h1) fun v2 h2 =>
 bnd (bY [(.s []),(.i .i64 (Int.ofNat 0)),(.i .i64 (Int.ofNat 0))] h2) fun v3 h3 =>
 bnd (aG 3 v3 v2 h3) fun _ h4 =>
  xX r n kk11 (env 4) (env 5) (env 61) v3 (env 59) (env 60) (env 61) h4) = (K5 (aGz r n kk11) 4 5 59 60 61):=by kernel_rfl
theorem cJa (kk11 : dJ) : D55 r n aLc (xs x0 3 (K1 (bE r n) 5)) (K5 kk11 4 5 59 60 61) = (K5 (aGz r n kk11) 4 5 59 60 61) :=
 (bGc r n kk11).trans
 ((by kernel_rfl : D55 r n aKr (xs x0 3 (K1 (bE r n) 5)) (K5 (aX r n kk11) 4 5 59 60 61) = D55 r n aEz (xs (xs x0 3 (K1 (bE r n) 5)) 4 (K5 (aX r n kk11) 4 5 59 60 61)) (K5 (aX r n kk11) 4 5 59 60 61)).trans
 ((bGq r n kk11).trans
 ((bHf r n kk11 (xX r n kk11) (bE r n) (aX r n kk11)).trans (aSr r n kk11))))
theorem bGm (kk11 : dJ) : D55 r n aIj (xs x0 3 (K1 (bE r n) 5)) (K5 kk11 4 5 59 60 61) = D55 r n bTo (xs x0 3 (K1 (bE r n) 5)) (K5 (aGz r n kk11) 4 5 59 60 61) :=
 congrArg (fun k=>D55 r n bTo (xs x0 3 (K1 (bE r n) 5)) k) (cJa r n kk11)
theorem cPd (kk11 : dJ) : D55 r n aIj (xs x0 3 (K1 (bE r n) 5)) (K5 kk11 4 5 59 60 61) = (K6 (aQx r n kk11) 4 5 59 60 61 62) :=
 (bGm r n kk11).trans
 ((by kernel_rfl))
theorem bFs (kk11 : dJ) : D55 r n lF (xs x0 3 (K1 (bE r n) 5)) (K5 kk11 4 5 59 60 61) = D55 r n bVc (xs x0 3 (K1 (bE r n) 5)) (K6 (aQx r n kk11) 4 5 59 60 61 62) :=
 congrArg (fun k=>D55 r n bVc (xs x0 3 (K1 (bE r n) 5)) k) (cPd r n kk11)
theorem bYe (kk11 : dJ) : D55 r n lF (xs x0 3 (K1 (bE r n) 5)) (K5 kk11 4 5 59 60 61) = (K5 (bDv r n kk11) 4 5 59 60 61) :=
 (bFs r n kk11).trans
 ((by kernel_rfl))
theorem bNq (m : Nat) : aL (fun kk=>D55 r n lF (xs x0 3 (K1 (bE r n) 5)) kk) m = (K5 (vT r n m) 4 5 59 60 61):=by
 induction m with
 | zero=>exact (by kernel_rfl : aL (fun kk=>D55 r n lF (xs x0 3 (K1 (bE r n) 5)) kk) 0 = (K5 (vT r n 0) 4 5 59 60 61))
 | succ m ih =>
  refine (by kernel_rfl : aL (fun kk=>D55 r n lF (xs x0 3 (K1 (bE r n) 5)) kk) (m + 1) = D55 r n lF (xs x0 3 (K1 (bE r n) 5)) (aL (fun kk=>D55 r n lF (xs x0 3 (K1 (bE r n) 5)) kk) m)).trans ?_
  rw [ih]
  exact (bYe r n (vT r n m)).trans (by kernel_rfl)
theorem cNv : D55 r n aFm (xs x0 3 (K1 (bE r n) 5)) (K1 (bE r n) 5) = (K5 (bUk r n) 4 5 59 60 61) :=
 (by kernel_rfl : D55 r n aFm (xs x0 3 (K1 (bE r n) 5)) (K1 (bE r n) 5) = aL (fun kk=>D55 r n lF (xs x0 3 (K1 (bE r n) 5)) kk) n).trans ((bNq r n n).trans (by kernel_rfl))
theorem cIa : D55 r n aUa x0 (K1 (bE r n) 5) = (K5 (aSl r n) 4 5 59 60 61) :=
 (by kernel_rfl : D55 r n aUa x0 (K1 (bE r n) 5) = D55 r n aFm (xs x0 3 (K1 (bE r n) 5)) (K1 (bE r n) 5)).trans
 ((cNv r n).trans (by kernel_rfl))
theorem bRk : D55 r n bDs x0 r55 = D55 r n aCb x0 (K1 (bE r n) 5) :=
 congrArg (fun k=>D55 r n aCb x0 k) (dGc r n)
theorem bLn : D55 r n aCb x0 (K1 (bE r n) 5) = D55 r n bSy x0 (K5 (aSl r n) 4 5 59 60 61) :=
 congrArg (fun k=>D55 r n bSy x0 k) (cIa r n)
theorem cWv : D55 r n bDs x0 r55 = (K2 (iH r n) 4 5) :=
 (bRk r n).trans
 ((bLn r n).trans
 ((by kernel_rfl)))
theorem bOr (kk27 : dP) : D55 r n qE (xs x0 1 (K2 (iH r n) 4 5)) (K3 kk27 4 5 43) = (K3 (bCp r n kk27) 4 5 43) :=
 (by kernel_rfl)
theorem bLp (m : Nat) : aL (fun kk=>D55 r n qE (xs x0 1 (K2 (iH r n) 4 5)) kk) m = (K3 (vZ r n m) 4 5 43):=by
 induction m with
 | zero=>exact (by kernel_rfl : aL (fun kk=>D55 r n qE (xs x0 1 (K2 (iH r n) 4 5)) kk) 0 = (K3 (vZ r n 0) 4 5 43))
 | succ m ih =>
  refine (by kernel_rfl : aL (fun kk=>D55 r n qE (xs x0 1 (K2 (iH r n) 4 5)) kk) (m + 1) = D55 r n qE (xs x0 1 (K2 (iH r n) 4 5)) (aL (fun kk=>D55 r n qE (xs x0 1 (K2 (iH r n) 4 5)) kk) m)).trans ?_
  rw [ih]
  exact (bOr r n (vZ r n m)).trans (by kernel_rfl)
theorem cCr : D55 r n aId (xs x0 1 (K2 (iH r n) 4 5)) (K2 (iH r n) 4 5) = (K3 (bQm r n) 4 5 43) :=
 (by kernel_rfl : D55 r n aId (xs x0 1 (K2 (iH r n) 4 5)) (K2 (iH r n) 4 5) = aL (fun kk=>D55 r n qE (xs x0 1 (K2 (iH r n) 4 5)) kk) n).trans ((bLp r n n).trans (by kernel_rfl))
theorem cKu : D55 r n aPk x0 (K2 (iH r n) 4 5) = (K3 (aTa r n) 4 5 43) :=
 (by kernel_rfl : D55 r n aPk x0 (K2 (iH r n) 4 5) = D55 r n aId (xs x0 1 (K2 (iH r n) 4 5)) (K2 (iH r n) 4 5)).trans
 ((cCr r n).trans (by kernel_rfl))
theorem bVn : D55 r n aXh x0 r55 = D55 r n aAc x0 (K2 (iH r n) 4 5) :=
 congrArg (fun k=>D55 r n aAc x0 k) (cWv r n)
theorem bMt : D55 r n aAc x0 (K2 (iH r n) 4 5) = D55 r n bVp x0 (K3 (aTa r n) 4 5 43) :=
 congrArg (fun k=>D55 r n bVp x0 k) (cKu r n)
theorem cXk : D55 r n aXh x0 r55 = (K2 (aLx r n) 4 5) :=
 (bVn r n).trans
 ((bMt r n).trans
 ((by kernel_rfl)))
theorem bVt : D55 r n bCb x0 r55 = D55 r n aTk x0 (K2 (aLx r n) 4 5) :=
 congrArg (fun k=>D55 r n aTk x0 k) (cXk r n)
theorem bUl (q0 : TT2) : D55 r n aTk x0 (K2 q0 4 5) = fun (env : bA) (h : Hp) =>
 bnd (bU 1 8 [(.i .i64 (Int.ofNat 0))] (.i .i64 (Int.ofNat 18)) (.i .i64 (Int.ofNat 18)) h) fun v1 h1 =>
 bnd (dW h1) fun v2 h2 =>
 bnd (dW h2) fun v3 h3 =>
 bnd (bK [.p0,.l0,.m0,.m0] [(0,1,(env 4)),(1,1,v1),(2,1,v2),(3,1,v3)] h3) fun v4 h4 =>
 bnd (dA v4 h4) fun v5 h5 =>
  q0 (env 4) v5 h5:=by kernel_rfl
theorem bGz : (fun (env : bA) (h : Hp) =>
 bnd (bU 1 8 [(.i .i64 (Int.ofNat 0))] (.i .i64 (Int.ofNat 18)) (.i .i64 (Int.ofNat 18)) h) fun v1 h1 =>
 bnd (dW h1) fun v2 h2 =>
 bnd (dW h2) fun v3 h3 =>
 bnd (bK [.p0,.l0,.m0,.m0] [(0,1,(env 4)),(1,1,v1),(2,1,v2),(3,1,v3)] h3) fun v4 h4 =>
 bnd (dA v4 h4) fun v5 h5 =>
  aLx r n (env 4) v5 h5) = (K1 (aXc r n) 4):=by kernel_rfl
theorem cWt : D55 r n bCb x0 r55 = (K1 (aXc r n) 4) :=
 (bVt r n).trans
 ((bUl r n (aLx r n)).trans (bGz r n))
theorem bNu : D55 r n aYk x0 r55 = D55 r n bTh x0 (K1 (aXc r n) 4) :=
 congrArg (fun k=>D55 r n bTh x0 k) (cWt r n)
theorem cVn : D55 r n aYk x0 r55 = (K2 (bXy r n) 0 4) :=
 (bNu r n).trans
 ((by kernel_rfl))
theorem bWx : D55 r n bAs x0 r55 = D55 r n bUc x0 (K2 (bXy r n) 0 4) :=
 congrArg (fun k=>D55 r n bUc x0 k) (cVn r n)
theorem dDj : D55 r n bAs x0 r55 = (K1 (bPn r n) 0) :=
 (bWx r n).trans
 ((by kernel_rfl))
theorem dHm : D55 r n c55 x0 r55 = D55 r n bVs x0 (K1 (bPn r n) 0) :=
 congrArg (fun k=>D55 r n bVs x0 k) (dDj r n)
theorem dWz : D55 r n c55 x0 r55 = (K1 (s55 r n) 0) :=
 (dHm r n).trans
 ((by kernel_rfl))
theorem dIi : aF CF r n 55 args h = s55 r n (aV args 0) h :=
 (by kernel_rfl : aF CF r n 55 args h = D55 r n c55 x0 r55 (aJ args) h).trans ((congrFun (congrFun (dWz r n) (aJ args)) h).trans (by kernel_rfl))
def s73 (r : RT) (n : Nat) (x0 : DV) (h0 : Hp) : aH :=
 bnd (r 123 [x0,(.s [])] h0) fun v1 h1 =>
 bnd (gQ .not v1 h1) fun v2 h2 =>
 some (v2,h2)
abbrev c73 : Code:=cf Tryz.f73
abbrev r73 : K:=aR CF Tryz.f73
def D73 (r : RT) (n : Nat) (c : Code) (X : Nat → K) (k : K) : K:=aM CF r 6 n c X r73 k
theorem dRu : D73 r n c73 x0 r73 = (K1 (s73 r n) 0) :=
 (by kernel_rfl)
theorem cSe : aF CF r n 73 args h = s73 r n (aV args 0) h :=
 (by kernel_rfl : aF CF r n 73 args h = D73 r n c73 x0 r73 (aJ args) h).trans ((congrFun (congrFun (dRu r n) (aJ args)) h).trans (by kernel_rfl))
def s75 (r : RT) (n : Nat) (x0 x1 : DV) (h0 : Hp) : aH :=
 bnd (bY [(.i .i64 (Int.ofNat 0)),(.s []),(.s []),.l0,(.s []),(.i .i64 (Int.ofNat 0))] h0) fun v1 h1 =>
 bnd (r 17 [x0,(.s [32])] h1) fun v2 h2 =>
 bnd (cB v2 h2) fun v3 h3 =>
 bnd (aD .neq v3 (.i .i64 (Int.ofNat 2)) h3) fun v4 h4 =>
 bnd (gD v4 false (some (v2,h4)) h4) fun v5 h5 =>
 bnd (gD v4 false (r 73 [v5] h5) h5) fun v6 h6 =>
 bnd (gD v4 false (gQ .not v6 h6) h6) fun v7 h7 =>
 bnd (aP v4 (.b true) v7 h7) fun v8 h8 =>
 aT v8 (
 bnd (bK [(.i .i64 (Int.ofNat 0)),(.s []),(.s []),.l0,(.s []),(.i .i64 (Int.ofNat 0))] [] h8) fun v9 h9 =>
 bnd (aG 6 v1 v9 h9) fun _ h10 =>
 bnd (aK 6 v1 h10) fun v11 _ =>
 some (.t [v11,(.b false)],h10)) (
 bnd (aE 1 v2 (.i .i64 (Int.ofNat 0)) h8) fun v12 h12 =>
 bnd (aA v12 h12) fun v13 h13 =>
 bnd (aE 1 v2 (.i .i64 (Int.ofNat 1)) h13) fun v14 h14 =>
 bnd (aA v14 h14) fun v15 h15 =>
 bnd (aA x1 h15) fun v16 h16 =>
 bnd (bK [(.i .i64 (Int.ofNat 0)),(.s []),(.s []),.l0,(.s []),(.i .i64 (Int.ofNat 0))] [(0,1,(.i .i64 (Int.ofNat 4))),(1,1,v13),(4,1,v15),(5,1,v16)] h16) fun v17 h17 =>
 bnd (aG 6 v1 v17 h17) fun v18 h18 =>
 bnd (aK 6 v1 h18) fun v19 _ =>
 some (.t [v19,(.b true)],h18))
abbrev c75 : Code:=cf Tryz.f75
abbrev r75 : K:=aR CF Tryz.f75
def D75 (r : RT) (n : Nat) (c : Code) (X : Nat → K) (k : K) : K:=aM CF r 25 n c X r75 k
theorem dVt : D75 r n c75 x0 r75 = (K2 (s75 r n) 0 1) :=
 (by kernel_rfl)
theorem cTi : aF CF r n 75 args h = s75 r n (aV args 0) (aV args 1) h :=
 (by kernel_rfl : aF CF r n 75 args h = D75 r n c75 x0 r75 (aJ args) h).trans ((congrFun (congrFun (dVt r n) (aJ args)) h).trans (by kernel_rfl))
def s79 (r : RT) (n : Nat) (x0 x1 : DV) (h0 : Hp) : aH :=
 bnd (aD .lss x1 (aN 0) h0) fun v1 h1 =>
 bnd (gD v1 false (some (x1,h1)) h1) fun v2 h2 =>
 bnd (gD v1 false (aD .geq v2 (aN 16) h2) h2) fun v3 h3 =>
 bnd (aP v1 (.b true) v3 h3) fun v4 h4 =>
 aT v4 (
 some ((aN 0),h4)) (
 bnd (aY x0 h4) fun v5 h5 =>
 bnd (aB 1 v5 h5) fun v6 h6 =>
 bnd (aA v6 h6) fun v7 h7 =>
 bnd (aD .add (aN 2) x1 h7) fun v8 h8 =>
 bnd (aE 1 v7 v8 h8) fun v9 h9 =>
 bnd (aA v9 h9) fun v10 h10 =>
 some (v10,h10))
abbrev c79 : Code:=cf Tryz.f79
abbrev r79 : K:=aR CF Tryz.f79
def D79 (r : RT) (n : Nat) (c : Code) (X : Nat → K) (k : K) : K:=aM CF r 19 n c X r79 k
theorem dTw : D79 r n c79 x0 r79 = (K2 (s79 r n) 0 1) :=
 (by kernel_rfl)
theorem dKn : aF CF r n 79 args h = s79 r n (aV args 0) (aV args 1) h :=
 (by kernel_rfl : aF CF r n 79 args h = D79 r n c79 x0 r79 (aJ args) h).trans ((congrFun (congrFun (dTw r n) (aJ args)) h).trans (by kernel_rfl))
def s81 (r : RT) (n : Nat) (x0 x1 : DV) (h0 : Hp) : aH :=
 bnd (cM x1 h0) fun v1 h1 =>
 bnd (aD .lss v1 (aN 1) h1) fun v2 h2 =>
 bnd (gD v2 false (some (x1,h2)) h2) fun v3 h3 =>
 bnd (gD v2 false (cM v3 h3) h3) fun v4 h4 =>
 bnd (gD v2 false (aD .gtr v4 (aN 60) h4) h4) fun v5 h5 =>
 bnd (aP v2 (.b true) v5 h5) fun v6 h6 =>
 aT v6 (
 some (.t [(aN 0),(aN 1)],h6)) (
 bnd (aY x0 h6) fun v7 h7 =>
 bnd (aB 2 v7 h7) fun v8 h8 =>
 bnd (aA v8 h8) fun v9 h9 =>
 bnd (eH .string (aN 0) false v9 x1 h9) fun v10 h10 =>
 bnd (aD .neq v10 (aN 0) h10) fun v11 h11 =>
 aT v11 (
 some (.t [v10,(aN 0)],h11)) (
 bnd (r 79 [x0,(aN 11)] h11) fun v12 h12 =>
 bnd (r 129 [x0,v12,x1] h12) fun v13 h13 =>
 bnd (aC 0 v13 h13) fun v14 h14 =>
 bnd (aC 1 v13 h14) fun v15 h15 =>
 bnd (aD .neq v15 (aN 0) h15) fun v16 h16 =>
 aT v16 (
 some (.t [(aN 0),v15],h16)) (
 bnd (aY x0 h16) fun v17 h17 =>
 bnd (aB 1 v17 h17) fun v18 h18 =>
 bnd (aA v18 h18) fun v19 h19 =>
 bnd (aE 1 v19 (aN 0) h19) fun v20 h20 =>
 bnd (aA v20 h20) fun v21 h21 =>
 bnd (r 85 [x0,v14,v21] h21) fun v22 h22 =>
 bnd (aC 0 v22 h22) fun v23 h23 =>
 bnd (aC 1 v22 h23) fun v24 h24 =>
 bnd (aD .neq v24 (aN 0) h24) fun v25 h25 =>
 aT v25 (
 some (.t [(aN 0),v24],h25)) (
 bnd (aY x0 h25) fun v26 h26 =>
 bnd (aB 1 v26 h26) fun v27 h27 =>
 bnd (aA v27 h27) fun v28 h28 =>
 bnd (aY x0 h28) fun v29 h29 =>
 bnd (aB 2 v29 h29) fun v30 h30 =>
 bnd (aA v30 h30) fun v31 h31 =>
 bnd (aE 1 v28 (aN 0) h31) fun v32 h32 =>
 bnd (aG 1 v32 v23 h32) fun v33 h33 =>
 bnd (jC .string (aN 0) v31 x1 h33) fun v34 h34 =>
 bnd (aC 1 v34 h34) fun v35 h35 =>
 bnd (fX v31 v35 v14 h35) fun v36 h36 =>
 some (.t [v14,(aN 0)],h36)))))
abbrev c81 : Code:=cf Tryz.f81
abbrev r81 : K:=aR CF Tryz.f81
def D81 (r : RT) (n : Nat) (c : Code) (X : Nat → K) (k : K) : K:=aM CF r 68 n c X r81 k
theorem dWa : D81 r n c81 x0 r81 = (K2 (s81 r n) 0 1) :=
 (by kernel_rfl)
theorem dKc : aF CF r n 81 args h = s81 r n (aV args 0) (aV args 1) h :=
 (by kernel_rfl : aF CF r n 81 args h = D81 r n c81 x0 r81 (aJ args) h).trans ((congrFun (congrFun (dWa r n) (aJ args)) h).trans (by kernel_rfl))
def s82 (r : RT) (n : Nat) (x0 x1 : DV) (h0 : Hp) : aH :=
 bnd (dA x0 h0) fun v1 h1 =>
 bnd (cB x1 h1) fun v2 h2 =>
 bnd (aD .gtr v2 (aN 250) h2) fun v3 h3 =>
 bnd (gD v3 false (some (x1,h3)) h3) fun v4 h4 =>
 bnd (gD v3 false (some ((.f 131 [] [v1]),h4)) h4) fun v5 h5 =>
 bnd (gD v3 false (r 130 [v4,v5] h5) h5) fun v6 h6 =>
 bnd (aP v3 (.b true) v6 h6) fun v7 h7 =>
 aT v7 (
 some (.t [(aN 0),(aN 1)],h7)) (
 bnd (aA v1 h7) fun v8 h8 =>
 bnd (aA v1 h8) fun v9 h9 =>
 bnd (r 79 [v9,(aN 9)] h9) fun v10 h10 =>
 cnd (bJ (aA v1 h10) v8 && true) (
 bnd (r 133 [v8,v10,(aN 0),x1] h10) fun v11 h11 =>
 bnd (aC 0 v11 h11) fun v12 h12 =>
 bnd (aC 1 v11 h12) fun v13 h13 =>
 some (.t [v12,v13],h13)))
abbrev c82 : Code:=cf Tryz.f82
abbrev r82 : K:=aR CF Tryz.f82
def D82 (r : RT) (n : Nat) (c : Code) (X : Nat → K) (k : K) : K:=aM CF r 21 n c X r82 k
theorem dUm : D82 r n c82 x0 r82 = (K2 (s82 r n) 0 1) :=
 (by kernel_rfl)
theorem dLq : aF CF r n 82 args h = s82 r n (aV args 0) (aV args 1) h :=
 (by kernel_rfl : aF CF r n 82 args h = D82 r n c82 x0 r82 (aJ args) h).trans ((congrFun (congrFun (dUm r n) (aJ args)) h).trans (by kernel_rfl))
def s83 (r : RT) (n : Nat) (x0 : DV) (h0 : Hp) : aH :=
 bnd (rD [x0] h0) fun v1 h1 =>
 bnd (aC 0 v1 h1) fun v2 h2 =>
 bnd (aC 1 v1 h2) fun v3 h3 =>
 some (v2,h3)
abbrev c83 : Code:=cf Tryz.f83
abbrev r83 : K:=aR CF Tryz.f83
def D83 (r : RT) (n : Nat) (c : Code) (X : Nat → K) (k : K) : K:=aM CF r 11 n c X r83 k
theorem dWi : D83 r n c83 x0 r83 = (K1 (s83 r n) 0) :=
 (by kernel_rfl)
theorem dMm : aF CF r n 83 args h = s83 r n (aV args 0) h :=
 (by kernel_rfl : aF CF r n 83 args h = D83 r n c83 x0 r83 (aJ args) h).trans ((congrFun (congrFun (dWi r n) (aJ args)) h).trans (by kernel_rfl))
def s85 (r : RT) (n : Nat) (x0 x1 x2 : DV) (h0 : Hp) : aH :=
 bnd (r 79 [x0,(aN 9)] h0) fun v1 h1 =>
 bnd (aO [(aN 0),(aN 0)] 2 [(0,1,x1),(1,1,x2)] h1) fun v2 h2 =>
 bnd (r 133 [x0,v1,(aN 0),v2] h2) fun v3 h3 =>
 bnd (aC 0 v3 h3) fun v4 h4 =>
 bnd (aC 1 v3 h4) fun v5 h5 =>
 some (.t [v4,v5],h5)
abbrev c85 : Code:=cf Tryz.f85
abbrev r85 : K:=aR CF Tryz.f85
def D85 (r : RT) (n : Nat) (c : Code) (X : Nat → K) (k : K) : K:=aM CF r 17 n c X r85 k
theorem dRe : D85 r n c85 x0 r85 = (K3 (s85 r n) 0 1 2) :=
 (by kernel_rfl)
theorem dMe : aF CF r n 85 args h = s85 r n (aV args 0) (aV args 1) (aV args 2) h :=
 (by kernel_rfl : aF CF r n 85 args h = D85 r n c85 x0 r85 (aJ args) h).trans ((congrFun (congrFun (dRe r n) (aJ args)) h).trans (by kernel_rfl))
def s87 (r : RT) (n : Nat) (x0 x1 x2 : DV) (h0 : Hp) : aH :=
 bnd (r 137 [x0,x1] h0) fun v1 h1 =>
 bnd (aD .eql v1 (aN 0) h1) fun v2 h2 =>
 aT v2 (
 some (.t [(aN 0),(aN 0),(.s []),(aN 24)],h2)) (
 bnd (r 138 [x2] h2) fun v3 h3 =>
 bnd (aC 0 v3 h3) fun v4 h4 =>
 bnd (aC 1 v3 h4) fun v5 h5 =>
 bnd (aC 2 v3 h5) fun v6 h6 =>
 bnd (bY zr6 h6) fun v7 h7 =>
 bnd (aG 6 v7 v4 h7) fun _ h8 =>
 bnd (aD .neq v6 (aN 0) h8) fun v9 h9 =>
 aT v9 (
 some (.t [(aN 0),v5,(.s []),v6],h9)) (
 bnd (aK 6 v7 (resv 1 h9)) fun v10 h10 =>
 bnd (r 140 [x0,v1] h10) fun v11 h11 =>
 cnd (bJ (aK 6 v7 h11) v10 && true) (
 bnd (r 139 [v10,v11] h11) fun v12 h12 =>
 bnd (aC 0 v12 h12) fun v13 h13 =>
 bnd (aC 1 v12 h13) fun v14 h14 =>
 bnd (aC 2 v12 h14) fun v15 h15 =>
 bnd (mW (cW 0 h9.next) [(.s []),(aN 0),(aN 0),(aN 0),.l0,.l0] h15) fun v16 h16 =>
 bnd (aG 6 v16 v13 h16) fun v17 h17 =>
 bnd (aD .neq v15 (aN 0) h17) fun v18 h18 =>
 aT v18 (
 some (.t [(aN 0),(aN 0),v14,v15],h18)) (
 bnd (aK 6 v16 h18) fun v19 h19 =>
 bnd (r 141 [x0,v1,v19] h19) fun v20 h20 =>
 bnd (aC 0 v20 h20) fun v21 h21 =>
 bnd (aC 1 v20 h21) fun v22 h22 =>
 bnd (aD .neq v22 (aN 0) h22) fun v23 h23 =>
 aT v23 (
 some (.t [(aN 0),(aN 0),(.s []),v22],h23)) (
 some (.t [v21,(aN 0),(.s []),(aN 0)],h23))))))
abbrev c87 : Code:=cf Tryz.f87
abbrev r87 : K:=aR CF Tryz.f87
def D87 (r : RT) (n : Nat) (c : Code) (X : Nat → K) (k : K) : K:=aM CF r 56 n c X r87 k
theorem dTi : D87 r n c87 x0 r87 = (K3 (s87 r n) 0 1 2) :=
 (by kernel_rfl)
theorem dIf : aF CF r n 87 args h = s87 r n (aV args 0) (aV args 1) (aV args 2) h :=
 (by kernel_rfl : aF CF r n 87 args h = D87 r n c87 x0 r87 (aJ args) h).trans ((congrFun (congrFun (dTi r n) (aJ args)) h).trans (by kernel_rfl))
end Go.Dd

namespace Go.Dd
open Go.Proofs
variable (r : RT) (n : Nat) (args : List DV) (h : Hp)
def s123 (r : RT) (n : Nat) (x0 x1 : DV) (h0 : Hp) : aH :=
 bnd (r 193 [x0,x1] h0) fun v1 h1 =>
 bnd (aD .geq v1 (.i .i64 (Int.ofNat 0)) h1) fun v2 h2 =>
 some (v2,h2)
abbrev c123 : Code:=cf Tryz.f123
abbrev r123 : K:=aR CF Tryz.f123
def D123 (r : RT) (n : Nat) (c : Code) (X : Nat → K) (k : K) : K:=aM CF r 9 n c X r123 k
theorem dJu : D123 r n c123 x0 r123 = (K2 (s123 r n) 0 1) :=
 (by kernel_rfl)
theorem bOo : aF CF r n 123 args h = s123 r n (aV args 0) (aV args 1) h :=
 (by kernel_rfl : aF CF r n 123 args h = D123 r n c123 x0 r123 (aJ args) h).trans ((congrFun (congrFun (dJu r n) (aJ args)) h).trans (by kernel_rfl))
def eS (r : RT) (n : Nat) (x0 x1 x8 : DV) (h0 : Hp) : aH :=
 bnd (r 133 [x0,x1,(aN 2),x8] h0) fun v1 h1 =>
 bnd (aC 0 v1 h1) fun v2 h2 =>
 bnd (aC 1 v1 h2) fun v3 h3 =>
 some (.t [v2,v3],h3)
def aLe (r : RT) (n : Nat) (kk5 : gU) (x0 x1 x2 x8 x11 x12 : DV) (h0 : Hp) : aH :=
 bnd (aD .lss x12 x11 h0) fun v1 h1 =>
 aT v1 (
 bnd (bX x2 x12 h1) fun v2 h2 =>
 bnd (dV .i64 v2 h2) fun v3 h3 =>
 bnd (aO [(aN 0)] 1 [(0,1,v3)] h3) fun v4 h4 =>
 bnd (bB 1 8 x8 v4 h4) fun v5 h5 =>
 bnd (aD .add x12 (aN 1) h5) fun v6 h6 =>
      kk5 x0 x1 x2 v5 x11 v6 h6) (
      eS r n x0 x1 x8 h1)
def xK (r : RT) (n : Nat) (m : Nat) : gU :=
 Nat.rec (motive:=fun _=>gU) (fun _ _ _ _ _ _ _=>none) (fun _ ih=>aLe r n ih) m
def bJk (r : RT) (n : Nat) : gU:=xK r n n
def aPw (r : RT) (n : Nat) (x0 x1 x2 x8 x11 x12 : DV) (h0 : Hp) : aH :=
 bJk r n x0 x1 x2 x8 x11 x12 h0
def aQy (r : RT) (n : Nat) (x0 x1 x2 x8 : DV) (h0 : Hp) : aH :=
 bnd (cM x2 h0) fun v1 h1 =>
  aPw r n x0 x1 x2 x8 v1 (aN 0) h1
def aVc (r : RT) (n : Nat) (x0 x1 x2 : DV) (h0 : Hp) : aH :=
 aQy r n x0 x1 x2 .l0 h0
def s129 (r : RT) (n : Nat) (x0 x1 x2 : DV) (h0 : Hp) : aH :=
 aVc r n x0 x1 x2 h0
abbrev c129 : Code:=cf Tryz.f129
abbrev aEl : Code:=cR c129
abbrev aIt : Code:=cR aEl
abbrev cWo : Code:=cR aIt
abbrev xV : Code:=cL aIt
abbrev aVi : Code:=cR xV
abbrev aFf : Code:=cL aVi
abbrev nU : Code:=cL aFf
abbrev bQi : Code:=cL xV
abbrev bZi : Code:=cL aEl
abbrev aZx : Code:=cL c129
abbrev r129 : K:=aR CF Tryz.f129
def D129 (r : RT) (n : Nat) (c : Code) (X : Nat → K) (k : K) : K:=aM CF r 29 n c X r129 k
theorem cJn : D129 r n cWo x0 r129 = (K3 (eS r n) 0 1 8) :=
 (by kernel_rfl)
theorem bQr (kk5 : gU) (q0 : dP) : D129 r n nU (xs x0 0 (K3 q0 0 1 8)) (K6 kk5 0 1 2 8 11 12) = fun (env : bA) (h : Hp) =>
 bnd (aD .lss (env 12) (env 11) h) fun v1 h1 =>
 aT v1 (
 bnd (bX (env 2) (env 12) h1) fun v2 h2 =>
 bnd (dV .i64 v2 h2) fun v3 h3 =>
 bnd (aO [(aN 0)] 1 [(0,1,v3)] h3) fun v4 h4 =>
 bnd (bB 1 8 (env 8) v4 h4) fun v5 h5 =>
 bnd (aD .add (env 12) (aN 1) h5) fun v6 h6 =>
      kk5 (env 0) (env 1) (env 2) v5 (env 11) v6 h6) (
      q0 (env 0) (env 1) (env 8) h1):=by kernel_rfl
theorem bIi (kk5 : gU) : (fun (env : bA) (h : Hp) =>
 bnd (aD .lss (env 12) (env 11) h) fun v1 h1 =>
 aT v1 (
 bnd (bX (env 2) (env 12) h1) fun v2 h2 =>
 bnd (dV .i64 v2 h2) fun v3 h3 =>
 bnd (aO [(aN 0)] 1 [(0,1,v3)] h3) fun v4 h4 =>
 bnd (bB 1 8 (env 8) v4 h4) fun v5 h5 =>
 bnd (aD .add (env 12) (aN 1) h5) fun v6 h6 =>
      kk5 (env 0) (env 1) (env 2) v5 (env 11) v6 h6) (
      eS r n (env 0) (env 1) (env 8) h1)) = (K6 (aLe r n kk5) 0 1 2 8 11 12):=by kernel_rfl
theorem bLs (kk5 : gU) : D129 r n nU (xs x0 0 (K3 (eS r n) 0 1 8)) (K6 kk5 0 1 2 8 11 12) = (K6 (aLe r n kk5) 0 1 2 8 11 12) :=
 (bQr r n kk5 (eS r n)).trans (bIi r n kk5)
theorem bMn (m : Nat) : aL (fun kk=>D129 r n nU (xs x0 0 (K3 (eS r n) 0 1 8)) kk) m = (K6 (xK r n m) 0 1 2 8 11 12):=by
 induction m with
 | zero=>exact (by kernel_rfl : aL (fun kk=>D129 r n nU (xs x0 0 (K3 (eS r n) 0 1 8)) kk) 0 = (K6 (xK r n 0) 0 1 2 8 11 12))
 | succ m ih =>
  refine (by kernel_rfl : aL (fun kk=>D129 r n nU (xs x0 0 (K3 (eS r n) 0 1 8)) kk) (m + 1) = D129 r n nU (xs x0 0 (K3 (eS r n) 0 1 8)) (aL (fun kk=>D129 r n nU (xs x0 0 (K3 (eS r n) 0 1 8)) kk) m)).trans ?_
  rw [ih]
  exact (bLs r n (xK r n m)).trans (by kernel_rfl)
theorem cKw : D129 r n aFf (xs x0 0 (K3 (eS r n) 0 1 8)) (K3 (eS r n) 0 1 8) = (K6 (bJk r n) 0 1 2 8 11 12) :=
 (by kernel_rfl : D129 r n aFf (xs x0 0 (K3 (eS r n) 0 1 8)) (K3 (eS r n) 0 1 8) = aL (fun kk=>D129 r n nU (xs x0 0 (K3 (eS r n) 0 1 8)) kk) n).trans ((bMn r n n).trans (by kernel_rfl))
theorem cDl : D129 r n aVi x0 (K3 (eS r n) 0 1 8) = (K6 (aPw r n) 0 1 2 8 11 12) :=
 (by kernel_rfl : D129 r n aVi x0 (K3 (eS r n) 0 1 8) = D129 r n aFf (xs x0 0 (K3 (eS r n) 0 1 8)) (K3 (eS r n) 0 1 8)).trans
 ((cKw r n).trans (by kernel_rfl))
theorem bXw : D129 r n aIt x0 r129 = D129 r n xV x0 (K3 (eS r n) 0 1 8) :=
 congrArg (fun k=>D129 r n xV x0 k) (cJn r n)
theorem bMf : D129 r n xV x0 (K3 (eS r n) 0 1 8) = D129 r n bQi x0 (K6 (aPw r n) 0 1 2 8 11 12) :=
 congrArg (fun k=>D129 r n bQi x0 k) (cDl r n)
theorem cMv : D129 r n aIt x0 r129 = (K4 (aQy r n) 0 1 2 8) :=
 (bXw r n).trans
 ((bMf r n).trans
 ((by kernel_rfl)))
theorem bTv : D129 r n aEl x0 r129 = D129 r n bZi x0 (K4 (aQy r n) 0 1 2 8) :=
 congrArg (fun k=>D129 r n bZi x0 k) (cMv r n)
theorem cLb : D129 r n aEl x0 r129 = (K3 (aVc r n) 0 1 2) :=
 (bTv r n).trans
 ((by kernel_rfl))
theorem dAc : D129 r n c129 x0 r129 = D129 r n aZx x0 (K3 (aVc r n) 0 1 2) :=
 congrArg (fun k=>D129 r n aZx x0 k) (cLb r n)
theorem dMi : D129 r n c129 x0 r129 = (K3 (s129 r n) 0 1 2) :=
 (dAc r n).trans
 ((by kernel_rfl))
theorem dHg : aF CF r n 129 args h = s129 r n (aV args 0) (aV args 1) (aV args 2) h :=
 (by kernel_rfl : aF CF r n 129 args h = D129 r n c129 x0 r129 (aJ args) h).trans ((congrFun (congrFun (dMi r n) (aJ args)) h).trans (by kernel_rfl))
def s130 (r : RT) (n : Nat) (x0 x1 : DV) (h0 : Hp) : aH :=
 bnd (r 199 [x0,x1] h0) fun v1 h1 =>
 bnd (aD .geq v1 (aN 0) h1) fun v2 h2 =>
 some (v2,h2)
abbrev c130 : Code:=cf Tryz.f130
abbrev r130 : K:=aR CF Tryz.f130
def D130 (r : RT) (n : Nat) (c : Code) (X : Nat → K) (k : K) : K:=aM CF r 9 n c X r130 k
theorem dJg : D130 r n c130 x0 r130 = (K2 (s130 r n) 0 1) :=
 (by kernel_rfl)
theorem dBt : aF CF r n 130 args h = s130 r n (aV args 0) (aV args 1) h :=
 (by kernel_rfl : aF CF r n 130 args h = D130 r n c130 x0 r130 (aJ args) h).trans ((congrFun (congrFun (dJg r n) (aJ args)) h).trans (by kernel_rfl))
def s131 (r : RT) (n : Nat) (x0 x1 : DV) (h0 : Hp) : aH :=
 bnd (aA x1 h0) fun v1 h1 =>
 bnd (aY v1 h1) fun v2 h2 =>
 bnd (aB 0 v2 h2) fun v3 h3 =>
 bnd (aA v3 h3) fun v4 h4 =>
 bnd (bRa [v4,x0] h4) fun v5 h5 =>
 bnd (gQ .not v5 h5) fun v6 h6 =>
 some (v6,h6)
abbrev c131 : Code:=cf Tryz.f131
abbrev r131 : K:=aR CF Tryz.f131
def D131 (r : RT) (n : Nat) (c : Code) (X : Nat → K) (k : K) : K:=aM CF r 11 n c X r131 k
theorem dPx : D131 r n c131 x0 r131 = (K2 (s131 r n) 0 1) :=
 (by kernel_rfl)
theorem dBm : aF CF r n 131 args h = s131 r n (aV args 0) (aV args 1) h :=
 (by kernel_rfl : aF CF r n 131 args h = D131 r n c131 x0 r131 (aJ args) h).trans ((congrFun (congrFun (dPx r n) (aJ args)) h).trans (by kernel_rfl))
def fK (r : RT) (n : Nat) (x10 : DV) (h0 : Hp) : aH :=
 some (.t [x10,(aN 0)],h0)
def aWn (r : RT) (n : Nat) (kk6 : dJ) (x0 x10 x29 x30 x31 : DV) (h0 : Hp) : aH :=
 bnd (aD .lss x31 x30 h0) fun v1 h1 =>
 aT v1 (
 bnd (aE 1 x29 x31 h1) fun v2 h2 =>
 bnd (aA v2 h2) fun v3 h3 =>
 bnd (aY x0 h3) fun v4 h4 =>
 bnd (aB 0 v4 h4) fun v5 h5 =>
 bnd (aA v5 h5) fun v6 h6 =>
 bnd (aMi [v6,x10,x31,v3] h6) fun v7 h7 =>
 bnd (aD .add x31 (aN 1) h7) fun v8 h8 =>
      kk6 x0 x10 x29 x30 v8 h8) (
      fK r n x10 h1)
def xE (r : RT) (n : Nat) (m : Nat) : dJ :=
 Nat.rec (motive:=fun _=>dJ) (fun _ _ _ _ _ _=>none) (fun _ ih=>aWn r n ih) m
def bQy (r : RT) (n : Nat) : dJ:=xE r n n
def aTe (r : RT) (n : Nat) (x0 x10 x29 x30 x31 : DV) (h0 : Hp) : aH :=
 bQy r n x0 x10 x29 x30 x31 h0
def aTj (r : RT) (n : Nat) (x0 x3 x10 : DV) (h0 : Hp) : aH :=
 bnd (cB x3 h0) fun v1 h1 =>
  aTe r n x0 x10 x3 v1 (aN 0) h1
def aQm (r : RT) (n : Nat) (x0 x3 x10 x11 : DV) (h0 : Hp) : aH :=
 bnd (aD .neq x11 (aN 0) h0) fun v1 h1 =>
 aT v1 (
 some (.t [(aN 0),x11],h1)) (
  aTj r n x0 x3 x10 h1)
def aQo (r : RT) (n : Nat) (x0 x1 x2 x3 : DV) (h0 : Hp) : aH :=
 bnd (aY x0 h0) fun v1 h1 =>
 bnd (aB 0 v1 h1) fun v2 h2 =>
 bnd (aA v2 h2) fun v3 h3 =>
 bnd (cB x3 h3) fun v4 h4 =>
 bnd (uZ [v3,x1,x2,v4] h4) fun v5 h5 =>
 bnd (aC 0 v5 h5) fun v6 h6 =>
 bnd (aC 1 v5 h6) fun v7 h7 =>
  aQm r n x0 x3 v6 v7 h7
def s133 (r : RT) (n : Nat) (x0 x1 x2 x3 : DV) (h0 : Hp) : aH :=
 aQo r n x0 x1 x2 x3 h0
abbrev c133 : Code:=cf Tryz.f133
abbrev aIv : Code:=cR c133
abbrev aGi : Code:=cR aIv
abbrev aGu : Code:=cR aGi
abbrev cYk : Code:=cR aGu
abbrev aAl : Code:=cL aGu
abbrev aSw : Code:=cR aAl
abbrev aLf : Code:=cL aSw
abbrev pY : Code:=cL aLf
abbrev cAf : Code:=cL aAl
abbrev bCt : Code:=cL aGi
abbrev bBa : Code:=cL aIv
abbrev bDk : Code:=cL c133
abbrev r133 : K:=aR CF Tryz.f133
def D133 (r : RT) (n : Nat) (c : Code) (X : Nat → K) (k : K) : K:=aM CF r 46 n c X r133 k
theorem cPu : D133 r n cYk x0 r133 = (K1 (fK r n) 10) :=
 (by kernel_rfl)
theorem bRd (kk6 : dJ) : D133 r n pY (xs x0 0 (K1 (fK r n) 10)) (K5 kk6 0 10 29 30 31) = (K5 (aWn r n kk6) 0 10 29 30 31) :=
 (by kernel_rfl)
theorem bWq (m : Nat) : aL (fun kk=>D133 r n pY (xs x0 0 (K1 (fK r n) 10)) kk) m = (K5 (xE r n m) 0 10 29 30 31):=by
 induction m with
 | zero=>exact (by kernel_rfl : aL (fun kk=>D133 r n pY (xs x0 0 (K1 (fK r n) 10)) kk) 0 = (K5 (xE r n 0) 0 10 29 30 31))
 | succ m ih =>
  refine (by kernel_rfl : aL (fun kk=>D133 r n pY (xs x0 0 (K1 (fK r n) 10)) kk) (m + 1) = D133 r n pY (xs x0 0 (K1 (fK r n) 10)) (aL (fun kk=>D133 r n pY (xs x0 0 (K1 (fK r n) 10)) kk) m)).trans ?_
  rw [ih]
  exact (bRd r n (xE r n m)).trans (by kernel_rfl)
theorem cDq : D133 r n aLf (xs x0 0 (K1 (fK r n) 10)) (K1 (fK r n) 10) = (K5 (bQy r n) 0 10 29 30 31) :=
 (by kernel_rfl : D133 r n aLf (xs x0 0 (K1 (fK r n) 10)) (K1 (fK r n) 10) = aL (fun kk=>D133 r n pY (xs x0 0 (K1 (fK r n) 10)) kk) n).trans ((bWq r n n).trans (by kernel_rfl))
theorem cPe : D133 r n aSw x0 (K1 (fK r n) 10) = (K5 (aTe r n) 0 10 29 30 31) :=
 (by kernel_rfl : D133 r n aSw x0 (K1 (fK r n) 10) = D133 r n aLf (xs x0 0 (K1 (fK r n) 10)) (K1 (fK r n) 10)).trans
 ((cDq r n).trans (by kernel_rfl))
theorem bKp : D133 r n aGu x0 r133 = D133 r n aAl x0 (K1 (fK r n) 10) :=
 congrArg (fun k=>D133 r n aAl x0 k) (cPu r n)
theorem cAl : D133 r n aAl x0 (K1 (fK r n) 10) = D133 r n cAf x0 (K5 (aTe r n) 0 10 29 30 31) :=
 congrArg (fun k=>D133 r n cAf x0 k) (cPe r n)
theorem cMz : D133 r n aGu x0 r133 = (K3 (aTj r n) 0 3 10) :=
 (bKp r n).trans
 ((cAl r n).trans
 ((by kernel_rfl)))
theorem bYa : D133 r n aGi x0 r133 = D133 r n bCt x0 (K3 (aTj r n) 0 3 10) :=
 congrArg (fun k=>D133 r n bCt x0 k) (cMz r n)
theorem cMs : D133 r n aGi x0 r133 = (K4 (aQm r n) 0 3 10 11) :=
 (bYa r n).trans
 ((by kernel_rfl))
theorem bIv : D133 r n aIv x0 r133 = D133 r n bBa x0 (K4 (aQm r n) 0 3 10 11) :=
 congrArg (fun k=>D133 r n bBa x0 k) (cMs r n)
theorem cJg : D133 r n aIv x0 r133 = (K4 (aQo r n) 0 1 2 3) :=
 (bIv r n).trans
 ((by kernel_rfl))
theorem cYe : D133 r n c133 x0 r133 = D133 r n bDk x0 (K4 (aQo r n) 0 1 2 3) :=
 congrArg (fun k=>D133 r n bDk x0 k) (cJg r n)
theorem dHz : D133 r n c133 x0 r133 = (K4 (s133 r n) 0 1 2 3) :=
 (cYe r n).trans
 ((by kernel_rfl))
theorem dAt : aF CF r n 133 args h = s133 r n (aV args 0) (aV args 1) (aV args 2) (aV args 3) h :=
 (by kernel_rfl : aF CF r n 133 args h = D133 r n c133 x0 r133 (aJ args) h).trans ((congrFun (congrFun (dHz r n) (aJ args)) h).trans (by kernel_rfl))
def s139 (r : RT) (n : Nat) (x0 x1 : DV) (h0 : Hp) : aH :=
 bnd (dA x0 h0) fun v1 h1 =>
 bnd (bY [(.s []),(aN 0),(aN 0),(aN 0),.l0,.l0] h1) fun v2 h2 =>
 bnd (aK 6 v1 h2) fun v3 h3 =>
 bnd (r 155 [v3,x1,(.b false)] h3) fun v4 h4 =>
 bnd (aC 0 v4 h4) fun v5 h5 =>
 bnd (aC 1 v4 h5) fun v6 h6 =>
 bnd (aC 2 v4 h6) fun v7 h7 =>
 bnd (aG 6 v2 v5 h7) fun _ h8 =>
 bnd (aK 6 v2 h8) fun v9 _ =>
 some (.t [v9,v6,v7],h8)
abbrev c139 : Code:=cf Tryz.f139
abbrev r139 : K:=aR CF Tryz.f139
def D139 (r : RT) (n : Nat) (c : Code) (X : Nat → K) (k : K) : K:=aM CF r 13 n c X r139 k
theorem dLt : D139 r n c139 x0 r139 = (K2 (s139 r n) 0 1) :=
 (by kernel_rfl)
theorem cXj : aF CF r n 139 args h = s139 r n (aV args 0) (aV args 1) h :=
 (by kernel_rfl : aF CF r n 139 args h = D139 r n c139 x0 r139 (aJ args) h).trans ((congrFun (congrFun (dLt r n) (aJ args)) h).trans (by kernel_rfl))
def s141 (r : RT) (n : Nat) (x0 x1 x2 : DV) (h0 : Hp) : aH :=
 bnd (dA x2 h0) fun v1 h1 =>
 bnd (aK 6 v1 h1) fun v2 h2 =>
 bnd (r 158 [x0,x1,v2] h2) fun v3 h3 =>
 bnd (aC 0 v3 h3) fun v4 h4 =>
 bnd (aC 1 v3 h4) fun v5 h5 =>
 bnd (aD .neq v5 (aN 0) h5) fun v6 h6 =>
 aT v6 (
 some (.t [(aN 0),v5],h6)) (
 bnd (r 204 [x0,v4,(aN 0)] h6) fun v7 h7 =>
 bnd (r 207 [x0,x1,v7,v4] h7) fun v8 h8 =>
 bnd (aD .neq v8 (aN 0) h8) fun v9 h9 =>
 aT v9 (
 some (.t [(aN 0),v8],h9)) (
 some (.t [v4,(aN 0)],h9)))
abbrev c141 : Code:=cf Tryz.f141
abbrev r141 : K:=aR CF Tryz.f141
def D141 (r : RT) (n : Nat) (c : Code) (X : Nat → K) (k : K) : K:=aM CF r 32 n c X r141 k
theorem dNq : D141 r n c141 x0 r141 = (K3 (s141 r n) 0 1 2) :=
 (by kernel_rfl)
theorem dGp : aF CF r n 141 args h = s141 r n (aV args 0) (aV args 1) (aV args 2) h :=
 (by kernel_rfl : aF CF r n 141 args h = D141 r n c141 x0 r141 (aJ args) h).trans ((congrFun (congrFun (dNq r n) (aJ args)) h).trans (by kernel_rfl))
end Go.Dd

namespace Go.Dd
open Go.Proofs
variable (r : RT) (n : Nat) (args : List DV) (h : Hp)
def s153 (r : RT) (n : Nat) (x0 x1 : DV) (h0 : Hp) : aH :=
 bnd (bY zr6 h0) fun v1 h1 =>
 bnd (r 218 [x0] h1) fun v2 h2 =>
 bnd (aC 0 v2 h2) fun v3 h3 =>
 bnd (aC 1 v2 h3) fun v4 h4 =>
 bnd (aC 2 v2 h4) fun v5 h5 =>
 bnd (aD .neq v5 (aN 0) h5) fun v6 h6 =>
 aT v6 (
 bnd (bK zr6 [] h6) fun v7 h7 =>
 bnd (aG 6 v1 v7 h7) fun _ h8 =>
 bnd (aK 6 v1 h8) fun v9 _ =>
 some (.t [v9,v4,v5],h8)) (
 bnd (bK [.l0,(aN 0),(aN 0),(aN 0)] [(0,1,v3)] h6) fun v10 h10 =>
 bnd (dA v10 h10) fun v11 h11 =>
 bnd (jY CF r x1 [v11] h11) fun v12 h12 =>
 bnd (bY zr6 h12) fun v13 h13 =>
 bnd (aG 6 v13 v12 h13) fun _ h14 =>
 bnd (r 219 [v11] h14) fun v15 h15 =>
 bnd (aB 4 v13 h15) fun v16 h16 =>
 bnd (aG 1 v16 v15 h16) fun _ h17 =>
 bnd (r 220 [v11] h17) fun v18 h18 =>
 bnd (aB 5 v13 h18) fun v19 h19 =>
 bnd (aG 1 v19 v18 h19) fun _ h20 =>
 bnd (r 221 [v11,(aN 0),(.s [])] h20) fun v21 h21 =>
 bnd (aY v11 h21) fun v22 h22 =>
 bnd (aB 3 v22 h22) fun v23 h23 =>
 bnd (aA v23 h23) fun v24 h24 =>
 bnd (aD .neq v24 (aN 0) h24) fun v25 h25 =>
 aT v25 (
 bnd (bK zr6 [] h25) fun v26 h26 =>
 bnd (aY v11 h26) fun v27 h27 =>
 bnd (aB 2 v27 h27) fun v28 h28 =>
 bnd (aA v28 h28) fun v29 h29 =>
 bnd (aY v11 h29) fun v30 h30 =>
 bnd (aB 3 v30 h30) fun v31 h31 =>
 bnd (aA v31 h31) fun v32 h32 =>
 bnd (aG 6 v1 v26 h32) fun v33 h33 =>
 cnd (bJ (aA v31 h33) v32 && (bJ (aA v28 h33) v29 && true)) (
 bnd (aK 6 v1 h33) fun v34 _ =>
 some (.t [v34,v29,v32],h33))) (
 bnd (aK 6 v13 h25) fun v35 h35 =>
 bnd (aG 6 v1 v35 h35) fun _ h36 =>
 bnd (aK 6 v1 h36) fun v37 _ =>
 some (.t [v37,(aN 0),(aN 0)],h36)))
abbrev c153 : Code:=cf Tryz.f153
abbrev r153 : K:=aR CF Tryz.f153
def D153 (r : RT) (n : Nat) (c : Code) (X : Nat → K) (k : K) : K:=aM CF r 52 n c X r153 k
theorem dNg : D153 r n c153 x0 r153 = (K2 (s153 r n) 0 1) :=
 (by kernel_rfl)
theorem dCe : aF CF r n 153 args h = s153 r n (aV args 0) (aV args 1) h :=
 (by kernel_rfl : aF CF r n 153 args h = D153 r n c153 x0 r153 (aJ args) h).trans ((congrFun (congrFun (dNg r n) (aJ args)) h).trans (by kernel_rfl))
def s158 (r : RT) (n : Nat) (x0 x1 x2 : DV) (h0 : Hp) : aH :=
 bnd (dA x2 h0) fun v1 h1 =>
 bnd (r 203 [x0,x1] h1) fun v2 h2 =>
 bnd (gQ .not v2 h2) fun v3 h3 =>
 aT v3 (
 some (.t [(aN 0),(aN 24)],h3)) (
 bnd (aK 6 v1 h3) fun v4 h4 =>
 bnd (r 217 [x0,x1] h4) fun v5 h5 =>
 cnd (bJ (aK 6 v1 h5) v4 && true) (
 bnd (r 224 [v4,v5] h5) fun v6 h6 =>
 bnd (aD .neq v6 (aN 0) h6) fun v7 h7 =>
 aT v7 (
 some (.t [(aN 0),v6],h7)) (
 bnd (aB 0 v1 h7) fun v8 h8 =>
 bnd (aA v8 h8) fun v9 h9 =>
 bnd (r 81 [x0,v9] h9) fun v10 h10 =>
 bnd (aC 0 v10 h10) fun v11 h11 =>
 bnd (aC 1 v10 h11) fun v12 h12 =>
 bnd (aD .neq v12 (aN 0) h12) fun v13 h13 =>
 aT v13 (
 some (.t [(aN 0),v12],h13)) (
 bnd (aB 4 v1 h13) fun v14 h14 =>
 bnd (aA v14 h14) fun v15 h15 =>
 bnd (bK [(aN 0),(.s []),(aN 0),.l0] [(0,1,(aN 4)),(3,1,v15)] h15) fun v16 h16 =>
 bnd (r 225 [x0,v16] h16) fun v17 h17 =>
 bnd (aC 0 v17 h17) fun v18 h18 =>
 bnd (aC 1 v17 h18) fun v19 h19 =>
 bnd (aD .neq v19 (aN 0) h19) fun v20 h20 =>
 aT v20 (
 some (.t [(aN 0),v19],h20)) (
 bnd (aB 5 v1 h20) fun v21 h21 =>
 bnd (aA v21 h21) fun v22 h22 =>
 bnd (r 226 [v22] h22) fun v23 h23 =>
 bnd (aC 0 v23 h23) fun v24 h24 =>
 bnd (aC 1 v23 h24) fun v25 h25 =>
 bnd (r 227 [x0,v24] h25) fun v26 h26 =>
 bnd (aC 0 v26 h26) fun v27 h27 =>
 bnd (aC 1 v26 h27) fun v28 h28 =>
 bnd (aD .neq v28 (aN 0) h28) fun v29 h29 =>
 aT v29 (
 some (.t [(aN 0),v28],h29)) (
 bnd (r 79 [x0,(aN 14)] (resv 1 h29)) fun v30 h30 =>
 bnd (aB 1 v1 h30) fun v31 h31 =>
 bnd (aA v31 h31) fun v32 h32 =>
 cnd (bJ (aA v31 (resv 1 h29)) v32 && true) (
 bnd (r 83 [v32] h32) fun v33 h33 =>
 bnd (aB 2 v1 h33) fun v34 h34 =>
 bnd (aA v34 h34) fun v35 h35 =>
 cnd (bJ (aA v34 h30) v35 && (bJ (aA v34 (resv 1 h29)) v35 && true)) (
 bnd (r 83 [v35] h35) fun v36 h36 =>
 bnd (aB 3 v1 h36) fun v37 h37 =>
 bnd (aA v37 h37) fun v38 h38 =>
 cnd (bJ (aA v37 h33) v38 && (bJ (aA v37 h30) v38 && (bJ (aA v37 (resv 1 h29)) v38 && true))) (
 bnd (r 83 [v38] h38) fun v39 h39 =>
 bnd (cS (cW 0 h29.next) [(aN 0),(aN 0),(aN 0),(aN 0),(aN 0),(aN 0),(aN 0)] 7 [(0,1,v11),(1,1,v33),(2,1,v36),(3,1,v39),(4,1,v18),(5,1,v27),(6,1,x1)] h39) fun v40 h40 =>
 bnd (r 133 [x0,v30,(aN 0),v40] h40) fun v41 h41 =>
 bnd (aC 0 v41 h41) fun v42 h42 =>
 bnd (aC 1 v41 h42) fun v43 h43 =>
 some (.t [v42,v43],h43))))))))))
abbrev c158 : Code:=cf Tryz.f158
abbrev r158 : K:=aR CF Tryz.f158
def D158 (r : RT) (n : Nat) (c : Code) (X : Nat → K) (k : K) : K:=aM CF r 83 n c X r158 k
theorem dMs : D158 r n c158 x0 r158 = (K3 (s158 r n) 0 1 2) :=
 (by kernel_rfl)
theorem cVi : aF CF r n 158 args h = s158 r n (aV args 0) (aV args 1) (aV args 2) h :=
 (by kernel_rfl : aF CF r n 158 args h = D158 r n c158 x0 r158 (aJ args) h).trans ((congrFun (congrFun (dMs r n) (aJ args)) h).trans (by kernel_rfl))
def fD (r : RT) (n : Nat) (h0 : Hp) : aH :=
 some ((.i .i64 (Int.negSucc 0)),h0)
def oW (r : RT) (n : Nat) (kk4 : eJ) (x0 x1 x7 x8 : DV) (h0 : Hp) : aH :=
 bnd (aD .lss x8 x7 h0) fun v1 h1 =>
 aT v1 (
 bnd (aE 1 x0 x8 h1) fun v2 h2 =>
 bnd (aA v2 h2) fun v3 h3 =>
 bnd (bI .eql x1 v3 h3) fun v4 h4 =>
 aT v4 (
 some (x8,h4)) (
 bnd (aD .add x8 (.i .i64 (Int.ofNat 1)) h4) fun v5 h5 =>
    kk4 x0 x1 x7 v5 h5)) (
      fD r n h1)
def mO (r : RT) (n : Nat) (m : Nat) : eJ :=
 Nat.rec (motive:=fun _=>eJ) (fun _ _ _ _ _=>none) (fun _ ih=>oW r n ih) m
def aPn (r : RT) (n : Nat) : eJ:=mO r n n
def aKx (r : RT) (n : Nat) (x0 x1 x7 x8 : DV) (h0 : Hp) : aH :=
 aPn r n x0 x1 x7 x8 h0
def aHy (r : RT) (n : Nat) (x0 x1 : DV) (h0 : Hp) : aH :=
 bnd (cB x0 h0) fun v1 h1 =>
  aKx r n x0 x1 v1 (.i .i64 (Int.ofNat 0)) h1
def s193 (r : RT) (n : Nat) (x0 x1 : DV) (h0 : Hp) : aH :=
 aHy r n x0 x1 h0
abbrev c193 : Code:=cf Tryz.f193
abbrev aFj : Code:=cR c193
abbrev cZj : Code:=cR aFj
abbrev yR : Code:=cL aFj
abbrev aSy : Code:=cR yR
abbrev aJh : Code:=cL aSy
abbrev rF : Code:=cL aJh
abbrev bMm : Code:=cL yR
abbrev bOd : Code:=cL c193
abbrev r193 : K:=aR CF Tryz.f193
def D193 (r : RT) (n : Nat) (c : Code) (X : Nat → K) (k : K) : K:=aM CF r 19 n c X r193 k
theorem cNw : D193 r n cZj x0 r193 = (K0 (fD r n)) :=
 (by kernel_rfl)
theorem bYt (kk4 : eJ) : D193 r n rF (xs x0 0 (K0 (fD r n))) (K4 kk4 0 1 7 8) = (K4 (oW r n kk4) 0 1 7 8) :=
 (by kernel_rfl)
theorem bWu (m : Nat) : aL (fun kk=>D193 r n rF (xs x0 0 (K0 (fD r n))) kk) m = (K4 (mO r n m) 0 1 7 8):=by
 induction m with
 | zero=>exact (by kernel_rfl : aL (fun kk=>D193 r n rF (xs x0 0 (K0 (fD r n))) kk) 0 = (K4 (mO r n 0) 0 1 7 8))
 | succ m ih =>
  refine (by kernel_rfl : aL (fun kk=>D193 r n rF (xs x0 0 (K0 (fD r n))) kk) (m + 1) = D193 r n rF (xs x0 0 (K0 (fD r n))) (aL (fun kk=>D193 r n rF (xs x0 0 (K0 (fD r n))) kk) m)).trans ?_
  rw [ih]
  exact (bYt r n (mO r n m)).trans (by kernel_rfl)
theorem cEl : D193 r n aJh (xs x0 0 (K0 (fD r n))) (K0 (fD r n)) = (K4 (aPn r n) 0 1 7 8) :=
 (by kernel_rfl : D193 r n aJh (xs x0 0 (K0 (fD r n))) (K0 (fD r n)) = aL (fun kk=>D193 r n rF (xs x0 0 (K0 (fD r n))) kk) n).trans ((bWu r n n).trans (by kernel_rfl))
theorem cHc : D193 r n aSy x0 (K0 (fD r n)) = (K4 (aKx r n) 0 1 7 8) :=
 (by kernel_rfl : D193 r n aSy x0 (K0 (fD r n)) = D193 r n aJh (xs x0 0 (K0 (fD r n))) (K0 (fD r n))).trans
 ((cEl r n).trans (by kernel_rfl))
theorem bXh : D193 r n aFj x0 r193 = D193 r n yR x0 (K0 (fD r n)) :=
 congrArg (fun k=>D193 r n yR x0 k) (cNw r n)
theorem bYq : D193 r n yR x0 (K0 (fD r n)) = D193 r n bMm x0 (K4 (aKx r n) 0 1 7 8) :=
 congrArg (fun k=>D193 r n bMm x0 k) (cHc r n)
theorem cOe : D193 r n aFj x0 r193 = (K2 (aHy r n) 0 1) :=
 (bXh r n).trans
 ((bYq r n).trans
 ((by kernel_rfl)))
theorem dGr : D193 r n c193 x0 r193 = D193 r n bOd x0 (K2 (aHy r n) 0 1) :=
 congrArg (fun k=>D193 r n bOd x0 k) (cOe r n)
theorem dNf : D193 r n c193 x0 r193 = (K2 (s193 r n) 0 1) :=
 (dGr r n).trans
 ((by kernel_rfl))
theorem bSc : aF CF r n 193 args h = s193 r n (aV args 0) (aV args 1) h :=
 (by kernel_rfl : aF CF r n 193 args h = D193 r n c193 x0 r193 (aJ args) h).trans ((congrFun (congrFun (dNf r n) (aJ args)) h).trans (by kernel_rfl))
def s203 (r : RT) (n : Nat) (x0 x1 : DV) (h0 : Hp) : aH :=
 bnd (aY x0 h0) fun v1 h1 =>
 bnd (aB 0 v1 h1) fun v2 h2 =>
 bnd (aA v2 h2) fun v3 h3 =>
 bnd (isF [v3,x1] h3) fun v4 h4 =>
 bnd (gD v4 true (some (x0,h4)) h4) fun v5 h5 =>
 bnd (gD v4 true (aY v5 h5) h5) fun v6 h6 =>
 bnd (gD v4 true (aB 0 v6 h6) h6) fun v7 h7 =>
 bnd (gD v4 true (aA v7 h7) h7) fun v8 h8 =>
 bnd (gD v4 true (some (x1,h8)) h8) fun v9 h9 =>
 bnd (gD v4 true (uV [v8,v9] h9) h9) fun v10 h10 =>
 bnd (gD v4 true (some (x0,h10)) h10) fun v11 h11 =>
 bnd (gD v4 true (r 79 [v11,(aN 1)] h11) h11) fun v12 h12 =>
 bnd (gD v4 true (aD .eql v10 v12 h12) h12) fun v13 h13 =>
 bnd (aP v4 v13 (.b false) h13) fun v14 h14 =>
 bnd (gD v14 true (some (x0,h14)) h14) fun v15 h15 =>
 bnd (gD v14 true (aY v15 h15) h15) fun v16 h16 =>
 bnd (gD v14 true (aB 0 v16 h16) h16) fun v17 h17 =>
 bnd (gD v14 true (aA v17 h17) h17) fun v18 h18 =>
 bnd (gD v14 true (some (x1,h18)) h18) fun v19 h19 =>
 bnd (gD v14 true (sR [v18,v19] h19) h19) fun v20 h20 =>
 bnd (gD v14 true (aD .eql v20 (aN 6) h20) h20) fun v21 h21 =>
 bnd (aP v14 v21 (.b false) h21) fun v22 h22 =>
 some (v22,h22)
abbrev c203 : Code:=cf Tryz.f203
abbrev r203 : K:=aR CF Tryz.f203
def D203 (r : RT) (n : Nat) (c : Code) (X : Nat → K) (k : K) : K:=aM CF r 31 n c X r203 k
theorem dIq : D203 r n c203 x0 r203 = (K2 (s203 r n) 0 1) :=
 (by kernel_rfl)
theorem dBj : aF CF r n 203 args h = s203 r n (aV args 0) (aV args 1) h :=
 (by kernel_rfl : aF CF r n 203 args h = D203 r n c203 x0 r203 (aJ args) h).trans ((congrFun (congrFun (dIq r n) (aJ args)) h).trans (by kernel_rfl))
def s204 (r : RT) (n : Nat) (x0 x1 x2 : DV) (h0 : Hp) : aH :=
 bnd (aY x0 h0) fun v1 h1 =>
 bnd (aB 0 v1 h1) fun v2 h2 =>
 bnd (aA v2 h2) fun v3 h3 =>
 bnd (bOi [v3,x1,x2] h3) fun v4 h4 =>
 bnd (aC 0 v4 h4) fun v5 h5 =>
 bnd (aC 1 v4 h5) fun v6 h6 =>
 some (v5,h6)
abbrev c204 : Code:=cf Tryz.f204
abbrev r204 : K:=aR CF Tryz.f204
def D204 (r : RT) (n : Nat) (c : Code) (X : Nat → K) (k : K) : K:=aM CF r 20 n c X r204 k
theorem dMw : D204 r n c204 x0 r204 = (K3 (s204 r n) 0 1 2) :=
 (by kernel_rfl)
theorem cWn : aF CF r n 204 args h = s204 r n (aV args 0) (aV args 1) (aV args 2) h :=
 (by kernel_rfl : aF CF r n 204 args h = D204 r n c204 x0 r204 (aJ args) h).trans ((congrFun (congrFun (dMw r n) (aJ args)) h).trans (by kernel_rfl))
def s206 (r : RT) (n : Nat) (x0 x1 : DV) (h0 : Hp) : aH :=
 bnd (r 203 [x0,x1] h0) fun v1 h1 =>
 bnd (gQ .not v1 h1) fun v2 h2 =>
 aT v2 (
 some ((aN 0),h2)) (
 bnd (r 204 [x0,x1,(aN 1)] h2) fun v3 h3 =>
 some (v3,h3))
abbrev c206 : Code:=cf Tryz.f206
abbrev r206 : K:=aR CF Tryz.f206
def D206 (r : RT) (n : Nat) (c : Code) (X : Nat → K) (k : K) : K:=aM CF r 12 n c X r206 k
theorem dLj : D206 r n c206 x0 r206 = (K2 (s206 r n) 0 1) :=
 (by kernel_rfl)
theorem dDd : aF CF r n 206 args h = s206 r n (aV args 0) (aV args 1) h :=
 (by kernel_rfl : aF CF r n 206 args h = D206 r n c206 x0 r206 (aJ args) h).trans ((congrFun (congrFun (dLj r n) (aJ args)) h).trans (by kernel_rfl))
def fE (r : RT) (n : Nat) (x0 x1 x3 : DV) (h0 : Hp) : aH :=
 bnd (r 204 [x0,x1,(aN 4)] h0) fun v1 h1 =>
 bnd (r 85 [x0,x3,v1] h1) fun v2 h2 =>
 bnd (aC 0 v2 h2) fun v3 h3 =>
 bnd (aC 1 v2 h3) fun v4 h4 =>
 bnd (aD .neq v4 (aN 0) h4) fun v5 h5 =>
 aT v5 (
 some (v4,h5)) (
 bnd (aY x0 h5) fun v6 h6 =>
 bnd (aB 0 v6 h6) fun v7 h7 =>
 bnd (aA v7 h7) fun v8 h8 =>
 bnd (aMi [v8,x1,(aN 4),v3] h8) fun v9 h9 =>
 some (v9,h9))
def aXu (r : RT) (n : Nat) (kk5 : gU) (x0 x1 x2 x3 x9 x10 : DV) (h0 : Hp) : aH :=
 bnd (aD .gtr x10 (aN 0) h0) fun v1 h1 =>
 bnd (gD v1 true (some (x0,h1)) h1) fun v2 h2 =>
 bnd (gD v1 true (aY v2 h2) h2) fun v3 h3 =>
 bnd (gD v1 true (aB 0 v3 h3) h3) fun v4 h4 =>
 bnd (gD v1 true (aA v4 h4) h4) fun v5 h5 =>
 bnd (gD v1 true (some (x9,h5)) h5) fun v6 h6 =>
 bnd (gD v1 true (isF [v5,v6] h6) h6) fun v7 h7 =>
 bnd (aP v1 v7 (.b false) h7) fun v8 h8 =>
 aT v8 (
 bnd (r 204 [x0,x9,(aN 0)] h8) fun v9 h9 =>
 bnd (r 204 [x0,v9,(aN 0)] h9) fun v10 h10 =>
 bnd (aD .eql v10 x2 h10) fun v11 h11 =>
 aT v11 (
 bnd (aY x0 h11) fun v12 h12 =>
 bnd (aB 0 v12 h12) fun v13 h13 =>
 bnd (aA v13 h13) fun v14 h14 =>
 bnd (aMi [v14,x9,(aN 0),x3] h14) fun v15 h15 =>
 some (v15,h15)) (
 bnd (r 204 [x0,x9,(aN 1)] h11) fun v16 h16 =>
 bnd (aD .sub x10 (aN 1) h16) fun v17 h17 =>
    kk5 x0 x1 x2 x3 v16 v17 h17)) (
      fE r n x0 x1 x3 h8)
def wW (r : RT) (n : Nat) (m : Nat) : gU :=
 Nat.rec (motive:=fun _=>gU) (fun _ _ _ _ _ _ _=>none) (fun _ ih=>aXu r n ih) m
def bRp (r : RT) (n : Nat) : gU:=wW r n n
def aQt (r : RT) (n : Nat) (x0 x1 x2 x3 x9 x10 : DV) (h0 : Hp) : aH :=
 bRp r n x0 x1 x2 x3 x9 x10 h0
def aRn (r : RT) (n : Nat) (x0 x1 x2 x3 x9 : DV) (h0 : Hp) : aH :=
 bnd (aY x0 h0) fun v1 h1 =>
 bnd (aB 0 v1 h1) fun v2 h2 =>
 bnd (aA v2 h2) fun v3 h3 =>
 bnd (aPd [v3] h3) fun v4 h4 =>
  aQt r n x0 x1 x2 x3 x9 v4 h4
def aQd (r : RT) (n : Nat) (x0 x1 x2 x3 : DV) (h0 : Hp) : aH :=
 bnd (r 204 [x0,x1,(aN 4)] h0) fun v1 h1 =>
  aRn r n x0 x1 x2 x3 v1 h1
def s207 (r : RT) (n : Nat) (x0 x1 x2 x3 : DV) (h0 : Hp) : aH :=
 aQd r n x0 x1 x2 x3 h0
abbrev c207 : Code:=cf Tryz.f207
abbrev aFr : Code:=cR c207
abbrev aFy : Code:=cR aFr
abbrev dGl : Code:=cR aFy
abbrev yQ : Code:=cL aFy
abbrev aTi : Code:=cR yQ
abbrev aEe : Code:=cL aTi
abbrev qZ : Code:=cL aEe
abbrev bNm : Code:=cL yQ
abbrev bYj : Code:=cL aFr
abbrev bBb : Code:=cL c207
abbrev r207 : K:=aR CF Tryz.f207
def D207 (r : RT) (n : Nat) (c : Code) (X : Nat → K) (k : K) : K:=aM CF r 69 n c X r207 k
theorem cEv : D207 r n dGl x0 r207 = (K3 (fE r n) 0 1 3) :=
 (by kernel_rfl)
theorem bXo (kk5 : gU) : D207 r n qZ (xs x0 0 (K3 (fE r n) 0 1 3)) (K6 kk5 0 1 2 3 9 10) = (K6 (aXu r n kk5) 0 1 2 3 9 10) :=
 (by kernel_rfl)
theorem bJg (m : Nat) : aL (fun kk=>D207 r n qZ (xs x0 0 (K3 (fE r n) 0 1 3)) kk) m = (K6 (wW r n m) 0 1 2 3 9 10):=by
 induction m with
 | zero=>exact (by kernel_rfl : aL (fun kk=>D207 r n qZ (xs x0 0 (K3 (fE r n) 0 1 3)) kk) 0 = (K6 (wW r n 0) 0 1 2 3 9 10))
 | succ m ih =>
  refine (by kernel_rfl : aL (fun kk=>D207 r n qZ (xs x0 0 (K3 (fE r n) 0 1 3)) kk) (m + 1) = D207 r n qZ (xs x0 0 (K3 (fE r n) 0 1 3)) (aL (fun kk=>D207 r n qZ (xs x0 0 (K3 (fE r n) 0 1 3)) kk) m)).trans ?_
  rw [ih]
  exact (bXo r n (wW r n m)).trans (by kernel_rfl)
theorem cFj : D207 r n aEe (xs x0 0 (K3 (fE r n) 0 1 3)) (K3 (fE r n) 0 1 3) = (K6 (bRp r n) 0 1 2 3 9 10) :=
 (by kernel_rfl : D207 r n aEe (xs x0 0 (K3 (fE r n) 0 1 3)) (K3 (fE r n) 0 1 3) = aL (fun kk=>D207 r n qZ (xs x0 0 (K3 (fE r n) 0 1 3)) kk) n).trans ((bJg r n n).trans (by kernel_rfl))
theorem cCw : D207 r n aTi x0 (K3 (fE r n) 0 1 3) = (K6 (aQt r n) 0 1 2 3 9 10) :=
 (by kernel_rfl : D207 r n aTi x0 (K3 (fE r n) 0 1 3) = D207 r n aEe (xs x0 0 (K3 (fE r n) 0 1 3)) (K3 (fE r n) 0 1 3)).trans
 ((cFj r n).trans (by kernel_rfl))
theorem bTi : D207 r n aFy x0 r207 = D207 r n yQ x0 (K3 (fE r n) 0 1 3) :=
 congrArg (fun k=>D207 r n yQ x0 k) (cEv r n)
theorem bMh : D207 r n yQ x0 (K3 (fE r n) 0 1 3) = D207 r n bNm x0 (K6 (aQt r n) 0 1 2 3 9 10) :=
 congrArg (fun k=>D207 r n bNm x0 k) (cCw r n)
theorem cNq : D207 r n aFy x0 r207 = (K5 (aRn r n) 0 1 2 3 9) :=
 (bTi r n).trans
 ((bMh r n).trans
 ((by kernel_rfl)))
theorem bKx : D207 r n aFr x0 r207 = D207 r n bYj x0 (K5 (aRn r n) 0 1 2 3 9) :=
 congrArg (fun k=>D207 r n bYj x0 k) (cNq r n)
theorem cFd : D207 r n aFr x0 r207 = (K4 (aQd r n) 0 1 2 3) :=
 (bKx r n).trans
 ((by kernel_rfl))
theorem dCr : D207 r n c207 x0 r207 = D207 r n bBb x0 (K4 (aQd r n) 0 1 2 3) :=
 congrArg (fun k=>D207 r n bBb x0 k) (cFd r n)
theorem dKs : D207 r n c207 x0 r207 = (K4 (s207 r n) 0 1 2 3) :=
 (dCr r n).trans
 ((by kernel_rfl))
theorem cUq : aF CF r n 207 args h = s207 r n (aV args 0) (aV args 1) (aV args 2) (aV args 3) h :=
 (by kernel_rfl : aF CF r n 207 args h = D207 r n c207 x0 r207 (aJ args) h).trans ((congrFun (congrFun (dKs r n) (aJ args)) h).trans (by kernel_rfl))
end Go.Dd

namespace Go.Dd
open Go.Proofs
variable (r : RT) (n : Nat) (args : List DV) (h : Hp)
def fJ (r : RT) (n : Nat) (x0 x6 : DV) (h0 : Hp) : aH :=
 bnd (cM x0 h0) fun v1 h1 =>
 bnd (bK [(aN 0),(.s []),(aN 0),(aN 0)] [(3,1,v1)] h1) fun v2 h2 =>
 bnd (aO [(aN 0),(.s []),(aN 0),(aN 0)] 1 [(0,4,v2)] h2) fun v3 h3 =>
 bnd (bB 4 40 x6 v3 h3) fun v4 h4 =>
 some (.t [v4,(aN 0),(aN 0)],h4)
def aJx (r : RT) (n : Nat) (kk7 : dP) (x0 x5 x6 : DV) (h0 : Hp) : aH :=
 bnd (r 287 [(.s [9,10,13,32])] h0) fun v1 h1 =>
 bnd (cM x0 h1) fun v2 h2 =>
 bnd (r 286 [x5,v1,v2] h2) fun v3 h3 =>
 bnd (aY x5 h3) fun v4 h4 =>
 bnd (aB 1 v4 h4) fun v5 h5 =>
 bnd (aA v5 h5) fun v6 h6 =>
 bnd (cM x0 h6) fun v7 h7 =>
 bnd (aD .geq v6 v7 h7) fun v8 h8 =>
 aT v8 (
   fJ r n x0 x6 h8) (
 bnd (aY x5 h8) fun v9 h9 =>
 bnd (aB 1 v9 h9) fun v10 h10 =>
 bnd (aA v10 h10) fun v11 h11 =>
 bnd (bX x0 v11 h11) fun v12 h12 =>
 bnd (aD .eql v12 (.i .u8 (Int.ofNat 34)) h12) fun v13 h13 =>
 aT v13 (
 bnd (aY x5 h13) fun v14 h14 =>
 bnd (aB 1 v14 h14) fun v15 h15 =>
 bnd (aA v15 h15) fun v16 h16 =>
 bnd (aD .add v16 (aN 1) h16) fun v17 h17 =>
 bnd (cK x0 (some v17) none h17) fun v18 h18 =>
 bnd (r 30 [v18,(.i .u8 (Int.ofNat 34))] h18) fun v19 h19 =>
 bnd (aD .lss v19 (aN 0) h19) fun v20 h20 =>
 aT v20 (
 bnd (aY x5 h20) fun v21 h21 =>
 bnd (aB 1 v21 h21) fun v22 h22 =>
 bnd (aA v22 h22) fun v23 h23 =>
 some (.t [.l0,v23,(aN 11)],h23)) (
 bnd (aY x5 h20) fun v24 h24 =>
 bnd (aB 1 v24 h24) fun v25 h25 =>
 bnd (aA v25 h25) fun v26 h26 =>
 bnd (aD .add v19 (aN 2) h26) fun v27 h27 =>
 bnd (aD .add v26 v27 h27) fun v28 h28 =>
 bnd (aY x5 h28) fun v29 h29 =>
 bnd (aB 1 v29 h29) fun v30 h30 =>
 bnd (aG 1 v30 v28 h30) fun _ h31 =>
     kk7 x0 x5 x6 h31)) (
 bnd (r 288 [x5] h13) fun v32 h32 =>
 bnd (aC 0 v32 h32) fun v33 h33 =>
 bnd (aC 1 v32 h33) fun v34 h34 =>
 bnd (bY [(aN 0),(.s []),(aN 0),(aN 0)] h34) fun v35 h35 =>
 bnd (aG 4 v35 v33 h35) fun _ h36 =>
 bnd (aD .neq v34 (aN 0) h36) fun v37 h37 =>
 aT v37 (
 bnd (aB 3 v35 h37) fun v38 h38 =>
 bnd (aA v38 h38) fun v39 h39 =>
 some (.t [.l0,v39,v34],h39)) (
 bnd (aK 4 v35 h37) fun v40 h40 =>
 bnd (aO [(aN 0),(.s []),(aN 0),(aN 0)] 1 [(0,4,v40)] h40) fun v41 h41 =>
 bnd (bB 4 40 x6 v41 h41) fun v42 h42 =>
     kk7 x0 x5 v42 h42)))
def wO (r : RT) (n : Nat) (m : Nat) : dP :=
 Nat.rec (motive:=fun _=>dP) (fun _ _ _ _=>none) (fun _ ih=>aJx r n ih) m
def bJe (r : RT) (n : Nat) : dP:=wO r n n
def aUq (r : RT) (n : Nat) (x0 x5 x6 : DV) (h0 : Hp) : aH :=
 bJe r n x0 x5 x6 h0
def aUt (r : RT) (n : Nat) (x0 x5 x6 : DV) (h0 : Hp) : aH :=
 aUq r n x0 x5 x6 h0
def yM (r : RT) (n : Nat) (x0 x5 : DV) (h0 : Hp) : aH :=
 aUt r n x0 x5 .l0 h0
def aJm (r : RT) (n : Nat) (x0 : DV) (h0 : Hp) : aH :=
 bnd (bK [(.s []),(aN 0)] [(0,1,x0)] h0) fun v1 h1 =>
 bnd (dA v1 h1) fun v2 h2 =>
  yM r n x0 v2 h2
def aTh (r : RT) (n : Nat) (x0 : DV) (h0 : Hp) : aH :=
 bnd (cM x0 h0) fun v1 h1 =>
 bnd (aD .gtr v1 (aN 2000) h1) fun v2 h2 =>
 aT v2 (
 some (.t [.l0,(aN 0),(aN 12)],h2)) (
  aJm r n x0 h2)
def s218 (r : RT) (n : Nat) (x0 : DV) (h0 : Hp) : aH :=
 aTh r n x0 h0
abbrev c218 : Code:=cf Tryz.f218
abbrev aPu : Code:=cR c218
abbrev aEr : Code:=cL aPu
abbrev aGl : Code:=cR aEr
abbrev aIr : Code:=cR aGl
abbrev aFk : Code:=cR aIr
abbrev aEw : Code:=cR aFk
abbrev dFo : Code:=cR aEw
abbrev aHb : Code:=cL aEw
abbrev aEa : Code:=cL aHb
abbrev kX : Code:=cL aEa
abbrev aYv : Code:=cL aFk
abbrev bDh : Code:=cL aIr
abbrev aJa : Code:=cL aGl
abbrev aWu : Code:=cL aEr
abbrev bBh : Code:=cL c218
abbrev r218 : K:=aR CF Tryz.f218
def D218 (r : RT) (n : Nat) (c : Code) (X : Nat → K) (k : K) : K:=aM CF r 80 n c X r218 k
theorem cEt : D218 r n dFo x0 r218 = (K2 (fJ r n) 0 6) :=
 (by kernel_rfl)
theorem bZd (kk7 : dP) (q0 : TT2) : D218 r n kX (xs x0 0 (K2 q0 0 6)) (K3 kk7 0 5 6) = fun (env : bA) (h : Hp) =>
 bnd (r 287 [(.s [9,10,13,32])] h) fun v1 h1 =>
 bnd (cM (env 0) h1) fun v2 h2 =>
 bnd (r 286 [(env 5),v1,v2] h2) fun v3 h3 =>
 bnd (aY (env 5) h3) fun v4 h4 =>
 bnd (aB 1 v4 h4) fun v5 h5 =>
 bnd (aA v5 h5) fun v6 h6 =>
 bnd (cM (env 0) h6) fun v7 h7 =>
 bnd (aD .geq v6 v7 h7) fun v8 h8 =>
 aT v8 (
   q0 (env 0) (env 6) h8) (
 bnd (aY (env 5) h8) fun v9 h9 =>
 bnd (aB 1 v9 h9) fun v10 h10 =>
 bnd (aA v10 h10) fun v11 h11 =>
 bnd (bX (env 0) v11 h11) fun v12 h12 =>
 bnd (aD .eql v12 (.i .u8 (Int.ofNat 34)) h12) fun v13 h13 =>
 aT v13 (
 bnd (aY (env 5) h13) fun v14 h14 =>
 bnd (aB 1 v14 h14) fun v15 h15 =>
 bnd (aA v15 h15) fun v16 h16 =>
 bnd (aD .add v16 (aN 1) h16) fun v17 h17 =>
 bnd (cK (env 0) (some v17) none h17) fun v18 h18 =>
 bnd (r 30 [v18,(.i .u8 (Int.ofNat 34))] h18) fun v19 h19 =>
 bnd (aD .lss v19 (aN 0) h19) fun v20 h20 =>
 aT v20 (
 bnd (aY (env 5) h20) fun v21 h21 =>
 bnd (aB 1 v21 h21) fun v22 h22 =>
 bnd (aA v22 h22) fun v23 h23 =>
 some (.t [.l0,v23,(aN 11)],h23)) (
 bnd (aY (env 5) h20) fun v24 h24 =>
 bnd (aB 1 v24 h24) fun v25 h25 =>
 bnd (aA v25 h25) fun v26 h26 =>
 bnd (aD .add v19 (aN 2) h26) fun v27 h27 =>
 bnd (aD .add v26 v27 h27) fun v28 h28 =>
 bnd (aY (env 5) h28) fun v29 h29 =>
 bnd (aB 1 v29 h29) fun v30 h30 =>
 bnd (aG 1 v30 v28 h30) fun _ h31 =>
     kk7 (env 0) (env 5) (env 6) h31)) (
 bnd (r 288 [(env 5)] h13) fun v32 h32 =>
 bnd (aC 0 v32 h32) fun v33 h33 =>
 bnd (aC 1 v32 h33) fun v34 h34 =>
 bnd (bY [(aN 0),(.s []),(aN 0),(aN 0)] h34) fun v35 h35 =>
 bnd (aG 4 v35 v33 h35) fun _ h36 =>
 bnd (aD .neq v34 (aN 0) h36) fun v37 h37 =>
 aT v37 (
 bnd (aB 3 v35 h37) fun v38 h38 =>
 bnd (aA v38 h38) fun v39 h39 =>
 some (.t [.l0,v39,v34],h39)) (
 bnd (aK 4 v35 h37) fun v40 h40 =>
 bnd (aO [(aN 0),(.s []),(aN 0),(aN 0)] 1 [(0,4,v40)] h40) fun v41 h41 =>
 bnd (bB 4 40 (env 6) v41 h41) fun v42 h42 =>
     kk7 (env 0) (env 5) v42 h42))):=by kernel_rfl
theorem bEu (kk7 : dP) : (fun (env : bA) (h : Hp) =>
 bnd (r 287 [(.s [9,10,13,32])] h) fun v1 h1 =>
 bnd (cM (env 0) h1) fun v2 h2 =>
 bnd (r 286 [(env 5),v1,v2] h2) fun v3 h3 =>
 bnd (aY (env 5) h3) fun v4 h4 =>
 bnd (aB 1 v4 h4) fun v5 h5 =>
 bnd (aA v5 h5) fun v6 h6 =>
 bnd (cM (env 0) h6) fun v7 h7 =>
 bnd (aD .geq v6 v7 h7) fun v8 h8 =>
 aT v8 (
   fJ r n (env 0) (env 6) h8) (
 bnd (aY (env 5) h8) fun v9 h9 =>
 bnd (aB 1 v9 h9) fun v10 h10 =>
 bnd (aA v10 h10) fun v11 h11 =>
 bnd (bX (env 0) v11 h11) fun v12 h12 =>
 bnd (aD .eql v12 (.i .u8 (Int.ofNat 34)) h12) fun v13 h13 =>
 aT v13 (
 bnd (aY (env 5) h13) fun v14 h14 =>
 bnd (aB 1 v14 h14) fun v15 h15 =>
 bnd (aA v15 h15) fun v16 h16 =>
 bnd (aD .add v16 (aN 1) h16) fun v17 h17 =>
 bnd (cK (env 0) (some v17) none h17) fun v18 h18 =>
 bnd (r 30 [v18,(.i .u8 (Int.ofNat 34))] h18) fun v19 h19 =>
 bnd (aD .lss v19 (aN 0) h19) fun v20 h20 =>
 aT v20 (
 bnd (aY (env 5) h20) fun v21 h21 =>
 bnd (aB 1 v21 h21) fun v22 h22 =>
 bnd (aA v22 h22) fun v23 h23 =>
 some (.t [.l0,v23,(aN 11)],h23)) (
 bnd (aY (env 5) h20) fun v24 h24 =>
 bnd (aB 1 v24 h24) fun v25 h25 =>
 bnd (aA v25 h25) fun v26 h26 =>
 bnd (aD .add v19 (aN 2) h26) fun v27 h27 =>
 bnd (aD .add v26 v27 h27) fun v28 h28 =>
 bnd (aY (env 5) h28) fun v29 h29 =>
 bnd (aB 1 v29 h29) fun v30 h30 =>
 bnd (aG 1 v30 v28 h30) fun _ h31 =>
     kk7 (env 0) (env 5) (env 6) h31)) (
 bnd (r 288 [(env 5)] h13) fun v32 h32 =>
 bnd (aC 0 v32 h32) fun v33 h33 =>
 bnd (aC 1 v32 h33) fun v34 h34 =>
 bnd (bY [(aN 0),(.s []),(aN 0),(aN 0)] h34) fun v35 h35 =>
 bnd (aG 4 v35 v33 h35) fun _ h36 =>
 bnd (aD .neq v34 (aN 0) h36) fun v37 h37 =>
 aT v37 (
 bnd (aB 3 v35 h37) fun v38 h38 =>
 bnd (aA v38 h38) fun v39 h39 =>
 some (.t [.l0,v39,v34],h39)) (
 bnd (aK 4 v35 h37) fun v40 h40 =>
 bnd (aO [(aN 0),(.s []),(aN 0),(aN 0)] 1 [(0,4,v40)] h40) fun v41 h41 =>
 bnd (bB 4 40 (env 6) v41 h41) fun v42 h42 =>
     kk7 (env 0) (env 5) v42 h42)))) = (K3 (aJx r n kk7) 0 5 6):=by kernel_rfl
theorem bWp (kk7 : dP) : D218 r n kX (xs x0 0 (K2 (fJ r n) 0 6)) (K3 kk7 0 5 6) = (K3 (aJx r n kk7) 0 5 6) :=
 (bZd r n kk7 (fJ r n)).trans (bEu r n kk7)
theorem bQf (m : Nat) : aL (fun kk=>D218 r n kX (xs x0 0 (K2 (fJ r n) 0 6)) kk) m = (K3 (wO r n m) 0 5 6):=by
 induction m with
 | zero=>exact (by kernel_rfl : aL (fun kk=>D218 r n kX (xs x0 0 (K2 (fJ r n) 0 6)) kk) 0 = (K3 (wO r n 0) 0 5 6))
 | succ m ih =>
  refine (by kernel_rfl : aL (fun kk=>D218 r n kX (xs x0 0 (K2 (fJ r n) 0 6)) kk) (m + 1) = D218 r n kX (xs x0 0 (K2 (fJ r n) 0 6)) (aL (fun kk=>D218 r n kX (xs x0 0 (K2 (fJ r n) 0 6)) kk) m)).trans ?_
  rw [ih]
  exact (bWp r n (wO r n m)).trans (by kernel_rfl)
theorem cMd : D218 r n aEa (xs x0 0 (K2 (fJ r n) 0 6)) (K2 (fJ r n) 0 6) = (K3 (bJe r n) 0 5 6) :=
 (by kernel_rfl : D218 r n aEa (xs x0 0 (K2 (fJ r n) 0 6)) (K2 (fJ r n) 0 6) = aL (fun kk=>D218 r n kX (xs x0 0 (K2 (fJ r n) 0 6)) kk) n).trans ((bQf r n n).trans (by kernel_rfl))
theorem cAq : D218 r n aEw x0 r218 = D218 r n aHb x0 (K2 (fJ r n) 0 6) :=
 congrArg (fun k=>D218 r n aHb x0 k) (cEt r n)
theorem cIj : D218 r n aEw x0 r218 = (K3 (aUq r n) 0 5 6) :=
 (cAq r n).trans
 ((by kernel_rfl : D218 r n aHb x0 (K2 (fJ r n) 0 6) = D218 r n aEa (xs x0 0 (K2 (fJ r n) 0 6)) (K2 (fJ r n) 0 6)).trans
 ((cMd r n).trans (by kernel_rfl)))
theorem bKw : D218 r n aFk x0 r218 = D218 r n aYv x0 (K3 (aUq r n) 0 5 6) :=
 congrArg (fun k=>D218 r n aYv x0 k) (cIj r n)
theorem cOz : D218 r n aFk x0 r218 = (K3 (aUt r n) 0 5 6) :=
 (bKw r n).trans
 ((by kernel_rfl))
theorem bIs : D218 r n aIr x0 r218 = D218 r n bDh x0 (K3 (aUt r n) 0 5 6) :=
 congrArg (fun k=>D218 r n bDh x0 k) (cOz r n)
theorem cPk : D218 r n aIr x0 r218 = (K2 (yM r n) 0 5) :=
 (bIs r n).trans
 ((by kernel_rfl))
theorem bLr : D218 r n aGl x0 r218 = D218 r n aJa x0 (K2 (yM r n) 0 5) :=
 congrArg (fun k=>D218 r n aJa x0 k) (cPk r n)
theorem bOa (q0 : TT2) : D218 r n aJa x0 (K2 q0 0 5) = fun (env : bA) (h : Hp) =>
 bnd (bK [(.s []),(aN 0)] [(0,1,(env 0))] h) fun v1 h1 =>
 bnd (dA v1 h1) fun v2 h2 =>
  q0 (env 0) v2 h2:=by kernel_rfl
theorem bGa : (fun (env : bA) (h : Hp) =>
 bnd (bK [(.s []),(aN 0)] [(0,1,(env 0))] h) fun v1 h1 =>
 bnd (dA v1 h1) fun v2 h2 =>
  yM r n (env 0) v2 h2) = (K1 (aJm r n) 0):=by kernel_rfl
theorem cCd : D218 r n aGl x0 r218 = (K1 (aJm r n) 0) :=
 (bLr r n).trans
 ((bOa r n (yM r n)).trans (bGa r n))
theorem bZc : D218 r n aEr x0 r218 = D218 r n aWu x0 (K1 (aJm r n) 0) :=
 congrArg (fun k=>D218 r n aWu x0 k) (cCd r n)
theorem cOl : D218 r n aPu x0 r218 = (K1 (aTh r n) 0) :=
 (by kernel_rfl : D218 r n aPu x0 r218 = D218 r n aEr x0 r218).trans
 ((bZc r n).trans
 ((by kernel_rfl)))
theorem dHs : D218 r n c218 x0 r218 = D218 r n bBh x0 (K1 (aTh r n) 0) :=
 congrArg (fun k=>D218 r n bBh x0 k) (cOl r n)
theorem dQr : D218 r n c218 x0 r218 = (K1 (s218 r n) 0) :=
 (dHs r n).trans
 ((by kernel_rfl))
theorem dEp : aF CF r n 218 args h = s218 r n (aV args 0) h :=
 (by kernel_rfl : aF CF r n 218 args h = D218 r n c218 x0 r218 (aJ args) h).trans ((congrFun (congrFun (dQr r n) (aJ args)) h).trans (by kernel_rfl))
def s221 (r : RT) (n : Nat) (x0 x1 x2 : DV) (h0 : Hp) : aH :=
 bnd (bY [(aN 0),(.s []),(aN 0),(aN 0)] h0) fun v1 h1 =>
 bnd (r 289 [x0,x1,x2] h1) fun v2 h2 =>
 bnd (gQ .not v2 h2) fun v3 h3 =>
 aT v3 (
 bnd (r 293 [x0,(aN 0)] h3) fun v4 h4 =>
 bnd (r 292 [x0,v4,(aN 13)] h4) fun v5 h5 =>
 bnd (bK [(aN 0),(.s []),(aN 0),(aN 0)] [] h5) fun v6 h6 =>
 bnd (aG 4 v1 v6 h6) fun _ h7 =>
 bnd (aK 4 v1 h7) fun v8 _ =>
 some (v8,h7)) (
 bnd (r 290 [x0] h3) fun v9 h9 =>
 bnd (aG 4 v1 v9 h9) fun _ h10 =>
 bnd (aK 4 v1 h10) fun v11 _ =>
 some (v11,h10))
abbrev c221 : Code:=cf Tryz.f221
abbrev r221 : K:=aR CF Tryz.f221
def D221 (r : RT) (n : Nat) (c : Code) (X : Nat → K) (k : K) : K:=aM CF r 19 n c X r221 k
theorem dPq : D221 r n c221 x0 r221 = (K3 (s221 r n) 0 1 2) :=
 (by kernel_rfl)
theorem dGs : aF CF r n 221 args h = s221 r n (aV args 0) (aV args 1) (aV args 2) h :=
 (by kernel_rfl : aF CF r n 221 args h = D221 r n c221 x0 r221 (aJ args) h).trans ((congrFun (congrFun (dPq r n) (aJ args)) h).trans (by kernel_rfl))
def s223 (r : RT) (n : Nat) (x0 : DV) (h0 : Hp) : aH :=
 bnd (dA x0 h0) fun v1 h1 =>
 bnd (aB 0 v1 h1) fun v2 h2 =>
 bnd (aA v2 h2) fun v3 h3 =>
 bnd (r 297 [v3] h3) fun v4 h4 =>
 bnd (aC 0 v4 h4) fun v5 h5 =>
 bnd (aC 1 v4 h5) fun v6 h6 =>
 bnd (aB 0 v1 h6) fun v7 h7 =>
 bnd (aA v7 h7) fun v8 h8 =>
 bnd (aD .geq v8 (aN 1) h8) fun v9 h9 =>
 bnd (gD v9 true (aB 0 v1 h9) h9) fun v10 h10 =>
 bnd (gD v9 true (aA v10 h10) h10) fun v11 h11 =>
 bnd (gD v9 true (aD .leq v11 (aN 20) h11) h11) fun v12 h12 =>
 bnd (aP v9 v12 (.b false) h12) fun v13 h13 =>
 bnd (gD v13 true (aB 1 v1 h13) h13) fun v14 h14 =>
 bnd (gD v13 true (aA v14 h14) h14) fun v15 h15 =>
 bnd (gD v13 true (some (v5,h15)) h15) fun v16 h16 =>
 bnd (gD v13 true (r 298 [v15,v16] h16) h16) fun v17 h17 =>
 bnd (aP v13 v17 (.b false) h17) fun v18 h18 =>
 bnd (gD v18 true (aB 2 v1 h18) h18) fun v19 h19 =>
 bnd (gD v18 true (aA v19 h19) h19) fun v20 h20 =>
 bnd (gD v18 true (some (v6,h20)) h20) fun v21 h21 =>
 bnd (gD v18 true (r 298 [v20,v21] h21) h21) fun v22 h22 =>
 bnd (aP v18 v22 (.b false) h22) fun v23 h23 =>
 some (v23,h23)
abbrev c223 : Code:=cf Tryz.f223
abbrev r223 : K:=aR CF Tryz.f223
def D223 (r : RT) (n : Nat) (c : Code) (X : Nat → K) (k : K) : K:=aM CF r 31 n c X r223 k
theorem dJd : D223 r n c223 x0 r223 = (K1 (s223 r n) 0) :=
 (by kernel_rfl)
theorem dEy : aF CF r n 223 args h = s223 r n (aV args 0) h :=
 (by kernel_rfl : aF CF r n 223 args h = D223 r n c223 x0 r223 (aJ args) h).trans ((congrFun (congrFun (dJd r n) (aJ args)) h).trans (by kernel_rfl))
def s224 (r : RT) (n : Nat) (x0 x1 : DV) (h0 : Hp) : aH :=
 bnd (dA x0 h0) fun v1 h1 =>
 bnd (aK 6 v1 h1) fun v2 h2 =>
 bnd (r 299 [v2,x1] h2) fun v3 h3 =>
 bnd (aC 0 v3 h3) fun v4 h4 =>
 bnd (aC 1 v3 h4) fun v5 h5 =>
 some (v5,h5)
abbrev c224 : Code:=cf Tryz.f224
abbrev r224 : K:=aR CF Tryz.f224
def D224 (r : RT) (n : Nat) (c : Code) (X : Nat → K) (k : K) : K:=aM CF r 14 n c X r224 k
theorem dJl : D224 r n c224 x0 r224 = (K2 (s224 r n) 0 1) :=
 (by kernel_rfl)
theorem cVe : aF CF r n 224 args h = s224 r n (aV args 0) (aV args 1) h :=
 (by kernel_rfl : aF CF r n 224 args h = D224 r n c224 x0 r224 (aJ args) h).trans ((congrFun (congrFun (dJl r n) (aJ args)) h).trans (by kernel_rfl))
end Go.Dd

namespace Go.Dd
open Go.Proofs
variable (r : RT) (n : Nat) (args : List DV) (h : Hp)
def eP (r : RT) (n : Nat) (x4 : DV) (h0 : Hp) : aH :=
 some (.t [x4,(aN 0)],h0)
def aFg (r : RT) (n : Nat) (kk6 : eJ) (x4 x10 x11 x12 : DV) (h0 : Hp) : aH :=
 bnd (aD .lss x12 x11 h0) fun v1 h1 =>
 aT v1 (
 bnd (aE 3 x10 x12 h1) fun v2 h2 =>
 bnd (aK 3 v2 h2) fun v3 h3 =>
 bnd (bY [(aN 0),(aN 0),(aN 0)] h3) fun v4 h4 =>
 bnd (aG 3 v4 v3 h4) fun _ h5 =>
 bnd (aK 3 v4 h5) fun v6 h6 =>
 bnd (r 223 [v6] h6) fun v7 h7 =>
 bnd (gQ .not v7 h7) fun v8 h8 =>
 aT v8 (
 some (.t [.l0,(aN 19)],h8)) (
 bnd (aB 0 v4 h8) fun v9 h9 =>
 bnd (aA v9 h9) fun v10 h10 =>
 bnd (dV .u8 v10 h10) fun v11 h11 =>
 bnd (aB 1 v4 h11) fun v12 h12 =>
 bnd (aA v12 h12) fun v13 h13 =>
 bnd (dV .u8 v13 h13) fun v14 h14 =>
 bnd (aB 2 v4 h14) fun v15 h15 =>
 bnd (aA v15 h15) fun v16 h16 =>
 bnd (dV .u8 v16 h16) fun v17 h17 =>
 bnd (aO [(.i .u8 (Int.ofNat 0)),(.i .u8 (Int.ofNat 0)),(.i .u8 (Int.ofNat 0))] 3 [(0,1,v11),(1,1,v14),(2,1,v17)] h17) fun v18 h18 =>
 bnd (bB 1 1 x4 v18 h18) fun v19 h19 =>
 bnd (aD .add x12 (aN 1) h19) fun v20 h20 =>
    kk6 v19 x10 x11 v20 h20)) (
      eP r n x4 h1)
def xH (r : RT) (n : Nat) (m : Nat) : eJ :=
 Nat.rec (motive:=fun _=>eJ) (fun _ _ _ _ _=>none) (fun _ ih=>aFg r n ih) m
def bVu (r : RT) (n : Nat) : eJ:=xH r n n
def aQw (r : RT) (n : Nat) (x4 x10 x11 x12 : DV) (h0 : Hp) : aH :=
 bVu r n x4 x10 x11 x12 h0
def aVa (r : RT) (n : Nat) (x0 x4 : DV) (h0 : Hp) : aH :=
 bnd (cB x0 h0) fun v1 h1 =>
  aQw r n x4 x0 v1 (aN 0) h1
def aTb (r : RT) (n : Nat) (x0 : DV) (h0 : Hp) : aH :=
 aVa r n x0 .l0 h0
def aPp (r : RT) (n : Nat) (x0 : DV) (h0 : Hp) : aH :=
 bnd (cB x0 h0) fun v1 h1 =>
 bnd (aD .gtr v1 (aN 400) h1) fun v2 h2 =>
 aT v2 (
 some (.t [.l0,(aN 19)],h2)) (
  aTb r n x0 h2)
def s226 (r : RT) (n : Nat) (x0 : DV) (h0 : Hp) : aH :=
 aPp r n x0 h0
abbrev c226 : Code:=cf Tryz.f226
abbrev aEu : Code:=cR c226
abbrev aKg : Code:=cR aEu
abbrev aKi : Code:=cR aKg
abbrev cYu : Code:=cR aKi
abbrev zP : Code:=cL aKi
abbrev aRo : Code:=cR zP
abbrev aIk : Code:=cL aRo
abbrev oD : Code:=cL aIk
abbrev cBj : Code:=cL zP
abbrev aZy : Code:=cL aKg
abbrev bEh : Code:=cL aEu
abbrev bAy : Code:=cL c226
abbrev r226 : K:=aR CF Tryz.f226
def D226 (r : RT) (n : Nat) (c : Code) (X : Nat → K) (k : K) : K:=aM CF r 33 n c X r226 k
theorem cHs : D226 r n cYu x0 r226 = (K1 (eP r n) 4) :=
 (by kernel_rfl)
theorem bMv (kk6 : eJ) (q0 : TT1) : D226 r n oD (xs x0 0 (K1 q0 4)) (K4 kk6 4 10 11 12) = fun (env : bA) (h : Hp) =>
 bnd (aD .lss (env 12) (env 11) h) fun v1 h1 =>
 aT v1 (
 bnd (aE 3 (env 10) (env 12) h1) fun v2 h2 =>
 bnd (aK 3 v2 h2) fun v3 h3 =>
 bnd (bY [(aN 0),(aN 0),(aN 0)] h3) fun v4 h4 =>
 bnd (aG 3 v4 v3 h4) fun _ h5 =>
 bnd (aK 3 v4 h5) fun v6 h6 =>
 bnd (r 223 [v6] h6) fun v7 h7 =>
 bnd (gQ .not v7 h7) fun v8 h8 =>
 aT v8 (
 some (.t [.l0,(aN 19)],h8)) (
 bnd (aB 0 v4 h8) fun v9 h9 =>
 bnd (aA v9 h9) fun v10 h10 =>
 bnd (dV .u8 v10 h10) fun v11 h11 =>
 bnd (aB 1 v4 h11) fun v12 h12 =>
 bnd (aA v12 h12) fun v13 h13 =>
 bnd (dV .u8 v13 h13) fun v14 h14 =>
 bnd (aB 2 v4 h14) fun v15 h15 =>
 bnd (aA v15 h15) fun v16 h16 =>
 bnd (dV .u8 v16 h16) fun v17 h17 =>
 bnd (aO [(.i .u8 (Int.ofNat 0)),(.i .u8 (Int.ofNat 0)),(.i .u8 (Int.ofNat 0))] 3 [(0,1,v11),(1,1,v14),(2,1,v17)] h17) fun v18 h18 =>
 bnd (bB 1 1 (env 4) v18 h18) fun v19 h19 =>
 bnd (aD .add (env 12) (aN 1) h19) fun v20 h20 =>
    kk6 v19 (env 10) (env 11) v20 h20)) (
      q0 (env 4) h1):=by kernel_rfl
theorem bFu (kk6 : eJ) : (fun (env : bA) (h : Hp) =>
 bnd (aD .lss (env 12) (env 11) h) fun v1 h1 =>
 aT v1 (
 bnd (aE 3 (env 10) (env 12) h1) fun v2 h2 =>
 bnd (aK 3 v2 h2) fun v3 h3 =>
 bnd (bY [(aN 0),(aN 0),(aN 0)] h3) fun v4 h4 =>
 bnd (aG 3 v4 v3 h4) fun _ h5 =>
 bnd (aK 3 v4 h5) fun v6 h6 =>
 bnd (r 223 [v6] h6) fun v7 h7 =>
 bnd (gQ .not v7 h7) fun v8 h8 =>
 aT v8 (
 some (.t [.l0,(aN 19)],h8)) (
 bnd (aB 0 v4 h8) fun v9 h9 =>
 bnd (aA v9 h9) fun v10 h10 =>
 bnd (dV .u8 v10 h10) fun v11 h11 =>
 bnd (aB 1 v4 h11) fun v12 h12 =>
 bnd (aA v12 h12) fun v13 h13 =>
 bnd (dV .u8 v13 h13) fun v14 h14 =>
 bnd (aB 2 v4 h14) fun v15 h15 =>
 bnd (aA v15 h15) fun v16 h16 =>
 bnd (dV .u8 v16 h16) fun v17 h17 =>
 bnd (aO [(.i .u8 (Int.ofNat 0)),(.i .u8 (Int.ofNat 0)),(.i .u8 (Int.ofNat 0))] 3 [(0,1,v11),(1,1,v14),(2,1,v17)] h17) fun v18 h18 =>
 bnd (bB 1 1 (env 4) v18 h18) fun v19 h19 =>
 bnd (aD .add (env 12) (aN 1) h19) fun v20 h20 =>
    kk6 v19 (env 10) (env 11) v20 h20)) (
      eP r n (env 4) h1)) = (K4 (aFg r n kk6) 4 10 11 12):=by kernel_rfl
theorem bIq (kk6 : eJ) : D226 r n oD (xs x0 0 (K1 (eP r n) 4)) (K4 kk6 4 10 11 12) = (K4 (aFg r n kk6) 4 10 11 12) :=
 (bMv r n kk6 (eP r n)).trans (bFu r n kk6)
theorem bNe (m : Nat) : aL (fun kk=>D226 r n oD (xs x0 0 (K1 (eP r n) 4)) kk) m = (K4 (xH r n m) 4 10 11 12):=by
 induction m with
 | zero=>exact (by kernel_rfl : aL (fun kk=>D226 r n oD (xs x0 0 (K1 (eP r n) 4)) kk) 0 = (K4 (xH r n 0) 4 10 11 12))
 | succ m ih =>
  refine (by kernel_rfl : aL (fun kk=>D226 r n oD (xs x0 0 (K1 (eP r n) 4)) kk) (m + 1) = D226 r n oD (xs x0 0 (K1 (eP r n) 4)) (aL (fun kk=>D226 r n oD (xs x0 0 (K1 (eP r n) 4)) kk) m)).trans ?_
  rw [ih]
  exact (bIq r n (xH r n m)).trans (by kernel_rfl)
theorem cGh : D226 r n aIk (xs x0 0 (K1 (eP r n) 4)) (K1 (eP r n) 4) = (K4 (bVu r n) 4 10 11 12) :=
 (by kernel_rfl : D226 r n aIk (xs x0 0 (K1 (eP r n) 4)) (K1 (eP r n) 4) = aL (fun kk=>D226 r n oD (xs x0 0 (K1 (eP r n) 4)) kk) n).trans ((bNe r n n).trans (by kernel_rfl))
theorem cLs : D226 r n aRo x0 (K1 (eP r n) 4) = (K4 (aQw r n) 4 10 11 12) :=
 (by kernel_rfl : D226 r n aRo x0 (K1 (eP r n) 4) = D226 r n aIk (xs x0 0 (K1 (eP r n) 4)) (K1 (eP r n) 4)).trans
 ((cGh r n).trans (by kernel_rfl))
theorem bQs : D226 r n aKi x0 r226 = D226 r n zP x0 (K1 (eP r n) 4) :=
 congrArg (fun k=>D226 r n zP x0 k) (cHs r n)
theorem bTc : D226 r n zP x0 (K1 (eP r n) 4) = D226 r n cBj x0 (K4 (aQw r n) 4 10 11 12) :=
 congrArg (fun k=>D226 r n cBj x0 k) (cLs r n)
theorem cLd : D226 r n aKi x0 r226 = (K2 (aVa r n) 0 4) :=
 (bQs r n).trans
 ((bTc r n).trans
 ((by kernel_rfl)))
theorem bVf : D226 r n aKg x0 r226 = D226 r n aZy x0 (K2 (aVa r n) 0 4) :=
 congrArg (fun k=>D226 r n aZy x0 k) (cLd r n)
theorem cDg : D226 r n aKg x0 r226 = (K1 (aTb r n) 0) :=
 (bVf r n).trans
 ((by kernel_rfl))
theorem bSk : D226 r n aEu x0 r226 = D226 r n bEh x0 (K1 (aTb r n) 0) :=
 congrArg (fun k=>D226 r n bEh x0 k) (cDg r n)
theorem cBn : D226 r n aEu x0 r226 = (K1 (aPp r n) 0) :=
 (bSk r n).trans
 ((by kernel_rfl))
theorem dFg : D226 r n c226 x0 r226 = D226 r n bAy x0 (K1 (aPp r n) 0) :=
 congrArg (fun k=>D226 r n bAy x0 k) (cBn r n)
theorem dOy : D226 r n c226 x0 r226 = (K1 (s226 r n) 0) :=
 (dFg r n).trans
 ((by kernel_rfl))
theorem dBk : aF CF r n 226 args h = s226 r n (aV args 0) h :=
 (by kernel_rfl : aF CF r n 226 args h = D226 r n c226 x0 r226 (aJ args) h).trans ((congrFun (congrFun (dOy r n) (aJ args)) h).trans (by kernel_rfl))
def s234 (r : RT) (n : Nat) (x0 x1 : DV) (h0 : Hp) : aH :=
 bnd (aY x0 h0) fun v1 h1 =>
 bnd (aB 0 v1 h1) fun v2 h2 =>
 bnd (aA v2 h2) fun v3 h3 =>
 bnd (isF [v3,x1] h3) fun v4 h4 =>
 aT v4 (
 bnd (aY x0 h4) fun v5 h5 =>
 bnd (aB 0 v5 h5) fun v6 h6 =>
 bnd (aA v6 h6) fun v7 h7 =>
 bnd (uV [v7,x1] h7) fun v8 h8 =>
 some (v8,h8)) (
 bnd (kI [x1] h4) fun v9 h9 =>
 aT v9 (
 bnd (r 79 [x0,(aN 7)] h9) fun v10 h10 =>
 some (v10,h10)) (
 bnd (aD .eql x1 (aN 0) h9) fun v11 h11 =>
 aT v11 (
 bnd (r 79 [x0,(aN 2)] h11) fun v12 h12 =>
 some (v12,h12)) (
 bnd (aD .eql x1 (aN 2) h11) fun v13 h13 =>
 aT v13 (
 bnd (r 79 [x0,(aN 4)] h13) fun v14 h14 =>
 some (v14,h14)) (
 bnd (aD .eql x1 (aN 4) h13) fun v15 h15 =>
 aT v15 (
 bnd (r 79 [x0,(aN 5)] h15) fun v16 h16 =>
 some (v16,h16)) (
 some ((aN 0),h15))))))
abbrev c234 : Code:=cf Tryz.f234
abbrev r234 : K:=aR CF Tryz.f234
def D234 (r : RT) (n : Nat) (c : Code) (X : Nat → K) (k : K) : K:=aM CF r 38 n c X r234 k
theorem dMc : D234 r n c234 x0 r234 = (K2 (s234 r n) 0 1) :=
 (by kernel_rfl)
theorem cWj : aF CF r n 234 args h = s234 r n (aV args 0) (aV args 1) h :=
 (by kernel_rfl : aF CF r n 234 args h = D234 r n c234 x0 r234 (aJ args) h).trans ((congrFun (congrFun (dMc r n) (aJ args)) h).trans (by kernel_rfl))
def fW (r : RT) (n : Nat) (x0 x7 : DV) (h0 : Hp) : aH :=
 bnd (aY x0 h0) fun v1 h1 =>
 bnd (aB 0 v1 h1) fun v2 h2 =>
 bnd (aA v2 h2) fun v3 h3 =>
 bnd (aY x0 h3) fun v4 h4 =>
 bnd (aB 1 v4 h4) fun v5 h5 =>
 bnd (aA v5 h5) fun v6 h6 =>
 bnd (cK v3 (some x7) (some v6) h6) fun v7 h7 =>
 some (v7,h7)
def aVr (r : RT) (n : Nat) (kk4 : eJ) (x0 x1 x2 x7 : DV) (h0 : Hp) : aH :=
 bnd (aY x0 h0) fun v1 h1 =>
 bnd (aB 1 v1 h1) fun v2 h2 =>
 bnd (aA v2 h2) fun v3 h3 =>
 bnd (aY x0 h3) fun v4 h4 =>
 bnd (aB 0 v4 h4) fun v5 h5 =>
 bnd (aA v5 h5) fun v6 h6 =>
 bnd (cM v6 h6) fun v7 h7 =>
 bnd (aD .lss v3 v7 h7) fun v8 h8 =>
 bnd (gD v8 true (some (x0,h8)) h8) fun v9 h9 =>
 bnd (gD v8 true (aY v9 h9) h9) fun v10 h10 =>
 bnd (gD v8 true (aB 1 v10 h10) h10) fun v11 h11 =>
 bnd (gD v8 true (aA v11 h11) h11) fun v12 h12 =>
 bnd (gD v8 true (some (x7,h12)) h12) fun v13 h13 =>
 bnd (gD v8 true (aD .sub v12 v13 h13) h13) fun v14 h14 =>
 bnd (gD v8 true (some (x2,h14)) h14) fun v15 h15 =>
 bnd (gD v8 true (aD .lss v14 v15 h15) h15) fun v16 h16 =>
 bnd (aP v8 v16 (.b false) h16) fun v17 h17 =>
 bnd (gD v17 true (some (x1,h17)) h17) fun v18 h18 =>
 bnd (gD v17 true (some (x0,h18)) h18) fun v19 h19 =>
 bnd (gD v17 true (aY v19 h19) h19) fun v20 h20 =>
 bnd (gD v17 true (aB 0 v20 h20) h20) fun v21 h21 =>
 bnd (gD v17 true (aA v21 h21) h21) fun v22 h22 =>
 bnd (gD v17 true (some (x0,h22)) h22) fun v23 h23 =>
 bnd (gD v17 true (aY v23 h23) h23) fun v24 h24 =>
 bnd (gD v17 true (aB 1 v24 h24) h24) fun v25 h25 =>
 bnd (gD v17 true (aA v25 h25) h25) fun v26 h26 =>
 bnd (gD v17 true (bX v22 v26 h26) h26) fun v27 h27 =>
 bnd (gD v17 true (jY CF r v18 [v27] h27) h27) fun v28 h28 =>
 bnd (aP v17 v28 (.b false) h28) fun v29 h29 =>
 aT v29 (
 bnd (aY x0 h29) fun v30 h30 =>
 bnd (aB 1 v30 h30) fun v31 h31 =>
 bnd (aA v31 h31) fun v32 h32 =>
 bnd (aD .add v32 (aN 1) h32) fun v33 h33 =>
 bnd (aY x0 h33) fun v34 h34 =>
 bnd (aB 1 v34 h34) fun v35 h35 =>
 bnd (aG 1 v35 v33 h35) fun _ h36 =>
      kk4 x0 x1 x2 x7 h36) (
      fW r n x0 x7 h29)
def wG (r : RT) (n : Nat) (m : Nat) : eJ :=
 Nat.rec (motive:=fun _=>eJ) (fun _ _ _ _ _=>none) (fun _ ih=>aVr r n ih) m
def bLe (r : RT) (n : Nat) : eJ:=wG r n n
def aVl (r : RT) (n : Nat) (x0 x1 x2 x7 : DV) (h0 : Hp) : aH :=
 bLe r n x0 x1 x2 x7 h0
def aUp (r : RT) (n : Nat) (x0 x1 x2 : DV) (h0 : Hp) : aH :=
 bnd (aY x0 h0) fun v1 h1 =>
 bnd (aB 1 v1 h1) fun v2 h2 =>
 bnd (aA v2 h2) fun v3 h3 =>
  aVl r n x0 x1 x2 v3 h3
def s286 (r : RT) (n : Nat) (x0 x1 x2 : DV) (h0 : Hp) : aH :=
 aUp r n x0 x1 x2 h0
abbrev c286 : Code:=cf Tryz.f286
abbrev aIo : Code:=cR c286
abbrev aDx : Code:=cR aIo
abbrev cVs : Code:=cR aDx
abbrev aFz : Code:=cL aDx
abbrev aIm : Code:=cL aFz
abbrev qD : Code:=cL aIm
abbrev bMb : Code:=cL aIo
abbrev bJs : Code:=cL c286
abbrev r286 : K:=aR CF Tryz.f286
def D286 (r : RT) (n : Nat) (c : Code) (X : Nat → K) (k : K) : K:=aM CF r 62 n c X r286 k
theorem cEe : D286 r n cVs x0 r286 = (K2 (fW r n) 0 7) :=
 (by kernel_rfl)
theorem cAn (kk4 : eJ) : D286 r n qD (xs x0 0 (K2 (fW r n) 0 7)) (K4 kk4 0 1 2 7) = (K4 (aVr r n kk4) 0 1 2 7) :=
 (by kernel_rfl)
theorem bOk (m : Nat) : aL (fun kk=>D286 r n qD (xs x0 0 (K2 (fW r n) 0 7)) kk) m = (K4 (wG r n m) 0 1 2 7):=by
 induction m with
 | zero=>exact (by kernel_rfl : aL (fun kk=>D286 r n qD (xs x0 0 (K2 (fW r n) 0 7)) kk) 0 = (K4 (wG r n 0) 0 1 2 7))
 | succ m ih =>
  refine (by kernel_rfl : aL (fun kk=>D286 r n qD (xs x0 0 (K2 (fW r n) 0 7)) kk) (m + 1) = D286 r n qD (xs x0 0 (K2 (fW r n) 0 7)) (aL (fun kk=>D286 r n qD (xs x0 0 (K2 (fW r n) 0 7)) kk) m)).trans ?_
  rw [ih]
  exact (cAn r n (wG r n m)).trans (by kernel_rfl)
theorem cMx : D286 r n aIm (xs x0 0 (K2 (fW r n) 0 7)) (K2 (fW r n) 0 7) = (K4 (bLe r n) 0 1 2 7) :=
 (by kernel_rfl : D286 r n aIm (xs x0 0 (K2 (fW r n) 0 7)) (K2 (fW r n) 0 7) = aL (fun kk=>D286 r n qD (xs x0 0 (K2 (fW r n) 0 7)) kk) n).trans ((bOk r n n).trans (by kernel_rfl))
theorem bXk : D286 r n aDx x0 r286 = D286 r n aFz x0 (K2 (fW r n) 0 7) :=
 congrArg (fun k=>D286 r n aFz x0 k) (cEe r n)
theorem cLg : D286 r n aDx x0 r286 = (K4 (aVl r n) 0 1 2 7) :=
 (bXk r n).trans
 ((by kernel_rfl : D286 r n aFz x0 (K2 (fW r n) 0 7) = D286 r n aIm (xs x0 0 (K2 (fW r n) 0 7)) (K2 (fW r n) 0 7)).trans
 ((cMx r n).trans (by kernel_rfl)))
theorem bRu : D286 r n aIo x0 r286 = D286 r n bMb x0 (K4 (aVl r n) 0 1 2 7) :=
 congrArg (fun k=>D286 r n bMb x0 k) (cLg r n)
theorem cKi : D286 r n aIo x0 r286 = (K3 (aUp r n) 0 1 2) :=
 (bRu r n).trans
 ((by kernel_rfl))
theorem dDg : D286 r n c286 x0 r286 = D286 r n bJs x0 (K3 (aUp r n) 0 1 2) :=
 congrArg (fun k=>D286 r n bJs x0 k) (cKi r n)
theorem dOa : D286 r n c286 x0 r286 = (K3 (s286 r n) 0 1 2) :=
 (dDg r n).trans
 ((by kernel_rfl))
theorem cVu : aF CF r n 286 args h = s286 r n (aV args 0) (aV args 1) (aV args 2) h :=
 (by kernel_rfl : aF CF r n 286 args h = D286 r n c286 x0 r286 (aJ args) h).trans ((congrFun (congrFun (dOa r n) (aJ args)) h).trans (by kernel_rfl))
def s287 (r : RT) (n : Nat) (x0 : DV) (h0 : Hp) : aH :=
 bnd (dA x0 h0) fun v1 h1 =>
 some ((.f 338 [] [v1]),h1)
abbrev c287 : Code:=cf Tryz.f287
abbrev r287 : K:=aR CF Tryz.f287
def D287 (r : RT) (n : Nat) (c : Code) (X : Nat → K) (k : K) : K:=aM CF r 4 n c X r287 k
theorem dJb : D287 r n c287 x0 r287 = (K1 (s287 r n) 0) :=
 (by kernel_rfl)
theorem dGi : aF CF r n 287 args h = s287 r n (aV args 0) h :=
 (by kernel_rfl : aF CF r n 287 args h = D287 r n c287 x0 r287 (aJ args) h).trans ((congrFun (congrFun (dJb r n) (aJ args)) h).trans (by kernel_rfl))
def iV (r : RT) (n : Nat) (x2 x4 x5 : DV) (h0 : Hp) : aH :=
 bnd (aK 4 x4 h0) fun v1 h1 =>
 bnd (aG 4 x2 v1 h1) fun _ h2 =>
 bnd (aK 4 x2 h2) fun v3 _ =>
 some (.t [v3,x5],h2)
def aVg (r : RT) (n : Nat) (x0 x2 x4 x5 x6 : DV) (h0 : Hp) : aH :=
 bnd (r 340 [x6] h0) fun v1 h1 =>
 aT v1 (
 bnd (aB 0 x4 h1) fun v2 h2 =>
 bnd (aG 1 v2 (aN 1) h2) fun _ h3 =>
 bnd (r 341 [x0] h3) fun v4 h4 =>
 bnd (aC 0 v4 h4) fun v5 h5 =>
 bnd (aC 1 v4 h5) fun v6 h6 =>
 bnd (aB 1 x4 h6) fun v7 h7 =>
 bnd (aG 1 v7 v5 h7) fun _ h8 =>
 bnd (aD .eql v6 (aN 0) h8) fun v9 h9 =>
 bnd (gD v9 true (some (x0,h9)) h9) fun v10 h10 =>
 bnd (gD v9 true (r 342 [v10] h10) h10) fun v11 h11 =>
 bnd (aP v9 v11 (.b false) h11) fun v12 h12 =>
 aT v12 (
 bnd (aB 1 x4 h12) fun v13 h13 =>
 bnd (aA v13 h13) fun v14 h14 =>
 bnd (bI .add v14 (.s [58]) h14) fun v15 h15 =>
 bnd (aB 0 x4 h15) fun v16 h16 =>
 bnd (aG 1 v16 (aN 2) h16) fun _ h17 =>
 bnd (aB 1 x4 h17) fun v18 h18 =>
 bnd (aG 1 v18 v15 h18) fun _ h19 =>
      iV r n x2 x4 v6 h19) (
      iV r n x2 x4 v6 h12)) (
 bnd (r 343 [x6] h1) fun v20 h20 =>
 aT v20 (
 bnd (aB 0 x4 h20) fun v21 h21 =>
 bnd (aG 1 v21 (aN 4) h21) fun _ h22 =>
 bnd (r 344 [x0] h22) fun v23 h23 =>
 bnd (aC 0 v23 h23) fun v24 h24 =>
 bnd (aC 1 v23 h24) fun v25 h25 =>
 bnd (aB 2 x4 h25) fun v26 h26 =>
 bnd (aG 1 v26 v24 h26) fun _ h27 =>
      iV r n x2 x4 v25 h27) (
 bnd (aD .eql x6 (.i .u8 (Int.ofNat 39)) h20) fun v28 h28 =>
 aT v28 (
 bnd (aY x0 h28) fun v29 h29 =>
 bnd (aB 1 v29 h29) fun v30 h30 =>
 bnd (aA v30 h30) fun v31 h31 =>
 bnd (aD .add v31 (aN 1) h31) fun v32 h32 =>
 bnd (aY x0 h32) fun v33 h33 =>
 bnd (aB 1 v33 h33) fun v34 h34 =>
 bnd (aG 1 v34 v32 h34) fun _ h35 =>
 bnd (aB 0 x4 h35) fun v36 h36 =>
 bnd (aG 1 v36 (aN 5) h36) fun _ h37 =>
 bnd (r 345 [x0] h37) fun v38 h38 =>
 bnd (aC 0 v38 h38) fun v39 h39 =>
 bnd (aC 1 v38 h39) fun v40 h40 =>
 bnd (aB 1 x4 h40) fun v41 h41 =>
 bnd (aG 1 v41 v39 h41) fun _ h42 =>
    iV r n x2 x4 v40 h42) (
 bnd (aD .eql x6 (.i .u8 (Int.ofNat 35)) h28) fun v43 h43 =>
 bnd (gD v43 true (some (x0,h43)) h43) fun v44 h44 =>
 bnd (gD v43 true (r 339 [v44,(aN 1)] h44) h44) fun v45 h45 =>
 bnd (gD v43 true (aD .eql v45 (.i .u8 (Int.ofNat 40)) h45) h45) fun v46 h46 =>
 bnd (aP v43 v46 (.b false) h46) fun v47 h47 =>
 aT v47 (
 bnd (aY x0 h47) fun v48 h48 =>
 bnd (aB 1 v48 h48) fun v49 h49 =>
 bnd (aA v49 h49) fun v50 h50 =>
 bnd (aD .add v50 (aN 2) h50) fun v51 h51 =>
 bnd (aY x0 h51) fun v52 h52 =>
 bnd (aB 1 v52 h52) fun v53 h53 =>
 bnd (aG 1 v53 v51 h53) fun _ h54 =>
 bnd (aB 0 x4 h54) fun v55 h55 =>
 bnd (aG 1 v55 (aN 7) h55) fun _ h56 =>
     iV r n x2 x4 x5 h56) (
 bnd (aD .eql x6 (.i .u8 (Int.ofNat 35)) h47) fun v57 h57 =>
 aT v57 (
 bnd (aY x0 h57) fun v58 h58 =>
 bnd (aB 1 v58 h58) fun v59 h59 =>
 bnd (aA v59 h59) fun v60 h60 =>
 bnd (aD .add v60 (aN 1) h60) fun v61 h61 =>
 bnd (aY x0 h61) fun v62 h62 =>
 bnd (aB 1 v62 h62) fun v63 h63 =>
 bnd (aG 1 v63 v61 h63) fun _ h64 =>
 bnd (aB 0 x4 h64) fun v65 h65 =>
 bnd (aG 1 v65 (aN 6) h65) fun _ h66 =>
 bnd (r 346 [x0] h66) fun v67 h67 =>
 bnd (aC 0 v67 h67) fun v68 h68 =>
 bnd (aC 1 v67 h68) fun v69 h69 =>
 bnd (aB 1 x4 h69) fun v70 h70 =>
 bnd (aG 1 v70 v68 h70) fun _ h71 =>
      iV r n x2 x4 v69 h71) (
 bnd (aD .eql x6 (.i .u8 (Int.ofNat 58)) h57) fun v72 h72 =>
 bnd (gD v72 true (some (x0,h72)) h72) fun v73 h73 =>
 bnd (gD v72 true (r 339 [v73,(aN 1)] h73) h73) fun v74 h74 =>
 bnd (gD v72 true (aD .eql v74 (.i .u8 (Int.ofNat 61)) h74) h74) fun v75 h75 =>
 bnd (aP v72 v75 (.b false) h75) fun v76 h76 =>
 aT v76 (
 bnd (aY x0 h76) fun v77 h77 =>
 bnd (aB 1 v77 h77) fun v78 h78 =>
 bnd (aA v78 h78) fun v79 h79 =>
 bnd (aD .add v79 (aN 2) h79) fun v80 h80 =>
 bnd (aY x0 h80) fun v81 h81 =>
 bnd (aB 1 v81 h81) fun v82 h82 =>
 bnd (aG 1 v82 v80 h82) fun _ h83 =>
 bnd (aB 0 x4 h83) fun v84 h84 =>
 bnd (aG 1 v84 (aN 9) h84) fun _ h85 =>
       iV r n x2 x4 x5 h85) (
 bnd (aD .eql x6 (.i .u8 (Int.ofNat 58)) h76) fun v86 h86 =>
 bnd (gD v86 true (some (x0,h86)) h86) fun v87 h87 =>
 bnd (gD v86 true (r 339 [v87,(aN 1)] h87) h87) fun v88 h88 =>
 bnd (gD v86 true (r 340 [v88] h88) h88) fun v89 h89 =>
 bnd (aP v86 v89 (.b false) h89) fun v90 h90 =>
 aT v90 (
 bnd (aY x0 h90) fun v91 h91 =>
 bnd (aB 1 v91 h91) fun v92 h92 =>
 bnd (aA v92 h92) fun v93 h93 =>
 bnd (aD .add v93 (aN 1) h93) fun v94 h94 =>
 bnd (aY x0 h94) fun v95 h95 =>
 bnd (aB 1 v95 h95) fun v96 h96 =>
 bnd (aG 1 v96 v94 h96) fun _ h97 =>
 bnd (aB 0 x4 h97) fun v98 h98 =>
 bnd (aG 1 v98 (aN 8) h98) fun _ h99 =>
 bnd (r 341 [x0] h99) fun v100 h100 =>
 bnd (aC 0 v100 h100) fun v101 h101 =>
 bnd (aC 1 v100 h101) fun v102 h102 =>
 bnd (aB 1 x4 h102) fun v103 h103 =>
 bnd (aG 1 v103 v101 h103) fun _ h104 =>
        iV r n x2 x4 v102 h104) (
 bnd (r 287 [(.s [43,45,42,47,60,62,61,126,44,64,38,37])] h90) fun v105 h105 =>
 bnd (jY CF r v105 [x6] h105) fun v106 h106 =>
 aT v106 (
 bnd (r 287 [(.s [43,45,42,47,60,62,61,126,44,64,38,37])] h106) fun v107 h107 =>
 bnd (r 286 [x0,v107,(aN 2)] h107) fun v108 h108 =>
 bnd (aB 0 x4 h108) fun v109 h109 =>
 bnd (aG 1 v109 (aN 3) h109) fun _ h110 =>
 bnd (aB 1 x4 h110) fun v111 h111 =>
 bnd (aG 1 v111 v108 h111) fun _ h112 =>
         iV r n x2 x4 x5 h112) (
 bnd (r 287 [(.s [94,46,59,40,41,91,93,124])] h106) fun v113 h113 =>
 bnd (jY CF r v113 [x6] h113) fun v114 h114 =>
 aT v114 (
 bnd (r 287 [(.s [94,46,59,40,41,91,93,124])] h114) fun v115 h115 =>
 bnd (r 286 [x0,v115,(aN 1)] h115) fun v116 h116 =>
 bnd (aB 0 x4 h116) fun v117 h117 =>
 bnd (aG 1 v117 (aN 10) h117) fun _ h118 =>
 bnd (aB 1 x4 h118) fun v119 h119 =>
 bnd (aG 1 v119 v116 h119) fun _ h120 =>
          iV r n x2 x4 x5 h120) (
          iV r n x2 x4 (aN 10) h114)))))))))
def aSx (r : RT) (n : Nat) (x0 x2 x4 x5 : DV) (h0 : Hp) : aH :=
 bnd (r 339 [x0,(aN 0)] h0) fun v1 h1 =>
  aVg r n x0 x2 x4 x5 v1 h1
def xW (r : RT) (n : Nat) (x0 x2 x4 : DV) (h0 : Hp) : aH :=
 aSx r n x0 x2 x4 (aN 0) h0
def uN (r : RT) (n : Nat) (x0 x2 : DV) (h0 : Hp) : aH :=
 bnd (aY x0 h0) fun v1 h1 =>
 bnd (aB 1 v1 h1) fun v2 h2 =>
 bnd (aA v2 h2) fun v3 h3 =>
 bnd (bK [(aN 0),(.s []),(aN 0),(aN 0)] [(3,1,v3)] h3) fun v4 h4 =>
 bnd (bY [(aN 0),(.s []),(aN 0),(aN 0)] h4) fun v5 h5 =>
 bnd (aG 4 v5 v4 h5) fun _ h6 =>
  xW r n x0 x2 v5 h6
def s288 (r : RT) (n : Nat) (x0 : DV) (h0 : Hp) : aH :=
 bnd (bY [(aN 0),(.s []),(aN 0),(aN 0)] h0) fun v1 h1 =>
  uN r n x0 v1 h1
abbrev c288 : Code:=cf Tryz.f288
abbrev aEh : Code:=cR c288
abbrev aKn : Code:=cR aEh
abbrev aGw : Code:=cR aKn
abbrev aKe : Code:=cR aGw
abbrev dFk : Code:=cR aKe
abbrev bTr : Code:=cL aKe
abbrev bUs : Code:=cL aGw
abbrev bYh : Code:=cL aKn
abbrev aUb : Code:=cL aEh
abbrev aLl : Code:=cL c288
abbrev r288 : K:=aR CF Tryz.f288
def D288 (r : RT) (n : Nat) (c : Code) (X : Nat → K) (k : K) : K:=aM CF r 153 n c X r288 k
theorem cNl : D288 r n dFk x0 r288 = (K3 (iV r n) 2 4 5) :=
 (by kernel_rfl)
theorem bKb : D288 r n aKe x0 r288 = D288 r n bTr x0 (K3 (iV r n) 2 4 5) :=
 congrArg (fun k=>D288 r n bTr x0 k) (cNl r n)
theorem cOw : D288 r n aKe x0 r288 = (K5 (aVg r n) 0 2 4 5 6) :=
 (bKb r n).trans
 ((by kernel_rfl))
theorem bNg : D288 r n aGw x0 r288 = D288 r n bUs x0 (K5 (aVg r n) 0 2 4 5 6) :=
 congrArg (fun k=>D288 r n bUs x0 k) (cOw r n)
theorem cQd : D288 r n aGw x0 r288 = (K4 (aSx r n) 0 2 4 5) :=
 (bNg r n).trans
 ((by kernel_rfl))
theorem bMg : D288 r n aKn x0 r288 = D288 r n bYh x0 (K4 (aSx r n) 0 2 4 5) :=
 congrArg (fun k=>D288 r n bYh x0 k) (cQd r n)
theorem cMj : D288 r n aKn x0 r288 = (K3 (xW r n) 0 2 4) :=
 (bMg r n).trans
 ((by kernel_rfl))
theorem bXr : D288 r n aEh x0 r288 = D288 r n aUb x0 (K3 (xW r n) 0 2 4) :=
 congrArg (fun k=>D288 r n aUb x0 k) (cMj r n)
theorem bPu (q0 : dP) : D288 r n aUb x0 (K3 q0 0 2 4) = fun (env : bA) (h : Hp) =>
 bnd (aY (env 0) h) fun v1 h1 =>
 bnd (aB 1 v1 h1) fun v2 h2 =>
 bnd (aA v2 h2) fun v3 h3 =>
 bnd (bK [(aN 0),(.s []),(aN 0),(aN 0)] [(3,1,v3)] h3) fun v4 h4 =>
 bnd (bY [(aN 0),(.s []),(aN 0),(aN 0)] h4) fun v5 h5 =>
 bnd (aG 4 v5 v4 h5) fun _ h6 =>
  q0 (env 0) (env 2) v5 h6:=by kernel_rfl
theorem bEq : (fun (env : bA) (h : Hp) =>
 bnd (aY (env 0) h) fun v1 h1 =>
 bnd (aB 1 v1 h1) fun v2 h2 =>
 bnd (aA v2 h2) fun v3 h3 =>
 bnd (bK [(aN 0),(.s []),(aN 0),(aN 0)] [(3,1,v3)] h3) fun v4 h4 =>
 bnd (bY [(aN 0),(.s []),(aN 0),(aN 0)] h4) fun v5 h5 =>
 bnd (aG 4 v5 v4 h5) fun _ h6 =>
  xW r n (env 0) (env 2) v5 h6) = (K2 (uN r n) 0 2):=by kernel_rfl
theorem cPs : D288 r n aEh x0 r288 = (K2 (uN r n) 0 2) :=
 (bXr r n).trans
 ((bPu r n (xW r n)).trans (bEq r n))
theorem dHq : D288 r n c288 x0 r288 = D288 r n aLl x0 (K2 (uN r n) 0 2) :=
 congrArg (fun k=>D288 r n aLl x0 k) (cPs r n)
theorem dCg (q0 : TT2) : D288 r n aLl x0 (K2 q0 0 2) = fun (env : bA) (h : Hp) =>
 bnd (bY [(aN 0),(.s []),(aN 0),(aN 0)] h) fun v1 h1 =>
  q0 (env 0) v1 h1:=by kernel_rfl
theorem cCi : (fun (env : bA) (h : Hp) =>
 bnd (bY [(aN 0),(.s []),(aN 0),(aN 0)] h) fun v1 h1 =>
  uN r n (env 0) v1 h1) = (K1 (s288 r n) 0):=by kernel_rfl
theorem dMf : D288 r n c288 x0 r288 = (K1 (s288 r n) 0) :=
 (dHq r n).trans
 ((dCg r n (uN r n)).trans (cCi r n))
theorem cXe : aF CF r n 288 args h = s288 r n (aV args 0) h :=
 (by kernel_rfl : aF CF r n 288 args h = D288 r n c288 x0 r288 (aJ args) h).trans ((congrFun (congrFun (dMf r n) (aJ args)) h).trans (by kernel_rfl))
def s289 (r : RT) (n : Nat) (x0 x1 x2 : DV) (h0 : Hp) : aH :=
 bnd (r 293 [x0,(aN 0)] h0) fun v1 h1 =>
 bnd (bY [(aN 0),(.s []),(aN 0),(aN 0)] h1) fun v2 h2 =>
 bnd (aG 4 v2 v1 h2) fun _ h3 =>
 bnd (aY x0 h3) fun v4 h4 =>
 bnd (aB 3 v4 h4) fun v5 h5 =>
 bnd (aA v5 h5) fun v6 h6 =>
 bnd (aD .eql v6 (aN 0) h6) fun v7 h7 =>
 bnd (gD v7 true (aB 0 v2 h7) h7) fun v8 h8 =>
 bnd (gD v7 true (aA v8 h8) h8) fun v9 h9 =>
 bnd (gD v7 true (some (x1,h9)) h9) fun v10 h10 =>
 bnd (gD v7 true (aD .eql v9 v10 h10) h10) fun v11 h11 =>
 bnd (aP v7 v11 (.b false) h11) fun v12 h12 =>
 bnd (gD v12 true (some (x2,h12)) h12) fun v13 h13 =>
 bnd (gD v12 true (bI .eql v13 (.s []) h13) h13) fun v14 h14 =>
 bnd (gD v12 true (some (v14,h14)) h14) fun v15 h15 =>
 bnd (gD v15 false (aB 1 v2 h15) h15) fun v16 h16 =>
 bnd (gD v15 false (aA v16 h16) h16) fun v17 h17 =>
 bnd (gD v15 false (some (x2,h17)) h17) fun v18 h18 =>
 bnd (gD v15 false (bI .eql v17 v18 h18) h18) fun v19 h19 =>
 bnd (gD v12 true (aP v15 (.b true) v19 h19) h19) fun v20 h20 =>
 bnd (aP v12 v20 (.b false) h20) fun v21 h21 =>
 some (v21,h21)
abbrev c289 : Code:=cf Tryz.f289
abbrev r289 : K:=aR CF Tryz.f289
def D289 (r : RT) (n : Nat) (c : Code) (X : Nat → K) (k : K) : K:=aM CF r 31 n c X r289 k
theorem dJq : D289 r n c289 x0 r289 = (K3 (s289 r n) 0 1 2) :=
 (by kernel_rfl)
theorem dCt : aF CF r n 289 args h = s289 r n (aV args 0) (aV args 1) (aV args 2) h :=
 (by kernel_rfl : aF CF r n 289 args h = D289 r n c289 x0 r289 (aJ args) h).trans ((congrFun (congrFun (dJq r n) (aJ args)) h).trans (by kernel_rfl))
def aIq (r : RT) (n : Nat) (x2 x3 : DV) (h0 : Hp) : aH :=
 bnd (aK 4 x3 h0) fun v1 h1 =>
 bnd (aG 4 x2 v1 h1) fun _ h2 =>
 bnd (aK 4 x2 h2) fun v3 _ =>
 some (v3,h2)
def yO (r : RT) (n : Nat) (x0 x2 x3 : DV) (h0 : Hp) : aH :=
 bnd (aB 0 x3 h0) fun v1 h1 =>
 bnd (aA v1 h1) fun v2 h2 =>
 bnd (aD .neq v2 (aN 0) h2) fun v3 h3 =>
 aT v3 (
 bnd (aY x0 h3) fun v4 h4 =>
 bnd (aB 0 v4 h4) fun v5 h5 =>
 bnd (aA v5 h5) fun v6 h6 =>
 bnd (dF 4 v6 (some (aN 1)) none h6) fun v7 h7 =>
 bnd (aY x0 h7) fun v8 h8 =>
 bnd (aB 0 v8 h8) fun v9 h9 =>
 bnd (aG 1 v9 v7 h9) fun _ h10 =>
  aIq r n x2 x3 h10) (
  aIq r n x2 x3 h3)
def uI (r : RT) (n : Nat) (x0 x2 : DV) (h0 : Hp) : aH :=
 bnd (r 293 [x0,(aN 0)] h0) fun v1 h1 =>
 bnd (bY [(aN 0),(.s []),(aN 0),(aN 0)] h1) fun v2 h2 =>
 bnd (aG 4 v2 v1 h2) fun _ h3 =>
  yO r n x0 x2 v2 h3
def s290 (r : RT) (n : Nat) (x0 : DV) (h0 : Hp) : aH :=
 bnd (bY [(aN 0),(.s []),(aN 0),(aN 0)] h0) fun v1 h1 =>
  uI r n x0 v1 h1
abbrev c290 : Code:=cf Tryz.f290
abbrev aJu : Code:=cR c290
abbrev aJb : Code:=cR aJu
abbrev cVt : Code:=cR aJb
abbrev bTe : Code:=cL aJb
abbrev aRm : Code:=cL aJu
abbrev aRp : Code:=cL c290
abbrev r290 : K:=aR CF Tryz.f290
def D290 (r : RT) (n : Nat) (c : Code) (X : Nat → K) (k : K) : K:=aM CF r 18 n c X r290 k
theorem cIx : D290 r n cVt x0 r290 = (K2 (aIq r n) 2 3) :=
 (by kernel_rfl)
theorem bUt : D290 r n aJb x0 r290 = D290 r n bTe x0 (K2 (aIq r n) 2 3) :=
 congrArg (fun k=>D290 r n bTe x0 k) (cIx r n)
theorem cLh : D290 r n aJb x0 r290 = (K3 (yO r n) 0 2 3) :=
 (bUt r n).trans
 ((by kernel_rfl))
theorem bRv : D290 r n aJu x0 r290 = D290 r n aRm x0 (K3 (yO r n) 0 2 3) :=
 congrArg (fun k=>D290 r n aRm x0 k) (cLh r n)
theorem bWn (q0 : dP) : D290 r n aRm x0 (K3 q0 0 2 3) = fun (env : bA) (h : Hp) =>
 bnd (r 293 [(env 0),(aN 0)] h) fun v1 h1 =>
 bnd (bY [(aN 0),(.s []),(aN 0),(aN 0)] h1) fun v2 h2 =>
 bnd (aG 4 v2 v1 h2) fun _ h3 =>
  q0 (env 0) (env 2) v2 h3:=by kernel_rfl
theorem bHb : (fun (env : bA) (h : Hp) =>
 bnd (r 293 [(env 0),(aN 0)] h) fun v1 h1 =>
 bnd (bY [(aN 0),(.s []),(aN 0),(aN 0)] h1) fun v2 h2 =>
 bnd (aG 4 v2 v1 h2) fun _ h3 =>
  yO r n (env 0) (env 2) v2 h3) = (K2 (uI r n) 0 2):=by kernel_rfl
theorem cBw : D290 r n aJu x0 r290 = (K2 (uI r n) 0 2) :=
 (bRv r n).trans
 ((bWn r n (yO r n)).trans (bHb r n))
theorem dBu : D290 r n c290 x0 r290 = D290 r n aRp x0 (K2 (uI r n) 0 2) :=
 congrArg (fun k=>D290 r n aRp x0 k) (cBw r n)
theorem dBb (q0 : TT2) : D290 r n aRp x0 (K2 q0 0 2) = fun (env : bA) (h : Hp) =>
 bnd (bY [(aN 0),(.s []),(aN 0),(aN 0)] h) fun v1 h1 =>
  q0 (env 0) v1 h1:=by kernel_rfl
theorem cCm : (fun (env : bA) (h : Hp) =>
 bnd (bY [(aN 0),(.s []),(aN 0),(aN 0)] h) fun v1 h1 =>
  uI r n (env 0) v1 h1) = (K1 (s290 r n) 0):=by kernel_rfl
theorem dKp : D290 r n c290 x0 r290 = (K1 (s290 r n) 0) :=
 (dBu r n).trans
 ((dBb r n (uI r n)).trans (cCm r n))
theorem dBg : aF CF r n 290 args h = s290 r n (aV args 0) h :=
 (by kernel_rfl : aF CF r n 290 args h = D290 r n c290 x0 r290 (aJ args) h).trans ((congrFun (congrFun (dKp r n) (aJ args)) h).trans (by kernel_rfl))
end Go.Dd

namespace Go.Dd
open Go.Proofs
variable (r : RT) (n : Nat) (args : List DV) (h : Hp)
def s293 (r : RT) (n : Nat) (x0 x1 : DV) (h0 : Hp) : aH :=
 bnd (bY [(aN 0),(.s []),(aN 0),(aN 0)] h0) fun v1 h1 =>
 bnd (aY x0 h1) fun v2 h2 =>
 bnd (aB 0 v2 h2) fun v3 h3 =>
 bnd (aA v3 h3) fun v4 h4 =>
 bnd (aY x0 h4) fun v5 h5 =>
 bnd (aB 0 v5 h5) fun v6 h6 =>
 bnd (aA v6 h6) fun v7 h7 =>
 bnd (cB v7 h7) fun v8 h8 =>
 bnd (aD .sub v8 (aN 1) h8) fun v9 h9 =>
 bnd (cDk x1 v9 h9) fun v10 h10 =>
 bnd (aE 4 v4 v10 h10) fun v11 h11 =>
 bnd (aK 4 v11 h11) fun v12 h12 =>
 bnd (aG 4 v1 v12 h12) fun v13 h13 =>
 bnd (aK 4 v1 h13) fun v14 _ =>
 some (v14,h13)
abbrev c293 : Code:=cf Tryz.f293
abbrev r293 : K:=aR CF Tryz.f293
def D293 (r : RT) (n : Nat) (c : Code) (X : Nat → K) (k : K) : K:=aM CF r 19 n c X r293 k
theorem dOo : D293 r n c293 x0 r293 = (K2 (s293 r n) 0 1) :=
 (by kernel_rfl)
theorem cVa : aF CF r n 293 args h = s293 r n (aV args 0) (aV args 1) h :=
 (by kernel_rfl : aF CF r n 293 args h = D293 r n c293 x0 r293 (aJ args) h).trans ((congrFun (congrFun (dOo r n) (aJ args)) h).trans (by kernel_rfl))
def s296 (r : RT) (n : Nat) (x0 x1 x2 x3 : DV) (h0 : Hp) : aH :=
 bnd (aY x0 h0) fun v1 h1 =>
 bnd (aB 0 v1 h1) fun v2 h2 =>
 bnd (aB 5 v2 h2) fun v3 h3 =>
 bnd (aA v3 h3) fun v4 h4 =>
 bnd (bK [(aN 0),(aN 0),(aN 0)] [(0,1,x1),(1,1,x2),(2,1,x3)] h4) fun v5 h5 =>
 bnd (aO [(aN 0),(aN 0),(aN 0)] 1 [(0,3,v5)] h5) fun v6 h6 =>
 bnd (bB 3 24 v4 v6 h6) fun v7 h7 =>
 bnd (aY x0 h7) fun v8 h8 =>
 bnd (aB 0 v8 h8) fun v9 h9 =>
 bnd (aB 5 v9 h9) fun v10 h10 =>
 bnd (aG 1 v10 v7 h10) fun _ h11 =>
 some (.t [],h11)
abbrev c296 : Code:=cf Tryz.f296
abbrev r296 : K:=aR CF Tryz.f296
def D296 (r : RT) (n : Nat) (c : Code) (X : Nat → K) (k : K) : K:=aM CF r 23 n c X r296 k
theorem dMz : D296 r n c296 x0 r296 = (K4 (s296 r n) 0 1 2 3) :=
 (by kernel_rfl)
theorem dHn : aF CF r n 296 args h = s296 r n (aV args 0) (aV args 1) (aV args 2) (aV args 3) h :=
 (by kernel_rfl : aF CF r n 296 args h = D296 r n c296 x0 r296 (aJ args) h).trans ((congrFun (congrFun (dMz r n) (aJ args)) h).trans (by kernel_rfl))
def cN (r : RT) (n : Nat) (x2 x3 : DV) (h0 : Hp) : aH :=
 some (.t [x2,x3],h0)
def dE (r : RT) (n : Nat) (x3 : DV) (h0 : Hp) : aH :=
 cN r n (.b true) x3 h0
def dY (r : RT) (n : Nat) (h0 : Hp) : aH :=
 dE r n (.b true) h0
def qS (r : RT) (n : Nat) (x2 x3 : DV) (h0 : Hp) : aH :=
 cN r n x2 x3 h0
def nP (r : RT) (n : Nat) (x2 x3 x11 : DV) (h0 : Hp) : aH :=
 aT x11 (
  dE r n x3 h0) (
  qS r n x2 x3 h0)
def aAn (r : RT) (n : Nat) (x2 x3 x4 : DV) (h0 : Hp) : aH :=
 bnd (aD .eql x4 (aN 6) h0) fun v1 h1 =>
 aT v1 (
  nP r n x2 x3 v1 h1) (
 bnd (aD .eql x4 (aN 7) h1) fun v2 h2 =>
 aT v2 (
   nP r n x2 x3 v2 h2) (
 bnd (aD .eql x4 (aN 8) h2) fun v3 h3 =>
 aT v3 (
    nP r n x2 x3 v3 h3) (
 bnd (aD .eql x4 (aN 9) h3) fun v4 h4 =>
 aT v4 (
     nP r n x2 x3 v4 h4) (
 bnd (aD .eql x4 (aN 10) h4) fun v5 h5 =>
 aT v5 (
      nP r n x2 x3 v5 h5) (
 bnd (aD .eql x4 (aN 11) h5) fun v6 h6 =>
      nP r n x2 x3 v6 h6)))))
def qN (r : RT) (n : Nat) (x2 x3 x4 x5 : DV) (h0 : Hp) : aH :=
 aT x5 (
  dY r n h0) (
  aAn r n x2 x3 x4 h0)
def aVh (r : RT) (n : Nat) (x2 x3 x4 : DV) (h0 : Hp) : aH :=
 bnd (aD .eql x4 (aN 14) h0) fun v1 h1 =>
 aT v1 (
  qN r n x2 x3 x4 v1 h1) (
 bnd (aD .eql x4 (aN 15) h1) fun v2 h2 =>
 aT v2 (
   qN r n x2 x3 x4 v2 h2) (
 bnd (aD .eql x4 (aN 16) h2) fun v3 h3 =>
 aT v3 (
    qN r n x2 x3 x4 v3 h3) (
 bnd (aD .eql x4 (aN 17) h3) fun v4 h4 =>
 aT v4 (
     qN r n x2 x3 x4 v4 h4) (
 bnd (aD .eql x4 (aN 18) h4) fun v5 h5 =>
     qN r n x2 x3 x4 v5 h5))))
def aRf (r : RT) (n : Nat) (x0 x2 x3 : DV) (h0 : Hp) : aH :=
 aVh r n x2 x3 x0 h0
def s297 (r : RT) (n : Nat) (x0 : DV) (h0 : Hp) : aH :=
 aRf r n x0 (.b false) (.b false) h0
abbrev c297 : Code:=cf Tryz.f297
abbrev aIs : Code:=cR c297
abbrev dAk : Code:=cR aIs
abbrev aAa : Code:=cL aIs
abbrev aTn : Code:=cR aAa
abbrev aHk : Code:=cL aTn
abbrev dAe : Code:=cR aHk
abbrev aEk : Code:=cL aHk
abbrev aLp : Code:=cL aEk
abbrev dAm : Code:=cR aLp
abbrev xB : Code:=cL aLp
abbrev wU : Code:=cL xB
abbrev cMf : Code:=cR wU
abbrev sI : Code:=cL wU
abbrev wI : Code:=cR sI
abbrev cMa : Code:=cR wI
abbrev aZr : Code:=cL wI
abbrev sF : Code:=cL sI
abbrev cNd : Code:=cR sF
abbrev aZf : Code:=cL sF
abbrev bEg : Code:=cL aAa
abbrev bDz : Code:=cL c297
abbrev r297 : K:=aR CF Tryz.f297
def D297 (r : RT) (n : Nat) (c : Code) (X : Nat → K) (k : K) : K:=aM CF r 20 n c X r297 k
theorem cEn : D297 r n dAk x0 r297 = (K2 (cN r n) 2 3) :=
 (by kernel_rfl)
theorem cGy : D297 r n dAe (xs x0 0 (K2 (cN r n) 2 3)) (K2 (cN r n) 2 3) = (K1 (dE r n) 3) :=
 (by kernel_rfl)
theorem cMe : D297 r n dAm (xs (xs x0 0 (K2 (cN r n) 2 3)) 2 (K1 (dE r n) 3)) (K1 (dE r n) 3) = (K0 (dY r n)) :=
 (by kernel_rfl)
theorem cEk : D297 r n cMf (xs (xs (xs x0 0 (K2 (cN r n) 2 3)) 2 (K1 (dE r n) 3)) 1 (K0 (dY r n))) (K0 (dY r n)) = (K2 (qS r n) 2 3) :=
 (by kernel_rfl)
theorem cGi : D297 r n cMa (xs (xs (xs x0 0 (K2 (cN r n) 2 3)) 2 (K1 (dE r n) 3)) 1 (K0 (dY r n))) (K2 (qS r n) 2 3) = (K3 (nP r n) 2 3 11) :=
 (by kernel_rfl)
theorem bSv : D297 r n wI (xs (xs (xs x0 0 (K2 (cN r n) 2 3)) 2 (K1 (dE r n) 3)) 1 (K0 (dY r n))) (K2 (qS r n) 2 3) = D297 r n aZr (xs (xs (xs x0 0 (K2 (cN r n) 2 3)) 2 (K1 (dE r n) 3)) 1 (K0 (dY r n))) (K3 (nP r n) 2 3 11) :=
 congrArg (fun k=>D297 r n aZr (xs (xs (xs x0 0 (K2 (cN r n) 2 3)) 2 (K1 (dE r n) 3)) 1 (K0 (dY r n))) k) (cGi r n)
theorem cLj : D297 r n wI (xs (xs (xs x0 0 (K2 (cN r n) 2 3)) 2 (K1 (dE r n) 3)) 1 (K0 (dY r n))) (K2 (qS r n) 2 3) = (K3 (aAn r n) 2 3 4) :=
 (bSv r n).trans
 ((by kernel_rfl))
theorem cMp : D297 r n cNd (xs (xs (xs x0 0 (K2 (cN r n) 2 3)) 2 (K1 (dE r n) 3)) 1 (K0 (dY r n))) (K3 (aAn r n) 2 3 4) = (K4 (qN r n) 2 3 4 5) :=
 (by kernel_rfl)
theorem bLz : D297 r n aHk (xs x0 0 (K2 (cN r n) 2 3)) (K2 (cN r n) 2 3) = D297 r n aEk (xs x0 0 (K2 (cN r n) 2 3)) (K1 (dE r n) 3) :=
 congrArg (fun k=>D297 r n aEk (xs x0 0 (K2 (cN r n) 2 3)) k) (cGy r n)
theorem bJh : D297 r n aLp (xs (xs x0 0 (K2 (cN r n) 2 3)) 2 (K1 (dE r n) 3)) (K1 (dE r n) 3) = D297 r n xB (xs (xs x0 0 (K2 (cN r n) 2 3)) 2 (K1 (dE r n) 3)) (K0 (dY r n)) :=
 congrArg (fun k=>D297 r n xB (xs (xs x0 0 (K2 (cN r n) 2 3)) 2 (K1 (dE r n) 3)) k) (cMe r n)
theorem cBl : D297 r n wU (xs (xs (xs x0 0 (K2 (cN r n) 2 3)) 2 (K1 (dE r n) 3)) 1 (K0 (dY r n))) (K0 (dY r n)) = D297 r n sI (xs (xs (xs x0 0 (K2 (cN r n) 2 3)) 2 (K1 (dE r n) 3)) 1 (K0 (dY r n))) (K2 (qS r n) 2 3) :=
 congrArg (fun k=>D297 r n sI (xs (xs (xs x0 0 (K2 (cN r n) 2 3)) 2 (K1 (dE r n) 3)) 1 (K0 (dY r n))) k) (cEk r n)
theorem cAi : D297 r n sI (xs (xs (xs x0 0 (K2 (cN r n) 2 3)) 2 (K1 (dE r n) 3)) 1 (K0 (dY r n))) (K2 (qS r n) 2 3) = D297 r n sF (xs (xs (xs x0 0 (K2 (cN r n) 2 3)) 2 (K1 (dE r n) 3)) 1 (K0 (dY r n))) (K3 (aAn r n) 2 3 4) :=
 congrArg (fun k=>D297 r n sF (xs (xs (xs x0 0 (K2 (cN r n) 2 3)) 2 (K1 (dE r n) 3)) 1 (K0 (dY r n))) k) (cLj r n)
theorem bQv : D297 r n sF (xs (xs (xs x0 0 (K2 (cN r n) 2 3)) 2 (K1 (dE r n) 3)) 1 (K0 (dY r n))) (K3 (aAn r n) 2 3 4) = D297 r n aZf (xs (xs (xs x0 0 (K2 (cN r n) 2 3)) 2 (K1 (dE r n) 3)) 1 (K0 (dY r n))) (K4 (qN r n) 2 3 4 5) :=
 congrArg (fun k=>D297 r n aZf (xs (xs (xs x0 0 (K2 (cN r n) 2 3)) 2 (K1 (dE r n) 3)) 1 (K0 (dY r n))) k) (cMp r n)
theorem cKz : D297 r n aTn x0 (K2 (cN r n) 2 3) = (K3 (aVh r n) 2 3 4) :=
 (by kernel_rfl : D297 r n aTn x0 (K2 (cN r n) 2 3) = D297 r n aHk (xs x0 0 (K2 (cN r n) 2 3)) (K2 (cN r n) 2 3)).trans
 ((bLz r n).trans
 ((by kernel_rfl : D297 r n aEk (xs x0 0 (K2 (cN r n) 2 3)) (K1 (dE r n) 3) = D297 r n aLp (xs (xs x0 0 (K2 (cN r n) 2 3)) 2 (K1 (dE r n) 3)) (K1 (dE r n) 3)).trans
 ((bJh r n).trans
 ((by kernel_rfl : D297 r n xB (xs (xs x0 0 (K2 (cN r n) 2 3)) 2 (K1 (dE r n) 3)) (K0 (dY r n)) = D297 r n wU (xs (xs (xs x0 0 (K2 (cN r n) 2 3)) 2 (K1 (dE r n) 3)) 1 (K0 (dY r n))) (K0 (dY r n))).trans
 ((cBl r n).trans
 ((cAi r n).trans
 ((bQv r n).trans
 ((by kernel_rfl)))))))))
theorem bTn : D297 r n aIs x0 r297 = D297 r n aAa x0 (K2 (cN r n) 2 3) :=
 congrArg (fun k=>D297 r n aAa x0 k) (cEn r n)
theorem bYo : D297 r n aAa x0 (K2 (cN r n) 2 3) = D297 r n bEg x0 (K3 (aVh r n) 2 3 4) :=
 congrArg (fun k=>D297 r n bEg x0 k) (cKz r n)
theorem cIc : D297 r n aIs x0 r297 = (K3 (aRf r n) 0 2 3) :=
 (bTn r n).trans
 ((bYo r n).trans
 ((by kernel_rfl)))
theorem dEf : D297 r n c297 x0 r297 = D297 r n bDz x0 (K3 (aRf r n) 0 2 3) :=
 congrArg (fun k=>D297 r n bDz x0 k) (cIc r n)
theorem dNx : D297 r n c297 x0 r297 = (K1 (s297 r n) 0) :=
 (dEf r n).trans
 ((by kernel_rfl))
theorem dHl : aF CF r n 297 args h = s297 r n (aV args 0) h :=
 (by kernel_rfl : aF CF r n 297 args h = D297 r n c297 x0 r297 (aJ args) h).trans ((congrFun (congrFun (dNx r n) (aJ args)) h).trans (by kernel_rfl))
def s298 (r : RT) (n : Nat) (x0 x1 : DV) (h0 : Hp) : aH :=
 bnd (aD .eql x0 (aN 0) h0) fun v1 h1 =>
 bnd (gD v1 false (some (x1,h1)) h1) fun v2 h2 =>
 bnd (gD v1 false (some (v2,h2)) h2) fun v3 h3 =>
 bnd (gD v3 true (some (x0,h3)) h3) fun v4 h4 =>
 bnd (gD v3 true (aD .gtr v4 (aN 0) h4) h4) fun v5 h5 =>
 bnd (gD v1 false (aP v3 v5 (.b false) h5) h5) fun v6 h6 =>
 bnd (gD v1 false (some (v6,h6)) h6) fun v7 h7 =>
 bnd (gD v7 true (some (x0,h7)) h7) fun v8 h8 =>
 bnd (gD v7 true (aD .leq v8 (aN 255) h8) h8) fun v9 h9 =>
 bnd (gD v1 false (aP v7 v9 (.b false) h9) h9) fun v10 h10 =>
 bnd (aP v1 (.b true) v10 h10) fun v11 h11 =>
 some (v11,h11)
abbrev c298 : Code:=cf Tryz.f298
abbrev r298 : K:=aR CF Tryz.f298
def D298 (r : RT) (n : Nat) (c : Code) (X : Nat → K) (k : K) : K:=aM CF r 18 n c X r298 k
theorem dPe : D298 r n c298 x0 r298 = (K2 (s298 r n) 0 1) :=
 (by kernel_rfl)
theorem cYq : aF CF r n 298 args h = s298 r n (aV args 0) (aV args 1) h :=
 (by kernel_rfl : aF CF r n 298 args h = D298 r n c298 x0 r298 (aJ args) h).trans ((congrFun (congrFun (dPe r n) (aJ args)) h).trans (by kernel_rfl))
def eT (r : RT) (n : Nat) (x2 : DV) (h0 : Hp) : aH :=
 bnd (aB 5 x2 h0) fun v1 h1 =>
 bnd (aA v1 h1) fun v2 h2 =>
 bnd (r 365 [v2] h2) fun v3 h3 =>
 bnd (aB 5 x2 h3) fun v4 h4 =>
 bnd (aA v4 h4) fun v5 h5 =>
 bnd (r 366 [v5,v3] h5) fun v6 h6 =>
 bnd (gQ .not v6 h6) fun v7 h7 =>
 aT v7 (
 some (.t [.l0,(aN 19)],h7)) (
 bnd (aB 5 x2 h7) fun v8 h8 =>
 bnd (aA v8 h8) fun v9 h9 =>
 bnd (r 367 [v9,v3] h9) fun v10 h10 =>
 bnd (aC 0 v10 h10) fun v11 h11 =>
 bnd (aC 1 v10 h11) fun v12 h12 =>
 bnd (gQ .not v12 h12) fun v13 h13 =>
 aT v13 (
 some (.t [.l0,(aN 19)],h13)) (
 some (.t [v11,(aN 0)],h13)))
def aFn (r : RT) (n : Nat) (kk7 : dJ) (x1 x2 x60 x61 x62 : DV) (h0 : Hp) : aH :=
 bnd (aD .lss x62 x61 h0) fun v1 h1 =>
 aT v1 (
 bnd (aE 3 x60 x62 h1) fun v2 h2 =>
 bnd (aK 3 v2 h2) fun v3 h3 =>
 bnd (bY [(aN 0),(aN 0),(aN 0)] h3) fun v4 h4 =>
 bnd (aG 3 v4 v3 h4) fun _ h5 =>
 bnd (aK 3 v4 h5) fun v6 h6 =>
 bnd (r 223 [v6] h6) fun v7 h7 =>
 bnd (gQ .not v7 h7) fun v8 h8 =>
 bnd (gD v8 false (aK 6 x2 h8) h8) fun v9 h9 =>
 bnd (gD v8 false (aK 3 v4 h9) h9) fun v10 h10 =>
 bnd (gD v8 false (some (x1,h10)) h10) fun v11 h11 =>
 bnd (gD v8 false (r 364 [v9,v10,v11] h11) h11) fun v12 h12 =>
 bnd (gD v8 false (gQ .not v12 h12) h12) fun v13 h13 =>
 bnd (aP v8 (.b true) v13 h13) fun v14 h14 =>
 aT v14 (
 some (.t [.l0,(aN 19)],h14)) (
 bnd (aD .add x62 (aN 1) h14) fun v15 h15 =>
    kk7 x1 x2 x60 x61 v15 h15)) (
      eT r n x2 h1)
def wN (r : RT) (n : Nat) (m : Nat) : dJ :=
 Nat.rec (motive:=fun _=>dJ) (fun _ _ _ _ _ _=>none) (fun _ ih=>aFn r n ih) m
def bPo (r : RT) (n : Nat) : dJ:=wN r n n
def aQi (r : RT) (n : Nat) (x1 x2 x60 x61 x62 : DV) (h0 : Hp) : aH :=
 bPo r n x1 x2 x60 x61 x62 h0
def aSs (r : RT) (n : Nat) (x1 x2 : DV) (h0 : Hp) : aH :=
 bnd (aB 5 x2 h0) fun v1 h1 =>
 bnd (aA v1 h1) fun v2 h2 =>
 bnd (cB v2 h2) fun v3 h3 =>
  aQi r n x1 x2 v2 v3 (aN 0) h3
def aPm (r : RT) (n : Nat) (x1 x2 x6 x7 : DV) (h0 : Hp) : aH :=
 bnd (gQ .not x6 h0) fun v1 h1 =>
 bnd (gD v1 false (some (x7,h1)) h1) fun v2 h2 =>
 bnd (aP v1 (.b true) v2 h2) fun v3 h3 =>
 bnd (gD v3 false (aB 4 x2 h3) h3) fun v4 h4 =>
 bnd (gD v3 false (aA v4 h4) h4) fun v5 h5 =>
 bnd (gD v3 false (cB v5 h5) h5) fun v6 h6 =>
 bnd (gD v3 false (aD .gtr v6 (aN 60) h6) h6) fun v7 h7 =>
 bnd (aP v3 (.b true) v7 h7) fun v8 h8 =>
 bnd (gD v8 false (aB 5 x2 h8) h8) fun v9 h9 =>
 bnd (gD v8 false (aA v9 h9) h9) fun v10 h10 =>
 bnd (gD v8 false (cB v10 h10) h10) fun v11 h11 =>
 bnd (gD v8 false (r 360 [v11,(aN 1),(aN 400)] h11) h11) fun v12 h12 =>
 bnd (gD v8 false (gQ .not v12 h12) h12) fun v13 h13 =>
 bnd (aP v8 (.b true) v13 h13) fun v14 h14 =>
 aT v14 (
 some (.t [.l0,(aN 19)],h14)) (
  aSs r n x1 x2 h14)
def aUh (r : RT) (n : Nat) (x1 x2 x6 : DV) (h0 : Hp) : aH :=
 bnd (aB 4 x2 h0) fun v1 h1 =>
 bnd (aA v1 h1) fun v2 h2 =>
 bnd (r 361 [v2,(.f 362 [] [])] h2) fun v3 h3 =>
  aPm r n x1 x2 x6 v3 h3
def yX (r : RT) (n : Nat) (x1 x2 : DV) (h0 : Hp) : aH :=
 bnd (r 360 [x1,(aN 0),(aN 8)] h0) fun v1 h1 =>
 bnd (gD v1 true (aB 0 x2 h1) h1) fun v2 h2 =>
 bnd (gD v1 true (aA v2 h2) h2) fun v3 h3 =>
 bnd (gD v1 true (cM v3 h3) h3) fun v4 h4 =>
 bnd (gD v1 true (r 360 [v4,(aN 1),(aN 60)] h4) h4) fun v5 h5 =>
 bnd (aP v1 v5 (.b false) h5) fun v6 h6 =>
 bnd (gD v6 true (aB 1 x2 h6) h6) fun v7 h7 =>
 bnd (gD v6 true (aA v7 h7) h7) fun v8 h8 =>
 bnd (gD v6 true (r 360 [v8,(aN 0),(aN 4)] h8) h8) fun v9 h9 =>
 bnd (aP v6 v9 (.b false) h9) fun v10 h10 =>
 bnd (gD v10 true (aB 2 x2 h10) h10) fun v11 h11 =>
 bnd (gD v10 true (aA v11 h11) h11) fun v12 h12 =>
 bnd (gD v10 true (aB 1 x2 h12) h12) fun v13 h13 =>
 bnd (gD v10 true (aA v13 h13) h13) fun v14 h14 =>
 bnd (gD v10 true (r 360 [v12,v14,(aN 24)] h14) h14) fun v15 h15 =>
 bnd (aP v10 v15 (.b false) h15) fun v16 h16 =>
 bnd (gD v16 true (aB 3 x2 h16) h16) fun v17 h17 =>
 bnd (gD v16 true (aA v17 h17) h17) fun v18 h18 =>
 bnd (gD v16 true (r 360 [v18,(aN 0),(aN 255)] h18) h18) fun v19 h19 =>
 bnd (aP v16 v19 (.b false) h19) fun v20 h20 =>
  aUh r n x1 x2 v20 h20
def s299 (r : RT) (n : Nat) (x0 x1 : DV) (h0 : Hp) : aH :=
 bnd (dA x0 h0) fun v1 h1 =>
  yX r n x1 v1 h1
abbrev c299 : Code:=cf Tryz.f299
abbrev aGc : Code:=cR c299
abbrev aGo : Code:=cR aGc
abbrev aFd : Code:=cR aGo
abbrev aIl : Code:=cR aFd
abbrev dFm : Code:=cR aIl
abbrev aAq : Code:=cL aIl
abbrev aSu : Code:=cR aAq
abbrev aIb : Code:=cL aSu
abbrev nZ : Code:=cL aIb
abbrev aYj : Code:=cL aAq
abbrev aYd : Code:=cL aFd
abbrev bAk : Code:=cL aGo
abbrev aYn : Code:=cL aGc
abbrev aFu : Code:=cL c299
abbrev r299 : K:=aR CF Tryz.f299
def D299 (r : RT) (n : Nat) (c : Code) (X : Nat → K) (k : K) : K:=aM CF r 95 n c X r299 k
theorem cGv : D299 r n dFm x0 r299 = (K1 (eT r n) 2) :=
 (by kernel_rfl)
theorem cBf (kk7 : dJ) (q0 : TT1) : D299 r n nZ (xs x0 0 (K1 q0 2)) (K5 kk7 1 2 60 61 62) = fun (env : bA) (h : Hp) =>
 bnd (aD .lss (env 62) (env 61) h) fun v1 h1 =>
 aT v1 (
 bnd (aE 3 (env 60) (env 62) h1) fun v2 h2 =>
 bnd (aK 3 v2 h2) fun v3 h3 =>
 bnd (bY [(aN 0),(aN 0),(aN 0)] h3) fun v4 h4 =>
 bnd (aG 3 v4 v3 h4) fun _ h5 =>
 bnd (aK 3 v4 h5) fun v6 h6 =>
 bnd (r 223 [v6] h6) fun v7 h7 =>
 bnd (gQ .not v7 h7) fun v8 h8 =>
 bnd (gD v8 false (aK 6 (env 2) h8) h8) fun v9 h9 =>
 bnd (gD v8 false (aK 3 v4 h9) h9) fun v10 h10 =>
 bnd (gD v8 false (some ((env 1),h10)) h10) fun v11 h11 =>
 bnd (gD v8 false (r 364 [v9,v10,v11] h11) h11) fun v12 h12 =>
 bnd (gD v8 false (gQ .not v12 h12) h12) fun v13 h13 =>
 bnd (aP v8 (.b true) v13 h13) fun v14 h14 =>
 aT v14 (
 some (.t [.l0,(aN 19)],h14)) (
 bnd (aD .add (env 62) (aN 1) h14) fun v15 h15 =>
    kk7 (env 1) (env 2) (env 60) (env 61) v15 h15)) (
      q0 (env 2) h1):=by kernel_rfl
theorem bHm (kk7 : dJ) : (fun (env : bA) (h : Hp) =>
 bnd (aD .lss (env 62) (env 61) h) fun v1 h1 =>
 aT v1 (
 bnd (aE 3 (env 60) (env 62) h1) fun v2 h2 =>
 bnd (aK 3 v2 h2) fun v3 h3 =>
 bnd (bY [(aN 0),(aN 0),(aN 0)] h3) fun v4 h4 =>
 bnd (aG 3 v4 v3 h4) fun _ h5 =>
 bnd (aK 3 v4 h5) fun v6 h6 =>
 bnd (r 223 [v6] h6) fun v7 h7 =>
 bnd (gQ .not v7 h7) fun v8 h8 =>
 bnd (gD v8 false (aK 6 (env 2) h8) h8) fun v9 h9 =>
 bnd (gD v8 false (aK 3 v4 h9) h9) fun v10 h10 =>
 bnd (gD v8 false (some ((env 1),h10)) h10) fun v11 h11 =>
 bnd (gD v8 false (r 364 [v9,v10,v11] h11) h11) fun v12 h12 =>
 bnd (gD v8 false (gQ .not v12 h12) h12) fun v13 h13 =>
 bnd (aP v8 (.b true) v13 h13) fun v14 h14 =>
 aT v14 (
 some (.t [.l0,(aN 19)],h14)) (
 bnd (aD .add (env 62) (aN 1) h14) fun v15 h15 =>
    kk7 (env 1) (env 2) (env 60) (env 61) v15 h15)) (
      eT r n (env 2) h1)) = (K5 (aFn r n kk7) 1 2 60 61 62):=by kernel_rfl
theorem bKk (kk7 : dJ) : D299 r n nZ (xs x0 0 (K1 (eT r n) 2)) (K5 kk7 1 2 60 61 62) = (K5 (aFn r n kk7) 1 2 60 61 62) :=
 (cBf r n kk7 (eT r n)).trans (bHm r n kk7)
theorem bZu (m : Nat) : aL (fun kk=>D299 r n nZ (xs x0 0 (K1 (eT r n) 2)) kk) m = (K5 (wN r n m) 1 2 60 61 62):=by
 induction m with
 | zero=>exact (by kernel_rfl : aL (fun kk=>D299 r n nZ (xs x0 0 (K1 (eT r n) 2)) kk) 0 = (K5 (wN r n 0) 1 2 60 61 62))
 | succ m ih =>
  refine (by kernel_rfl : aL (fun kk=>D299 r n nZ (xs x0 0 (K1 (eT r n) 2)) kk) (m + 1) = D299 r n nZ (xs x0 0 (K1 (eT r n) 2)) (aL (fun kk=>D299 r n nZ (xs x0 0 (K1 (eT r n) 2)) kk) m)).trans ?_
  rw [ih]
  exact (bKk r n (wN r n m)).trans (by kernel_rfl)
theorem cCh : D299 r n aIb (xs x0 0 (K1 (eT r n) 2)) (K1 (eT r n) 2) = (K5 (bPo r n) 1 2 60 61 62) :=
 (by kernel_rfl : D299 r n aIb (xs x0 0 (K1 (eT r n) 2)) (K1 (eT r n) 2) = aL (fun kk=>D299 r n nZ (xs x0 0 (K1 (eT r n) 2)) kk) n).trans ((bZu r n n).trans (by kernel_rfl))
theorem cLp : D299 r n aSu x0 (K1 (eT r n) 2) = (K5 (aQi r n) 1 2 60 61 62) :=
 (by kernel_rfl : D299 r n aSu x0 (K1 (eT r n) 2) = D299 r n aIb (xs x0 0 (K1 (eT r n) 2)) (K1 (eT r n) 2)).trans
 ((cCh r n).trans (by kernel_rfl))
theorem bRb : D299 r n aIl x0 r299 = D299 r n aAq x0 (K1 (eT r n) 2) :=
 congrArg (fun k=>D299 r n aAq x0 k) (cGv r n)
theorem bOt : D299 r n aAq x0 (K1 (eT r n) 2) = D299 r n aYj x0 (K5 (aQi r n) 1 2 60 61 62) :=
 congrArg (fun k=>D299 r n aYj x0 k) (cLp r n)
theorem cMy : D299 r n aIl x0 r299 = (K2 (aSs r n) 1 2) :=
 (bRb r n).trans
 ((bOt r n).trans
 ((by kernel_rfl)))
theorem bKc : D299 r n aFd x0 r299 = D299 r n aYd x0 (K2 (aSs r n) 1 2) :=
 congrArg (fun k=>D299 r n aYd x0 k) (cMy r n)
theorem cIy : D299 r n aFd x0 r299 = (K4 (aPm r n) 1 2 6 7) :=
 (bKc r n).trans
 ((by kernel_rfl))
theorem bLt : D299 r n aGo x0 r299 = D299 r n bAk x0 (K4 (aPm r n) 1 2 6 7) :=
 congrArg (fun k=>D299 r n bAk x0 k) (cIy r n)
theorem cEg : D299 r n aGo x0 r299 = (K3 (aUh r n) 1 2 6) :=
 (bLt r n).trans
 ((by kernel_rfl))
theorem bPf : D299 r n aGc x0 r299 = D299 r n aYn x0 (K3 (aUh r n) 1 2 6) :=
 congrArg (fun k=>D299 r n aYn x0 k) (cEg r n)
theorem cLu : D299 r n aGc x0 r299 = (K2 (yX r n) 1 2) :=
 (bPf r n).trans
 ((by kernel_rfl))
theorem cWl : D299 r n c299 x0 r299 = D299 r n aFu x0 (K2 (yX r n) 1 2) :=
 congrArg (fun k=>D299 r n aFu x0 k) (cLu r n)
theorem cVz (q0 : TT2) : D299 r n aFu x0 (K2 q0 1 2) = fun (env : bA) (h : Hp) =>
 bnd (dA (env 0) h) fun v1 h1 =>
  q0 (env 1) v1 h1:=by kernel_rfl
theorem cKe : (fun (env : bA) (h : Hp) =>
 bnd (dA (env 0) h) fun v1 h1 =>
  yX r n (env 1) v1 h1) = (K2 (s299 r n) 0 1):=by kernel_rfl
theorem dIu : D299 r n c299 x0 r299 = (K2 (s299 r n) 0 1) :=
 (cWl r n).trans
 ((cVz r n (yX r n)).trans (cKe r n))
theorem cZn : aF CF r n 299 args h = s299 r n (aV args 0) (aV args 1) h :=
 (by kernel_rfl : aF CF r n 299 args h = D299 r n c299 x0 r299 (aJ args) h).trans ((congrFun (congrFun (dIu r n) (aJ args)) h).trans (by kernel_rfl))
end Go.Dd

namespace Go.Dd
open Go.Proofs
variable (r : RT) (n : Nat) (args : List DV) (h : Hp)
def s338 (r : RT) (n : Nat) (x0 x1 : DV) (h0 : Hp) : aH :=
 bnd (aA x1 h0) fun v1 h1 =>
 bnd (r 30 [v1,x0] h1) fun v2 h2 =>
 bnd (aD .geq v2 (aN 0) h2) fun v3 h3 =>
 some (v3,h3)
abbrev c338 : Code:=cf Tryz.f338
abbrev r338 : K:=aR CF Tryz.f338
def D338 (r : RT) (n : Nat) (c : Code) (X : Nat → K) (k : K) : K:=aM CF r 8 n c X r338 k
theorem dMx : D338 r n c338 x0 r338 = (K2 (s338 r n) 0 1) :=
 (by kernel_rfl)
theorem cVv : aF CF r n 338 args h = s338 r n (aV args 0) (aV args 1) h :=
 (by kernel_rfl : aF CF r n 338 args h = D338 r n c338 x0 r338 (aJ args) h).trans ((congrFun (congrFun (dMx r n) (aJ args)) h).trans (by kernel_rfl))
def s339 (r : RT) (n : Nat) (x0 x1 : DV) (h0 : Hp) : aH :=
 bnd (aY x0 h0) fun v1 h1 =>
 bnd (aB 1 v1 h1) fun v2 h2 =>
 bnd (aA v2 h2) fun v3 h3 =>
 bnd (aD .add v3 x1 h3) fun v4 h4 =>
 bnd (aY x0 h4) fun v5 h5 =>
 bnd (aB 0 v5 h5) fun v6 h6 =>
 bnd (aA v6 h6) fun v7 h7 =>
 bnd (cM v7 h7) fun v8 h8 =>
 bnd (aD .geq v4 v8 h8) fun v9 h9 =>
 aT v9 (
 some ((.i .u8 (Int.ofNat 0)),h9)) (
 bnd (aY x0 h9) fun v10 h10 =>
 bnd (aB 0 v10 h10) fun v11 h11 =>
 bnd (aA v11 h11) fun v12 h12 =>
 bnd (aY x0 h12) fun v13 h13 =>
 bnd (aB 1 v13 h13) fun v14 h14 =>
 bnd (aA v14 h14) fun v15 h15 =>
 bnd (aD .add v15 x1 h15) fun v16 h16 =>
 bnd (bX v12 v16 h16) fun v17 h17 =>
 some (v17,h17))
abbrev c339 : Code:=cf Tryz.f339
abbrev r339 : K:=aR CF Tryz.f339
def D339 (r : RT) (n : Nat) (c : Code) (X : Nat → K) (k : K) : K:=aM CF r 28 n c X r339 k
theorem dIs : D339 r n c339 x0 r339 = (K2 (s339 r n) 0 1) :=
 (by kernel_rfl)
theorem dDt : aF CF r n 339 args h = s339 r n (aV args 0) (aV args 1) h :=
 (by kernel_rfl : aF CF r n 339 args h = D339 r n c339 x0 r339 (aJ args) h).trans ((congrFun (congrFun (dIs r n) (aJ args)) h).trans (by kernel_rfl))
def s340 (r : RT) (n : Nat) (x0 : DV) (h0 : Hp) : aH :=
 bnd (aD .geq x0 (.i .u8 (Int.ofNat 97)) h0) fun v1 h1 =>
 bnd (gD v1 true (some (x0,h1)) h1) fun v2 h2 =>
 bnd (gD v1 true (aD .leq v2 (.i .u8 (Int.ofNat 122)) h2) h2) fun v3 h3 =>
 bnd (aP v1 v3 (.b false) h3) fun v4 h4 =>
 bnd (gD v4 false (some (x0,h4)) h4) fun v5 h5 =>
 bnd (gD v4 false (aD .geq v5 (.i .u8 (Int.ofNat 65)) h5) h5) fun v6 h6 =>
 bnd (gD v4 false (some (v6,h6)) h6) fun v7 h7 =>
 bnd (gD v7 true (some (x0,h7)) h7) fun v8 h8 =>
 bnd (gD v7 true (aD .leq v8 (.i .u8 (Int.ofNat 90)) h8) h8) fun v9 h9 =>
 bnd (gD v4 false (aP v7 v9 (.b false) h9) h9) fun v10 h10 =>
 bnd (aP v4 (.b true) v10 h10) fun v11 h11 =>
 some (v11,h11)
abbrev c340 : Code:=cf Tryz.f340
abbrev r340 : K:=aR CF Tryz.f340
def D340 (r : RT) (n : Nat) (c : Code) (X : Nat → K) (k : K) : K:=aM CF r 17 n c X r340 k
theorem dKd : D340 r n c340 x0 r340 = (K1 (s340 r n) 0) :=
 (by kernel_rfl)
theorem dBv : aF CF r n 340 args h = s340 r n (aV args 0) h :=
 (by kernel_rfl : aF CF r n 340 args h = D340 r n c340 x0 r340 (aJ args) h).trans ((congrFun (congrFun (dKd r n) (aJ args)) h).trans (by kernel_rfl))
def s341 (r : RT) (n : Nat) (x0 : DV) (h0 : Hp) : aH :=
 bnd (aY x0 h0) fun v1 h1 =>
 bnd (aB 0 v1 h1) fun v2 h2 =>
 bnd (aA v2 h2) fun v3 h3 =>
 bnd (cM v3 h3) fun v4 h4 =>
 bnd (r 286 [x0,(.f 415 [] []),v4] h4) fun v5 h5 =>
 bnd (cM v5 h5) fun v6 h6 =>
 bnd (aD .gtr v6 (aN 24) h6) fun v7 h7 =>
 aT v7 (
 some (.t [(.s []),(aN 12)],h7)) (
 some (.t [v5,(aN 0)],h7))
abbrev c341 : Code:=cf Tryz.f341
abbrev r341 : K:=aR CF Tryz.f341
def D341 (r : RT) (n : Nat) (c : Code) (X : Nat → K) (k : K) : K:=aM CF r 16 n c X r341 k
theorem dKh : D341 r n c341 x0 r341 = (K1 (s341 r n) 0) :=
 (by kernel_rfl)
theorem dHr : aF CF r n 341 args h = s341 r n (aV args 0) h :=
 (by kernel_rfl : aF CF r n 341 args h = D341 r n c341 x0 r341 (aJ args) h).trans ((congrFun (congrFun (dKh r n) (aJ args)) h).trans (by kernel_rfl))
def s342 (r : RT) (n : Nat) (x0 : DV) (h0 : Hp) : aH :=
 bnd (r 339 [x0,(aN 0)] h0) fun v1 h1 =>
 bnd (aD .neq v1 (.i .u8 (Int.ofNat 58)) h1) fun v2 h2 =>
 bnd (gD v2 false (some (x0,h2)) h2) fun v3 h3 =>
 bnd (gD v2 false (r 339 [v3,(aN 1)] h3) h3) fun v4 h4 =>
 bnd (gD v2 false (aD .eql v4 (.i .u8 (Int.ofNat 61)) h4) h4) fun v5 h5 =>
 bnd (aP v2 (.b true) v5 h5) fun v6 h6 =>
 aT v6 (
 some ((.b false),h6)) (
 bnd (aY x0 h6) fun v7 h7 =>
 bnd (aB 1 v7 h7) fun v8 h8 =>
 bnd (aA v8 h8) fun v9 h9 =>
 bnd (aD .add v9 (aN 1) h9) fun v10 h10 =>
 bnd (aY x0 h10) fun v11 h11 =>
 bnd (aB 1 v11 h11) fun v12 h12 =>
 bnd (aG 1 v12 v10 h12) fun _ h13 =>
 some ((.b true),h13))
abbrev c342 : Code:=cf Tryz.f342
abbrev r342 : K:=aR CF Tryz.f342
def D342 (r : RT) (n : Nat) (c : Code) (X : Nat → K) (k : K) : K:=aM CF r 18 n c X r342 k
theorem dQl : D342 r n c342 x0 r342 = (K1 (s342 r n) 0) :=
 (by kernel_rfl)
theorem dBf : aF CF r n 342 args h = s342 r n (aV args 0) h :=
 (by kernel_rfl : aF CF r n 342 args h = D342 r n c342 x0 r342 (aJ args) h).trans ((congrFun (congrFun (dQl r n) (aJ args)) h).trans (by kernel_rfl))
def s343 (r : RT) (n : Nat) (x0 : DV) (h0 : Hp) : aH :=
 bnd (aD .geq x0 (.i .u8 (Int.ofNat 48)) h0) fun v1 h1 =>
 bnd (gD v1 true (some (x0,h1)) h1) fun v2 h2 =>
 bnd (gD v1 true (aD .leq v2 (.i .u8 (Int.ofNat 57)) h2) h2) fun v3 h3 =>
 bnd (aP v1 v3 (.b false) h3) fun v4 h4 =>
 some (v4,h4)
abbrev c343 : Code:=cf Tryz.f343
abbrev r343 : K:=aR CF Tryz.f343
def D343 (r : RT) (n : Nat) (c : Code) (X : Nat → K) (k : K) : K:=aM CF r 9 n c X r343 k
theorem dOv : D343 r n c343 x0 r343 = (K1 (s343 r n) 0) :=
 (by kernel_rfl)
theorem cYd : aF CF r n 343 args h = s343 r n (aV args 0) h :=
 (by kernel_rfl : aF CF r n 343 args h = D343 r n c343 x0 r343 (aJ args) h).trans ((congrFun (congrFun (dOv r n) (aJ args)) h).trans (by kernel_rfl))
def s348 (r : RT) (n : Nat) (x0 x1 : DV) (h0 : Hp) : aH :=
 bnd (dA x1 h0) fun v1 h1 =>
 bnd (bY [(.s []),(.b false),(.b false),(aN 0)] h1) fun v2 h2 =>
 bnd (aY x0 h2) fun v3 h3 =>
 bnd (aB 6 v3 h3) fun v4 h4 =>
 bnd (aA v4 h4) fun v5 h5 =>
 bnd (r 423 [v5,(.f 424 [] [v1])] h5) fun v6 h6 =>
 bnd (aD .lss v6 (aN 0) h6) fun v7 h7 =>
 aT v7 (
 bnd (bK [(.s []),(.b false),(.b false),(aN 0)] [] h7) fun v8 h8 =>
 bnd (aG 4 v2 v8 h8) fun _ h9 =>
 bnd (aK 4 v2 h9) fun v10 _ =>
 some (.t [v10,(.b false)],h9)) (
 bnd (aY x0 h7) fun v11 h11 =>
 bnd (aB 6 v11 h11) fun v12 h12 =>
 bnd (aA v12 h12) fun v13 h13 =>
 bnd (aE 4 v13 v6 h13) fun v14 h14 =>
 bnd (aK 4 v14 h14) fun v15 h15 =>
 bnd (aG 4 v2 v15 h15) fun _ h16 =>
 bnd (aK 4 v2 h16) fun v17 _ =>
 some (.t [v17,(.b true)],h16))
abbrev c348 : Code:=cf Tryz.f348
abbrev r348 : K:=aR CF Tryz.f348
def D348 (r : RT) (n : Nat) (c : Code) (X : Nat → K) (k : K) : K:=aM CF r 23 n c X r348 k
theorem dJc : D348 r n c348 x0 r348 = (K2 (s348 r n) 0 1) :=
 (by kernel_rfl)
theorem dCq : aF CF r n 348 args h = s348 r n (aV args 0) (aV args 1) h :=
 (by kernel_rfl : aF CF r n 348 args h = D348 r n c348 x0 r348 (aJ args) h).trans ((congrFun (congrFun (dJc r n) (aJ args)) h).trans (by kernel_rfl))
end Go.Dd

namespace Go.Dd
open Go.Proofs
variable (r : RT) (n : Nat) (args : List DV) (h : Hp)
def s360 (r : RT) (n : Nat) (x0 x1 x2 : DV) (h0 : Hp) : aH :=
 bnd (aD .geq x0 x1 h0) fun v1 h1 =>
 bnd (gD v1 true (some (x0,h1)) h1) fun v2 h2 =>
 bnd (gD v1 true (some (x2,h2)) h2) fun v3 h3 =>
 bnd (gD v1 true (aD .leq v2 v3 h3) h3) fun v4 h4 =>
 bnd (aP v1 v4 (.b false) h4) fun v5 h5 =>
 some (v5,h5)
abbrev c360 : Code:=cf Tryz.f360
abbrev r360 : K:=aR CF Tryz.f360
def D360 (r : RT) (n : Nat) (c : Code) (X : Nat → K) (k : K) : K:=aM CF r 15 n c X r360 k
theorem dIm : D360 r n c360 x0 r360 = (K3 (s360 r n) 0 1 2) :=
 (by kernel_rfl)
theorem cXl : aF CF r n 360 args h = s360 r n (aV args 0) (aV args 1) (aV args 2) h :=
 (by kernel_rfl : aF CF r n 360 args h = D360 r n c360 x0 r360 (aJ args) h).trans ((congrFun (congrFun (dIm r n) (aJ args)) h).trans (by kernel_rfl))
def aZ (r : RT) (n : Nat) (h0 : Hp) : aH :=
 some ((.b true),h0)
def xQ (r : RT) (n : Nat) (x2 x3 x4 x27 x51 : DV) (h0 : Hp) : aH :=
 aT x51 (
 bnd (aB 1 x4 h0) fun v1 h1 =>
 bnd (aA v1 h1) fun v2 h2 =>
 bnd (aD .lss v2 x2 h2) fun v3 h3 =>
 some (v3,h3)) (
 bnd (aD .eql x27 (aN 18) h0) fun v4 h4 =>
 aT v4 (
 bnd (aB 2 x4 h4) fun v5 h5 =>
 bnd (aA v5 h5) fun v6 h6 =>
 bnd (aD .leq v6 (aN 4) h6) fun v7 h7 =>
 bnd (gD v7 true (aB 1 x4 h7) h7) fun v8 h8 =>
 bnd (gD v7 true (aA v8 h8) h8) fun v9 h9 =>
 bnd (gD v7 true (aB 2 x4 h9) h9) fun v10 h10 =>
 bnd (gD v7 true (aA v10 h10) h10) fun v11 h11 =>
 bnd (gD v7 true (aD .add v9 v11 h11) h11) fun v12 h12 =>
 bnd (gD v7 true (aB 2 x3 h12) h12) fun v13 h13 =>
 bnd (gD v7 true (aA v13 h13) h13) fun v14 h14 =>
 bnd (gD v7 true (aD .leq v12 v14 h14) h14) fun v15 h15 =>
 bnd (aP v7 v15 (.b false) h15) fun v16 h16 =>
 some (v16,h16)) (
   aZ r n h4))
def aWs (r : RT) (n : Nat) (x2 x3 x4 x27 : DV) (h0 : Hp) : aH :=
 bnd (aD .eql x27 (aN 8) h0) fun v1 h1 =>
 aT v1 (
  xQ r n x2 x3 x4 x27 v1 h1) (
 bnd (aD .eql x27 (aN 11) h1) fun v2 h2 =>
  xQ r n x2 x3 x4 x27 v2 h2)
def xD (r : RT) (n : Nat) (x2 x3 x4 x27 x43 : DV) (h0 : Hp) : aH :=
 aT x43 (
 bnd (aB 1 x4 h0) fun v1 h1 =>
 bnd (aA v1 h1) fun v2 h2 =>
 bnd (aB 2 x3 h2) fun v3 h3 =>
 bnd (aA v3 h3) fun v4 h4 =>
 bnd (aD .lss v2 v4 h4) fun v5 h5 =>
 some (v5,h5)) (
  aWs r n x2 x3 x4 x27 h0)
def bDx (r : RT) (n : Nat) (x2 x3 x4 x27 : DV) (h0 : Hp) : aH :=
 bnd (aD .eql x27 (aN 7) h0) fun v1 h1 =>
 aT v1 (
  xD r n x2 x3 x4 x27 v1 h1) (
 bnd (aD .eql x27 (aN 10) h1) fun v2 h2 =>
  xD r n x2 x3 x4 x27 v2 h2)
def xN (r : RT) (n : Nat) (x2 x3 x4 x8 x27 x34 : DV) (h0 : Hp) : aH :=
 aT x34 (
 bnd (gD x8 true (aB 2 x4 h0) h0) fun v1 h1 =>
 bnd (gD x8 true (aA v1 h1) h1) fun v2 h2 =>
 bnd (gD x8 true (aD .leq v2 (aN 4) h2) h2) fun v3 h3 =>
 bnd (aP x8 v3 (.b false) h3) fun v4 h4 =>
 some (v4,h4)) (
  bDx r n x2 x3 x4 x27 h0)
def bLc (r : RT) (n : Nat) (x2 x3 x4 x8 x27 : DV) (h0 : Hp) : aH :=
 bnd (aD .eql x27 (aN 14) h0) fun v1 h1 =>
 aT v1 (
  xN r n x2 x3 x4 x8 x27 v1 h1) (
 bnd (aD .eql x27 (aN 15) h1) fun v2 h2 =>
  xN r n x2 x3 x4 x8 x27 v2 h2)
def aUj (r : RT) (n : Nat) (x2 x3 x4 x8 x27 x31 : DV) (h0 : Hp) : aH :=
 aT x31 (
 some (x8,h0)) (
  bLc r n x2 x3 x4 x8 x27 h0)
def bKd (r : RT) (n : Nat) (x2 x3 x4 x8 x27 : DV) (h0 : Hp) : aH :=
 bnd (aD .eql x27 (aN 9) h0) fun v1 h1 =>
  aUj r n x2 x3 x4 x8 x27 v1 h1
def aVe (r : RT) (n : Nat) (x2 x3 x4 x7 x8 x27 x28 : DV) (h0 : Hp) : aH :=
 aT x28 (
 some (x7,h0)) (
  bKd r n x2 x3 x4 x8 x27 h0)
def aQu (r : RT) (n : Nat) (x2 x3 x4 x7 x8 x27 : DV) (h0 : Hp) : aH :=
 bnd (aD .eql x27 (aN 6) h0) fun v1 h1 =>
  aVe r n x2 x3 x4 x7 x8 x27 v1 h1
def aUf (r : RT) (n : Nat) (x2 x3 x4 x7 x8 : DV) (h0 : Hp) : aH :=
 bnd (aB 0 x4 h0) fun v1 h1 =>
 bnd (aA v1 h1) fun v2 h2 =>
  aQu r n x2 x3 x4 x7 x8 v2 h2
def aRk (r : RT) (n : Nat) (x2 x3 x4 x7 : DV) (h0 : Hp) : aH :=
 bnd (gD x7 true (aB 4 x3 h0) h0) fun v1 h1 =>
 bnd (gD x7 true (aA v1 h1) h1) fun v2 h2 =>
 bnd (gD x7 true (aB 1 x4 h2) h2) fun v3 h3 =>
 bnd (gD x7 true (aA v3 h3) h3) fun v4 h4 =>
 bnd (gD x7 true (aE 4 v2 v4 h4) h4) fun v5 h5 =>
 bnd (gD x7 true (aB 0 v5 h5) h5) fun v6 h6 =>
 bnd (gD x7 true (aA v6 h6) h6) fun v7 h7 =>
 bnd (gD x7 true (aD .eql v7 (aN 3) h7) h7) fun v8 h8 =>
 bnd (aP x7 v8 (.b false) h8) fun v9 h9 =>
  aUf r n x2 x3 x4 x7 v9 h9
def zT (r : RT) (n : Nat) (x2 x3 x4 : DV) (h0 : Hp) : aH :=
 bnd (aB 1 x4 h0) fun v1 h1 =>
 bnd (aA v1 h1) fun v2 h2 =>
 bnd (aB 4 x3 h2) fun v3 h3 =>
 bnd (aA v3 h3) fun v4 h4 =>
 bnd (cB v4 h4) fun v5 h5 =>
 bnd (aD .lss v2 v5 h5) fun v6 h6 =>
  aRk r n x2 x3 x4 v6 h6
def s364 (r : RT) (n : Nat) (x0 x1 x2 : DV) (h0 : Hp) : aH :=
 bnd (dA x0 h0) fun v1 h1 =>
 bnd (dA x1 h1) fun v2 h2 =>
  zT r n x2 v1 v2 h2
abbrev c364 : Code:=cf Tryz.f364
abbrev aKl : Code:=cR c364
abbrev aJp : Code:=cR aKl
abbrev aFp : Code:=cR aJp
abbrev dHh : Code:=cR aFp
abbrev zG : Code:=cL aFp
abbrev aTp : Code:=cR zG
abbrev aEq : Code:=cL aTp
abbrev xT : Code:=cR aEq
abbrev aAm : Code:=cR xT
abbrev sP : Code:=cR aAm
abbrev rP : Code:=cR sP
abbrev sW : Code:=cR rP
abbrev rQ : Code:=cR sW
abbrev rL : Code:=cR rQ
abbrev rW : Code:=cR rL
abbrev cIi : Code:=cR rW
abbrev aXx : Code:=cL rW
abbrev cCn : Code:=cL rL
abbrev bCm : Code:=cL rQ
abbrev cLa : Code:=cL sW
abbrev aXf : Code:=cL rP
abbrev cMo : Code:=cL sP
abbrev bDm : Code:=cL aAm
abbrev cDh : Code:=cL xT
abbrev aXv : Code:=cL aEq
abbrev bCf : Code:=cL zG
abbrev aYs : Code:=cL aJp
abbrev aWj : Code:=cL aKl
abbrev aKv : Code:=cL c364
abbrev r364 : K:=aR CF Tryz.f364
def D364 (r : RT) (n : Nat) (c : Code) (X : Nat → K) (k : K) : K:=aM CF r 73 n c X r364 k
theorem cCf : D364 r n dHh x0 r364 = (K0 (aZ r n)) :=
 (by kernel_rfl)
theorem bXu : D364 r n cIi (xs x0 0 (K0 (aZ r n))) (K0 (aZ r n)) = (K5 (xQ r n) 2 3 4 27 51) :=
 (by kernel_rfl)
theorem bGs : D364 r n rW (xs x0 0 (K0 (aZ r n))) (K0 (aZ r n)) = D364 r n aXx (xs x0 0 (K0 (aZ r n))) (K5 (xQ r n) 2 3 4 27 51) :=
 congrArg (fun k=>D364 r n aXx (xs x0 0 (K0 (aZ r n))) k) (bXu r n)
theorem bJb : D364 r n rW (xs x0 0 (K0 (aZ r n))) (K0 (aZ r n)) = (K4 (aWs r n) 2 3 4 27) :=
 (bGs r n).trans
 ((by kernel_rfl))
theorem bVx : D364 r n rL (xs x0 0 (K0 (aZ r n))) (K0 (aZ r n)) = (K5 (xD r n) 2 3 4 27 43) :=
 (by kernel_rfl : D364 r n rL (xs x0 0 (K0 (aZ r n))) (K0 (aZ r n)) = (fun (env : bA) (h : Hp)=>aT (opr env (cC rL)) (D364 r n cCn (xs x0 0 (K0 (aZ r n))) (K0 (aZ r n)) env h) (D364 r n rW (xs x0 0 (K0 (aZ r n))) (K0 (aZ r n)) env h))).trans (by rw [bJb r n]; kernel_rfl)
theorem bGp : D364 r n rQ (xs x0 0 (K0 (aZ r n))) (K0 (aZ r n)) = D364 r n bCm (xs x0 0 (K0 (aZ r n))) (K5 (xD r n) 2 3 4 27 43) :=
 congrArg (fun k=>D364 r n bCm (xs x0 0 (K0 (aZ r n))) k) (bVx r n)
theorem bRo : D364 r n rQ (xs x0 0 (K0 (aZ r n))) (K0 (aZ r n)) = (K4 (bDx r n) 2 3 4 27) :=
 (bGp r n).trans
 ((by kernel_rfl))
theorem bOe : D364 r n sW (xs x0 0 (K0 (aZ r n))) (K0 (aZ r n)) = (K6 (xN r n) 2 3 4 8 27 34) :=
 (by kernel_rfl : D364 r n sW (xs x0 0 (K0 (aZ r n))) (K0 (aZ r n)) = (fun (env : bA) (h : Hp)=>aT (opr env (cC sW)) (D364 r n cLa (xs x0 0 (K0 (aZ r n))) (K0 (aZ r n)) env h) (D364 r n rQ (xs x0 0 (K0 (aZ r n))) (K0 (aZ r n)) env h))).trans (by rw [bRo r n]; kernel_rfl)
theorem bKo : D364 r n rP (xs x0 0 (K0 (aZ r n))) (K0 (aZ r n)) = D364 r n aXf (xs x0 0 (K0 (aZ r n))) (K6 (xN r n) 2 3 4 8 27 34) :=
 congrArg (fun k=>D364 r n aXf (xs x0 0 (K0 (aZ r n))) k) (bOe r n)
theorem cHa : D364 r n rP (xs x0 0 (K0 (aZ r n))) (K0 (aZ r n)) = (K5 (bLc r n) 2 3 4 8 27) :=
 (bKo r n).trans
 ((by kernel_rfl))
theorem cFe : D364 r n sP (xs x0 0 (K0 (aZ r n))) (K0 (aZ r n)) = (K6 (aUj r n) 2 3 4 8 27 31) :=
 (by kernel_rfl : D364 r n sP (xs x0 0 (K0 (aZ r n))) (K0 (aZ r n)) = (fun (env : bA) (h : Hp)=>aT (opr env (cC sP)) (D364 r n cMo (xs x0 0 (K0 (aZ r n))) (K0 (aZ r n)) env h) (D364 r n rP (xs x0 0 (K0 (aZ r n))) (K0 (aZ r n)) env h))).trans (by rw [cHa r n]; kernel_rfl)
theorem bKh : D364 r n aAm (xs x0 0 (K0 (aZ r n))) (K0 (aZ r n)) = D364 r n bDm (xs x0 0 (K0 (aZ r n))) (K6 (aUj r n) 2 3 4 8 27 31) :=
 congrArg (fun k=>D364 r n bDm (xs x0 0 (K0 (aZ r n))) k) (cFe r n)
theorem cOa : D364 r n aAm (xs x0 0 (K0 (aZ r n))) (K0 (aZ r n)) = (K5 (bKd r n) 2 3 4 8 27) :=
 (bKh r n).trans
 ((by kernel_rfl))
theorem cOk : D364 r n xT (xs x0 0 (K0 (aZ r n))) (K0 (aZ r n)) = (K7 (aVe r n) 2 3 4 7 8 27 28) :=
 (by kernel_rfl : D364 r n xT (xs x0 0 (K0 (aZ r n))) (K0 (aZ r n)) = (fun (env : bA) (h : Hp)=>aT (opr env (cC xT)) (D364 r n cDh (xs x0 0 (K0 (aZ r n))) (K0 (aZ r n)) env h) (D364 r n aAm (xs x0 0 (K0 (aZ r n))) (K0 (aZ r n)) env h))).trans (by rw [cOa r n]; kernel_rfl)
theorem bLi : D364 r n aEq (xs x0 0 (K0 (aZ r n))) (K0 (aZ r n)) = D364 r n aXv (xs x0 0 (K0 (aZ r n))) (K7 (aVe r n) 2 3 4 7 8 27 28) :=
 congrArg (fun k=>D364 r n aXv (xs x0 0 (K0 (aZ r n))) k) (cOk r n)
theorem cDe : D364 r n aTp x0 (K0 (aZ r n)) = (K6 (aQu r n) 2 3 4 7 8 27) :=
 (by kernel_rfl : D364 r n aTp x0 (K0 (aZ r n)) = D364 r n aEq (xs x0 0 (K0 (aZ r n))) (K0 (aZ r n))).trans
 ((bLi r n).trans
 ((by kernel_rfl)))
theorem bMp : D364 r n aFp x0 r364 = D364 r n zG x0 (K0 (aZ r n)) :=
 congrArg (fun k=>D364 r n zG x0 k) (cCf r n)
theorem bVd : D364 r n zG x0 (K0 (aZ r n)) = D364 r n bCf x0 (K6 (aQu r n) 2 3 4 7 8 27) :=
 congrArg (fun k=>D364 r n bCf x0 k) (cDe r n)
theorem cQf : D364 r n aFp x0 r364 = (K5 (aUf r n) 2 3 4 7 8) :=
 (bMp r n).trans
 ((bVd r n).trans
 ((by kernel_rfl)))
theorem bLv : D364 r n aJp x0 r364 = D364 r n aYs x0 (K5 (aUf r n) 2 3 4 7 8) :=
 congrArg (fun k=>D364 r n aYs x0 k) (cQf r n)
theorem cGm : D364 r n aJp x0 r364 = (K4 (aRk r n) 2 3 4 7) :=
 (bLv r n).trans
 ((by kernel_rfl))
theorem bNn : D364 r n aKl x0 r364 = D364 r n aWj x0 (K4 (aRk r n) 2 3 4 7) :=
 congrArg (fun k=>D364 r n aWj x0 k) (cGm r n)
theorem cCj : D364 r n aKl x0 r364 = (K3 (zT r n) 2 3 4) :=
 (bNn r n).trans
 ((by kernel_rfl))
theorem cDc : D364 r n c364 x0 r364 = D364 r n aKv x0 (K3 (zT r n) 2 3 4) :=
 congrArg (fun k=>D364 r n aKv x0 k) (cCj r n)
theorem cCz (q0 : dP) : D364 r n aKv x0 (K3 q0 2 3 4) = fun (env : bA) (h : Hp) =>
 bnd (dA (env 0) h) fun v1 h1 =>
 bnd (dA (env 1) h1) fun v2 h2 =>
  q0 (env 2) v1 v2 h2:=by kernel_rfl
theorem bPy : (fun (env : bA) (h : Hp) =>
 bnd (dA (env 0) h) fun v1 h1 =>
 bnd (dA (env 1) h1) fun v2 h2 =>
  zT r n (env 2) v1 v2 h2) = (K3 (s364 r n) 0 1 2):=by kernel_rfl
theorem dHx : D364 r n c364 x0 r364 = (K3 (s364 r n) 0 1 2) :=
 (cDc r n).trans
 ((cCz r n (zT r n)).trans (bPy r n))
theorem cUr : aF CF r n 364 args h = s364 r n (aV args 0) (aV args 1) (aV args 2) h :=
 (by kernel_rfl : aF CF r n 364 args h = D364 r n c364 x0 r364 (aJ args) h).trans ((congrFun (congrFun (dHx r n) (aJ args)) h).trans (by kernel_rfl))
end Go.Dd

end
