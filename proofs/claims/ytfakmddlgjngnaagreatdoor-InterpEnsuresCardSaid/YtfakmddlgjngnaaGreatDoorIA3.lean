/- A part of the proof: Q7 Q8 Q9 Q10 Q11 Q12 Q13 Q14 Q15 Q16 Q17 Qt HK: each text has a comment of its own. -/
import Derived.Test.YtfakmddlgjngnaaGreatDoorIA2
set_option linter.unusedVariables false
set_option linter.unusedSimpArgs false
set_option linter.constructorNameAsVariable false
set_option maxRecDepth 100000
noncomputable section
namespace Go.Dd
open Go.Proofs
variable (r : RT) (n : Nat) (args : List DV) (h : Hp)
def s149 (r : RT) (n : Nat) (x0 x1 : DV) (h0 : Hp) : aH :=
 fL 1 x0 h0 fun v1 h1 =>
 bnd (r 93 [v1] h1) fun v2 h2 =>
  fL 0 v2 h2 fun v3 h3 =>
 bnd (r 151 [x0,v3,(aE 4)] h3) fun v4 h4 =>
 bnd (r 151 [x0,v4,x1] h4) fun v5 h5 =>
 some (v5,h5)
theorem eGt : aI CF r n 149 args h = s149 r n (bI args 0) (bI args 1) h :=
 by kernel_rfl
def s150 (r : RT) (n : Nat) (x0 x1 x2 : DV) (h0 : Hp) : aH :=
 bnd (r 220 [x0,x1,x2] h0) fun v1 h1 =>
 bnd (aF 0 v1 h1) fun v2 h2 =>
 bnd (aF 1 v1 h2) fun v3 h3 =>
 bnd (aF 2 v1 h3) fun v4 h4 =>
 bnd (eQ .not v4 h4) fun v5 h5 =>
 aR v5 (
 some ((aE 0),h5)) (
 bnd (aC .eql v2 (aE 0) h5) fun v6 h6 =>
 aR v6 (
   fL 1 x0 h6 fun v7 h7 =>
 bnd (aG 10 v7 x1 h7) fun v8 h8 =>
      fM 5 v8 h8 fun v9 h9 =>
 bnd (aG 1 v9 v3 h9) fun v10 h10 =>
 bnd (aA v10 h10) fun v11 h11 =>
 some (v11,h11)) (
   fL 0 x0 h6 fun v12 h12 =>
 bnd (r 41 [v12] h12) fun v13 h13 =>
 bnd (bTq [v13,v2,v3] h13) fun v14 h14 =>
 bnd (aF 0 v14 h14) fun v15 h15 =>
 bnd (aF 1 v14 h15) fun v16 h16 =>
 some (v15,h16)))
theorem eHb : aI CF r n 150 args h = s150 r n (bI args 0) (bI args 1) (bI args 2) h :=
 by kernel_rfl
def s151 (r : RT) (n : Nat) (x0 x1 x2 : DV) (h0 : Hp) : aH :=
 fL 0 x0 h0 fun v1 h1 =>
 bnd (r 41 [v1] h1) fun v2 h2 =>
 bnd (mR [v2,x1] h2) fun v3 h3 =>
 bnd (aC .neq v3 (aE 0) h3) fun v4 h4 =>
 aR v4 (
 some ((aE 0),h4)) (
  fL 0 x0 h4 fun v5 h5 =>
 bnd (r 41 [v5] h5) fun v6 h6 =>
 bnd (bTq [v6,x1,x2] h6) fun v7 h7 =>
 bnd (aF 0 v7 h7) fun v8 h8 =>
 bnd (aF 1 v7 h8) fun v9 h9 =>
 some (v8,h9))
theorem dXv : aI CF r n 151 args h = s151 r n (bI args 0) (bI args 1) (bI args 2) h :=
 by kernel_rfl
def s152 (r : RT) (n : Nat) (x0 x1 : DV) (h0 : Hp) : aH :=
 fL 1 x0 h0 fun v1 h1 =>
 bnd (r 93 [v1] h1) fun v2 h2 =>
  fL 6 v2 h2 fun v3 h3 =>
 bnd (aS [(aE 0)] 1 [(0,1,x1)] h3) fun v4 h4 =>
 bnd (bH 1 8 v3 v4 h4) fun v5 h5 =>
 bnd (aV v2 h5) fun v6 h6 =>
 bnd (aB 6 v6 h6) fun v7 h7 =>
 bnd (aJ 1 v7 v5 h7) fun _ h8 =>
 some (.t [],h8)
theorem eGa : aI CF r n 152 args h = s152 r n (bI args 0) (bI args 1) h :=
 by kernel_rfl
def s153 (r : RT) (n : Nat) (x0 x1 x2 x3 : DV) (h0 : Hp) : aH :=
 bnd (r 220 [x0,x1,x2] h0) fun v1 h1 =>
 bnd (aF 0 v1 h1) fun v2 h2 =>
 bnd (aF 1 v1 h2) fun v3 h3 =>
 bnd (aF 2 v1 h3) fun v4 h4 =>
 bnd (eQ .not v4 h4) fun v5 h5 =>
 bnd (gD v5 false (some (x0,h5)) h5) fun v6 h6 =>
 bnd (gD v5 false (aV v6 h6) h6) fun v7 h7 =>
 bnd (gD v5 false (aB 0 v7 h7) h7) fun v8 h8 =>
 bnd (gD v5 false (aA v8 h8) h8) fun v9 h9 =>
 bnd (gD v5 false (r 41 [v9] h9) h9) fun v10 h10 =>
 bnd (gD v5 false (some (x3,h10)) h10) fun v11 h11 =>
 bnd (gD v5 false (aWf [v10,v11] h11) h11) fun v12 h12 =>
 bnd (gD v5 false (eQ .not v12 h12) h12) fun v13 h13 =>
 bnd (aN v5 (.b true) v13 h13) fun v14 h14 =>
 aR v14 (
 some ((.b false),h14)) (
 bnd (aC .eql v2 (aE 0) h14) fun v15 h15 =>
 aR v15 (
   fL 1 x0 h15 fun v16 h16 =>
 bnd (aG 10 v16 x1 h16) fun v17 h17 =>
      fM 5 v17 h17 fun v18 h18 =>
 bnd (aG 1 v18 v3 h18) fun v19 h19 =>
 bnd (aJ 1 v19 x3 h19) fun _ h20 =>
 some ((.b true),h20)) (
   fL 0 x0 h15 fun v21 h21 =>
 bnd (r 41 [v21] h21) fun v22 h22 =>
 bnd (oB [v22,v2,v3,x3] h22) fun v23 h23 =>
 bnd (aC .eql v23 (aE 0) h23) fun v24 h24 =>
 some (v24,h24)))
theorem dUe : aI CF r n 153 args h = s153 r n (bI args 0) (bI args 1) (bI args 2) (bI args 3) h :=
 by kernel_rfl
def s154 (r : RT) (n : Nat) (x0 : DV) (h0 : Hp) : aH :=
 bnd (r 155 [x0] h0) fun v1 h1 =>
 bnd (r 152 [x0,v1] h1) fun v2 h2 =>
 some (v1,h2)
theorem eEt : aI CF r n 154 args h = s154 r n (bI args 0) h :=
 by kernel_rfl
def s155 (r : RT) (n : Nat) (x0 : DV) (h0 : Hp) : aH :=
 bnd (r 221 [x0,(aE 1)] h0) fun v1 h1 =>
 bnd (bM v1 h1) fun v2 h2 =>
 bnd (aC .eql v2 (aE 0) h2) fun v3 h3 =>
 aR v3 (
 some ((aE 0),h3)) (
 bnd (aG 1 v1 (aE 0) h3) fun v4 h4 =>
 bnd (aA v4 h4) fun v5 h5 =>
 some (v5,h5))
theorem dWz : aI CF r n 155 args h = s155 r n (bI args 0) h :=
 by kernel_rfl
def s156 (r : RT) (n : Nat) (x0 : DV) (h0 : Hp) : aH :=
 bnd (bZ x0 h0) fun v1 h1 =>
 bnd (aB 0 v1 h1) fun v2 h2 =>
 bnd (aA v2 h2) fun v3 h3 =>
 bnd (r 222 [v3] h3) fun v4 h4 =>
 bnd (eQ .not v4 h4) fun v5 h5 =>
 aR v5 (
 some ((.i .i64 (Int.negSucc 0)),h5)) (
 bnd (aB 1 v1 h5) fun v6 h6 =>
 bnd (aA v6 h6) fun v7 h7 =>
 bnd (aB 2 v1 h7) fun v8 h8 =>
 bnd (aA v8 h8) fun v9 h9 =>
 bnd (dA .shl v9 (.i .u64 (Int.ofNat 8)) h9) fun v10 h10 =>
 bnd (aC .add v7 v10 h10) fun v11 h11 =>
 some (v11,h11))
theorem cJj : aI CF r n 156 args h = s156 r n (bI args 0) h :=
 by kernel_rfl
def fE (r : RT) (n : Nat) (x0 x9 : DV) (h0 : Hp) : aH :=
 bnd (r 152 [x0,x9] h0) fun v1 h1 =>
 some ((aE 0),h1)
def bNp (r : RT) (n : Nat) (kk9 : cN) (x0 x9 x72 x73 x74 : DV) (h0 : Hp) : aH :=
 bnd (aC .lss x74 x73 h0) fun v1 h1 =>
 aR v1 (
 bnd (aG 1 x72 x74 h1) fun v2 h2 =>
 bnd (aA v2 h2) fun v3 h3 =>
      fL 0 x0 h3 fun v4 h4 =>
 bnd (r 41 [v4] h4) fun v5 h5 =>
 bnd (oB [v5,x9,x74,v3] h5) fun v6 h6 =>
 bnd (aC .add x74 (aE 1) h6) fun v7 h7 =>
      kk9 x0 x9 x72 x73 v7 h7) (
      fE r n x0 x9 h1)
def yF (r : RT) (n : Nat) (m : Nat) : cN :=
 Nat.rec (motive:=fun _=>cN) (fun _ _ _ _ _ _=>none) (fun _ ih=>bNp r n ih) m
def cNv (r : RT) (n : Nat) : cN:=yF r n n
def aAa (r : RT) (n : Nat) (x0 x9 x72 x73 x74 : DV) (h0 : Hp) : aH :=
 cNv r n x0 x9 x72 x73 x74 h0
def aIo (r : RT) (n : Nat) (x0 x3 x5 x6 x9 : DV) (h0 : Hp) : aH :=
 bnd (aV x5 (resv 1 h0)) fun v1 h1 =>
  fM 3 v1 h1 fun v2 h2 =>
 bnd (aC .add v2 (aE 1) h2) fun v3 h3 =>
 bnd (r 223 [v3] h3) fun v4 h4 =>
 bnd (aB 2 x3 h4) fun v5 h5 =>
 bnd (aA v5 h5) fun v6 h6 =>
 cnd (aX (aA v5 (resv 1 h0)) v6 && true) (
 bnd (r 223 [v6] h6) fun v7 h7 =>
 bnd (aB 1 x3 h7) fun v8 h8 =>
 bnd (aA v8 h8) fun v9 h9 =>
 cnd (aX (aA v8 h4) v9 && (aX (aA v8 (resv 1 h0)) v9 && true)) (
 bnd (r 223 [v9] h9) fun v10 h10 =>
 bnd (bL (bX 0 h0.next) [(aE 0),(aE 0),(aE 0),(aE 0)] 4 [(0,1,x6),(1,1,v4),(2,1,v7),(3,1,v10)] h10) fun v11 h11 =>
 bnd (bM v11 h11) fun v12 h12 =>
  aAa r n x0 x9 v11 v12 (aE 0) h12))
def aYq (r : RT) (n : Nat) (x0 x3 x5 x6 x9 x10 : DV) (h0 : Hp) : aH :=
 bnd (aC .neq x10 (aE 0) h0) fun v1 h1 =>
 aR v1 (
 some (x10,h1)) (
  aIo r n x0 x3 x5 x6 x9 h1)
def aJl (r : RT) (n : Nat) (x0 x3 x5 x6 : DV) (h0 : Hp) : aH :=
 fL 0 x0 h0 fun v1 h1 =>
 bnd (r 41 [v1] h1) fun v2 h2 =>
 bnd (aV x0 h2) fun v3 h3 =>
 bnd (aB 0 v3 h3) fun v4 h4 =>
 bnd (aA v4 h4) fun v5 h5 =>
 cnd (aX (aA v4 h0) v5 && true) (
 bnd (r 26 [v5,(aE 12)] h5) fun v6 h6 =>
 bnd (nF [v2,v6,(aE 0),(aE 4)] h6) fun v7 h7 =>
 bnd (aF 0 v7 h7) fun v8 h8 =>
 bnd (aF 1 v7 h8) fun v9 h9 =>
  aYq r n x0 x3 x5 x6 v8 v9 h9)
def bBt (r : RT) (n : Nat) (x0 x3 x5 x6 : DV) (h0 : Hp) : aH :=
 bnd (aC .eql x6 (aE 0) h0) fun v1 h1 =>
 aR v1 (
 bnd (aV x0 h1) fun v2 h2 =>
 bnd (aB 1 v2 h2) fun v3 h3 =>
 bnd (aA v3 h3) fun v4 h4 =>
  fL 1 x0 h4 fun v5 h5 =>
 bnd (r 39 [v5] h5) fun v6 h6 =>
 cnd (aX (aA v3 h6) v4 && true) (
 bnd (aC .sub v6 (aE 1) h6) fun v7 h7 =>
 bnd (r 148 [v4,v7] h7) fun v8 h8 =>
 bnd (aF 0 v8 h8) fun v9 h9 =>
 bnd (aF 1 v8 h9) fun v10 h10 =>
 bnd (aC .neq v10 (aE 0) h10) fun v11 h11 =>
 aR v11 (
 some (v10,h11)) (
   aJl r n x0 x3 x5 v9 h11))) (
  aJl r n x0 x3 x5 x6 h1)
def bEm (r : RT) (n : Nat) (x0 x3 x5 : DV) (h0 : Hp) : aH :=
 fL 2 x5 h0 fun v1 h1 =>
 bBt r n x0 x3 x5 v1 h1
def aDv (r : RT) (n : Nat) (x0 x3 : DV) (h0 : Hp) : aH :=
 fL 1 x0 h0 fun v1 h1 =>
 bnd (r 93 [v1] h1) fun v2 h2 =>
  bEm r n x0 x3 v2 h2
def s158 (r : RT) (n : Nat) (x0 x1 : DV) (h0 : Hp) : aH :=
 bnd (bZ x1 h0) fun v1 h1 =>
  aDv r n x0 v1 h1
abbrev c158 : Code:=cf Tryz.f158
abbrev aIk : Code:=cR c158
abbrev aNu : Code:=cR aIk
abbrev aQa : Code:=cR aNu
abbrev aIg : Code:=cR aQa
abbrev aLd : Code:=cR aIg
abbrev aNm : Code:=cR aLd
abbrev eDw : Code:=cR aNm
abbrev aBc : Code:=cL aNm
abbrev bAp : Code:=cR aBc
abbrev xY : Code:=cL bAp
abbrev mJ : Code:=cL xY
abbrev aLu : Code:=cL aBc
abbrev bGv : Code:=cL aLd
abbrev bJa : Code:=cL aIg
abbrev bNb : Code:=cL aQa
abbrev bQg : Code:=cL aNu
abbrev bEz : Code:=cL aIk
abbrev aIc : Code:=cL c158
abbrev r158 : K:=bE CF Tryz.f158
def D158 (r : RT) (n : Nat) (c : Code) (X : Nat → K) (k : K) : K:=aW CF r 92 n c X r158 k
theorem dDa : D158 r n eDw x0 r158 = (K2 (fE r n) 0 9) :=
 (by kernel_rfl)
theorem cIf (kk9 : cN) : D158 r n mJ (xs x0 0 (K2 (fE r n) 0 9)) (K5 kk9 0 9 72 73 74) = (K5 (bNp r n kk9) 0 9 72 73 74) :=
 (by kernel_rfl)
theorem cRj (m : Nat) : aM (fun kk=>D158 r n mJ (xs x0 0 (K2 (fE r n) 0 9)) kk) m = (K5 (yF r n m) 0 9 72 73 74):=by
 induction m with
 | zero=>exact (by kernel_rfl : aM (fun kk=>D158 r n mJ (xs x0 0 (K2 (fE r n) 0 9)) kk) 0 = (K5 (yF r n 0) 0 9 72 73 74))
 | succ m ih =>
  refine (by kernel_rfl : aM (fun kk=>D158 r n mJ (xs x0 0 (K2 (fE r n) 0 9)) kk) (m + 1) = D158 r n mJ (xs x0 0 (K2 (fE r n) 0 9)) (aM (fun kk=>D158 r n mJ (xs x0 0 (K2 (fE r n) 0 9)) kk) m)).trans ?_
  rw [ih]
  exact (cIf r n (yF r n m)).trans (by kernel_rfl)
theorem dCb : D158 r n xY (xs x0 0 (K2 (fE r n) 0 9)) (K2 (fE r n) 0 9) = (K5 (cNv r n) 0 9 72 73 74) :=
 (by kernel_rfl : D158 r n xY (xs x0 0 (K2 (fE r n) 0 9)) (K2 (fE r n) 0 9) = aM (fun kk=>D158 r n mJ (xs x0 0 (K2 (fE r n) 0 9)) kk) n).trans ((cRj r n n).trans (by kernel_rfl))
theorem dFj : D158 r n bAp x0 (K2 (fE r n) 0 9) = (K5 (aAa r n) 0 9 72 73 74) :=
 (by kernel_rfl : D158 r n bAp x0 (K2 (fE r n) 0 9) = D158 r n xY (xs x0 0 (K2 (fE r n) 0 9)) (K2 (fE r n) 0 9)).trans
 ((dCb r n).trans (by kernel_rfl))
theorem cHl : D158 r n aNm x0 r158 = D158 r n aBc x0 (K2 (fE r n) 0 9) :=
 congrArg (fun k=>D158 r n aBc x0 k) (dDa r n)
theorem cGy : D158 r n aBc x0 (K2 (fE r n) 0 9) = D158 r n aLu x0 (K5 (aAa r n) 0 9 72 73 74) :=
 congrArg (fun k=>D158 r n aLu x0 k) (dFj r n)
theorem bZi (q0 : cN) : D158 r n aLu x0 (K5 q0 0 9 72 73 74) = fun (env : aZ) (h : Hp) =>
 bnd (aV (env 5) (resv 1 h)) fun v1 h1 =>
 bnd (aB 3 v1 h1) fun v2 h2 =>
 bnd (aA v2 h2) fun v3 h3 =>
 bnd (aC .add v3 (aE 1) h3) fun v4 h4 =>
 bnd (r 223 [v4] h4) fun v5 h5 =>
 bnd (aB 2 (env 3) h5) fun v6 h6 =>
 bnd (aA v6 h6) fun v7 h7 =>
 cnd (aX (aA v6 (resv 1 h)) v7 && true) (
 bnd (r 223 [v7] h7) fun v8 h8 =>
 bnd (aB 1 (env 3) h8) fun v9 h9 =>
 bnd (aA v9 h9) fun v10 h10 =>
 cnd (aX (aA v9 h5) v10 && (aX (aA v9 (resv 1 h)) v10 && true)) (
 bnd (r 223 [v10] h10) fun v11 h11 =>
 bnd (bL (bX 0 h.next) [(aE 0),(aE 0),(aE 0),(aE 0)] 4 [(0,1,(env 6)),(1,1,v5),(2,1,v8),(3,1,v11)] h11) fun v12 h12 =>
 bnd (bM v12 h12) fun v13 h13 =>
  q0 (env 0) (env 9) v12 v13 (aE 0) h13)):=by kernel_rfl
theorem bVs : (fun (env : aZ) (h : Hp) =>
 bnd (aV (env 5) (resv 1 h)) fun v1 h1 =>
 bnd (aB 3 v1 h1) fun v2 h2 =>
 bnd (aA v2 h2) fun v3 h3 =>
 bnd (aC .add v3 (aE 1) h3) fun v4 h4 =>
 bnd (r 223 [v4] h4) fun v5 h5 =>
 bnd (aB 2 (env 3) h5) fun v6 h6 =>
 bnd (aA v6 h6) fun v7 h7 =>
 cnd (aX (aA v6 (resv 1 h)) v7 && true) (
 bnd (r 223 [v7] h7) fun v8 h8 =>
 bnd (aB 1 (env 3) h8) fun v9 h9 =>
 bnd (aA v9 h9) fun v10 h10 =>
 cnd (aX (aA v9 h5) v10 && (aX (aA v9 (resv 1 h)) v10 && true)) (
 bnd (r 223 [v10] h10) fun v11 h11 =>
 bnd (bL (bX 0 h.next) [(aE 0),(aE 0),(aE 0),(aE 0)] 4 [(0,1,(env 6)),(1,1,v5),(2,1,v8),(3,1,v11)] h11) fun v12 h12 =>
 bnd (bM v12 h12) fun v13 h13 =>
  aAa r n (env 0) (env 9) v12 v13 (aE 0) h13))) = (K5 (aIo r n) 0 3 5 6 9):=by kernel_rfl
theorem dHo : D158 r n aNm x0 r158 = (K5 (aIo r n) 0 3 5 6 9) :=
 (cHl r n).trans
 ((cGy r n).trans
 ((bZi r n (aAa r n)).trans (bVs r n)))
theorem cAb : D158 r n aLd x0 r158 = D158 r n bGv x0 (K5 (aIo r n) 0 3 5 6 9) :=
 congrArg (fun k=>D158 r n bGv x0 k) (dHo r n)
theorem dAi : D158 r n aLd x0 r158 = (K6 (aYq r n) 0 3 5 6 9 10) :=
 (cAb r n).trans
 ((by kernel_rfl))
theorem cFl : D158 r n aIg x0 r158 = D158 r n bJa x0 (K6 (aYq r n) 0 3 5 6 9 10) :=
 congrArg (fun k=>D158 r n bJa x0 k) (dAi r n)
theorem dAh : D158 r n aIg x0 r158 = (K4 (aJl r n) 0 3 5 6) :=
 (cFl r n).trans
 ((by kernel_rfl))
theorem cSy : D158 r n aQa x0 r158 = D158 r n bNb x0 (K4 (aJl r n) 0 3 5 6) :=
 congrArg (fun k=>D158 r n bNb x0 k) (dAh r n)
theorem cXk : D158 r n aQa x0 r158 = (K4 (bBt r n) 0 3 5 6) :=
 (cSy r n).trans
 ((by kernel_rfl))
theorem cIh : D158 r n aNu x0 r158 = D158 r n bQg x0 (K4 (bBt r n) 0 3 5 6) :=
 congrArg (fun k=>D158 r n bQg x0 k) (cXk r n)
theorem dBo : D158 r n aNu x0 r158 = (K3 (bEm r n) 0 3 5) :=
 (cIh r n).trans
 ((by kernel_rfl))
theorem cLi : D158 r n aIk x0 r158 = D158 r n bEz x0 (K3 (bEm r n) 0 3 5) :=
 congrArg (fun k=>D158 r n bEz x0 k) (dBo r n)
theorem cYv : D158 r n aIk x0 r158 = (K2 (aDv r n) 0 3) :=
 (cLi r n).trans
 ((by kernel_rfl))
theorem eBl : D158 r n c158 x0 r158 = D158 r n aIc x0 (K2 (aDv r n) 0 3) :=
 congrArg (fun k=>D158 r n aIc x0 k) (cYv r n)
theorem dFk (q0 : gP) : D158 r n aIc x0 (K2 q0 0 3) = fun (env : aZ) (h : Hp) =>
 bnd (bZ (env 1) h) fun v1 h1 =>
  q0 (env 0) v1 h1:=by kernel_rfl
theorem cXf : (fun (env : aZ) (h : Hp) =>
 bnd (bZ (env 1) h) fun v1 h1 =>
  aDv r n (env 0) v1 h1) = (K2 (s158 r n) 0 1):=by kernel_rfl
theorem eIj : D158 r n c158 x0 r158 = (K2 (s158 r n) 0 1) :=
 (eBl r n).trans
 ((dFk r n (aDv r n)).trans (cXf r n))
theorem eGf : aI CF r n 158 args h = s158 r n (bI args 0) (bI args 1) h :=
 (by kernel_rfl : aI CF r n 158 args h = D158 r n c158 x0 r158 (aQ args) h).trans ((congrFun (congrFun (eIj r n) (aQ args)) h).trans (by kernel_rfl))
def s159 (r : RT) (n : Nat) (x0 x1 x2 x3 : DV) (h0 : Hp) : aH :=
 bnd (aV x0 (resv 1 h0)) fun v1 h1 =>
  fM 2 v1 h1 fun v2 h2 =>
  fL 0 x0 h2 fun v3 h3 =>
 bnd (r 224 [v2,v3,x3,x1] h3) fun v4 h4 =>
 bnd (nA (bX 0 h0.next) [(aE 0),(aE 0)] h4) fun v5 h5 =>
 bnd (aJ 2 v5 v4 h5) fun v6 h6 =>
  fM 0 v5 h6 fun v7 h7 =>
 bnd (aC .neq v7 (aE 0) h7) fun v8 h8 =>
 aR v8 (
  fM 0 v5 h8 fun v9 h9 =>
 bnd (r 225 [x0,v9,x2] h9) fun v10 h10 =>
 some (v10,h10)) (
  fL 0 x0 h8 fun v11 h11 =>
 bnd (r 28 [v11,(.s [100,111,101,115,78,111,116,85,110,100,101,114,115,116,97,110,100,58])] h11) fun v12 h12 =>
 bnd (aF 0 v12 h12) fun v13 h13 =>
 bnd (aF 1 v12 h13) fun v14 h14 =>
 bnd (aC .neq v14 (aE 0) h14) fun v15 h15 =>
 aR v15 (
 some (v14,h15)) (
   fL 2 x0 h15 fun v16 h16 =>
   fL 0 x0 h16 fun v17 h17 =>
 bnd (r 224 [v16,v17,x3,v13] h17) fun v18 h18 =>
 bnd (aJ 2 v5 v18 h18) fun v19 h19 =>
 bnd (aC .eql x1 v13 h19) fun v20 h20 =>
 bnd (gD v20 false (aB 0 v5 h20) h20) fun v21 h21 =>
 bnd (gD v20 false (aA v21 h21) h21) fun v22 h22 =>
 bnd (gD v20 false (aC .eql v22 (aE 0) h22) h22) fun v23 h23 =>
 bnd (aN v20 (.b true) v23 h23) fun v24 h24 =>
 aR v24 (
    fL 0 x0 h24 fun v25 h25 =>
 bnd (r 48 [v25,x1] h25) fun v26 h26 =>
 bnd (dX .add (.s [100,111,101,115,78,111,116,85,110,100,101,114,115,116,97,110,100,58,32]) v26 h26) fun v27 h27 =>
 bnd (r 92 [x0,(aE 23),v27] h27) fun v28 h28 =>
 some (v28,h28)) (
 bnd (aV x0 h24) fun v29 h29 =>
 bnd (aB 0 v29 h29) fun v30 h30 =>
 bnd (aA v30 h30) fun v31 h31 =>
 bnd (r 221 [x0,x2] h31) fun v32 h32 =>
 cnd (aX (aA v30 h32) v31 && true) (
 bnd (r 29 [v31,v32] h32) fun v33 h33 =>
 bnd (aF 0 v33 h33) fun v34 h34 =>
 bnd (aF 1 v33 h34) fun v35 h35 =>
 bnd (aC .neq v35 (aE 0) h35) fun v36 h36 =>
 aR v36 (
 some (v35,h36)) (
     fL 0 x0 h36 fun v37 h37 =>
 bnd (r 41 [v37] h37) fun v38 h38 =>
 bnd (aV x0 h38) fun v39 h39 =>
 bnd (aB 0 v39 h39) fun v40 h40 =>
 bnd (aA v40 h40) fun v41 h41 =>
 cnd (aX (aA v40 h36) v41 && true) (
 bnd (r 26 [v41,(aE 15)] h41) fun v42 h42 =>
 bnd (nF [v38,v42,(aE 0),(aE 2)] h42) fun v43 h43 =>
 bnd (aF 0 v43 h43) fun v44 h44 =>
 bnd (aF 1 v43 h44) fun v45 h45 =>
 bnd (aC .neq v45 (aE 0) h45) fun v46 h46 =>
 aR v46 (
 some (v45,h46)) (
      fL 0 x0 h46 fun v47 h47 =>
 bnd (r 41 [v47] h47) fun v48 h48 =>
 bnd (oB [v48, v44, (aE 0), x1] h48) fun v49 h49 =>
      fL 0 x0 h49 fun v50 h50 =>
 bnd (r 41 [v50] h50) fun v51 h51 =>
 bnd (oB [v51,v44,(aE 1),v34] h51) fun v52 h52 =>
 bnd (r 152 [x0, v44] h52) fun v53 h53 =>
      fM 0 v5 h53 fun v54 h54 =>
 bnd (r 225 [x0,v54,(aE 1)] h54) fun v55 h55 =>
 some (v55,h55))))))))
theorem eBj : aI CF r n 159 args h = s159 r n (bI args 0) (bI args 1) (bI args 2) (bI args 3) h :=
 by kernel_rfl
def s160 (r : RT) (n : Nat) (x0 x1 : DV) (h0 : Hp) : aH :=
 bnd (aV x0 h0) fun v1 h1 =>
 bnd (aB 0 v1 h1) fun v2 h2 =>
 bnd (aA v2 h2) fun v3 h3 =>
 bnd (isQ [v3,x1] h3) fun v4 h4 =>
 aR v4 (
 bnd (aV x0 h4) fun v5 h5 =>
 bnd (aB 0 v5 h5) fun v6 h6 =>
 bnd (aA v6 h6) fun v7 h7 =>
 bnd (qL [v7,x1] h7) fun v8 h8 =>
 some (v8,h8)) (
 bnd (nW [x1] h4) fun v9 h9 =>
 aR v9 (
 bnd (r 26 [x0,(aE 7)] h9) fun v10 h10 =>
 some (v10,h10)) (
 bnd (aC .eql x1 (aE 0) h9) fun v11 h11 =>
 aR v11 (
 bnd (r 26 [x0,(aE 2)] h11) fun v12 h12 =>
 some (v12,h12)) (
 bnd (aC .eql x1 (aE 2) h11) fun v13 h13 =>
 aR v13 (
 bnd (r 26 [x0,(aE 4)] h13) fun v14 h14 =>
 some (v14,h14)) (
 bnd (aC .eql x1 (aE 4) h13) fun v15 h15 =>
 aR v15 (
 bnd (r 26 [x0,(aE 5)] h15) fun v16 h16 =>
 some (v16,h16)) (
 some ((aE 0),h15))))))
theorem eBe : aI CF r n 160 args h = s160 r n (bI args 0) (bI args 1) h :=
 by kernel_rfl
def s161 (r : RT) (n : Nat) (x0 x1 : DV) (h0 : Hp) : aH :=
 fL 1 x0 h0 fun v1 h1 =>
 bnd (r 93 [v1] h1) fun v2 h2 =>
  fL 6 v2 h2 fun v3 h3 =>
 bnd (bM v3 h3) fun v4 h4 =>
 bnd (aC .geq x1 v4 h4) fun v5 h5 =>
 aR v5 (
 some ((aE 0),h5)) (
 bnd (bM v3 h5) fun v6 h6 =>
 bnd (aC .sub v6 (aE 1) h6) fun v7 h7 =>
 bnd (aC .sub v7 x1 h7) fun v8 h8 =>
 bnd (aG 1 v3 v8 h8) fun v9 h9 =>
 bnd (aA v9 h9) fun v10 h10 =>
 some (v10,h10))
theorem eHv : aI CF r n 161 args h = s161 r n (bI args 0) (bI args 1) h :=
 by kernel_rfl
def s162 (r : RT) (n : Nat) (x0 x1 : DV) (h0 : Hp) : aH :=
 fL 1 x0 h0 fun v1 h1 =>
 bnd (r 40 [v1] h1) fun v2 h2 =>
 bnd (aF 0 v2 h2) fun v3 h3 =>
 bnd (aF 1 v2 h3) fun v4 h4 =>
 bnd (bQ [(aE 0),(aE 0),(aE 0),(aE 0),(aE 0),.l0,.l0,(.b false),(aE 0),(aE 0)] h4) fun v5 h5 =>
 bnd (aJ 10 v5 v3 h5) fun _ h6 =>
 bnd (aB 7 v5 h6) fun v7 h7 =>
  fM 0 v7 h7 fun v8 h8 =>
 aR v8 (
 bnd (aB 7 v5 h8) fun v9 h9 =>
  fM 1 v9 h9 fun v10 h10 =>
 bnd (aB 7 v5 h10) fun v11 h11 =>
  fM 2 v11 h11 fun v12 h12 =>
 bnd (r 226 [x0,v10,v12] h12) fun v13 h13 =>
 some (v13,h13)) (
 bnd (r 152 [x0,x1] h8) fun v14 h14 =>
 some ((aE 0),h14))
theorem dVb : aI CF r n 162 args h = s162 r n (bI args 0) (bI args 1) h :=
 by kernel_rfl
def s163 (r : RT) (n : Nat) (x0 x1 : DV) (h0 : Hp) : aH :=
 fL 1 x0 h0 fun v1 h1 =>
 bnd (r 93 [v1] h1) fun v2 h2 =>
 bnd (aV v2 h2) fun v3 h3 =>
 bnd (aB 7 v3 h3) fun v4 h4 =>
 bnd (aK 3 v4 h4) fun v5 h5 =>
 bnd (bQ [(.b false),(aE 0),(aE 0)] h5) fun v6 h6 =>
 bnd (aJ 3 v6 v5 h6) fun _ h7 =>
  fL 2 v2 h7 fun v8 h8 =>
 bnd (aC .eql v8 (aE 0) h8) fun v9 h9 =>
 aR v9 (
  fM 0 v6 h9 fun v10 h10 =>
 aR v10 (
   fL 1 x0 h10 fun v11 h11 =>
 bnd (r 40 [v11] h11) fun v12 h12 =>
      fM 1 v6 h12 fun v13 h13 =>
      fM 2 v6 h13 fun v14 h14 =>
 bnd (r 226 [x0,v13,v14] h14) fun v15 h15 =>
 some (v15,h15)) (
   fL 1 x0 h10 fun v16 h16 =>
 bnd (r 39 [v16] h16) fun v17 h17 =>
 bnd (aC .sub v17 (aE 1) h17) fun v18 h18 =>
 bnd (r 226 [x0,v18,x1] h18) fun v19 h19 =>
 some (v19,h19))) (
  fL 2 v2 h9 fun v20 h20 =>
  fL 1 x0 h20 fun v21 h21 =>
 bnd (r 227 [v21,v20] h21) fun v22 h22 =>
 bnd (aC .geq v22 (aE 0) h22) fun v23 h23 =>
 aR v23 (
 bnd (r 226 [x0,v22,x1] h23) fun v24 h24 =>
 some (v24,h24)) (
   fL 1 x0 h23 fun v25 h25 =>
 bnd (r 40 [v25] h25) fun v26 h26 =>
      fM 0 v6 h26 fun v27 h27 =>
 aR v27 (
    fM 1 v6 h27 fun v28 h28 =>
    fM 2 v6 h28 fun v29 h29 =>
 bnd (r 226 [x0,v28,v29] h29) fun v30 h30 =>
 some (v30,h30)) (
 bnd (r 152 [x0,v20] h27) fun v31 h31 =>
 bnd (r 152 [x0,x1] h31) fun v32 h32 =>
 bnd (r 157 [x0,(.s [99,97,110,110,111,116,82,101,116,117,114,110,58]),(aE 1)] h32) fun v33 h33 =>
 some (v33,h33))))
theorem eAo : aI CF r n 163 args h = s163 r n (bI args 0) (bI args 1) h :=
 by kernel_rfl
def s164 (r : RT) (n : Nat) (x0 x1 : DV) (h0 : Hp) : aH :=
 bnd (nW [x1] h0) fun v1 h1 =>
 aR v1 (
 bnd (oA [x1] h1) fun v2 h2 =>
 some (.t [v2,(.b true)],h2)) (
  fL 0 x0 h1 fun v3 h3 =>
 bnd (isQ [v3,x1] h3) fun v4 h4 =>
 bnd (gD v4 true (some (x0,h4)) h4) fun v5 h5 =>
 bnd (gD v4 true (aV v5 h5) h5) fun v6 h6 =>
 bnd (gD v4 true (aB 0 v6 h6) h6) fun v7 h7 =>
 bnd (gD v4 true (aA v7 h7) h7) fun v8 h8 =>
 bnd (gD v4 true (some (x1,h8)) h8) fun v9 h9 =>
 bnd (gD v4 true (qL [v8,v9] h9) h9) fun v10 h10 =>
 bnd (gD v4 true (some (x0,h10)) h10) fun v11 h11 =>
 bnd (gD v4 true (r 26 [v11,(aE 8)] h11) h11) fun v12 h12 =>
 bnd (gD v4 true (aC .eql v10 v12 h12) h12) fun v13 h13 =>
 bnd (aN v4 v13 (.b false) h13) fun v14 h14 =>
 bnd (gD v14 true (some (x0,h14)) h14) fun v15 h15 =>
 bnd (gD v14 true (aV v15 h15) h15) fun v16 h16 =>
 bnd (gD v14 true (aB 0 v16 h16) h16) fun v17 h17 =>
 bnd (gD v14 true (aA v17 h17) h17) fun v18 h18 =>
 bnd (gD v14 true (some (x1,h18)) h18) fun v19 h19 =>
 bnd (gD v14 true (mR [v18,v19] h19) h19) fun v20 h20 =>
 bnd (gD v14 true (aC .eql v20 (aE 1) h20) h20) fun v21 h21 =>
 bnd (aN v14 v21 (.b false) h21) fun v22 h22 =>
 aR v22 (
 bnd (r 108 [x0,x1,(aE 0)] h22) fun v23 h23 =>
 some (.t [v23,(.b true)],h23)) (
 some (.t [(aE 0),(.b false)],h22)))
theorem dWp : aI CF r n 164 args h = s164 r n (bI args 0) (bI args 1) h :=
 by kernel_rfl
def s171 (r : RT) (n : Nat) (x0 x1 : DV) (h0 : Hp) : aH :=
 bnd (r 230 [x0,x1] h0) fun v1 h1 =>
 some (v1,h1)
theorem dYz : aI CF r n 171 args h = s171 r n (bI args 0) (bI args 1) h :=
 by kernel_rfl
end Go.Dd

namespace Go.Dd
open Go.Proofs
variable (r : RT) (n : Nat) (args : List DV) (h : Hp)
def fH (r : RT) (n : Nat) (h0 : Hp) : aH :=
 some ((aE 0),h0)
def aSm (r : RT) (n : Nat) (kk10 : jS) (x0 x5 x6 : DV) (h0 : Hp) : aH :=
 bnd (fS x5 h0) fun v1 h1 =>
 bnd (aC .lss x6 v1 h1) fun v2 h2 =>
 aR v2 (
 bnd (cT x5 x6 h2) fun v3 h3 =>
 bnd (aC .eql v3 x0 h3) fun v4 h4 =>
 aR v4 (
 some ((aE 4),h4)) (
 bnd (aC .add x6 (aE 1) h4) fun v5 h5 =>
    kk10 x0 x5 v5 h5)) (
      fH r n h2)
def sZ (r : RT) (n : Nat) (m : Nat) : jS :=
 Nat.rec (motive:=fun _=>jS) (fun _ _ _ _=>none) (fun _ ih=>aSm r n ih) m
def bOv (r : RT) (n : Nat) : jS:=sZ r n n
def bDb (r : RT) (n : Nat) (x0 x5 x6 : DV) (h0 : Hp) : aH :=
 bOv r n x0 x5 x6 h0
def bAo (r : RT) (n : Nat) (x0 x5 : DV) (h0 : Hp) : aH :=
 bDb r n x0 x5 (aE 0) h0
def fC (r : RT) (n : Nat) (x0 : DV) (h0 : Hp) : aH :=
 bAo r n x0 (.s [94,46,59,40,41,91,93,124]) h0
def aTa (r : RT) (n : Nat) (kk12 : jS) (x0 x3 x4 : DV) (h0 : Hp) : aH :=
 bnd (fS x3 h0) fun v1 h1 =>
 bnd (aC .lss x4 v1 h1) fun v2 h2 =>
 aR v2 (
 bnd (cT x3 x4 h2) fun v3 h3 =>
 bnd (aC .eql v3 x0 h3) fun v4 h4 =>
 aR v4 (
 some ((aE 3),h4)) (
 bnd (aC .add x4 (aE 1) h4) fun v5 h5 =>
    kk12 x0 x3 v5 h5)) (
      fC r n x0 h2)
def sB (r : RT) (n : Nat) (m : Nat) : jS :=
 Nat.rec (motive:=fun _=>jS) (fun _ _ _ _=>none) (fun _ ih=>aTa r n ih) m
def bFc (r : RT) (n : Nat) : jS:=sB r n n
def aNj (r : RT) (n : Nat) (x0 x3 x4 : DV) (h0 : Hp) : aH :=
 bFc r n x0 x3 x4 h0
def bCw (r : RT) (n : Nat) (x0 x3 : DV) (h0 : Hp) : aH :=
 aNj r n x0 x3 (aE 0) h0
def aWh (r : RT) (n : Nat) (x0 : DV) (h0 : Hp) : aH :=
 bCw r n x0 (.s [43,45,42,47,60,62,61,126,44,64,38,37]) h0
def aZj (r : RT) (n : Nat) (x0 : DV) (h0 : Hp) : aH :=
 bnd (aC .eql x0 (.i .u8 (Int.ofNat 9)) h0) fun v1 h1 =>
 bnd (gD v1 false (some (x0,h1)) h1) fun v2 h2 =>
 bnd (gD v1 false (aC .eql v2 (.i .u8 (Int.ofNat 10)) h2) h2) fun v3 h3 =>
 bnd (aN v1 (.b true) v3 h3) fun v4 h4 =>
 bnd (gD v4 false (some (x0,h4)) h4) fun v5 h5 =>
 bnd (gD v4 false (aC .eql v5 (.i .u8 (Int.ofNat 13)) h5) h5) fun v6 h6 =>
 bnd (aN v4 (.b true) v6 h6) fun v7 h7 =>
 bnd (gD v7 false (some (x0,h7)) h7) fun v8 h8 =>
 bnd (gD v7 false (aC .eql v8 (.i .u8 (Int.ofNat 32)) h8) h8) fun v9 h9 =>
 bnd (aN v7 (.b true) v9 h9) fun v10 h10 =>
 aR v10 (
 some ((aE 5),h10)) (
  aWh r n x0 h10)
def aYn (r : RT) (n : Nat) (x0 : DV) (h0 : Hp) : aH :=
 bnd (aC .geq x0 (.i .u8 (Int.ofNat 48)) h0) fun v1 h1 =>
 bnd (gD v1 true (some (x0,h1)) h1) fun v2 h2 =>
 bnd (gD v1 true (aC .leq v2 (.i .u8 (Int.ofNat 57)) h2) h2) fun v3 h3 =>
 bnd (aN v1 v3 (.b false) h3) fun v4 h4 =>
 aR v4 (
 some ((aE 2),h4)) (
  aZj r n x0 h4)
def aYh (r : RT) (n : Nat) (x0 : DV) (h0 : Hp) : aH :=
 bnd (aC .geq x0 (.i .u8 (Int.ofNat 97)) h0) fun v1 h1 =>
 bnd (gD v1 true (some (x0,h1)) h1) fun v2 h2 =>
 bnd (gD v1 true (aC .leq v2 (.i .u8 (Int.ofNat 122)) h2) h2) fun v3 h3 =>
 bnd (aN v1 v3 (.b false) h3) fun v4 h4 =>
 bnd (gD v4 false (some (x0,h4)) h4) fun v5 h5 =>
 bnd (gD v4 false (aC .geq v5 (.i .u8 (Int.ofNat 65)) h5) h5) fun v6 h6 =>
 bnd (gD v4 false (some (v6,h6)) h6) fun v7 h7 =>
 bnd (gD v7 true (some (x0,h7)) h7) fun v8 h8 =>
 bnd (gD v7 true (aC .leq v8 (.i .u8 (Int.ofNat 90)) h8) h8) fun v9 h9 =>
 bnd (gD v4 false (aN v7 v9 (.b false) h9) h9) fun v10 h10 =>
 bnd (aN v4 (.b true) v10 h10) fun v11 h11 =>
 aR v11 (
 some ((aE 1),h11)) (
  aYn r n x0 h11)
def s181 (r : RT) (n : Nat) (x0 : DV) (h0 : Hp) : aH :=
 aYh r n x0 h0
abbrev c181 : Code:=cf Tryz.f181
abbrev aPi : Code:=cR c181
abbrev aGw : Code:=cR aPi
abbrev aKn : Code:=cR aGw
abbrev aOq : Code:=cR aKn
abbrev aMt : Code:=cR aOq
abbrev aKm : Code:=cR aMt
abbrev aRk : Code:=cR aKm
abbrev eDi : Code:=cR aRk
abbrev zC : Code:=cL aRk
abbrev aOs : Code:=cR zC
abbrev yY : Code:=cL aOs
abbrev nB : Code:=cL yY
abbrev bJz : Code:=cL zC
abbrev bNh : Code:=cL aKm
abbrev tD : Code:=cL aMt
abbrev aOz : Code:=cR tD
abbrev xW : Code:=cL aOz
abbrev mI : Code:=cL xW
abbrev bKq : Code:=cL tD
abbrev bPk : Code:=cL aOq
abbrev bHx : Code:=cL aKn
abbrev bJf : Code:=cL aGw
abbrev bLi : Code:=cL aPi
abbrev bPh : Code:=cL c181
abbrev r181 : K:=bE CF Tryz.f181
def D181 (r : RT) (n : Nat) (c : Code) (X : Nat → K) (k : K) : K:=aW CF r 63 n c X r181 k
theorem dAl : D181 r n eDi x0 r181 = (K0 (fH r n)) :=
 (by kernel_rfl)
theorem bVq (kk10 : jS) : D181 r n nB (xs x0 2 (K0 (fH r n))) (K3 kk10 0 5 6) = (K3 (aSm r n kk10) 0 5 6) :=
 (by kernel_rfl)
theorem bTb (m : Nat) : aM (fun kk=>D181 r n nB (xs x0 2 (K0 (fH r n))) kk) m = (K3 (sZ r n m) 0 5 6):=by
 induction m with
 | zero=>exact (by kernel_rfl : aM (fun kk=>D181 r n nB (xs x0 2 (K0 (fH r n))) kk) 0 = (K3 (sZ r n 0) 0 5 6))
 | succ m ih =>
  refine (by kernel_rfl : aM (fun kk=>D181 r n nB (xs x0 2 (K0 (fH r n))) kk) (m + 1) = D181 r n nB (xs x0 2 (K0 (fH r n))) (aM (fun kk=>D181 r n nB (xs x0 2 (K0 (fH r n))) kk) m)).trans ?_
  rw [ih]
  exact (bVq r n (sZ r n m)).trans (by kernel_rfl)
theorem cAx : D181 r n yY (xs x0 2 (K0 (fH r n))) (K0 (fH r n)) = (K3 (bOv r n) 0 5 6) :=
 (by kernel_rfl : D181 r n yY (xs x0 2 (K0 (fH r n))) (K0 (fH r n)) = aM (fun kk=>D181 r n nB (xs x0 2 (K0 (fH r n))) kk) n).trans ((bTb r n n).trans (by kernel_rfl))
theorem dMz : D181 r n aOs x0 (K0 (fH r n)) = (K3 (bDb r n) 0 5 6) :=
 (by kernel_rfl : D181 r n aOs x0 (K0 (fH r n)) = D181 r n yY (xs x0 2 (K0 (fH r n))) (K0 (fH r n))).trans
 ((cAx r n).trans (by kernel_rfl))
theorem bWw : D181 r n aRk x0 r181 = D181 r n zC x0 (K0 (fH r n)) :=
 congrArg (fun k=>D181 r n zC x0 k) (dAl r n)
theorem cBh : D181 r n zC x0 (K0 (fH r n)) = D181 r n bJz x0 (K3 (bDb r n) 0 5 6) :=
 congrArg (fun k=>D181 r n bJz x0 k) (dMz r n)
theorem dJt : D181 r n aRk x0 r181 = (K2 (bAo r n) 0 5) :=
 (bWw r n).trans
 ((cBh r n).trans
 ((by kernel_rfl)))
theorem bYl : D181 r n aKm x0 r181 = D181 r n bNh x0 (K2 (bAo r n) 0 5) :=
 congrArg (fun k=>D181 r n bNh x0 k) (dJt r n)
theorem cZo : D181 r n aKm x0 r181 = (K1 (fC r n) 0) :=
 (bYl r n).trans
 ((by kernel_rfl))
theorem bRt (kk12 : jS) : D181 r n mI (xs x0 0 (K1 (fC r n) 0)) (K3 kk12 0 3 4) = (K3 (aTa r n kk12) 0 3 4) :=
 (by kernel_rfl)
theorem bRc (m : Nat) : aM (fun kk=>D181 r n mI (xs x0 0 (K1 (fC r n) 0)) kk) m = (K3 (sB r n m) 0 3 4):=by
 induction m with
 | zero=>exact (by kernel_rfl : aM (fun kk=>D181 r n mI (xs x0 0 (K1 (fC r n) 0)) kk) 0 = (K3 (sB r n 0) 0 3 4))
 | succ m ih =>
  refine (by kernel_rfl : aM (fun kk=>D181 r n mI (xs x0 0 (K1 (fC r n) 0)) kk) (m + 1) = D181 r n mI (xs x0 0 (K1 (fC r n) 0)) (aM (fun kk=>D181 r n mI (xs x0 0 (K1 (fC r n) 0)) kk) m)).trans ?_
  rw [ih]
  exact (bRt r n (sB r n m)).trans (by kernel_rfl)
theorem cCv : D181 r n xW (xs x0 0 (K1 (fC r n) 0)) (K1 (fC r n) 0) = (K3 (bFc r n) 0 3 4) :=
 (by kernel_rfl : D181 r n xW (xs x0 0 (K1 (fC r n) 0)) (K1 (fC r n) 0) = aM (fun kk=>D181 r n mI (xs x0 0 (K1 (fC r n) 0)) kk) n).trans ((bRc r n n).trans (by kernel_rfl))
theorem cKy : D181 r n aOz x0 (K1 (fC r n) 0) = (K3 (aNj r n) 0 3 4) :=
 (by kernel_rfl : D181 r n aOz x0 (K1 (fC r n) 0) = D181 r n xW (xs x0 0 (K1 (fC r n) 0)) (K1 (fC r n) 0)).trans
 ((cCv r n).trans (by kernel_rfl))
theorem cOg : D181 r n aMt x0 r181 = D181 r n tD x0 (K1 (fC r n) 0) :=
 congrArg (fun k=>D181 r n tD x0 k) (cZo r n)
theorem cTb : D181 r n tD x0 (K1 (fC r n) 0) = D181 r n bKq x0 (K3 (aNj r n) 0 3 4) :=
 congrArg (fun k=>D181 r n bKq x0 k) (cKy r n)
theorem dJo : D181 r n aMt x0 r181 = (K2 (bCw r n) 0 3) :=
 (cOg r n).trans
 ((cTb r n).trans
 ((by kernel_rfl)))
theorem cIe : D181 r n aOq x0 r181 = D181 r n bPk x0 (K2 (bCw r n) 0 3) :=
 congrArg (fun k=>D181 r n bPk x0 k) (dJo r n)
theorem dEa : D181 r n aOq x0 r181 = (K1 (aWh r n) 0) :=
 (cIe r n).trans
 ((by kernel_rfl))
theorem cBt : D181 r n aKn x0 r181 = D181 r n bHx x0 (K1 (aWh r n) 0) :=
 congrArg (fun k=>D181 r n bHx x0 k) (dEa r n)
theorem dJr : D181 r n aKn x0 r181 = (K1 (aZj r n) 0) :=
 (cBt r n).trans
 ((by kernel_rfl))
theorem cRo : D181 r n aGw x0 r181 = D181 r n bJf x0 (K1 (aZj r n) 0) :=
 congrArg (fun k=>D181 r n bJf x0 k) (dJr r n)
theorem dAg : D181 r n aGw x0 r181 = (K1 (aYn r n) 0) :=
 (cRo r n).trans
 ((by kernel_rfl))
theorem cCu : D181 r n aPi x0 r181 = D181 r n bLi x0 (K1 (aYn r n) 0) :=
 congrArg (fun k=>D181 r n bLi x0 k) (dAg r n)
theorem dGp : D181 r n aPi x0 r181 = (K1 (aYh r n) 0) :=
 (cCu r n).trans
 ((by kernel_rfl))
theorem dLx : D181 r n c181 x0 r181 = D181 r n bPh x0 (K1 (aYh r n) 0) :=
 congrArg (fun k=>D181 r n bPh x0 k) (dGp r n)
theorem eJq : D181 r n c181 x0 r181 = (K1 (s181 r n) 0) :=
 (dLx r n).trans
 ((by kernel_rfl))
theorem eAx : aI CF r n 181 args h = s181 r n (bI args 0) h :=
 (by kernel_rfl : aI CF r n 181 args h = D181 r n c181 x0 r181 (aQ args) h).trans ((congrFun (congrFun (eJq r n) (aQ args)) h).trans (by kernel_rfl))
def s182 (r : RT) (n : Nat) (x0 x1 : DV) (h0 : Hp) : aH :=
 bnd (fS x0 h0) fun v1 h1 =>
 bnd (aC .geq x1 v1 h1) fun v2 h2 =>
 aR v2 (
 some ((.i .i64 (Int.negSucc 0)),h2)) (
 bnd (cT x0 x1 h2) fun v3 h3 =>
 bnd (r 181 [v3] h3) fun v4 h4 =>
 some (v4,h4))
theorem dYv : aI CF r n 182 args h = s182 r n (bI args 0) (bI args 1) h :=
 by kernel_rfl
def gI (r : RT) (n : Nat) (x1 : DV) (h0 : Hp) : aH :=
 some (x1,h0)
def bKz (r : RT) (n : Nat) (kk3 : gP) (x0 x1 : DV) (h0 : Hp) : aH :=
 bnd (r 182 [x0,x1] h0) fun v1 h1 =>
 bnd (aC .eql v1 (aE 1) h1) fun v2 h2 =>
 bnd (gD v2 false (some (x0,h2)) h2) fun v3 h3 =>
 bnd (gD v2 false (some (x1,h3)) h3) fun v4 h4 =>
 bnd (gD v2 false (r 182 [v3,v4] h4) h4) fun v5 h5 =>
 bnd (gD v2 false (aC .eql v5 (aE 2) h5) h5) fun v6 h6 =>
 bnd (aN v2 (.b true) v6 h6) fun v7 h7 =>
 aR v7 (
 bnd (aC .add x1 (aE 1) h7) fun v8 h8 =>
      kk3 x0 v8 h8) (
      gI r n x1 h7)
def xD (r : RT) (n : Nat) (m : Nat) : gP :=
 Nat.rec (motive:=fun _=>gP) (fun _ _ _=>none) (fun _ ih=>bKz r n ih) m
def cQb (r : RT) (n : Nat) : gP:=xD r n n
def aZa (r : RT) (n : Nat) (x0 x1 : DV) (h0 : Hp) : aH :=
 cQb r n x0 x1 h0
def s183 (r : RT) (n : Nat) (x0 x1 : DV) (h0 : Hp) : aH :=
 aZa r n x0 x1 h0
abbrev c183 : Code:=cf Tryz.f183
abbrev aNl : Code:=cR c183
abbrev eHn : Code:=cR aNl
abbrev aNf : Code:=cL aNl
abbrev aGp : Code:=cL aNf
abbrev qO : Code:=cL aGp
abbrev cGz : Code:=cL c183
abbrev r183 : K:=bE CF Tryz.f183
def D183 (r : RT) (n : Nat) (c : Code) (X : Nat → K) (k : K) : K:=aW CF r 18 n c X r183 k
theorem dEb : D183 r n eHn x0 r183 = (K1 (gI r n) 1) :=
 (by kernel_rfl)
theorem bXv (kk3 : gP) : D183 r n qO (xs x0 0 (K1 (gI r n) 1)) (K2 kk3 0 1) = (K2 (bKz r n kk3) 0 1) :=
 (by kernel_rfl)
theorem bYk (m : Nat) : aM (fun kk=>D183 r n qO (xs x0 0 (K1 (gI r n) 1)) kk) m = (K2 (xD r n m) 0 1):=by
 induction m with
 | zero=>exact (by kernel_rfl : aM (fun kk=>D183 r n qO (xs x0 0 (K1 (gI r n) 1)) kk) 0 = (K2 (xD r n 0) 0 1))
 | succ m ih =>
  refine (by kernel_rfl : aM (fun kk=>D183 r n qO (xs x0 0 (K1 (gI r n) 1)) kk) (m + 1) = D183 r n qO (xs x0 0 (K1 (gI r n) 1)) (aM (fun kk=>D183 r n qO (xs x0 0 (K1 (gI r n) 1)) kk) m)).trans ?_
  rw [ih]
  exact (bXv r n (xD r n m)).trans (by kernel_rfl)
theorem dAp : D183 r n aGp (xs x0 0 (K1 (gI r n) 1)) (K1 (gI r n) 1) = (K2 (cQb r n) 0 1) :=
 (by kernel_rfl : D183 r n aGp (xs x0 0 (K1 (gI r n) 1)) (K1 (gI r n) 1) = aM (fun kk=>D183 r n qO (xs x0 0 (K1 (gI r n) 1)) kk) n).trans ((bYk r n n).trans (by kernel_rfl))
theorem bXl : D183 r n aNl x0 r183 = D183 r n aNf x0 (K1 (gI r n) 1) :=
 congrArg (fun k=>D183 r n aNf x0 k) (dEb r n)
theorem cXt : D183 r n aNl x0 r183 = (K2 (aZa r n) 0 1) :=
 (bXl r n).trans
 ((by kernel_rfl : D183 r n aNf x0 (K1 (gI r n) 1) = D183 r n aGp (xs x0 0 (K1 (gI r n) 1)) (K1 (gI r n) 1)).trans
 ((dAp r n).trans (by kernel_rfl)))
theorem dVm : D183 r n c183 x0 r183 = D183 r n cGz x0 (K2 (aZa r n) 0 1) :=
 congrArg (fun k=>D183 r n cGz x0 k) (cXt r n)
theorem eNc : D183 r n c183 x0 r183 = (K2 (s183 r n) 0 1) :=
 (dVm r n).trans
 ((by kernel_rfl))
theorem eFs : aI CF r n 183 args h = s183 r n (bI args 0) (bI args 1) h :=
 (by kernel_rfl : aI CF r n 183 args h = D183 r n c183 x0 r183 (aQ args) h).trans ((congrFun (congrFun (eNc r n) (aQ args)) h).trans (by kernel_rfl))
def s184 (r : RT) (n : Nat) (x0 x1 : DV) (h0 : Hp) : aH :=
 bnd (fS x0 h0) fun v1 h1 =>
 bnd (aC .lss x1 v1 h1) fun v2 h2 =>
 bnd (gD v2 true (some (x0,h2)) h2) fun v3 h3 =>
 bnd (gD v2 true (some (x1,h3)) h3) fun v4 h4 =>
 bnd (gD v2 true (cT v3 v4 h4) h4) fun v5 h5 =>
 bnd (gD v2 true (aC .eql v5 (.i .u8 (Int.ofNat 58)) h5) h5) fun v6 h6 =>
 bnd (aN v2 v6 (.b false) h6) fun v7 h7 =>
 bnd (gD v7 true (some (x1,h7)) h7) fun v8 h8 =>
 bnd (gD v7 true (aC .add v8 (aE 1) h8) h8) fun v9 h9 =>
 bnd (gD v7 true (some (x0,h9)) h9) fun v10 h10 =>
 bnd (gD v7 true (fS v10 h10) h10) fun v11 h11 =>
 bnd (gD v7 true (aC .lss v9 v11 h11) h11) fun v12 h12 =>
 bnd (gD v7 true (some (v12,h12)) h12) fun v13 h13 =>
 bnd (gD v13 true (some (x0,h13)) h13) fun v14 h14 =>
 bnd (gD v13 true (some (x1,h14)) h14) fun v15 h15 =>
 bnd (gD v13 true (aC .add v15 (aE 1) h15) h15) fun v16 h16 =>
 bnd (gD v13 true (cT v14 v16 h16) h16) fun v17 h17 =>
 bnd (gD v13 true (aC .eql v17 (.i .u8 (Int.ofNat 61)) h17) h17) fun v18 h18 =>
 bnd (gD v7 true (aN v13 v18 (.b false) h18) h18) fun v19 h19 =>
 bnd (gD v7 true (eQ .not v19 h19) h19) fun v20 h20 =>
 bnd (aN v7 v20 (.b false) h20) fun v21 h21 =>
 some (v21,h21)
theorem eCh : aI CF r n 184 args h = s184 r n (bI args 0) (bI args 1) h :=
 by kernel_rfl
def iW (r : RT) (n : Nat) (x0 x2 x3 : DV) (h0 : Hp) : aH :=
 bnd (r 114 [x0,(aE 10),(.s [91])] h0) fun v1 h1 =>
 aR v1 (
 bnd (r 246 [x0] h1) fun v2 h2 =>
 bnd (aJ 6 x2 v2 h2) fun _ h3 =>
 bnd (aK 6 x2 h3) fun v4 _ =>
 some (v4,h3)) (
 bnd (r 119 [x0,(aE 0)] h1) fun v5 h5 =>
 bnd (r 117 [x0,v5,(aE 13)] h5) fun v6 h6 =>
 bnd (aK 6 x3 h6) fun v7 h7 =>
 bnd (aJ 6 x2 v7 h7) fun _ h8 =>
 bnd (aK 6 x2 h8) fun v9 _ =>
 some (v9,h8))
def vT (r : RT) (n : Nat) (x2 x3 : DV) (h0 : Hp) : aH :=
 bnd (aK 6 x3 h0) fun v1 h1 =>
 bnd (aJ 6 x2 v1 h1) fun _ h2 =>
 bnd (aK 6 x2 h2) fun v3 _ =>
 some (v3,h2)
def aOx (r : RT) (n : Nat) (x0 x2 x3 x4 : DV) (h0 : Hp) : aH :=
 aR x4 (
 bnd (r 118 [x0] h0) fun v1 h1 =>
 bnd (aJ 6 x3 v1 h1) fun _ h2 =>
 bnd (r 72 [x0,(aE 10),(.s [41])] h2) fun v3 h3 =>
  fL 2 x0 h3 fun v4 h4 =>
 bnd (aC .sub v4 (aE 1) h4) fun v5 h5 =>
 bnd (aV x0 h5) fun v6 h6 =>
 bnd (aB 2 v6 h6) fun v7 h7 =>
 bnd (aJ 1 v7 v5 h7) fun _ h8 =>
  vT r n x2 x3 h8) (
  vT r n x2 x3 h0)
def cEn (r : RT) (n : Nat) (x0 x2 x3 : DV) (h0 : Hp) : aH :=
 bnd (r 245 [x0] h0) fun v1 h1 =>
  aOx r n x0 x2 x3 v1 h1
def aVy (r : RT) (n : Nat) (x0 x2 x3 x29 : DV) (h0 : Hp) : aH :=
 aR x29 (
  cEn r n x0 x2 x3 h0) (
  iW r n x0 x2 x3 h0)
def aXx (r : RT) (n : Nat) (x0 x2 x3 : DV) (h0 : Hp) : aH :=
 bnd (r 114 [x0,(aE 10),(.s [40])] h0) fun v1 h1 =>
  aVy r n x0 x2 x3 v1 h1
def zF (r : RT) (n : Nat) (x0 x2 x3 : DV) (h0 : Hp) : aH :=
 bnd (r 114 [x0,(aE 7),(.s [])] h0) fun v1 h1 =>
 aR v1 (
 bnd (r 244 [x0] h1) fun v2 h2 =>
 bnd (aJ 6 x2 v2 h2) fun _ h3 =>
 bnd (aK 6 x2 h3) fun v4 _ =>
 some (v4,h3)) (
  aXx r n x0 x2 x3 h1)
def aLs (r : RT) (n : Nat) (x0 x2 x3 : DV) (h0 : Hp) : aH :=
 bnd (r 114 [x0,(aE 1),(.s [])] h0) fun v1 h1 =>
 aR v1 (
 bnd (r 115 [x0] h1) fun v2 h2 =>
 bnd (gN 1 v2 h2) fun v3 h3 =>
 bnd (aY kG [(0,1,(aE 5)),(1,1,v3)] h3) fun v4 h4 =>
 bnd (aJ 6 x2 v4 h4) fun _ h5 =>
 bnd (aK 6 x2 h5) fun v6 _ =>
 some (v6,h5)) (
  zF r n x0 x2 x3 h1)
def aAb (r : RT) (n : Nat) (x0 x2 x3 x4 : DV) (h0 : Hp) : aH :=
 aR x4 (
 bnd (aK 6 x3 h0) fun v1 h1 =>
 bnd (aJ 6 x2 v1 h1) fun _ h2 =>
 bnd (aK 6 x2 h2) fun v3 _ =>
 some (v3,h2)) (
  aLs r n x0 x2 x3 h0)
def tO (r : RT) (n : Nat) (x0 x2 : DV) (h0 : Hp) : aH :=
 bnd (r 243 [x0] h0) fun v1 h1 =>
 bnd (aF 0 v1 h1) fun v2 h2 =>
 bnd (aF 1 v1 h2) fun v3 h3 =>
 bnd (bQ kG h3) fun v4 h4 =>
 bnd (aJ 6 v4 v2 h4) fun _ h5 =>
  aAb r n x0 x2 v4 v3 h5
def uF (r : RT) (n : Nat) (x0 x2 : DV) (h0 : Hp) : aH :=
 fL 3 x0 h0 fun v1 h1 =>
 bnd (aC .neq v1 (aE 0) h1) fun v2 h2 =>
 aR v2 (
 bnd (aY kG [] h2) fun v3 h3 =>
 bnd (aJ 6 x2 v3 h3) fun _ h4 =>
 bnd (aK 6 x2 h4) fun v5 _ =>
 some (v5,h4)) (
  tO r n x0 x2 h2)
def s187 (r : RT) (n : Nat) (x0 : DV) (h0 : Hp) : aH :=
 bnd (bQ kG h0) fun v1 h1 =>
  uF r n x0 v1 h1
abbrev c187 : Code:=cf Tryz.f187
abbrev aKr : Code:=cR c187
abbrev aHl : Code:=cR aKr
abbrev aGz : Code:=cR aHl
abbrev aLy : Code:=cR aGz
abbrev aJf : Code:=cR aLy
abbrev aNk : Code:=cR aJf
abbrev dWx : Code:=cR aNk
abbrev aDf : Code:=cL aNk
abbrev aAd : Code:=cR aDf
abbrev rD : Code:=cL aAd
abbrev wT : Code:=cR rD
abbrev dBm : Code:=cR wT
abbrev bOt : Code:=cL wT
abbrev bQh : Code:=cL rD
abbrev dJy : Code:=cR aAd
abbrev bKp : Code:=cL aDf
abbrev bOr : Code:=cL aJf
abbrev aHh : Code:=cL aLy
abbrev bMa : Code:=cL aGz
abbrev aKh : Code:=cL aHl
abbrev aGm : Code:=cL aKr
abbrev aQw : Code:=cL c187
abbrev r187 : K:=bE CF Tryz.f187
def D187 (r : RT) (n : Nat) (c : Code) (X : Nat → K) (k : K) : K:=aW CF r 54 n c X r187 k
theorem cYr : D187 r n dWx x0 r187 = (K3 (iW r n) 0 2 3) :=
 (by kernel_rfl)
theorem cXg : D187 r n dBm x0 (K3 (iW r n) 0 2 3) = (K2 (vT r n) 2 3) :=
 (by kernel_rfl)
theorem bUh : D187 r n wT x0 (K3 (iW r n) 0 2 3) = D187 r n bOt x0 (K2 (vT r n) 2 3) :=
 congrArg (fun k=>D187 r n bOt x0 k) (cXg r n)
theorem cNr : D187 r n wT x0 (K3 (iW r n) 0 2 3) = (K4 (aOx r n) 0 2 3 4) :=
 (bUh r n).trans
 ((by kernel_rfl))
theorem cXc : D187 r n rD x0 (K3 (iW r n) 0 2 3) = D187 r n bQh x0 (K4 (aOx r n) 0 2 3 4) :=
 congrArg (fun k=>D187 r n bQh x0 k) (cNr r n)
theorem dLf : D187 r n rD x0 (K3 (iW r n) 0 2 3) = (K3 (cEn r n) 0 2 3) :=
 (cXc r n).trans
 ((by kernel_rfl))
theorem dLg : D187 r n aAd x0 (K3 (iW r n) 0 2 3) = (K4 (aVy r n) 0 2 3 29) :=
 (by kernel_rfl : D187 r n aAd x0 (K3 (iW r n) 0 2 3) = (fun (env : aZ) (h : Hp)=>aR (opr env (cC aAd)) (D187 r n rD x0 (K3 (iW r n) 0 2 3) env h) (D187 r n dJy x0 (K3 (iW r n) 0 2 3) env h))).trans (by rw [dLf r n]; kernel_rfl)
theorem cHg : D187 r n aNk x0 r187 = D187 r n aDf x0 (K3 (iW r n) 0 2 3) :=
 congrArg (fun k=>D187 r n aDf x0 k) (cYr r n)
theorem cMy : D187 r n aDf x0 (K3 (iW r n) 0 2 3) = D187 r n bKp x0 (K4 (aVy r n) 0 2 3 29) :=
 congrArg (fun k=>D187 r n bKp x0 k) (dLg r n)
theorem dAj : D187 r n aNk x0 r187 = (K3 (aXx r n) 0 2 3) :=
 (cHg r n).trans
 ((cMy r n).trans
 ((by kernel_rfl)))
theorem cTj : D187 r n aJf x0 r187 = D187 r n bOr x0 (K3 (aXx r n) 0 2 3) :=
 congrArg (fun k=>D187 r n bOr x0 k) (dAj r n)
theorem dLw : D187 r n aJf x0 r187 = (K3 (zF r n) 0 2 3) :=
 (cTj r n).trans
 ((by kernel_rfl))
theorem cOp : D187 r n aLy x0 r187 = D187 r n aHh x0 (K3 (zF r n) 0 2 3) :=
 congrArg (fun k=>D187 r n aHh x0 k) (dLw r n)
theorem cEr (q0 : jS) : D187 r n aHh x0 (K3 q0 0 2 3) = fun (env : aZ) (h : Hp) =>
 bnd (r 114 [(env 0),(aE 1),(.s [])] h) fun v1 h1 =>
 aR v1 (
 bnd (r 115 [(env 0)] h1) fun v2 h2 =>
 bnd (gN 1 v2 h2) fun v3 h3 =>
 bnd (aY kG [(0,1,(aE 5)),(1,1,v3)] h3) fun v4 h4 =>
 bnd (aJ 6 (env 2) v4 h4) fun _ h5 =>
 bnd (aK 6 (env 2) h5) fun v6 _ =>
 some (v6,h5)) (
   q0 (env 0) (env 2) (env 3) h1):=by kernel_rfl
theorem bUs : (fun (env : aZ) (h : Hp) =>
 bnd (r 114 [(env 0),(aE 1),(.s [])] h) fun v1 h1 =>
 aR v1 (
 bnd (r 115 [(env 0)] h1) fun v2 h2 =>
 bnd (gN 1 v2 h2) fun v3 h3 =>
 bnd (aY kG [(0,1,(aE 5)),(1,1,v3)] h3) fun v4 h4 =>
 bnd (aJ 6 (env 2) v4 h4) fun _ h5 =>
 bnd (aK 6 (env 2) h5) fun v6 _ =>
 some (v6,h5)) (
   zF r n (env 0) (env 2) (env 3) h1)) = (K3 (aLs r n) 0 2 3):=by kernel_rfl
theorem dNd : D187 r n aLy x0 r187 = (K3 (aLs r n) 0 2 3) :=
 (cOp r n).trans
 ((cEr r n (zF r n)).trans (bUs r n))
theorem cKs : D187 r n aGz x0 r187 = D187 r n bMa x0 (K3 (aLs r n) 0 2 3) :=
 congrArg (fun k=>D187 r n bMa x0 k) (dNd r n)
theorem cXl : D187 r n aGz x0 r187 = (K4 (aAb r n) 0 2 3 4) :=
 (cKs r n).trans
 ((by kernel_rfl))
theorem cPx : D187 r n aHl x0 r187 = D187 r n aKh x0 (K4 (aAb r n) 0 2 3 4) :=
 congrArg (fun k=>D187 r n aKh x0 k) (cXl r n)
theorem bSy (q0 : dG) : D187 r n aKh x0 (K4 q0 0 2 3 4) = fun (env : aZ) (h : Hp) =>
 bnd (r 243 [(env 0)] h) fun v1 h1 =>
 bnd (aF 0 v1 h1) fun v2 h2 =>
 bnd (aF 1 v1 h2) fun v3 h3 =>
 bnd (bQ kG h3) fun v4 h4 =>
 bnd (aJ 6 v4 v2 h4) fun _ h5 =>
  q0 (env 0) (env 2) v4 v3 h5:=by kernel_rfl
theorem bBh : (fun (env : aZ) (h : Hp) =>
 bnd (r 243 [(env 0)] h) fun v1 h1 =>
 bnd (aF 0 v1 h1) fun v2 h2 =>
 bnd (aF 1 v1 h2) fun v3 h3 =>
 bnd (bQ kG h3) fun v4 h4 =>
 bnd (aJ 6 v4 v2 h4) fun _ h5 =>
  aAb r n (env 0) (env 2) v4 v3 h5) = (K2 (tO r n) 0 2):=by kernel_rfl
theorem dGk : D187 r n aHl x0 r187 = (K2 (tO r n) 0 2) :=
 (cPx r n).trans
 ((bSy r n (aAb r n)).trans (bBh r n))
theorem bWb : D187 r n aKr x0 r187 = D187 r n aGm x0 (K2 (tO r n) 0 2) :=
 congrArg (fun k=>D187 r n aGm x0 k) (dGk r n)
theorem bUd (q0 : gP) : D187 r n aGm x0 (K2 q0 0 2) = fun (env : aZ) (h : Hp) =>
 bnd (aV (env 0) h) fun v1 h1 =>
 bnd (aB 3 v1 h1) fun v2 h2 =>
 bnd (aA v2 h2) fun v3 h3 =>
 bnd (aC .neq v3 (aE 0) h3) fun v4 h4 =>
 aR v4 (
 bnd (aY kG [] h4) fun v5 h5 =>
 bnd (aJ 6 (env 2) v5 h5) fun _ h6 =>
 bnd (aK 6 (env 2) h6) fun v7 _ =>
 some (v7,h6)) (
   q0 (env 0) (env 2) h4):=by kernel_rfl
theorem bBr : (fun (env : aZ) (h : Hp) =>
 bnd (aV (env 0) h) fun v1 h1 =>
 bnd (aB 3 v1 h1) fun v2 h2 =>
 bnd (aA v2 h2) fun v3 h3 =>
 bnd (aC .neq v3 (aE 0) h3) fun v4 h4 =>
 aR v4 (
 bnd (aY kG [] h4) fun v5 h5 =>
 bnd (aJ 6 (env 2) v5 h5) fun _ h6 =>
 bnd (aK 6 (env 2) h6) fun v7 _ =>
 some (v7,h6)) (
   tO r n (env 0) (env 2) h4)) = (K2 (uF r n) 0 2):=by kernel_rfl
theorem cYm : D187 r n aKr x0 r187 = (K2 (uF r n) 0 2) :=
 (bWb r n).trans
 ((bUd r n (tO r n)).trans (bBr r n))
theorem dDz : D187 r n c187 x0 r187 = D187 r n aQw x0 (K2 (uF r n) 0 2) :=
 congrArg (fun k=>D187 r n aQw x0 k) (cYm r n)
theorem dKk (q0 : gP) : D187 r n aQw x0 (K2 q0 0 2) = fun (env : aZ) (h : Hp) =>
 bnd (bQ kG h) fun v1 h1 =>
  q0 (env 0) v1 h1:=by kernel_rfl
theorem cUo : (fun (env : aZ) (h : Hp) =>
 bnd (bQ kG h) fun v1 h1 =>
  uF r n (env 0) v1 h1) = (K1 (s187 r n) 0):=by kernel_rfl
theorem eTy : D187 r n c187 x0 r187 = (K1 (s187 r n) 0) :=
 (dDz r n).trans
 ((dKk r n (uF r n)).trans (cUo r n))
theorem eGy : aI CF r n 187 args h = s187 r n (bI args 0) h :=
 (by kernel_rfl : aI CF r n 187 args h = D187 r n c187 x0 r187 (aQ args) h).trans ((congrFun (congrFun (eTy r n) (aQ args)) h).trans (by kernel_rfl))
def s190 (r : RT) (n : Nat) (x0 x1 : DV) (h0 : Hp) : aH :=
 bnd (bZ x1 h0) fun v1 h1 =>
 bnd (bQ kG h1) fun v2 h2 =>
 bnd (r 114 [x0,(aE 2),(.s [])] h2) fun v3 h3 =>
 bnd (eQ .not v3 h3) fun v4 h4 =>
 aR v4 (
 bnd (aK 6 v1 h4) fun v5 h5 =>
 bnd (aJ 6 v2 v5 h5) fun _ h6 =>
 bnd (aK 6 v2 h6) fun v7 _ =>
 some (v7,h6)) (
 bnd (r 191 [x0] h4) fun v8 h8 =>
 bnd (bQ kG h8) fun v9 h9 =>
 bnd (aJ 6 v9 v8 h9) fun _ h10 =>
 bnd (aK 6 v1 h10) fun v11 h11 =>
 bnd (aS kG 1 [(0,6,v11)] h11) fun v12 h12 =>
  fM 5 v9 h12 fun v13 h13 =>
 bnd (bH 6 104 v12 v13 h13) fun v14 h14 =>
  fM 1 v9 h14 fun v15 h15 =>
 bnd (aY kG [(0,1,(aE 7)),(1,1,v15),(5,1,v14)] h15) fun v16 h16 =>
 bnd (aJ 6 v2 v16 h16) fun _ h17 =>
 bnd (aK 6 v2 h17) fun v18 _ =>
 some (v18,h17))
theorem eGc : aI CF r n 190 args h = s190 r n (bI args 0) (bI args 1) h :=
 by kernel_rfl
end Go.Dd

namespace Go.Dd
open Go.Proofs
variable (r : RT) (n : Nat) (args : List DV) (h : Hp)
def s194 (r : RT) (n : Nat) (x0 x1 : DV) (h0 : Hp) : aH :=
 bnd (aY [(aE 0),(.s []),(aE 0),.l0] [(0,1,(aE 3)),(1,1,x1)] h0) fun v1 h1 =>
 bnd (oF [x0,v1] h1) fun v2 h2 =>
 some (v2,h2)
theorem eFj : aI CF r n 194 args h = s194 r n (bI args 0) (bI args 1) h :=
 by kernel_rfl
def s195 (r : RT) (n : Nat) (x0 : DV) (h0 : Hp) : aH :=
 bnd (bZ x0 h0) fun v1 h1 =>
  fM 0 v1 h1 fun v2 h2 =>
 bnd (aC .eql v2 (aE 9) h2) fun v3 h3 =>
 bnd (gD v3 true (aB 3 v1 h3) h3) fun v4 h4 =>
 bnd (gD v3 true (aA v4 h4) h4) fun v5 h5 =>
 bnd (gD v3 true (bM v5 h5) h5) fun v6 h6 =>
 bnd (gD v3 true (aC .eql v6 (aE 0) h6) h6) fun v7 h7 =>
 bnd (aN v3 v7 (.b false) h7) fun v8 h8 =>
 some (v8,h8)
theorem eAd : aI CF r n 195 args h = s195 r n (bI args 0) h :=
 by kernel_rfl
def s208 (r : RT) (n : Nat) (x0 x1 x2 : DV) (h0 : Hp) : aH :=
 bnd (aC .geq x0 x1 h0) fun v1 h1 =>
 bnd (gD v1 true (some (x0,h1)) h1) fun v2 h2 =>
 bnd (gD v1 true (some (x2,h2)) h2) fun v3 h3 =>
 bnd (gD v1 true (aC .leq v2 v3 h3) h3) fun v4 h4 =>
 bnd (aN v1 v4 (.b false) h4) fun v5 h5 =>
 some (v5,h5)
theorem dXc : aI CF r n 208 args h = s208 r n (bI args 0) (bI args 1) (bI args 2) h :=
 by kernel_rfl
def s209 (r : RT) (n : Nat) (x0 x1 : DV) (h0 : Hp) : aH :=
 bnd (r 251 [x0,x1] h0) fun v1 h1 =>
 bnd (aC .geq v1 (aE 0) h1) fun v2 h2 =>
 some (v2,h2)
theorem eHs : aI CF r n 209 args h = s209 r n (bI args 0) (bI args 1) h :=
 by kernel_rfl
def s210 (r : RT) (n : Nat) (x0 : DV) (h0 : Hp) : aH :=
 bnd (bZ x0 h0) fun v1 h1 =>
 bnd (aK 4 v1 h1) fun v2 h2 =>
 bnd (r 211 [v2,(aE 20)] h2) fun v3 h3 =>
 bnd (eQ .not v3 h3) fun v4 h4 =>
 some (v4,h4)
theorem eCw : aI CF r n 210 args h = s210 r n (bI args 0) h :=
 by kernel_rfl
def s211 (r : RT) (n : Nat) (x0 x1 : DV) (h0 : Hp) : aH :=
 bnd (bZ x0 h0) fun v1 h1 =>
 bnd (bZ x1 h1) fun v2 h2 =>
  fM 0 v1 h2 fun v3 h3 =>
 bnd (aC .eql v3 (aE 1) h3) fun v4 h4 =>
 aR v4 (
  fM 1 v1 h4 fun v5 h5 =>
 bnd (dX .eql v5 (.s []) h5) fun v6 h6 =>
 bnd (gD v6 true (aB 3 v1 h6) h6) fun v7 h7 =>
 bnd (gD v6 true (aA v7 h7) h7) fun v8 h8 =>
 bnd (gD v6 true (bM v8 h8) h8) fun v9 h9 =>
 bnd (gD v6 true (aC .eql v9 (aE 0) h9) h9) fun v10 h10 =>
 bnd (aN v6 v10 (.b false) h10) fun v11 h11 =>
 bnd (gD v11 true (aB 2 v1 h11) h11) fun v12 h12 =>
 bnd (gD v11 true (aA v12 h12) h12) fun v13 h13 =>
 bnd (gD v11 true (r 208 [v13,(.i .i64 (Int.negSucc 1152921504606846975)),(aE 1152921504606846976)] h13) h13) fun v14 h14 =>
 bnd (aN v11 v14 (.b false) h14) fun v15 h15 =>
 some (v15,h15)) (
 bnd (aC .eql v3 (aE 2) h4) fun v16 h16 =>
 aR v16 (
   fM 2 v1 h16 fun v17 h17 =>
 bnd (aC .eql v17 (aE 0) h17) fun v18 h18 =>
 bnd (gD v18 true (aB 3 v1 h18) h18) fun v19 h19 =>
 bnd (gD v18 true (aA v19 h19) h19) fun v20 h20 =>
 bnd (gD v18 true (bM v20 h20) h20) fun v21 h21 =>
 bnd (gD v18 true (aC .eql v21 (aE 0) h21) h21) fun v22 h22 =>
 bnd (aN v18 v22 (.b false) h22) fun v23 h23 =>
 bnd (gD v23 true (aB 1 v1 h23) h23) fun v24 h24 =>
 bnd (gD v23 true (aA v24 h24) h24) fun v25 h25 =>
 bnd (gD v23 true (fS v25 h25) h25) fun v26 h26 =>
 bnd (gD v23 true (aC .leq v26 (aE 250) h26) h26) fun v27 h27 =>
 bnd (aN v23 v27 (.b false) h27) fun v28 h28 =>
 some (v28,h28)) (
 bnd (aC .eql v3 (aE 3) h16) fun v29 h29 =>
 aR v29 (
    fM 2 v1 h29 fun v30 h30 =>
 bnd (aC .eql v30 (aE 0) h30) fun v31 h31 =>
 bnd (gD v31 true (aB 3 v1 h31) h31) fun v32 h32 =>
 bnd (gD v31 true (aA v32 h32) h32) fun v33 h33 =>
 bnd (gD v31 true (bM v33 h33) h33) fun v34 h34 =>
 bnd (gD v31 true (aC .eql v34 (aE 0) h34) h34) fun v35 h35 =>
 bnd (aN v31 v35 (.b false) h35) fun v36 h36 =>
 bnd (gD v36 true (aB 1 v1 h36) h36) fun v37 h37 =>
 bnd (gD v36 true (aA v37 h37) h37) fun v38 h38 =>
 bnd (gD v36 true (fS v38 h38) h38) fun v39 h39 =>
 bnd (gD v36 true (r 208 [v39,(aE 1),(aE 60)] h39) h39) fun v40 h40 =>
 bnd (aN v36 v40 (.b false) h40) fun v41 h41 =>
 some (v41,h41)) (
 bnd (aC .eql v3 (aE 4) h29) fun v42 h42 =>
 aR v42 (
     fM 3 v1 h42 fun v43 h43 =>
 bnd (r 209 [v43,(.f 252 [] [v2])] h43) fun v44 h44 =>
     fM 2 v1 h44 fun v45 h45 =>
 bnd (aC .eql v45 (aE 0) h45) fun v46 h46 =>
 bnd (gD v46 true (aB 1 v1 h46) h46) fun v47 h47 =>
 bnd (gD v46 true (aA v47 h47) h47) fun v48 h48 =>
 bnd (gD v46 true (dX .eql v48 (.s []) h48) h48) fun v49 h49 =>
 bnd (aN v46 v49 (.b false) h49) fun v50 h50 =>
 bnd (gD v50 true (aA v2 h50) h50) fun v51 h51 =>
 bnd (gD v50 true (aC .gtr v51 (aE 0) h51) h51) fun v52 h52 =>
 bnd (aN v50 v52 (.b false) h52) fun v53 h53 =>
 bnd (gD v53 true (aB 3 v1 h53) h53) fun v54 h54 =>
 bnd (gD v53 true (aA v54 h54) h54) fun v55 h55 =>
 bnd (gD v53 true (bM v55 h55) h55) fun v56 h56 =>
 bnd (gD v53 true (aC .leq v56 (aE 250) h56) h56) fun v57 h57 =>
 bnd (aN v53 v57 (.b false) h57) fun v58 h58 =>
 bnd (gD v58 true (some (v44,h58)) h58) fun v59 h59 =>
 bnd (gD v58 true (eQ .not v59 h59) h59) fun v60 h60 =>
 bnd (aN v58 v60 (.b false) h60) fun v61 h61 =>
 some (v61,h61)) (
 some ((.b false),h42)))))
theorem eCp : aI CF r n 211 args h = s211 r n (bI args 0) (bI args 1) h :=
 by kernel_rfl
def bG (r : RT) (n : Nat) (h0 : Hp) : aH :=
 some ((.b true),h0)
def vR (r : RT) (n : Nat) (x2 x3 x4 x27 x51 : DV) (h0 : Hp) : aH :=
 aR x51 (
  fM 1 x4 h0 fun v1 h1 =>
 bnd (aC .lss v1 x2 h1) fun v2 h2 =>
 some (v2,h2)) (
 bnd (aC .eql x27 (aE 18) h0) fun v3 h3 =>
 aR v3 (
   fM 2 x4 h3 fun v4 h4 =>
 bnd (aC .leq v4 (aE 4) h4) fun v5 h5 =>
 bnd (gD v5 true (aB 1 x4 h5) h5) fun v6 h6 =>
 bnd (gD v5 true (aA v6 h6) h6) fun v7 h7 =>
 bnd (gD v5 true (aB 2 x4 h7) h7) fun v8 h8 =>
 bnd (gD v5 true (aA v8 h8) h8) fun v9 h9 =>
 bnd (gD v5 true (aC .add v7 v9 h9) h9) fun v10 h10 =>
 bnd (gD v5 true (aB 2 x3 h10) h10) fun v11 h11 =>
 bnd (gD v5 true (aA v11 h11) h11) fun v12 h12 =>
 bnd (gD v5 true (aC .leq v10 v12 h12) h12) fun v13 h13 =>
 bnd (aN v5 v13 (.b false) h13) fun v14 h14 =>
 some (v14,h14)) (
   bG r n h3))
def bOa (r : RT) (n : Nat) (x2 x3 x4 x27 : DV) (h0 : Hp) : aH :=
 bnd (aC .eql x27 (aE 8) h0) fun v1 h1 =>
 aR v1 (
  vR r n x2 x3 x4 x27 v1 h1) (
 bnd (aC .eql x27 (aE 11) h1) fun v2 h2 =>
  vR r n x2 x3 x4 x27 v2 h2)
def xG (r : RT) (n : Nat) (x2 x3 x4 x27 x43 : DV) (h0 : Hp) : aH :=
 aR x43 (
  fM 1 x4 h0 fun v1 h1 =>
  fM 2 x3 h1 fun v2 h2 =>
 bnd (aC .lss v1 v2 h2) fun v3 h3 =>
 some (v3,h3)) (
  bOa r n x2 x3 x4 x27 h0)
def bPw (r : RT) (n : Nat) (x2 x3 x4 x27 : DV) (h0 : Hp) : aH :=
 bnd (aC .eql x27 (aE 7) h0) fun v1 h1 =>
 aR v1 (
  xG r n x2 x3 x4 x27 v1 h1) (
 bnd (aC .eql x27 (aE 10) h1) fun v2 h2 =>
  xG r n x2 x3 x4 x27 v2 h2)
def zB (r : RT) (n : Nat) (x2 x3 x4 x8 x27 x34 : DV) (h0 : Hp) : aH :=
 aR x34 (
 bnd (gD x8 true (aB 2 x4 h0) h0) fun v1 h1 =>
 bnd (gD x8 true (aA v1 h1) h1) fun v2 h2 =>
 bnd (gD x8 true (aC .leq v2 (aE 4) h2) h2) fun v3 h3 =>
 bnd (aN x8 v3 (.b false) h3) fun v4 h4 =>
 some (v4,h4)) (
  bPw r n x2 x3 x4 x27 h0)
def cJg (r : RT) (n : Nat) (x2 x3 x4 x8 x27 : DV) (h0 : Hp) : aH :=
 bnd (aC .eql x27 (aE 14) h0) fun v1 h1 =>
 aR v1 (
  zB r n x2 x3 x4 x8 x27 v1 h1) (
 bnd (aC .eql x27 (aE 15) h1) fun v2 h2 =>
  zB r n x2 x3 x4 x8 x27 v2 h2)
def bCb (r : RT) (n : Nat) (x2 x3 x4 x8 x27 x31 : DV) (h0 : Hp) : aH :=
 aR x31 (
 some (x8,h0)) (
  cJg r n x2 x3 x4 x8 x27 h0)
def cVn (r : RT) (n : Nat) (x2 x3 x4 x8 x27 : DV) (h0 : Hp) : aH :=
 bnd (aC .eql x27 (aE 9) h0) fun v1 h1 =>
  bCb r n x2 x3 x4 x8 x27 v1 h1
def bCo (r : RT) (n : Nat) (x2 x3 x4 x7 x8 x27 x28 : DV) (h0 : Hp) : aH :=
 aR x28 (
 some (x7,h0)) (
  cVn r n x2 x3 x4 x8 x27 h0)
def bBw (r : RT) (n : Nat) (x2 x3 x4 x7 x8 x27 : DV) (h0 : Hp) : aH :=
 bnd (aC .eql x27 (aE 6) h0) fun v1 h1 =>
  bCo r n x2 x3 x4 x7 x8 x27 v1 h1
def bEl (r : RT) (n : Nat) (x2 x3 x4 x7 x8 : DV) (h0 : Hp) : aH :=
 fM 0 x4 h0 fun v1 h1 =>
 bBw r n x2 x3 x4 x7 x8 v1 h1
def bDm (r : RT) (n : Nat) (x2 x3 x4 x7 : DV) (h0 : Hp) : aH :=
 bnd (gD x7 true (aB 4 x3 h0) h0) fun v1 h1 =>
 bnd (gD x7 true (aA v1 h1) h1) fun v2 h2 =>
 bnd (gD x7 true (aB 1 x4 h2) h2) fun v3 h3 =>
 bnd (gD x7 true (aA v3 h3) h3) fun v4 h4 =>
 bnd (gD x7 true (aG 4 v2 v4 h4) h4) fun v5 h5 =>
 bnd (gD x7 true (aB 0 v5 h5) h5) fun v6 h6 =>
 bnd (gD x7 true (aA v6 h6) h6) fun v7 h7 =>
 bnd (gD x7 true (aC .eql v7 (aE 3) h7) h7) fun v8 h8 =>
 bnd (aN x7 v8 (.b false) h8) fun v9 h9 =>
  bEl r n x2 x3 x4 x7 v9 h9
def aBu (r : RT) (n : Nat) (x2 x3 x4 : DV) (h0 : Hp) : aH :=
 fM 1 x4 h0 fun v1 h1 =>
 fM 4 x3 h1 fun v2 h2 =>
 bnd (bM v2 h2) fun v3 h3 =>
 bnd (aC .lss v1 v3 h3) fun v4 h4 =>
  bDm r n x2 x3 x4 v4 h4
def s212 (r : RT) (n : Nat) (x0 x1 x2 : DV) (h0 : Hp) : aH :=
 bnd (bZ x0 h0) fun v1 h1 =>
 bnd (bZ x1 h1) fun v2 h2 =>
  aBu r n x2 v1 v2 h2
abbrev c212 : Code:=cf Tryz.f212
abbrev aQk : Code:=cR c212
abbrev aKk : Code:=cR aQk
abbrev aPt : Code:=cR aKk
abbrev dUf : Code:=cR aPt
abbrev aBb : Code:=cL aPt
abbrev aXh : Code:=cR aBb
abbrev aNb : Code:=cL aXh
abbrev aBj : Code:=cR aNb
abbrev zL : Code:=cR aBj
abbrev sV : Code:=cR zL
abbrev rY : Code:=cR sV
abbrev qX : Code:=cR rY
abbrev sP : Code:=cR qX
abbrev sT : Code:=cR sP
abbrev sO : Code:=cR sT
abbrev dDi : Code:=cR sO
abbrev bHd : Code:=cL sO
abbrev dFm : Code:=cL sT
abbrev bKv : Code:=cL sP
abbrev dHu : Code:=cL qX
abbrev bFn : Code:=cL rY
abbrev dDr : Code:=cL sV
abbrev bPr : Code:=cL zL
abbrev dId : Code:=cL aBj
abbrev bKf : Code:=cL aNb
abbrev bQk : Code:=cL aBb
abbrev bHu : Code:=cL aKk
abbrev bKt : Code:=cL aQk
abbrev aJs : Code:=cL c212
abbrev r212 : K:=bE CF Tryz.f212
def D212 (r : RT) (n : Nat) (c : Code) (X : Nat → K) (k : K) : K:=aW CF r 73 n c X r212 k
theorem dJf : D212 r n dUf x0 r212 = (K0 (bG r n)) :=
 (by kernel_rfl)
theorem cCk : D212 r n dDi (xs x0 0 (K0 (bG r n))) (K0 (bG r n)) = (K5 (vR r n) 2 3 4 27 51) :=
 (by kernel_rfl)
theorem bUe : D212 r n sO (xs x0 0 (K0 (bG r n))) (K0 (bG r n)) = D212 r n bHd (xs x0 0 (K0 (bG r n))) (K5 (vR r n) 2 3 4 27 51) :=
 congrArg (fun k=>D212 r n bHd (xs x0 0 (K0 (bG r n))) k) (cCk r n)
theorem cFa : D212 r n sO (xs x0 0 (K0 (bG r n))) (K0 (bG r n)) = (K4 (bOa r n) 2 3 4 27) :=
 (bUe r n).trans
 ((by kernel_rfl))
theorem cUj : D212 r n sT (xs x0 0 (K0 (bG r n))) (K0 (bG r n)) = (K5 (xG r n) 2 3 4 27 43) :=
 (by kernel_rfl : D212 r n sT (xs x0 0 (K0 (bG r n))) (K0 (bG r n)) = (fun (env : aZ) (h : Hp)=>aR (opr env (cC sT)) (D212 r n dFm (xs x0 0 (K0 (bG r n))) (K0 (bG r n)) env h) (D212 r n sO (xs x0 0 (K0 (bG r n))) (K0 (bG r n)) env h))).trans (by rw [cFa r n]; kernel_rfl)
theorem bVp : D212 r n sP (xs x0 0 (K0 (bG r n))) (K0 (bG r n)) = D212 r n bKv (xs x0 0 (K0 (bG r n))) (K5 (xG r n) 2 3 4 27 43) :=
 congrArg (fun k=>D212 r n bKv (xs x0 0 (K0 (bG r n))) k) (cUj r n)
theorem cQi : D212 r n sP (xs x0 0 (K0 (bG r n))) (K0 (bG r n)) = (K4 (bPw r n) 2 3 4 27) :=
 (bVp r n).trans
 ((by kernel_rfl))
theorem cKb : D212 r n qX (xs x0 0 (K0 (bG r n))) (K0 (bG r n)) = (K6 (zB r n) 2 3 4 8 27 34) :=
 (by kernel_rfl : D212 r n qX (xs x0 0 (K0 (bG r n))) (K0 (bG r n)) = (fun (env : aZ) (h : Hp)=>aR (opr env (cC qX)) (D212 r n dHu (xs x0 0 (K0 (bG r n))) (K0 (bG r n)) env h) (D212 r n sP (xs x0 0 (K0 (bG r n))) (K0 (bG r n)) env h))).trans (by rw [cQi r n]; kernel_rfl)
theorem cJv : D212 r n rY (xs x0 0 (K0 (bG r n))) (K0 (bG r n)) = D212 r n bFn (xs x0 0 (K0 (bG r n))) (K6 (zB r n) 2 3 4 8 27 34) :=
 congrArg (fun k=>D212 r n bFn (xs x0 0 (K0 (bG r n))) k) (cKb r n)
theorem cYa : D212 r n rY (xs x0 0 (K0 (bG r n))) (K0 (bG r n)) = (K5 (cJg r n) 2 3 4 8 27) :=
 (cJv r n).trans
 ((by kernel_rfl))
theorem cXu : D212 r n sV (xs x0 0 (K0 (bG r n))) (K0 (bG r n)) = (K6 (bCb r n) 2 3 4 8 27 31) :=
 (by kernel_rfl : D212 r n sV (xs x0 0 (K0 (bG r n))) (K0 (bG r n)) = (fun (env : aZ) (h : Hp)=>aR (opr env (cC sV)) (D212 r n dDr (xs x0 0 (K0 (bG r n))) (K0 (bG r n)) env h) (D212 r n rY (xs x0 0 (K0 (bG r n))) (K0 (bG r n)) env h))).trans (by rw [cYa r n]; kernel_rfl)
theorem cRw : D212 r n zL (xs x0 0 (K0 (bG r n))) (K0 (bG r n)) = D212 r n bPr (xs x0 0 (K0 (bG r n))) (K6 (bCb r n) 2 3 4 8 27 31) :=
 congrArg (fun k=>D212 r n bPr (xs x0 0 (K0 (bG r n))) k) (cXu r n)
theorem dKu : D212 r n zL (xs x0 0 (K0 (bG r n))) (K0 (bG r n)) = (K5 (cVn r n) 2 3 4 8 27) :=
 (cRw r n).trans
 ((by kernel_rfl))
theorem dCr : D212 r n aBj (xs x0 0 (K0 (bG r n))) (K0 (bG r n)) = (K7 (bCo r n) 2 3 4 7 8 27 28) :=
 (by kernel_rfl : D212 r n aBj (xs x0 0 (K0 (bG r n))) (K0 (bG r n)) = (fun (env : aZ) (h : Hp)=>aR (opr env (cC aBj)) (D212 r n dId (xs x0 0 (K0 (bG r n))) (K0 (bG r n)) env h) (D212 r n zL (xs x0 0 (K0 (bG r n))) (K0 (bG r n)) env h))).trans (by rw [dKu r n]; kernel_rfl)
theorem cUb : D212 r n aNb (xs x0 0 (K0 (bG r n))) (K0 (bG r n)) = D212 r n bKf (xs x0 0 (K0 (bG r n))) (K7 (bCo r n) 2 3 4 7 8 27 28) :=
 congrArg (fun k=>D212 r n bKf (xs x0 0 (K0 (bG r n))) k) (dCr r n)
theorem dNt : D212 r n aXh x0 (K0 (bG r n)) = (K6 (bBw r n) 2 3 4 7 8 27) :=
 (by kernel_rfl : D212 r n aXh x0 (K0 (bG r n)) = D212 r n aNb (xs x0 0 (K0 (bG r n))) (K0 (bG r n))).trans
 ((cUb r n).trans
 ((by kernel_rfl)))
theorem cCx : D212 r n aPt x0 r212 = D212 r n aBb x0 (K0 (bG r n)) :=
 congrArg (fun k=>D212 r n aBb x0 k) (dJf r n)
theorem cIi : D212 r n aBb x0 (K0 (bG r n)) = D212 r n bQk x0 (K6 (bBw r n) 2 3 4 7 8 27) :=
 congrArg (fun k=>D212 r n bQk x0 k) (dNt r n)
theorem dNz : D212 r n aPt x0 r212 = (K5 (bEl r n) 2 3 4 7 8) :=
 (cCx r n).trans
 ((cIi r n).trans
 ((by kernel_rfl)))
theorem cEh : D212 r n aKk x0 r212 = D212 r n bHu x0 (K5 (bEl r n) 2 3 4 7 8) :=
 congrArg (fun k=>D212 r n bHu x0 k) (dNz r n)
theorem dEl : D212 r n aKk x0 r212 = (K4 (bDm r n) 2 3 4 7) :=
 (cEh r n).trans
 ((by kernel_rfl))
theorem cWt : D212 r n aQk x0 r212 = D212 r n bKt x0 (K4 (bDm r n) 2 3 4 7) :=
 congrArg (fun k=>D212 r n bKt x0 k) (dEl r n)
theorem dBd : D212 r n aQk x0 r212 = (K3 (aBu r n) 2 3 4) :=
 (cWt r n).trans
 ((by kernel_rfl))
theorem cXm : D212 r n c212 x0 r212 = D212 r n aJs x0 (K3 (aBu r n) 2 3 4) :=
 congrArg (fun k=>D212 r n aJs x0 k) (dBd r n)
theorem dFb (q0 : jS) : D212 r n aJs x0 (K3 q0 2 3 4) = fun (env : aZ) (h : Hp) =>
 bnd (bZ (env 0) h) fun v1 h1 =>
 bnd (bZ (env 1) h1) fun v2 h2 =>
  q0 (env 2) v1 v2 h2:=by kernel_rfl
theorem cUn : (fun (env : aZ) (h : Hp) =>
 bnd (bZ (env 0) h) fun v1 h1 =>
 bnd (bZ (env 1) h1) fun v2 h2 =>
  aBu r n (env 2) v1 v2 h2) = (K3 (s212 r n) 0 1 2):=by kernel_rfl
theorem eRc : D212 r n c212 x0 r212 = (K3 (s212 r n) 0 1 2) :=
 (cXm r n).trans
 ((dFb r n (aBu r n)).trans (cUn r n))
theorem dVo : aI CF r n 212 args h = s212 r n (bI args 0) (bI args 1) (bI args 2) h :=
 (by kernel_rfl : aI CF r n 212 args h = D212 r n c212 x0 r212 (aQ args) h).trans ((congrFun (congrFun (eRc r n) (aQ args)) h).trans (by kernel_rfl))
def fF (r : RT) (n : Nat) (x3 : DV) (h0 : Hp) : aH :=
 some (x3,h0)
def bMi (r : RT) (n : Nat) (kk6 : dG) (x3 x4 x11 x12 : DV) (h0 : Hp) : aH :=
 bnd (aC .lss x12 x11 h0) fun v1 h1 =>
 aR v1 (
 bnd (iA CF r x4 [x12] h1) fun v2 h2 =>
 bnd (aG 1 x3 x12 h2) fun v3 h3 =>
 bnd (aJ 1 v3 v2 h3) fun _ h4 =>
 bnd (aC .add x12 (aE 1) h4) fun v5 h5 =>
      kk6 x3 x4 x11 v5 h5) (
      fF r n x3 h1)
def xF (r : RT) (n : Nat) (m : Nat) : dG :=
 Nat.rec (motive:=fun _=>dG) (fun _ _ _ _ _=>none) (fun _ ih=>bMi r n ih) m
def cUy (r : RT) (n : Nat) : dG:=xF r n n
def bBp (r : RT) (n : Nat) (x3 x4 x11 x12 : DV) (h0 : Hp) : aH :=
 cUy r n x3 x4 x11 x12 h0
def aXj (r : RT) (n : Nat) (x1 x3 x4 : DV) (h0 : Hp) : aH :=
 bnd (aA x1 h0) fun v1 h1 =>
 bnd (bM v1 h1) fun v2 h2 =>
  bBp r n x3 x4 v2 (aE 0) h2
def aBt (r : RT) (n : Nat) (x1 x3 : DV) (h0 : Hp) : aH :=
 aXj r n x1 x3 (.f 253 [] [x1]) h0
def tW (r : RT) (n : Nat) (x1 : DV) (h0 : Hp) : aH :=
 bnd (aA x1 h0) fun v1 h1 =>
 bnd (bM v1 h1) fun v2 h2 =>
 bnd (cI 1 8 [(aE 0)] v2 v2 h2) fun v3 h3 =>
  aBt r n x1 v3 h3
def s213 (r : RT) (n : Nat) (x0 : DV) (h0 : Hp) : aH :=
 bnd (bZ x0 h0) fun v1 h1 =>
  tW r n v1 h1
abbrev c213 : Code:=cf Tryz.f213
abbrev aOf : Code:=cR c213
abbrev aJp : Code:=cR aOf
abbrev aIz : Code:=cR aJp
abbrev eFf : Code:=cR aIz
abbrev zO : Code:=cL aIz
abbrev bDi : Code:=cR zO
abbrev aMy : Code:=cL bDi
abbrev pW : Code:=cL aMy
abbrev cVt : Code:=cL zO
abbrev bJx : Code:=cL aJp
abbrev aHv : Code:=cL aOf
abbrev aKy : Code:=cL c213
abbrev r213 : K:=bE CF Tryz.f213
def D213 (r : RT) (n : Nat) (c : Code) (X : Nat → K) (k : K) : K:=aW CF r 23 n c X r213 k
theorem dEq : D213 r n eFf x0 r213 = (K1 (fF r n) 3) :=
 (by kernel_rfl)
theorem cDp (kk6 : dG) : D213 r n pW (xs x0 0 (K1 (fF r n) 3)) (K4 kk6 3 4 11 12) = (K4 (bMi r n kk6) 3 4 11 12) :=
 (by kernel_rfl)
theorem cQn (m : Nat) : aM (fun kk=>D213 r n pW (xs x0 0 (K1 (fF r n) 3)) kk) m = (K4 (xF r n m) 3 4 11 12):=by
 induction m with
 | zero=>exact (by kernel_rfl : aM (fun kk=>D213 r n pW (xs x0 0 (K1 (fF r n) 3)) kk) 0 = (K4 (xF r n 0) 3 4 11 12))
 | succ m ih =>
  refine (by kernel_rfl : aM (fun kk=>D213 r n pW (xs x0 0 (K1 (fF r n) 3)) kk) (m + 1) = D213 r n pW (xs x0 0 (K1 (fF r n) 3)) (aM (fun kk=>D213 r n pW (xs x0 0 (K1 (fF r n) 3)) kk) m)).trans ?_
  rw [ih]
  exact (cDp r n (xF r n m)).trans (by kernel_rfl)
theorem cZl : D213 r n aMy (xs x0 0 (K1 (fF r n) 3)) (K1 (fF r n) 3) = (K4 (cUy r n) 3 4 11 12) :=
 (by kernel_rfl : D213 r n aMy (xs x0 0 (K1 (fF r n) 3)) (K1 (fF r n) 3) = aM (fun kk=>D213 r n pW (xs x0 0 (K1 (fF r n) 3)) kk) n).trans ((cQn r n n).trans (by kernel_rfl))
theorem dNb : D213 r n bDi x0 (K1 (fF r n) 3) = (K4 (bBp r n) 3 4 11 12) :=
 (by kernel_rfl : D213 r n bDi x0 (K1 (fF r n) 3) = D213 r n aMy (xs x0 0 (K1 (fF r n) 3)) (K1 (fF r n) 3)).trans
 ((cZl r n).trans (by kernel_rfl))
theorem cFv : D213 r n aIz x0 r213 = D213 r n zO x0 (K1 (fF r n) 3) :=
 congrArg (fun k=>D213 r n zO x0 k) (dEq r n)
theorem cVf : D213 r n zO x0 (K1 (fF r n) 3) = D213 r n cVt x0 (K4 (bBp r n) 3 4 11 12) :=
 congrArg (fun k=>D213 r n cVt x0 k) (dNb r n)
theorem dPk : D213 r n aIz x0 r213 = (K3 (aXj r n) 1 3 4) :=
 (cFv r n).trans
 ((cVf r n).trans
 ((by kernel_rfl)))
theorem cRh : D213 r n aJp x0 r213 = D213 r n bJx x0 (K3 (aXj r n) 1 3 4) :=
 congrArg (fun k=>D213 r n bJx x0 k) (dPk r n)
theorem dQa : D213 r n aJp x0 r213 = (K2 (aBt r n) 1 3) :=
 (cRh r n).trans
 ((by kernel_rfl))
theorem cCd : D213 r n aOf x0 r213 = D213 r n aHv x0 (K2 (aBt r n) 1 3) :=
 congrArg (fun k=>D213 r n aHv x0 k) (dQa r n)
theorem cLw (q0 : gP) : D213 r n aHv x0 (K2 q0 1 3) = fun (env : aZ) (h : Hp) =>
 bnd (aA (env 1) h) fun v1 h1 =>
 bnd (bM v1 h1) fun v2 h2 =>
 bnd (cI 1 8 [(aE 0)] v2 v2 h2) fun v3 h3 =>
  q0 (env 1) v3 h3:=by kernel_rfl
theorem bVd : (fun (env : aZ) (h : Hp) =>
 bnd (aA (env 1) h) fun v1 h1 =>
 bnd (bM v1 h1) fun v2 h2 =>
 bnd (cI 1 8 [(aE 0)] v2 v2 h2) fun v3 h3 =>
  aBt r n (env 1) v3 h3) = (K1 (tW r n) 1):=by kernel_rfl
theorem dDw : D213 r n aOf x0 r213 = (K1 (tW r n) 1) :=
 (cCd r n).trans
 ((cLw r n (aBt r n)).trans (bVd r n))
theorem eDv : D213 r n c213 x0 r213 = D213 r n aKy x0 (K1 (tW r n) 1) :=
 congrArg (fun k=>D213 r n aKy x0 k) (dDw r n)
theorem dVl (q0 : TT1) : D213 r n aKy x0 (K1 q0 1) = fun (env : aZ) (h : Hp) =>
 bnd (bZ (env 0) h) fun v1 h1 =>
  q0 v1 h1:=by kernel_rfl
theorem dBt : (fun (env : aZ) (h : Hp) =>
 bnd (bZ (env 0) h) fun v1 h1 =>
  tW r n v1 h1) = (K1 (s213 r n) 0):=by kernel_rfl
theorem eOi : D213 r n c213 x0 r213 = (K1 (s213 r n) 0) :=
 (eDv r n).trans
 ((dVl r n (tW r n)).trans (dBt r n))
theorem dWm : aI CF r n 213 args h = s213 r n (bI args 0) h :=
 (by kernel_rfl : aI CF r n 213 args h = D213 r n c213 x0 r213 (aQ args) h).trans ((congrFun (congrFun (eOi r n) (aQ args)) h).trans (by kernel_rfl))
def bO (r : RT) (n : Nat) (h0 : Hp) : aH :=
 some ((.b true),h0)
def cG (r : RT) (n : Nat) (kk4 : cN) (x0 x1 x11 x12 x13 : DV) (h0 : Hp) : aH :=
 bnd (aC .add x13 (aE 1) h0) fun v1 h1 =>
  kk4 x0 x1 x11 x12 v1 h1
def gO (r : RT) (n : Nat) (kk4 : cN) (x0 x1 x5 x6 x11 x12 x13 : DV) (h0 : Hp) : aH :=
 bnd (aK 3 x6 h0) fun v1 h1 =>
 bnd (r 156 [v1] h1) fun v2 h2 =>
 bnd (aC .geq v2 (aE 0) h2) fun v3 h3 =>
 bnd (gD v3 true (some (v2,h3)) h3) fun v4 h4 =>
 bnd (gD v3 true (some (x0,h4)) h4) fun v5 h5 =>
 bnd (gD v3 true (bM v5 h5) h5) fun v6 h6 =>
 bnd (gD v3 true (aC .geq v4 v6 h6) h6) fun v7 h7 =>
 bnd (gD v3 true (some (v7,h7)) h7) fun v8 h8 =>
 bnd (gD v8 false (some (x1,h8)) h8) fun v9 h9 =>
 bnd (gD v8 false (some (v2,h9)) h9) fun v10 h10 =>
 bnd (gD v8 false (aG 1 v9 v10 h10) h10) fun v11 h11 =>
 bnd (gD v8 false (aA v11 h11) h11) fun v12 h12 =>
 bnd (gD v8 false (some (x1,h12)) h12) fun v13 h13 =>
 bnd (gD v8 false (some (x5,h13)) h13) fun v14 h14 =>
 bnd (gD v8 false (aG 1 v13 v14 h14) h14) fun v15 h15 =>
 bnd (gD v8 false (aA v15 h15) h15) fun v16 h16 =>
 bnd (gD v8 false (aC .neq v12 v16 h16) h16) fun v17 h17 =>
 bnd (gD v3 true (aN v8 (.b true) v17 h17) h17) fun v18 h18 =>
 bnd (aN v3 v18 (.b false) h18) fun v19 h19 =>
 aR v19 (
 some ((.b false),h19)) (
  cG r n kk4 x0 x1 x11 x12 x13 h19)
def wV (r : RT) (n : Nat) (kk4 : cN) (x0 x1 x5 x6 x7 x8 x9 x11 x12 x13 : DV) (h0 : Hp) : aH :=
 bnd (eQ .not x8 h0) fun v1 h1 =>
 bnd (gD v1 false (some (x7,h1)) h1) fun v2 h2 =>
 bnd (gD v1 false (some (x9,h2)) h2) fun v3 h3 =>
 bnd (gD v1 false (aC .gtr v2 v3 h3) h3) fun v4 h4 =>
 bnd (aN v1 (.b true) v4 h4) fun v5 h5 =>
 aR v5 (
 some ((.b false),h5)) (
  gO r n kk4 x0 x1 x5 x6 x11 x12 x13 h5)
def aRb (r : RT) (n : Nat) (kk4 : cN) (x0 x1 x5 x6 x7 x8 x9 x11 x12 x13 : DV) (h0 : Hp) : aH :=
 bnd (aG 1 x1 x5 h0) fun v1 h1 =>
 bnd (aA v1 h1) fun v2 h2 =>
 bnd (aC .geq v2 (aE 0) h2) fun v3 h3 =>
 aR v3 (
 bnd (aG 1 x1 x5 h3) fun v4 h4 =>
 bnd (aA v4 h4) fun v5 h5 =>
 bnd (r 254 [x0,v5] h5) fun v6 h6 =>
 bnd (aF 0 v6 h6) fun v7 h7 =>
 bnd (aF 1 v6 h7) fun v8 h8 =>
  wV r n kk4 x0 x1 x5 x6 x7 x8 v7 x11 x12 x13 h8) (
  wV r n kk4 x0 x1 x5 x6 x7 x8 x9 x11 x12 x13 h3)
def aGs (r : RT) (n : Nat) (kk4 : cN) (x0 x1 x5 x6 x7 x8 x11 x12 x13 : DV) (h0 : Hp) : aH :=
 bnd (bM x0 h0) fun v1 h1 =>
  aRb r n kk4 x0 x1 x5 x6 x7 x8 v1 x11 x12 x13 h1
def bQa (r : RT) (n : Nat) (kk4 : cN) (x0 x1 x5 x6 x11 x12 x13 : DV) (h0 : Hp) : aH :=
 bnd (r 254 [x0,x5] h0) fun v1 h1 =>
 bnd (aF 0 v1 h1) fun v2 h2 =>
 bnd (aF 1 v1 h2) fun v3 h3 =>
  aGs r n kk4 x0 x1 x5 x6 v2 v3 x11 x12 x13 h3
def aNr (r : RT) (n : Nat) (kk4 : cN) (x0 x1 x5 x6 x11 x12 x13 x20 : DV) (h0 : Hp) : aH :=
 aR x20 (
  bQa r n kk4 x0 x1 x5 x6 x11 x12 x13 h0) (
  gO r n kk4 x0 x1 x5 x6 x11 x12 x13 h0)
def aDk (r : RT) (n : Nat) (kk4 : cN) (x0 x1 x5 x6 x11 x12 x13 : DV) (h0 : Hp) : aH :=
 fM 0 x6 h0 fun v1 h1 =>
 bnd (aC .eql v1 (aE 18) h1) fun v2 h2 =>
  aNr r n kk4 x0 x1 x5 x6 x11 x12 x13 v2 h2
def aIt (r : RT) (n : Nat) (kk4 : cN) (x0 x1 x11 x12 x13 : DV) (h0 : Hp) : aH :=
 bnd (aG 3 x11 x13 h0) fun v1 h1 =>
 bnd (aK 3 v1 h1) fun v2 h2 =>
 bnd (bQ [(aE 0),(aE 0),(aE 0)] h2) fun v3 h3 =>
 bnd (aJ 3 v3 v2 h3) fun _ h4 =>
  aDk r n kk4 x0 x1 x13 v3 x11 x12 x13 h4
def aYe (r : RT) (n : Nat) (kk4 : cN) (x0 x1 x11 x12 x13 x14 : DV) (h0 : Hp) : aH :=
 aR x14 (
  aIt r n kk4 x0 x1 x11 x12 x13 h0) (
  bO r n h0)
def bKn (r : RT) (n : Nat) (kk4 : cN) (x0 x1 x11 x12 x13 : DV) (h0 : Hp) : aH :=
 bnd (aC .lss x13 x12 h0) fun v1 h1 =>
  aYe r n kk4 x0 x1 x11 x12 x13 v1 h1
def xA (r : RT) (n : Nat) (m : Nat) : cN :=
 Nat.rec (motive:=fun _=>cN) (fun _ _ _ _ _ _=>none) (fun _ ih=>bKn r n ih) m
def cIv (r : RT) (n : Nat) : cN:=xA r n n
def bDa (r : RT) (n : Nat) (x0 x1 x11 x12 x13 : DV) (h0 : Hp) : aH :=
 cIv r n x0 x1 x11 x12 x13 h0
def aYm (r : RT) (n : Nat) (x0 x1 : DV) (h0 : Hp) : aH :=
 bnd (bM x0 h0) fun v1 h1 =>
  bDa r n x0 x1 x0 v1 (aE 0) h1
def s214 (r : RT) (n : Nat) (x0 x1 : DV) (h0 : Hp) : aH :=
 aYm r n x0 x1 h0
abbrev c214 : Code:=cf Tryz.f214
abbrev aRo : Code:=cR c214
abbrev dTv : Code:=cR aRo
abbrev aCs : Code:=cL aRo
abbrev aVz : Code:=cR aCs
abbrev aRd : Code:=cL aVz
abbrev lJ : Code:=cL aRd
abbrev aNv : Code:=cR lJ
abbrev aNq : Code:=cR aNv
abbrev eEu : Code:=cR aNq
abbrev wI : Code:=cL aNq
abbrev yB : Code:=cL wI
abbrev wE : Code:=cR yB
abbrev cYc : Code:=cR wE
abbrev qZ : Code:=cL wE
abbrev tB : Code:=cR qZ
abbrev sE : Code:=cL tB
abbrev wD : Code:=cR sE
abbrev yQ : Code:=cR wD
abbrev dGu : Code:=cR yQ
abbrev bMv : Code:=cL yQ
abbrev bKi : Code:=cL wD
abbrev bHv : Code:=cL sE
abbrev cYb : Code:=cR tB
abbrev bHr : Code:=cL qZ
abbrev aRe : Code:=cL yB
abbrev bIc : Code:=cL aNv
abbrev bFh : Code:=cL lJ
abbrev bHy : Code:=cL aCs
abbrev bPo : Code:=cL c214
abbrev r214 : K:=bE CF Tryz.f214
def D214 (r : RT) (n : Nat) (c : Code) (X : Nat → K) (k : K) : K:=aW CF r 72 n c X r214 k
theorem dBu : D214 r n dTv x0 r214 = (K0 (bO r n)) :=
 (by kernel_rfl)
theorem dMi (kk4 : cN) : D214 r n eEu (xs x0 0 (K0 (bO r n))) (K5 kk4 0 1 11 12 13) = (K5 (cG r n kk4) 0 1 11 12 13) :=
 (by kernel_rfl)
theorem dIu (kk4 : cN) : D214 r n cYc (xs (xs x0 0 (K0 (bO r n))) 1 (K5 (cG r n kk4) 0 1 11 12 13)) (K5 (cG r n kk4) 0 1 11 12 13) = (K7 (gO r n kk4) 0 1 5 6 11 12 13) :=
 (by kernel_rfl)
theorem cUm (kk4 : cN) : D214 r n dGu (xs (xs x0 0 (K0 (bO r n))) 1 (K5 (cG r n kk4) 0 1 11 12 13)) (K7 (gO r n kk4) 0 1 5 6 11 12 13) = (K10 (wV r n kk4) 0 1 5 6 7 8 9 11 12 13) :=
 (by kernel_rfl)
theorem bWo (kk4 : cN) : D214 r n yQ (xs (xs x0 0 (K0 (bO r n))) 1 (K5 (cG r n kk4) 0 1 11 12 13)) (K7 (gO r n kk4) 0 1 5 6 11 12 13) = D214 r n bMv (xs (xs x0 0 (K0 (bO r n))) 1 (K5 (cG r n kk4) 0 1 11 12 13)) (K10 (wV r n kk4) 0 1 5 6 7 8 9 11 12 13) :=
 congrArg (fun k=>D214 r n bMv (xs (xs x0 0 (K0 (bO r n))) 1 (K5 (cG r n kk4) 0 1 11 12 13)) k) (cUm r n kk4)
theorem cIg (kk4 : cN) : D214 r n yQ (xs (xs x0 0 (K0 (bO r n))) 1 (K5 (cG r n kk4) 0 1 11 12 13)) (K7 (gO r n kk4) 0 1 5 6 11 12 13) = (K10 (aRb r n kk4) 0 1 5 6 7 8 9 11 12 13) :=
 (bWo r n kk4).trans
 ((by kernel_rfl))
theorem bRi (kk4 : cN) : D214 r n wD (xs (xs x0 0 (K0 (bO r n))) 1 (K5 (cG r n kk4) 0 1 11 12 13)) (K7 (gO r n kk4) 0 1 5 6 11 12 13) = D214 r n bKi (xs (xs x0 0 (K0 (bO r n))) 1 (K5 (cG r n kk4) 0 1 11 12 13)) (K10 (aRb r n kk4) 0 1 5 6 7 8 9 11 12 13) :=
 congrArg (fun k=>D214 r n bKi (xs (xs x0 0 (K0 (bO r n))) 1 (K5 (cG r n kk4) 0 1 11 12 13)) k) (cIg r n kk4)
theorem cKo (kk4 : cN) : D214 r n wD (xs (xs x0 0 (K0 (bO r n))) 1 (K5 (cG r n kk4) 0 1 11 12 13)) (K7 (gO r n kk4) 0 1 5 6 11 12 13) = (K9 (aGs r n kk4) 0 1 5 6 7 8 11 12 13) :=
 (bRi r n kk4).trans
 ((by kernel_rfl))
theorem bVo (kk4 : cN) : D214 r n sE (xs (xs x0 0 (K0 (bO r n))) 1 (K5 (cG r n kk4) 0 1 11 12 13)) (K7 (gO r n kk4) 0 1 5 6 11 12 13) = D214 r n bHv (xs (xs x0 0 (K0 (bO r n))) 1 (K5 (cG r n kk4) 0 1 11 12 13)) (K9 (aGs r n kk4) 0 1 5 6 7 8 11 12 13) :=
 congrArg (fun k=>D214 r n bHv (xs (xs x0 0 (K0 (bO r n))) 1 (K5 (cG r n kk4) 0 1 11 12 13)) k) (cKo r n kk4)
theorem bXa (kk4 : cN) : D214 r n sE (xs (xs x0 0 (K0 (bO r n))) 1 (K5 (cG r n kk4) 0 1 11 12 13)) (K7 (gO r n kk4) 0 1 5 6 11 12 13) = (K7 (bQa r n kk4) 0 1 5 6 11 12 13) :=
 (bVo r n kk4).trans
 ((by kernel_rfl))
theorem bZq (kk4 : cN) : D214 r n tB (xs (xs x0 0 (K0 (bO r n))) 1 (K5 (cG r n kk4) 0 1 11 12 13)) (K7 (gO r n kk4) 0 1 5 6 11 12 13) = (K8 (aNr r n kk4) 0 1 5 6 11 12 13 20) :=
 (by kernel_rfl : D214 r n tB (xs (xs x0 0 (K0 (bO r n))) 1 (K5 (cG r n kk4) 0 1 11 12 13)) (K7 (gO r n kk4) 0 1 5 6 11 12 13) = (fun (env : aZ) (h : Hp)=>aR (opr env (cC tB)) (D214 r n sE (xs (xs x0 0 (K0 (bO r n))) 1 (K5 (cG r n kk4) 0 1 11 12 13)) (K7 (gO r n kk4) 0 1 5 6 11 12 13) env h) (D214 r n cYb (xs (xs x0 0 (K0 (bO r n))) 1 (K5 (cG r n kk4) 0 1 11 12 13)) (K7 (gO r n kk4) 0 1 5 6 11 12 13) env h))).trans (by rw [bXa r n kk4]; kernel_rfl)
theorem bXu (kk4 : cN) : D214 r n wE (xs (xs x0 0 (K0 (bO r n))) 1 (K5 (cG r n kk4) 0 1 11 12 13)) (K5 (cG r n kk4) 0 1 11 12 13) = D214 r n qZ (xs (xs x0 0 (K0 (bO r n))) 1 (K5 (cG r n kk4) 0 1 11 12 13)) (K7 (gO r n kk4) 0 1 5 6 11 12 13) :=
 congrArg (fun k=>D214 r n qZ (xs (xs x0 0 (K0 (bO r n))) 1 (K5 (cG r n kk4) 0 1 11 12 13)) k) (dIu r n kk4)
theorem cFn (kk4 : cN) : D214 r n qZ (xs (xs x0 0 (K0 (bO r n))) 1 (K5 (cG r n kk4) 0 1 11 12 13)) (K7 (gO r n kk4) 0 1 5 6 11 12 13) = D214 r n bHr (xs (xs x0 0 (K0 (bO r n))) 1 (K5 (cG r n kk4) 0 1 11 12 13)) (K8 (aNr r n kk4) 0 1 5 6 11 12 13 20) :=
 congrArg (fun k=>D214 r n bHr (xs (xs x0 0 (K0 (bO r n))) 1 (K5 (cG r n kk4) 0 1 11 12 13)) k) (bZq r n kk4)
theorem cYx (kk4 : cN) : D214 r n wE (xs (xs x0 0 (K0 (bO r n))) 1 (K5 (cG r n kk4) 0 1 11 12 13)) (K5 (cG r n kk4) 0 1 11 12 13) = (K7 (aDk r n kk4) 0 1 5 6 11 12 13) :=
 (bXu r n kk4).trans
 ((cFn r n kk4).trans
 ((by kernel_rfl)))
theorem cMr (kk4 : cN) : D214 r n aNq (xs x0 0 (K0 (bO r n))) (K5 kk4 0 1 11 12 13) = D214 r n wI (xs x0 0 (K0 (bO r n))) (K5 (cG r n kk4) 0 1 11 12 13) :=
 congrArg (fun k=>D214 r n wI (xs x0 0 (K0 (bO r n))) k) (dMi r n kk4)
theorem cNe (kk4 : cN) : D214 r n yB (xs (xs x0 0 (K0 (bO r n))) 1 (K5 (cG r n kk4) 0 1 11 12 13)) (K5 (cG r n kk4) 0 1 11 12 13) = D214 r n aRe (xs (xs x0 0 (K0 (bO r n))) 1 (K5 (cG r n kk4) 0 1 11 12 13)) (K7 (aDk r n kk4) 0 1 5 6 11 12 13) :=
 congrArg (fun k=>D214 r n aRe (xs (xs x0 0 (K0 (bO r n))) 1 (K5 (cG r n kk4) 0 1 11 12 13)) k) (cYx r n kk4)
theorem cGb (kk4 : cN) (q0 : TT7) (q1 : Hp → aH) (q2 : cN) : D214 r n aRe (xs (xs x0 0 (K0 q1)) 1 (K5 q2 0 1 11 12 13)) (K7 q0 0 1 5 6 11 12 13) = fun (env : aZ) (h : Hp) =>
 bnd (aG 3 (env 11) (env 13) h) fun v1 h1 =>
 bnd (aK 3 v1 h1) fun v2 h2 =>
 bnd (bQ [(aE 0),(aE 0),(aE 0)] h2) fun v3 h3 =>
 bnd (aJ 3 v3 v2 h3) fun _ h4 =>
  q0 (env 0) (env 1) (env 13) v3 (env 11) (env 12) (env 13) h4:=by kernel_rfl
theorem bSf (kk4 : cN) : (fun (env : aZ) (h : Hp) =>
 bnd (aG 3 (env 11) (env 13) h) fun v1 h1 =>
 bnd (aK 3 v1 h1) fun v2 h2 =>
 bnd (bQ [(aE 0),(aE 0),(aE 0)] h2) fun v3 h3 =>
 bnd (aJ 3 v3 v2 h3) fun _ h4 =>
  aDk r n kk4 (env 0) (env 1) (env 13) v3 (env 11) (env 12) (env 13) h4) = (K5 (aIt r n kk4) 0 1 11 12 13):=by kernel_rfl
theorem dPn (kk4 : cN) : D214 r n aNq (xs x0 0 (K0 (bO r n))) (K5 kk4 0 1 11 12 13) = (K5 (aIt r n kk4) 0 1 11 12 13) :=
 (cMr r n kk4).trans
 ((by kernel_rfl : D214 r n wI (xs x0 0 (K0 (bO r n))) (K5 (cG r n kk4) 0 1 11 12 13) = D214 r n yB (xs (xs x0 0 (K0 (bO r n))) 1 (K5 (cG r n kk4) 0 1 11 12 13)) (K5 (cG r n kk4) 0 1 11 12 13)).trans
 ((cNe r n kk4).trans
 ((cGb r n kk4 (aDk r n kk4) (bO r n) (cG r n kk4)).trans (bSf r n kk4))))
theorem cSm (kk4 : cN) : D214 r n aNv (xs x0 0 (K0 (bO r n))) (K5 kk4 0 1 11 12 13) = D214 r n bIc (xs x0 0 (K0 (bO r n))) (K5 (aIt r n kk4) 0 1 11 12 13) :=
 congrArg (fun k=>D214 r n bIc (xs x0 0 (K0 (bO r n))) k) (dPn r n kk4)
theorem dFz (kk4 : cN) : D214 r n aNv (xs x0 0 (K0 (bO r n))) (K5 kk4 0 1 11 12 13) = (K6 (aYe r n kk4) 0 1 11 12 13 14) :=
 (cSm r n kk4).trans
 ((by kernel_rfl))
theorem bQp (kk4 : cN) : D214 r n lJ (xs x0 0 (K0 (bO r n))) (K5 kk4 0 1 11 12 13) = D214 r n bFh (xs x0 0 (K0 (bO r n))) (K6 (aYe r n kk4) 0 1 11 12 13 14) :=
 congrArg (fun k=>D214 r n bFh (xs x0 0 (K0 (bO r n))) k) (dFz r n kk4)
theorem cGo (kk4 : cN) : D214 r n lJ (xs x0 0 (K0 (bO r n))) (K5 kk4 0 1 11 12 13) = (K5 (bKn r n kk4) 0 1 11 12 13) :=
 (bQp r n kk4).trans
 ((by kernel_rfl))
theorem cBn (m : Nat) : aM (fun kk=>D214 r n lJ (xs x0 0 (K0 (bO r n))) kk) m = (K5 (xA r n m) 0 1 11 12 13):=by
 induction m with
 | zero=>exact (by kernel_rfl : aM (fun kk=>D214 r n lJ (xs x0 0 (K0 (bO r n))) kk) 0 = (K5 (xA r n 0) 0 1 11 12 13))
 | succ m ih =>
  refine (by kernel_rfl : aM (fun kk=>D214 r n lJ (xs x0 0 (K0 (bO r n))) kk) (m + 1) = D214 r n lJ (xs x0 0 (K0 (bO r n))) (aM (fun kk=>D214 r n lJ (xs x0 0 (K0 (bO r n))) kk) m)).trans ?_
  rw [ih]
  exact (cGo r n (xA r n m)).trans (by kernel_rfl)
theorem dIi : D214 r n aRd (xs x0 0 (K0 (bO r n))) (K0 (bO r n)) = (K5 (cIv r n) 0 1 11 12 13) :=
 (by kernel_rfl : D214 r n aRd (xs x0 0 (K0 (bO r n))) (K0 (bO r n)) = aM (fun kk=>D214 r n lJ (xs x0 0 (K0 (bO r n))) kk) n).trans ((cBn r n n).trans (by kernel_rfl))
theorem dNi : D214 r n aVz x0 (K0 (bO r n)) = (K5 (bDa r n) 0 1 11 12 13) :=
 (by kernel_rfl : D214 r n aVz x0 (K0 (bO r n)) = D214 r n aRd (xs x0 0 (K0 (bO r n))) (K0 (bO r n))).trans
 ((dIi r n).trans (by kernel_rfl))
theorem bTg : D214 r n aRo x0 r214 = D214 r n aCs x0 (K0 (bO r n)) :=
 congrArg (fun k=>D214 r n aCs x0 k) (dBu r n)
theorem bQv : D214 r n aCs x0 (K0 (bO r n)) = D214 r n bHy x0 (K5 (bDa r n) 0 1 11 12 13) :=
 congrArg (fun k=>D214 r n bHy x0 k) (dNi r n)
theorem dCy : D214 r n aRo x0 r214 = (K2 (aYm r n) 0 1) :=
 (bTg r n).trans
 ((bQv r n).trans
 ((by kernel_rfl)))
theorem dKe : D214 r n c214 x0 r214 = D214 r n bPo x0 (K2 (aYm r n) 0 1) :=
 congrArg (fun k=>D214 r n bPo x0 k) (dCy r n)
theorem eKb : D214 r n c214 x0 r214 = (K2 (s214 r n) 0 1) :=
 (dKe r n).trans
 ((by kernel_rfl))
theorem eEg : aI CF r n 214 args h = s214 r n (bI args 0) (bI args 1) h :=
 (by kernel_rfl : aI CF r n 214 args h = D214 r n c214 x0 r214 (aQ args) h).trans ((congrFun (congrFun (eKb r n) (aQ args)) h).trans (by kernel_rfl))
end Go.Dd

namespace Go.Dd
open Go.Proofs
variable (r : RT) (n : Nat) (args : List DV) (h : Hp)
def bV (r : RT) (n : Nat) (x6 x9 : DV) (h0 : Hp) : aH :=
 bnd (aA x6 h0) fun v1 h1 =>
 bnd (aA x9 h1) fun v2 h2 =>
 some (.t [v1,v2],h2)
def wF (r : RT) (n : Nat) (kk9 : fZ) (x2 x3 x6 x7 x9 x10 x11 x14 : DV) (h0 : Hp) : aH :=
 bnd (aC .add x11 (aE 1) h0) fun v1 h1 =>
 bnd (aA x3 h1) fun v2 h2 =>
 bnd (aG 1 v2 x11 h2) fun v3 h3 =>
 bnd (aA v3 h3) fun v4 h4 =>
 bnd (iA CF r x10 [v1,v4,x14] h4) fun v5 h5 =>
  kk9 x2 x3 x6 x7 x9 x10 h5
def aOo (r : RT) (n : Nat) (kk9 : fZ) (x2 x3 x6 x7 x9 x10 x11 x12 x13 x14 : DV) (h0 : Hp) : aH :=
 fM 0 x12 h0 fun v1 h1 =>
 bnd (aC .eql v1 (aE 19) h1) fun v2 h2 =>
 aR v2 (
 bnd (aC .neq x13 (aE 1) h2) fun v3 h3 =>
 bnd (gD v3 false (aA x3 h3) h3) fun v4 h4 =>
 bnd (gD v3 false (some (x11,h4)) h4) fun v5 h5 =>
 bnd (gD v3 false (aG 1 v4 v5 h5) h5) fun v6 h6 =>
 bnd (gD v3 false (aA v6 h6) h6) fun v7 h7 =>
 bnd (gD v3 false (aC .lss v7 (aE 0) h7) h7) fun v8 h8 =>
 bnd (aN v3 (.b true) v8 h8) fun v9 h9 =>
 aR v9 (
 some (.t [.l0,(.b false)],h9)) (
   kk9 x2 x3 x6 x7 x9 x10 h9)) (
 bnd (aC .eql v1 (aE 20) h2) fun v10 h10 =>
 aR v10 (
   kk9 x2 x3 x6 x7 x9 x10 h10) (
 bnd (aC .eql v1 (aE 16) h10) fun v11 h11 =>
 aR v11 (
 bnd (aK 3 x12 h11) fun v12 h12 =>
 bnd (r 156 [v12] h12) fun v13 h13 =>
 bnd (aA x3 h13) fun v14 h14 =>
 cnd (aX (aA x3 h11) v14 && true) (
 bnd (aG 1 v14 x11 h14) fun v15 h15 =>
 bnd (aA v15 h15) fun v16 h16 =>
 cnd (aX (aA v15 h11) v16 && true) (
 bnd (iA CF r x10 [v13,v16,x14] h16) fun v17 h17 =>
    kk9 x2 x3 x6 x7 x9 x10 h17))) (
 bnd (aC .eql v1 (aE 17) h11) fun v18 h18 =>
 aR v18 (
 bnd (aK 3 x12 h18) fun v19 h19 =>
 bnd (r 156 [v19] h19) fun v20 h20 =>
 bnd (aA x3 h20) fun v21 h21 =>
 cnd (aX (aA x3 h18) v21 && true) (
 bnd (aG 1 v21 x11 h21) fun v22 h22 =>
 bnd (aA v22 h22) fun v23 h23 =>
 cnd (aX (aA v22 h18) v23 && true) (
 bnd (iA CF r x10 [v20,v23,x14] h23) fun v24 h24 =>
     wF r n kk9 x2 x3 x6 x7 x9 x10 x11 x14 h24))) (
     wF r n kk9 x2 x3 x6 x7 x9 x10 x11 x14 h18))))
def aJt (r : RT) (n : Nat) (kk9 : fZ) (x2 x3 x6 x7 x9 x10 x11 x12 x13 x14 : DV) (h0 : Hp) : aH :=
 bnd (aK 3 x12 h0) fun v1 h1 =>
 bnd (r 257 [v1] h1) fun v2 h2 =>
 bnd (aC .lss x13 v2 h2) fun v3 h3 =>
 bnd (gD v3 false (some (x14,h3)) h3) fun v4 h4 =>
 bnd (gD v3 false (aC .gtr v4 (aE 24) h4) h4) fun v5 h5 =>
 bnd (aN v3 (.b true) v5 h5) fun v6 h6 =>
 aR v6 (
 some (.t [.l0,(.b false)],h6)) (
  aOo r n kk9 x2 x3 x6 x7 x9 x10 x11 x12 x13 x14 h6)
def aHk (r : RT) (n : Nat) (kk9 : fZ) (x2 x3 x6 x7 x9 x10 x11 x12 x13 : DV) (h0 : Hp) : aH :=
 bnd (aK 3 x12 h0) fun v1 h1 =>
 bnd (r 256 [v1] h1) fun v2 h2 =>
 bnd (aC .add x13 v2 h2) fun v3 h3 =>
  aJt r n kk9 x2 x3 x6 x7 x9 x10 x11 x12 x13 v3 h3
def aLx (r : RT) (n : Nat) (kk9 : fZ) (x2 x3 x6 x7 x9 x10 x11 : DV) (h0 : Hp) : aH :=
 bnd (aA x2 (resv 1 h0)) fun v1 h1 =>
 bnd (aG 3 v1 x11 h1) fun v2 h2 =>
 bnd (aK 3 v2 h2) fun v3 h3 =>
 bnd (aA x6 h3) fun v4 h4 =>
 bnd (aG 1 v4 x11 h4) fun v5 h5 =>
 bnd (aA v5 h5) fun v6 h6 =>
 bnd (nA (bX 0 h0.next) [(aE 0),(aE 0),(aE 0)] h6) fun v7 h7 =>
 bnd (aJ 3 v7 v3 h7) fun v8 h8 =>
 cnd (aX (aA v5 h8) v6 && (aX (aA x6 h8) v4 && true)) (
  aHk r n kk9 x2 x3 x6 x7 x9 x10 x11 v7 v6 h8)
def aOy (r : RT) (n : Nat) (kk9 : fZ) (x2 x3 x6 x7 x9 x10 x11 : DV) (h0 : Hp) : aH :=
 bnd (aA x7 h0) fun v1 h1 =>
 bnd (aA x7 h1) fun v2 h2 =>
 bnd (bM v2 h2) fun v3 h3 =>
 bnd (aC .sub v3 (aE 1) h3) fun v4 h4 =>
 bnd (eL 1 v1 none (some v4) h4) fun v5 h5 =>
 bnd (aJ 1 x7 v5 h5) fun _ h6 =>
  aLx r n kk9 x2 x3 x6 x7 x9 x10 x11 h6
def aNx (r : RT) (n : Nat) (kk9 : fZ) (x2 x3 x6 x7 x9 x10 : DV) (h0 : Hp) : aH :=
 bnd (aA x7 h0) fun v1 h1 =>
 bnd (aA x7 h1) fun v2 h2 =>
 bnd (bM v2 h2) fun v3 h3 =>
 bnd (aC .sub v3 (aE 1) h3) fun v4 h4 =>
 bnd (aG 1 v1 v4 h4) fun v5 h5 =>
 bnd (aA v5 h5) fun v6 h6 =>
  aOy r n kk9 x2 x3 x6 x7 x9 x10 v6 h6
def bLb (r : RT) (n : Nat) (kk9 : fZ) (x2 x3 x6 x7 x9 x10 : DV) (h0 : Hp) : aH :=
 bnd (aA x7 h0) fun v1 h1 =>
 bnd (bM v1 h1) fun v2 h2 =>
 bnd (aC .gtr v2 (aE 0) h2) fun v3 h3 =>
 bnd (gD v3 true (aA x9 h3) h3) fun v4 h4 =>
 bnd (aN v3 v4 (.b false) h4) fun v5 h5 =>
 aR v5 (
   aNx r n kk9 x2 x3 x6 x7 x9 x10 h5) (
   bV r n x6 x9 h5)
def yS (r : RT) (n : Nat) (m : Nat) : fZ :=
 Nat.rec (motive:=fun _=>fZ) (fun _ _ _ _ _ _ _=>none) (fun _ ih=>bLb r n ih) m
def cCf (r : RT) (n : Nat) : fZ:=yS r n n
def aXy (r : RT) (n : Nat) (x2 x3 x6 x7 x9 x10 : DV) (h0 : Hp) : aH :=
 cCf r n x2 x3 x6 x7 x9 x10 h0
def aXd (r : RT) (n : Nat) (x2 x3 x6 x7 x9 x10 : DV) (h0 : Hp) : aH :=
 aXy r n x2 x3 x6 x7 x9 x10 h0
def aCq (r : RT) (n : Nat) (x2 x3 x6 x7 x9 : DV) (h0 : Hp) : aH :=
 aXd r n x2 x3 x6 x7 x9 (.f 255 [] [x2,x3,x6,x9,x7]) h0
def cP (r : RT) (n : Nat) (x2 x3 x6 x7 : DV) (h0 : Hp) : aH :=
 bnd (bQ [(.b false)] h0) fun v1 h1 =>
 bnd (aJ 1 v1 (.b true) h1) fun _ h2 =>
  aCq r n x2 x3 x6 x7 v1 h2
def mX (r : RT) (n : Nat) (kk18 : fZ) (x2 x3 x6 x7 x19 x20 : DV) (h0 : Hp) : aH :=
 bnd (aC .add x20 (aE 1) h0) fun v1 h1 =>
  kk18 x2 x3 x6 x7 x19 v1 h1
def yH (r : RT) (n : Nat) (kk18 : fZ) (x2 x3 x6 x7 x19 x20 : DV) (h0 : Hp) : aH :=
 bnd (aA x6 h0) fun v1 h1 =>
 bnd (aG 1 v1 x20 h1) fun v2 h2 =>
 bnd (aJ 1 v2 (.i .i64 (Int.negSucc 0)) h2) fun _ h3 =>
 bnd (aC .eql x20 (aE 0) h3) fun v4 h4 =>
 bnd (gD v4 false (some (x20,h4)) h4) fun v5 h5 =>
 bnd (gD v4 false (aC .gtr v5 (aE 1) h5) h5) fun v6 h6 =>
 bnd (gD v4 false (some (v6,h6)) h6) fun v7 h7 =>
 bnd (gD v7 true (aA x2 h7) h7) fun v8 h8 =>
 bnd (gD v7 true (some (x20,h8)) h8) fun v9 h9 =>
 bnd (gD v7 true (aC .sub v9 (aE 2) h9) h9) fun v10 h10 =>
 bnd (gD v7 true (aG 3 v8 v10 h10) h10) fun v11 h11 =>
 bnd (gD v7 true (aB 0 v11 h11) h11) fun v12 h12 =>
 bnd (gD v7 true (aA v12 h12) h12) fun v13 h13 =>
 bnd (gD v7 true (aC .eql v13 (aE 18) h13) h13) fun v14 h14 =>
 bnd (gD v4 false (aN v7 v14 (.b false) h14) h14) fun v15 h15 =>
 bnd (gD v4 false (some (v15,h15)) h15) fun v16 h16 =>
 bnd (gD v16 true (aA x3 h16) h16) fun v17 h17 =>
 bnd (gD v16 true (some (x20,h17)) h17) fun v18 h18 =>
 bnd (gD v16 true (aG 1 v17 v18 h18) h18) fun v19 h19 =>
 bnd (gD v16 true (aA v19 h19) h19) fun v20 h20 =>
 bnd (gD v16 true (some (x20,h20)) h20) fun v21 h21 =>
 bnd (gD v16 true (aC .sub v21 (aE 2) h21) h21) fun v22 h22 =>
 bnd (gD v16 true (aC .eql v20 v22 h22) h22) fun v23 h23 =>
 bnd (gD v4 false (aN v16 v23 (.b false) h23) h23) fun v24 h24 =>
 bnd (aN v4 (.b true) v24 h24) fun v25 h25 =>
 aR v25 (
 bnd (aA x6 h25) fun v26 h26 =>
 bnd (aG 1 v26 x20 h26) fun v27 h27 =>
 bnd (aJ 1 v27 (aE 0) h27) fun _ h28 =>
 bnd (aA x7 h28) fun v29 h29 =>
 bnd (aS [(aE 0)] 1 [(0,1,x20)] h29) fun v30 h30 =>
 bnd (bH 1 8 v29 v30 h30) fun v31 h31 =>
 bnd (aJ 1 x7 v31 h31) fun _ h32 =>
  mX r n kk18 x2 x3 x6 x7 x19 x20 h32) (
  mX r n kk18 x2 x3 x6 x7 x19 x20 h25)
def aOk (r : RT) (n : Nat) (kk18 : fZ) (x2 x3 x6 x7 x19 x20 x21 : DV) (h0 : Hp) : aH :=
 aR x21 (
  yH r n kk18 x2 x3 x6 x7 x19 x20 h0) (
  cP r n x2 x3 x6 x7 h0)
def aTr (r : RT) (n : Nat) (kk18 : fZ) (x2 x3 x6 x7 x19 x20 : DV) (h0 : Hp) : aH :=
 bnd (aC .lss x20 x19 h0) fun v1 h1 =>
  aOk r n kk18 x2 x3 x6 x7 x19 x20 v1 h1
def rR (r : RT) (n : Nat) (m : Nat) : fZ :=
 Nat.rec (motive:=fun _=>fZ) (fun _ _ _ _ _ _ _=>none) (fun _ ih=>aTr r n ih) m
def bIv (r : RT) (n : Nat) : fZ:=rR r n n
def aQg (r : RT) (n : Nat) (x2 x3 x6 x7 x19 x20 : DV) (h0 : Hp) : aH :=
 bIv r n x2 x3 x6 x7 x19 x20 h0
def aDt (r : RT) (n : Nat) (x2 x3 x6 x7 : DV) (h0 : Hp) : aH :=
 bnd (aA x6 h0) fun v1 h1 =>
 bnd (bM v1 h1) fun v2 h2 =>
  aQg r n x2 x3 x6 x7 v2 (aE 0) h2
def uE (r : RT) (n : Nat) (x2 x3 x6 : DV) (h0 : Hp) : aH :=
 bnd (bQ [.l0] h0) fun v1 h1 =>
  aDt r n x2 x3 x6 v1 h1
def uN (r : RT) (n : Nat) (x2 x3 : DV) (h0 : Hp) : aH :=
 bnd (aA x2 h0) fun v1 h1 =>
 bnd (bM v1 h1) fun v2 h2 =>
 bnd (cI 1 8 [(aE 0)] v2 v2 h2) fun v3 h3 =>
 bnd (bQ [.l0] h3) fun v4 h4 =>
 bnd (aJ 1 v4 v3 h4) fun _ h5 =>
  uE r n x2 x3 v4 h5
def s215 (r : RT) (n : Nat) (x0 x1 : DV) (h0 : Hp) : aH :=
 bnd (bZ x0 h0) fun v1 h1 =>
 bnd (bZ x1 h1) fun v2 h2 =>
  uN r n v1 v2 h2
abbrev c215 : Code:=cf Tryz.f215
abbrev aZs : Code:=cR c215
abbrev aHr : Code:=cL aZs
abbrev aGt : Code:=cR aHr
abbrev aLf : Code:=cR aGt
abbrev aIw : Code:=cR aLf
abbrev aPm : Code:=cR aIw
abbrev aJa : Code:=cR aPm
abbrev aRn : Code:=cR aJa
abbrev eEw : Code:=cR aRn
abbrev yC : Code:=cL aRn
abbrev xH : Code:=cL yC
abbrev jJ : Code:=cL xH
abbrev aOt : Code:=cR jJ
abbrev xV : Code:=cL aOt
abbrev yI : Code:=cR xV
abbrev wG : Code:=cR yI
abbrev xM : Code:=cR wG
abbrev xT : Code:=cR xM
abbrev wR : Code:=cR xT
abbrev dIt : Code:=cR wR
abbrev bMl : Code:=cL wR
abbrev bJo : Code:=cL xT
abbrev bOf : Code:=cL xM
abbrev bNf : Code:=cL wG
abbrev bNu : Code:=cL yI
abbrev bGd : Code:=cL xV
abbrev bEq : Code:=cL jJ
abbrev bQc : Code:=cL aJa
abbrev bIs : Code:=cL aPm
abbrev aLh : Code:=cL aIw
abbrev rQ : Code:=cL aLf
abbrev aNn : Code:=cR rQ
abbrev yD : Code:=cL aNn
abbrev jH : Code:=cL yD
abbrev xU : Code:=cR jH
abbrev yP : Code:=cR xU
abbrev dDf : Code:=cR yP
abbrev aGq : Code:=cL yP
abbrev bLo : Code:=cL xU
abbrev bHn : Code:=cL jH
abbrev bMu : Code:=cL rQ
abbrev aKt : Code:=cL aGt
abbrev aQy : Code:=cL aHr
abbrev aJz : Code:=cL c215
abbrev r215 : K:=bE CF Tryz.f215
def D215 (r : RT) (n : Nat) (c : Code) (X : Nat → K) (k : K) : K:=aW CF r 144 n c X r215 k
theorem dEs : D215 r n eEw x0 r215 = (K2 (bV r n) 6 9) :=
 (by kernel_rfl)
theorem cVq (kk9 : fZ) : D215 r n dIt (xs (xs x0 2 (K2 (bV r n) 6 9)) 3 (K6 kk9 2 3 6 7 9 10)) (K6 kk9 2 3 6 7 9 10) = (K8 (wF r n kk9) 2 3 6 7 9 10 11 14) :=
 (by kernel_rfl)
theorem bVy (kk9 : fZ) : D215 r n wR (xs (xs x0 2 (K2 (bV r n) 6 9)) 3 (K6 kk9 2 3 6 7 9 10)) (K6 kk9 2 3 6 7 9 10) = D215 r n bMl (xs (xs x0 2 (K2 (bV r n) 6 9)) 3 (K6 kk9 2 3 6 7 9 10)) (K8 (wF r n kk9) 2 3 6 7 9 10 11 14) :=
 congrArg (fun k=>D215 r n bMl (xs (xs x0 2 (K2 (bV r n) 6 9)) 3 (K6 kk9 2 3 6 7 9 10)) k) (cVq r n kk9)
theorem cGl (kk9 : fZ) : D215 r n wR (xs (xs x0 2 (K2 (bV r n) 6 9)) 3 (K6 kk9 2 3 6 7 9 10)) (K6 kk9 2 3 6 7 9 10) = (K10 (aOo r n kk9) 2 3 6 7 9 10 11 12 13 14) :=
 (bVy r n kk9).trans
 ((by kernel_rfl))
theorem bUv (kk9 : fZ) : D215 r n xT (xs (xs x0 2 (K2 (bV r n) 6 9)) 3 (K6 kk9 2 3 6 7 9 10)) (K6 kk9 2 3 6 7 9 10) = D215 r n bJo (xs (xs x0 2 (K2 (bV r n) 6 9)) 3 (K6 kk9 2 3 6 7 9 10)) (K10 (aOo r n kk9) 2 3 6 7 9 10 11 12 13 14) :=
 congrArg (fun k=>D215 r n bJo (xs (xs x0 2 (K2 (bV r n) 6 9)) 3 (K6 kk9 2 3 6 7 9 10)) k) (cGl r n kk9)
theorem cRk (kk9 : fZ) : D215 r n xT (xs (xs x0 2 (K2 (bV r n) 6 9)) 3 (K6 kk9 2 3 6 7 9 10)) (K6 kk9 2 3 6 7 9 10) = (K10 (aJt r n kk9) 2 3 6 7 9 10 11 12 13 14) :=
 (bUv r n kk9).trans
 ((by kernel_rfl))
theorem bTj (kk9 : fZ) : D215 r n xM (xs (xs x0 2 (K2 (bV r n) 6 9)) 3 (K6 kk9 2 3 6 7 9 10)) (K6 kk9 2 3 6 7 9 10) = D215 r n bOf (xs (xs x0 2 (K2 (bV r n) 6 9)) 3 (K6 kk9 2 3 6 7 9 10)) (K10 (aJt r n kk9) 2 3 6 7 9 10 11 12 13 14) :=
 congrArg (fun k=>D215 r n bOf (xs (xs x0 2 (K2 (bV r n) 6 9)) 3 (K6 kk9 2 3 6 7 9 10)) k) (cRk r n kk9)
theorem cCn (kk9 : fZ) : D215 r n xM (xs (xs x0 2 (K2 (bV r n) 6 9)) 3 (K6 kk9 2 3 6 7 9 10)) (K6 kk9 2 3 6 7 9 10) = (K9 (aHk r n kk9) 2 3 6 7 9 10 11 12 13) :=
 (bTj r n kk9).trans
 ((by kernel_rfl))
theorem bVa (kk9 : fZ) : D215 r n wG (xs (xs x0 2 (K2 (bV r n) 6 9)) 3 (K6 kk9 2 3 6 7 9 10)) (K6 kk9 2 3 6 7 9 10) = D215 r n bNf (xs (xs x0 2 (K2 (bV r n) 6 9)) 3 (K6 kk9 2 3 6 7 9 10)) (K9 (aHk r n kk9) 2 3 6 7 9 10 11 12 13) :=
 congrArg (fun k=>D215 r n bNf (xs (xs x0 2 (K2 (bV r n) 6 9)) 3 (K6 kk9 2 3 6 7 9 10)) k) (cCn r n kk9)
theorem cPy (kk9 : fZ) : D215 r n wG (xs (xs x0 2 (K2 (bV r n) 6 9)) 3 (K6 kk9 2 3 6 7 9 10)) (K6 kk9 2 3 6 7 9 10) = (K7 (aLx r n kk9) 2 3 6 7 9 10 11) :=
 (bVa r n kk9).trans
 ((by kernel_rfl))
theorem bUl (kk9 : fZ) : D215 r n yI (xs (xs x0 2 (K2 (bV r n) 6 9)) 3 (K6 kk9 2 3 6 7 9 10)) (K6 kk9 2 3 6 7 9 10) = D215 r n bNu (xs (xs x0 2 (K2 (bV r n) 6 9)) 3 (K6 kk9 2 3 6 7 9 10)) (K7 (aLx r n kk9) 2 3 6 7 9 10 11) :=
 congrArg (fun k=>D215 r n bNu (xs (xs x0 2 (K2 (bV r n) 6 9)) 3 (K6 kk9 2 3 6 7 9 10)) k) (cPy r n kk9)
theorem cAh (kk9 : fZ) : D215 r n yI (xs (xs x0 2 (K2 (bV r n) 6 9)) 3 (K6 kk9 2 3 6 7 9 10)) (K6 kk9 2 3 6 7 9 10) = (K7 (aOy r n kk9) 2 3 6 7 9 10 11) :=
 (bUl r n kk9).trans
 ((by kernel_rfl))
theorem bQw (kk9 : fZ) : D215 r n xV (xs (xs x0 2 (K2 (bV r n) 6 9)) 3 (K6 kk9 2 3 6 7 9 10)) (K6 kk9 2 3 6 7 9 10) = D215 r n bGd (xs (xs x0 2 (K2 (bV r n) 6 9)) 3 (K6 kk9 2 3 6 7 9 10)) (K7 (aOy r n kk9) 2 3 6 7 9 10 11) :=
 congrArg (fun k=>D215 r n bGd (xs (xs x0 2 (K2 (bV r n) 6 9)) 3 (K6 kk9 2 3 6 7 9 10)) k) (cAh r n kk9)
theorem bYg (kk9 : fZ) : D215 r n aOt (xs x0 2 (K2 (bV r n) 6 9)) (K6 kk9 2 3 6 7 9 10) = (K6 (aNx r n kk9) 2 3 6 7 9 10) :=
 (by kernel_rfl : D215 r n aOt (xs x0 2 (K2 (bV r n) 6 9)) (K6 kk9 2 3 6 7 9 10) = D215 r n xV (xs (xs x0 2 (K2 (bV r n) 6 9)) 3 (K6 kk9 2 3 6 7 9 10)) (K6 kk9 2 3 6 7 9 10)).trans
 ((bQw r n kk9).trans
 ((by kernel_rfl)))
theorem bYx (kk9 : fZ) : D215 r n jJ (xs x0 2 (K2 (bV r n) 6 9)) (K6 kk9 2 3 6 7 9 10) = D215 r n bEq (xs x0 2 (K2 (bV r n) 6 9)) (K6 (aNx r n kk9) 2 3 6 7 9 10) :=
 congrArg (fun k=>D215 r n bEq (xs x0 2 (K2 (bV r n) 6 9)) k) (bYg r n kk9)
theorem cNc (kk9 : fZ) : D215 r n jJ (xs x0 2 (K2 (bV r n) 6 9)) (K6 kk9 2 3 6 7 9 10) = (K6 (bLb r n kk9) 2 3 6 7 9 10) :=
 (bYx r n kk9).trans
 ((by kernel_rfl))
theorem cTv (m : Nat) : aM (fun kk=>D215 r n jJ (xs x0 2 (K2 (bV r n) 6 9)) kk) m = (K6 (yS r n m) 2 3 6 7 9 10):=by
 induction m with
 | zero=>exact (by kernel_rfl : aM (fun kk=>D215 r n jJ (xs x0 2 (K2 (bV r n) 6 9)) kk) 0 = (K6 (yS r n 0) 2 3 6 7 9 10))
 | succ m ih =>
  refine (by kernel_rfl : aM (fun kk=>D215 r n jJ (xs x0 2 (K2 (bV r n) 6 9)) kk) (m + 1) = D215 r n jJ (xs x0 2 (K2 (bV r n) 6 9)) (aM (fun kk=>D215 r n jJ (xs x0 2 (K2 (bV r n) 6 9)) kk) m)).trans ?_
  rw [ih]
  exact (cNc r n (yS r n m)).trans (by kernel_rfl)
theorem dKb : D215 r n xH (xs x0 2 (K2 (bV r n) 6 9)) (K2 (bV r n) 6 9) = (K6 (cCf r n) 2 3 6 7 9 10) :=
 (by kernel_rfl : D215 r n xH (xs x0 2 (K2 (bV r n) 6 9)) (K2 (bV r n) 6 9) = aM (fun kk=>D215 r n jJ (xs x0 2 (K2 (bV r n) 6 9)) kk) n).trans ((cTv r n n).trans (by kernel_rfl))
theorem cLm : D215 r n aRn x0 r215 = D215 r n yC x0 (K2 (bV r n) 6 9) :=
 congrArg (fun k=>D215 r n yC x0 k) (dEs r n)
theorem dQb : D215 r n aRn x0 r215 = (K6 (aXy r n) 2 3 6 7 9 10) :=
 (cLm r n).trans
 ((by kernel_rfl : D215 r n yC x0 (K2 (bV r n) 6 9) = D215 r n xH (xs x0 2 (K2 (bV r n) 6 9)) (K2 (bV r n) 6 9)).trans
 ((dKb r n).trans (by kernel_rfl)))
theorem cEa : D215 r n aJa x0 r215 = D215 r n bQc x0 (K6 (aXy r n) 2 3 6 7 9 10) :=
 congrArg (fun k=>D215 r n bQc x0 k) (dQb r n)
theorem dKv : D215 r n aJa x0 r215 = (K6 (aXd r n) 2 3 6 7 9 10) :=
 (cEa r n).trans
 ((by kernel_rfl))
theorem bTh : D215 r n aPm x0 r215 = D215 r n bIs x0 (K6 (aXd r n) 2 3 6 7 9 10) :=
 congrArg (fun k=>D215 r n bIs x0 k) (dKv r n)
theorem dOl : D215 r n aPm x0 r215 = (K5 (aCq r n) 2 3 6 7 9) :=
 (bTh r n).trans
 ((by kernel_rfl))
theorem bVn : D215 r n aIw x0 r215 = D215 r n aLh x0 (K5 (aCq r n) 2 3 6 7 9) :=
 congrArg (fun k=>D215 r n aLh x0 k) (dOl r n)
theorem bVi (q0 : cN) : D215 r n aLh x0 (K5 q0 2 3 6 7 9) = fun (env : aZ) (h : Hp) =>
 bnd (bQ [(.b false)] h) fun v1 h1 =>
 bnd (aJ 1 v1 (.b true) h1) fun _ h2 =>
  q0 (env 2) (env 3) (env 6) (env 7) v1 h2:=by kernel_rfl
theorem bAd : (fun (env : aZ) (h : Hp) =>
 bnd (bQ [(.b false)] h) fun v1 h1 =>
 bnd (aJ 1 v1 (.b true) h1) fun _ h2 =>
  aCq r n (env 2) (env 3) (env 6) (env 7) v1 h2) = (K4 (cP r n) 2 3 6 7):=by kernel_rfl
theorem dNe : D215 r n aIw x0 r215 = (K4 (cP r n) 2 3 6 7) :=
 (bVn r n).trans
 ((bVi r n (aCq r n)).trans (bAd r n))
theorem cMt (kk18 : fZ) : D215 r n dDf (xs x0 0 (K4 (cP r n) 2 3 6 7)) (K6 kk18 2 3 6 7 19 20) = (K6 (mX r n kk18) 2 3 6 7 19 20) :=
 (by kernel_rfl)
theorem aZh (kk18 : fZ) : D215 r n yP (xs x0 0 (K4 (cP r n) 2 3 6 7)) (K6 kk18 2 3 6 7 19 20) = D215 r n aGq (xs x0 0 (K4 (cP r n) 2 3 6 7)) (K6 (mX r n kk18) 2 3 6 7 19 20) :=
 congrArg (fun k=>D215 r n aGq (xs x0 0 (K4 (cP r n) 2 3 6 7)) k) (cMt r n kk18)
theorem aYj (kk18 : fZ) (q0 : fZ) (q1 : dG) : D215 r n aGq (xs x0 0 (K4 q1 2 3 6 7)) (K6 q0 2 3 6 7 19 20) = fun (env : aZ) (h : Hp) =>
 bnd (aA (env 6) h) fun v1 h1 =>
 bnd (aG 1 v1 (env 20) h1) fun v2 h2 =>
 bnd (aJ 1 v2 (.i .i64 (Int.negSucc 0)) h2) fun _ h3 =>
 bnd (aC .eql (env 20) (aE 0) h3) fun v4 h4 =>
 bnd (gD v4 false (some ((env 20),h4)) h4) fun v5 h5 =>
 bnd (gD v4 false (aC .gtr v5 (aE 1) h5) h5) fun v6 h6 =>
 bnd (gD v4 false (some (v6,h6)) h6) fun v7 h7 =>
 bnd (gD v7 true (aA (env 2) h7) h7) fun v8 h8 =>
 bnd (gD v7 true (some ((env 20),h8)) h8) fun v9 h9 =>
 bnd (gD v7 true (aC .sub v9 (aE 2) h9) h9) fun v10 h10 =>
 bnd (gD v7 true (aG 3 v8 v10 h10) h10) fun v11 h11 =>
 bnd (gD v7 true (aB 0 v11 h11) h11) fun v12 h12 =>
 bnd (gD v7 true (aA v12 h12) h12) fun v13 h13 =>
 bnd (gD v7 true (aC .eql v13 (aE 18) h13) h13) fun v14 h14 =>
 bnd (gD v4 false (aN v7 v14 (.b false) h14) h14) fun v15 h15 =>
 bnd (gD v4 false (some (v15,h15)) h15) fun v16 h16 =>
 bnd (gD v16 true (aA (env 3) h16) h16) fun v17 h17 =>
 bnd (gD v16 true (some ((env 20),h17)) h17) fun v18 h18 =>
 bnd (gD v16 true (aG 1 v17 v18 h18) h18) fun v19 h19 =>
 bnd (gD v16 true (aA v19 h19) h19) fun v20 h20 =>
 bnd (gD v16 true (some ((env 20),h20)) h20) fun v21 h21 =>
 bnd (gD v16 true (aC .sub v21 (aE 2) h21) h21) fun v22 h22 =>
 bnd (gD v16 true (aC .eql v20 v22 h22) h22) fun v23 h23 =>
 bnd (gD v4 false (aN v16 v23 (.b false) h23) h23) fun v24 h24 =>
 bnd (aN v4 (.b true) v24 h24) fun v25 h25 =>
 aR v25 (
 bnd (aA (env 6) h25) fun v26 h26 =>
 bnd (aG 1 v26 (env 20) h26) fun v27 h27 =>
 bnd (aJ 1 v27 (aE 0) h27) fun _ h28 =>
 bnd (aA (env 7) h28) fun v29 h29 =>
 bnd (aS [(aE 0)] 1 [(0,1,(env 20))] h29) fun v30 h30 =>
 bnd (bH 1 8 v29 v30 h30) fun v31 h31 =>
 bnd (aJ 1 (env 7) v31 h31) fun _ h32 =>
      q0 (env 2) (env 3) (env 6) (env 7) (env 19) (env 20) h32) (
      q0 (env 2) (env 3) (env 6) (env 7) (env 19) (env 20) h25):=by kernel_rfl
theorem aUv (kk18 : fZ) : (fun (env : aZ) (h : Hp) =>
 bnd (aA (env 6) h) fun v1 h1 =>
 bnd (aG 1 v1 (env 20) h1) fun v2 h2 =>
 bnd (aJ 1 v2 (.i .i64 (Int.negSucc 0)) h2) fun _ h3 =>
 bnd (aC .eql (env 20) (aE 0) h3) fun v4 h4 =>
 bnd (gD v4 false (some ((env 20),h4)) h4) fun v5 h5 =>
 bnd (gD v4 false (aC .gtr v5 (aE 1) h5) h5) fun v6 h6 =>
 bnd (gD v4 false (some (v6,h6)) h6) fun v7 h7 =>
 bnd (gD v7 true (aA (env 2) h7) h7) fun v8 h8 =>
 bnd (gD v7 true (some ((env 20),h8)) h8) fun v9 h9 =>
 bnd (gD v7 true (aC .sub v9 (aE 2) h9) h9) fun v10 h10 =>
 bnd (gD v7 true (aG 3 v8 v10 h10) h10) fun v11 h11 =>
 bnd (gD v7 true (aB 0 v11 h11) h11) fun v12 h12 =>
 bnd (gD v7 true (aA v12 h12) h12) fun v13 h13 =>
 bnd (gD v7 true (aC .eql v13 (aE 18) h13) h13) fun v14 h14 =>
 bnd (gD v4 false (aN v7 v14 (.b false) h14) h14) fun v15 h15 =>
 bnd (gD v4 false (some (v15,h15)) h15) fun v16 h16 =>
 bnd (gD v16 true (aA (env 3) h16) h16) fun v17 h17 =>
 bnd (gD v16 true (some ((env 20),h17)) h17) fun v18 h18 =>
 bnd (gD v16 true (aG 1 v17 v18 h18) h18) fun v19 h19 =>
 bnd (gD v16 true (aA v19 h19) h19) fun v20 h20 =>
 bnd (gD v16 true (some ((env 20),h20)) h20) fun v21 h21 =>
 bnd (gD v16 true (aC .sub v21 (aE 2) h21) h21) fun v22 h22 =>
 bnd (gD v16 true (aC .eql v20 v22 h22) h22) fun v23 h23 =>
 bnd (gD v4 false (aN v16 v23 (.b false) h23) h23) fun v24 h24 =>
 bnd (aN v4 (.b true) v24 h24) fun v25 h25 =>
 aR v25 (
 bnd (aA (env 6) h25) fun v26 h26 =>
 bnd (aG 1 v26 (env 20) h26) fun v27 h27 =>
 bnd (aJ 1 v27 (aE 0) h27) fun _ h28 =>
 bnd (aA (env 7) h28) fun v29 h29 =>
 bnd (aS [(aE 0)] 1 [(0,1,(env 20))] h29) fun v30 h30 =>
 bnd (bH 1 8 v29 v30 h30) fun v31 h31 =>
 bnd (aJ 1 (env 7) v31 h31) fun _ h32 =>
      mX r n kk18 (env 2) (env 3) (env 6) (env 7) (env 19) (env 20) h32) (
      mX r n kk18 (env 2) (env 3) (env 6) (env 7) (env 19) (env 20) h25)) = (K6 (yH r n kk18) 2 3 6 7 19 20):=by kernel_rfl
theorem cWy (kk18 : fZ) : D215 r n yP (xs x0 0 (K4 (cP r n) 2 3 6 7)) (K6 kk18 2 3 6 7 19 20) = (K6 (yH r n kk18) 2 3 6 7 19 20) :=
 (aZh r n kk18).trans
 ((aYj r n kk18 (mX r n kk18) (cP r n)).trans (aUv r n kk18))
theorem bDy (kk18 : fZ) : D215 r n xU (xs x0 0 (K4 (cP r n) 2 3 6 7)) (K6 kk18 2 3 6 7 19 20) = D215 r n bLo (xs x0 0 (K4 (cP r n) 2 3 6 7)) (K6 (yH r n kk18) 2 3 6 7 19 20) :=
 congrArg (fun k=>D215 r n bLo (xs x0 0 (K4 (cP r n) 2 3 6 7)) k) (cWy r n kk18)
theorem cCa (kk18 : fZ) : D215 r n xU (xs x0 0 (K4 (cP r n) 2 3 6 7)) (K6 kk18 2 3 6 7 19 20) = (K7 (aOk r n kk18) 2 3 6 7 19 20 21) :=
 (bDy r n kk18).trans
 ((by kernel_rfl))
theorem bCc (kk18 : fZ) : D215 r n jH (xs x0 0 (K4 (cP r n) 2 3 6 7)) (K6 kk18 2 3 6 7 19 20) = D215 r n bHn (xs x0 0 (K4 (cP r n) 2 3 6 7)) (K7 (aOk r n kk18) 2 3 6 7 19 20 21) :=
 congrArg (fun k=>D215 r n bHn (xs x0 0 (K4 (cP r n) 2 3 6 7)) k) (cCa r n kk18)
theorem bTp (kk18 : fZ) : D215 r n jH (xs x0 0 (K4 (cP r n) 2 3 6 7)) (K6 kk18 2 3 6 7 19 20) = (K6 (aTr r n kk18) 2 3 6 7 19 20) :=
 (bCc r n kk18).trans
 ((by kernel_rfl))
theorem bWn (m : Nat) : aM (fun kk=>D215 r n jH (xs x0 0 (K4 (cP r n) 2 3 6 7)) kk) m = (K6 (rR r n m) 2 3 6 7 19 20):=by
 induction m with
 | zero=>exact (by kernel_rfl : aM (fun kk=>D215 r n jH (xs x0 0 (K4 (cP r n) 2 3 6 7)) kk) 0 = (K6 (rR r n 0) 2 3 6 7 19 20))
 | succ m ih =>
  refine (by kernel_rfl : aM (fun kk=>D215 r n jH (xs x0 0 (K4 (cP r n) 2 3 6 7)) kk) (m + 1) = D215 r n jH (xs x0 0 (K4 (cP r n) 2 3 6 7)) (aM (fun kk=>D215 r n jH (xs x0 0 (K4 (cP r n) 2 3 6 7)) kk) m)).trans ?_
  rw [ih]
  exact (bTp r n (rR r n m)).trans (by kernel_rfl)
theorem cWl : D215 r n yD (xs x0 0 (K4 (cP r n) 2 3 6 7)) (K4 (cP r n) 2 3 6 7) = (K6 (bIv r n) 2 3 6 7 19 20) :=
 (by kernel_rfl : D215 r n yD (xs x0 0 (K4 (cP r n) 2 3 6 7)) (K4 (cP r n) 2 3 6 7) = aM (fun kk=>D215 r n jH (xs x0 0 (K4 (cP r n) 2 3 6 7)) kk) n).trans ((bWn r n n).trans (by kernel_rfl))
theorem cKl : D215 r n aNn x0 (K4 (cP r n) 2 3 6 7) = (K6 (aQg r n) 2 3 6 7 19 20) :=
 (by kernel_rfl : D215 r n aNn x0 (K4 (cP r n) 2 3 6 7) = D215 r n yD (xs x0 0 (K4 (cP r n) 2 3 6 7)) (K4 (cP r n) 2 3 6 7)).trans
 ((cWl r n).trans (by kernel_rfl))
theorem bRk : D215 r n aLf x0 r215 = D215 r n rQ x0 (K4 (cP r n) 2 3 6 7) :=
 congrArg (fun k=>D215 r n rQ x0 k) (dNe r n)
theorem bTs : D215 r n rQ x0 (K4 (cP r n) 2 3 6 7) = D215 r n bMu x0 (K6 (aQg r n) 2 3 6 7 19 20) :=
 congrArg (fun k=>D215 r n bMu x0 k) (cKl r n)
theorem dNr : D215 r n aLf x0 r215 = (K4 (aDt r n) 2 3 6 7) :=
 (bRk r n).trans
 ((bTs r n).trans
 ((by kernel_rfl)))
theorem bSh : D215 r n aGt x0 r215 = D215 r n aKt x0 (K4 (aDt r n) 2 3 6 7) :=
 congrArg (fun k=>D215 r n aKt x0 k) (dNr r n)
theorem bVe (q0 : dG) : D215 r n aKt x0 (K4 q0 2 3 6 7) = fun (env : aZ) (h : Hp) =>
 bnd (bQ [.l0] h) fun v1 h1 =>
  q0 (env 2) (env 3) (env 6) v1 h1:=by kernel_rfl
theorem bEj : (fun (env : aZ) (h : Hp) =>
 bnd (bQ [.l0] h) fun v1 h1 =>
  aDt r n (env 2) (env 3) (env 6) v1 h1) = (K3 (uE r n) 2 3 6):=by kernel_rfl
theorem dKg : D215 r n aGt x0 r215 = (K3 (uE r n) 2 3 6) :=
 (bSh r n).trans
 ((bVe r n (aDt r n)).trans (bEj r n))
theorem bRq : D215 r n aHr x0 r215 = D215 r n aQy x0 (K3 (uE r n) 2 3 6) :=
 congrArg (fun k=>D215 r n aQy x0 k) (dKg r n)
theorem bUa (q0 : jS) : D215 r n aQy x0 (K3 q0 2 3 6) = fun (env : aZ) (h : Hp) =>
 bnd (aA (env 2) h) fun v1 h1 =>
 bnd (bM v1 h1) fun v2 h2 =>
 bnd (cI 1 8 [(aE 0)] v2 v2 h2) fun v3 h3 =>
 bnd (bQ [.l0] h3) fun v4 h4 =>
 bnd (aJ 1 v4 v3 h4) fun _ h5 =>
  q0 (env 2) (env 3) v4 h5:=by kernel_rfl
theorem aWq : (fun (env : aZ) (h : Hp) =>
 bnd (aA (env 2) h) fun v1 h1 =>
 bnd (bM v1 h1) fun v2 h2 =>
 bnd (cI 1 8 [(aE 0)] v2 v2 h2) fun v3 h3 =>
 bnd (bQ [.l0] h3) fun v4 h4 =>
 bnd (aJ 1 v4 v3 h4) fun _ h5 =>
  uE r n (env 2) (env 3) v4 h5) = (K2 (uN r n) 2 3):=by kernel_rfl
theorem dEo : D215 r n aZs x0 r215 = (K2 (uN r n) 2 3) :=
 (by kernel_rfl : D215 r n aZs x0 r215 = D215 r n aHr x0 r215).trans
 ((bRq r n).trans
 ((bUa r n (uE r n)).trans (aWq r n)))
theorem cYe : D215 r n c215 x0 r215 = D215 r n aJz x0 (K2 (uN r n) 2 3) :=
 congrArg (fun k=>D215 r n aJz x0 k) (dEo r n)
theorem dGg (q0 : gP) : D215 r n aJz x0 (K2 q0 2 3) = fun (env : aZ) (h : Hp) =>
 bnd (bZ (env 0) h) fun v1 h1 =>
 bnd (bZ (env 1) h1) fun v2 h2 =>
  q0 v1 v2 h2:=by kernel_rfl
theorem bZv : (fun (env : aZ) (h : Hp) =>
 bnd (bZ (env 0) h) fun v1 h1 =>
 bnd (bZ (env 1) h1) fun v2 h2 =>
  uN r n v1 v2 h2) = (K2 (s215 r n) 0 1):=by kernel_rfl
theorem eUq : D215 r n c215 x0 r215 = (K2 (s215 r n) 0 1) :=
 (cYe r n).trans
 ((dGg r n (uN r n)).trans (bZv r n))
theorem eHu : aI CF r n 215 args h = s215 r n (bI args 0) (bI args 1) h :=
 (by kernel_rfl : aI CF r n 215 args h = D215 r n c215 x0 r215 (aQ args) h).trans ((congrFun (congrFun (eUq r n) (aQ args)) h).trans (by kernel_rfl))
def cH (r : RT) (n : Nat) (x2 x3 : DV) (h0 : Hp) : aH :=
 some (.t [x2,x3],h0)
def cU (r : RT) (n : Nat) (x3 : DV) (h0 : Hp) : aH :=
 cH r n (.b true) x3 h0
def dH (r : RT) (n : Nat) (h0 : Hp) : aH :=
 cU r n (.b true) h0
def pN (r : RT) (n : Nat) (x2 x3 : DV) (h0 : Hp) : aH :=
 cH r n x2 x3 h0
def nO (r : RT) (n : Nat) (x2 x3 x11 : DV) (h0 : Hp) : aH :=
 aR x11 (
  cU r n x3 h0) (
  pN r n x2 x3 h0)
def aAf (r : RT) (n : Nat) (x2 x3 x4 : DV) (h0 : Hp) : aH :=
 bnd (aC .eql x4 (aE 6) h0) fun v1 h1 =>
 aR v1 (
  nO r n x2 x3 v1 h1) (
 bnd (aC .eql x4 (aE 7) h1) fun v2 h2 =>
 aR v2 (
   nO r n x2 x3 v2 h2) (
 bnd (aC .eql x4 (aE 8) h2) fun v3 h3 =>
 aR v3 (
    nO r n x2 x3 v3 h3) (
 bnd (aC .eql x4 (aE 9) h3) fun v4 h4 =>
 aR v4 (
     nO r n x2 x3 v4 h4) (
 bnd (aC .eql x4 (aE 10) h4) fun v5 h5 =>
 aR v5 (
      nO r n x2 x3 v5 h5) (
 bnd (aC .eql x4 (aE 11) h5) fun v6 h6 =>
      nO r n x2 x3 v6 h6)))))
def qM (r : RT) (n : Nat) (x2 x3 x4 x5 : DV) (h0 : Hp) : aH :=
 aR x5 (
  dH r n h0) (
  aAf r n x2 x3 x4 h0)
def aXm (r : RT) (n : Nat) (x2 x3 x4 : DV) (h0 : Hp) : aH :=
 bnd (aC .eql x4 (aE 14) h0) fun v1 h1 =>
 aR v1 (
  qM r n x2 x3 x4 v1 h1) (
 bnd (aC .eql x4 (aE 15) h1) fun v2 h2 =>
 aR v2 (
   qM r n x2 x3 x4 v2 h2) (
 bnd (aC .eql x4 (aE 16) h2) fun v3 h3 =>
 aR v3 (
    qM r n x2 x3 x4 v3 h3) (
 bnd (aC .eql x4 (aE 17) h3) fun v4 h4 =>
 aR v4 (
     qM r n x2 x3 x4 v4 h4) (
 bnd (aC .eql x4 (aE 18) h4) fun v5 h5 =>
     qM r n x2 x3 x4 v5 h5))))
def bCl (r : RT) (n : Nat) (x0 x2 x3 : DV) (h0 : Hp) : aH :=
 aXm r n x2 x3 x0 h0
def s216 (r : RT) (n : Nat) (x0 : DV) (h0 : Hp) : aH :=
 bCl r n x0 (.b false) (.b false) h0
abbrev c216 : Code:=cf Tryz.f216
abbrev aOa : Code:=cR c216
abbrev dUn : Code:=cR aOa
abbrev zM : Code:=cL aOa
abbrev aYo : Code:=cR zM
abbrev aLp : Code:=cL aYo
abbrev eFl : Code:=cR aLp
abbrev aJk : Code:=cL aLp
abbrev aPn : Code:=cL aJk
abbrev dYa : Code:=cR aPn
abbrev xS : Code:=cL aPn
abbrev wO : Code:=cL xS
abbrev dHy : Code:=cR wO
abbrev rN : Code:=cL wO
abbrev wL : Code:=cR rN
abbrev cZt : Code:=cR wL
abbrev bIe : Code:=cL wL
abbrev rC : Code:=cL rN
abbrev dBp : Code:=cR rC
abbrev bQl : Code:=cL rC
abbrev bNm : Code:=cL zM
abbrev bJk : Code:=cL c216
abbrev r216 : K:=bE CF Tryz.f216
def D216 (r : RT) (n : Nat) (c : Code) (X : Nat → K) (k : K) : K:=aW CF r 20 n c X r216 k
theorem dEe : D216 r n dUn x0 r216 = (K2 (cH r n) 2 3) :=
 (by kernel_rfl)
theorem dHh : D216 r n eFl (xs x0 0 (K2 (cH r n) 2 3)) (K2 (cH r n) 2 3) = (K1 (cU r n) 3) :=
 (by kernel_rfl)
theorem cZp : D216 r n dYa (xs (xs x0 0 (K2 (cH r n) 2 3)) 2 (K1 (cU r n) 3)) (K1 (cU r n) 3) = (K0 (dH r n)) :=
 (by kernel_rfl)
theorem dGb : D216 r n dHy (xs (xs (xs x0 0 (K2 (cH r n) 2 3)) 2 (K1 (cU r n) 3)) 1 (K0 (dH r n))) (K0 (dH r n)) = (K2 (pN r n) 2 3) :=
 (by kernel_rfl)
theorem dKl : D216 r n cZt (xs (xs (xs x0 0 (K2 (cH r n) 2 3)) 2 (K1 (cU r n) 3)) 1 (K0 (dH r n))) (K2 (pN r n) 2 3) = (K3 (nO r n) 2 3 11) :=
 (by kernel_rfl)
theorem cXh : D216 r n wL (xs (xs (xs x0 0 (K2 (cH r n) 2 3)) 2 (K1 (cU r n) 3)) 1 (K0 (dH r n))) (K2 (pN r n) 2 3) = D216 r n bIe (xs (xs (xs x0 0 (K2 (cH r n) 2 3)) 2 (K1 (cU r n) 3)) 1 (K0 (dH r n))) (K3 (nO r n) 2 3 11) :=
 congrArg (fun k=>D216 r n bIe (xs (xs (xs x0 0 (K2 (cH r n) 2 3)) 2 (K1 (cU r n) 3)) 1 (K0 (dH r n))) k) (dKl r n)
theorem dFc : D216 r n wL (xs (xs (xs x0 0 (K2 (cH r n) 2 3)) 2 (K1 (cU r n) 3)) 1 (K0 (dH r n))) (K2 (pN r n) 2 3) = (K3 (aAf r n) 2 3 4) :=
 (cXh r n).trans
 ((by kernel_rfl))
theorem dFu : D216 r n dBp (xs (xs (xs x0 0 (K2 (cH r n) 2 3)) 2 (K1 (cU r n) 3)) 1 (K0 (dH r n))) (K3 (aAf r n) 2 3 4) = (K4 (qM r n) 2 3 4 5) :=
 (by kernel_rfl)
theorem cLx : D216 r n aLp (xs x0 0 (K2 (cH r n) 2 3)) (K2 (cH r n) 2 3) = D216 r n aJk (xs x0 0 (K2 (cH r n) 2 3)) (K1 (cU r n) 3) :=
 congrArg (fun k=>D216 r n aJk (xs x0 0 (K2 (cH r n) 2 3)) k) (dHh r n)
theorem cWi : D216 r n aPn (xs (xs x0 0 (K2 (cH r n) 2 3)) 2 (K1 (cU r n) 3)) (K1 (cU r n) 3) = D216 r n xS (xs (xs x0 0 (K2 (cH r n) 2 3)) 2 (K1 (cU r n) 3)) (K0 (dH r n)) :=
 congrArg (fun k=>D216 r n xS (xs (xs x0 0 (K2 (cH r n) 2 3)) 2 (K1 (cU r n) 3)) k) (cZp r n)
theorem cFp : D216 r n wO (xs (xs (xs x0 0 (K2 (cH r n) 2 3)) 2 (K1 (cU r n) 3)) 1 (K0 (dH r n))) (K0 (dH r n)) = D216 r n rN (xs (xs (xs x0 0 (K2 (cH r n) 2 3)) 2 (K1 (cU r n) 3)) 1 (K0 (dH r n))) (K2 (pN r n) 2 3) :=
 congrArg (fun k=>D216 r n rN (xs (xs (xs x0 0 (K2 (cH r n) 2 3)) 2 (K1 (cU r n) 3)) 1 (K0 (dH r n))) k) (dGb r n)
theorem cFw : D216 r n rN (xs (xs (xs x0 0 (K2 (cH r n) 2 3)) 2 (K1 (cU r n) 3)) 1 (K0 (dH r n))) (K2 (pN r n) 2 3) = D216 r n rC (xs (xs (xs x0 0 (K2 (cH r n) 2 3)) 2 (K1 (cU r n) 3)) 1 (K0 (dH r n))) (K3 (aAf r n) 2 3 4) :=
 congrArg (fun k=>D216 r n rC (xs (xs (xs x0 0 (K2 (cH r n) 2 3)) 2 (K1 (cU r n) 3)) 1 (K0 (dH r n))) k) (dFc r n)
theorem cJq : D216 r n rC (xs (xs (xs x0 0 (K2 (cH r n) 2 3)) 2 (K1 (cU r n) 3)) 1 (K0 (dH r n))) (K3 (aAf r n) 2 3 4) = D216 r n bQl (xs (xs (xs x0 0 (K2 (cH r n) 2 3)) 2 (K1 (cU r n) 3)) 1 (K0 (dH r n))) (K4 (qM r n) 2 3 4 5) :=
 congrArg (fun k=>D216 r n bQl (xs (xs (xs x0 0 (K2 (cH r n) 2 3)) 2 (K1 (cU r n) 3)) 1 (K0 (dH r n))) k) (dFu r n)
theorem dNm : D216 r n aYo x0 (K2 (cH r n) 2 3) = (K3 (aXm r n) 2 3 4) :=
 (by kernel_rfl : D216 r n aYo x0 (K2 (cH r n) 2 3) = D216 r n aLp (xs x0 0 (K2 (cH r n) 2 3)) (K2 (cH r n) 2 3)).trans
 ((cLx r n).trans
 ((by kernel_rfl : D216 r n aJk (xs x0 0 (K2 (cH r n) 2 3)) (K1 (cU r n) 3) = D216 r n aPn (xs (xs x0 0 (K2 (cH r n) 2 3)) 2 (K1 (cU r n) 3)) (K1 (cU r n) 3)).trans
 ((cWi r n).trans
 ((by kernel_rfl : D216 r n xS (xs (xs x0 0 (K2 (cH r n) 2 3)) 2 (K1 (cU r n) 3)) (K0 (dH r n)) = D216 r n wO (xs (xs (xs x0 0 (K2 (cH r n) 2 3)) 2 (K1 (cU r n) 3)) 1 (K0 (dH r n))) (K0 (dH r n))).trans
 ((cFp r n).trans
 ((cFw r n).trans
 ((cJq r n).trans
 ((by kernel_rfl)))))))))
theorem cPi : D216 r n aOa x0 r216 = D216 r n zM x0 (K2 (cH r n) 2 3) :=
 congrArg (fun k=>D216 r n zM x0 k) (dEe r n)
theorem cDf : D216 r n zM x0 (K2 (cH r n) 2 3) = D216 r n bNm x0 (K3 (aXm r n) 2 3 4) :=
 congrArg (fun k=>D216 r n bNm x0 k) (dNm r n)
theorem dFr : D216 r n aOa x0 r216 = (K3 (bCl r n) 0 2 3) :=
 (cPi r n).trans
 ((cDf r n).trans
 ((by kernel_rfl)))
theorem dUj : D216 r n c216 x0 r216 = D216 r n bJk x0 (K3 (bCl r n) 0 2 3) :=
 congrArg (fun k=>D216 r n bJk x0 k) (dFr r n)
theorem eQb : D216 r n c216 x0 r216 = (K1 (s216 r n) 0) :=
 (dUj r n).trans
 ((by kernel_rfl))
theorem dUu : aI CF r n 216 args h = s216 r n (bI args 0) h :=
 (by kernel_rfl : aI CF r n 216 args h = D216 r n c216 x0 r216 (aQ args) h).trans ((congrFun (congrFun (eQb r n) (aQ args)) h).trans (by kernel_rfl))
def s217 (r : RT) (n : Nat) (x0 x1 : DV) (h0 : Hp) : aH :=
 bnd (aC .eql x0 (aE 0) h0) fun v1 h1 =>
 bnd (gD v1 false (some (x1,h1)) h1) fun v2 h2 =>
 bnd (gD v1 false (some (v2,h2)) h2) fun v3 h3 =>
 bnd (gD v3 true (some (x0,h3)) h3) fun v4 h4 =>
 bnd (gD v3 true (aC .gtr v4 (aE 0) h4) h4) fun v5 h5 =>
 bnd (gD v1 false (aN v3 v5 (.b false) h5) h5) fun v6 h6 =>
 bnd (gD v1 false (some (v6,h6)) h6) fun v7 h7 =>
 bnd (gD v7 true (some (x0,h7)) h7) fun v8 h8 =>
 bnd (gD v7 true (aC .leq v8 (aE 255) h8) h8) fun v9 h9 =>
 bnd (gD v1 false (aN v7 v9 (.b false) h9) h9) fun v10 h10 =>
 bnd (aN v1 (.b true) v10 h10) fun v11 h11 =>
 some (v11,h11)
theorem dXf : aI CF r n 217 args h = s217 r n (bI args 0) (bI args 1) h :=
 by kernel_rfl
def aKq (r : RT) (n : Nat) (x4 x5 : DV) (h0 : Hp) : aH :=
 bnd (aK 6 x5 h0) fun v1 h1 =>
 bnd (aJ 6 x4 v1 h1) fun _ h2 =>
 bnd (aK 6 x4 h2) fun v3 _ =>
 some (v3,h2)
def aEe (r : RT) (n : Nat) (x0 x1 x4 x5 x6 : DV) (h0 : Hp) : aH :=
 bnd (eQ .not x6 h0) fun v1 h1 =>
 aR v1 (
  fL 0 x0 h1 fun v2 h2 =>
 bnd (r 258 [v2,x1] h2) fun v3 h3 =>
 bnd (aF 0 v3 h3) fun v4 h4 =>
 bnd (aF 1 v3 h4) fun v5 h5 =>
 bnd (aJ 6 x5 v4 h5) fun _ h6 =>
  fL 3 x0 h6 fun v7 h7 =>
 bnd (aK 6 x5 h7) fun v8 h8 =>
 bnd (fW (.int .i64) v7 x1 v8 h8) fun v9 h9 =>
  aKq r n x4 x5 h9) (
  aKq r n x4 x5 h1)
def tT (r : RT) (n : Nat) (x0 x1 x4 : DV) (h0 : Hp) : aH :=
 fL 3 x0 h0 fun v1 h1 =>
 bnd (dV (.int .i64) (.a [(.s []),(aE 0),(aE 0),(aE 0),.l0,.l0]) true v1 x1 h1) fun v2 h2 =>
 bnd (aF 0 v2 h2) fun v3 h3 =>
 bnd (aF 1 v2 h3) fun v4 h4 =>
 bnd (bQ [(.s []),(aE 0),(aE 0),(aE 0),.l0,.l0] h4) fun v5 h5 =>
 bnd (aJ 6 v5 v3 h5) fun _ h6 =>
  aEe r n x0 x1 x4 v5 v4 h6
def s218 (r : RT) (n : Nat) (x0 x1 : DV) (h0 : Hp) : aH :=
 bnd (bQ [(.s []),(aE 0),(aE 0),(aE 0),.l0,.l0] h0) fun v1 h1 =>
  tT r n x0 x1 v1 h1
abbrev c218 : Code:=cf Tryz.f218
abbrev aQh : Code:=cR c218
abbrev aOi : Code:=cR aQh
abbrev eHg : Code:=cR aOi
abbrev cGm : Code:=cL aOi
abbrev aXl : Code:=cL aQh
abbrev aWr : Code:=cL c218
abbrev r218 : K:=bE CF Tryz.f218
def D218 (r : RT) (n : Nat) (c : Code) (X : Nat → K) (k : K) : K:=aW CF r 34 n c X r218 k
theorem dJb : D218 r n eHg x0 r218 = (K2 (aKq r n) 4 5) :=
 (by kernel_rfl)
theorem cUh : D218 r n aOi x0 r218 = D218 r n cGm x0 (K2 (aKq r n) 4 5) :=
 congrArg (fun k=>D218 r n cGm x0 k) (dJb r n)
theorem dKn : D218 r n aOi x0 r218 = (K5 (aEe r n) 0 1 4 5 6) :=
 (cUh r n).trans
 ((by kernel_rfl))
theorem cJy : D218 r n aQh x0 r218 = D218 r n aXl x0 (K5 (aEe r n) 0 1 4 5 6) :=
 congrArg (fun k=>D218 r n aXl x0 k) (dKn r n)
theorem cGh (q0 : cN) : D218 r n aXl x0 (K5 q0 0 1 4 5 6) = fun (env : aZ) (h : Hp) =>
 bnd (aV (env 0) h) fun v1 h1 =>
 bnd (aB 3 v1 h1) fun v2 h2 =>
 bnd (aA v2 h2) fun v3 h3 =>
 bnd (dV (.int .i64) (.a [(.s []),(aE 0),(aE 0),(aE 0),.l0,.l0]) true v3 (env 1) h3) fun v4 h4 =>
 bnd (aF 0 v4 h4) fun v5 h5 =>
 bnd (aF 1 v4 h5) fun v6 h6 =>
 bnd (bQ [(.s []),(aE 0),(aE 0),(aE 0),.l0,.l0] h6) fun v7 h7 =>
 bnd (aJ 6 v7 v5 h7) fun _ h8 =>
  q0 (env 0) (env 1) (env 4) v7 v6 h8:=by kernel_rfl
theorem bUr : (fun (env : aZ) (h : Hp) =>
 bnd (aV (env 0) h) fun v1 h1 =>
 bnd (aB 3 v1 h1) fun v2 h2 =>
 bnd (aA v2 h2) fun v3 h3 =>
 bnd (dV (.int .i64) (.a [(.s []),(aE 0),(aE 0),(aE 0),.l0,.l0]) true v3 (env 1) h3) fun v4 h4 =>
 bnd (aF 0 v4 h4) fun v5 h5 =>
 bnd (aF 1 v4 h5) fun v6 h6 =>
 bnd (bQ [(.s []),(aE 0),(aE 0),(aE 0),.l0,.l0] h6) fun v7 h7 =>
 bnd (aJ 6 v7 v5 h7) fun _ h8 =>
  aEe r n (env 0) (env 1) (env 4) v7 v6 h8) = (K3 (tT r n) 0 1 4):=by kernel_rfl
theorem dIa : D218 r n aQh x0 r218 = (K3 (tT r n) 0 1 4) :=
 (cJy r n).trans
 ((cGh r n (aEe r n)).trans (bUr r n))
theorem dUw : D218 r n c218 x0 r218 = D218 r n aWr x0 (K3 (tT r n) 0 1 4) :=
 congrArg (fun k=>D218 r n aWr x0 k) (dIa r n)
theorem eEo (q0 : jS) : D218 r n aWr x0 (K3 q0 0 1 4) = fun (env : aZ) (h : Hp) =>
 bnd (bQ [(.s []),(aE 0),(aE 0),(aE 0),.l0,.l0] h) fun v1 h1 =>
  q0 (env 0) (env 1) v1 h1:=by kernel_rfl
theorem dIs : (fun (env : aZ) (h : Hp) =>
 bnd (bQ [(.s []),(aE 0),(aE 0),(aE 0),.l0,.l0] h) fun v1 h1 =>
  tT r n (env 0) (env 1) v1 h1) = (K2 (s218 r n) 0 1):=by kernel_rfl
theorem eSj : D218 r n c218 x0 r218 = (K2 (s218 r n) 0 1) :=
 (dUw r n).trans
 ((eEo r n (tT r n)).trans (dIs r n))
theorem eFx : aI CF r n 218 args h = s218 r n (bI args 0) (bI args 1) h :=
 (by kernel_rfl : aI CF r n 218 args h = D218 r n c218 x0 r218 (aQ args) h).trans ((congrFun (congrFun (eSj r n) (aQ args)) h).trans (by kernel_rfl))
def s219 (r : RT) (n : Nat) (x0 x1 : DV) (h0 : Hp) : aH :=
 bnd (aC .geq x1 (aE 0) h0) fun v1 h1 =>
 bnd (gD v1 true (some (x1,h1)) h1) fun v2 h2 =>
 bnd (gD v1 true (some (x0,h2)) h2) fun v3 h3 =>
 bnd (gD v1 true (aV v3 h3) h3) fun v4 h4 =>
 bnd (gD v1 true (aB 1 v4 h4) h4) fun v5 h5 =>
 bnd (gD v1 true (aA v5 h5) h5) fun v6 h6 =>
 bnd (gD v1 true (bM v6 h6) h6) fun v7 h7 =>
 bnd (gD v1 true (aC .lss v2 v7 h7) h7) fun v8 h8 =>
 bnd (aN v1 v8 (.b false) h8) fun v9 h9 =>
 some (v9,h9)
theorem eBv : aI CF r n 219 args h = s219 r n (bI args 0) (bI args 1) h :=
 by kernel_rfl
def aGr (r : RT) (n : Nat) (x0 x2 x9 x10 : DV) (h0 : Hp) : aH :=
 bnd (aC .eql x10 (aE 0) h0) fun v1 h1 =>
 aR v1 (
  fM 5 x9 h1 fun v2 h2 =>
 bnd (bM v2 h2) fun v3 h3 =>
 bnd (aC .lss x2 v3 h3) fun v4 h4 =>
 some (.t [(aE 0),x2,v4],h4)) (
  fL 0 x0 h1 fun v5 h5 =>
 bnd (r 160 [v5,x10] h5) fun v6 h6 =>
 bnd (aV x0 h6) fun v7 h7 =>
 bnd (aB 0 v7 h7) fun v8 h8 =>
 bnd (aA v8 h8) fun v9 h9 =>
 cnd (aX (aA v8 h1) v9 && true) (
 bnd (r 26 [v9,(aE 13)] h9) fun v10 h10 =>
 bnd (aC .eql v6 v10 h10) fun v11 h11 =>
 bnd (gD v11 true (some (x2,h11)) h11) fun v12 h12 =>
 bnd (gD v11 true (aC .add (aE 5) v12 h12) h12) fun v13 h13 =>
 bnd (gD v11 true (some (x0,h13)) h13) fun v14 h14 =>
 bnd (gD v11 true (aV v14 h14) h14) fun v15 h15 =>
 bnd (gD v11 true (aB 0 v15 h15) h15) fun v16 h16 =>
 bnd (gD v11 true (aA v16 h16) h16) fun v17 h17 =>
 bnd (gD v11 true (r 41 [v17] h17) h17) fun v18 h18 =>
 bnd (gD v11 true (some (x10,h18)) h18) fun v19 h19 =>
 bnd (gD v11 true (oN [v18,v19] h19) h19) fun v20 h20 =>
 bnd (gD v11 true (aC .lss v13 v20 h20) h20) fun v21 h21 =>
 bnd (aN v11 v21 (.b false) h21) fun v22 h22 =>
 bnd (aC .add (aE 5) x2 h22) fun v23 h23 =>
 some (.t [x10,v23,v22],h23)))
def aXg (r : RT) (n : Nat) (x0 x2 x9 x10 : DV) (h0 : Hp) : aH :=
 fM 2 x9 h0 fun v1 h1 =>
 bnd (aC .neq v1 (aE 0) h1) fun v2 h2 =>
 aR v2 (
  fM 2 x9 h2 fun v3 h3 =>
  aGr r n x0 x2 x9 v3 h3) (
  aGr r n x0 x2 x9 x10 h2)
def zX (r : RT) (n : Nat) (x0 x2 x9 : DV) (h0 : Hp) : aH :=
 fM 4 x9 h0 fun v1 h1 =>
 aXg r n x0 x2 x9 v1 h1
def aJm (r : RT) (n : Nat) (x0 x1 x2 : DV) (h0 : Hp) : aH :=
 fL 1 x0 h0 fun v1 h1 =>
 bnd (aG 10 v1 x1 h1) fun v2 h2 =>
 bnd (aK 10 v2 h2) fun v3 h3 =>
 bnd (bQ [(aE 0),(aE 0),(aE 0),(aE 0),(aE 0),.l0,.l0,(.b false),(aE 0),(aE 0)] h3) fun v4 h4 =>
 bnd (aJ 10 v4 v3 h4) fun _ h5 =>
  zX r n x0 x2 v4 h5
def bDe (r : RT) (n : Nat) (x0 x1 x2 : DV) (h0 : Hp) : aH :=
 bnd (r 219 [x0,x1] h0) fun v1 h1 =>
 bnd (eQ .not v1 h1) fun v2 h2 =>
 bnd (gD v2 false (some (x2,h2)) h2) fun v3 h3 =>
 bnd (gD v2 false (aC .lss v3 (aE 0) h3) h3) fun v4 h4 =>
 bnd (aN v2 (.b true) v4 h4) fun v5 h5 =>
 aR v5 (
 some (.t [(aE 0),(aE 0),(.b false)],h5)) (
  aJm r n x0 x1 x2 h5)
def s220 (r : RT) (n : Nat) (x0 x1 x2 : DV) (h0 : Hp) : aH :=
 bDe r n x0 x1 x2 h0
abbrev c220 : Code:=cf Tryz.f220
abbrev aOw : Code:=cR c220
abbrev aMa : Code:=cR aOw
abbrev aQp : Code:=cR aMa
abbrev aLe : Code:=cR aQp
abbrev eBu : Code:=cR aLe
abbrev cLl : Code:=cL aLe
abbrev cKd : Code:=cL aQp
abbrev bAv : Code:=cL aMa
abbrev cId : Code:=cL aOw
abbrev bPn : Code:=cL c220
abbrev r220 : K:=bE CF Tryz.f220
def D220 (r : RT) (n : Nat) (c : Code) (X : Nat → K) (k : K) : K:=aW CF r 70 n c X r220 k
theorem cXr : D220 r n eBu x0 r220 = (K4 (aGr r n) 0 2 9 10) :=
 (by kernel_rfl)
theorem cUq : D220 r n aLe x0 r220 = D220 r n cLl x0 (K4 (aGr r n) 0 2 9 10) :=
 congrArg (fun k=>D220 r n cLl x0 k) (cXr r n)
theorem dBs : D220 r n aLe x0 r220 = (K4 (aXg r n) 0 2 9 10) :=
 (cUq r n).trans
 ((by kernel_rfl))
theorem cDk : D220 r n aQp x0 r220 = D220 r n cKd x0 (K4 (aXg r n) 0 2 9 10) :=
 congrArg (fun k=>D220 r n cKd x0 k) (dBs r n)
theorem dIr : D220 r n aQp x0 r220 = (K3 (zX r n) 0 2 9) :=
 (cDk r n).trans
 ((by kernel_rfl))
theorem cQx : D220 r n aMa x0 r220 = D220 r n bAv x0 (K3 (zX r n) 0 2 9) :=
 congrArg (fun k=>D220 r n bAv x0 k) (dIr r n)
theorem cAc (q0 : jS) : D220 r n bAv x0 (K3 q0 0 2 9) = fun (env : aZ) (h : Hp) =>
 bnd (aV (env 0) h) fun v1 h1 =>
 bnd (aB 1 v1 h1) fun v2 h2 =>
 bnd (aA v2 h2) fun v3 h3 =>
 bnd (aG 10 v3 (env 1) h3) fun v4 h4 =>
 bnd (aK 10 v4 h4) fun v5 h5 =>
 bnd (bQ [(aE 0),(aE 0),(aE 0),(aE 0),(aE 0),.l0,.l0,(.b false),(aE 0),(aE 0)] h5) fun v6 h6 =>
 bnd (aJ 10 v6 v5 h6) fun _ h7 =>
  q0 (env 0) (env 2) v6 h7:=by kernel_rfl
theorem bUq : (fun (env : aZ) (h : Hp) =>
 bnd (aV (env 0) h) fun v1 h1 =>
 bnd (aB 1 v1 h1) fun v2 h2 =>
 bnd (aA v2 h2) fun v3 h3 =>
 bnd (aG 10 v3 (env 1) h3) fun v4 h4 =>
 bnd (aK 10 v4 h4) fun v5 h5 =>
 bnd (bQ [(aE 0),(aE 0),(aE 0),(aE 0),(aE 0),.l0,.l0,(.b false),(aE 0),(aE 0)] h5) fun v6 h6 =>
 bnd (aJ 10 v6 v5 h6) fun _ h7 =>
  zX r n (env 0) (env 2) v6 h7) = (K3 (aJm r n) 0 1 2):=by kernel_rfl
theorem dMs : D220 r n aMa x0 r220 = (K3 (aJm r n) 0 1 2) :=
 (cQx r n).trans
 ((cAc r n (zX r n)).trans (bUq r n))
theorem cRq : D220 r n aOw x0 r220 = D220 r n cId x0 (K3 (aJm r n) 0 1 2) :=
 congrArg (fun k=>D220 r n cId x0 k) (dMs r n)
theorem dEr : D220 r n aOw x0 r220 = (K3 (bDe r n) 0 1 2) :=
 (cRq r n).trans
 ((by kernel_rfl))
theorem eAy : D220 r n c220 x0 r220 = D220 r n bPn x0 (K3 (bDe r n) 0 1 2) :=
 congrArg (fun k=>D220 r n bPn x0 k) (dEr r n)
theorem eSk : D220 r n c220 x0 r220 = (K3 (s220 r n) 0 1 2) :=
 (eAy r n).trans
 ((by kernel_rfl))
theorem dVd : aI CF r n 220 args h = s220 r n (bI args 0) (bI args 1) (bI args 2) h :=
 (by kernel_rfl : aI CF r n 220 args h = D220 r n c220 x0 r220 (aQ args) h).trans ((congrFun (congrFun (eSk r n) (aQ args)) h).trans (by kernel_rfl))
def s221 (r : RT) (n : Nat) (x0 x1 : DV) (h0 : Hp) : aH :=
 fL 1 x0 h0 fun v1 h1 =>
 bnd (r 93 [v1] h1) fun v2 h2 =>
  fL 6 v2 h2 fun v3 h3 =>
 bnd (bM v3 h3) fun v4 h4 =>
 bnd (aC .sub v4 x1 h4) fun v5 h5 =>
 bnd (bXc (aE 0) v5 h5) fun v6 h6 =>
 bnd (aS [] 0 [] h6) fun v7 h7 =>
  fL 6 v2 h7 fun v8 h8 =>
 bnd (eL 1 v8 (some v6) none h8) fun v9 h9 =>
 bnd (bH 1 8 v7 v9 h9) fun v10 h10 =>
  fL 6 v2 h10 fun v11 h11 =>
 bnd (eL 1 v11 none (some v6) h11) fun v12 h12 =>
 bnd (aV v2 h12) fun v13 h13 =>
 bnd (aB 6 v13 h13) fun v14 h14 =>
 bnd (aJ 1 v14 v12 h14) fun _ h15 =>
 some (v10,h15)
theorem eHk : aI CF r n 221 args h = s221 r n (bI args 0) (bI args 1) h :=
 by kernel_rfl
def s222 (r : RT) (n : Nat) (x0 : DV) (h0 : Hp) : aH :=
 bnd (aC .eql x0 (.i .i64 (Int.ofNat 16)) h0) fun v1 h1 =>
 bnd (gD v1 false (some (x0,h1)) h1) fun v2 h2 =>
 bnd (gD v1 false (aC .eql v2 (.i .i64 (Int.ofNat 17)) h2) h2) fun v3 h3 =>
 bnd (aN v1 (.b true) v3 h3) fun v4 h4 =>
 some (v4,h4)
theorem cKm : aI CF r n 222 args h = s222 r n (bI args 0) h :=
 by kernel_rfl
def s223 (r : RT) (n : Nat) (x0 : DV) (h0 : Hp) : aH :=
 bnd (lQ [x0] h0) fun v1 h1 =>
 bnd (aF 0 v1 h1) fun v2 h2 =>
 bnd (aF 1 v1 h2) fun v3 h3 =>
 some (v2,h3)
theorem dYg : aI CF r n 223 args h = s223 r n (bI args 0) h :=
 by kernel_rfl
def s224 (r : RT) (n : Nat) (x0 x1 x2 x3 : DV) (h0 : Hp) : aH :=
 bnd (bQ [(aE 0),(aE 0)] h0) fun v1 h1 =>
  fL 81 x0 h1 fun v2 h2 =>
 bnd (aC .add v2 (aE 1) h2) fun v3 h3 =>
 bnd (aV x0 h3) fun v4 h4 =>
 bnd (aB 81 v4 h4) fun v5 h5 =>
 bnd (aJ 1 v5 v3 h5) fun _ h6 =>
 bnd (aY [(aE 0),(aE 0)] [(0,1,x2),(1,1,x3)] h6) fun v7 h7 =>
 bnd (bQ [(aE 0),(aE 0)] h7) fun v8 h8 =>
 bnd (aJ 2 v8 v7 h8) fun _ h9 =>
 bnd (aC .mul (aE 5) x3 h9) fun v10 h10 =>
 bnd (aC .add x2 v10 h10) fun v11 h11 =>
 bnd (cV .u64 v11 h11) fun v12 h12 =>
 bnd (aC .quo v12 (.i .u64 (Int.ofNat 2)) h12) fun v13 h13 =>
 bnd (aC .rem v13 (.i .u64 (Int.ofNat 16)) h13) fun v14 h14 =>
 bnd (aV x0 h14) fun v15 h15 =>
 bnd (aB 0 v15 h15) fun v16 h16 =>
 bnd (mE 16 5 v16 v14 h16) fun v17 h17 =>
  fL 0 v17 h17 fun v18 h18 =>
 bnd (gD v18 true (some (v17,h18)) h18) fun v19 h19 =>
 bnd (gD v18 true (aV v19 h19) h19) fun v20 h20 =>
 bnd (gD v18 true (aB 1 v20 h20) h20) fun v21 h21 =>
 bnd (gD v18 true (aK 2 v21 h21) h21) fun v22 h22 =>
 bnd (gD v18 true (aK 2 v8 h22) h22) fun v23 h23 =>
 bnd (gD v18 true (bVf true .eql v22 v23 h23) h23) fun v24 h24 =>
 bnd (aN v18 v24 (.b false) h24) fun v25 h25 =>
 aR v25 (
  fL 80 x0 h25 fun v26 h26 =>
 bnd (aC .add v26 (aE 1) h26) fun v27 h27 =>
 bnd (aV x0 h27) fun v28 h28 =>
 bnd (aB 80 v28 h28) fun v29 h29 =>
 bnd (aJ 1 v29 v27 h29) fun _ h30 =>
 bnd (aV v17 h30) fun v31 h31 =>
 bnd (aB 3 v31 h31) fun v32 h32 =>
 bnd (aK 2 v32 h32) fun v33 h33 =>
 bnd (aJ 2 v1 v33 h33) fun _ h34 =>
 bnd (aK 2 v1 h34) fun v35 _ =>
 some (v35,h34)) (
 bnd (aK 2 v8 h25) fun v36 h36 =>
 bnd (r 259 [x1,x2,x3] h36) fun v37 h37 =>
 cnd (aX (aK 2 v8 h37) v36 && true) (
 bnd (aY [(.b false),(aE 0),(aE 0),(aE 0),(aE 0)] [(0,1,(.b true)),(1,2,v36),(3,2,v37)] h37) fun v38 h38 =>
 bnd (aV v17 h38) fun v39 h39 =>
 bnd (aJ 5 v39 v38 h39) fun v40 h40 =>
 bnd (aV v17 h40) fun v41 h41 =>
 bnd (aB 3 v41 h41) fun v42 h42 =>
 bnd (aK 2 v42 h42) fun v43 h43 =>
 bnd (aJ 2 v1 v43 h43) fun _ h44 =>
 bnd (aK 2 v1 h44) fun v45 _ =>
 some (v45,h44)))
theorem dVs : aI CF r n 224 args h = s224 r n (bI args 0) (bI args 1) (bI args 2) (bI args 3) h :=
 by kernel_rfl
def aHf (r : RT) (n : Nat) (x0 x1 x2 x7 : DV) (h0 : Hp) : aH :=
 bnd (r 221 [x0,x2] h0) fun v1 h1 =>
 bnd (aV x0 h1) fun v2 h2 =>
 bnd (aB 1 v2 h2) fun v3 h3 =>
 bnd (aA v3 h3) fun v4 h4 =>
 bnd (r 155 [x0] h4) fun v5 h5 =>
 cnd (aX (aA v3 h5) v4 && true) (
 bnd (aB 2 x7 h5) fun v6 h6 =>
 bnd (aA v6 h6) fun v7 h7 =>
 cnd (aX (aA v6 h1) v7 && true) (
 bnd (aC .sub v7 x2 h7) fun v8 h8 =>
 bnd (jL 1 8 [(aE 0)] v1 v8 h8) fun v9 h9 =>
 cnd (aX (aA v3 h9) v4 && true) (
 bnd (aY [(aE 0),(aE 0),(aE 0),(aE 0),(aE 0),.l0,.l0,(.b false),(aE 0),(aE 0)] [(0,1,x1),(1,1,v5),(5,1,v9)] h9) fun v10 h10 =>
 bnd (r 45 [v4,v10] h10) fun v11 h11 =>
 some (v11,h11))))
def aWb (r : RT) (n : Nat) (x0 x1 x2 x7 : DV) (h0 : Hp) : aH :=
 fM 3 x7 h0 fun v1 h1 =>
 bnd (aC .neq v1 (aE 0) h1) fun v2 h2 =>
 aR v2 (
  fM 3 x7 h2 fun v3 h3 =>
 bnd (r 260 [x0,v3,x2] h3) fun v4 h4 =>
 bnd (aF 0 v4 h4) fun v5 h5 =>
 bnd (aF 1 v4 h5) fun v6 h6 =>
 bnd (gD v5 false (some (v6,h6)) h6) fun v7 h7 =>
 bnd (gD v5 false (aC .neq v7 (aE 0) h7) h7) fun v8 h8 =>
 bnd (aN v5 (.b true) v8 h8) fun v9 h9 =>
 aR v9 (
 some (v6,h9)) (
   aHf r n x0 x1 x2 x7 h9)) (
  aHf r n x0 x1 x2 x7 h2)
def aCi (r : RT) (n : Nat) (x0 x1 x2 x7 : DV) (h0 : Hp) : aH :=
 fM 1 x7 h0 fun v1 h1 =>
 bnd (aC .neq v1 x2 h1) fun v2 h2 =>
 aR v2 (
 bnd (r 92 [x0,(aE 23),(.s [97,114,103,117,109,101,110,116,115])] h2) fun v3 h3 =>
 some (v3,h3)) (
  aWb r n x0 x1 x2 x7 h2)
def aRj (r : RT) (n : Nat) (x0 x1 x2 : DV) (h0 : Hp) : aH :=
 bnd (r 218 [x0,x1] h0) fun v1 h1 =>
 bnd (bQ [(.s []),(aE 0),(aE 0),(aE 0),.l0,.l0] h1) fun v2 h2 =>
 bnd (aJ 6 v2 v1 h2) fun _ h3 =>
  aCi r n x0 x1 x2 v2 h3
def s225 (r : RT) (n : Nat) (x0 x1 x2 : DV) (h0 : Hp) : aH :=
 aRj r n x0 x1 x2 h0
abbrev c225 : Code:=cf Tryz.f225
abbrev aPg : Code:=cR c225
abbrev aIy : Code:=cR aPg
abbrev aNs : Code:=cR aIy
abbrev dZf : Code:=cR aNs
abbrev cTf : Code:=cL aNs
abbrev cEw : Code:=cL aIy
abbrev bDo : Code:=cL aPg
abbrev cEm : Code:=cL c225
abbrev r225 : K:=bE CF Tryz.f225
def D225 (r : RT) (n : Nat) (c : Code) (X : Nat → K) (k : K) : K:=aW CF r 55 n c X r225 k
theorem dOr : D225 r n dZf x0 r225 = (K4 (aHf r n) 0 1 2 7) :=
 (by kernel_rfl)
theorem cJa : D225 r n aNs x0 r225 = D225 r n cTf x0 (K4 (aHf r n) 0 1 2 7) :=
 congrArg (fun k=>D225 r n cTf x0 k) (dOr r n)
theorem dDc : D225 r n aNs x0 r225 = (K4 (aWb r n) 0 1 2 7) :=
 (cJa r n).trans
 ((by kernel_rfl))
theorem cDr : D225 r n aIy x0 r225 = D225 r n cEw x0 (K4 (aWb r n) 0 1 2 7) :=
 congrArg (fun k=>D225 r n cEw x0 k) (dDc r n)
theorem cXs : D225 r n aIy x0 r225 = (K4 (aCi r n) 0 1 2 7) :=
 (cDr r n).trans
 ((by kernel_rfl))
theorem cUi : D225 r n aPg x0 r225 = D225 r n bDo x0 (K4 (aCi r n) 0 1 2 7) :=
 congrArg (fun k=>D225 r n bDo x0 k) (cXs r n)
theorem cQt (q0 : dG) : D225 r n bDo x0 (K4 q0 0 1 2 7) = fun (env : aZ) (h : Hp) =>
 bnd (r 218 [(env 0),(env 1)] h) fun v1 h1 =>
 bnd (bQ [(.s []),(aE 0),(aE 0),(aE 0),.l0,.l0] h1) fun v2 h2 =>
 bnd (aJ 6 v2 v1 h2) fun _ h3 =>
  q0 (env 0) (env 1) (env 2) v2 h3:=by kernel_rfl
theorem bRa : (fun (env : aZ) (h : Hp) =>
 bnd (r 218 [(env 0),(env 1)] h) fun v1 h1 =>
 bnd (bQ [(.s []),(aE 0),(aE 0),(aE 0),.l0,.l0] h1) fun v2 h2 =>
 bnd (aJ 6 v2 v1 h2) fun _ h3 =>
  aCi r n (env 0) (env 1) (env 2) v2 h3) = (K3 (aRj r n) 0 1 2):=by kernel_rfl
theorem cYs : D225 r n aPg x0 r225 = (K3 (aRj r n) 0 1 2) :=
 (cUi r n).trans
 ((cQt r n (aCi r n)).trans (bRa r n))
theorem eEd : D225 r n c225 x0 r225 = D225 r n cEm x0 (K3 (aRj r n) 0 1 2) :=
 congrArg (fun k=>D225 r n cEm x0 k) (cYs r n)
theorem eQa : D225 r n c225 x0 r225 = (K3 (s225 r n) 0 1 2) :=
 (eEd r n).trans
 ((by kernel_rfl))
theorem dVq : aI CF r n 225 args h = s225 r n (bI args 0) (bI args 1) (bI args 2) h :=
 (by kernel_rfl : aI CF r n 225 args h = D225 r n c225 x0 r225 (aQ args) h).trans ((congrFun (congrFun (eQa r n) (aQ args)) h).trans (by kernel_rfl))
end Go.Dd

namespace Go.Dd
open Go.Proofs
variable (r : RT) (n : Nat) (args : List DV) (h : Hp)
def s230 (r : RT) (n : Nat) (x0 x1 : DV) (h0 : Hp) : aH :=
 bnd (bBc [x0,x1] h0) fun v1 h1 =>
 some (v1,h1)
theorem dXx : aI CF r n 230 args h = s230 r n (bI args 0) (bI args 1) h :=
 by kernel_rfl
def gC (r : RT) (n : Nat) (x0 x7 : DV) (h0 : Hp) : aH :=
 fL 0 x0 h0 fun v1 h1 =>
 fL 1 x0 h1 fun v2 h2 =>
 bnd (iF v1 (some x7) (some v2) h2) fun v3 h3 =>
 some (v3,h3)
def bHh (r : RT) (n : Nat) (kk4 : dG) (x0 x1 x2 x7 : DV) (h0 : Hp) : aH :=
  fL 1 x0 h0 fun v1 h1 =>
  fL 0 x0 h1 fun v2 h2 =>
 bnd (fS v2 h2) fun v3 h3 =>
 bnd (aC .lss v1 v3 h3) fun v4 h4 =>
 bnd (gD v4 true (some (x0,h4)) h4) fun v5 h5 =>
 bnd (gD v4 true (aV v5 h5) h5) fun v6 h6 =>
 bnd (gD v4 true (aB 1 v6 h6) h6) fun v7 h7 =>
 bnd (gD v4 true (aA v7 h7) h7) fun v8 h8 =>
 bnd (gD v4 true (some (x7,h8)) h8) fun v9 h9 =>
 bnd (gD v4 true (aC .sub v8 v9 h9) h9) fun v10 h10 =>
 bnd (gD v4 true (some (x2,h10)) h10) fun v11 h11 =>
 bnd (gD v4 true (aC .lss v10 v11 h11) h11) fun v12 h12 =>
 bnd (aN v4 v12 (.b false) h12) fun v13 h13 =>
 bnd (gD v13 true (some (x1,h13)) h13) fun v14 h14 =>
 bnd (gD v13 true (some (x0,h14)) h14) fun v15 h15 =>
 bnd (gD v13 true (aV v15 h15) h15) fun v16 h16 =>
 bnd (gD v13 true (aB 0 v16 h16) h16) fun v17 h17 =>
 bnd (gD v13 true (aA v17 h17) h17) fun v18 h18 =>
 bnd (gD v13 true (some (x0,h18)) h18) fun v19 h19 =>
 bnd (gD v13 true (aV v19 h19) h19) fun v20 h20 =>
 bnd (gD v13 true (aB 1 v20 h20) h20) fun v21 h21 =>
 bnd (gD v13 true (aA v21 h21) h21) fun v22 h22 =>
 bnd (gD v13 true (cT v18 v22 h22) h22) fun v23 h23 =>
 bnd (gD v13 true (iA CF r v14 [v23] h23) h23) fun v24 h24 =>
 bnd (aN v13 v24 (.b false) h24) fun v25 h25 =>
 aR v25 (
   fL 1 x0 h25 fun v26 h26 =>
 bnd (aC .add v26 (aE 1) h26) fun v27 h27 =>
 bnd (aV x0 h27) fun v28 h28 =>
 bnd (aB 1 v28 h28) fun v29 h29 =>
 bnd (aJ 1 v29 v27 h29) fun _ h30 =>
      kk4 x0 x1 x2 x7 h30) (
      gC r n x0 x7 h25)
def yL (r : RT) (n : Nat) (m : Nat) : dG :=
 Nat.rec (motive:=fun _=>dG) (fun _ _ _ _ _=>none) (fun _ ih=>bHh r n ih) m
def cSn (r : RT) (n : Nat) : dG:=yL r n n
def bAh (r : RT) (n : Nat) (x0 x1 x2 x7 : DV) (h0 : Hp) : aH :=
 cSn r n x0 x1 x2 x7 h0
def bAk (r : RT) (n : Nat) (x0 x1 x2 : DV) (h0 : Hp) : aH :=
 fL 1 x0 h0 fun v1 h1 =>
 bAh r n x0 x1 x2 v1 h1
def s231 (r : RT) (n : Nat) (x0 x1 x2 : DV) (h0 : Hp) : aH :=
 bAk r n x0 x1 x2 h0
abbrev c231 : Code:=cf Tryz.f231
abbrev aMn : Code:=cR c231
abbrev aRg : Code:=cR aMn
abbrev eCa : Code:=cR aRg
abbrev aMh : Code:=cL aRg
abbrev aJh : Code:=cL aMh
abbrev qI : Code:=cL aJh
abbrev cAk : Code:=cL aMn
abbrev cWw : Code:=cL c231
abbrev r231 : K:=bE CF Tryz.f231
def D231 (r : RT) (n : Nat) (c : Code) (X : Nat → K) (k : K) : K:=aW CF r 62 n c X r231 k
theorem dMj : D231 r n eCa x0 r231 = (K2 (gC r n) 0 7) :=
 (by kernel_rfl)
theorem cEj (kk4 : dG) : D231 r n qI (xs x0 0 (K2 (gC r n) 0 7)) (K4 kk4 0 1 2 7) = (K4 (bHh r n kk4) 0 1 2 7) :=
 (by kernel_rfl)
theorem cNx (m : Nat) : aM (fun kk=>D231 r n qI (xs x0 0 (K2 (gC r n) 0 7)) kk) m = (K4 (yL r n m) 0 1 2 7):=by
 induction m with
 | zero=>exact (by kernel_rfl : aM (fun kk=>D231 r n qI (xs x0 0 (K2 (gC r n) 0 7)) kk) 0 = (K4 (yL r n 0) 0 1 2 7))
 | succ m ih =>
  refine (by kernel_rfl : aM (fun kk=>D231 r n qI (xs x0 0 (K2 (gC r n) 0 7)) kk) (m + 1) = D231 r n qI (xs x0 0 (K2 (gC r n) 0 7)) (aM (fun kk=>D231 r n qI (xs x0 0 (K2 (gC r n) 0 7)) kk) m)).trans ?_
  rw [ih]
  exact (cEj r n (yL r n m)).trans (by kernel_rfl)
theorem dBb : D231 r n aJh (xs x0 0 (K2 (gC r n) 0 7)) (K2 (gC r n) 0 7) = (K4 (cSn r n) 0 1 2 7) :=
 (by kernel_rfl : D231 r n aJh (xs x0 0 (K2 (gC r n) 0 7)) (K2 (gC r n) 0 7) = aM (fun kk=>D231 r n qI (xs x0 0 (K2 (gC r n) 0 7)) kk) n).trans ((cNx r n n).trans (by kernel_rfl))
theorem cDj : D231 r n aRg x0 r231 = D231 r n aMh x0 (K2 (gC r n) 0 7) :=
 congrArg (fun k=>D231 r n aMh x0 k) (dMj r n)
theorem dCl : D231 r n aRg x0 r231 = (K4 (bAh r n) 0 1 2 7) :=
 (cDj r n).trans
 ((by kernel_rfl : D231 r n aMh x0 (K2 (gC r n) 0 7) = D231 r n aJh (xs x0 0 (K2 (gC r n) 0 7)) (K2 (gC r n) 0 7)).trans
 ((dBb r n).trans (by kernel_rfl)))
theorem cCt : D231 r n aMn x0 r231 = D231 r n cAk x0 (K4 (bAh r n) 0 1 2 7) :=
 congrArg (fun k=>D231 r n cAk x0 k) (dCl r n)
theorem dJx : D231 r n aMn x0 r231 = (K3 (bAk r n) 0 1 2) :=
 (cCt r n).trans
 ((by kernel_rfl))
theorem eAq : D231 r n c231 x0 r231 = D231 r n cWw x0 (K3 (bAk r n) 0 1 2) :=
 congrArg (fun k=>D231 r n cWw x0 k) (dJx r n)
theorem eRy : D231 r n c231 x0 r231 = (K3 (s231 r n) 0 1 2) :=
 (eAq r n).trans
 ((by kernel_rfl))
theorem dXo : aI CF r n 231 args h = s231 r n (bI args 0) (bI args 1) (bI args 2) h :=
 (by kernel_rfl : aI CF r n 231 args h = D231 r n c231 x0 r231 (aQ args) h).trans ((congrFun (congrFun (eRy r n) (aQ args)) h).trans (by kernel_rfl))
def s232 (r : RT) (n : Nat) (x0 : DV) (h0 : Hp) : aH :=
 bnd (bZ x0 h0) fun v1 h1 =>
 some ((.f 272 [] [v1]),h1)
theorem eAt : aI CF r n 232 args h = s232 r n (bI args 0) h :=
 by kernel_rfl
def s234 (r : RT) (n : Nat) (x0 x1 x2 : DV) (h0 : Hp) : aH :=
 bnd (r 238 [x0,(aE 0)] h0) fun v1 h1 =>
 bnd (bQ [(aE 0),(.s []),(aE 0),(aE 0)] h1) fun v2 h2 =>
 bnd (aJ 4 v2 v1 h2) fun _ h3 =>
  fL 3 x0 h3 fun v4 h4 =>
 bnd (aC .eql v4 (aE 0) h4) fun v5 h5 =>
 bnd (gD v5 true (aB 0 v2 h5) h5) fun v6 h6 =>
 bnd (gD v5 true (aA v6 h6) h6) fun v7 h7 =>
 bnd (gD v5 true (some (x1,h7)) h7) fun v8 h8 =>
 bnd (gD v5 true (aC .eql v7 v8 h8) h8) fun v9 h9 =>
 bnd (aN v5 v9 (.b false) h9) fun v10 h10 =>
 bnd (gD v10 true (some (x2,h10)) h10) fun v11 h11 =>
 bnd (gD v10 true (dX .eql v11 (.s []) h11) h11) fun v12 h12 =>
 bnd (gD v10 true (some (v12,h12)) h12) fun v13 h13 =>
 bnd (gD v13 false (aB 1 v2 h13) h13) fun v14 h14 =>
 bnd (gD v13 false (aA v14 h14) h14) fun v15 h15 =>
 bnd (gD v13 false (some (x2,h15)) h15) fun v16 h16 =>
 bnd (gD v13 false (dX .eql v15 v16 h16) h16) fun v17 h17 =>
 bnd (gD v10 true (aN v13 (.b true) v17 h17) h17) fun v18 h18 =>
 bnd (aN v10 v18 (.b false) h18) fun v19 h19 =>
 some (v19,h19)
theorem dYo : aI CF r n 234 args h = s234 r n (bI args 0) (bI args 1) (bI args 2) h :=
 by kernel_rfl
def s238 (r : RT) (n : Nat) (x0 x1 : DV) (h0 : Hp) : aH :=
 bnd (bQ [(aE 0),(.s []),(aE 0),(aE 0)] h0) fun v1 h1 =>
  fL 0 x0 h1 fun v2 h2 =>
  fL 0 x0 h2 fun v3 h3 =>
 bnd (bM v3 h3) fun v4 h4 =>
 bnd (aC .sub v4 (aE 1) h4) fun v5 h5 =>
 bnd (bXy x1 v5 h5) fun v6 h6 =>
 bnd (aG 4 v2 v6 h6) fun v7 h7 =>
 bnd (aK 4 v7 h7) fun v8 h8 =>
 bnd (aJ 4 v1 v8 h8) fun v9 h9 =>
 bnd (aK 4 v1 h9) fun v10 _ =>
 some (v10,h9)
theorem eBz : aI CF r n 238 args h = s238 r n (bI args 0) (bI args 1) h :=
 by kernel_rfl
def s243 (r : RT) (n : Nat) (x0 : DV) (h0 : Hp) : aH :=
 bnd (bQ kG h0) fun v1 h1 =>
 bnd (r 119 [x0,(aE 0)] h1) fun v2 h2 =>
 bnd (bQ [(aE 0),(.s []),(aE 0),(aE 0)] h2) fun v3 h3 =>
 bnd (aJ 4 v3 v2 h3) fun _ h4 =>
 bnd (r 114 [x0,(aE 3),(.s [45])] h4) fun v5 h5 =>
 bnd (gD v5 true (some (x0,h5)) h5) fun v6 h6 =>
 bnd (gD v5 true (r 119 [v6,(aE 1)] h6) h6) fun v7 h7 =>
 bnd (gD v5 true (gN 0 v7 h7) h7) fun v8 h8 =>
 bnd (gD v5 true (aC .eql v8 (aE 4) h8) h8) fun v9 h9 =>
 bnd (aN v5 v9 (.b false) h9) fun v10 h10 =>
 bnd (gD v10 true (some (x0,h10)) h10) fun v11 h11 =>
 bnd (gD v10 true (r 119 [v11,(aE 1)] h11) h11) fun v12 h12 =>
 bnd (gD v10 true (gN 3 v12 h12) h12) fun v13 h13 =>
 bnd (gD v10 true (aB 3 v3 h13) h13) fun v14 h14 =>
 bnd (gD v10 true (aA v14 h14) h14) fun v15 h15 =>
 cnd (aX (gD v10 true (aA v14 h7) h7) v15 && true) (
 bnd (gD v10 true (aC .add v15 (aE 1) h15) h15) fun v16 h16 =>
 bnd (gD v10 true (aC .eql v13 v16 h16) h16) fun v17 h17 =>
 bnd (aN v10 v17 (.b false) h17) fun v18 h18 =>
 aR v18 (
 bnd (r 115 [x0] h18) fun v19 h19 =>
 bnd (r 115 [x0] h19) fun v20 h20 =>
 bnd (gN 2 v20 h20) fun v21 h21 =>
 bnd (eQ .neg v21 h21) fun v22 h22 =>
 bnd (aY kG [(0,1,(aE 1)),(2,1,v22)] h22) fun v23 h23 =>
 bnd (aJ 6 v1 v23 h23) fun _ h24 =>
 bnd (aK 6 v1 h24) fun v25 _ =>
 some (.t [v25,(.b true)],h24)) (
 bnd (r 114 [x0,(aE 4),(.s [])] h18) fun v26 h26 =>
 aR v26 (
 bnd (r 115 [x0] h26) fun v27 h27 =>
 bnd (gN 2 v27 h27) fun v28 h28 =>
 bnd (aY kG [(0,1,(aE 1)),(2,1,v28)] h28) fun v29 h29 =>
 bnd (aJ 6 v1 v29 h29) fun _ h30 =>
 bnd (aK 6 v1 h30) fun v31 _ =>
 some (.t [v31,(.b true)],h30)) (
 bnd (r 114 [x0,(aE 5),(.s [])] h26) fun v32 h32 =>
 aR v32 (
 bnd (r 115 [x0] h32) fun v33 h33 =>
 bnd (gN 1 v33 h33) fun v34 h34 =>
 bnd (aY kG [(0,1,(aE 2)),(1,1,v34)] h34) fun v35 h35 =>
 bnd (aJ 6 v1 v35 h35) fun _ h36 =>
 bnd (aK 6 v1 h36) fun v37 _ =>
 some (.t [v37,(.b true)],h36)) (
 bnd (r 114 [x0,(aE 6),(.s [])] h32) fun v38 h38 =>
 aR v38 (
 bnd (r 115 [x0] h38) fun v39 h39 =>
 bnd (gN 1 v39 h39) fun v40 h40 =>
 bnd (aY kG [(0,1,(aE 3)),(1,1,v40)] h40) fun v41 h41 =>
 bnd (aJ 6 v1 v41 h41) fun _ h42 =>
 bnd (aK 6 v1 h42) fun v43 _ =>
 some (.t [v43,(.b true)],h42)) (
 bnd (aY kG [] h38) fun v44 h44 =>
 bnd (aJ 6 v1 v44 h44) fun _ h45 =>
 bnd (aK 6 v1 h45) fun v46 _ =>
 some (.t [v46,(.b false)],h45))))))
theorem dUp : aI CF r n 243 args h = s243 r n (bI args 0) h :=
 by kernel_rfl
def s245 (r : RT) (n : Nat) (x0 : DV) (h0 : Hp) : aH :=
 bnd (r 115 [x0] h0) fun v1 h1 =>
 bnd (bQ [(aE 0),(.s []),(aE 0),(aE 0)] h1) fun v2 h2 =>
 bnd (aJ 4 v2 v1 h2) fun _ h3 =>
  fL 2 x0 h3 fun v4 h4 =>
 bnd (aC .eql v4 (aE 20) h4) fun v5 h5 =>
 aR v5 (
 bnd (aK 4 v2 h5) fun v6 h6 =>
 bnd (r 117 [x0,v6,(aE 14)] h6) fun v7 h7 =>
 some ((.b false),h7)) (
  fL 2 x0 h5 fun v8 h8 =>
 bnd (aC .add v8 (aE 1) h8) fun v9 h9 =>
 bnd (aV x0 h9) fun v10 h10 =>
 bnd (aB 2 v10 h10) fun v11 h11 =>
 bnd (aJ 1 v11 v9 h11) fun _ h12 =>
 some ((.b true),h12))
theorem eCs : aI CF r n 245 args h = s245 r n (bI args 0) h :=
 by kernel_rfl
end Go.Dd

namespace Go.Dd
open Go.Proofs
variable (r : RT) (n : Nat) (args : List DV) (h : Hp)
def aMe (r : RT) (n : Nat) (x0 x2 x3 : DV) (h0 : Hp) : aH :=
 bnd (r 70 [x0] h0) fun v1 h1 =>
 bnd (aB 4 x3 h1) fun v2 h2 =>
 bnd (aJ 1 v2 v1 h2) fun _ h3 =>
 bnd (r 71 [x0] h3) fun v4 h4 =>
 bnd (aB 5 x3 h4) fun v5 h5 =>
 bnd (aJ 1 v5 v4 h5) fun _ h6 =>
 bnd (r 72 [x0,(aE 10),(.s [93])] h6) fun v7 h7 =>
  fL 2 x0 h7 fun v8 h8 =>
 bnd (aC .sub v8 (aE 1) h8) fun v9 h9 =>
 bnd (aV x0 h9) fun v10 h10 =>
 bnd (aB 2 v10 h10) fun v11 h11 =>
 bnd (aJ 1 v11 v9 h11) fun _ h12 =>
 bnd (aK 6 x3 h12) fun v13 h13 =>
 bnd (aJ 6 x2 v13 h13) fun _ h14 =>
 bnd (aK 6 x2 h14) fun v15 _ =>
 some (v15,h14)
def gE (r : RT) (n : Nat) (x0 x2 x3 : DV) (h0 : Hp) : aH :=
 fM 3 x3 h0 fun v1 h1 =>
 bnd (bM v1 h1) fun v2 h2 =>
 bnd (aC .gtr v2 (aE 0) h2) fun v3 h3 =>
 bnd (gD v3 true (some (x0,h3)) h3) fun v4 h4 =>
 bnd (gD v3 true (r 114 [v4,(aE 10),(.s [93])] h4) h4) fun v5 h5 =>
 bnd (gD v3 true (eQ .not v5 h5) h5) fun v6 h6 =>
 bnd (aN v3 v6 (.b false) h6) fun v7 h7 =>
 aR v7 (
 bnd (r 72 [x0,(aE 10),(.s [124])] h7) fun v8 h8 =>
  aMe r n x0 x2 x3 h8) (
  aMe r n x0 x2 x3 h7)
def bNv (r : RT) (n : Nat) (kk7 : jS) (x0 x2 x3 : DV) (h0 : Hp) : aH :=
 bnd (r 114 [x0,(aE 8),(.s [])] h0) fun v1 h1 =>
 aR v1 (
   fM 3 x3 h1 fun v2 h2 =>
 bnd (r 116 [x0,(aE 8),v2] h2) fun v3 h3 =>
 bnd (aB 3 x3 h3) fun v4 h4 =>
 bnd (aJ 1 v4 v3 h4) fun _ h5 =>
      kk7 x0 x2 x3 h5) (
      gE r n x0 x2 x3 h1)
def vQ (r : RT) (n : Nat) (m : Nat) : jS :=
 Nat.rec (motive:=fun _=>jS) (fun _ _ _ _=>none) (fun _ ih=>bNv r n ih) m
def cUe (r : RT) (n : Nat) : jS:=vQ r n n
def bBz (r : RT) (n : Nat) (x0 x2 x3 : DV) (h0 : Hp) : aH :=
 cUe r n x0 x2 x3 h0
def bBl (r : RT) (n : Nat) (x0 x2 x3 x4 : DV) (h0 : Hp) : aH :=
 bnd (eQ .not x4 h0) fun v1 h1 =>
 aR v1 (
 bnd (aK 6 x3 h1) fun v2 h2 =>
 bnd (aJ 6 x2 v2 h2) fun _ h3 =>
 bnd (aK 6 x2 h3) fun v4 _ =>
 some (v4,h3)) (
  bBz r n x0 x2 x3 h1)
def aBa (r : RT) (n : Nat) (x0 x2 x3 : DV) (h0 : Hp) : aH :=
 bnd (r 245 [x0] h0) fun v1 h1 =>
  bBl r n x0 x2 x3 v1 h1
def uB (r : RT) (n : Nat) (x0 x2 : DV) (h0 : Hp) : aH :=
 bnd (aY kG [(0,1,(aE 9))] h0) fun v1 h1 =>
 bnd (bQ kG h1) fun v2 h2 =>
 bnd (aJ 6 v2 v1 h2) fun _ h3 =>
  aBa r n x0 x2 v2 h3
def s246 (r : RT) (n : Nat) (x0 : DV) (h0 : Hp) : aH :=
 bnd (bQ kG h0) fun v1 h1 =>
  uB r n x0 v1 h1
abbrev c246 : Code:=cf Tryz.f246
abbrev aRl : Code:=cR c246
abbrev aRc : Code:=cR aRl
abbrev aRf : Code:=cR aRc
abbrev aNy : Code:=cR aRf
abbrev aPf : Code:=cR aNy
abbrev eAw : Code:=cR aPf
abbrev cUx : Code:=cL aPf
abbrev aIf : Code:=cL aNy
abbrev aNz : Code:=cL aIf
abbrev mS : Code:=cL aNz
abbrev bOk : Code:=cL aRf
abbrev bFl : Code:=cL aRc
abbrev aQq : Code:=cL aRl
abbrev aGj : Code:=cL c246
abbrev r246 : K:=bE CF Tryz.f246
def D246 (r : RT) (n : Nat) (c : Code) (X : Nat → K) (k : K) : K:=aW CF r 45 n c X r246 k
theorem dKy : D246 r n eAw x0 r246 = (K3 (aMe r n) 0 2 3) :=
 (by kernel_rfl)
theorem cSu : D246 r n aPf x0 r246 = D246 r n cUx x0 (K3 (aMe r n) 0 2 3) :=
 congrArg (fun k=>D246 r n cUx x0 k) (dKy r n)
theorem dBe : D246 r n aPf x0 r246 = (K3 (gE r n) 0 2 3) :=
 (cSu r n).trans
 ((by kernel_rfl))
theorem cRi (kk7 : jS) : D246 r n mS (xs x0 0 (K3 (gE r n) 0 2 3)) (K3 kk7 0 2 3) = (K3 (bNv r n kk7) 0 2 3) :=
 (by kernel_rfl)
theorem bZg (m : Nat) : aM (fun kk=>D246 r n mS (xs x0 0 (K3 (gE r n) 0 2 3)) kk) m = (K3 (vQ r n m) 0 2 3):=by
 induction m with
 | zero=>exact (by kernel_rfl : aM (fun kk=>D246 r n mS (xs x0 0 (K3 (gE r n) 0 2 3)) kk) 0 = (K3 (vQ r n 0) 0 2 3))
 | succ m ih =>
  refine (by kernel_rfl : aM (fun kk=>D246 r n mS (xs x0 0 (K3 (gE r n) 0 2 3)) kk) (m + 1) = D246 r n mS (xs x0 0 (K3 (gE r n) 0 2 3)) (aM (fun kk=>D246 r n mS (xs x0 0 (K3 (gE r n) 0 2 3)) kk) m)).trans ?_
  rw [ih]
  exact (cRi r n (vQ r n m)).trans (by kernel_rfl)
theorem dCs : D246 r n aNz (xs x0 0 (K3 (gE r n) 0 2 3)) (K3 (gE r n) 0 2 3) = (K3 (cUe r n) 0 2 3) :=
 (by kernel_rfl : D246 r n aNz (xs x0 0 (K3 (gE r n) 0 2 3)) (K3 (gE r n) 0 2 3) = aM (fun kk=>D246 r n mS (xs x0 0 (K3 (gE r n) 0 2 3)) kk) n).trans ((bZg r n n).trans (by kernel_rfl))
theorem cKi : D246 r n aNy x0 r246 = D246 r n aIf x0 (K3 (gE r n) 0 2 3) :=
 congrArg (fun k=>D246 r n aIf x0 k) (dBe r n)
theorem dNk : D246 r n aNy x0 r246 = (K3 (bBz r n) 0 2 3) :=
 (cKi r n).trans
 ((by kernel_rfl : D246 r n aIf x0 (K3 (gE r n) 0 2 3) = D246 r n aNz (xs x0 0 (K3 (gE r n) 0 2 3)) (K3 (gE r n) 0 2 3)).trans
 ((dCs r n).trans (by kernel_rfl)))
theorem cOi : D246 r n aRf x0 r246 = D246 r n bOk x0 (K3 (bBz r n) 0 2 3) :=
 congrArg (fun k=>D246 r n bOk x0 k) (dNk r n)
theorem dNn : D246 r n aRf x0 r246 = (K4 (bBl r n) 0 2 3 4) :=
 (cOi r n).trans
 ((by kernel_rfl))
theorem cUt : D246 r n aRc x0 r246 = D246 r n bFl x0 (K4 (bBl r n) 0 2 3 4) :=
 congrArg (fun k=>D246 r n bFl x0 k) (dNn r n)
theorem dOg : D246 r n aRc x0 r246 = (K3 (aBa r n) 0 2 3) :=
 (cUt r n).trans
 ((by kernel_rfl))
theorem cSl : D246 r n aRl x0 r246 = D246 r n aQq x0 (K3 (aBa r n) 0 2 3) :=
 congrArg (fun k=>D246 r n aQq x0 k) (dOg r n)
theorem cMg (q0 : jS) : D246 r n aQq x0 (K3 q0 0 2 3) = fun (env : aZ) (h : Hp) =>
 bnd (aY kG [(0,1,(aE 9))] h) fun v1 h1 =>
 bnd (bQ kG h1) fun v2 h2 =>
 bnd (aJ 6 v2 v1 h2) fun _ h3 =>
  q0 (env 0) (env 2) v2 h3:=by kernel_rfl
theorem bWg : (fun (env : aZ) (h : Hp) =>
 bnd (aY kG [(0,1,(aE 9))] h) fun v1 h1 =>
 bnd (bQ kG h1) fun v2 h2 =>
 bnd (aJ 6 v2 v1 h2) fun _ h3 =>
  aBa r n (env 0) (env 2) v2 h3) = (K2 (uB r n) 0 2):=by kernel_rfl
theorem dJd : D246 r n aRl x0 r246 = (K2 (uB r n) 0 2) :=
 (cSl r n).trans
 ((cMg r n (aBa r n)).trans (bWg r n))
theorem dWj : D246 r n c246 x0 r246 = D246 r n aGj x0 (K2 (uB r n) 0 2) :=
 congrArg (fun k=>D246 r n aGj x0 k) (dJd r n)
theorem dYq (q0 : gP) : D246 r n aGj x0 (K2 q0 0 2) = fun (env : aZ) (h : Hp) =>
 bnd (bQ kG h) fun v1 h1 =>
  q0 (env 0) v1 h1:=by kernel_rfl
theorem dQj : (fun (env : aZ) (h : Hp) =>
 bnd (bQ kG h) fun v1 h1 =>
  uB r n (env 0) v1 h1) = (K1 (s246 r n) 0):=by kernel_rfl
theorem eUj : D246 r n c246 x0 r246 = (K1 (s246 r n) 0) :=
 (dWj r n).trans
 ((dYq r n (uB r n)).trans (dQj r n))
theorem dXl : aI CF r n 246 args h = s246 r n (bI args 0) h :=
 (by kernel_rfl : aI CF r n 246 args h = D246 r n c246 x0 r246 (aQ args) h).trans ((congrFun (congrFun (eUj r n) (aQ args)) h).trans (by kernel_rfl))
def fB (r : RT) (n : Nat) (h0 : Hp) : aH :=
 some ((.i .i64 (Int.negSucc 0)),h0)
def bOj (r : RT) (n : Nat) (kk4 : dG) (x0 x1 x7 x8 : DV) (h0 : Hp) : aH :=
 bnd (aC .lss x8 x7 h0) fun v1 h1 =>
 aR v1 (
 bnd (aG 4 x0 x8 h1) fun v2 h2 =>
 bnd (aK 4 v2 h2) fun v3 h3 =>
 bnd (iA CF r x1 [v3] h3) fun v4 h4 =>
 aR v4 (
 some (x8,h4)) (
 bnd (aC .add x8 (aE 1) h4) fun v5 h5 =>
    kk4 x0 x1 x7 v5 h5)) (
      fB r n h1)
def yN (r : RT) (n : Nat) (m : Nat) : dG :=
 Nat.rec (motive:=fun _=>dG) (fun _ _ _ _ _=>none) (fun _ ih=>bOj r n ih) m
def cFx (r : RT) (n : Nat) : dG:=yN r n n
def aYf (r : RT) (n : Nat) (x0 x1 x7 x8 : DV) (h0 : Hp) : aH :=
 cFx r n x0 x1 x7 x8 h0
def aXr (r : RT) (n : Nat) (x0 x1 : DV) (h0 : Hp) : aH :=
 bnd (bM x0 h0) fun v1 h1 =>
  aYf r n x0 x1 v1 (aE 0) h1
def s251 (r : RT) (n : Nat) (x0 x1 : DV) (h0 : Hp) : aH :=
 aXr r n x0 x1 h0
abbrev c251 : Code:=cf Tryz.f251
abbrev aHi : Code:=cR c251
abbrev eHm : Code:=cR aHi
abbrev aAh : Code:=cL aHi
abbrev bBf : Code:=cR aAh
abbrev aHq : Code:=cL bBf
abbrev pO : Code:=cL aHq
abbrev bWz : Code:=cL aAh
abbrev cRr : Code:=cL c251
abbrev r251 : K:=bE CF Tryz.f251
def D251 (r : RT) (n : Nat) (c : Code) (X : Nat → K) (k : K) : K:=aW CF r 19 n c X r251 k
theorem dJe : D251 r n eHm x0 r251 = (K0 (fB r n)) :=
 (by kernel_rfl)
theorem cCp (kk4 : dG) : D251 r n pO (xs x0 0 (K0 (fB r n))) (K4 kk4 0 1 7 8) = (K4 (bOj r n kk4) 0 1 7 8) :=
 (by kernel_rfl)
theorem cSi (m : Nat) : aM (fun kk=>D251 r n pO (xs x0 0 (K0 (fB r n))) kk) m = (K4 (yN r n m) 0 1 7 8):=by
 induction m with
 | zero=>exact (by kernel_rfl : aM (fun kk=>D251 r n pO (xs x0 0 (K0 (fB r n))) kk) 0 = (K4 (yN r n 0) 0 1 7 8))
 | succ m ih =>
  refine (by kernel_rfl : aM (fun kk=>D251 r n pO (xs x0 0 (K0 (fB r n))) kk) (m + 1) = D251 r n pO (xs x0 0 (K0 (fB r n))) (aM (fun kk=>D251 r n pO (xs x0 0 (K0 (fB r n))) kk) m)).trans ?_
  rw [ih]
  exact (cCp r n (yN r n m)).trans (by kernel_rfl)
theorem dHl : D251 r n aHq (xs x0 0 (K0 (fB r n))) (K0 (fB r n)) = (K4 (cFx r n) 0 1 7 8) :=
 (by kernel_rfl : D251 r n aHq (xs x0 0 (K0 (fB r n))) (K0 (fB r n)) = aM (fun kk=>D251 r n pO (xs x0 0 (K0 (fB r n))) kk) n).trans ((cSi r n n).trans (by kernel_rfl))
theorem dOj : D251 r n bBf x0 (K0 (fB r n)) = (K4 (aYf r n) 0 1 7 8) :=
 (by kernel_rfl : D251 r n bBf x0 (K0 (fB r n)) = D251 r n aHq (xs x0 0 (K0 (fB r n))) (K0 (fB r n))).trans
 ((dHl r n).trans (by kernel_rfl))
theorem cLc : D251 r n aHi x0 r251 = D251 r n aAh x0 (K0 (fB r n)) :=
 congrArg (fun k=>D251 r n aAh x0 k) (dJe r n)
theorem cNh : D251 r n aAh x0 (K0 (fB r n)) = D251 r n bWz x0 (K4 (aYf r n) 0 1 7 8) :=
 congrArg (fun k=>D251 r n bWz x0 k) (dOj r n)
theorem dDt : D251 r n aHi x0 r251 = (K2 (aXr r n) 0 1) :=
 (cLc r n).trans
 ((cNh r n).trans
 ((by kernel_rfl)))
theorem eGj : D251 r n c251 x0 r251 = D251 r n cRr x0 (K2 (aXr r n) 0 1) :=
 congrArg (fun k=>D251 r n cRr x0 k) (dDt r n)
theorem eNg : D251 r n c251 x0 r251 = (K2 (s251 r n) 0 1) :=
 (eGj r n).trans
 ((by kernel_rfl))
theorem dXs : aI CF r n 251 args h = s251 r n (bI args 0) (bI args 1) h :=
 (by kernel_rfl : aI CF r n 251 args h = D251 r n c251 x0 r251 (aQ args) h).trans ((congrFun (congrFun (eNg r n) (aQ args)) h).trans (by kernel_rfl))
def cZ (r : RT) (n : Nat) (x4 : DV) (h0 : Hp) : aH :=
 some (x4,h0)
def lS (r : RT) (n : Nat) (kk5 : dG) (x0 x1 x4 x5 : DV) (h0 : Hp) : aH :=
 bnd (aC .add x5 (.i .i64 (Int.ofNat 1)) h0) fun v1 h1 =>
  kk5 x0 x1 x4 v1 h1
def aLr (r : RT) (n : Nat) (kk5 : dG) (x0 x1 x4 x5 : DV) (h0 : Hp) : aH :=
 bnd (aA x1 h0) fun v1 h1 =>
 bnd (r 254 [v1,x5] h1) fun v2 h2 =>
 bnd (aF 0 v2 h2) fun v3 h3 =>
 bnd (aF 1 v2 h3) fun v4 h4 =>
 bnd (gD v4 true (some (x0,h4)) h4) fun v5 h5 =>
 bnd (gD v4 true (some (v3,h5)) h5) fun v6 h6 =>
 bnd (gD v4 true (aC .lss v5 v6 h6) h6) fun v7 h7 =>
 bnd (aN v4 v7 (.b false) h7) fun v8 h8 =>
 aR v8 (
  lS r n kk5 x0 x1 x5 x5 h8) (
  lS r n kk5 x0 x1 x4 x5 h8)
def rP (r : RT) (n : Nat) (kk5 : dG) (x0 x1 x4 x5 : DV) (h0 : Hp) : aH :=
 bnd (aC .add x5 (.i .i64 (Int.ofNat 2)) h0) fun v1 h1 =>
 bnd (aC .leq v1 x0 h1) fun v2 h2 =>
 aR v2 (
   aLr r n kk5 x0 x1 x4 x5 h2) (
   cZ r n x4 h2)
def jI (r : RT) (n : Nat) (m : Nat) : dG :=
 Nat.rec (motive:=fun _=>dG) (fun _ _ _ _ _=>none) (fun _ ih=>rP r n ih) m
def bYr (r : RT) (n : Nat) : dG:=jI r n n
def bEo (r : RT) (n : Nat) (x0 x1 x4 x5 : DV) (h0 : Hp) : aH :=
 bYr r n x0 x1 x4 x5 h0
def aWm (r : RT) (n : Nat) (x0 x1 x4 : DV) (h0 : Hp) : aH :=
 bEo r n x0 x1 x4 (.i .i64 (Int.ofNat 0)) h0
def bDu (r : RT) (n : Nat) (x0 x1 : DV) (h0 : Hp) : aH :=
 aWm r n x0 x1 (.i .i64 (Int.negSucc 0)) h0
def s253 (r : RT) (n : Nat) (x0 x1 : DV) (h0 : Hp) : aH :=
 bDu r n x0 x1 h0
abbrev c253 : Code:=cf Tryz.f253
abbrev aHa : Code:=cR c253
abbrev aKv : Code:=cR aHa
abbrev eBx : Code:=cR aKv
abbrev aBe : Code:=cL aKv
abbrev bAn : Code:=cR aBe
abbrev aPy : Code:=cL bAn
abbrev lI : Code:=cL aPy
abbrev aLc : Code:=cR lI
abbrev eCb : Code:=cR aLc
abbrev bGy : Code:=cL aLc
abbrev bLx : Code:=cL lI
abbrev bPp : Code:=cL aBe
abbrev bLf : Code:=cL aHa
abbrev bNw : Code:=cL c253
abbrev r253 : K:=bE CF Tryz.f253
def D253 (r : RT) (n : Nat) (c : Code) (X : Nat → K) (k : K) : K:=aW CF r 28 n c X r253 k
theorem dPq : D253 r n eBx x0 r253 = (K1 (cZ r n) 4) :=
 (by kernel_rfl)
theorem dMu (kk5 : dG) : D253 r n eCb (xs x0 0 (K1 (cZ r n) 4)) (K4 kk5 0 1 4 5) = (K4 (lS r n kk5) 0 1 4 5) :=
 (by kernel_rfl)
theorem cUp (kk5 : dG) : D253 r n aLc (xs x0 0 (K1 (cZ r n) 4)) (K4 kk5 0 1 4 5) = D253 r n bGy (xs x0 0 (K1 (cZ r n) 4)) (K4 (lS r n kk5) 0 1 4 5) :=
 congrArg (fun k=>D253 r n bGy (xs x0 0 (K1 (cZ r n) 4)) k) (dMu r n kk5)
theorem dCf (kk5 : dG) : D253 r n aLc (xs x0 0 (K1 (cZ r n) 4)) (K4 kk5 0 1 4 5) = (K4 (aLr r n kk5) 0 1 4 5) :=
 (cUp r n kk5).trans
 ((by kernel_rfl))
theorem cMz (kk5 : dG) : D253 r n lI (xs x0 0 (K1 (cZ r n) 4)) (K4 kk5 0 1 4 5) = D253 r n bLx (xs x0 0 (K1 (cZ r n) 4)) (K4 (aLr r n kk5) 0 1 4 5) :=
 congrArg (fun k=>D253 r n bLx (xs x0 0 (K1 (cZ r n) 4)) k) (dCf r n kk5)
theorem cJe (kk5 : dG) : D253 r n lI (xs x0 0 (K1 (cZ r n) 4)) (K4 kk5 0 1 4 5) = (K4 (rP r n kk5) 0 1 4 5) :=
 (cMz r n kk5).trans
 ((by kernel_rfl))
theorem cDs (m : Nat) : aM (fun kk=>D253 r n lI (xs x0 0 (K1 (cZ r n) 4)) kk) m = (K4 (jI r n m) 0 1 4 5):=by
 induction m with
 | zero=>exact (by kernel_rfl : aM (fun kk=>D253 r n lI (xs x0 0 (K1 (cZ r n) 4)) kk) 0 = (K4 (jI r n 0) 0 1 4 5))
 | succ m ih =>
  refine (by kernel_rfl : aM (fun kk=>D253 r n lI (xs x0 0 (K1 (cZ r n) 4)) kk) (m + 1) = D253 r n lI (xs x0 0 (K1 (cZ r n) 4)) (aM (fun kk=>D253 r n lI (xs x0 0 (K1 (cZ r n) 4)) kk) m)).trans ?_
  rw [ih]
  exact (cJe r n (jI r n m)).trans (by kernel_rfl)
theorem dBw : D253 r n aPy (xs x0 0 (K1 (cZ r n) 4)) (K1 (cZ r n) 4) = (K4 (bYr r n) 0 1 4 5) :=
 (by kernel_rfl : D253 r n aPy (xs x0 0 (K1 (cZ r n) 4)) (K1 (cZ r n) 4) = aM (fun kk=>D253 r n lI (xs x0 0 (K1 (cZ r n) 4)) kk) n).trans ((cDs r n n).trans (by kernel_rfl))
theorem dGt : D253 r n bAn x0 (K1 (cZ r n) 4) = (K4 (bEo r n) 0 1 4 5) :=
 (by kernel_rfl : D253 r n bAn x0 (K1 (cZ r n) 4) = D253 r n aPy (xs x0 0 (K1 (cZ r n) 4)) (K1 (cZ r n) 4)).trans
 ((dBw r n).trans (by kernel_rfl))
theorem cCo : D253 r n aKv x0 r253 = D253 r n aBe x0 (K1 (cZ r n) 4) :=
 congrArg (fun k=>D253 r n aBe x0 k) (dPq r n)
theorem cHr : D253 r n aBe x0 (K1 (cZ r n) 4) = D253 r n bPp x0 (K4 (bEo r n) 0 1 4 5) :=
 congrArg (fun k=>D253 r n bPp x0 k) (dGt r n)
theorem dHx : D253 r n aKv x0 r253 = (K3 (aWm r n) 0 1 4) :=
 (cCo r n).trans
 ((cHr r n).trans
 ((by kernel_rfl)))
theorem cUf : D253 r n aHa x0 r253 = D253 r n bLf x0 (K3 (aWm r n) 0 1 4) :=
 congrArg (fun k=>D253 r n bLf x0 k) (dHx r n)
theorem dCp : D253 r n aHa x0 r253 = (K2 (bDu r n) 0 1) :=
 (cUf r n).trans
 ((by kernel_rfl))
theorem dZm : D253 r n c253 x0 r253 = D253 r n bNw x0 (K2 (bDu r n) 0 1) :=
 congrArg (fun k=>D253 r n bNw x0 k) (dCp r n)
theorem eMn : D253 r n c253 x0 r253 = (K2 (s253 r n) 0 1) :=
 (dZm r n).trans
 ((by kernel_rfl))
theorem bCg : aI CF r n 253 args h = s253 r n (bI args 0) (bI args 1) h :=
 (by kernel_rfl : aI CF r n 253 args h = D253 r n c253 x0 r253 (aQ args) h).trans ((congrFun (congrFun (eMn r n) (aQ args)) h).trans (by kernel_rfl))
def s254 (r : RT) (n : Nat) (x0 x1 : DV) (h0 : Hp) : aH :=
 bnd (aG 3 x0 x1 h0) fun v1 h1 =>
 bnd (aB 0 v1 h1) fun v2 h2 =>
 bnd (aA v2 h2) fun v3 h3 =>
 bnd (aC .neq v3 (.i .i64 (Int.ofNat 18)) h3) fun v4 h4 =>
 bnd (gD v4 false (some (x1,h4)) h4) fun v5 h5 =>
 bnd (gD v4 false (aC .add v5 (.i .i64 (Int.ofNat 1)) h5) h5) fun v6 h6 =>
 bnd (gD v4 false (some (x0,h6)) h6) fun v7 h7 =>
 bnd (gD v4 false (bM v7 h7) h7) fun v8 h8 =>
 bnd (gD v4 false (aC .geq v6 v8 h8) h8) fun v9 h9 =>
 bnd (aN v4 (.b true) v9 h9) fun v10 h10 =>
 bnd (gD v10 false (some (x0,h10)) h10) fun v11 h11 =>
 bnd (gD v10 false (some (x1,h11)) h11) fun v12 h12 =>
 bnd (gD v10 false (aC .add v12 (.i .i64 (Int.ofNat 1)) h12) h12) fun v13 h13 =>
 bnd (gD v10 false (aG 3 v11 v13 h13) h13) fun v14 h14 =>
 bnd (gD v10 false (aB 0 v14 h14) h14) fun v15 h15 =>
 bnd (gD v10 false (aA v15 h15) h15) fun v16 h16 =>
 bnd (gD v10 false (aC .neq v16 (.i .i64 (Int.ofNat 16)) h16) h16) fun v17 h17 =>
 bnd (aN v10 (.b true) v17 h17) fun v18 h18 =>
 aR v18 (
 some (.t [(.i .i64 (Int.ofNat 0)),(.b false)],h18)) (
 bnd (aC .add x1 (.i .i64 (Int.ofNat 1)) h18) fun v19 h19 =>
 bnd (aG 3 x0 v19 h19) fun v20 h20 =>
 bnd (aK 3 v20 h20) fun v21 h21 =>
 bnd (r 156 [v21] h21) fun v22 h22 =>
 bnd (aC .add x1 (.i .i64 (Int.ofNat 2)) h22) fun v23 h23 =>
 bnd (aC .gtr v22 v23 h23) fun v24 h24 =>
 some (.t [v22,v24],h24))
theorem aCw : aI CF r n 254 args h = s254 r n (bI args 0) (bI args 1) h :=
 by kernel_rfl
def s255 (r : RT) (n : Nat) (x0 x1 x2 x3 x4 x5 x6 x7 : DV) (h0 : Hp) : aH :=
 bnd (aA x3 h0) fun v1 h1 =>
 bnd (bM v1 h1) fun v2 h2 =>
 bnd (aC .geq x0 v2 h2) fun v3 h3 =>
 bnd (gD v3 false (aA x4 h3) h3) fun v4 h4 =>
 bnd (gD v3 false (some (x0,h4)) h4) fun v5 h5 =>
 bnd (gD v3 false (aG 1 v4 v5 h5) h5) fun v6 h6 =>
 bnd (gD v3 false (aA v6 h6) h6) fun v7 h7 =>
 bnd (gD v3 false (some (x1,h7)) h7) fun v8 h8 =>
 bnd (gD v3 false (aC .neq v7 v8 h8) h8) fun v9 h9 =>
 bnd (aN v3 (.b true) v9 h9) fun v10 h10 =>
 bnd (gD v10 false (aA x5 h10) h10) fun v11 h11 =>
 bnd (gD v10 false (some (x0,h11)) h11) fun v12 h12 =>
 bnd (gD v10 false (aG 1 v11 v12 h12) h12) fun v13 h13 =>
 bnd (gD v10 false (aA v13 h13) h13) fun v14 h14 =>
 bnd (gD v10 false (aC .geq v14 (aE 0) h14) h14) fun v15 h15 =>
 bnd (gD v10 false (some (v15,h15)) h15) fun v16 h16 =>
 bnd (gD v16 true (aA x5 h16) h16) fun v17 h17 =>
 bnd (gD v16 true (some (x0,h17)) h17) fun v18 h18 =>
 bnd (gD v16 true (aG 1 v17 v18 h18) h18) fun v19 h19 =>
 bnd (gD v16 true (aA v19 h19) h19) fun v20 h20 =>
 bnd (gD v16 true (some (x2,h20)) h20) fun v21 h21 =>
 bnd (gD v16 true (aC .neq v20 v21 h21) h21) fun v22 h22 =>
 bnd (gD v10 false (aN v16 v22 (.b false) h22) h22) fun v23 h23 =>
 bnd (aN v10 (.b true) v23 h23) fun v24 h24 =>
 aR v24 (
 bnd (aJ 1 x6 (.b false) h24) fun _ h25 =>
 some (.t [],h25)) (
 bnd (aA x5 h24) fun v26 h26 =>
 bnd (aG 1 v26 x0 h26) fun v27 h27 =>
 bnd (aA v27 h27) fun v28 h28 =>
 bnd (aC .lss v28 (aE 0) h28) fun v29 h29 =>
 aR v29 (
 bnd (aA x5 h29) fun v30 h30 =>
 bnd (aG 1 v30 x0 h30) fun v31 h31 =>
 bnd (aJ 1 v31 x2 h31) fun _ h32 =>
 bnd (aA x7 h32) fun v33 h33 =>
 bnd (aS [(aE 0)] 1 [(0,1,x0)] h33) fun v34 h34 =>
 bnd (bH 1 8 v33 v34 h34) fun v35 h35 =>
 bnd (aJ 1 x7 v35 h35) fun _ h36 =>
 some (.t [],h36)) (
 some (.t [],h29)))
theorem dZs : aI CF r n 255 args h = s255 r n (bI args 0) (bI args 1) (bI args 2) (bI args 3) (bI args 4) (bI args 5) (bI args 6) (bI args 7) h :=
 by kernel_rfl
def cB (r : RT) (n : Nat) (h0 : Hp) : aH :=
 some ((aE 0),h0)
def aKb (r : RT) (n : Nat) (x1 x22 : DV) (h0 : Hp) : aH :=
 aR x22 (
  fM 2 x1 h0 fun v1 h1 =>
 bnd (eQ .neg v1 h1) fun v2 h2 =>
 some (v2,h2)) (
  cB r n h0)
def cBw (r : RT) (n : Nat) (x1 x4 : DV) (h0 : Hp) : aH :=
 bnd (aC .eql x4 (aE 14) h0) fun v1 h1 =>
 aR v1 (
  aKb r n x1 v1 h1) (
 bnd (aC .eql x4 (aE 15) h1) fun v2 h2 =>
  aKb r n x1 v2 h2)
def uQ (r : RT) (n : Nat) (x1 x4 x17 : DV) (h0 : Hp) : aH :=
 aR x17 (
 some ((.i .i64 (Int.negSucc 0)),h0)) (
  cBw r n x1 x4 h0)
def cBd (r : RT) (n : Nat) (x1 x4 : DV) (h0 : Hp) : aH :=
 bnd (aC .eql x4 (aE 12) h0) fun v1 h1 =>
 aR v1 (
  uQ r n x1 x4 v1 h1) (
 bnd (aC .eql x4 (aE 17) h1) fun v2 h2 =>
 aR v2 (
   uQ r n x1 x4 v2 h2) (
 bnd (aC .eql x4 (aE 19) h2) fun v3 h3 =>
 aR v3 (
    uQ r n x1 x4 v3 h3) (
 bnd (aC .eql x4 (aE 20) h3) fun v4 h4 =>
    uQ r n x1 x4 v4 h4)))
def jD (r : RT) (n : Nat) (x1 x4 x5 : DV) (h0 : Hp) : aH :=
 aR x5 (
 some ((aE 1),h0)) (
  cBd r n x1 x4 h0)
def bBm (r : RT) (n : Nat) (x1 x4 : DV) (h0 : Hp) : aH :=
 bnd (aC .eql x4 (aE 1) h0) fun v1 h1 =>
 aR v1 (
  jD r n x1 x4 v1 h1) (
 bnd (aC .eql x4 (aE 2) h1) fun v2 h2 =>
 aR v2 (
   jD r n x1 x4 v2 h2) (
 bnd (aC .eql x4 (aE 3) h2) fun v3 h3 =>
 aR v3 (
    jD r n x1 x4 v3 h3) (
 bnd (aC .eql x4 (aE 4) h3) fun v4 h4 =>
 aR v4 (
     jD r n x1 x4 v4 h4) (
 bnd (aC .eql x4 (aE 5) h4) fun v5 h5 =>
 aR v5 (
      jD r n x1 x4 v5 h5) (
 bnd (aC .eql x4 (aE 6) h5) fun v6 h6 =>
 aR v6 (
       jD r n x1 x4 v6 h6) (
 bnd (aC .eql x4 (aE 7) h6) fun v7 h7 =>
 aR v7 (
        jD r n x1 x4 v7 h7) (
 bnd (aC .eql x4 (aE 8) h7) fun v8 h8 =>
 aR v8 (
         jD r n x1 x4 v8 h8) (
 bnd (aC .eql x4 (aE 9) h8) fun v9 h9 =>
 aR v9 (
          jD r n x1 x4 v9 h9) (
 bnd (aC .eql x4 (aE 13) h9) fun v10 h10 =>
 aR v10 (
           jD r n x1 x4 v10 h10) (
 bnd (aC .eql x4 (aE 18) h10) fun v11 h11 =>
           jD r n x1 x4 v11 h11))))))))))
def aCv (r : RT) (n : Nat) (x1 : DV) (h0 : Hp) : aH :=
 fM 0 x1 h0 fun v1 h1 =>
 bBm r n x1 v1 h1
def s256 (r : RT) (n : Nat) (x0 : DV) (h0 : Hp) : aH :=
 bnd (bZ x0 h0) fun v1 h1 =>
  aCv r n v1 h1
abbrev c256 : Code:=cf Tryz.f256
abbrev aOd : Code:=cR c256
abbrev eDm : Code:=cR aOd
abbrev aCo : Code:=cL aOd
abbrev aVx : Code:=cR aCo
abbrev aPx : Code:=cL aVx
abbrev zI : Code:=cR aPx
abbrev aEa : Code:=cR zI
abbrev zR : Code:=cR aEa
abbrev aAc : Code:=cR zR
abbrev dOx : Code:=cR aAc
abbrev bIo : Code:=cL aAc
abbrev cZu : Code:=cL zR
abbrev bFu : Code:=cL aEa
abbrev dGm : Code:=cL zI
abbrev bOn : Code:=cL aPx
abbrev bPx : Code:=cL aCo
abbrev aPo : Code:=cL c256
abbrev r256 : K:=bE CF Tryz.f256
def D256 (r : RT) (n : Nat) (c : Code) (X : Nat → K) (k : K) : K:=aW CF r 28 n c X r256 k
theorem cZk : D256 r n eDm x0 r256 = (K0 (cB r n)) :=
 (by kernel_rfl)
theorem dMa : D256 r n dOx (xs x0 0 (K0 (cB r n))) (K0 (cB r n)) = (K2 (aKb r n) 1 22) :=
 (by kernel_rfl)
theorem cSd : D256 r n aAc (xs x0 0 (K0 (cB r n))) (K0 (cB r n)) = D256 r n bIo (xs x0 0 (K0 (cB r n))) (K2 (aKb r n) 1 22) :=
 congrArg (fun k=>D256 r n bIo (xs x0 0 (K0 (cB r n))) k) (dMa r n)
theorem dBf : D256 r n aAc (xs x0 0 (K0 (cB r n))) (K0 (cB r n)) = (K2 (cBw r n) 1 4) :=
 (cSd r n).trans
 ((by kernel_rfl))
theorem dAo : D256 r n zR (xs x0 0 (K0 (cB r n))) (K0 (cB r n)) = (K3 (uQ r n) 1 4 17) :=
 (by kernel_rfl : D256 r n zR (xs x0 0 (K0 (cB r n))) (K0 (cB r n)) = (fun (env : aZ) (h : Hp)=>aR (opr env (cC zR)) (D256 r n cZu (xs x0 0 (K0 (cB r n))) (K0 (cB r n)) env h) (D256 r n aAc (xs x0 0 (K0 (cB r n))) (K0 (cB r n)) env h))).trans (by rw [dBf r n]; kernel_rfl)
theorem cHz : D256 r n aEa (xs x0 0 (K0 (cB r n))) (K0 (cB r n)) = D256 r n bFu (xs x0 0 (K0 (cB r n))) (K3 (uQ r n) 1 4 17) :=
 congrArg (fun k=>D256 r n bFu (xs x0 0 (K0 (cB r n))) k) (dAo r n)
theorem cYg : D256 r n aEa (xs x0 0 (K0 (cB r n))) (K0 (cB r n)) = (K2 (cBd r n) 1 4) :=
 (cHz r n).trans
 ((by kernel_rfl))
theorem dGy : D256 r n zI (xs x0 0 (K0 (cB r n))) (K0 (cB r n)) = (K3 (jD r n) 1 4 5) :=
 (by kernel_rfl : D256 r n zI (xs x0 0 (K0 (cB r n))) (K0 (cB r n)) = (fun (env : aZ) (h : Hp)=>aR (opr env (cC zI)) (D256 r n dGm (xs x0 0 (K0 (cB r n))) (K0 (cB r n)) env h) (D256 r n aEa (xs x0 0 (K0 (cB r n))) (K0 (cB r n)) env h))).trans (by rw [cYg r n]; kernel_rfl)
theorem cWe : D256 r n aPx (xs x0 0 (K0 (cB r n))) (K0 (cB r n)) = D256 r n bOn (xs x0 0 (K0 (cB r n))) (K3 (jD r n) 1 4 5) :=
 congrArg (fun k=>D256 r n bOn (xs x0 0 (K0 (cB r n))) k) (dGy r n)
theorem dJj : D256 r n aVx x0 (K0 (cB r n)) = (K2 (bBm r n) 1 4) :=
 (by kernel_rfl : D256 r n aVx x0 (K0 (cB r n)) = D256 r n aPx (xs x0 0 (K0 (cB r n))) (K0 (cB r n))).trans
 ((cWe r n).trans
 ((by kernel_rfl)))
theorem cOr : D256 r n aOd x0 r256 = D256 r n aCo x0 (K0 (cB r n)) :=
 congrArg (fun k=>D256 r n aCo x0 k) (cZk r n)
theorem cFk : D256 r n aCo x0 (K0 (cB r n)) = D256 r n bPx x0 (K2 (bBm r n) 1 4) :=
 congrArg (fun k=>D256 r n bPx x0 k) (dJj r n)
theorem dQc : D256 r n aOd x0 r256 = (K1 (aCv r n) 1) :=
 (cOr r n).trans
 ((cFk r n).trans
 ((by kernel_rfl)))
theorem dUl : D256 r n c256 x0 r256 = D256 r n aPo x0 (K1 (aCv r n) 1) :=
 congrArg (fun k=>D256 r n aPo x0 k) (dQc r n)
theorem dVa (q0 : TT1) : D256 r n aPo x0 (K1 q0 1) = fun (env : aZ) (h : Hp) =>
 bnd (bZ (env 0) h) fun v1 h1 =>
  q0 v1 h1:=by kernel_rfl
theorem cYz : (fun (env : aZ) (h : Hp) =>
 bnd (bZ (env 0) h) fun v1 h1 =>
  aCv r n v1 h1) = (K1 (s256 r n) 0):=by kernel_rfl
theorem eMv : D256 r n c256 x0 r256 = (K1 (s256 r n) 0) :=
 (dUl r n).trans
 ((dVa r n (aCv r n)).trans (cYz r n))
theorem dYd : aI CF r n 256 args h = s256 r n (bI args 0) h :=
 (by kernel_rfl : aI CF r n 256 args h = D256 r n c256 x0 r256 (aQ args) h).trans ((congrFun (congrFun (eMv r n) (aQ args)) h).trans (by kernel_rfl))
def cY (r : RT) (n : Nat) (h0 : Hp) : aH :=
 some ((aE 0),h0)
def aQo (r : RT) (n : Nat) (x1 x13 : DV) (h0 : Hp) : aH :=
 aR x13 (
  fM 2 x1 h0 fun v1 h1 =>
 bnd (aC .add v1 (aE 1) h1) fun v2 h2 =>
 some (v2,h2)) (
  cY r n h0)
def cLv (r : RT) (n : Nat) (x1 x4 : DV) (h0 : Hp) : aH :=
 bnd (aC .eql x4 (aE 14) h0) fun v1 h1 =>
 aR v1 (
  aQo r n x1 v1 h1) (
 bnd (aC .eql x4 (aE 15) h1) fun v2 h2 =>
  aQo r n x1 v2 h2)
def mL (r : RT) (n : Nat) (x1 x4 x5 : DV) (h0 : Hp) : aH :=
 aR x5 (
 some ((aE 1),h0)) (
  cLv r n x1 x4 h0)
def aWz (r : RT) (n : Nat) (x1 x4 : DV) (h0 : Hp) : aH :=
 bnd (aC .eql x4 (aE 12) h0) fun v1 h1 =>
 aR v1 (
  mL r n x1 x4 v1 h1) (
 bnd (aC .eql x4 (aE 13) h1) fun v2 h2 =>
 aR v2 (
   mL r n x1 x4 v2 h2) (
 bnd (aC .eql x4 (aE 10) h2) fun v3 h3 =>
 aR v3 (
    mL r n x1 x4 v3 h3) (
 bnd (aC .eql x4 (aE 11) h3) fun v4 h4 =>
 aR v4 (
     mL r n x1 x4 v4 h4) (
 bnd (aC .eql x4 (aE 17) h4) fun v5 h5 =>
 aR v5 (
      mL r n x1 x4 v5 h5) (
 bnd (aC .eql x4 (aE 20) h5) fun v6 h6 =>
 aR v6 (
       mL r n x1 x4 v6 h6) (
 bnd (aC .eql x4 (aE 19) h6) fun v7 h7 =>
       mL r n x1 x4 v7 h7))))))
def aBn (r : RT) (n : Nat) (x1 : DV) (h0 : Hp) : aH :=
 fM 0 x1 h0 fun v1 h1 =>
 aWz r n x1 v1 h1
def s257 (r : RT) (n : Nat) (x0 : DV) (h0 : Hp) : aH :=
 bnd (bZ x0 h0) fun v1 h1 =>
  aBn r n v1 h1
abbrev c257 : Code:=cf Tryz.f257
abbrev aJr : Code:=cR c257
abbrev eGu : Code:=cR aJr
abbrev aAy : Code:=cL aJr
abbrev bCu : Code:=cR aAy
abbrev aHn : Code:=cL bCu
abbrev aCj : Code:=cR aHn
abbrev aDu : Code:=cR aCj
abbrev eDg : Code:=cR aDu
abbrev cGx : Code:=cL aDu
abbrev dKh : Code:=cL aCj
abbrev bKr : Code:=cL aHn
abbrev bNe : Code:=cL aAy
abbrev aHt : Code:=cL c257
abbrev r257 : K:=bE CF Tryz.f257
def D257 (r : RT) (n : Nat) (c : Code) (X : Nat → K) (k : K) : K:=aW CF r 19 n c X r257 k
theorem dLy : D257 r n eGu x0 r257 = (K0 (cY r n)) :=
 (by kernel_rfl)
theorem dNv : D257 r n eDg (xs x0 0 (K0 (cY r n))) (K0 (cY r n)) = (K2 (aQo r n) 1 13) :=
 (by kernel_rfl)
theorem cIz : D257 r n aDu (xs x0 0 (K0 (cY r n))) (K0 (cY r n)) = D257 r n cGx (xs x0 0 (K0 (cY r n))) (K2 (aQo r n) 1 13) :=
 congrArg (fun k=>D257 r n cGx (xs x0 0 (K0 (cY r n))) k) (dNv r n)
theorem dCd : D257 r n aDu (xs x0 0 (K0 (cY r n))) (K0 (cY r n)) = (K2 (cLv r n) 1 4) :=
 (cIz r n).trans
 ((by kernel_rfl))
theorem dIo : D257 r n aCj (xs x0 0 (K0 (cY r n))) (K0 (cY r n)) = (K3 (mL r n) 1 4 5) :=
 (by kernel_rfl : D257 r n aCj (xs x0 0 (K0 (cY r n))) (K0 (cY r n)) = (fun (env : aZ) (h : Hp)=>aR (opr env (cC aCj)) (D257 r n dKh (xs x0 0 (K0 (cY r n))) (K0 (cY r n)) env h) (D257 r n aDu (xs x0 0 (K0 (cY r n))) (K0 (cY r n)) env h))).trans (by rw [dCd r n]; kernel_rfl)
theorem bXs : D257 r n aHn (xs x0 0 (K0 (cY r n))) (K0 (cY r n)) = D257 r n bKr (xs x0 0 (K0 (cY r n))) (K3 (mL r n) 1 4 5) :=
 congrArg (fun k=>D257 r n bKr (xs x0 0 (K0 (cY r n))) k) (dIo r n)
theorem dNf : D257 r n bCu x0 (K0 (cY r n)) = (K2 (aWz r n) 1 4) :=
 (by kernel_rfl : D257 r n bCu x0 (K0 (cY r n)) = D257 r n aHn (xs x0 0 (K0 (cY r n))) (K0 (cY r n))).trans
 ((bXs r n).trans
 ((by kernel_rfl)))
theorem cHv : D257 r n aJr x0 r257 = D257 r n aAy x0 (K0 (cY r n)) :=
 congrArg (fun k=>D257 r n aAy x0 k) (dLy r n)
theorem bXr : D257 r n aAy x0 (K0 (cY r n)) = D257 r n bNe x0 (K2 (aWz r n) 1 4) :=
 congrArg (fun k=>D257 r n bNe x0 k) (dNf r n)
theorem dOi : D257 r n aJr x0 r257 = (K1 (aBn r n) 1) :=
 (cHv r n).trans
 ((bXr r n).trans
 ((by kernel_rfl)))
theorem dXz : D257 r n c257 x0 r257 = D257 r n aHt x0 (K1 (aBn r n) 1) :=
 congrArg (fun k=>D257 r n aHt x0 k) (dOi r n)
theorem eBk (q0 : TT1) : D257 r n aHt x0 (K1 q0 1) = fun (env : aZ) (h : Hp) =>
 bnd (bZ (env 0) h) fun v1 h1 =>
  q0 v1 h1:=by kernel_rfl
theorem dFv : (fun (env : aZ) (h : Hp) =>
 bnd (bZ (env 0) h) fun v1 h1 =>
  aBn r n v1 h1) = (K1 (s257 r n) 0):=by kernel_rfl
theorem eJl : D257 r n c257 x0 r257 = (K1 (s257 r n) 0) :=
 (dXz r n).trans
 ((eBk r n (aBn r n)).trans (dFv r n))
theorem eGh : aI CF r n 257 args h = s257 r n (bI args 0) h :=
 (by kernel_rfl : aI CF r n 257 args h = D257 r n c257 x0 r257 (aQ args) h).trans ((congrFun (congrFun (eJl r n) (aQ args)) h).trans (by kernel_rfl))
def s258 (r : RT) (n : Nat) (x0 x1 : DV) (h0 : Hp) : aH :=
 bnd (bQ [(.s []),(aE 0),(aE 0),(aE 0),.l0,.l0] h0) fun v1 h1 =>
 bnd (r 306 [x0,x1,(.f 307 [x0] [])] h1) fun v2 h2 =>
 bnd (aF 0 v2 h2) fun v3 h3 =>
 bnd (aF 1 v2 h3) fun v4 h4 =>
 bnd (aJ 6 v1 v3 h4) fun _ h5 =>
 bnd (aK 6 v1 h5) fun v6 _ =>
 some (.t [v6,v4],h5)
theorem eDd : aI CF r n 258 args h = s258 r n (bI args 0) (bI args 1) h :=
 by kernel_rfl
def iV (r : RT) (n : Nat) (x0 x1 x2 x8 x9 : DV) (h0 : Hp) : aH :=
 bnd (aC .geq x1 (aE 31) h0) fun v1 h1 =>
 bnd (gD v1 true (some (x1,h1)) h1) fun v2 h2 =>
 bnd (gD v1 true (aC .leq v2 (aE 35) h2) h2) fun v3 h3 =>
 bnd (aN v1 v3 (.b false) h3) fun v4 h4 =>
 aR v4 (
 bnd (r 312 [x0,x1,x2,x8,x9] h4) fun v5 h5 =>
 bnd (aF 0 v5 h5) fun v6 h6 =>
 bnd (aF 1 v5 h6) fun v7 h7 =>
 some (.t [v6,v7],h7)) (
 bnd (aC .geq x1 (aE 70) h4) fun v8 h8 =>
 bnd (gD v8 true (some (x1,h8)) h8) fun v9 h9 =>
 bnd (gD v8 true (aC .leq v9 (aE 74) h9) h9) fun v10 h10 =>
 bnd (aN v8 v10 (.b false) h10) fun v11 h11 =>
 aR v11 (
 bnd (r 313 [x0,x1,x2,x8,x9] h11) fun v12 h12 =>
 bnd (aF 0 v12 h12) fun v13 h13 =>
 bnd (aF 1 v12 h13) fun v14 h14 =>
 some (.t [v13,v14],h14)) (
 bnd (aC .eql x1 (aE 60) h11) fun v15 h15 =>
 bnd (gD v15 true (some (x2,h15)) h15) fun v16 h16 =>
 bnd (gD v15 true (aC .eql v16 (aE 1) h16) h16) fun v17 h17 =>
 bnd (aN v15 v17 (.b false) h17) fun v18 h18 =>
 aR v18 (
 bnd (aG 1 x9 (aE 0) h18) fun v19 h19 =>
 bnd (aA v19 h19) fun v20 h20 =>
 bnd (r 314 [x0,x8,v20] h20) fun v21 h21 =>
 bnd (aF 0 v21 h21) fun v22 h22 =>
 bnd (aF 1 v21 h22) fun v23 h23 =>
 some (.t [v22,v23],h23)) (
 bnd (aC .geq x1 (aE 80) h18) fun v24 h24 =>
 bnd (gD v24 true (some (x1,h24)) h24) fun v25 h25 =>
 bnd (gD v24 true (aC .leq v25 (aE 86) h25) h25) fun v26 h26 =>
 bnd (aN v24 v26 (.b false) h26) fun v27 h27 =>
 bnd (gD v27 true (some (x0,h27)) h27) fun v28 h28 =>
 bnd (gD v27 true (aV v28 h28) h28) fun v29 h29 =>
 bnd (gD v27 true (aB 0 v29 h29) h29) fun v30 h30 =>
 bnd (gD v27 true (aA v30 h30) h30) fun v31 h31 =>
 bnd (gD v27 true (some (x8,h31)) h31) fun v32 h32 =>
 bnd (gD v27 true (r 160 [v31,v32] h32) h32) fun v33 h33 =>
 bnd (gD v27 true (some (x0,h33)) h33) fun v34 h34 =>
 bnd (gD v27 true (aV v34 h34) h34) fun v35 h35 =>
 bnd (gD v27 true (aB 0 v35 h35) h35) fun v36 h36 =>
 bnd (gD v27 true (aA v36 h36) h36) fun v37 h37 =>
 cnd (aX (gD v27 true (aA v36 h18) h18) v37 && true) (
 bnd (gD v27 true (r 26 [v37,(aE 13)] h37) h37) fun v38 h38 =>
 bnd (gD v27 true (aC .eql v33 v38 h38) h38) fun v39 h39 =>
 bnd (aN v27 v39 (.b false) h39) fun v40 h40 =>
 aR v40 (
 bnd (r 315 [x0,x1,x2,x8,x9] h40) fun v41 h41 =>
 bnd (aF 0 v41 h41) fun v42 h42 =>
 bnd (aF 1 v41 h42) fun v43 h43 =>
 some (.t [v42,v43],h43)) (
 some (.t [(.b false),(aE 0)],h40))))))
def aMj (r : RT) (n : Nat) (x13 : DV) (h0 : Hp) : aH :=
 bnd (aC .eql x13 (aE 0) h0) fun v1 h1 =>
 some (.t [v1,x13],h1)
def aXb (r : RT) (n : Nat) (x0 x2 x12 x13 : DV) (h0 : Hp) : aH :=
 bnd (aC .eql x13 (aE 20) h0) fun v1 h1 =>
 aR v1 (
 some (.t [(.b false),(aE 0)],h1)) (
 bnd (aC .eql x13 (aE 0) h1) fun v2 h2 =>
 aR v2 (
 bnd (r 311 [x0, x2, x12] h2) fun v3 h3 =>
      aMj r n x13 h3) (
      aMj r n x13 h2))
def cGv (r : RT) (n : Nat) (x0 x1 x2 x8 x9 : DV) (h0 : Hp) : aH :=
 fL 0 x0 h0 fun v1 h1 =>
 bnd (r 310 [v1,x1,x8,x9] h1) fun v2 h2 =>
 bnd (aF 0 v2 h2) fun v3 h3 =>
 bnd (aF 1 v2 h3) fun v4 h4 =>
  aXb r n x0 x2 v3 v4 h4
def aYz (r : RT) (n : Nat) (x0 x1 x2 x8 x9 x32 : DV) (h0 : Hp) : aH :=
 aR x32 (
  cGv r n x0 x1 x2 x8 x9 h0) (
  iV r n x0 x1 x2 x8 x9 h0)
def fJ (r : RT) (n : Nat) (x0 x1 x2 x8 x9 : DV) (h0 : Hp) : aH :=
 bnd (r 309 [x1] h0) fun v1 h1 =>
 bnd (aC .geq v1 (aE 0) h1) fun v2 h2 =>
  aYz r n x0 x1 x2 x8 x9 v2 h2
def aTg (r : RT) (n : Nat) (kk11 : TT8) (x0 x1 x2 x8 x9 x20 x21 x22 : DV) (h0 : Hp) : aH :=
 bnd (aC .lss x22 x21 h0) fun v1 h1 =>
 aR v1 (
 bnd (aG 1 x20 x22 h1) fun v2 h2 =>
 bnd (aA v2 h2) fun v3 h3 =>
 bnd (r 152 [x0,v3] h3) fun v4 h4 =>
 bnd (aC .add x22 (aE 1) h4) fun v5 h5 =>
      kk11 x0 x1 x2 x8 x9 x20 x21 v5 h5) (
      fJ r n x0 x1 x2 x8 x9 h1)
def rB (r : RT) (n : Nat) (m : Nat) : TT8 :=
 Nat.rec (motive:=fun _=>TT8) (fun _ _ _ _ _ _ _ _ _=>none) (fun _ ih=>aTg r n ih) m
def bKg (r : RT) (n : Nat) : TT8:=rB r n n
def aMu (r : RT) (n : Nat) (x0 x1 x2 x8 x9 x20 x21 x22 : DV) (h0 : Hp) : aH :=
 bKg r n x0 x1 x2 x8 x9 x20 x21 x22 h0
def bCj (r : RT) (n : Nat) (x0 x1 x2 x8 x9 : DV) (h0 : Hp) : aH :=
 bnd (bM x9 h0) fun v1 h1 =>
  aMu r n x0 x1 x2 x8 x9 x9 v1 (aE 0) h1
def aWx (r : RT) (n : Nat) (x0 x1 x2 x8 : DV) (h0 : Hp) : aH :=
 bnd (r 221 [x0,x2] h0) fun v1 h1 =>
  bCj r n x0 x1 x2 x8 v1 h1
def bAi (r : RT) (n : Nat) (x0 x1 x2 : DV) (h0 : Hp) : aH :=
 bnd (r 161 [x0,x2] h0) fun v1 h1 =>
  aWx r n x0 x1 x2 v1 h1
def s260 (r : RT) (n : Nat) (x0 x1 x2 : DV) (h0 : Hp) : aH :=
 bAi r n x0 x1 x2 h0
abbrev c260 : Code:=cf Tryz.f260
abbrev aRm : Code:=cR c260
abbrev aIl : Code:=cR aRm
abbrev aRh : Code:=cR aIl
abbrev aLm : Code:=cR aRh
abbrev dXd : Code:=cR aLm
abbrev aAj : Code:=cL aLm
abbrev aDs : Code:=cR aAj
abbrev aBy : Code:=cL aDs
abbrev aOl : Code:=cR aBy
abbrev dGs : Code:=cR aOl
abbrev bFd : Code:=cL aOl
abbrev bIq : Code:=cL aBy
abbrev dPg : Code:=cR aDs
abbrev bMn : Code:=cL aAj
abbrev qU : Code:=cL aRh
abbrev aKu : Code:=cR qU
abbrev xI : Code:=cL aKu
abbrev mQ : Code:=cL xI
abbrev bFq : Code:=cL qU
abbrev bGn : Code:=cL aIl
abbrev bIg : Code:=cL aRm
abbrev bMd : Code:=cL c260
abbrev r260 : K:=bE CF Tryz.f260
def D260 (r : RT) (n : Nat) (c : Code) (X : Nat → K) (k : K) : K:=aW CF r 130 n c X r260 k
theorem dNu : D260 r n dXd x0 r260 = (K5 (iV r n) 0 1 2 8 9) :=
 (by kernel_rfl)
theorem dLk : D260 r n dGs x0 (K5 (iV r n) 0 1 2 8 9) = (K1 (aMj r n) 13) :=
 (by kernel_rfl)
theorem cSz : D260 r n aOl x0 (K5 (iV r n) 0 1 2 8 9) = D260 r n bFd x0 (K1 (aMj r n) 13) :=
 congrArg (fun k=>D260 r n bFd x0 k) (dLk r n)
theorem dGr : D260 r n aOl x0 (K5 (iV r n) 0 1 2 8 9) = (K4 (aXb r n) 0 2 12 13) :=
 (cSz r n).trans
 ((by kernel_rfl))
theorem cWm : D260 r n aBy x0 (K5 (iV r n) 0 1 2 8 9) = D260 r n bIq x0 (K4 (aXb r n) 0 2 12 13) :=
 congrArg (fun k=>D260 r n bIq x0 k) (dGr r n)
theorem dLo : D260 r n aBy x0 (K5 (iV r n) 0 1 2 8 9) = (K5 (cGv r n) 0 1 2 8 9) :=
 (cWm r n).trans
 ((by kernel_rfl))
theorem dGf : D260 r n aDs x0 (K5 (iV r n) 0 1 2 8 9) = (K6 (aYz r n) 0 1 2 8 9 32) :=
 (by kernel_rfl : D260 r n aDs x0 (K5 (iV r n) 0 1 2 8 9) = (fun (env : aZ) (h : Hp)=>aR (opr env (cC aDs)) (D260 r n aBy x0 (K5 (iV r n) 0 1 2 8 9) env h) (D260 r n dPg x0 (K5 (iV r n) 0 1 2 8 9) env h))).trans (by rw [dLo r n]; kernel_rfl)
theorem cNd : D260 r n aLm x0 r260 = D260 r n aAj x0 (K5 (iV r n) 0 1 2 8 9) :=
 congrArg (fun k=>D260 r n aAj x0 k) (dNu r n)
theorem cNs : D260 r n aAj x0 (K5 (iV r n) 0 1 2 8 9) = D260 r n bMn x0 (K6 (aYz r n) 0 1 2 8 9 32) :=
 congrArg (fun k=>D260 r n bMn x0 k) (dGf r n)
theorem dFs : D260 r n aLm x0 r260 = (K5 (fJ r n) 0 1 2 8 9) :=
 (cNd r n).trans
 ((cNs r n).trans
 ((by kernel_rfl)))
theorem bUk (kk11 : TT8) : D260 r n mQ (xs x0 0 (K5 (fJ r n) 0 1 2 8 9)) (K8 kk11 0 1 2 8 9 20 21 22) = (K8 (aTg r n kk11) 0 1 2 8 9 20 21 22) :=
 (by kernel_rfl)
theorem bWc (m : Nat) : aM (fun kk=>D260 r n mQ (xs x0 0 (K5 (fJ r n) 0 1 2 8 9)) kk) m = (K8 (rB r n m) 0 1 2 8 9 20 21 22):=by
 induction m with
 | zero=>exact (by kernel_rfl : aM (fun kk=>D260 r n mQ (xs x0 0 (K5 (fJ r n) 0 1 2 8 9)) kk) 0 = (K8 (rB r n 0) 0 1 2 8 9 20 21 22))
 | succ m ih =>
  refine (by kernel_rfl : aM (fun kk=>D260 r n mQ (xs x0 0 (K5 (fJ r n) 0 1 2 8 9)) kk) (m + 1) = D260 r n mQ (xs x0 0 (K5 (fJ r n) 0 1 2 8 9)) (aM (fun kk=>D260 r n mQ (xs x0 0 (K5 (fJ r n) 0 1 2 8 9)) kk) m)).trans ?_
  rw [ih]
  exact (bUk r n (rB r n m)).trans (by kernel_rfl)
theorem cKf : D260 r n xI (xs x0 0 (K5 (fJ r n) 0 1 2 8 9)) (K5 (fJ r n) 0 1 2 8 9) = (K8 (bKg r n) 0 1 2 8 9 20 21 22) :=
 (by kernel_rfl : D260 r n xI (xs x0 0 (K5 (fJ r n) 0 1 2 8 9)) (K5 (fJ r n) 0 1 2 8 9) = aM (fun kk=>D260 r n mQ (xs x0 0 (K5 (fJ r n) 0 1 2 8 9)) kk) n).trans ((bWc r n n).trans (by kernel_rfl))
theorem cNo : D260 r n aKu x0 (K5 (fJ r n) 0 1 2 8 9) = (K8 (aMu r n) 0 1 2 8 9 20 21 22) :=
 (by kernel_rfl : D260 r n aKu x0 (K5 (fJ r n) 0 1 2 8 9) = D260 r n xI (xs x0 0 (K5 (fJ r n) 0 1 2 8 9)) (K5 (fJ r n) 0 1 2 8 9)).trans
 ((cKf r n).trans (by kernel_rfl))
theorem cOq : D260 r n aRh x0 r260 = D260 r n qU x0 (K5 (fJ r n) 0 1 2 8 9) :=
 congrArg (fun k=>D260 r n qU x0 k) (dFs r n)
theorem cIq : D260 r n qU x0 (K5 (fJ r n) 0 1 2 8 9) = D260 r n bFq x0 (K8 (aMu r n) 0 1 2 8 9 20 21 22) :=
 congrArg (fun k=>D260 r n bFq x0 k) (cNo r n)
theorem dIg : D260 r n aRh x0 r260 = (K5 (bCj r n) 0 1 2 8 9) :=
 (cOq r n).trans
 ((cIq r n).trans
 ((by kernel_rfl)))
theorem bYq : D260 r n aIl x0 r260 = D260 r n bGn x0 (K5 (bCj r n) 0 1 2 8 9) :=
 congrArg (fun k=>D260 r n bGn x0 k) (dIg r n)
theorem dKs : D260 r n aIl x0 r260 = (K4 (aWx r n) 0 1 2 8) :=
 (bYq r n).trans
 ((by kernel_rfl))
theorem cKv : D260 r n aRm x0 r260 = D260 r n bIg x0 (K4 (aWx r n) 0 1 2 8) :=
 congrArg (fun k=>D260 r n bIg x0 k) (dKs r n)
theorem dEx : D260 r n aRm x0 r260 = (K3 (bAi r n) 0 1 2) :=
 (cKv r n).trans
 ((by kernel_rfl))
theorem eFe : D260 r n c260 x0 r260 = D260 r n bMd x0 (K3 (bAi r n) 0 1 2) :=
 congrArg (fun k=>D260 r n bMd x0 k) (dEx r n)
theorem eLj : D260 r n c260 x0 r260 = (K3 (s260 r n) 0 1 2) :=
 (eFe r n).trans
 ((by kernel_rfl))
theorem eBt : aI CF r n 260 args h = s260 r n (bI args 0) (bI args 1) (bI args 2) h :=
 (by kernel_rfl : aI CF r n 260 args h = D260 r n c260 x0 r260 (aQ args) h).trans ((congrFun (congrFun (eLj r n) (aQ args)) h).trans (by kernel_rfl))
def s261 (r : RT) (n : Nat) (x0 x1 : DV) (h0 : Hp) : aH :=
 fL 1 x0 h0 fun v1 h1 =>
 bnd (r 316 [v1,x1] h1) fun v2 h2 =>
 bnd (bQ [(aE 0),(aE 0),(aE 0),(aE 0),(aE 0),.l0,.l0,(.b false),(aE 0),(aE 0)] h2) fun v3 h3 =>
 bnd (aJ 10 v3 v2 h3) fun _ h4 =>
  fM 0 v3 h4 fun v5 h5 =>
 bnd (r 218 [x0,v5] h5) fun v6 h6 =>
 bnd (bQ [(.s []),(aE 0),(aE 0),(aE 0),.l0,.l0] h6) fun v7 h7 =>
 bnd (aJ 6 v7 v6 h7) fun _ h8 =>
  fM 2 v3 h8 fun v9 h9 =>
 bnd (aC .eql v9 (aE 0) h9) fun v10 h10 =>
 bnd (gD v10 true (aB 3 v7 h10) h10) fun v11 h11 =>
 bnd (gD v10 true (aA v11 h11) h11) fun v12 h12 =>
 bnd (gD v10 true (aC .eql v12 (aE 90) h12) h12) fun v13 h13 =>
 bnd (gD v10 true (some (v13,h13)) h13) fun v14 h14 =>
 bnd (gD v14 false (aB 3 v7 h14) h14) fun v15 h15 =>
 bnd (gD v14 false (aA v15 h15) h15) fun v16 h16 =>
 bnd (gD v14 false (aC .eql v16 (aE 91) h16) h16) fun v17 h17 =>
 bnd (gD v10 true (aN v14 (.b true) v17 h17) h17) fun v18 h18 =>
 bnd (aN v10 v18 (.b false) h18) fun v19 h19 =>
 bnd (gD v19 true (aB 1 v7 h19) h19) fun v20 h20 =>
 bnd (gD v19 true (aA v20 h20) h20) fun v21 h21 =>
 bnd (gD v19 true (aC .eql v21 (aE 1) h21) h21) fun v22 h22 =>
 bnd (aN v19 v22 (.b false) h22) fun v23 h23 =>
 bnd (gD v23 true (aB 2 v7 h23) h23) fun v24 h24 =>
 bnd (gD v23 true (aA v24 h24) h24) fun v25 h25 =>
 bnd (gD v23 true (aC .geq v25 (aE 3) h25) h25) fun v26 h26 =>
 bnd (aN v23 v26 (.b false) h26) fun v27 h27 =>
 bnd (gD v27 true (some (x0,h27)) h27) fun v28 h28 =>
 bnd (gD v27 true (aV v28 h28) h28) fun v29 h29 =>
 bnd (gD v27 true (aB 1 v29 h29) h29) fun v30 h30 =>
 bnd (gD v27 true (aA v30 h30) h30) fun v31 h31 =>
 bnd (gD v27 true (some (x1,h31)) h31) fun v32 h32 =>
 bnd (gD v27 true (r 150 [v31,v32,(aE 2)] h32) h32) fun v33 h33 =>
 bnd (gD v27 true (aC .eql v33 (aE 0) h33) h33) fun v34 h34 =>
 bnd (aN v27 v34 (.b false) h34) fun v35 h35 =>
 some (v35,h35)
theorem dUx : aI CF r n 261 args h = s261 r n (bI args 0) (bI args 1) h :=
 by kernel_rfl
def s272 (r : RT) (n : Nat) (x0 x1 : DV) (h0 : Hp) : aH :=
 bnd (aA x1 h0) fun v1 h1 =>
 bnd (r 171 [v1,x0] h1) fun v2 h2 =>
 bnd (aC .geq v2 (aE 0) h2) fun v3 h3 =>
 some (v3,h3)
theorem eAi : aI CF r n 272 args h = s272 r n (bI args 0) (bI args 1) h :=
 by kernel_rfl
def s273 (r : RT) (n : Nat) (x0 x1 : DV) (h0 : Hp) : aH :=
 fL 1 x0 h0 fun v1 h1 =>
 bnd (aC .add v1 x1 h1) fun v2 h2 =>
  fL 0 x0 h2 fun v3 h3 =>
 bnd (fS v3 h3) fun v4 h4 =>
 bnd (aC .geq v2 v4 h4) fun v5 h5 =>
 aR v5 (
 some ((.i .u8 (Int.ofNat 0)),h5)) (
  fL 0 x0 h5 fun v6 h6 =>
  fL 1 x0 h6 fun v7 h7 =>
 bnd (aC .add v7 x1 h7) fun v8 h8 =>
 bnd (cT v6 v8 h8) fun v9 h9 =>
 some (v9,h9))
theorem eCf : aI CF r n 273 args h = s273 r n (bI args 0) (bI args 1) h :=
 by kernel_rfl
def s274 (r : RT) (n : Nat) (x0 : DV) (h0 : Hp) : aH :=
 bnd (aC .geq x0 (.i .u8 (Int.ofNat 97)) h0) fun v1 h1 =>
 bnd (gD v1 true (some (x0,h1)) h1) fun v2 h2 =>
 bnd (gD v1 true (aC .leq v2 (.i .u8 (Int.ofNat 122)) h2) h2) fun v3 h3 =>
 bnd (aN v1 v3 (.b false) h3) fun v4 h4 =>
 bnd (gD v4 false (some (x0,h4)) h4) fun v5 h5 =>
 bnd (gD v4 false (aC .geq v5 (.i .u8 (Int.ofNat 65)) h5) h5) fun v6 h6 =>
 bnd (gD v4 false (some (v6,h6)) h6) fun v7 h7 =>
 bnd (gD v7 true (some (x0,h7)) h7) fun v8 h8 =>
 bnd (gD v7 true (aC .leq v8 (.i .u8 (Int.ofNat 90)) h8) h8) fun v9 h9 =>
 bnd (gD v4 false (aN v7 v9 (.b false) h9) h9) fun v10 h10 =>
 bnd (aN v4 (.b true) v10 h10) fun v11 h11 =>
 some (v11,h11)
theorem eHq : aI CF r n 274 args h = s274 r n (bI args 0) h :=
 by kernel_rfl
def s275 (r : RT) (n : Nat) (x0 : DV) (h0 : Hp) : aH :=
 fL 0 x0 h0 fun v1 h1 =>
 bnd (fS v1 h1) fun v2 h2 =>
 bnd (r 231 [x0,(.f 327 [] []),v2] h2) fun v3 h3 =>
 bnd (fS v3 h3) fun v4 h4 =>
 bnd (aC .gtr v4 (aE 24) h4) fun v5 h5 =>
 aR v5 (
 some (.t [(.s []),(aE 12)],h5)) (
 some (.t [v3,(aE 0)],h5))
theorem eFv : aI CF r n 275 args h = s275 r n (bI args 0) h :=
 by kernel_rfl
def s277 (r : RT) (n : Nat) (x0 : DV) (h0 : Hp) : aH :=
 bnd (aC .geq x0 (.i .u8 (Int.ofNat 48)) h0) fun v1 h1 =>
 bnd (gD v1 true (some (x0,h1)) h1) fun v2 h2 =>
 bnd (gD v1 true (aC .leq v2 (.i .u8 (Int.ofNat 57)) h2) h2) fun v3 h3 =>
 bnd (aN v1 v3 (.b false) h3) fun v4 h4 =>
 some (v4,h4)
theorem dWe : aI CF r n 277 args h = s277 r n (bI args 0) h :=
 by kernel_rfl
end Go.Dd

namespace Go.Dd
open Go.Proofs
variable (r : RT) (n : Nat) (args : List DV) (h : Hp)
end Go.Dd

namespace Go.Dd
open Go.Proofs
variable (r : RT) (n : Nat) (args : List DV) (h : Hp)
def s307 (r : RT) (n : Nat) (x0 x1 x2 : DV) (h0 : Hp) : aH :=
 bnd (bQ [(aE 0),(.s []),(aE 0),.l0] h0) fun v1 h1 =>
 bnd (r 355 [x0,x1,(aE 0)] h1) fun v2 h2 =>
 bnd (aF 0 v2 h2) fun v3 h3 =>
 bnd (aF 1 v2 h3) fun v4 h4 =>
 bnd (bQ [(aE 0),(.s []),(aE 0),.l0] h4) fun v5 h5 =>
 bnd (aJ 4 v5 v3 h5) fun _ h6 =>
 bnd (eQ .not v4 h6) fun v7 h7 =>
 bnd (gD v7 false (aB 0 v5 h7) h7) fun v8 h8 =>
 bnd (gD v7 false (aA v8 h8) h8) fun v9 h9 =>
 bnd (gD v7 false (aC .eql v9 (aE 2) h9) h9) fun v10 h10 =>
 bnd (aN v7 (.b true) v10 h10) fun v11 h11 =>
 aR v11 (
 bnd (aY [(aE 0),(.s []),(aE 0),.l0] [(0,1,(aE 4))] h11) fun v12 h12 =>
 bnd (aJ 4 v1 v12 h12) fun _ h13 =>
 bnd (aK 4 v1 h13) fun v14 _ =>
 some (.t [v14,(.b true)],h13)) (
 bnd (aK 4 v5 h11) fun v15 h15 =>
 bnd (aJ 4 v1 v15 h15) fun _ h16 =>
 bnd (aK 4 v1 h16) fun v17 _ =>
 some (.t [v17,(.b true)],h16))
theorem eAj : aI CF r n 307 args h = s307 r n (bI args 0) (bI args 1) (bI args 2) h :=
 by kernel_rfl
def cD (r : RT) (n : Nat) (h0 : Hp) : aH :=
 some ((.i .i64 (Int.negSucc 0)),h0)
def aPz (r : RT) (n : Nat) (x24 : DV) (h0 : Hp) : aH :=
 aR x24 (
 some ((aE 2),h0)) (
  cD r n h0)
def cTo (r : RT) (n : Nat) (x3 : DV) (h0 : Hp) : aH :=
 bnd (aC .eql x3 (aE 21) h0) fun v1 h1 =>
 aR v1 (
  aPz r n v1 h1) (
 bnd (aC .eql x3 (aE 51) h1) fun v2 h2 =>
  aPz r n v2 h2)
def gY (r : RT) (n : Nat) (x3 x10 : DV) (h0 : Hp) : aH :=
 aR x10 (
 some ((aE 1),h0)) (
  cTo r n x3 h0)
def cOu (r : RT) (n : Nat) (x3 : DV) (h0 : Hp) : aH :=
 bnd (aC .eql x3 (aE 1) h0) fun v1 h1 =>
 aR v1 (
  gY r n x3 v1 h1) (
 bnd (aC .eql x3 (aE 2) h1) fun v2 h2 =>
 aR v2 (
   gY r n x3 v2 h2) (
 bnd (aC .eql x3 (aE 3) h2) fun v3 h3 =>
 aR v3 (
    gY r n x3 v3 h3) (
 bnd (aC .eql x3 (aE 4) h3) fun v4 h4 =>
 aR v4 (
     gY r n x3 v4 h4) (
 bnd (aC .eql x3 (aE 5) h4) fun v5 h5 =>
 aR v5 (
      gY r n x3 v5 h5) (
 bnd (aC .eql x3 (aE 6) h5) fun v6 h6 =>
 aR v6 (
       gY r n x3 v6 h6) (
 bnd (aC .eql x3 (aE 7) h6) fun v7 h7 =>
 aR v7 (
        gY r n x3 v7 h7) (
 bnd (aC .eql x3 (aE 10) h7) fun v8 h8 =>
 aR v8 (
         gY r n x3 v8 h8) (
 bnd (aC .eql x3 (aE 20) h8) fun v9 h9 =>
 aR v9 (
          gY r n x3 v9 h9) (
 bnd (aC .eql x3 (aE 24) h9) fun v10 h10 =>
 aR v10 (
           gY r n x3 v10 h10) (
 bnd (aC .eql x3 (aE 25) h10) fun v11 h11 =>
 aR v11 (
            gY r n x3 v11 h11) (
 bnd (aC .eql x3 (aE 26) h11) fun v12 h12 =>
 aR v12 (
             gY r n x3 v12 h12) (
 bnd (aC .eql x3 (aE 50) h12) fun v13 h13 =>
             gY r n x3 v13 h13))))))))))))
def pK (r : RT) (n : Nat) (x3 x4 : DV) (h0 : Hp) : aH :=
 aR x4 (
 some ((aE 0),h0)) (
  cOu r n x3 h0)
def aWt (r : RT) (n : Nat) (x3 : DV) (h0 : Hp) : aH :=
 bnd (aC .eql x3 (aE 11) h0) fun v1 h1 =>
 aR v1 (
  pK r n x3 v1 h1) (
 bnd (aC .eql x3 (aE 22) h1) fun v2 h2 =>
 aR v2 (
   pK r n x3 v2 h2) (
 bnd (aC .eql x3 (aE 23) h2) fun v3 h3 =>
 aR v3 (
    pK r n x3 v3 h3) (
 bnd (aC .eql x3 (aE 40) h3) fun v4 h4 =>
 aR v4 (
     pK r n x3 v4 h4) (
 bnd (aC .eql x3 (aE 41) h4) fun v5 h5 =>
     pK r n x3 v5 h5))))
def aWn (r : RT) (n : Nat) (x0 : DV) (h0 : Hp) : aH :=
 aWt r n x0 h0
def s309 (r : RT) (n : Nat) (x0 : DV) (h0 : Hp) : aH :=
 aWn r n x0 h0
abbrev c309 : Code:=cf Tryz.f309
abbrev aMz : Code:=cR c309
abbrev dUs : Code:=cR aMz
abbrev aEf : Code:=cL aMz
abbrev aZi : Code:=cR aEf
abbrev aOh : Code:=cL aZi
abbrev aBk : Code:=cR aOh
abbrev aEh : Code:=cR aBk
abbrev zW : Code:=cR aEh
abbrev aCt : Code:=cR zW
abbrev dHq : Code:=cR aCt
abbrev bNj : Code:=cL aCt
abbrev dKx : Code:=cL zW
abbrev bFj : Code:=cL aEh
abbrev dKz : Code:=cL aBk
abbrev bLm : Code:=cL aOh
abbrev bNy : Code:=cL aEf
abbrev bLr : Code:=cL c309
abbrev r309 : K:=bE CF Tryz.f309
def D309 (r : RT) (n : Nat) (c : Code) (X : Nat → K) (k : K) : K:=aW CF r 27 n c X r309 k
theorem dLt : D309 r n dUs x0 r309 = (K0 (cD r n)) :=
 (by kernel_rfl)
theorem dJa : D309 r n dHq (xs x0 0 (K0 (cD r n))) (K0 (cD r n)) = (K1 (aPz r n) 24) :=
 (by kernel_rfl)
theorem bYi : D309 r n aCt (xs x0 0 (K0 (cD r n))) (K0 (cD r n)) = D309 r n bNj (xs x0 0 (K0 (cD r n))) (K1 (aPz r n) 24) :=
 congrArg (fun k=>D309 r n bNj (xs x0 0 (K0 (cD r n))) k) (dJa r n)
theorem cZj : D309 r n aCt (xs x0 0 (K0 (cD r n))) (K0 (cD r n)) = (K1 (cTo r n) 3) :=
 (bYi r n).trans
 ((by kernel_rfl))
theorem dJc : D309 r n zW (xs x0 0 (K0 (cD r n))) (K0 (cD r n)) = (K2 (gY r n) 3 10) :=
 (by kernel_rfl : D309 r n zW (xs x0 0 (K0 (cD r n))) (K0 (cD r n)) = (fun (env : aZ) (h : Hp)=>aR (opr env (cC zW)) (D309 r n dKx (xs x0 0 (K0 (cD r n))) (K0 (cD r n)) env h) (D309 r n aCt (xs x0 0 (K0 (cD r n))) (K0 (cD r n)) env h))).trans (by rw [cZj r n]; kernel_rfl)
theorem cLf : D309 r n aEh (xs x0 0 (K0 (cD r n))) (K0 (cD r n)) = D309 r n bFj (xs x0 0 (K0 (cD r n))) (K2 (gY r n) 3 10) :=
 congrArg (fun k=>D309 r n bFj (xs x0 0 (K0 (cD r n))) k) (dJc r n)
theorem dKm : D309 r n aEh (xs x0 0 (K0 (cD r n))) (K0 (cD r n)) = (K1 (cOu r n) 3) :=
 (cLf r n).trans
 ((by kernel_rfl))
theorem dNp : D309 r n aBk (xs x0 0 (K0 (cD r n))) (K0 (cD r n)) = (K2 (pK r n) 3 4) :=
 (by kernel_rfl : D309 r n aBk (xs x0 0 (K0 (cD r n))) (K0 (cD r n)) = (fun (env : aZ) (h : Hp)=>aR (opr env (cC aBk)) (D309 r n dKz (xs x0 0 (K0 (cD r n))) (K0 (cD r n)) env h) (D309 r n aEh (xs x0 0 (K0 (cD r n))) (K0 (cD r n)) env h))).trans (by rw [dKm r n]; kernel_rfl)
theorem bWv : D309 r n aOh (xs x0 0 (K0 (cD r n))) (K0 (cD r n)) = D309 r n bLm (xs x0 0 (K0 (cD r n))) (K2 (pK r n) 3 4) :=
 congrArg (fun k=>D309 r n bLm (xs x0 0 (K0 (cD r n))) k) (dNp r n)
theorem dLu : D309 r n aZi x0 (K0 (cD r n)) = (K1 (aWt r n) 3) :=
 (by kernel_rfl : D309 r n aZi x0 (K0 (cD r n)) = D309 r n aOh (xs x0 0 (K0 (cD r n))) (K0 (cD r n))).trans
 ((bWv r n).trans
 ((by kernel_rfl)))
theorem cSe : D309 r n aMz x0 r309 = D309 r n aEf x0 (K0 (cD r n)) :=
 congrArg (fun k=>D309 r n aEf x0 k) (dLt r n)
theorem cRf : D309 r n aEf x0 (K0 (cD r n)) = D309 r n bNy x0 (K1 (aWt r n) 3) :=
 congrArg (fun k=>D309 r n bNy x0 k) (dLu r n)
theorem cYo : D309 r n aMz x0 r309 = (K1 (aWn r n) 0) :=
 (cSe r n).trans
 ((cRf r n).trans
 ((by kernel_rfl)))
theorem dUv : D309 r n c309 x0 r309 = D309 r n bLr x0 (K1 (aWn r n) 0) :=
 congrArg (fun k=>D309 r n bLr x0 k) (cYo r n)
theorem eOa : D309 r n c309 x0 r309 = (K1 (s309 r n) 0) :=
 (dUv r n).trans
 ((by kernel_rfl))
theorem eCu : aI CF r n 309 args h = s309 r n (bI args 0) h :=
 (by kernel_rfl : aI CF r n 309 args h = D309 r n c309 x0 r309 (aQ args) h).trans ((congrFun (congrFun (eOa r n) (aQ args)) h).trans (by kernel_rfl))
def s316 (r : RT) (n : Nat) (x0 x1 : DV) (h0 : Hp) : aH :=
 bnd (bQ [(aE 0),(aE 0),(aE 0),(aE 0),(aE 0),.l0,.l0,(.b false),(aE 0),(aE 0)] h0) fun v1 h1 =>
 bnd (r 219 [x0,x1] h1) fun v2 h2 =>
 bnd (eQ .not v2 h2) fun v3 h3 =>
 aR v3 (
 bnd (aY [(aE 0),(aE 0),(aE 0),(aE 0),(aE 0),.l0,.l0,(.b false),(aE 0),(aE 0)] [] h3) fun v4 h4 =>
 bnd (aJ 10 v1 v4 h4) fun _ h5 =>
 bnd (aK 10 v1 h5) fun v6 _ =>
 some (v6,h5)) (
  fL 1 x0 h3 fun v7 h7 =>
 bnd (aG 10 v7 x1 h7) fun v8 h8 =>
 bnd (aK 10 v8 h8) fun v9 h9 =>
 bnd (r 89 [v9] h9) fun v10 h10 =>
 bnd (aJ 10 v1 v10 h10) fun _ h11 =>
 bnd (aK 10 v1 h11) fun v12 _ =>
 some (v12,h11))
theorem dZv : aI CF r n 316 args h = s316 r n (bI args 0) (bI args 1) h :=
 by kernel_rfl
def s327 (r : RT) (n : Nat) (x0 : DV) (h0 : Hp) : aH :=
 bnd (r 274 [x0] h0) fun v1 h1 =>
 bnd (gD v1 false (some (x0,h1)) h1) fun v2 h2 =>
 bnd (gD v1 false (r 277 [v2] h2) h2) fun v3 h3 =>
 bnd (aN v1 (.b true) v3 h3) fun v4 h4 =>
 some (v4,h4)
theorem eFg : aI CF r n 327 args h = s327 r n (bI args 0) h :=
 by kernel_rfl
end Go.Dd

namespace Go.Dd
open Go.Proofs
variable (r : RT) (n : Nat) (args : List DV) (h : Hp)
def fD (r : RT) (n : Nat) (x0 x4 : DV) (h0 : Hp) : aH :=
 bnd (r 85 [x4] h0) fun v1 h1 =>
 bnd (aF 0 v1 h1) fun v2 h2 =>
 bnd (aF 1 v1 h2) fun v3 h3 =>
 bnd (aC .neq v3 (aE 0) h3) fun v4 h4 =>
 bnd (gD v4 false (some (x0,h4)) h4) fun v5 h5 =>
 bnd (gD v4 false (bM v5 h5) h5) fun v6 h6 =>
 bnd (gD v4 false (aC .gtr v6 (aE 0) h6) h6) fun v7 h7 =>
 bnd (aN v4 (.b true) v7 h7) fun v8 h8 =>
 aR v8 (
 some (.t [.l0,(aE 19)],h8)) (
 some (.t [x4,(aE 0)],h8))
def aGv (r : RT) (n : Nat) (kk4 : gP) (x0 x4 : DV) (h0 : Hp) : aH :=
 bnd (bM x0 h0) fun v1 h1 =>
 bnd (aC .geq v1 (aE 3) h1) fun v2 h2 =>
 aR v2 (
 bnd (aG 1 x0 (aE 0) (resv 1 h2)) fun v3 h3 =>
 bnd (aA v3 h3) fun v4 h4 =>
 bnd (cV .i64 v4 h4) fun v5 h5 =>
 bnd (aG 1 x0 (aE 1) h5) fun v6 h6 =>
 bnd (aA v6 h6) fun v7 h7 =>
 bnd (cV .i64 v7 h7) fun v8 h8 =>
 bnd (aG 1 x0 (aE 2) h8) fun v9 h9 =>
 bnd (aA v9 h9) fun v10 h10 =>
 bnd (cV .i64 v10 h10) fun v11 h11 =>
 bnd (aY [(aE 0),(aE 0),(aE 0)] [(0,1,v5),(1,1,v8),(2,1,v11)] h11) fun v12 h12 =>
 bnd (bL (bX 0 h2.next) [(aE 0),(aE 0),(aE 0)] 1 [(0,3,v12)] h12) fun v13 h13 =>
 bnd (bH 3 24 x4 v13 h13) fun v14 h14 =>
 bnd (eL 1 x0 (some (aE 3)) none h14) fun v15 h15 =>
      kk4 v15 v14 h15) (
      fD r n x0 x4 h2)
def zA (r : RT) (n : Nat) (m : Nat) : gP :=
 Nat.rec (motive:=fun _=>gP) (fun _ _ _=>none) (fun _ ih=>aGv r n ih) m
def cJl (r : RT) (n : Nat) : gP:=zA r n n
def aWy (r : RT) (n : Nat) (x0 x4 : DV) (h0 : Hp) : aH :=
 cJl r n x0 x4 h0
def bCe (r : RT) (n : Nat) (x0 : DV) (h0 : Hp) : aH :=
 aWy r n x0 .l0 h0
def s354 (r : RT) (n : Nat) (x0 : DV) (h0 : Hp) : aH :=
 bCe r n x0 h0
abbrev c354 : Code:=cf Tryz.f354
abbrev aKf : Code:=cR c354
abbrev aQs : Code:=cR aKf
abbrev eGi : Code:=cR aQs
abbrev aLw : Code:=cL aQs
abbrev aOv : Code:=cL aLw
abbrev nU : Code:=cL aOv
abbrev cQy : Code:=cL aKf
abbrev cNm : Code:=cL c354
abbrev r354 : K:=bE CF Tryz.f354
def D354 (r : RT) (n : Nat) (c : Code) (X : Nat → K) (k : K) : K:=aW CF r 41 n c X r354 k
theorem dNj : D354 r n eGi x0 r354 = (K2 (fD r n) 0 4) :=
 (by kernel_rfl)
theorem cDa (kk4 : gP) (q0 : gP) : D354 r n nU (xs x0 0 (K2 q0 0 4)) (K2 kk4 0 4) = fun (env : aZ) (h : Hp) =>
 bnd (bM (env 0) h) fun v1 h1 =>
 bnd (aC .geq v1 (aE 3) h1) fun v2 h2 =>
 aR v2 (
 bnd (aG 1 (env 0) (aE 0) (resv 1 h2)) fun v3 h3 =>
 bnd (aA v3 h3) fun v4 h4 =>
 bnd (cV .i64 v4 h4) fun v5 h5 =>
 bnd (aG 1 (env 0) (aE 1) h5) fun v6 h6 =>
 bnd (aA v6 h6) fun v7 h7 =>
 bnd (cV .i64 v7 h7) fun v8 h8 =>
 bnd (aG 1 (env 0) (aE 2) h8) fun v9 h9 =>
 bnd (aA v9 h9) fun v10 h10 =>
 bnd (cV .i64 v10 h10) fun v11 h11 =>
 bnd (aY [(aE 0),(aE 0),(aE 0)] [(0,1,v5),(1,1,v8),(2,1,v11)] h11) fun v12 h12 =>
 bnd (bL (bX 0 h2.next) [(aE 0),(aE 0),(aE 0)] 1 [(0,3,v12)] h12) fun v13 h13 =>
 bnd (bH 3 24 (env 4) v13 h13) fun v14 h14 =>
 bnd (eL 1 (env 0) (some (aE 3)) none h14) fun v15 h15 =>
      kk4 v15 v14 h15) (
      q0 (env 0) (env 4) h2):=by kernel_rfl
theorem bVt (kk4 : gP) : (fun (env : aZ) (h : Hp) =>
 bnd (bM (env 0) h) fun v1 h1 =>
 bnd (aC .geq v1 (aE 3) h1) fun v2 h2 =>
 aR v2 (
 bnd (aG 1 (env 0) (aE 0) (resv 1 h2)) fun v3 h3 =>
 bnd (aA v3 h3) fun v4 h4 =>
 bnd (cV .i64 v4 h4) fun v5 h5 =>
 bnd (aG 1 (env 0) (aE 1) h5) fun v6 h6 =>
 bnd (aA v6 h6) fun v7 h7 =>
 bnd (cV .i64 v7 h7) fun v8 h8 =>
 bnd (aG 1 (env 0) (aE 2) h8) fun v9 h9 =>
 bnd (aA v9 h9) fun v10 h10 =>
 bnd (cV .i64 v10 h10) fun v11 h11 =>
 bnd (aY [(aE 0),(aE 0),(aE 0)] [(0,1,v5),(1,1,v8),(2,1,v11)] h11) fun v12 h12 =>
 bnd (bL (bX 0 h2.next) [(aE 0),(aE 0),(aE 0)] 1 [(0,3,v12)] h12) fun v13 h13 =>
 bnd (bH 3 24 (env 4) v13 h13) fun v14 h14 =>
 bnd (eL 1 (env 0) (some (aE 3)) none h14) fun v15 h15 =>
      kk4 v15 v14 h15) (
      fD r n (env 0) (env 4) h2)) = (K2 (aGv r n kk4) 0 4):=by kernel_rfl
theorem cEt (kk4 : gP) : D354 r n nU (xs x0 0 (K2 (fD r n) 0 4)) (K2 kk4 0 4) = (K2 (aGv r n kk4) 0 4) :=
 (cDa r n kk4 (fD r n)).trans (bVt r n kk4)
theorem cEq (m : Nat) : aM (fun kk=>D354 r n nU (xs x0 0 (K2 (fD r n) 0 4)) kk) m = (K2 (zA r n m) 0 4):=by
 induction m with
 | zero=>exact (by kernel_rfl : aM (fun kk=>D354 r n nU (xs x0 0 (K2 (fD r n) 0 4)) kk) 0 = (K2 (zA r n 0) 0 4))
 | succ m ih =>
  refine (by kernel_rfl : aM (fun kk=>D354 r n nU (xs x0 0 (K2 (fD r n) 0 4)) kk) (m + 1) = D354 r n nU (xs x0 0 (K2 (fD r n) 0 4)) (aM (fun kk=>D354 r n nU (xs x0 0 (K2 (fD r n) 0 4)) kk) m)).trans ?_
  rw [ih]
  exact (cEt r n (zA r n m)).trans (by kernel_rfl)
theorem dJl : D354 r n aOv (xs x0 0 (K2 (fD r n) 0 4)) (K2 (fD r n) 0 4) = (K2 (cJl r n) 0 4) :=
 (by kernel_rfl : D354 r n aOv (xs x0 0 (K2 (fD r n) 0 4)) (K2 (fD r n) 0 4) = aM (fun kk=>D354 r n nU (xs x0 0 (K2 (fD r n) 0 4)) kk) n).trans ((cEq r n n).trans (by kernel_rfl))
theorem cIl : D354 r n aQs x0 r354 = D354 r n aLw x0 (K2 (fD r n) 0 4) :=
 congrArg (fun k=>D354 r n aLw x0 k) (dNj r n)
theorem dPb : D354 r n aQs x0 r354 = (K2 (aWy r n) 0 4) :=
 (cIl r n).trans
 ((by kernel_rfl : D354 r n aLw x0 (K2 (fD r n) 0 4) = D354 r n aOv (xs x0 0 (K2 (fD r n) 0 4)) (K2 (fD r n) 0 4)).trans
 ((dJl r n).trans (by kernel_rfl)))
theorem cWu : D354 r n aKf x0 r354 = D354 r n cQy x0 (K2 (aWy r n) 0 4) :=
 congrArg (fun k=>D354 r n cQy x0 k) (dPb r n)
theorem dGo : D354 r n aKf x0 r354 = (K1 (bCe r n) 0) :=
 (cWu r n).trans
 ((by kernel_rfl))
theorem dZa : D354 r n c354 x0 r354 = D354 r n cNm x0 (K1 (bCe r n) 0) :=
 congrArg (fun k=>D354 r n cNm x0 k) (dGo r n)
theorem eRu : D354 r n c354 x0 r354 = (K1 (s354 r n) 0) :=
 (dZa r n).trans
 ((by kernel_rfl))
theorem eCi : aI CF r n 354 args h = s354 r n (bI args 0) h :=
 (by kernel_rfl : aI CF r n 354 args h = D354 r n c354 x0 r354 (aQ args) h).trans ((congrFun (congrFun (eRu r n) (aQ args)) h).trans (by kernel_rfl))
end Go.Dd

namespace Go.Dd
open Go.Proofs
variable (r : RT) (n : Nat) (args : List DV) (h : Hp)
def eY (r : RT) (n : Nat) (x0 x2 x12 x13 x15 : DV) (h0 : Hp) : aH :=
 bnd (aC .add x2 (aE 1) h0) fun v1 h1 =>
 bnd (r 221 [x0,v1] h1) fun v2 h2 =>
 bnd (aV x0 h2) fun v3 h3 =>
 bnd (aB 1 v3 h3) fun v4 h4 =>
 bnd (aA v4 h4) fun v5 h5 =>
 bnd (r 151 [x0,x12,(aE 3)] h5) fun v6 h6 =>
 cnd (aX (aA v4 h6) v5 && true) (
 bnd (aY [(aE 0),(aE 0),(aE 0),(aE 0),(aE 0),.l0,.l0,(.b false),(aE 0),(aE 0)] [(0,1,x15),(1,1,v6),(2,1,x12),(3,1,x13)] h6) fun v7 h7 =>
 bnd (r 45 [v5,v7] h7) fun v8 h8 =>
 some (.t [(.b true),v8],h8))
def aTz (r : RT) (n : Nat) (kk10 : TT9) (x0 x2 x12 x13 x14 x15 x101 x102 x103 : DV) (h0 : Hp) : aH :=
 bnd (aC .lss x103 x102 h0) fun v1 h1 =>
 aR v1 (
 bnd (aG 1 x101 x103 h1) fun v2 h2 =>
 bnd (aA v2 h2) fun v3 h3 =>
      fL 0 x0 h3 fun v4 h4 =>
 bnd (r 41 [v4] h4) fun v5 h5 =>
 bnd (aC .add (aE 5) x14 h5) fun v6 h6 =>
 bnd (aC .add v6 x103 h6) fun v7 h7 =>
 bnd (oB [v5,x12,v7,v3] h7) fun v8 h8 =>
 bnd (aC .add x103 (aE 1) h8) fun v9 h9 =>
      kk10 x0 x2 x12 x13 x14 x15 x101 x102 v9 h9) (
      eY r n x0 x2 x12 x13 x15 h1)
def sM (r : RT) (n : Nat) (m : Nat) : TT9 :=
 Nat.rec (motive:=fun _=>TT9) (fun _ _ _ _ _ _ _ _ _ _=>none) (fun _ ih=>aTz r n ih) m
def bGp (r : RT) (n : Nat) : TT9:=sM r n n
def bBy (r : RT) (n : Nat) (x0 x2 x12 x13 x14 x15 x101 x102 x103 : DV) (h0 : Hp) : aH :=
 bGp r n x0 x2 x12 x13 x14 x15 x101 x102 x103 h0
def aXo (r : RT) (n : Nat) (x0 x2 x4 x12 x13 x14 x15 : DV) (h0 : Hp) : aH :=
 bnd (bM x4 h0) fun v1 h1 =>
  bBy r n x0 x2 x12 x13 x14 x15 x4 v1 (aE 0) h1
def aBh (r : RT) (n : Nat) (x0 x2 x4 x12 x13 x14 x15 : DV) (h0 : Hp) : aH :=
 fL 1 x0 h0 fun v1 h1 =>
 bnd (r 39 [v1] h1) fun v2 h2 =>
 bnd (aC .geq v2 (aE 60) h2) fun v3 h3 =>
 aR v3 (
 some (.t [(.b false),(aE 22)],h3)) (
  aXo r n x0 x2 x4 x12 x13 x14 x15 h3)
def aJn (r : RT) (n : Nat) (x0 x2 x4 x12 x13 x14 x15 x16 : DV) (h0 : Hp) : aH :=
 fL 0 x0 h0 fun v1 h1 =>
 bnd (r 160 [v1,x12] h1) fun v2 h2 =>
 bnd (aV x0 h2) fun v3 h3 =>
 bnd (aB 0 v3 h3) fun v4 h4 =>
 bnd (aA v4 h4) fun v5 h5 =>
 cnd (aX (aA v4 h0) v5 && true) (
 bnd (r 26 [v5,(aE 13)] h5) fun v6 h6 =>
 bnd (aC .neq v2 v6 h6) fun v7 h7 =>
 bnd (gD v7 false (some (x13,h7)) h7) fun v8 h8 =>
 bnd (gD v7 false (aC .lss v8 (aE 2) h8) h8) fun v9 h9 =>
 bnd (aN v7 (.b true) v9 h9) fun v10 h10 =>
 bnd (gD v10 false (some (x13,h10)) h10) fun v11 h11 =>
 bnd (gD v10 false (some (x16,h11)) h11) fun v12 h12 =>
 bnd (gD v10 false (bM v12 h12) h12) fun v13 h13 =>
 bnd (gD v10 false (aC .geq v11 v13 h13) h13) fun v14 h14 =>
 bnd (aN v10 (.b true) v14 h14) fun v15 h15 =>
 bnd (gD v15 false (some (x16,h15)) h15) fun v16 h16 =>
 bnd (gD v15 false (some (x13,h16)) h16) fun v17 h17 =>
 bnd (gD v15 false (aC .sub v17 (aE 2) h17) h17) fun v18 h18 =>
 bnd (gD v15 false (aG 3 v16 v18 h18) h18) fun v19 h19 =>
 bnd (gD v15 false (aK 3 v19 h19) h19) fun v20 h20 =>
 bnd (gD v15 false (some (x14,h20)) h20) fun v21 h21 =>
 bnd (gD v15 false (some (x2,h21)) h21) fun v22 h22 =>
 bnd (gD v15 false (aY [(aE 0),(aE 0),(aE 0)] [(0,1,(aE 18)),(1,1,v21),(2,1,v22)] h22) h22) fun v23 h23 =>
 bnd (gD v15 false (aUc .neq v20 v23 h23) h23) fun v24 h24 =>
 bnd (aN v15 (.b true) v24 h24) fun v25 h25 =>
 aR v25 (
 some (.t [(.b false),(aE 0)],h25)) (
  aBh r n x0 x2 x4 x12 x13 x14 x15 h25))
def bAm (r : RT) (n : Nat) (x0 x2 x4 x12 x13 x14 x15 : DV) (h0 : Hp) : aH :=
 bnd (r 218 [x0,x15] h0) fun v1 h1 =>
 bnd (gN 5 v1 h1) fun v2 h2 =>
  aJn r n x0 x2 x4 x12 x13 x14 x15 v2 h2
def aXe (r : RT) (n : Nat) (x0 x2 x4 x12 x13 x14 : DV) (h0 : Hp) : aH :=
 bnd (r 151 [x0,x12,(aE 2)] h0) fun v1 h1 =>
  bAm r n x0 x2 x4 x12 x13 x14 v1 h1
def bDl (r : RT) (n : Nat) (x0 x2 x3 x4 : DV) (h0 : Hp) : aH :=
 bnd (r 151 [x0,x3,(aE 0)] h0) fun v1 h1 =>
 bnd (r 151 [x0,x3,(aE 1)] h1) fun v2 h2 =>
 bnd (oA [v2] h2) fun v3 h3 =>
 bnd (r 151 [x0,x3,(aE 3)] h3) fun v4 h4 =>
 bnd (oA [v4] h4) fun v5 h5 =>
  aXe r n x0 x2 x4 v1 v3 v5 h5
def aWi (r : RT) (n : Nat) (x0 x1 x2 x3 x4 : DV) (h0 : Hp) : aH :=
 bnd (aC .neq x2 x1 h0) fun v1 h1 =>
 bnd (gD v1 false (some (x0,h1)) h1) fun v2 h2 =>
 bnd (gD v1 false (aV v2 h2) h2) fun v3 h3 =>
 bnd (gD v1 false (aB 0 v3 h3) h3) fun v4 h4 =>
 bnd (gD v1 false (aA v4 h4) h4) fun v5 h5 =>
 bnd (gD v1 false (some (x3,h5)) h5) fun v6 h6 =>
 bnd (gD v1 false (r 160 [v5,v6] h6) h6) fun v7 h7 =>
 bnd (gD v1 false (some (x0,h7)) h7) fun v8 h8 =>
 bnd (gD v1 false (aV v8 h8) h8) fun v9 h9 =>
 bnd (gD v1 false (aB 0 v9 h9) h9) fun v10 h10 =>
 bnd (gD v1 false (aA v10 h10) h10) fun v11 h11 =>
 cnd (aX (gD v1 false (aA v10 h0) h0) v11 && true) (
 bnd (gD v1 false (r 26 [v11,(aE 12)] h11) h11) fun v12 h12 =>
 bnd (gD v1 false (aC .neq v7 v12 h12) h12) fun v13 h13 =>
 bnd (aN v1 (.b true) v13 h13) fun v14 h14 =>
 bnd (gD v14 false (some (x0,h14)) h14) fun v15 h15 =>
 bnd (gD v14 false (some (x3,h15)) h15) fun v16 h16 =>
 bnd (gD v14 false (r 151 [v15,v16,(aE 2)] h16) h16) fun v17 h17 =>
 bnd (gD v14 false (oA [v17] h17) h17) fun v18 h18 =>
 bnd (gD v14 false (some (x2,h18)) h18) fun v19 h19 =>
 bnd (gD v14 false (aC .neq v18 v19 h19) h19) fun v20 h20 =>
 bnd (aN v14 (.b true) v20 h20) fun v21 h21 =>
 aR v21 (
 some (.t [(.b false),(aE 0)],h21)) (
  bDl r n x0 x2 x3 x4 h21))
def s365 (r : RT) (n : Nat) (x0 x1 x2 x3 x4 : DV) (h0 : Hp) : aH :=
 aWi r n x0 x1 x2 x3 x4 h0
abbrev c365 : Code:=cf Tryz.f365
abbrev aMv : Code:=cR c365
abbrev aQf : Code:=cR aMv
abbrev aGl : Code:=cR aQf
abbrev aLv : Code:=cR aGl
abbrev aQj : Code:=cR aLv
abbrev aIp : Code:=cR aQj
abbrev aNi : Code:=cR aIp
abbrev eEr : Code:=cR aNi
abbrev aBx : Code:=cL aNi
abbrev aLz : Code:=cR aBx
abbrev yG : Code:=cL aLz
abbrev mP : Code:=cL yG
abbrev bFm : Code:=cL aBx
abbrev bOs : Code:=cL aIp
abbrev aHe : Code:=cL aQj
abbrev bMh : Code:=cL aLv
abbrev bPb : Code:=cL aGl
abbrev bFv : Code:=cL aQf
abbrev bNz : Code:=cL aMv
abbrev bNk : Code:=cL c365
abbrev r365 : K:=bE CF Tryz.f365
def D365 (r : RT) (n : Nat) (c : Code) (X : Nat → K) (k : K) : K:=aW CF r 137 n c X r365 k
theorem dMm : D365 r n eEr x0 r365 = (K5 (eY r n) 0 2 12 13 15) :=
 (by kernel_rfl)
theorem bUt (kk10 : TT9) : D365 r n mP (xs x0 0 (K5 (eY r n) 0 2 12 13 15)) (K9 kk10 0 2 12 13 14 15 101 102 103) = (K9 (aTz r n kk10) 0 2 12 13 14 15 101 102 103) :=
 (by kernel_rfl)
theorem bRz (m : Nat) : aM (fun kk=>D365 r n mP (xs x0 0 (K5 (eY r n) 0 2 12 13 15)) kk) m = (K9 (sM r n m) 0 2 12 13 14 15 101 102 103):=by
 induction m with
 | zero=>exact (by kernel_rfl : aM (fun kk=>D365 r n mP (xs x0 0 (K5 (eY r n) 0 2 12 13 15)) kk) 0 = (K9 (sM r n 0) 0 2 12 13 14 15 101 102 103))
 | succ m ih =>
  refine (by kernel_rfl : aM (fun kk=>D365 r n mP (xs x0 0 (K5 (eY r n) 0 2 12 13 15)) kk) (m + 1) = D365 r n mP (xs x0 0 (K5 (eY r n) 0 2 12 13 15)) (aM (fun kk=>D365 r n mP (xs x0 0 (K5 (eY r n) 0 2 12 13 15)) kk) m)).trans ?_
  rw [ih]
  exact (bUt r n (sM r n m)).trans (by kernel_rfl)
theorem cNk : D365 r n yG (xs x0 0 (K5 (eY r n) 0 2 12 13 15)) (K5 (eY r n) 0 2 12 13 15) = (K9 (bGp r n) 0 2 12 13 14 15 101 102 103) :=
 (by kernel_rfl : D365 r n yG (xs x0 0 (K5 (eY r n) 0 2 12 13 15)) (K5 (eY r n) 0 2 12 13 15) = aM (fun kk=>D365 r n mP (xs x0 0 (K5 (eY r n) 0 2 12 13 15)) kk) n).trans ((bRz r n n).trans (by kernel_rfl))
theorem cYj : D365 r n aLz x0 (K5 (eY r n) 0 2 12 13 15) = (K9 (bBy r n) 0 2 12 13 14 15 101 102 103) :=
 (by kernel_rfl : D365 r n aLz x0 (K5 (eY r n) 0 2 12 13 15) = D365 r n yG (xs x0 0 (K5 (eY r n) 0 2 12 13 15)) (K5 (eY r n) 0 2 12 13 15)).trans
 ((cNk r n).trans (by kernel_rfl))
theorem cLj : D365 r n aNi x0 r365 = D365 r n aBx x0 (K5 (eY r n) 0 2 12 13 15) :=
 congrArg (fun k=>D365 r n aBx x0 k) (dMm r n)
theorem cEl : D365 r n aBx x0 (K5 (eY r n) 0 2 12 13 15) = D365 r n bFm x0 (K9 (bBy r n) 0 2 12 13 14 15 101 102 103) :=
 congrArg (fun k=>D365 r n bFm x0 k) (cYj r n)
theorem dPr : D365 r n aNi x0 r365 = (K7 (aXo r n) 0 2 4 12 13 14 15) :=
 (cLj r n).trans
 ((cEl r n).trans
 ((by kernel_rfl)))
theorem cOh : D365 r n aIp x0 r365 = D365 r n bOs x0 (K7 (aXo r n) 0 2 4 12 13 14 15) :=
 congrArg (fun k=>D365 r n bOs x0 k) (dPr r n)
theorem dDl : D365 r n aIp x0 r365 = (K7 (aBh r n) 0 2 4 12 13 14 15) :=
 (cOh r n).trans
 ((by kernel_rfl))
theorem cKt : D365 r n aQj x0 r365 = D365 r n aHe x0 (K7 (aBh r n) 0 2 4 12 13 14 15) :=
 congrArg (fun k=>D365 r n aHe x0 k) (dDl r n)
theorem cRt (q0 : TT7) : D365 r n aHe x0 (K7 q0 0 2 4 12 13 14 15) = fun (env : aZ) (h : Hp) =>
 bnd (aV (env 0) h) fun v1 h1 =>
 bnd (aB 0 v1 h1) fun v2 h2 =>
 bnd (aA v2 h2) fun v3 h3 =>
 bnd (r 160 [v3,(env 12)] h3) fun v4 h4 =>
 bnd (aV (env 0) h4) fun v5 h5 =>
 bnd (aB 0 v5 h5) fun v6 h6 =>
 bnd (aA v6 h6) fun v7 h7 =>
 cnd (aX (aA v6 h) v7 && true) (
 bnd (r 26 [v7,(aE 13)] h7) fun v8 h8 =>
 bnd (aC .neq v4 v8 h8) fun v9 h9 =>
 bnd (gD v9 false (some ((env 13),h9)) h9) fun v10 h10 =>
 bnd (gD v9 false (aC .lss v10 (aE 2) h10) h10) fun v11 h11 =>
 bnd (aN v9 (.b true) v11 h11) fun v12 h12 =>
 bnd (gD v12 false (some ((env 13),h12)) h12) fun v13 h13 =>
 bnd (gD v12 false (some ((env 16),h13)) h13) fun v14 h14 =>
 bnd (gD v12 false (bM v14 h14) h14) fun v15 h15 =>
 bnd (gD v12 false (aC .geq v13 v15 h15) h15) fun v16 h16 =>
 bnd (aN v12 (.b true) v16 h16) fun v17 h17 =>
 bnd (gD v17 false (some ((env 16),h17)) h17) fun v18 h18 =>
 bnd (gD v17 false (some ((env 13),h18)) h18) fun v19 h19 =>
 bnd (gD v17 false (aC .sub v19 (aE 2) h19) h19) fun v20 h20 =>
 bnd (gD v17 false (aG 3 v18 v20 h20) h20) fun v21 h21 =>
 bnd (gD v17 false (aK 3 v21 h21) h21) fun v22 h22 =>
 bnd (gD v17 false (some ((env 14),h22)) h22) fun v23 h23 =>
 bnd (gD v17 false (some ((env 2),h23)) h23) fun v24 h24 =>
 bnd (gD v17 false (aY [(aE 0),(aE 0),(aE 0)] [(0,1,(aE 18)),(1,1,v23),(2,1,v24)] h24) h24) fun v25 h25 =>
 bnd (gD v17 false (aUc .neq v22 v25 h25) h25) fun v26 h26 =>
 bnd (aN v17 (.b true) v26 h26) fun v27 h27 =>
 aR v27 (
 some (.t [(.b false),(aE 0)],h27)) (
   q0 (env 0) (env 2) (env 4) (env 12) (env 13) (env 14) (env 15) h27)):=by kernel_rfl
theorem bVh : (fun (env : aZ) (h : Hp) =>
 bnd (aV (env 0) h) fun v1 h1 =>
 bnd (aB 0 v1 h1) fun v2 h2 =>
 bnd (aA v2 h2) fun v3 h3 =>
 bnd (r 160 [v3,(env 12)] h3) fun v4 h4 =>
 bnd (aV (env 0) h4) fun v5 h5 =>
 bnd (aB 0 v5 h5) fun v6 h6 =>
 bnd (aA v6 h6) fun v7 h7 =>
 cnd (aX (aA v6 h) v7 && true) (
 bnd (r 26 [v7,(aE 13)] h7) fun v8 h8 =>
 bnd (aC .neq v4 v8 h8) fun v9 h9 =>
 bnd (gD v9 false (some ((env 13),h9)) h9) fun v10 h10 =>
 bnd (gD v9 false (aC .lss v10 (aE 2) h10) h10) fun v11 h11 =>
 bnd (aN v9 (.b true) v11 h11) fun v12 h12 =>
 bnd (gD v12 false (some ((env 13),h12)) h12) fun v13 h13 =>
 bnd (gD v12 false (some ((env 16),h13)) h13) fun v14 h14 =>
 bnd (gD v12 false (bM v14 h14) h14) fun v15 h15 =>
 bnd (gD v12 false (aC .geq v13 v15 h15) h15) fun v16 h16 =>
 bnd (aN v12 (.b true) v16 h16) fun v17 h17 =>
 bnd (gD v17 false (some ((env 16),h17)) h17) fun v18 h18 =>
 bnd (gD v17 false (some ((env 13),h18)) h18) fun v19 h19 =>
 bnd (gD v17 false (aC .sub v19 (aE 2) h19) h19) fun v20 h20 =>
 bnd (gD v17 false (aG 3 v18 v20 h20) h20) fun v21 h21 =>
 bnd (gD v17 false (aK 3 v21 h21) h21) fun v22 h22 =>
 bnd (gD v17 false (some ((env 14),h22)) h22) fun v23 h23 =>
 bnd (gD v17 false (some ((env 2),h23)) h23) fun v24 h24 =>
 bnd (gD v17 false (aY [(aE 0),(aE 0),(aE 0)] [(0,1,(aE 18)),(1,1,v23),(2,1,v24)] h24) h24) fun v25 h25 =>
 bnd (gD v17 false (aUc .neq v22 v25 h25) h25) fun v26 h26 =>
 bnd (aN v17 (.b true) v26 h26) fun v27 h27 =>
 aR v27 (
 some (.t [(.b false),(aE 0)],h27)) (
   aBh r n (env 0) (env 2) (env 4) (env 12) (env 13) (env 14) (env 15) h27))) = (K8 (aJn r n) 0 2 4 12 13 14 15 16):=by kernel_rfl
theorem dPf : D365 r n aQj x0 r365 = (K8 (aJn r n) 0 2 4 12 13 14 15 16) :=
 (cKt r n).trans
 ((cRt r n (aBh r n)).trans (bVh r n))
theorem cLo : D365 r n aLv x0 r365 = D365 r n bMh x0 (K8 (aJn r n) 0 2 4 12 13 14 15 16) :=
 congrArg (fun k=>D365 r n bMh x0 k) (dPf r n)
theorem dEw : D365 r n aLv x0 r365 = (K7 (bAm r n) 0 2 4 12 13 14 15) :=
 (cLo r n).trans
 ((by kernel_rfl))
theorem cVz : D365 r n aGl x0 r365 = D365 r n bPb x0 (K7 (bAm r n) 0 2 4 12 13 14 15) :=
 congrArg (fun k=>D365 r n bPb x0 k) (dEw r n)
theorem dCh : D365 r n aGl x0 r365 = (K6 (aXe r n) 0 2 4 12 13 14) :=
 (cVz r n).trans
 ((by kernel_rfl))
theorem cEy : D365 r n aQf x0 r365 = D365 r n bFv x0 (K6 (aXe r n) 0 2 4 12 13 14) :=
 congrArg (fun k=>D365 r n bFv x0 k) (dCh r n)
theorem dIx : D365 r n aQf x0 r365 = (K4 (bDl r n) 0 2 3 4) :=
 (cEy r n).trans
 ((by kernel_rfl))
theorem cGf : D365 r n aMv x0 r365 = D365 r n bNz x0 (K4 (bDl r n) 0 2 3 4) :=
 congrArg (fun k=>D365 r n bNz x0 k) (dIx r n)
theorem dOp : D365 r n aMv x0 r365 = (K5 (aWi r n) 0 1 2 3 4) :=
 (cGf r n).trans
 ((by kernel_rfl))
theorem dMk : D365 r n c365 x0 r365 = D365 r n bNk x0 (K5 (aWi r n) 0 1 2 3 4) :=
 congrArg (fun k=>D365 r n bNk x0 k) (dOp r n)
theorem ePx : D365 r n c365 x0 r365 = (K5 (s365 r n) 0 1 2 3 4) :=
 (dMk r n).trans
 ((by kernel_rfl))
theorem dWa : aI CF r n 365 args h = s365 r n (bI args 0) (bI args 1) (bI args 2) (bI args 3) (bI args 4) h :=
 (by kernel_rfl : aI CF r n 365 args h = D365 r n c365 x0 r365 (aQ args) h).trans ((congrFun (congrFun (ePx r n) (aQ args)) h).trans (by kernel_rfl))
end Go.Dd

namespace Go.Dd
open Go.Proofs
variable (r : RT) (n : Nat) (args : List DV) (h : Hp)
end Go.Dd

namespace Go.Dd
open Go.Proofs
def aP (l : List DV) : Nat → DV:=List.rec (motive:=fun _=>Nat → DV) (fun _=>aT) (fun x _ ih i=>Nat.rec (motive:=fun _=>DV) x (fun k _=>ih k) i) l
theorem aD : ∀ (l : List DV) (i : Nat),aP l i = l.getD i aT
 | [],i=>by simp [aP]
 | x :: l,0=>rfl
 | x :: l,i + 1=>(aD l i).trans (by simp)
@[reducible] def cdR (b : Bool) (x y : aH) : aH:=Bool.rec (motive:=fun _=>aH) y x b
theorem fAv (x y : aH) : cdR true x y = x:=rfl
section
variable (ih : RT) (m : Nat) (f : FuncId) (args : List DV) (h : Hp)
theorem cM {i : Nat} {s r : aH} (e1 : s = aI CF ih m i args h) (e2 : r = aI CF ih m f args h) : cdR (Nat.beq f i) s r = aI CF ih m f args h:=by
 cases e : Nat.beq f i with
 | false=>exact e2
 | true=>cases Nat.eq_of_beq_eq_true e; exact e1
theorem pA {i : Nat} {a b : aH} (e1 : a = aI CF ih m f args h) (e2 : b = aI CF ih m f args h) : cdR (Nat.blt f i) a b = aI CF ih m f args h:=by
 cases Nat.blt f i with
 | false=>exact e2
 | true=>exact e1
def qg0 : aH:=cdR (Nat.beq f 4) (s4 ih m (aP args 0) (aP args 1) h) (cdR (Nat.beq f 5) (s5 ih m (aP args 0) h) (cdR (Nat.beq f 6) (s6 ih m h) (cdR (Nat.beq f 7) (s7 ih m (aP args 0) (aP args 1) h) (aI CF ih m f args h))))
theorem eZl : qg0 ih m f args h = aI CF ih m f args h:=cM ih m f args h (by rw [aD args 0,aD args 1]; exact (eTl ih m args h).symm) (cM ih m f args h (by rw [aD args 0]; exact (eVr ih m args h).symm) (cM ih m f args h (eYb ih m args h).symm (cM ih m f args h (by rw [aD args 0,aD args 1]; exact (eJc ih m args h).symm) rfl)))
def qg1 : aH:=cdR (Nat.beq f 10) (s10 ih m (aP args 0) h) (cdR (Nat.beq f 11) (s11 ih m (aP args 0) h) (cdR (Nat.beq f 14) (s14 ih m (aP args 0) (aP args 1) (aP args 2) h) (cdR (Nat.beq f 15) (s15 ih m (aP args 0) h) (aI CF ih m f args h))))
theorem eZi : qg1 ih m f args h = aI CF ih m f args h:=cM ih m f args h (by rw [aD args 0]; exact (eSm ih m args h).symm) (cM ih m f args h (by rw [aD args 0]; exact (eLe ih m args h).symm) (cM ih m f args h (by rw [aD args 0,aD args 1,aD args 2]; exact (eUy ih m args h).symm) (cM ih m f args h (by rw [aD args 0]; exact (eQu ih m args h).symm) rfl)))
def qg2 : aH:=cdR (Nat.beq f 26) (s26 ih m (aP args 0) (aP args 1) h) (cdR (Nat.beq f 28) (s28 ih m (aP args 0) (aP args 1) h) (cdR (Nat.beq f 29) (s29 ih m (aP args 0) (aP args 1) h) (cdR (Nat.beq f 30) (s30 ih m (aP args 0) h) (aI CF ih m f args h))))
theorem eXj : qg2 ih m f args h = aI CF ih m f args h:=cM ih m f args h (by rw [aD args 0,aD args 1]; exact (eIh ih m args h).symm) (cM ih m f args h (by rw [aD args 0,aD args 1]; exact (eMt ih m args h).symm) (cM ih m f args h (by rw [aD args 0,aD args 1]; exact (eJo ih m args h).symm) (cM ih m f args h (by rw [aD args 0]; exact (eKs ih m args h).symm) rfl)))
def qg3 : aH:=cdR (Nat.beq f 32) (s32 ih m (aP args 0) (aP args 1) (aP args 2) h) (cdR (Nat.beq f 38) (s38 ih m (aP args 0) (aP args 1) (aP args 2) h) (cdR (Nat.beq f 39) (s39 ih m (aP args 0) h) (cdR (Nat.beq f 40) (s40 ih m (aP args 0) h) (aI CF ih m f args h))))
theorem eZm : qg3 ih m f args h = aI CF ih m f args h:=cM ih m f args h (by rw [aD args 0,aD args 1,aD args 2]; exact (eNq ih m args h).symm) (cM ih m f args h (by rw [aD args 0,aD args 1,aD args 2]; exact (eRw ih m args h).symm) (cM ih m f args h (by rw [aD args 0]; exact (eRk ih m args h).symm) (cM ih m f args h (by rw [aD args 0]; exact (eMj ih m args h).symm) rfl)))
def qg4 : aH:=cdR (Nat.beq f 41) (s41 ih m (aP args 0) h) (cdR (Nat.beq f 44) (s44 ih m (aP args 0) (aP args 1) (aP args 2) h) (cdR (Nat.beq f 45) (s45 ih m (aP args 0) (aP args 1) h) (cdR (Nat.beq f 46) (s46 ih m (aP args 0) h) (aI CF ih m f args h))))
theorem eZw : qg4 ih m f args h = aI CF ih m f args h:=cM ih m f args h (by rw [aD args 0]; exact (eOt ih m args h).symm) (cM ih m f args h (by rw [aD args 0,aD args 1,aD args 2]; exact (ePh ih m args h).symm) (cM ih m f args h (by rw [aD args 0,aD args 1]; exact (eMi ih m args h).symm) (cM ih m f args h (by rw [aD args 0]; exact (eTu ih m args h).symm) rfl)))
def qg5 : aH:=cdR (Nat.beq f 47) (s47 ih m (aP args 0) h) (cdR (Nat.beq f 48) (s48 ih m (aP args 0) (aP args 1) h) (cdR (Nat.beq f 55) (s55 ih m (aP args 0) (aP args 1) (aP args 2) h) (cdR (Nat.beq f 56) (s56 ih m (aP args 0) (aP args 1) h) (aI CF ih m f args h))))
theorem fAc : qg5 ih m f args h = aI CF ih m f args h:=cM ih m f args h (by rw [aD args 0]; exact (eQi ih m args h).symm) (cM ih m f args h (by rw [aD args 0,aD args 1]; exact (eTm ih m args h).symm) (cM ih m f args h (by rw [aD args 0,aD args 1,aD args 2]; exact (eUo ih m args h).symm) (cM ih m f args h (by rw [aD args 0,aD args 1]; exact (eKj ih m args h).symm) rfl)))
def qg6 : aH:=cdR (Nat.beq f 57) (s57 ih m (aP args 0) (aP args 1) h) (cdR (Nat.beq f 59) (s59 ih m (aP args 0) (aP args 1) (aP args 2) (aP args 3) h) (cdR (Nat.beq f 68) (s68 ih m (aP args 0) h) (cdR (Nat.beq f 71) (s71 ih m (aP args 0) h) (aI CF ih m f args h))))
theorem fAm : qg6 ih m f args h = aI CF ih m f args h:=cM ih m f args h (by rw [aD args 0,aD args 1]; exact (eUc ih m args h).symm) (cM ih m f args h (by rw [aD args 0,aD args 1,aD args 2,aD args 3]; exact (eRj ih m args h).symm) (cM ih m f args h (by rw [aD args 0]; exact (eNh ih m args h).symm) (cM ih m f args h (by rw [aD args 0]; exact (eOj ih m args h).symm) rfl)))
def qg7 : aH:=cdR (Nat.beq f 72) (s72 ih m (aP args 0) (aP args 1) (aP args 2) h) (cdR (Nat.beq f 73) (s73 ih m (aP args 0) (aP args 1) (aP args 2) h) (cdR (Nat.beq f 74) (s74 ih m (aP args 0) (aP args 1) h) (cdR (Nat.beq f 75) (s75 ih m (aP args 0) (aP args 1) (aP args 2) (aP args 3) h) (aI CF ih m f args h))))
theorem eWl : qg7 ih m f args h = aI CF ih m f args h:=cM ih m f args h (by rw [aD args 0,aD args 1,aD args 2]; exact (eMx ih m args h).symm) (cM ih m f args h (by rw [aD args 0,aD args 1,aD args 2]; exact (eJs ih m args h).symm) (cM ih m f args h (by rw [aD args 0,aD args 1]; exact (eRg ih m args h).symm) (cM ih m f args h (by rw [aD args 0,aD args 1,aD args 2,aD args 3]; exact (eUx ih m args h).symm) rfl)))
def qg8 : aH:=cdR (Nat.beq f 76) (s76 ih m (aP args 0) h) (cdR (Nat.beq f 81) (s81 ih m (aP args 0) (aP args 1) h) (cdR (Nat.beq f 82) (s82 ih m (aP args 0) (aP args 1) h) (cdR (Nat.beq f 83) (s83 ih m (aP args 0) (aP args 1) h) (aI CF ih m f args h))))
theorem eWa : qg8 ih m f args h = aI CF ih m f args h:=cM ih m f args h (by rw [aD args 0]; exact (eRm ih m args h).symm) (cM ih m f args h (by rw [aD args 0,aD args 1]; exact (eMc ih m args h).symm) (cM ih m f args h (by rw [aD args 0,aD args 1]; exact (eMg ih m args h).symm) (cM ih m f args h (by rw [aD args 0,aD args 1]; exact (eNz ih m args h).symm) rfl)))
def qg9 : aH:=cdR (Nat.beq f 84) (s84 ih m (aP args 0) (aP args 1) h) (cdR (Nat.beq f 85) (s85 ih m (aP args 0) h) (cdR (Nat.beq f 87) (s87 ih m (aP args 0) (aP args 1) h) (cdR (Nat.beq f 88) (s88 ih m (aP args 0) (aP args 1) (aP args 2) h) (aI CF ih m f args h))))
theorem eYh : qg9 ih m f args h = aI CF ih m f args h:=cM ih m f args h (by rw [aD args 0,aD args 1]; exact (eOp ih m args h).symm) (cM ih m f args h (by rw [aD args 0]; exact (eUv ih m args h).symm) (cM ih m f args h (by rw [aD args 0,aD args 1]; exact (eRe ih m args h).symm) (cM ih m f args h (by rw [aD args 0,aD args 1,aD args 2]; exact (eRr ih m args h).symm) rfl)))
def eOx : aH:=cdR (Nat.beq f 89) (s89 ih m (aP args 0) h) (cdR (Nat.beq f 90) (s90 ih m (aP args 0) h) (cdR (Nat.beq f 91) (s91 ih m (aP args 0) h) (cdR (Nat.beq f 93) (s93 ih m (aP args 0) h) (aI CF ih m f args h))))
theorem eRs : eOx ih m f args h = aI CF ih m f args h:=cM ih m f args h (by rw [aD args 0]; exact (eMu ih m args h).symm) (cM ih m f args h (by rw [aD args 0]; exact (eQt ih m args h).symm) (cM ih m f args h (by rw [aD args 0]; exact (eQx ih m args h).symm) (cM ih m f args h (by rw [aD args 0]; exact (eKo ih m args h).symm) rfl)))
def eNp : aH:=cdR (Nat.beq f 94) (s94 ih m (aP args 0) (aP args 1) h) (cdR (Nat.beq f 95) (s95 ih m (aP args 0) (aP args 1) h) (cdR (Nat.beq f 96) (s96 ih m (aP args 0) (aP args 1) h) (cdR (Nat.beq f 97) (s97 ih m (aP args 0) (aP args 1) (aP args 2) h) (aI CF ih m f args h))))
theorem eLr : eNp ih m f args h = aI CF ih m f args h:=cM ih m f args h (by rw [aD args 0,aD args 1]; exact (eMk ih m args h).symm) (cM ih m f args h (by rw [aD args 0,aD args 1]; exact (eNk ih m args h).symm) (cM ih m f args h (by rw [aD args 0,aD args 1]; exact (eTj ih m args h).symm) (cM ih m f args h (by rw [aD args 0,aD args 1,aD args 2]; exact (ePw ih m args h).symm) rfl)))
def eTs : aH:=cdR (Nat.beq f 101) (s101 ih m (aP args 0) (aP args 1) h) (cdR (Nat.beq f 108) (s108 ih m (aP args 0) (aP args 1) (aP args 2) h) (cdR (Nat.beq f 109) (s109 ih m (aP args 0) (aP args 1) h) (cdR (Nat.beq f 110) (s110 ih m (aP args 0) (aP args 1) h) (aI CF ih m f args h))))
theorem eQc : eTs ih m f args h = aI CF ih m f args h:=cM ih m f args h (by rw [aD args 0,aD args 1]; exact (eFn ih m args h).symm) (cM ih m f args h (by rw [aD args 0,aD args 1,aD args 2]; exact (dZr ih m args h).symm) (cM ih m f args h (by rw [aD args 0,aD args 1]; exact (eDb ih m args h).symm) (cM ih m f args h (by rw [aD args 0,aD args 1]; exact (eDe ih m args h).symm) rfl)))
def eOz : aH:=cdR (Nat.beq f 112) (s112 ih m (aP args 0) (aP args 1) h) (cdR (Nat.beq f 113) (s113 ih m (aP args 0) (aP args 1) h) (cdR (Nat.beq f 114) (s114 ih m (aP args 0) (aP args 1) (aP args 2) h) (cdR (Nat.beq f 115) (s115 ih m (aP args 0) h) (aI CF ih m f args h))))
theorem eNb : eOz ih m f args h = aI CF ih m f args h:=cM ih m f args h (by rw [aD args 0,aD args 1]; exact (eFh ih m args h).symm) (cM ih m f args h (by rw [aD args 0,aD args 1]; exact (eHf ih m args h).symm) (cM ih m f args h (by rw [aD args 0,aD args 1,aD args 2]; exact (eAl ih m args h).symm) (cM ih m f args h (by rw [aD args 0]; exact (eCd ih m args h).symm) rfl)))
def eUi : aH:=cdR (Nat.beq f 119) (s119 ih m (aP args 0) (aP args 1) h) (cdR (Nat.beq f 127) (s127 ih m (aP args 0) (aP args 1) h) (cdR (Nat.beq f 128) (s128 ih m (aP args 0) (aP args 1) h) (cdR (Nat.beq f 129) (s129 ih m (aP args 0) (aP args 1) (aP args 2) (aP args 3) h) (aI CF ih m f args h))))
theorem eJn : eUi ih m f args h = aI CF ih m f args h:=cM ih m f args h (by rw [aD args 0,aD args 1]; exact (eFt ih m args h).symm) (cM ih m f args h (by rw [aD args 0,aD args 1]; exact (eHi ih m args h).symm) (cM ih m f args h (by rw [aD args 0,aD args 1]; exact (dZb ih m args h).symm) (cM ih m f args h (by rw [aD args 0,aD args 1,aD args 2,aD args 3]; exact (dTw ih m args h).symm) rfl)))
def eSl : aH:=cdR (Nat.beq f 131) (s131 ih m (aP args 0) (aP args 1) h) (cdR (Nat.beq f 132) (s132 ih m (aP args 0) (aP args 1) (aP args 2) h) (cdR (Nat.beq f 133) (s133 ih m (aP args 0) h) (cdR (Nat.beq f 134) (s134 ih m (aP args 0) h) (aI CF ih m f args h))))
theorem eTp : eSl ih m f args h = aI CF ih m f args h:=cM ih m f args h (by rw [aD args 0,aD args 1]; exact (eCn ih m args h).symm) (cM ih m f args h (by rw [aD args 0,aD args 1,aD args 2]; exact (eEz ih m args h).symm) (cM ih m f args h (by rw [aD args 0]; exact (eAn ih m args h).symm) (cM ih m f args h (by rw [aD args 0]; exact (dXe ih m args h).symm) rfl)))
def eLy : aH:=cdR (Nat.beq f 142) (s142 ih m (aP args 0) (aP args 1) h) (cdR (Nat.beq f 144) (s144 ih m (aP args 0) (aP args 1) h) (cdR (Nat.beq f 146) (s146 ih m (aP args 0) h) (cdR (Nat.beq f 147) (s147 ih m (aP args 0) h) (aI CF ih m f args h))))
theorem ePv : eLy ih m f args h = aI CF ih m f args h:=cM ih m f args h (by rw [aD args 0,aD args 1]; exact (dYm ih m args h).symm) (cM ih m f args h (by rw [aD args 0,aD args 1]; exact (dUb ih m args h).symm) (cM ih m f args h (by rw [aD args 0]; exact (eHt ih m args h).symm) (cM ih m f args h (by rw [aD args 0]; exact (dVv ih m args h).symm) rfl)))
def eQs : aH:=cdR (Nat.beq f 149) (s149 ih m (aP args 0) (aP args 1) h) (cdR (Nat.beq f 150) (s150 ih m (aP args 0) (aP args 1) (aP args 2) h) (cdR (Nat.beq f 151) (s151 ih m (aP args 0) (aP args 1) (aP args 2) h) (cdR (Nat.beq f 152) (s152 ih m (aP args 0) (aP args 1) h) (aI CF ih m f args h))))
theorem eJk : eQs ih m f args h = aI CF ih m f args h:=cM ih m f args h (by rw [aD args 0,aD args 1]; exact (eGt ih m args h).symm) (cM ih m f args h (by rw [aD args 0,aD args 1,aD args 2]; exact (eHb ih m args h).symm) (cM ih m f args h (by rw [aD args 0,aD args 1,aD args 2]; exact (dXv ih m args h).symm) (cM ih m f args h (by rw [aD args 0,aD args 1]; exact (eGa ih m args h).symm) rfl)))
def eQp : aH:=cdR (Nat.beq f 153) (s153 ih m (aP args 0) (aP args 1) (aP args 2) (aP args 3) h) (cdR (Nat.beq f 154) (s154 ih m (aP args 0) h) (cdR (Nat.beq f 155) (s155 ih m (aP args 0) h) (cdR (Nat.beq f 156) (s156 ih m (aP args 0) h) (aI CF ih m f args h))))
theorem eTo : eQp ih m f args h = aI CF ih m f args h:=cM ih m f args h (by rw [aD args 0,aD args 1,aD args 2,aD args 3]; exact (dUe ih m args h).symm) (cM ih m f args h (by rw [aD args 0]; exact (eEt ih m args h).symm) (cM ih m f args h (by rw [aD args 0]; exact (dWz ih m args h).symm) (cM ih m f args h (by rw [aD args 0]; exact (cJj ih m args h).symm) rfl)))
def eRa : aH:=cdR (Nat.beq f 158) (s158 ih m (aP args 0) (aP args 1) h) (cdR (Nat.beq f 159) (s159 ih m (aP args 0) (aP args 1) (aP args 2) (aP args 3) h) (cdR (Nat.beq f 160) (s160 ih m (aP args 0) (aP args 1) h) (cdR (Nat.beq f 161) (s161 ih m (aP args 0) (aP args 1) h) (aI CF ih m f args h))))
theorem eLd : eRa ih m f args h = aI CF ih m f args h:=cM ih m f args h (by rw [aD args 0,aD args 1]; exact (eGf ih m args h).symm) (cM ih m f args h (by rw [aD args 0,aD args 1,aD args 2,aD args 3]; exact (eBj ih m args h).symm) (cM ih m f args h (by rw [aD args 0,aD args 1]; exact (eBe ih m args h).symm) (cM ih m f args h (by rw [aD args 0,aD args 1]; exact (eHv ih m args h).symm) rfl)))
def eIo : aH:=cdR (Nat.beq f 162) (s162 ih m (aP args 0) (aP args 1) h) (cdR (Nat.beq f 163) (s163 ih m (aP args 0) (aP args 1) h) (cdR (Nat.beq f 164) (s164 ih m (aP args 0) (aP args 1) h) (cdR (Nat.beq f 171) (s171 ih m (aP args 0) (aP args 1) h) (aI CF ih m f args h))))
theorem eKd : eIo ih m f args h = aI CF ih m f args h:=cM ih m f args h (by rw [aD args 0,aD args 1]; exact (dVb ih m args h).symm) (cM ih m f args h (by rw [aD args 0,aD args 1]; exact (eAo ih m args h).symm) (cM ih m f args h (by rw [aD args 0,aD args 1]; exact (dWp ih m args h).symm) (cM ih m f args h (by rw [aD args 0,aD args 1]; exact (dYz ih m args h).symm) rfl)))
def eSa : aH:=cdR (Nat.beq f 181) (s181 ih m (aP args 0) h) (cdR (Nat.beq f 182) (s182 ih m (aP args 0) (aP args 1) h) (cdR (Nat.beq f 183) (s183 ih m (aP args 0) (aP args 1) h) (cdR (Nat.beq f 184) (s184 ih m (aP args 0) (aP args 1) h) (aI CF ih m f args h))))
theorem eJg : eSa ih m f args h = aI CF ih m f args h:=cM ih m f args h (by rw [aD args 0]; exact (eAx ih m args h).symm) (cM ih m f args h (by rw [aD args 0,aD args 1]; exact (dYv ih m args h).symm) (cM ih m f args h (by rw [aD args 0,aD args 1]; exact (eFs ih m args h).symm) (cM ih m f args h (by rw [aD args 0,aD args 1]; exact (eCh ih m args h).symm) rfl)))
def eUr : aH:=cdR (Nat.beq f 187) (s187 ih m (aP args 0) h) (cdR (Nat.beq f 190) (s190 ih m (aP args 0) (aP args 1) h) (cdR (Nat.beq f 194) (s194 ih m (aP args 0) (aP args 1) h) (cdR (Nat.beq f 195) (s195 ih m (aP args 0) h) (aI CF ih m f args h))))
theorem eIr : eUr ih m f args h = aI CF ih m f args h:=cM ih m f args h (by rw [aD args 0]; exact (eGy ih m args h).symm) (cM ih m f args h (by rw [aD args 0,aD args 1]; exact (eGc ih m args h).symm) (cM ih m f args h (by rw [aD args 0,aD args 1]; exact (eFj ih m args h).symm) (cM ih m f args h (by rw [aD args 0]; exact (eAd ih m args h).symm) rfl)))
def eSo : aH:=cdR (Nat.beq f 208) (s208 ih m (aP args 0) (aP args 1) (aP args 2) h) (cdR (Nat.beq f 209) (s209 ih m (aP args 0) (aP args 1) h) (cdR (Nat.beq f 210) (s210 ih m (aP args 0) h) (cdR (Nat.beq f 211) (s211 ih m (aP args 0) (aP args 1) h) (aI CF ih m f args h))))
theorem ePs : eSo ih m f args h = aI CF ih m f args h:=cM ih m f args h (by rw [aD args 0,aD args 1,aD args 2]; exact (dXc ih m args h).symm) (cM ih m f args h (by rw [aD args 0,aD args 1]; exact (eHs ih m args h).symm) (cM ih m f args h (by rw [aD args 0]; exact (eCw ih m args h).symm) (cM ih m f args h (by rw [aD args 0,aD args 1]; exact (eCp ih m args h).symm) rfl)))
def eTq : aH:=cdR (Nat.beq f 212) (s212 ih m (aP args 0) (aP args 1) (aP args 2) h) (cdR (Nat.beq f 213) (s213 ih m (aP args 0) h) (cdR (Nat.beq f 214) (s214 ih m (aP args 0) (aP args 1) h) (cdR (Nat.beq f 215) (s215 ih m (aP args 0) (aP args 1) h) (aI CF ih m f args h))))
theorem eRz : eTq ih m f args h = aI CF ih m f args h:=cM ih m f args h (by rw [aD args 0,aD args 1,aD args 2]; exact (dVo ih m args h).symm) (cM ih m f args h (by rw [aD args 0]; exact (dWm ih m args h).symm) (cM ih m f args h (by rw [aD args 0,aD args 1]; exact (eEg ih m args h).symm) (cM ih m f args h (by rw [aD args 0,aD args 1]; exact (eHu ih m args h).symm) rfl)))
def eSd : aH:=cdR (Nat.beq f 216) (s216 ih m (aP args 0) h) (cdR (Nat.beq f 217) (s217 ih m (aP args 0) (aP args 1) h) (cdR (Nat.beq f 218) (s218 ih m (aP args 0) (aP args 1) h) (cdR (Nat.beq f 219) (s219 ih m (aP args 0) (aP args 1) h) (aI CF ih m f args h))))
theorem eSh : eSd ih m f args h = aI CF ih m f args h:=cM ih m f args h (by rw [aD args 0]; exact (dUu ih m args h).symm) (cM ih m f args h (by rw [aD args 0,aD args 1]; exact (dXf ih m args h).symm) (cM ih m f args h (by rw [aD args 0,aD args 1]; exact (eFx ih m args h).symm) (cM ih m f args h (by rw [aD args 0,aD args 1]; exact (eBv ih m args h).symm) rfl)))
def eTv : aH:=cdR (Nat.beq f 220) (s220 ih m (aP args 0) (aP args 1) (aP args 2) h) (cdR (Nat.beq f 221) (s221 ih m (aP args 0) (aP args 1) h) (cdR (Nat.beq f 222) (s222 ih m (aP args 0) h) (cdR (Nat.beq f 223) (s223 ih m (aP args 0) h) (aI CF ih m f args h))))
theorem eRo : eTv ih m f args h = aI CF ih m f args h:=cM ih m f args h (by rw [aD args 0,aD args 1,aD args 2]; exact (dVd ih m args h).symm) (cM ih m f args h (by rw [aD args 0,aD args 1]; exact (eHk ih m args h).symm) (cM ih m f args h (by rw [aD args 0]; exact (cKm ih m args h).symm) (cM ih m f args h (by rw [aD args 0]; exact (dYg ih m args h).symm) rfl)))
def eIc : aH:=cdR (Nat.beq f 224) (s224 ih m (aP args 0) (aP args 1) (aP args 2) (aP args 3) h) (cdR (Nat.beq f 225) (s225 ih m (aP args 0) (aP args 1) (aP args 2) h) (cdR (Nat.beq f 230) (s230 ih m (aP args 0) (aP args 1) h) (cdR (Nat.beq f 231) (s231 ih m (aP args 0) (aP args 1) (aP args 2) h) (aI CF ih m f args h))))
theorem eKm : eIc ih m f args h = aI CF ih m f args h:=cM ih m f args h (by rw [aD args 0,aD args 1,aD args 2,aD args 3]; exact (dVs ih m args h).symm) (cM ih m f args h (by rw [aD args 0,aD args 1,aD args 2]; exact (dVq ih m args h).symm) (cM ih m f args h (by rw [aD args 0,aD args 1]; exact (dXx ih m args h).symm) (cM ih m f args h (by rw [aD args 0,aD args 1,aD args 2]; exact (dXo ih m args h).symm) rfl)))
def eQv : aH:=cdR (Nat.beq f 232) (s232 ih m (aP args 0) h) (cdR (Nat.beq f 234) (s234 ih m (aP args 0) (aP args 1) (aP args 2) h) (cdR (Nat.beq f 238) (s238 ih m (aP args 0) (aP args 1) h) (cdR (Nat.beq f 243) (s243 ih m (aP args 0) h) (aI CF ih m f args h))))
theorem eTa : eQv ih m f args h = aI CF ih m f args h:=cM ih m f args h (by rw [aD args 0]; exact (eAt ih m args h).symm) (cM ih m f args h (by rw [aD args 0,aD args 1,aD args 2]; exact (dYo ih m args h).symm) (cM ih m f args h (by rw [aD args 0,aD args 1]; exact (eBz ih m args h).symm) (cM ih m f args h (by rw [aD args 0]; exact (dUp ih m args h).symm) rfl)))
def eTx : aH:=cdR (Nat.beq f 245) (s245 ih m (aP args 0) h) (cdR (Nat.beq f 246) (s246 ih m (aP args 0) h) (cdR (Nat.beq f 251) (s251 ih m (aP args 0) (aP args 1) h) (cdR (Nat.beq f 253) (s253 ih m (aP args 0) (aP args 1) h) (aI CF ih m f args h))))
theorem eLv : eTx ih m f args h = aI CF ih m f args h:=cM ih m f args h (by rw [aD args 0]; exact (eCs ih m args h).symm) (cM ih m f args h (by rw [aD args 0]; exact (dXl ih m args h).symm) (cM ih m f args h (by rw [aD args 0,aD args 1]; exact (dXs ih m args h).symm) (cM ih m f args h (by rw [aD args 0,aD args 1]; exact (bCg ih m args h).symm) rfl)))
def eKc : aH:=cdR (Nat.beq f 254) (s254 ih m (aP args 0) (aP args 1) h) (cdR (Nat.beq f 255) (s255 ih m (aP args 0) (aP args 1) (aP args 2) (aP args 3) (aP args 4) (aP args 5) (aP args 6) (aP args 7) h) (cdR (Nat.beq f 256) (s256 ih m (aP args 0) h) (cdR (Nat.beq f 257) (s257 ih m (aP args 0) h) (aI CF ih m f args h))))
theorem eJa : eKc ih m f args h = aI CF ih m f args h:=cM ih m f args h (by rw [aD args 0,aD args 1]; exact (aCw ih m args h).symm) (cM ih m f args h (by rw [aD args 0,aD args 1,aD args 2,aD args 3,aD args 4,aD args 5,aD args 6,aD args 7]; exact (dZs ih m args h).symm) (cM ih m f args h (by rw [aD args 0]; exact (dYd ih m args h).symm) (cM ih m f args h (by rw [aD args 0]; exact (eGh ih m args h).symm) rfl)))
def eJz : aH:=cdR (Nat.beq f 258) (s258 ih m (aP args 0) (aP args 1) h) (cdR (Nat.beq f 260) (s260 ih m (aP args 0) (aP args 1) (aP args 2) h) (cdR (Nat.beq f 261) (s261 ih m (aP args 0) (aP args 1) h) (cdR (Nat.beq f 272) (s272 ih m (aP args 0) (aP args 1) h) (aI CF ih m f args h))))
theorem eUw : eJz ih m f args h = aI CF ih m f args h:=cM ih m f args h (by rw [aD args 0,aD args 1]; exact (eDd ih m args h).symm) (cM ih m f args h (by rw [aD args 0,aD args 1,aD args 2]; exact (eBt ih m args h).symm) (cM ih m f args h (by rw [aD args 0,aD args 1]; exact (dUx ih m args h).symm) (cM ih m f args h (by rw [aD args 0,aD args 1]; exact (eAi ih m args h).symm) rfl)))
def eTb : aH:=cdR (Nat.beq f 273) (s273 ih m (aP args 0) (aP args 1) h) (cdR (Nat.beq f 274) (s274 ih m (aP args 0) h) (cdR (Nat.beq f 275) (s275 ih m (aP args 0) h) (cdR (Nat.beq f 277) (s277 ih m (aP args 0) h) (aI CF ih m f args h))))
theorem eRv : eTb ih m f args h = aI CF ih m f args h:=cM ih m f args h (by rw [aD args 0,aD args 1]; exact (eCf ih m args h).symm) (cM ih m f args h (by rw [aD args 0]; exact (eHq ih m args h).symm) (cM ih m f args h (by rw [aD args 0]; exact (eFv ih m args h).symm) (cM ih m f args h (by rw [aD args 0]; exact (dWe ih m args h).symm) rfl)))
def eRd : aH:=cdR (Nat.beq f 307) (s307 ih m (aP args 0) (aP args 1) (aP args 2) h) (cdR (Nat.beq f 309) (s309 ih m (aP args 0) h) (cdR (Nat.beq f 316) (s316 ih m (aP args 0) (aP args 1) h) (cdR (Nat.beq f 327) (s327 ih m (aP args 0) h) (aI CF ih m f args h))))
theorem eNj : eRd ih m f args h = aI CF ih m f args h:=cM ih m f args h (by rw [aD args 0,aD args 1,aD args 2]; exact (eAj ih m args h).symm) (cM ih m f args h (by rw [aD args 0]; exact (eCu ih m args h).symm) (cM ih m f args h (by rw [aD args 0,aD args 1]; exact (dZv ih m args h).symm) (cM ih m f args h (by rw [aD args 0]; exact (eFg ih m args h).symm) rfl)))
def eOo : aH:=cdR (Nat.beq f 354) (s354 ih m (aP args 0) h) (cdR (Nat.beq f 365) (s365 ih m (aP args 0) (aP args 1) (aP args 2) (aP args 3) (aP args 4) h) (aI CF ih m f args h))
theorem eRh : eOo ih m f args h = aI CF ih m f args h:=cM ih m f args h (by rw [aD args 0]; exact (eCi ih m args h).symm) (cM ih m f args h (by rw [aD args 0,aD args 1,aD args 2,aD args 3,aD args 4]; exact (dWa ih m args h).symm) rfl)
def qd0 : aH:=cdR (Nat.blt f 10) (qg0 ih m f args h) (qg1 ih m f args h)
theorem eYz : qd0 ih m f args h = aI CF ih m f args h:=pA ih m f args h (eZl ih m f args h) (eZi ih m f args h)
def qd1 : aH:=cdR (Nat.blt f 32) (qg2 ih m f args h) (qg3 ih m f args h)
theorem fAh : qd1 ih m f args h = aI CF ih m f args h:=pA ih m f args h (eXj ih m f args h) (eZm ih m f args h)
def qd2 : aH:=cdR (Nat.blt f 26) (qd0 ih m f args h) (qd1 ih m f args h)
theorem eWc : qd2 ih m f args h = aI CF ih m f args h:=pA ih m f args h (eYz ih m f args h) (fAh ih m f args h)
def qd3 : aH:=cdR (Nat.blt f 47) (qg4 ih m f args h) (qg5 ih m f args h)
theorem eXy : qd3 ih m f args h = aI CF ih m f args h:=pA ih m f args h (eZw ih m f args h) (fAc ih m f args h)
def qd4 : aH:=cdR (Nat.blt f 72) (qg6 ih m f args h) (qg7 ih m f args h)
theorem eXu : qd4 ih m f args h = aI CF ih m f args h:=pA ih m f args h (fAm ih m f args h) (eWl ih m f args h)
def qd5 : aH:=cdR (Nat.blt f 57) (qd3 ih m f args h) (qd4 ih m f args h)
theorem eVt : qd5 ih m f args h = aI CF ih m f args h:=pA ih m f args h (eXy ih m f args h) (eXu ih m f args h)
def qd6 : aH:=cdR (Nat.blt f 41) (qd2 ih m f args h) (qd5 ih m f args h)
theorem eYx : qd6 ih m f args h = aI CF ih m f args h:=pA ih m f args h (eWc ih m f args h) (eVt ih m f args h)
def qd7 : aH:=cdR (Nat.blt f 84) (qg8 ih m f args h) (qg9 ih m f args h)
theorem eZz : qd7 ih m f args h = aI CF ih m f args h:=pA ih m f args h (eWa ih m f args h) (eYh ih m f args h)
def qd8 : aH:=cdR (Nat.blt f 94) (eOx ih m f args h) (eNp ih m f args h)
theorem eYu : qd8 ih m f args h = aI CF ih m f args h:=pA ih m f args h (eRs ih m f args h) (eLr ih m f args h)
def qd9 : aH:=cdR (Nat.blt f 89) (qd7 ih m f args h) (qd8 ih m f args h)
theorem fAb : qd9 ih m f args h = aI CF ih m f args h:=pA ih m f args h (eZz ih m f args h) (eYu ih m f args h)
def eTi : aH:=cdR (Nat.blt f 112) (eTs ih m f args h) (eOz ih m f args h)
theorem eKk : eTi ih m f args h = aI CF ih m f args h:=pA ih m f args h (eQc ih m f args h) (eNb ih m f args h)
def eMe : aH:=cdR (Nat.blt f 142) (eSl ih m f args h) (eLy ih m f args h)
theorem eOb : eMe ih m f args h = aI CF ih m f args h:=pA ih m f args h (eTp ih m f args h) (ePv ih m f args h)
def eMr : aH:=cdR (Nat.blt f 131) (eUi ih m f args h) (eMe ih m f args h)
theorem eLx : eMr ih m f args h = aI CF ih m f args h:=pA ih m f args h (eJn ih m f args h) (eOb ih m f args h)
def eOc : aH:=cdR (Nat.blt f 119) (eTi ih m f args h) (eMr ih m f args h)
theorem eNn : eOc ih m f args h = aI CF ih m f args h:=pA ih m f args h (eKk ih m f args h) (eLx ih m f args h)
def eVb : aH:=cdR (Nat.blt f 101) (qd9 ih m f args h) (eOc ih m f args h)
theorem eQn : eVb ih m f args h = aI CF ih m f args h:=pA ih m f args h (fAb ih m f args h) (eNn ih m f args h)
def eKe : aH:=cdR (Nat.blt f 76) (qd6 ih m f args h) (eVb ih m f args h)
theorem eTh : eKe ih m f args h = aI CF ih m f args h:=pA ih m f args h (eYx ih m f args h) (eQn ih m f args h)
def eNv : aH:=cdR (Nat.blt f 153) (eQs ih m f args h) (eQp ih m f args h)
theorem eSv : eNv ih m f args h = aI CF ih m f args h:=pA ih m f args h (eJk ih m f args h) (eTo ih m f args h)
def eId : aH:=cdR (Nat.blt f 162) (eRa ih m f args h) (eIo ih m f args h)
theorem eUe : eId ih m f args h = aI CF ih m f args h:=pA ih m f args h (eLd ih m f args h) (eKd ih m f args h)
def eIn : aH:=cdR (Nat.blt f 158) (eNv ih m f args h) (eId ih m f args h)
theorem eLs : eIn ih m f args h = aI CF ih m f args h:=pA ih m f args h (eSv ih m f args h) (eUe ih m f args h)
def eUg : aH:=cdR (Nat.blt f 187) (eSa ih m f args h) (eUr ih m f args h)
theorem eSc : eUg ih m f args h = aI CF ih m f args h:=pA ih m f args h (eJg ih m f args h) (eIr ih m f args h)
def eNi : aH:=cdR (Nat.blt f 216) (eTq ih m f args h) (eSd ih m f args h)
theorem eQo : eNi ih m f args h = aI CF ih m f args h:=pA ih m f args h (eRz ih m f args h) (eSh ih m f args h)
def eQy : aH:=cdR (Nat.blt f 212) (eSo ih m f args h) (eNi ih m f args h)
theorem eKv : eQy ih m f args h = aI CF ih m f args h:=pA ih m f args h (ePs ih m f args h) (eQo ih m f args h)
def eUt : aH:=cdR (Nat.blt f 208) (eUg ih m f args h) (eQy ih m f args h)
theorem eLt : eUt ih m f args h = aI CF ih m f args h:=pA ih m f args h (eSc ih m f args h) (eKv ih m f args h)
def eOm : aH:=cdR (Nat.blt f 181) (eIn ih m f args h) (eUt ih m f args h)
theorem eNa : eOm ih m f args h = aI CF ih m f args h:=pA ih m f args h (eLs ih m f args h) (eLt ih m f args h)
def eIs : aH:=cdR (Nat.blt f 224) (eTv ih m f args h) (eIc ih m f args h)
theorem eQz : eIs ih m f args h = aI CF ih m f args h:=pA ih m f args h (eRo ih m f args h) (eKm ih m f args h)
def eNo : aH:=cdR (Nat.blt f 245) (eQv ih m f args h) (eTx ih m f args h)
theorem eJw : eNo ih m f args h = aI CF ih m f args h:=pA ih m f args h (eTa ih m f args h) (eLv ih m f args h)
def eQh : aH:=cdR (Nat.blt f 232) (eIs ih m f args h) (eNo ih m f args h)
theorem eUm : eQh ih m f args h = aI CF ih m f args h:=pA ih m f args h (eQz ih m f args h) (eJw ih m f args h)
def eQe : aH:=cdR (Nat.blt f 258) (eKc ih m f args h) (eJz ih m f args h)
theorem eJt : eQe ih m f args h = aI CF ih m f args h:=pA ih m f args h (eJa ih m f args h) (eUw ih m f args h)
def eTc : aH:=cdR (Nat.blt f 354) (eRd ih m f args h) (eOo ih m f args h)
theorem eIp : eTc ih m f args h = aI CF ih m f args h:=pA ih m f args h (eNj ih m f args h) (eRh ih m f args h)
def eLm : aH:=cdR (Nat.blt f 307) (eTb ih m f args h) (eTc ih m f args h)
theorem ePy : eLm ih m f args h = aI CF ih m f args h:=pA ih m f args h (eRv ih m f args h) (eIp ih m f args h)
def ePq : aH:=cdR (Nat.blt f 273) (eQe ih m f args h) (eLm ih m f args h)
theorem eKg : ePq ih m f args h = aI CF ih m f args h:=pA ih m f args h (eJt ih m f args h) (ePy ih m f args h)
def eOl : aH:=cdR (Nat.blt f 254) (eQh ih m f args h) (ePq ih m f args h)
theorem ePl : eOl ih m f args h = aI CF ih m f args h:=pA ih m f args h (eUm ih m f args h) (eKg ih m f args h)
def eKy : aH:=cdR (Nat.blt f 220) (eOm ih m f args h) (eOl ih m f args h)
theorem eIw : eKy ih m f args h = aI CF ih m f args h:=pA ih m f args h (eNa ih m f args h) (ePl ih m f args h)
def eKx : aH:=cdR (Nat.blt f 149) (eKe ih m f args h) (eKy ih m f args h)
theorem eRf : eKx ih m f args h = aI CF ih m f args h:=pA ih m f args h (eTh ih m f args h) (eIw ih m f args h)
end
def shB (ih : RT) (m : Nat) (f : FuncId) (args : List DV) (h : Hp) : aH:=eKx ih m f args h
theorem cAe (ih : RT) (m : Nat) (f : FuncId) (args : List DV) (h : Hp) : shB ih m f args h = aI CF ih m f args h:=eRf ih m f args h
def jX (n : Nat) : FuncId → List DV → Hp → aH :=
 Nat.rec (motive:=fun _=>FuncId → List DV → Hp → aH) (fun _ _ _=>none) (fun m ih=>fun f args h=>bif rgB f then rgS ih m f args h else shB ih m f args h) n
theorem aDi (f : FuncId) (hf : rgB f = false) (n : Nat) (args : List DV) (h : Hp) : jX (n + 1) f args h = aI CF (jX n) n f args h:=by
 show (bif rgB f then rgS (jX n) n f args h else shB (jX n) n f args h) = _
 rw [hf,cond_false,cAe]
theorem zG : ∀ n,jX n = fU CF n
 | 0=>rfl
 | n + 1=>by
  funext f args h
  show (bif rgB f then rgS (jX n) n f args h else shB (jX n) n f args h) = (bif rgB f then jM CF (fU CF n) n itm f else aI CF (fU CF n) n f) args h
  rw [← zG n]
  cases rgB f with
  | true=>exact dXu _ _ _ _ _
  | false=>exact cAe _ _ _ _ _
end Go.Dd

namespace Go.Dd
noncomputable section
def mkW (l : List Nat) : Nat → WT → WT:=List.rec (motive:=fun _=>Nat → WT → WT) (fun _ t=>t) (fun x _ ih i t=>ih (Nat.add i 1) (t.set i (.ofNat x))) l
def kM (l : List (Nat × Nat)) : WT → WT:=List.rec (motive:=fun _=>WT → WT) (fun t=>t) (fun x _ ih t=>ih (t.set x.1 (.ofNat x.2))) l
def mkP (l : List Nat) : WT → WT:=List.rec (motive:=fun _=>WT → WT) (fun t=>t) (fun x _ ih t=>ih (t.set x (.ofNat 1))) l
def gM (l : List Nat) : Nat → List Nat:=List.rec (motive:=fun _=>Nat → List Nat) (fun _=>[]) (fun x _ ih n=>bif Nat.beq n 0 then [] else x :: ih (Nat.sub n 1)) l
def eXl (f : Nat) : Nat → Pos:=Nat.rec (motive:=fun _=>Nat → Pos) (fun _=>.h) (fun _ ih n=>bif Nat.beq n 1 then .h else bif Nat.beq (Nat.mod n 2) 0 then .o (ih (Nat.div n 2)) else .i (ih (Nat.div n 2))) f
def aL (n : Nat) : Pos:=eXl 24 (Nat.add 1023 n)
def eR : List Nat:=[79,98,106,101,99,116]
def aHg : List Nat:=[67,108,97,115,115]
def zD : List Nat:=[84,114,117,101]
def pY : List Nat:=[70,97,108,115,101]
def dU : List Nat:=[73,110,116,101,103,101,114]
def aQi : List Nat:=[65,114,114,97,121]
def rH : List Nat:=[83,116,114,105,110,103]
def dNc : List Nat:=[83,121,109,98,111,108]
def tF : List Nat:=[66,108,111,99,107]
def jN : List Nat:=[67,111,110,116,101,120,116]
def aVr : List Nat:=[77,101,115,115,97,103,101]
def eMh : List (List Nat × List Nat):=[
 (eR,[61,32,111,116,104,101,114,32,94,115,101,108,102,32,61,61,32,111,116,104,101,114]),
 (eR,[61,61,32,111,116,104,101,114,32,60,112,114,105,109,105,116,105,118,101,58,32,49,48,62]),
 (eR,[99,108,97,115,115,32,60,112,114,105,109,105,116,105,118,101,58,32,49,49,62]),
 (eR,[105,115,78,105,108,32,94,115,101,108,102,32,61,61,32,110,105,108]),
 (eR,[110,111,116,78,105,108,32,94,40,115,101,108,102,32,61,61,32,110,105,108,41,32,61,61,32,102,97,108,115,101]),
 (eR,[126,61,32,111,116,104,101,114,32,94,40,115,101,108,102,32,61,32,111,116,104,101,114,41,32,61,61,32,102,97,108,115,101]),
 (eR,[121,111,117,114,115,101,108,102,32,94,115,101,108,102]),
 (eR,[105,110,115,116,86,97,114,65,116,58,32,105,32,60,112,114,105,109,105,116,105,118,101,58,32,53,48,62]),
 (eR,[105,110,115,116,86,97,114,65,116,58,32,105,32,112,117,116,58,32,120,32,60,112,114,105,109,105,116,105,118,101,58,32,53,49,62]),
 (eR,[98,101,99,111,109,101,58,32,111,116,104,101,114,32,60,112,114,105,109,105,116,105,118,101,58,32,54,48,62]),
 (eR,[112,101,114,102,111,114,109,58,32,115,32,60,112,114,105,109,105,116,105,118,101,58,32,51,49,62]),
 (eR,[112,101,114,102,111,114,109,58,32,115,32,119,105,116,104,58,32,97,32,60,112,114,105,109,105,116,105,118,101,58,32,51,50,62]),
 (eR,[115,104,111,119,32,60,112,114,105,109,105,116,105,118,101,58,32,55,48,62]),
 (eR,[101,114,114,111,114,58,32,115,32,60,112,114,105,109,105,116,105,118,101,58,32,55,49,62]),
 (eR,[100,111,101,115,78,111,116,85,110,100,101,114,115,116,97,110,100,58,32,109,32,60,112,114,105,109,105,116,105,118,101,58,32,55,50,62]),
 (eR,[109,117,115,116,66,101,66,111,111,108,101,97,110,32,60,112,114,105,109,105,116,105,118,101,58,32,55,51,62]),
 (aHg,[110,101,119,32,60,112,114,105,109,105,116,105,118,101,58,32,50,51,62]),
 (aHg,[110,101,119,58,32,110,32,60,112,114,105,109,105,116,105,118,101,58,32,50,52,62]),
 (aHg,[110,97,109,101,32,60,112,114,105,109,105,116,105,118,101,58,32,52,48,62]),
 (aHg,[115,117,112,101,114,99,108,97,115,115,32,60,112,114,105,109,105,116,105,118,101,58,32,52,49,62]),
 (zD,[105,102,84,114,117,101,58,32,98,32,94,98,32,118,97,108,117,101]),
 (zD,[105,102,70,97,108,115,101,58,32,98,32,94,110,105,108]),
 (zD,[105,102,84,114,117,101,58,32,97,32,105,102,70,97,108,115,101,58,32,98,32,94,97,32,118,97,108,117,101]),
 (zD,[105,102,70,97,108,115,101,58,32,97,32,105,102,84,114,117,101,58,32,98,32,94,98,32,118,97,108,117,101]),
 (zD,[97,110,100,58,32,98,32,94,98,32,118,97,108,117,101]),
 (zD,[111,114,58,32,98,32,94,115,101,108,102]),
 (zD,[110,111,116,32,94,102,97,108,115,101]),
 (pY,[105,102,84,114,117,101,58,32,98,32,94,110,105,108]),
 (pY,[105,102,70,97,108,115,101,58,32,98,32,94,98,32,118,97,108,117,101]),
 (pY,[105,102,84,114,117,101,58,32,97,32,105,102,70,97,108,115,101,58,32,98,32,94,98,32,118,97,108,117,101]),
 (pY,[105,102,70,97,108,115,101,58,32,97,32,105,102,84,114,117,101,58,32,98,32,94,97,32,118,97,108,117,101]),
 (pY,[97,110,100,58,32,98,32,94,115,101,108,102]),
 (pY,[111,114,58,32,98,32,94,98,32,118,97,108,117,101]),
 (pY,[110,111,116,32,94,116,114,117,101]),
 (dU,[43,32,110,32,60,112,114,105,109,105,116,105,118,101,58,32,49,62,32,94,115,101,108,102,32,101,114,114,111,114,58,32,35,110,117,109,98,101,114]),
 (dU,[45,32,110,32,60,112,114,105,109,105,116,105,118,101,58,32,50,62,32,94,115,101,108,102,32,101,114,114,111,114,58,32,35,110,117,109,98,101,114]),
 (dU,[42,32,110,32,60,112,114,105,109,105,116,105,118,101,58,32,51,62,32,94,115,101,108,102,32,101,114,114,111,114,58,32,35,110,117,109,98,101,114]),
 (dU,[47,47,32,110,32,60,112,114,105,109,105,116,105,118,101,58,32,52,62,32,94,115,101,108,102,32,101,114,114,111,114,58,32,35,110,117,109,98,101,114]),
 (dU,[37,32,110,32,60,112,114,105,109,105,116,105,118,101,58,32,53,62,32,94,115,101,108,102,32,101,114,114,111,114,58,32,35,110,117,109,98,101,114]),
 (dU,[60,32,110,32,60,112,114,105,109,105,116,105,118,101,58,32,54,62,32,94,115,101,108,102,32,101,114,114,111,114,58,32,35,110,117,109,98,101,114]),
 (dU,[61,32,110,32,60,112,114,105,109,105,116,105,118,101,58,32,55,62,32,94,102,97,108,115,101]),
 (dU,[62,32,110,32,94,110,32,60,32,115,101,108,102]),
 (dU,[60,61,32,110,32,94,40,110,32,60,32,115,101,108,102,41,32,110,111,116]),
 (dU,[62,61,32,110,32,94,40,115,101,108,102,32,60,32,110,41,32,110,111,116]),
 (dU,[110,101,103,97,116,101,100,32,94,48,32,45,32,115,101,108,102]),
 (dU,[97,98,115,32,115,101,108,102,32,60,32,48,32,105,102,84,114,117,101,58,32,91,94,115,101,108,102,32,110,101,103,97,116,101,100,93]),
 (dU,[109,97,120,58,32,110,32,115,101,108,102,32,60,32,110,32,105,102,84,114,117,101,58,32,91,94,110,93]),
 (dU,[116,105,109,101,115,82,101,112,101,97,116,58,32,98,32,124,32,105,32,124,32,105,32,58,61,32,48,46,32,91,105,32,60,32,115,101,108,102,93,32,119,104,105,108,101,84,114,117,101,58,32,91,98,32,118,97,108,117,101,46,32,105,32,58,61,32,105,32,43,32,49,93]),
 (dU,[116,111,58,32,110,32,100,111,58,32,98,32,124,32,105,32,124,32,105,32,58,61,32,115,101,108,102,46,32,91,105,32,60,61,32,110,93,32,119,104,105,108,101,84,114,117,101,58,32,91,98,32,118,97,108,117,101,58,32,105,46,32,105,32,58,61,32,105,32,43,32,49,93]),
 (aQi,[97,116,58,32,105,32,60,112,114,105,109,105,116,105,118,101,58,32,50,48,62,32,94,115,101,108,102,32,101,114,114,111,114,58,32,35,105,110,100,101,120]),
 (aQi,[97,116,58,32,105,32,112,117,116,58,32,120,32,60,112,114,105,109,105,116,105,118,101,58,32,50,49,62,32,94,115,101,108,102,32,101,114,114,111,114,58,32,35,105,110,100,101,120]),
 (aQi,[115,105,122,101,32,60,112,114,105,109,105,116,105,118,101,58,32,50,50,62]),
 (aQi,[100,111,58,32,98,32,49,32,116,111,58,32,115,101,108,102,32,115,105,122,101,32,100,111,58,32,91,58,105,32,124,32,98,32,118,97,108,117,101,58,32,40,115,101,108,102,32,97,116,58,32,105,41,93]),
 (rH,[97,116,58,32,105,32,60,112,114,105,109,105,116,105,118,101,58,32,50,48,62,32,94,115,101,108,102,32,101,114,114,111,114,58,32,35,105,110,100,101,120]),
 (rH,[97,116,58,32,105,32,112,117,116,58,32,120,32,60,112,114,105,109,105,116,105,118,101,58,32,50,49,62,32,94,115,101,108,102,32,101,114,114,111,114,58,32,35,105,110,100,101,120]),
 (rH,[115,105,122,101,32,60,112,114,105,109,105,116,105,118,101,58,32,50,50,62]),
 (rH,[44,32,115,32,60,112,114,105,109,105,116,105,118,101,58,32,50,53,62,32,94,115,101,108,102,32,101,114,114,111,114,58,32,35,115,116,114,105,110,103]),
 (rH,[61,32,115,32,60,112,114,105,109,105,116,105,118,101,58,32,50,54,62]),
 (dNc,[61,32,115,32,94,115,101,108,102,32,61,61,32,115]),
 (tF,[118,97,108,117,101,32,60,112,114,105,109,105,116,105,118,101,58,32,51,51,62,32,94,115,101,108,102,32,101,114,114,111,114,58,32,35,97,114,103,117,109,101,110,116,115]),
 (tF,[118,97,108,117,101,58,32,97,32,60,112,114,105,109,105,116,105,118,101,58,32,51,52,62,32,94,115,101,108,102,32,101,114,114,111,114,58,32,35,97,114,103,117,109,101,110,116,115]),
 (tF,[118,97,108,117,101,58,32,97,32,118,97,108,117,101,58,32,98,32,60,112,114,105,109,105,116,105,118,101,58,32,51,53,62,32,94,115,101,108,102,32,101,114,114,111,114,58,32,35,97,114,103,117,109,101,110,116,115]),
 (tF,[119,104,105,108,101,84,114,117,101,58,32,98,32,91,115,101,108,102,32,118,97,108,117,101,93,32,119,104,105,108,101,84,114,117,101,58,32,91,98,32,118,97,108,117,101,93]),
 (tF,[101,110,115,117,114,101,58,32,98,32,60,112,114,105,109,105,116,105,118,101,58,32,57,48,62,32,124,32,118,32,100,111,110,101,32,124,32,118,32,58,61,32,115,101,108,102,32,118,97,108,117,101,46,32,100,111,110,101,32,58,61,32,116,114,117,101,46,32,98,32,118,97,108,117,101,46,32,94,118]),
 (tF,[105,102,67,117,114,116,97,105,108,101,100,58,32,98,32,60,112,114,105,109,105,116,105,118,101,58,32,57,49,62,32,124,32,118,32,100,111,110,101,32,124,32,118,32,58,61,32,115,101,108,102,32,118,97,108,117,101,46,32,100,111,110,101,32,58,61,32,116,114,117,101,46,32,94,118]),
 (jN,[115,101,110,100,101,114,32,60,112,114,105,109,105,116,105,118,101,58,32,56,48,62]),
 (jN,[114,101,99,101,105,118,101,114,32,60,112,114,105,109,105,116,105,118,101,58,32,56,49,62]),
 (jN,[115,101,108,101,99,116,111,114,32,60,112,114,105,109,105,116,105,118,101,58,32,56,50,62]),
 (jN,[112,99,32,60,112,114,105,109,105,116,105,118,101,58,32,56,51,62]),
 (jN,[116,101,109,112,65,116,58,32,105,32,60,112,114,105,109,105,116,105,118,101,58,32,56,52,62,32,94,115,101,108,102,32,101,114,114,111,114,58,32,35,105,110,100,101,120]),
 (jN,[116,101,109,112,65,116,58,32,105,32,112,117,116,58,32,120,32,60,112,114,105,109,105,116,105,118,101,58,32,56,53,62,32,94,115,101,108,102,32,101,114,114,111,114,58,32,35,105,110,100,101,120]),
 (jN,[114,101,116,117,114,110,58,32,120,32,60,112,114,105,109,105,116,105,118,101,58,32,56,54,62,32,94,115,101,108,102,32,99,97,110,110,111,116,82,101,116,117,114,110,58,32,120]),
 (jN,[99,97,110,110,111,116,82,101,116,117,114,110,58,32,120,32,60,112,114,105,109,105,116,105,118,101,58,32,55,52,62]),
 (aVr,[115,101,108,101,99,116,111,114,32,94,115,101,108,101,99,116,111,114]),
 (aVr,[97,114,103,117,109,101,110,116,115,32,94,97,114,103,117,109,101,110,116,115])]
def eYp (l : List (List Nat × List Nat)) : Nat → List DV:=List.rec (motive:=fun _=>Nat → List DV) (fun _=>[]) (fun _ _ ih p=>.l (aL p) 0 2 2 :: ih (Nat.add p 1)) l
def lB (l : List (List Nat × Nat)) : List (DV × DV):=List.rec (motive:=fun _=>List (DV × DV)) [] (fun x _ ih=>(.s x.1,.i .i64 (.ofNat x.2)) :: ih) l
def eYq (l : List Nat) : List DV:=List.rec (motive:=fun _=>List DV) [] (fun x _ ih=>.i .i64 (.ofNat x) :: ih) l
def wsF : List Nat:=[0,0,0,24,24,1,294,0,1,322,2670,1,24,24,2,338,6,1,364,3024,7,24,24,3,380,6,1,426,0,7,24,24,4,442,6,1,472,0,7,24,24,5,488,60,1,512,3738,7,24,24,6,528,60,1,554,4204,7,24,24,7,570,6,1,600,6046,7,24,24,8,616,114,1,656,0,7,24,24,9,672,114,1,712,0,7,24,24,10,728,6,1,754,6538,3,24,24,11,770,6,1,798,6942,5,24,24,12,814,186,1,842,7018,5,24,24,13,858,6,1,884,7746,7,24,24,14,900,6,1,930,8508,7,24,24,15,946,6,1,974,0,7,24,24,16,990,6,5,1086,8632,1,26,204,17,79,98,106,101,99,116,8,168,18,294,0,0,168,19,8,168,20,6,0,22,204,21,67,108,97,115,115,8,168,22,338,312,0,168,23,8,168,24,24,328,62,204,25,85,110,100,101,102,105,110,101,100,79,98,106,101,99,116,8,168,26,380,354,0,168,27,8,168,28,42,370,30,204,29,66,111,111,108,101,97,110,8,168,30,442,416,0,168,31,8,168,32,60,432,18,204,33,84,114,117,101,8,168,34,488,462,0,168,35,8,168,36,78,478,22,204,37,70,97,108,115,101,8,168,38,528,502,0,168,39,8,168,40,96,518,30,204,41,73,110,116,101,103,101,114,8,168,42,570,544,0,168,43,8,168,44,114,560,50,204,45,83,109,97,108,108,73,110,116,101,103,101,114,8,168,46,616,590,0,168,47,8,168,48,132,606,50,204,49,76,97,114,103,101,73,110,116,101,103,101,114,8,168,50,672,646,0,168,51,8,168,52,150,662,22,204,53,65,114,114,97,121,8,168,54,728,702,0,168,55,8,168,56,168,718,26,204,57,83,116,114,105,110,103,8,168,58,770,744,0,168,59,8,168,60,186,760,26,204,61,83,121,109,98,111,108,8,168,62,814,788,0,168,63,8,168,64,204,804,22,204,65,66,108,111,99,107,8,168,66,858,832,0,168,67,8,168,68,222,848,30,204,69,67,111,110,116,101,120,116,8,168,70,900,874,0,168,71,8,168,72,240,890,26,204,73,77,101,116,104,111,100,8,168,74,946,920,0,168,75,8,168,76,258,936,30,204,77,77,101,115,115,97,103,101,8,168,78,990,964,34,204,79,115,101,108,101,99,116,111,114,8,168,80,1020,1010,38,204,81,97,114,103,117,109,101,110,116,115,8,168,82,1052,1042,8,168,83,1020,1052,8,168,84,276,980,6,204,85,61,8,168,86,1106,1076,10,204,87,61,61,8,168,88,1124,1114,4,168,89,1124,50,186,90,1,0,0,7,0,0,14,0,1,20,0,0,4,168,91,1152,28,258,92,1106,3,3,1,1144,1182,6,8,168,93,1190,0,0,168,94,26,186,95,1,0,0,20,0,0,4,168,96,1226,28,258,97,1124,3,3,21,1220,1244,6,8,168,98,1252,1210,22,204,99,99,108,97,115,115,8,168,100,1282,1134,0,168,101,26,186,102,1,0,0,20,0,0,4,168,103,1314,28,258,104,1282,1,1,23,1308,1332,6,8,168,105,1340,1272,22,204,106,105,115,78,105,108,8,168,107,1370,1298,4,168,108,1124,50,186,109,1,0,0,2,0,0,14,0,1,20,0,0,4,168,110,1404,28,258,111,1370,1,1,1,1396,1434,6,8,168,112,1442,1360,26,204,113,110,111,116,78,105,108,8,168,114,1472,1386,4,168,115,1124,74,186,116,1,0,0,2,0,0,14,0,1,4,0,0,14,0,1,20,0,0,4,168,117,1508,28,258,118,1472,1,1,1,1500,1550,6,8,168,119,1558,1462,10,204,120,126,61,8,168,121,1588,1490,8,168,122,1106,1124,74,186,123,1,0,0,7,0,0,14,0,1,4,0,0,14,1,1,20,0,0,4,168,124,1618,28,258,125,1588,3,3,1,1608,1660,6,8,168,126,1668,1578,34,204,127,121,111,117,114,115,101,108,102,8,168,128,1698,1598,0,168,129,26,186,130,1,0,0,20,0,0,4,168,131,1736,28,258,132,1698,1,1,1,1730,1754,6,8,168,133,1762,1688,42,204,134,105,110,115,116,86,97,114,65,116,58,8,168,135,1792,1720,0,168,136,26,186,137,1,0,0,20,0,0,4,168,138,1834,28,258,139,1792,3,3,101,1828,1852,6,8,168,140,1860,1782,58,204,141,105,110,115,116,86,97,114,65,116,58,112,117,116,58,8,168,142,1890,1818,0,168,143,26,186,144,1,0,0,20,0,0,4,168,145,1940,28,258,146,1890,5,5,103,1934,1958,6,8,168,147,1966,1880,30,204,148,98,101,99,111,109,101,58,8,168,149,1996,1924,0,168,150,26,186,151,1,0,0,20,0,0,4,168,152,2032,28,258,153,1996,3,3,121,2026,2050,6,8,168,154,2058,1986,34,204,155,112,101,114,102,111,114,109,58,8,168,156,2088,2016,0,168,157,26,186,158,1,0,0,20,0,0,4,168,159,2126,28,258,160,2088,3,3,63,2120,2144,6,8,168,161,2152,2078,54,204,162,112,101,114,102,111,114,109,58,119,105,116,104,58,8,168,163,2182,2110,0,168,164,26,186,165,1,0,0,20,0,0,4,168,166,2230,28,258,167,2182,5,5,65,2224,2248,6,8,168,168,2256,2172,18,204,169,115,104,111,119,8,168,170,2286,2214,0,168,171,26,186,172,1,0,0,20,0,0,4,168,173,2316,28,258,174,2286,1,1,141,2310,2334,6,8,168,175,2342,2276,26,204,176,101,114,114,111,114,58,8,168,177,2372,2300,0,168,178,26,186,179,1,0,0,20,0,0,4,168,180,2406,28,258,181,2372,3,3,143,2400,2424,6,8,168,182,2432,2362,74,204,183,100,111,101,115,78,111,116,85,110,100,101,114,115,116,97,110,100,58,8,168,184,2462,2390,0,168,185,26,186,186,1,0,0,20,0,0,4,168,187,2520,28,258,188,2462,3,3,145,2514,2538,6,8,168,189,2546,2452,54,204,190,109,117,115,116,66,101,66,111,111,108,101,97,110,8,168,191,2576,2504,0,168,192,26,186,193,1,0,0,20,0,0,4,168,194,2624,28,258,195,2576,1,1,147,2618,2642,6,8,168,196,2650,2566,14,204,197,110,101,119,8,168,198,2680,2608,0,168,199,26,186,200,1,0,0,20,0,0,4,168,201,2708,28,258,202,2680,1,1,47,2702,2726,24,8,168,203,2734,0,18,204,204,110,101,119,58,8,168,205,2764,2692,0,168,206,26,186,207,1,0,0,20,0,0,4,168,208,2794,28,258,209,2764,3,3,49,2788,2812,24,8,168,210,2820,2754,18,204,211,110,97,109,101,8,168,212,2850,2778,0,168,213,26,186,214,1,0,0,20,0,0,4,168,215,2880,28,258,216,2850,1,1,81,2874,2898,24,8,168,217,2906,2840,42,204,218,115,117,112,101,114,99,108,97,115,115,8,168,219,2936,2864,0,168,220,26,186,221,1,0,0,20,0,0,4,168,222,2978,28,258,223,2936,1,1,83,2972,2996,24,8,168,224,3004,2926,30,204,225,105,102,84,114,117,101,58,8,168,226,3034,2962,22,204,227,118,97,108,117,101,8,168,228,3064,3054,4,168,229,3064,38,186,230,7,0,0,14,0,0,20,0,0,4,168,231,3098,28,258,232,3034,3,3,1,3090,3122,78,8,168,233,3130,0,34,204,234,105,102,70,97,108,115,101,58,8,168,235,3160,3080,0,168,236,26,186,237,2,0,0,20,0,0,4,168,238,3198,28,258,239,3160,3,3,1,3192,3216,78,8,168,240,3224,3150,62,204,241,105,102,84,114,117,101,58,105,102,70,97,108,115,101,58,8,168,242,3254,3182,4,168,243,3064,38,186,244,7,0,0,14,0,0,20,0,0,4,168,245,3308,28,258,246,3254,5,5,1,3300,3332,78,8,168,247,3340,3244,62,204,248,105,102,70,97,108,115,101,58,105,102,84,114,117,101,58,8,168,249,3370,3290,4,168,250,3064,38,186,251,7,1,0,14,0,0,20,0,0,4,168,252,3424,28,258,253,3370,5,5,1,3416,3448,78,8,168,254,3456,3360,18,204,255,97,110,100,58,8,168,256,3486,3406,4,168,257,3064,38,186,258,7,0,0,14,0,0,20,0,0,4,168,259,3518,28,258,260,3486,3,3,1,3510,3542,78,8,168,261,3550,3476,14,204,262,111,114,58,8,168,263,3580,3500,0,168,264,26,186,265,1,0,0,20,0,0,4,168,266,3608,28,258,267,3580,3,3,1,3602,3626,78,8,168,268,3634,3570,14,204,269,110,111,116,8,168,270,3664,3592,0,168,271,26,186,272,4,0,0,20,0,0,4,168,273,3692,28,258,274,3664,1,1,1,3686,3710,78,8,168,275,3718,3654,0,168,276,26,186,277,2,0,0,20,0,0,4,168,278,3754,28,258,279,3034,3,3,1,3748,3772,96,8,168,280,3780,0,4,168,281,3064,38,186,282,7,0,0,14,0,0,20,0,0,4,168,283,3818,28,258,284,3160,3,3,1,3810,3842,96,8,168,285,3850,3800,4,168,286,3064,38,186,287,7,1,0,14,0,0,20,0,0,4,168,288,3888,28,258,289,3254,5,5,1,3880,3912,96,8,168,290,3920,3870,4,168,291,3064,38,186,292,7,0,0,14,0,0,20,0,0,4,168,293,3958,28,258,294,3370,5,5,1,3950,3982,96,8,168,295,3990,3940,0,168,296,26,186,297,1,0,0,20,0,0,4,168,298,4026,28,258,299,3486,3,3,1,4020,4044,96,8,168,300,4052,4010,4,168,301,3064,38,186,302,7,0,0,14,0,0,20,0,0,4,168,303,4090,28,258,304,3580,3,3,1,4082,4114,96,8,168,305,4122,4072,0,168,306,26,186,307,3,0,0,20,0,0,4,168,308,4158,28,258,309,3664,1,1,1,4152,4176,96,8,168,310,4184,4142,6,204,311,43,8,168,312,4214,3676,26,204,313,110,117,109,98,101,114,8,168,314,4232,4222,8,168,315,4232,2372,50,186,316,1,0,0,6,0,0,14,1,1,20,0,0,4,168,317,4270,28,258,318,4214,3,3,3,4260,4300,114,8,168,319,4308,0,6,204,320,45,8,168,321,4338,4250,8,168,322,4232,2372,50,186,323,1,0,0,6,0,0,14,1,1,20,0,0,4,168,324,4366,28,258,325,4338,3,3,5,4356,4396,114,8,168,326,4404,4328,6,204,327,42,8,168,328,4434,4346,8,168,329,4232,2372,50,186,330,1,0,0,6,0,0,14,1,1,20,0,0,4,168,331,4462,28,258,332,4434,3,3,7,4452,4492,114,8,168,333,4500,4424,10,204,334,47,47,8,168,335,4530,4442,8,168,336,4232,2372,50,186,337,1,0,0,6,0,0,14,1,1,20,0,0,4,168,338,4560,28,258,339,4530,3,3,9,4550,4590,114,8,168,340,4598,4520,6,204,341,37,8,168,342,4628,4540,8,168,343,4232,2372,50,186,344,1,0,0,6,0,0,14,1,1,20,0,0,4,168,345,4656,28,258,346,4628,3,3,11,4646,4686,114,8,168,347,4694,4618,6,204,348,60,8,168,349,4724,4636,8,168,350,4232,2372,50,186,351,1,0,0,6,0,0,14,1,1,20,0,0,4,168,352,4752,28,258,353,4724,3,3,13,4742,4782,114,8,168,354,4790,4714,0,168,355,26,186,356,4,0,0,20,0,0,4,168,357,4826,28,258,358,1106,3,3,15,4820,4844,114,8,168,359,4852,4810,6,204,360,62,8,168,361,4882,4732,4,168,362,4724,50,186,363,7,0,0,1,0,0,14,0,1,20,0,0,4,168,364,4908,28,258,365,4882,3,3,1,4900,4938,114,8,168,366,4946,4872,10,204,367,60,61,8,168,368,4976,4890,8,168,369,4724,3664,62,186,370,7,0,0,1,0,0,14,0,1,14,1,0,20,0,0,4,168,371,5006,28,258,372,4976,3,3,1,4996,5042,114,8,168,373,5050,4966,10,204,374,62,61,8,168,375,5080,4986,8,168,376,4724,3664,62,186,377,1,0,0,7,0,0,14,0,1,14,1,0,20,0,0,4,168,378,5110,28,258,379,5080,3,3,1,5100,5146,114,8,168,380,5154,5070,30,204,381,110,101,103,97,116,101,100,8,168,382,5184,5090,8,168,383,1,4338,50,186,384,6,0,0,1,0,0,14,1,1,20,0,0,4,168,385,5224,28,258,386,5184,1,1,1,5214,5254,114,8,168,387,5262,5174,14,204,388,97,98,115,8,168,389,5292,5204,12,168,390,1,4724,5184,158,186,391,1,0,0,6,0,0,14,1,1,17,9,0,1,0,0,14,2,0,20,0,0,2,0,0,16,10,0,2,0,0,12,0,0,1,0,0,20,0,0,4,168,392,5326,28,258,393,5292,1,1,1,5314,5410,114,8,168,394,5418,5282,18,204,395,109,97,120,58,8,168,396,5448,5304,4,168,397,4724,146,186,398,1,0,0,7,0,0,14,0,1,17,8,0,7,0,0,20,0,0,2,0,0,16,9,0,2,0,0,12,0,0,1,0,0,20,0,0,4,168,399,5480,28,258,400,5448,3,3,1,5472,5558,114,8,168,401,5566,5438,50,204,402,116,105,109,101,115,82,101,112,101,97,116,58,8,168,403,5596,5462,20,168,404,1,4724,3064,3,4214,242,186,405,6,0,0,10,1,0,12,0,0,7,1,0,1,0,0,14,1,1,17,16,0,7,0,0,14,2,0,12,0,0,7,1,0,6,3,0,14,4,1,10,1,0,12,0,0,16,3,0,2,0,0,12,0,0,1,0,0,20,0,0,4,168,406,5652,28,258,407,5596,3,5,1,5636,5778,114,8,168,408,5786,5586,26,204,409,116,111,58,100,111,58,8,168,410,5816,5626,26,204,411,118,97,108,117,101,58,8,168,412,5844,5834,16,168,413,4976,5844,3,4214,254,186,414,1,0,0,10,2,0,12,0,0,7,2,0,7,0,0,14,0,1,17,17,0,7,1,0,7,2,0,14,1,1,12,0,0,7,2,0,6,2,0,14,3,1,10,2,0,12,0,0,16,3,0,2,0,0,12,0,0,1,0,0,20,0,0,4,168,415,5886,28,258,416,5816,5,7,1,5872,6018,114,8,168,417,6026,5806,14,204,418,97,116,58,8,168,419,6056,5862,22,204,420,105,110,100,101,120,8,168,421,6078,6068,8,168,422,6078,2372,50,186,423,1,0,0,6,0,0,14,1,1,20,0,0,4,168,424,6114,28,258,425,6056,3,3,41,6104,6144,168,8,168,426,6152,0,30,204,427,97,116,58,112,117,116,58,8,168,428,6182,6094,8,168,429,6078,2372,50,186,430,1,0,0,6,0,0,14,1,1,20,0,0,4,168,431,6222,28,258,432,6182,5,5,43,6212,6252,168,8,168,433,6260,6172,18,204,434,115,105,122,101,8,168,435,6290,6202,0,168,436,26,186,437,1,0,0,20,0,0,4,168,438,6320,28,258,439,6290,1,1,45,6314,6338,168,8,168,440,6346,6280,14,204,441,100,111,58,8,168,442,6376,6304,20,168,443,3,6290,6056,5844,5816,182,186,444,6,0,0,1,0,0,14,1,0,18,1,1,16,11,0,7,0,0,1,0,0,7,1,0,14,2,1,14,3,1,19,0,0,14,4,2,12,0,0,1,0,0,20,0,0,4,168,445,6414,28,258,446,6376,3,5,1,6398,6510,168,8,168,447,6518,6366,8,168,448,6078,2372,50,186,449,1,0,0,6,0,0,14,1,1,20,0,0,4,168,450,6558,28,258,451,6056,3,3,41,6548,6588,186,8,168,452,6596,0,8,168,453,6078,2372,50,186,454,1,0,0,6,0,0,14,1,1,20,0,0,4,168,455,6636,28,258,456,6182,5,5,43,6626,6666,186,8,168,457,6674,6616,0,168,458,26,186,459,1,0,0,20,0,0,4,168,460,6710,28,258,461,6290,1,1,45,6704,6728,186,8,168,462,6736,6694,6,204,463,44,8,168,464,6766,6388,26,204,465,115,116,114,105,110,103,8,168,466,6784,6774,8,168,467,6784,2372,50,186,468,1,0,0,6,0,0,14,1,1,20,0,0,4,168,469,6822,28,258,470,6766,3,3,51,6812,6852,186,8,168,471,6860,6756,0,168,472,26,186,473,1,0,0,20,0,0,4,168,474,6896,28,258,475,1106,3,3,53,6890,6914,186,8,168,476,6922,6880,4,168,477,1124,50,186,478,1,0,0,7,0,0,14,0,1,20,0,0,4,168,479,6960,28,258,480,1106,3,3,1,6952,6990,204,8,168,481,6998,0,8,168,482,1052,2372,50,186,483,1,0,0,6,0,0,14,1,1,20,0,0,4,168,484,7038,28,258,485,3064,1,1,67,7028,7068,222,8,168,486,7076,0,8,168,487,1052,2372,50,186,488,1,0,0,6,0,0,14,1,1,20,0,0,4,168,489,7116,28,258,490,5844,3,3,69,7106,7146,222,8,168,491,7154,7096,50,204,492,118,97,108,117,101,58,118,97,108,117,101,58,8,168,493,7184,6802,8,168,494,1052,2372,50,186,495,1,0,0,6,0,0,14,1,1,20,0,0,4,168,496,7234,28,258,497,7184,5,5,71,7224,7264,222,8,168,498,7272,7174,42,204,499,119,104,105,108,101,84,114,117,101,58,8,168,500,7302,7214,4,168,501,3064,134,186,502,1,0,0,14,0,0,17,7,0,7,0,0,14,0,0,12,0,0,16,0,0,2,0,0,12,0,0,1,0,0,20,0,0,4,168,503,7346,28,258,504,7302,3,3,1,7338,7418,222,8,168,505,7426,7292,30,204,506,101,110,115,117,114,101,58,8,168,507,7456,7328,4,168,508,3064,146,186,509,1,0,0,14,0,0,10,1,0,12,0,0,3,0,0,10,2,0,12,0,0,7,0,0,14,0,0,12,0,0,7,1,0,20,0,0,4,168,510,7494,28,258,511,7456,3,7,181,7486,7572,222,8,168,512,7580,7446,50,204,513,105,102,67,117,114,116,97,105,108,101,100,58,8,168,514,7610,7476,4,168,515,3064,110,186,516,1,0,0,14,0,0,10,1,0,12,0,0,3,0,0,10,2,0,12,0,0,7,1,0,20,0,0,4,168,517,7658,28,258,518,7610,3,7,183,7650,7718,222,8,168,519,7726,7600,26,204,520,115,101,110,100,101,114,8,168,521,7756,7640,0,168,522,26,186,523,1,0,0,20,0,0,4,168,524,7790,28,258,525,7756,1,1,161,7784,7808,240,8,168,526,7816,0,34,204,527,114,101,99,101,105,118,101,114,8,168,528,7846,7774,0,168,529,26,186,530,1,0,0,20,0,0,4,168,531,7884,28,258,532,7846,1,1,163,7878,7902,240,8,168,533,7910,7836,0,168,534,26,186,535,1,0,0,20,0,0,4,168,536,7946,28,258,537,1020,1,1,165,7940,7964,240,8,168,538,7972,7930,10,204,539,112,99,8,168,540,8002,7868,0,168,541,26,186,542,1,0,0,20,0,0,4,168,543,8028,28,258,544,8002,1,1,167,8022,8046,240,8,168,545,8054,7992,30,204,546,116,101,109,112,65,116,58,8,168,547,8084,8012,8,168,548,6078,2372,50,186,549,1,0,0,6,0,0,14,1,1,20,0,0,4,168,550,8124,28,258,551,8084,3,3,169,8114,8154,240,8,168,552,8162,8074,46,204,553,116,101,109,112,65,116,58,112,117,116,58,8,168,554,8192,8104,8,168,555,6078,2372,50,186,556,1,0,0,6,0,0,14,1,1,20,0,0,4,168,557,8240,28,258,558,8192,5,5,171,8230,8270,240,8,168,559,8278,8182,30,204,560,114,101,116,117,114,110,58,8,168,561,8308,8220,54,204,562,99,97,110,110,111,116,82,101,116,117,114,110,58,8,168,563,8338,8328,4,168,564,8338,50,186,565,1,0,0,7,0,0,14,0,1,20,0,0,4,168,566,8388,28,258,567,8308,3,3,173,8380,8418,240,8,168,568,8426,8298,0,168,569,26,186,570,1,0,0,20,0,0,4,168,571,8462,28,258,572,8338,3,3,149,8456,8480,240,8,168,573,8488,8446,0,168,574,26,186,575,8,0,0,20,0,0,4,168,576,8524,28,258,577,1020,1,1,1,8518,8542,276,8,168,578,8550,0,0,168,579,26,186,580,8,1,0,20,0,0,4,168,581,8586,28,258,582,1052,1,1,1,8580,8604,276,8,168,583,8612,8570]
def plF : List Nat:=[3,12,21,30,39,48,57,66,75,84,93,102,111,120,129,138,147,156,161,164,169,177,182,185,190,208,213,216,221,231,236,239,244,251,256,259,264,272,277,280,285,295,300,303,308,323,328,331,336,351,356,359,364,372,377,380,385,394,399,402,407,416,421,424,429,437,442,445,450,460,465,468,473,482,487,490,495,505,510,521,526,538,543,548,553,557,562,567,572,576,591,595,605,610,613,622,626,636,641,649,654,657,666,670,680,685,693,698,702,717,721,731,736,745,750,754,775,779,789,794,799,804,809,830,834,844,849,860,865,868,877,881,891,896,909,914,917,926,930,940,945,962,967,970,979,983,993,998,1008,1013,1016,1025,1029,1039,1044,1055,1060,1063,1072,1076,1086,1091,1107,1112,1115,1124,1128,1138,1143,1150,1155,1158,1167,1171,1181,1186,1195,1200,1203,1212,1216,1226,1231,1252,1257,1260,1269,1273,1283,1288,1304,1309,1312,1321,1325,1335,1340,1346,1351,1354,1363,1367,1377,1382,1389,1394,1397,1406,1410,1420,1425,1432,1437,1440,1449,1453,1463,1468,1481,1486,1489,1498,1502,1512,1517,1527,1532,1540,1545,1549,1561,1565,1575,1580,1591,1596,1599,1608,1612,1622,1627,1645,1650,1654,1666,1670,1680,1685,1703,1708,1712,1724,1728,1738,1743,1750,1755,1759,1771,1775,1785,1790,1796,1801,1804,1813,1817,1827,1832,1838,1843,1846,1855,1859,1869,1874,1877,1886,1890,1900,1905,1909,1921,1925,1935,1940,1944,1956,1960,1970,1975,1979,1991,1995,2005,2010,2013,2022,2026,2036,2041,2045,2057,2061,2071,2076,2079,2088,2092,2102,2107,2111,2116,2125,2130,2135,2150,2154,2164,2169,2173,2178,2183,2198,2202,2212,2217,2221,2226,2231,2246,2250,2260,2265,2270,2275,2280,2295,2299,2309,2314,2318,2323,2328,2343,2347,2357,2362,2366,2371,2376,2391,2395,2405,2410,2413,2422,2426,2436,2441,2445,2450,2454,2469,2473,2483,2488,2493,2498,2503,2521,2525,2535,2540,2545,2550,2555,2573,2577,2587,2592,2602,2607,2612,2627,2631,2641,2646,2652,2657,2663,2705,2709,2719,2724,2731,2736,2740,2779,2783,2793,2798,2813,2818,2826,2889,2893,2903,2908,2917,2922,2931,2936,2943,3009,3013,3023,3028,3034,3039,3047,3052,3057,3072,3076,3086,3091,3101,3106,3111,3126,3130,3140,3145,3152,3157,3160,3169,3173,3183,3188,3194,3199,3207,3255,3259,3269,3274,3279,3294,3298,3308,3313,3318,3333,3337,3347,3352,3355,3364,3368,3378,3383,3387,3392,3401,3406,3411,3426,3430,3440,3445,3448,3457,3461,3471,3476,3480,3495,3499,3509,3514,3519,3534,3538,3548,3553,3558,3573,3577,3587,3592,3607,3612,3617,3632,3636,3646,3651,3664,3669,3673,3709,3713,3723,3728,3738,3743,3747,3786,3790,3800,3805,3820,3825,3829,3859,3863,3873,3878,3887,3892,3895,3904,3908,3918,3923,3934,3939,3942,3951,3955,3965,3970,3973,3982,3986,3996,4001,4006,4011,4014,4023,4027,4037,4042,4052,4057,4062,4077,4081,4091,4096,4110,4115,4120,4135,4139,4149,4154,4164,4169,4185,4190,4194,4209,4213,4223,4228,4231,4240,4244,4254,4259,4262,4271,4275,4285,4290,4293,4302,4306,4316]
def syF : List (List Nat × Nat):=[([79,98,106,101,99,116],294),([67,108,97,115,115],338),([85,110,100,101,102,105,110,101,100,79,98,106,101,99,116],380),([66,111,111,108,101,97,110],442),([84,114,117,101],488),([70,97,108,115,101],528),([73,110,116,101,103,101,114],570),([83,109,97,108,108,73,110,116,101,103,101,114],616),([76,97,114,103,101,73,110,116,101,103,101,114],672),([65,114,114,97,121],728),([83,116,114,105,110,103],770),([83,121,109,98,111,108],814),([66,108,111,99,107],858),([67,111,110,116,101,120,116],900),([77,101,116,104,111,100],946),([77,101,115,115,97,103,101],990),([115,101,108,101,99,116,111,114],1020),([97,114,103,117,109,101,110,116,115],1052),([61],1106),([61,61],1124),([99,108,97,115,115],1282),([105,115,78,105,108],1370),([110,111,116,78,105,108],1472),([126,61],1588),([121,111,117,114,115,101,108,102],1698),([105,110,115,116,86,97,114,65,116,58],1792),([105,110,115,116,86,97,114,65,116,58,112,117,116,58],1890),([98,101,99,111,109,101,58],1996),([112,101,114,102,111,114,109,58],2088),([112,101,114,102,111,114,109,58,119,105,116,104,58],2182),([115,104,111,119],2286),([101,114,114,111,114,58],2372),([100,111,101,115,78,111,116,85,110,100,101,114,115,116,97,110,100,58],2462),([109,117,115,116,66,101,66,111,111,108,101,97,110],2576),([110,101,119],2680),([110,101,119,58],2764),([110,97,109,101],2850),([115,117,112,101,114,99,108,97,115,115],2936),([105,102,84,114,117,101,58],3034),([118,97,108,117,101],3064),([105,102,70,97,108,115,101,58],3160),([105,102,84,114,117,101,58,105,102,70,97,108,115,101,58],3254),([105,102,70,97,108,115,101,58,105,102,84,114,117,101,58],3370),([97,110,100,58],3486),([111,114,58],3580),([110,111,116],3664),([43],4214),([110,117,109,98,101,114],4232),([45],4338),([42],4434),([47,47],4530),([37],4628),([60],4724),([62],4882),([60,61],4976),([62,61],5080),([110,101,103,97,116,101,100],5184),([97,98,115],5292),([109,97,120,58],5448),([116,105,109,101,115,82,101,112,101,97,116,58],5596),([116,111,58,100,111,58],5816),([118,97,108,117,101,58],5844),([97,116,58],6056),([105,110,100,101,120],6078),([97,116,58,112,117,116,58],6182),([115,105,122,101],6290),([100,111,58],6376),([44],6766),([115,116,114,105,110,103],6784),([118,97,108,117,101,58,118,97,108,117,101,58],7184),([119,104,105,108,101,84,114,117,101,58],7302),([101,110,115,117,114,101,58],7456),([105,102,67,117,114,116,97,105,108,101,100,58],7610),([115,101,110,100,101,114],7756),([114,101,99,101,105,118,101,114],7846),([112,99],8002),([116,101,109,112,65,116,58],8084),([116,101,109,112,65,116,58,112,117,116,58],8192),([114,101,116,117,114,110,58],8308),([99,97,110,110,111,116,82,101,116,117,114,110,58],8338)]
def clF : List (List Nat × Nat):=[([79,98,106,101,99,116],6),([67,108,97,115,115],24),([85,110,100,101,102,105,110,101,100,79,98,106,101,99,116],42),([66,111,111,108,101,97,110],60),([84,114,117,101],78),([70,97,108,115,101],96),([73,110,116,101,103,101,114],114),([83,109,97,108,108,73,110,116,101,103,101,114],132),([76,97,114,103,101,73,110,116,101,103,101,114],150),([65,114,114,97,121],168),([83,116,114,105,110,103],186),([83,121,109,98,111,108],204),([66,108,111,99,107],222),([67,111,110,116,101,120,116],240),([77,101,116,104,111,100],258),([77,101,115,115,97,103,101],276)]
def oD (l : List (List Nat × Nat)) : Nat → List (List Nat × Nat):=List.rec (motive:=fun _=>Nat → List (List Nat × Nat)) (fun _=>[]) (fun x _ ih n=>bif Nat.beq n 0 then [] else x :: ih (Nat.sub n 1)) l
def eQw (l : List (List Nat × List Nat)) : Nat → List (Pos × Ob):=List.rec (motive:=fun _=>Nat → List (Pos × Ob)) (fun _=>[]) (fun x _ ih p=>(aL p,.row .ex [.s x.1,.s x.2]) :: ih (Nat.add p 1)) l
def eMl (l : List (List Nat × List Nat)) : Nat → List (List Nat × List Nat):=List.rec (motive:=fun _=>Nat → List (List Nat × List Nat)) (fun _=>[]) (fun x l ih n=>bif Nat.beq n 0 then x :: l else ih (Nat.sub n 1)) l
def oW (N fin made ns : Nat) (roots : List Nat) (pt : List (Nat × Nat)) (k : Nat) : List (Pos × Ob) :=
 (aL 7,.row .ex [.p (aL 3) 0,.l (aL 4) 0 18 18,.m (aL 5),.m (aL 6)]) ::
 (aL 6,.mp (lB clF)) :: (aL 5,.mp (lB (oD syF ns))) :: (aL 4,.row .ex (eYq roots)) ::
 (aL 3,.row .ex [.l (aL 1) 0 N N,.i .i64 (.ofNat fin),.i .i64 (.ofNat made),.m (aL 2)]) ::
 (aL 2,.mi (mkP (gM plF made) .e)) :: (aL 1,.big N (kM pt (mkW (gM wsF fin) 0 .e))) ::
 (aL 431,.row .ex (eYp eMh 356)) :: eQw (eMl eMh k) (Nat.add 356 k)
def dYr (l : List (Pos × Ob)) : Tr Ob:=List.rec (motive:=fun _=>Tr Ob) .e (fun x _ ih=>Tr.set x.2 x.1 ih) l
def iM (nx : Nat) (l : List (Pos × Ob)) : Hp:=⟨aL nx,dYr l⟩
def cFi (x y : Int) : Bool:=match x,y with
 | .ofNat a,.ofNat b=>Nat.beq a b
 | .negSucc a,.negSucc b=>Nat.beq a b
 | _,_=>false
def wtE (t : WT) : WT → Bool:=WT.rec (motive:=fun _=>WT → Bool) (fun u=>WT.rec (motive:=fun _=>Bool) true (fun _ _ _ _ _=>false) u)
 (fun _ v _ ihl ihr u=>WT.rec (motive:=fun _=>Bool) false (fun l' v' r' _ _=>cFi v v' && (ihl l' && ihr r')) u) t
def dvE (x y : DV) : Bool:=match x,y with
 | .i .i64 a,.i .i64 b=>cFi a b
 | .s a,.s b=>eqD a b
 | .p a o,.p b q=>kC a b && Nat.beq o q
 | .l a o n c,.l b q m d=>kC a b && (Nat.beq o q && (Nat.beq n m && Nat.beq c d))
 | .m a,.m b=>kC a b
 | .b a,.b b=>a == b
 | .l0,.l0=>true
 | .p0,.p0=>true
 | .m0,.m0=>true
 | _,_=>false
def dFd (l : List DV) : List DV → Bool:=List.rec (motive:=fun _=>List DV → Bool) (fun m=>List.rec (motive:=fun _=>Bool) true (fun _ _ _=>false) m)
 (fun x _ ih m=>List.rec (motive:=fun _=>Bool) false (fun y m _=>dvE x y && ih m) m) l
def eBg (l : List (DV × DV)) : List (DV × DV) → Bool:=List.rec (motive:=fun _=>List (DV × DV) → Bool) (fun m=>List.rec (motive:=fun _=>Bool) true (fun _ _ _=>false) m)
 (fun x _ ih m=>List.rec (motive:=fun _=>Bool) false (fun y m _=>dvE x.1 y.1 && (dvE x.2 y.2 && ih m)) m) l
def obE (o p : Ob) : Bool:=match o,p with
 | .row .ex l,.row .ex m=>dFd l m
 | .mp l,.mp m=>eBg l m
 | .big n t,.big m u=>Nat.beq n m && wtE t u
 | .mi t,.mi u=>wtE t u
 | _,_=>false
def cMk (g : Tr Ob) (l : List (Pos × Ob)) : Bool:=List.rec (motive:=fun _=>Bool) true (fun x _ ih=>(match g.get x.1 with
 | some o=>obE o x.2
 | none=>false) && ih) l
def mT (r : aH) (vs : List DV) (nx : Nat) (l : List (Pos × Ob)) : Bool:=match r with
 | some (.t us,g)=>dFd us vs && (kC g.next (aL nx) && cMk g.bl l)
 | _=>false
def itN (n : Nat) (K : DV → DV → DV → DV → Hp → aH) : DV → DV → DV → DV → Hp → aH :=
 Nat.rec (motive:=fun _=>DV → DV → DV → DV → Hp → aH) K (fun _ ih=>lO (jX 899) 899 ih) n
def cBb : DV → DV → DV → DV → Hp → aH:=fun a b c d h=>some (.t [a,b,c,d],h)
def lW (k : Nat) : List DV:=[.p (aL 7) 0,.l (aL 431) 0 75 75,.i .i64 (.ofNat 75),.i .i64 (.ofNat k)]
def pB (k n : Nat) (h : Hp) : aH:=itN n cBb (.p (aL 7) 0) (.l (aL 431) 0 75 75) (.i .i64 (.ofNat 75)) (.i .i64 (.ofNat k)) h
end
end Go.Dd

end
