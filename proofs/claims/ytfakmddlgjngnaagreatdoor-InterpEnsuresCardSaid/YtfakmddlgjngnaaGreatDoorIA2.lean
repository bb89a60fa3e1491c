/- A part of the proof: Q0 Q1 Q2 Q3 Q4 Q5 Q6: each text has a comment of its own. -/
import Derived.Test.YtfakmddlgjngnaaGreatDoorIA1
set_option linter.unusedVariables false
set_option linter.unusedSimpArgs false
set_option linter.constructorNameAsVariable false
set_option maxRecDepth 100000
noncomputable section
namespace Go.Dd
open Go.Proofs
variable (r : RT) (n : Nat) (args : List DV) (h : Hp)
def mM (r : RT) (n : Nat) (x5 x6 : DV) (h0 : Hp) : aH :=
 bnd (r 7 [x5,(.i .i64 (Int.ofNat 1000))] h0) fun v1 h1 =>
 bnd (aF 0 v1 h1) fun v2 h2 =>
 bnd (aF 1 v1 h2) fun v3 h3 =>
 bnd (bQ [(.i .i64 (Int.ofNat 0)),(.s []),(.s []),(.s []),(.i .i64 (Int.ofNat 0))] h3) fun v4 h4 =>
 bnd (aJ 5 v4 v2 h4) fun _ h5 =>
 bnd (gD v3 true (aB 0 v4 h5) h5) fun v6 h6 =>
 bnd (gD v3 true (aA v6 h6) h6) fun v7 h7 =>
 bnd (gD v3 true (aC .eql v7 (.i .i64 (Int.ofNat 0)) h7) h7) fun v8 h8 =>
 bnd (aN v3 v8 (.b false) h8) fun v9 h9 =>
 bnd (gD v9 true (aB 1 v4 h9) h9) fun v10 h10 =>
 bnd (gD v9 true (aA v10 h10) h10) fun v11 h11 =>
 bnd (gD v9 true (dX .eql v11 (.s [55,55]) h11) h11) fun v12 h12 =>
 bnd (aN v9 v12 (.b false) h12) fun v13 h13 =>
 bnd (gD v13 true (aB 3 v4 h13) h13) fun v14 h14 =>
 bnd (gD v13 true (aA v14 h14) h14) fun v15 h15 =>
 bnd (gD v13 true (some (x6,h15)) h15) fun v16 h16 =>
 bnd (gD v13 true (dX .eql v15 v16 h16) h16) fun v17 h17 =>
 bnd (aN v13 v17 (.b false) h17) fun v18 h18 =>
 bnd (gD v18 true (r 6 [] h18) h18) fun v19 h19 =>
 bnd (aN v18 v19 (.b false) h19) fun v20 h20 =>
 some (v20,h20)
def dRz (r : RT) (n : Nat) (kk9 : dG) (x0 x5 x6 x7 : DV) (h0 : Hp) : aH :=
 bnd (aC .leq x7 x0 h0) fun v1 h1 =>
 aR v1 (
 bnd (dX .add (.s [91]) x5 h1) fun v2 h2 =>
 bnd (dX .add v2 (.s [93,32,101,110,115,117,114,101,58,32,91]) h2) fun v3 h3 =>
 bnd (aC .rem x7 (.i .i64 (Int.ofNat 10)) h3) fun v4 h4 =>
 bnd (r 8 [v4] h4) fun v5 h5 =>
 bnd (dX .add v3 v5 h5) fun v6 h6 =>
 bnd (dX .add v6 (.s [32,115,104,111,119,93]) h6) fun v7 h7 =>
 bnd (aC .rem x7 (.i .i64 (Int.ofNat 10)) h7) fun v8 h8 =>
 bnd (r 8 [v8] h8) fun v9 h9 =>
 bnd (dX .add x6 v9 h9) fun v10 h10 =>
 bnd (aC .add x7 (.i .i64 (Int.ofNat 1)) h10) fun v11 h11 =>
      kk9 x0 v7 v10 v11 h11) (
      mM r n x5 x6 h1)
def bPf (r : RT) (n : Nat) (m : Nat) : dG :=
 Nat.rec (motive:=fun _=>dG) (fun _ _ _ _ _=>none) (fun _ ih=>dRz r n ih) m
def eOw (r : RT) (n : Nat) : dG:=bPf r n n
def eBh (r : RT) (n : Nat) (x0 x5 x6 x7 : DV) (h0 : Hp) : aH :=
 eOw r n x0 x5 x6 x7 h0
def dGc (r : RT) (n : Nat) (x0 x5 x6 : DV) (h0 : Hp) : aH :=
 eBh r n x0 x5 x6 (.i .i64 (Int.ofNat 1)) h0
def eAs (r : RT) (n : Nat) (x0 x1 x5 x6 : DV) (h0 : Hp) : aH :=
 aR x1 (
  dGc r n x0 (.s [94,55,55]) x6 h0) (
  dGc r n x0 x5 x6 h0)
def dXa (r : RT) (n : Nat) (x0 x1 x5 : DV) (h0 : Hp) : aH :=
 eAs r n x0 x1 x5 (.s []) h0
def bXt (r : RT) (n : Nat) (x0 x1 : DV) (h0 : Hp) : aH :=
 dXa r n x0 x1 (.s [55,55]) h0
def aWu (r : RT) (n : Nat) (x0 x1 : DV) (h0 : Hp) : aH :=
 bnd (aC .rem x0 (.i .i64 (Int.ofNat 13)) h0) fun v1 h1 =>
  bXt r n v1 x1 h1
def cBx (r : RT) (n : Nat) (x0 x1 : DV) (h0 : Hp) : aH :=
 bnd (aC .lss x0 (.i .i64 (Int.ofNat 0)) h0) fun v1 h1 =>
 aR v1 (
 bnd (aC .add x0 (.i .i64 (Int.ofNat 1)) h1) fun v2 h2 =>
 bnd (eQ .neg v2 h2) fun v3 h3 =>
  aWu r n v3 x1 h3) (
  aWu r n x0 x1 h1)
def s4 (r : RT) (n : Nat) (x0 x1 : DV) (h0 : Hp) : aH :=
 cBx r n x0 x1 h0
abbrev c4 : Code:=cf Tryz.f4
abbrev dDb : Code:=cR c4
abbrev dPy : Code:=cR dDb
abbrev dKw : Code:=cR dPy
abbrev dCq : Code:=cR dKw
abbrev dJq : Code:=cR dCq
abbrev dHw : Code:=cR dJq
abbrev eWt : Code:=cR dHw
abbrev bZf : Code:=cL dHw
abbrev dZx : Code:=cR bZf
abbrev bPj : Code:=cL dZx
abbrev aDr : Code:=cL bPj
abbrev dRs : Code:=cL bZf
abbrev dQx : Code:=cL dJq
abbrev dSf : Code:=cL dCq
abbrev dSk : Code:=cL dKw
abbrev dSy : Code:=cL dPy
abbrev dSt : Code:=cL dDb
abbrev dQs : Code:=cL c4
abbrev r4 : K:=bE CF Tryz.f4
def D4 (r : RT) (n : Nat) (c : Code) (X : Nat → K) (k : K) : K:=aW CF r 61 n c X r4 k
theorem eTw : D4 r n eWt x0 r4 = (K2 (mM r n) 5 6) :=
 (by kernel_rfl)
theorem eCl (kk9 : dG) : D4 r n aDr (xs x0 0 (K2 (mM r n) 5 6)) (K4 kk9 0 5 6 7) = (K4 (dRz r n kk9) 0 5 6 7) :=
 (by kernel_rfl)
theorem dTz (m : Nat) : aM (fun kk=>D4 r n aDr (xs x0 0 (K2 (mM r n) 5 6)) kk) m = (K4 (bPf r n m) 0 5 6 7):=by
 induction m with
 | zero=>exact (by kernel_rfl : aM (fun kk=>D4 r n aDr (xs x0 0 (K2 (mM r n) 5 6)) kk) 0 = (K4 (bPf r n 0) 0 5 6 7))
 | succ m ih =>
  refine (by kernel_rfl : aM (fun kk=>D4 r n aDr (xs x0 0 (K2 (mM r n) 5 6)) kk) (m + 1) = D4 r n aDr (xs x0 0 (K2 (mM r n) 5 6)) (aM (fun kk=>D4 r n aDr (xs x0 0 (K2 (mM r n) 5 6)) kk) m)).trans ?_
  rw [ih]
  exact (eCl r n (bPf r n m)).trans (by kernel_rfl)
theorem ePz : D4 r n bPj (xs x0 0 (K2 (mM r n) 5 6)) (K2 (mM r n) 5 6) = (K4 (eOw r n) 0 5 6 7) :=
 (by kernel_rfl : D4 r n bPj (xs x0 0 (K2 (mM r n) 5 6)) (K2 (mM r n) 5 6) = aM (fun kk=>D4 r n aDr (xs x0 0 (K2 (mM r n) 5 6)) kk) n).trans ((dTz r n n).trans (by kernel_rfl))
theorem eOr : D4 r n dZx x0 (K2 (mM r n) 5 6) = (K4 (eBh r n) 0 5 6 7) :=
 (by kernel_rfl : D4 r n dZx x0 (K2 (mM r n) 5 6) = D4 r n bPj (xs x0 0 (K2 (mM r n) 5 6)) (K2 (mM r n) 5 6)).trans
 ((ePz r n).trans (by kernel_rfl))
theorem dUk : D4 r n dHw x0 r4 = D4 r n bZf x0 (K2 (mM r n) 5 6) :=
 congrArg (fun k=>D4 r n bZf x0 k) (eTw r n)
theorem dTr : D4 r n bZf x0 (K2 (mM r n) 5 6) = D4 r n dRs x0 (K4 (eBh r n) 0 5 6 7) :=
 congrArg (fun k=>D4 r n dRs x0 k) (eOr r n)
theorem eJp : D4 r n dHw x0 r4 = (K3 (dGc r n) 0 5 6) :=
 (dUk r n).trans
 ((dTr r n).trans
 ((by kernel_rfl)))
theorem dUt : D4 r n dJq x0 r4 = D4 r n dQx x0 (K3 (dGc r n) 0 5 6) :=
 congrArg (fun k=>D4 r n dQx x0 k) (eJp r n)
theorem eIg : D4 r n dJq x0 r4 = (K4 (eAs r n) 0 1 5 6) :=
 (dUt r n).trans
 ((by kernel_rfl))
theorem eAz : D4 r n dCq x0 r4 = D4 r n dSf x0 (K4 (eAs r n) 0 1 5 6) :=
 congrArg (fun k=>D4 r n dSf x0 k) (eIg r n)
theorem eRi : D4 r n dCq x0 r4 = (K3 (dXa r n) 0 1 5) :=
 (eAz r n).trans
 ((by kernel_rfl))
theorem dYe : D4 r n dKw x0 r4 = D4 r n dSk x0 (K3 (dXa r n) 0 1 5) :=
 congrArg (fun k=>D4 r n dSk x0 k) (eRi r n)
theorem eQg : D4 r n dKw x0 r4 = (K2 (bXt r n) 0 1) :=
 (dYe r n).trans
 ((by kernel_rfl))
theorem eEm : D4 r n dPy x0 r4 = D4 r n dSy x0 (K2 (bXt r n) 0 1) :=
 congrArg (fun k=>D4 r n dSy x0 k) (eQg r n)
theorem eIf : D4 r n dPy x0 r4 = (K2 (aWu r n) 0 1) :=
 (eEm r n).trans
 ((by kernel_rfl))
theorem dVj : D4 r n dDb x0 r4 = D4 r n dSt x0 (K2 (aWu r n) 0 1) :=
 congrArg (fun k=>D4 r n dSt x0 k) (eIf r n)
theorem eNu : D4 r n dDb x0 r4 = (K2 (cBx r n) 0 1) :=
 (dVj r n).trans
 ((by kernel_rfl))
theorem eZb : D4 r n c4 x0 r4 = D4 r n dQs x0 (K2 (cBx r n) 0 1) :=
 congrArg (fun k=>D4 r n dQs x0 k) (eNu r n)
theorem s4m : D4 r n c4 x0 r4 = (K2 (s4 r n) 0 1) :=
 (eZb r n).trans
 ((by kernel_rfl))
theorem eTl : aI CF r n 4 args h = s4 r n (bI args 0) (bI args 1) h :=
 (by kernel_rfl : aI CF r n 4 args h = D4 r n c4 x0 r4 (aQ args) h).trans ((congrFun (congrFun (s4m r n) (aQ args)) h).trans (by kernel_rfl))
def dDq (r : RT) (n : Nat) (x0 : DV) (h0 : Hp) : aH :=
 bnd (aC .rem x0 (.i .i64 (Int.ofNat 80)) h0) fun v1 h1 =>
 bnd (r 8 [v1] h1) fun v2 h2 =>
 bnd (dX .add (.s [124,32,98,32,110,32,124,32,110,32,58,61,32]) v2 h2) fun v3 h3 =>
 bnd (dX .add v3 (.s [46,32,98,32,58,61,32,91,110,32,61,32,48,32,105,102,84,114,117,101,58,32,91,39,101,110,100,39,93,32,105,102,70,97,108,115,101,58,32,91,110,32,58,61,32,110,32,45,32,49,46,32,98,32,118,97,108,117,101,93,93,46,32,98,32,118,97,108,117,101]) h3) fun v4 h4 =>
 bnd (r 7 [v4,(.i .i64 (Int.ofNat 3000))] h4) fun v5 h5 =>
 bnd (aF 0 v5 h5) fun v6 h6 =>
 bnd (aF 1 v5 h6) fun v7 h7 =>
 bnd (bQ [(.i .i64 (Int.ofNat 0)),(.s []),(.s []),(.s []),(.i .i64 (Int.ofNat 0))] h7) fun v8 h8 =>
 bnd (aJ 5 v8 v6 h8) fun _ h9 =>
 bnd (aC .add v1 (.i .i64 (Int.ofNat 2)) h9) fun v10 h10 =>
 bnd (aC .leq v10 (.i .i64 (Int.ofNat 60)) h10) fun v11 h11 =>
 aR v11 (
 bnd (gD v7 true (aB 0 v8 h11) h11) fun v12 h12 =>
 bnd (gD v7 true (aA v12 h12) h12) fun v13 h13 =>
 bnd (gD v7 true (aC .eql v13 (.i .i64 (Int.ofNat 0)) h13) h13) fun v14 h14 =>
 bnd (aN v7 v14 (.b false) h14) fun v15 h15 =>
 bnd (gD v15 true (aB 1 v8 h15) h15) fun v16 h16 =>
 bnd (gD v15 true (aA v16 h16) h16) fun v17 h17 =>
 bnd (gD v15 true (dX .eql v17 (.s [39,101,110,100,39]) h17) h17) fun v18 h18 =>
 bnd (aN v15 v18 (.b false) h18) fun v19 h19 =>
 bnd (gD v19 true (r 6 [] h19) h19) fun v20 h20 =>
 bnd (aN v19 v20 (.b false) h20) fun v21 h21 =>
 some (v21,h21)) (
 bnd (gD v7 true (aB 0 v8 h11) h11) fun v22 h22 =>
 bnd (gD v7 true (aA v22 h22) h22) fun v23 h23 =>
 bnd (gD v7 true (aC .eql v23 (.i .i64 (Int.ofNat 22)) h23) h23) fun v24 h24 =>
 bnd (aN v7 v24 (.b false) h24) fun v25 h25 =>
 bnd (gD v25 true (r 6 [] h25) h25) fun v26 h26 =>
 bnd (aN v25 v26 (.b false) h26) fun v27 h27 =>
 some (v27,h27))
def dUy (r : RT) (n : Nat) (x0 : DV) (h0 : Hp) : aH :=
 bnd (aC .lss x0 (.i .i64 (Int.ofNat 0)) h0) fun v1 h1 =>
 aR v1 (
 bnd (aC .add x0 (.i .i64 (Int.ofNat 1)) h1) fun v2 h2 =>
 bnd (eQ .neg v2 h2) fun v3 h3 =>
  dDq r n v3 h3) (
  dDq r n x0 h1)
def s5 (r : RT) (n : Nat) (x0 : DV) (h0 : Hp) : aH :=
 dUy r n x0 h0
abbrev c5 : Code:=cf Tryz.f5
abbrev dLb : Code:=cR c5
abbrev eYo : Code:=cR dLb
abbrev eKa : Code:=cL dLb
abbrev eLa : Code:=cL c5
abbrev r5 : K:=bE CF Tryz.f5
def D5 (r : RT) (n : Nat) (c : Code) (X : Nat → K) (k : K) : K:=aW CF r 46 n c X r5 k
theorem eIx : D5 r n eYo x0 r5 = (K1 (dDq r n) 0) :=
 (by kernel_rfl)
theorem dWo : D5 r n dLb x0 r5 = D5 r n eKa x0 (K1 (dDq r n) 0) :=
 congrArg (fun k=>D5 r n eKa x0 k) (eIx r n)
theorem eSf : D5 r n dLb x0 r5 = (K1 (dUy r n) 0) :=
 (dWo r n).trans
 ((by kernel_rfl))
theorem eXo : D5 r n c5 x0 r5 = D5 r n eLa x0 (K1 (dUy r n) 0) :=
 congrArg (fun k=>D5 r n eLa x0 k) (eSf r n)
theorem s5m : D5 r n c5 x0 r5 = (K1 (s5 r n) 0) :=
 (eXo r n).trans
 ((by kernel_rfl))
theorem eVr : aI CF r n 5 args h = s5 r n (bI args 0) h :=
 (by kernel_rfl : aI CF r n 5 args h = D5 r n c5 x0 r5 (aQ args) h).trans ((congrFun (congrFun (s5m r n) (aQ args)) h).trans (by kernel_rfl))
def s6 (r : RT) (n : Nat) (h0 : Hp) : aH :=
 bnd (r 10 [(.s [51,32,43,32,52])] h0) fun v1 h1 =>
 bnd (aF 0 v1 h1) fun v2 h2 =>
 bnd (aF 1 v1 h2) fun v3 h3 =>
 bnd (r 10 [(.s [91,58,120,32,124,32,120,32,42,32,120,93,32,118,97,108,117,101,58,32,53])] h3) fun v4 h4 =>
 bnd (aF 0 v4 h4) fun v5 h5 =>
 bnd (aF 1 v4 h5) fun v6 h6 =>
 bnd (r 10 [(.s [124,32,98,32,124,32,98,32,58,61,32,91,94,51,93,46,32,98,32,118,97,108,117,101,46,32,52])] h6) fun v7 h7 =>
 bnd (aF 0 v7 h7) fun v8 h8 =>
 bnd (aF 1 v7 h8) fun v9 h9 =>
 bnd (r 10 [(.s [51,32,102,111,111])] h9) fun v10 h10 =>
 bnd (aF 0 v10 h10) fun v11 h11 =>
 bnd (aF 1 v10 h11) fun v12 h12 =>
 bnd (r 10 [(.s [91,49,32,101,114,114,111,114,58,32,39,120,39,93,32,101,110,115,117,114,101,58,32,91,50,32,115,104,111,119,93])] h12) fun v13 h13 =>
 bnd (aF 0 v13 h13) fun v14 h14 =>
 bnd (aF 1 v13 h14) fun v15 h15 =>
 bnd (r 10 [(.s [91,94,49,93,32,101,110,115,117,114,101,58,32,91,50,32,115,104,111,119,93])] h15) fun v16 h16 =>
 bnd (aF 0 v16 h16) fun v17 h17 =>
 bnd (aF 1 v16 h17) fun v18 h18 =>
 bnd (dX .eql v2 (.s [55]) h18) fun v19 h19 =>
 bnd (gD v19 true (some (v5,h19)) h19) fun v20 h20 =>
 bnd (gD v19 true (dX .eql v20 (.s [50,53]) h20) h20) fun v21 h21 =>
 bnd (aN v19 v21 (.b false) h21) fun v22 h22 =>
 bnd (gD v22 true (some (v8,h22)) h22) fun v23 h23 =>
 bnd (gD v22 true (dX .eql v23 (.s [51]) h23) h23) fun v24 h24 =>
 bnd (aN v22 v24 (.b false) h24) fun v25 h25 =>
 bnd (gD v25 true (some (v11,h25)) h25) fun v26 h26 =>
 bnd (gD v25 true (dX .eql v26 (.s [100,111,101,115,78,111,116,85,110,100,101,114,115,116,97,110,100,58,32,35,102,111,111]) h26) h26) fun v27 h27 =>
 bnd (aN v25 v27 (.b false) h27) fun v28 h28 =>
 bnd (gD v28 true (some (v14,h28)) h28) fun v29 h29 =>
 bnd (gD v28 true (dX .eql v29 (.s [101,114,114,111,114,58,32,39,120,39]) h29) h29) fun v30 h30 =>
 bnd (aN v28 v30 (.b false) h30) fun v31 h31 =>
 bnd (gD v31 true (some (v15,h31)) h31) fun v32 h32 =>
 bnd (gD v31 true (dX .eql v32 (.s []) h32) h32) fun v33 h33 =>
 bnd (aN v31 v33 (.b false) h33) fun v34 h34 =>
 bnd (gD v34 true (some (v17,h34)) h34) fun v35 h35 =>
 bnd (gD v34 true (dX .eql v35 (.s [49]) h35) h35) fun v36 h36 =>
 bnd (aN v34 v36 (.b false) h36) fun v37 h37 =>
 bnd (gD v37 true (some (v18,h37)) h37) fun v38 h38 =>
 bnd (gD v37 true (dX .eql v38 (.s [50]) h38) h38) fun v39 h39 =>
 bnd (aN v37 v39 (.b false) h39) fun v40 h40 =>
 some (v40,h40)
theorem eYb : aI CF r n 6 args h = s6 r n h :=
 by kernel_rfl
def s7 (r : RT) (n : Nat) (x0 x1 : DV) (h0 : Hp) : aH :=
 bnd (bQ [(.i .i64 (Int.ofNat 0)),(.s []),(.s []),(.s []),(.i .i64 (Int.ofNat 0))] h0) fun v1 h1 =>
 bnd (r 11 [(.i .i64 (Int.ofNat 30000))] h1) fun v2 h2 =>
 bnd (aF 0 v2 h2) fun v3 h3 =>
 bnd (aF 1 v2 h3) fun v4 h4 =>
 bnd (pEq (.pointer 62) true v3 .p0 h4) fun v5 h5 =>
 bnd (gD v5 false (some (v4,h5)) h5) fun v6 h6 =>
 bnd (gD v5 false (aC .neq v6 (.i .i64 (Int.ofNat 0)) h6) h6) fun v7 h7 =>
 bnd (aN v5 (.b true) v7 h7) fun v8 h8 =>
 aR v8 (
 bnd (aY [(.i .i64 (Int.ofNat 0)),(.s []),(.s []),(.s []),(.i .i64 (Int.ofNat 0))] [] h8) fun v9 h9 =>
 bnd (aJ 5 v1 v9 h9) fun _ h10 =>
 bnd (aK 5 v1 h10) fun v11 _ =>
 some (.t [v11,(.b false)],h10)) (
 bnd (r 12 [v3] h8) fun v12 h12 =>
 bnd (aY [(.i .i64 (Int.ofNat 0)),(.s []),(.s []),.l0,(.s []),(.s []),(.i .i64 (Int.ofNat 0)),(.i .i64 (Int.ofNat 0)),(.i .i64 (Int.ofNat 0)),.l0,.l0,(.i .i64 (Int.ofNat 0))] [(0,1,(.i .i64 (Int.ofNat 2))),(4,1,x0)] h12) fun v13 h13 =>
 bnd (r 13 [v13] h13) fun v14 h14 =>
 bnd (aF 0 v14 h14) fun v15 h15 =>
 bnd (aF 1 v14 h15) fun v16 h16 =>
 bnd (bQ [(.s []),(.i .i64 (Int.ofNat 0)),(.i .i64 (Int.ofNat 0)),(.i .i64 (Int.ofNat 0)),.l0,.l0] h16) fun v17 h17 =>
 bnd (aJ 6 v17 v15 h17) fun _ h18 =>
 bnd (pEq (.pointer 83) true v12 .p0 h18) fun v19 h19 =>
 bnd (gD v19 false (some (v16,h19)) h19) fun v20 h20 =>
 bnd (gD v19 false (eQ .not v20 h20) h20) fun v21 h21 =>
 bnd (aN v19 (.b true) v21 h21) fun v22 h22 =>
 bnd (gD v22 false (some (v12,h22)) h22) fun v23 h23 =>
 bnd (gD v22 false (aK 6 v17 h23) h23) fun v24 h24 =>
 bnd (gD v22 false (some (x1,h24)) h24) fun v25 h25 =>
 bnd (gD v22 false (r 14 [v23,v24,v25] h25) h25) fun v26 h26 =>
 bnd (gD v22 false (aC .neq v26 (.i .i64 (Int.ofNat 0)) h26) h26) fun v27 h27 =>
 bnd (aN v22 (.b true) v27 h27) fun v28 h28 =>
 aR v28 (
 bnd (aY [(.i .i64 (Int.ofNat 0)),(.s []),(.s []),(.s []),(.i .i64 (Int.ofNat 0))] [] h28) fun v29 h29 =>
 bnd (aJ 5 v1 v29 h29) fun _ h30 =>
 bnd (aK 5 v1 h30) fun v31 _ =>
 some (.t [v31,(.b false)],h30)) (
 bnd (r 15 [v12] h28) fun v32 h32 =>
 bnd (r 16 [v3,v12] h32) fun v33 h33 =>
 bnd (aJ 5 v1 v33 h33) fun _ h34 =>
 bnd (aK 5 v1 h34) fun v35 _ =>
 some (.t [v35,(.b true)],h34)))
theorem eJc : aI CF r n 7 args h = s7 r n (bI args 0) (bI args 1) h :=
 by kernel_rfl
def s10 (r : RT) (n : Nat) (x0 : DV) (h0 : Hp) : aH :=
 bnd (r 11 [(.i .i64 (Int.ofNat 30000))] h0) fun v1 h1 =>
 bnd (aF 0 v1 h1) fun v2 h2 =>
 bnd (aF 1 v1 h2) fun v3 h3 =>
 bnd (pEq (.pointer 62) true v2 .p0 h3) fun v4 h4 =>
 bnd (gD v4 false (some (v3,h4)) h4) fun v5 h5 =>
 bnd (gD v4 false (aC .neq v5 (.i .i64 (Int.ofNat 0)) h5) h5) fun v6 h6 =>
 bnd (aN v4 (.b true) v6 h6) fun v7 h7 =>
 aR v7 (
 some (.t [(.s []),(.s [])],h7)) (
 bnd (r 12 [v2] h7) fun v8 h8 =>
 bnd (pEq (.pointer 83) true v8 .p0 h8) fun v9 h9 =>
 bnd (gD v9 false (some (v8,h9)) h9) fun v10 h10 =>
 bnd (gD v9 false (some (x0,h10)) h10) fun v11 h11 =>
 bnd (gD v9 false (r 22 [v11] h11) h11) fun v12 h12 =>
 bnd (gD v9 false (r 14 [v10,v12,(.i .i64 (Int.ofNat 1000))] h12) h12) fun v13 h13 =>
 bnd (gD v9 false (aC .neq v13 (.i .i64 (Int.ofNat 0)) h13) h13) fun v14 h14 =>
 bnd (aN v9 (.b true) v14 h14) fun v15 h15 =>
 aR v15 (
 some (.t [(.s []),(.s [])],h15)) (
 bnd (r 15 [v8] h15) fun v16 h16 =>
 bnd (r 16 [v2,v8] h16) fun v17 h17 =>
 bnd (bQ [(.i .i64 (Int.ofNat 0)),(.s []),(.s []),(.s []),(.i .i64 (Int.ofNat 0))] h17) fun v18 h18 =>
 bnd (aJ 5 v18 v17 h18) fun _ h19 =>
 bnd (aB 0 v18 h19) fun v20 h20 =>
 bnd (aA v20 h20) fun v21 h21 =>
 bnd (aC .neq v21 (.i .i64 (Int.ofNat 0)) h21) fun v22 h22 =>
 aR v22 (
 bnd (aB 2 v18 h22) fun v23 h23 =>
 bnd (aA v23 h23) fun v24 h24 =>
 bnd (aB 3 v18 h24) fun v25 h25 =>
 bnd (aA v25 h25) fun v26 h26 =>
 some (.t [v24,v26],h26)) (
 bnd (aB 1 v18 h22) fun v27 h27 =>
 bnd (aA v27 h27) fun v28 h28 =>
 bnd (aB 3 v18 h28) fun v29 h29 =>
 bnd (aA v29 h29) fun v30 h30 =>
 some (.t [v28,v30],h30))))
theorem eSm : aI CF r n 10 args h = s10 r n (bI args 0) h :=
 by kernel_rfl
def fO (r : RT) (n : Nat) (x5 : DV) (h0 : Hp) : aH :=
 some (.t [x5,(.i .i64 (Int.ofNat 0))],h0)
def lO (r : RT) (n : Nat) (kk9 : dG) (x5 x155 x156 x157 : DV) (h0 : Hp) : aH :=
 bnd (aC .lss x157 x156 h0) fun v1 h1 =>
 aR v1 (
 bnd (aG 1 x155 x157 h1) fun v2 h2 =>
 bnd (aA v2 h2) fun v3 h3 =>
 bnd (aG 1 v3 (.i .i64 (Int.ofNat 0)) h3) fun v4 h4 =>
 bnd (aA v4 h4) fun v5 h5 =>
 bnd (aG 1 v3 (.i .i64 (Int.ofNat 1)) h5) fun v6 h6 =>
 bnd (aA v6 h6) fun v7 h7 =>
 bnd (r 34 [x5,v5,v7] h7) fun v8 h8 =>
 bnd (aF 0 v8 h8) fun v9 h9 =>
 bnd (aF 1 v8 h9) fun v10 h10 =>
 bnd (aF 2 v8 h10) fun v11 h11 =>
 bnd (aF 3 v8 h11) fun v12 h12 =>
 bnd (aC .neq v12 (.i .i64 (Int.ofNat 0)) h12) fun v13 h13 =>
 aR v13 (
 some (.t [.p0,v12],h13)) (
 bnd (aC .add x157 (.i .i64 (Int.ofNat 1)) h13) fun v14 h14 =>
    kk9 x5 x155 x156 v14 h14)) (
      fO r n x5 h1)
def lH (r : RT) (n : Nat) (m : Nat) : dG :=
 Nat.rec (motive:=fun _=>dG) (fun _ _ _ _ _=>none) (fun _ ih=>lO r n ih) m
def bOp (r : RT) (n : Nat) : dG:=lH r n n
def cDq (r : RT) (n : Nat) (x5 x155 x156 x157 : DV) (h0 : Hp) : aH :=
 bOp r n x5 x155 x156 x157 h0
def bK (r : RT) (n : Nat) (x5 : DV) (h0 : Hp) : aH :=
 bnd (r 33 [] h0) fun v1 h1 =>
 bnd (bM v1 h1) fun v2 h2 =>
  cDq r n x5 v1 v2 (.i .i64 (Int.ofNat 0)) h2
def bF (r : RT) (n : Nat) (kk11 : cN) (x4 x5 x59 x60 x61 : DV) (h0 : Hp) : aH :=
 bnd (aC .add x61 (.i .i64 (Int.ofNat 1)) h0) fun v1 h1 =>
  kk11 x4 x5 x59 x60 v1 h1
def fG (r : RT) (n : Nat) (kk11 : cN) (x4 x5 x8 x9 x59 x60 x61 : DV) (h0 : Hp) : aH :=
 bnd (aV x5 h0) fun v1 h1 =>
 bnd (aB 1 v1 h1) fun v2 h2 =>
 bnd (aA v2 h2) fun v3 h3 =>
 bnd (aV x5 h3) fun v4 h4 =>
 bnd (aB 1 v4 h4) fun v5 h5 =>
 bnd (aA v5 h5) fun v6 h6 =>
 bnd (aG 1 v6 (.i .i64 (Int.ofNat 1)) h6) fun v7 h7 =>
 bnd (aA v7 h7) fun v8 h8 =>
 bnd (r 32 [x5,x9,v8] h8) fun v9 h9 =>
 cnd (aX (aA v2 h9) v3 && true) (
 bnd (aF 0 v9 h9) fun v10 h10 =>
 bnd (aF 1 v9 h10) fun v11 h11 =>
 bnd (aG 1 v3 (.i .i64 (Int.ofNat 1)) h11) fun v12 h12 =>
 bnd (aJ 1 v12 v10 h12) fun v13 h13 =>
 bnd (aV x5 h13) fun v14 h14 =>
 bnd (aB 3 v14 h14) fun v15 h15 =>
 bnd (aA v15 h15) fun v16 h16 =>
 bnd (aB 0 x8 h16) fun v17 h17 =>
 bnd (aA v17 h17) fun v18 h18 =>
 bnd (fW .string v16 v18 x9 h18) fun v19 h19 =>
  bF r n kk11 x4 x5 x59 x60 x61 h19)
def bGf (r : RT) (n : Nat) (kk11 : cN) (kk25 : bCx) (x4 x5 x8 x9 x59 x60 x61 x117 x118 x119 : DV) (h0 : Hp) : aH :=
 bnd (aC .lss x119 x118 h0) fun v1 h1 =>
 aR v1 (
 bnd (aG 1 x117 x119 h1) fun v2 h2 =>
 bnd (aA v2 h2) fun v3 h3 =>
 bnd (oB [x4,x9,x119,v3] h3) fun v4 h4 =>
 bnd (aC .add x119 (.i .i64 (Int.ofNat 1)) h4) fun v5 h5 =>
      kk25 x4 x5 x8 x9 x59 x60 x61 x117 x118 v5 h5) (
      fG r n kk11 x4 x5 x8 x9 x59 x60 x61 h1)
def xC (r : RT) (n : Nat) (kk11 : cN) (m : Nat) : bCx :=
 Nat.rec (motive:=fun _=>bCx) (fun _ _ _ _ _ _ _ _ _ _ _=>none) (fun _ ih=>bGf r n kk11 ih) m
def bZa (r : RT) (n : Nat) (kk11 : cN) : bCx:=xC r n kk11 n
def zT (r : RT) (n : Nat) (kk11 : cN) (x4 x5 x8 x9 x59 x60 x61 x117 x118 x119 : DV) (h0 : Hp) : aH :=
 bZa r n kk11 x4 x5 x8 x9 x59 x60 x61 x117 x118 x119 h0
def aLa (r : RT) (n : Nat) (kk11 : cN) (x4 x5 x8 x9 x10 x12 x13 x19 x59 x60 x61 : DV) (h0 : Hp) : aH :=
 bnd (r 30 [x13] (resv 1 h0)) fun v1 h1 =>
 bnd (aB 2 x8 h1) fun v2 h2 =>
 bnd (aA v2 h2) fun v3 h3 =>
 cnd (aX (aA v2 (resv 1 h0)) v3 && true) (
 bnd (r 30 [v3] h3) fun v4 h4 =>
 bnd (bL (bX 0 h0.next) [(.i .i64 (Int.ofNat 0)),(.i .i64 (Int.ofNat 0)),(.i .i64 (Int.ofNat 0)),(.i .i64 (Int.ofNat 0)),(.i .i64 (Int.ofNat 0)),(.i .i64 (Int.ofNat 0))] 6 [(0,1,x10),(1,1,x12),(2,1,v1),(3,1,x19),(4,1,(.i .i64 (Int.ofNat 0))),(5,1,v4)] h4) fun v5 h5 =>
 bnd (bM v5 h5) fun v6 h6 =>
  zT r n kk11 x4 x5 x8 x9 x59 x60 x61 v5 v6 (.i .i64 (Int.ofNat 0)) h6)
def pS (r : RT) (n : Nat) (kk11 : cN) (x4 x5 x8 x9 x10 x12 x13 x14 x59 x60 x61 : DV) (h0 : Hp) : aH :=
 bnd (r 29 [x5,x14] h0) fun v1 h1 =>
 bnd (aF 0 v1 h1) fun v2 h2 =>
 bnd (aF 1 v1 h2) fun v3 h3 =>
  aLa r n kk11 x4 x5 x8 x9 x10 x12 x13 v2 x59 x60 x61 h3
def aDb (r : RT) (n : Nat) (kk11 : cN) (x4 x5 x7 x8 x9 x10 x12 x13 x14 x59 x60 x61 : DV) (h0 : Hp) : aH :=
 bnd (aC .eql x7 (.i .i64 (Int.ofNat 15)) h0) fun v1 h1 =>
 aR v1 (
 bnd (r 28 [x5,(.s [115,101,108,101,99,116,111,114])] h1) fun v2 h2 =>
 bnd (aF 0 v2 h2) fun v3 h3 =>
 bnd (aF 1 v2 h3) fun v4 h4 =>
 bnd (r 28 [x5,(.s [97,114,103,117,109,101,110,116,115])] h4) fun v5 h5 =>
 bnd (aF 0 v5 h5) fun v6 h6 =>
 bnd (aF 1 v5 h6) fun v7 h7 =>
 bnd (aS [(.i .i64 (Int.ofNat 0)),(.i .i64 (Int.ofNat 0))] 2 [(0,1,v3),(1,1,v6)] h7) fun v8 h8 =>
  pS r n kk11 x4 x5 x8 x9 x10 x12 (.i .i64 (Int.ofNat 2)) v8 x59 x60 x61 h8) (
  pS r n kk11 x4 x5 x8 x9 x10 x12 x13 x14 x59 x60 x61 h1)
def bAa (r : RT) (n : Nat) (kk11 : cN) (x4 x5 x7 x8 x9 x10 x12 x13 x14 x59 x60 x61 : DV) (h0 : Hp) : aH :=
 bnd (aB 1 x8 h0) fun v1 h1 =>
 bnd (aA v1 h1) fun v2 h2 =>
 bnd (aC .geq v2 (.i .i64 (Int.ofNat 0)) h2) fun v3 h3 =>
 aR v3 (
 bnd (aB 1 x8 h3) fun v4 h4 =>
 bnd (aA v4 h4) fun v5 h5 =>
 bnd (r 26 [x5,v5] h5) fun v6 h6 =>
  aDb r n kk11 x4 x5 x7 x8 x9 x10 v6 x13 x14 x59 x60 x61 h6) (
  aDb r n kk11 x4 x5 x7 x8 x9 x10 x12 x13 x14 x59 x60 x61 h3)
def aWl (r : RT) (n : Nat) (kk11 : cN) (x4 x5 x7 x8 x9 x10 x59 x60 x61 : DV) (h0 : Hp) : aH :=
 bAa r n kk11 x4 x5 x7 x8 x9 x10 (.i .i64 (Int.ofNat 0)) (.i .i64 (Int.ofNat 0)) .l0 x59 x60 x61 h0
def aWj (r : RT) (n : Nat) (kk11 : cN) (x4 x5 x7 x8 x9 x59 x60 x61 : DV) (h0 : Hp) : aH :=
 bnd (aB 0 x8 h0) fun v1 h1 =>
 bnd (aA v1 h1) fun v2 h2 =>
 bnd (r 28 [x5,v2] h2) fun v3 h3 =>
 bnd (aF 0 v3 h3) fun v4 h4 =>
 bnd (aF 1 v3 h4) fun v5 h5 =>
  aWl r n kk11 x4 x5 x7 x8 x9 v4 x59 x60 x61 h5
def aWe (r : RT) (n : Nat) (kk11 : cN) (x4 x5 x7 x8 x9 x59 x60 x61 : DV) (h0 : Hp) : aH :=
 bnd (r 26 [x5,(.i .i64 (Int.ofNat 1))] h0) fun v1 h1 =>
 bnd (kJ [x4,x9,v1] h1) fun v2 h2 =>
  aWj r n kk11 x4 x5 x7 x8 x9 x59 x60 x61 h2
def aAi (r : RT) (n : Nat) (kk11 : cN) (x4 x5 x7 x8 x59 x60 x61 : DV) (h0 : Hp) : aH :=
 bnd (r 26 [x5,x7] h0) fun v1 h1 =>
  aWe r n kk11 x4 x5 x7 x8 v1 x59 x60 x61 h1
def aNh (r : RT) (n : Nat) (kk11 : cN) (x4 x5 x59 x60 x61 : DV) (h0 : Hp) : aH :=
 bnd (aG 3 x59 x61 h0) fun v1 h1 =>
 bnd (aK 3 v1 h1) fun v2 h2 =>
 bnd (bQ [(.s []),(.i .i64 (Int.ofNat 0)),(.i .i64 (Int.ofNat 0))] h2) fun v3 h3 =>
 bnd (aJ 3 v3 v2 h3) fun _ h4 =>
  aAi r n kk11 x4 x5 x61 v3 x59 x60 x61 h4
def bCy (r : RT) (n : Nat) (kk11 : cN) (x4 x5 x59 x60 x61 x62 : DV) (h0 : Hp) : aH :=
 aR x62 (
  aNh r n kk11 x4 x5 x59 x60 x61 h0) (
  bK r n x5 h0)
def bOu (r : RT) (n : Nat) (kk11 : cN) (x4 x5 x59 x60 x61 : DV) (h0 : Hp) : aH :=
 bnd (aC .lss x61 x60 h0) fun v1 h1 =>
  bCy r n kk11 x4 x5 x59 x60 x61 v1 h1
def wP (r : RT) (n : Nat) (m : Nat) : cN :=
 Nat.rec (motive:=fun _=>cN) (fun _ _ _ _ _ _=>none) (fun _ ih=>bOu r n ih) m
def cLq (r : RT) (n : Nat) : cN:=wP r n n
def bAc (r : RT) (n : Nat) (x4 x5 x59 x60 x61 : DV) (h0 : Hp) : aH :=
 cLq r n x4 x5 x59 x60 x61 h0
def iL (r : RT) (n : Nat) (x4 x5 : DV) (h0 : Hp) : aH :=
 bnd (r 25 [] h0) fun v1 h1 =>
 bnd (bM v1 h1) fun v2 h2 =>
  bAc r n x4 x5 v1 v2 (.i .i64 (Int.ofNat 0)) h2
def bKx (r : RT) (n : Nat) (kk27 : jS) (x4 x5 x43 : DV) (h0 : Hp) : aH :=
 bnd (aC .lss x43 (.i .i64 (Int.ofNat 16)) h0) fun v1 h1 =>
 aR v1 (
 bnd (aV x5 h1) fun v2 h2 =>
 bnd (aB 1 v2 h2) fun v3 h3 =>
 bnd (aA v3 h3) fun v4 h4 =>
 bnd (aC .add (.i .i64 (Int.ofNat 2)) x43 h4) fun v5 h5 =>
 bnd (nF [x4,(.i .i64 (Int.ofNat 0)),(.i .i64 (Int.ofNat 0)),(.i .i64 (Int.ofNat 6))] h5) fun v6 h6 =>
 cnd (aX (aA v3 h6) v4 && true) (
 bnd (aF 0 v6 h6) fun v7 h7 =>
 bnd (aF 1 v6 h7) fun v8 h8 =>
 bnd (aG 1 v4 v5 h8) fun v9 h9 =>
 bnd (aJ 1 v9 v7 h9) fun v10 h10 =>
 bnd (aC .add x43 (.i .i64 (Int.ofNat 1)) h10) fun v11 h11 =>
      kk27 x4 x5 v11 h11)) (
      iL r n x4 x5 h1)
def xZ (r : RT) (n : Nat) (m : Nat) : jS :=
 Nat.rec (motive:=fun _=>jS) (fun _ _ _ _=>none) (fun _ ih=>bKx r n ih) m
def cMi (r : RT) (n : Nat) : jS:=xZ r n n
def bCr (r : RT) (n : Nat) (x4 x5 x43 : DV) (h0 : Hp) : aH :=
 cMi r n x4 x5 x43 h0
def aVt (r : RT) (n : Nat) (x4 x5 : DV) (h0 : Hp) : aH :=
 bCr r n x4 x5 (.i .i64 (Int.ofNat 0)) h0
def bPd (r : RT) (n : Nat) (x4 : DV) (h0 : Hp) : aH :=
 bnd (cI 1 8 [(.i .i64 (Int.ofNat 0))] (.i .i64 (Int.ofNat 18)) (.i .i64 (Int.ofNat 18)) h0) fun v1 h1 =>
 bnd (eE h1) fun v2 h2 =>
 bnd (eE h2) fun v3 h3 =>
 bnd (aY [.p0,.l0,.m0,.m0] [(0,1,x4),(1,1,v1),(2,1,v2),(3,1,v3)] h3) fun v4 h4 =>
 bnd (bZ v4 h4) fun v5 h5 =>
  aVt r n x4 v5 h5
def cGi (r : RT) (n : Nat) (x0 x4 : DV) (h0 : Hp) : aH :=
 bnd (pEq (.pointer 107) true x4 .p0 h0) fun v1 h1 =>
 aR v1 (
 some (.t [.p0,(.i .i64 (Int.ofNat 1))],h1)) (
 bnd (aC .lss x0 (.i .i64 (Int.ofNat 16384)) h1) fun v2 h2 =>
 aR v2 (
 some (.t [.p0,(.i .i64 (Int.ofNat 4))],h2)) (
   bPd r n x4 h2))
def cAg (r : RT) (n : Nat) (x0 : DV) (h0 : Hp) : aH :=
 bnd (aRx [x0] h0) fun v1 h1 =>
  cGi r n x0 v1 h1
def s11 (r : RT) (n : Nat) (x0 : DV) (h0 : Hp) : aH :=
 cAg r n x0 h0
abbrev c11 : Code:=cf Tryz.f11
abbrev bJd : Code:=cR c11
abbrev bJs : Code:=cR bJd
abbrev bMt : Code:=cR bJs
abbrev bPt : Code:=cR bMt
abbrev bMe : Code:=cR bPt
abbrev bKl : Code:=cR bMe
abbrev eUk : Code:=cR bKl
abbrev aUz : Code:=cL bKl
abbrev cFm : Code:=cR aUz
abbrev aRi : Code:=cL cFm
abbrev qK : Code:=cL aRi
abbrev cOm : Code:=cL aUz
abbrev aAg : Code:=cL bMe
abbrev bAg : Code:=cR aAg
abbrev aLi : Code:=cL bAg
abbrev lT : Code:=cL aLi
abbrev aPb : Code:=cR lT
abbrev aIb : Code:=cR aPb
abbrev eEe : Code:=cR aIb
abbrev aMg : Code:=cL aIb
abbrev aQt : Code:=cL aMg
abbrev aKe : Code:=cR aQt
abbrev aOc : Code:=cR aKe
abbrev aNg : Code:=cR aOc
abbrev aMk : Code:=cR aNg
abbrev aGn : Code:=cR aMk
abbrev aQr : Code:=cR aGn
abbrev aOg : Code:=cR aQr
abbrev aLk : Code:=cR aOg
abbrev eGo : Code:=cR aLk
abbrev aEd : Code:=cL aLk
abbrev bAz : Code:=cR aEd
abbrev aPl : Code:=cL bAz
abbrev qJ : Code:=cL aPl
abbrev aYg : Code:=cL aEd
abbrev cTe : Code:=cL aOg
abbrev bBo : Code:=cL aQr
abbrev cMe : Code:=cL aGn
abbrev cUa : Code:=cL aMk
abbrev cKn : Code:=cL aNg
abbrev cCg : Code:=cL aOc
abbrev cNi : Code:=cL aKe
abbrev bAj : Code:=cL aQt
abbrev cOs : Code:=cL aPb
abbrev cLs : Code:=cL lT
abbrev cEc : Code:=cL aAg
abbrev aAq : Code:=cL bPt
abbrev aXt : Code:=cR aAq
abbrev aJu : Code:=cL aXt
abbrev qG : Code:=cL aJu
abbrev cAm : Code:=cL aAq
abbrev bBu : Code:=cL bMt
abbrev bZm : Code:=cL bJs
abbrev cPb : Code:=cL bJd
abbrev cRb : Code:=cL c11
abbrev r11 : K:=bE CF Tryz.f11
def D11 (r : RT) (n : Nat) (c : Code) (X : Nat → K) (k : K) : K:=aW CF r 179 n c X r11 k
theorem cTl : D11 r n eUk x0 r11 = (K1 (fO r n) 5) :=
 (by kernel_rfl)
theorem bJp (kk9 : dG) : D11 r n qK (xs x0 7 (K1 (fO r n) 5)) (K4 kk9 5 155 156 157) = (K4 (lO r n kk9) 5 155 156 157) :=
 (by kernel_rfl)
theorem dPp (m : Nat) : aM (fun kk=>D11 r n qK (xs x0 7 (K1 (fO r n) 5)) kk) m = (K4 (lH r n m) 5 155 156 157):=by
 induction m with
 | zero=>exact (by kernel_rfl : aM (fun kk=>D11 r n qK (xs x0 7 (K1 (fO r n) 5)) kk) 0 = (K4 (lH r n 0) 5 155 156 157))
 | succ m ih =>
  refine (by kernel_rfl : aM (fun kk=>D11 r n qK (xs x0 7 (K1 (fO r n) 5)) kk) (m + 1) = D11 r n qK (xs x0 7 (K1 (fO r n) 5)) (aM (fun kk=>D11 r n qK (xs x0 7 (K1 (fO r n) 5)) kk) m)).trans ?_
  rw [ih]
  exact (bJp r n (lH r n m)).trans (by kernel_rfl)
theorem cOl : D11 r n aRi (xs x0 7 (K1 (fO r n) 5)) (K1 (fO r n) 5) = (K4 (bOp r n) 5 155 156 157) :=
 (by kernel_rfl : D11 r n aRi (xs x0 7 (K1 (fO r n) 5)) (K1 (fO r n) 5) = aM (fun kk=>D11 r n qK (xs x0 7 (K1 (fO r n) 5)) kk) n).trans ((dPp r n n).trans (by kernel_rfl))
theorem dZc : D11 r n cFm x0 (K1 (fO r n) 5) = (K4 (cDq r n) 5 155 156 157) :=
 (by kernel_rfl : D11 r n cFm x0 (K1 (fO r n) 5) = D11 r n aRi (xs x0 7 (K1 (fO r n) 5)) (K1 (fO r n) 5)).trans
 ((cOl r n).trans (by kernel_rfl))
theorem dOy : D11 r n bKl x0 r11 = D11 r n aUz x0 (K1 (fO r n) 5) :=
 congrArg (fun k=>D11 r n aUz x0 k) (cTl r n)
theorem dNg : D11 r n aUz x0 (K1 (fO r n) 5) = D11 r n cOm x0 (K4 (cDq r n) 5 155 156 157) :=
 congrArg (fun k=>D11 r n cOm x0 k) (dZc r n)
theorem eFp : D11 r n bKl x0 r11 = (K1 (bK r n) 5) :=
 (dOy r n).trans
 ((dNg r n).trans
 ((by kernel_rfl)))
theorem cXy (kk11 : cN) : D11 r n eEe (xs x0 3 (K1 (bK r n) 5)) (K5 kk11 4 5 59 60 61) = (K5 (bF r n kk11) 4 5 59 60 61) :=
 (by kernel_rfl)
theorem dPd (kk11 : cN) : D11 r n eGo (xs (xs x0 3 (K1 (bK r n) 5)) 4 (K5 (bF r n kk11) 4 5 59 60 61)) (K5 (bF r n kk11) 4 5 59 60 61) = (K7 (fG r n kk11) 4 5 8 9 59 60 61) :=
 (by kernel_rfl)
theorem cPu (kk11 : cN) (kk25 : bCx) : D11 r n qJ (xs (xs (xs x0 3 (K1 (bK r n) 5)) 4 (K5 (bF r n kk11) 4 5 59 60 61)) 5 (K7 (fG r n kk11) 4 5 8 9 59 60 61)) (K10 kk25 4 5 8 9 59 60 61 117 118 119) = (K10 (bGf r n kk11 kk25) 4 5 8 9 59 60 61 117 118 119) :=
 (by kernel_rfl)
theorem cAz (kk11 : cN) (m : Nat) : aM (fun kk=>D11 r n qJ (xs (xs (xs x0 3 (K1 (bK r n) 5)) 4 (K5 (bF r n kk11) 4 5 59 60 61)) 5 (K7 (fG r n kk11) 4 5 8 9 59 60 61)) kk) m = (K10 (xC r n kk11 m) 4 5 8 9 59 60 61 117 118 119):=by
 induction m with
 | zero=>exact (by kernel_rfl : aM (fun kk=>D11 r n qJ (xs (xs (xs x0 3 (K1 (bK r n) 5)) 4 (K5 (bF r n kk11) 4 5 59 60 61)) 5 (K7 (fG r n kk11) 4 5 8 9 59 60 61)) kk) 0 = (K10 (xC r n kk11 0) 4 5 8 9 59 60 61 117 118 119))
 | succ m ih =>
  refine (by kernel_rfl : aM (fun kk=>D11 r n qJ (xs (xs (xs x0 3 (K1 (bK r n) 5)) 4 (K5 (bF r n kk11) 4 5 59 60 61)) 5 (K7 (fG r n kk11) 4 5 8 9 59 60 61)) kk) (m + 1) = D11 r n qJ (xs (xs (xs x0 3 (K1 (bK r n) 5)) 4 (K5 (bF r n kk11) 4 5 59 60 61)) 5 (K7 (fG r n kk11) 4 5 8 9 59 60 61)) (aM (fun kk=>D11 r n qJ (xs (xs (xs x0 3 (K1 (bK r n) 5)) 4 (K5 (bF r n kk11) 4 5 59 60 61)) 5 (K7 (fG r n kk11) 4 5 8 9 59 60 61)) kk) m)).trans ?_
  rw [ih]
  exact (cPu r n kk11 (xC r n kk11 m)).trans (by kernel_rfl)
theorem dOw (kk11 : cN) : D11 r n aPl (xs (xs (xs x0 3 (K1 (bK r n) 5)) 4 (K5 (bF r n kk11) 4 5 59 60 61)) 5 (K7 (fG r n kk11) 4 5 8 9 59 60 61)) (K7 (fG r n kk11) 4 5 8 9 59 60 61) = (K10 (bZa r n kk11) 4 5 8 9 59 60 61 117 118 119) :=
 (by kernel_rfl : D11 r n aPl (xs (xs (xs x0 3 (K1 (bK r n) 5)) 4 (K5 (bF r n kk11) 4 5 59 60 61)) 5 (K7 (fG r n kk11) 4 5 8 9 59 60 61)) (K7 (fG r n kk11) 4 5 8 9 59 60 61) = aM (fun kk=>D11 r n qJ (xs (xs (xs x0 3 (K1 (bK r n) 5)) 4 (K5 (bF r n kk11) 4 5 59 60 61)) 5 (K7 (fG r n kk11) 4 5 8 9 59 60 61)) kk) n).trans ((cAz r n kk11 n).trans (by kernel_rfl))
theorem dLa (kk11 : cN) : D11 r n bAz (xs (xs x0 3 (K1 (bK r n) 5)) 4 (K5 (bF r n kk11) 4 5 59 60 61)) (K7 (fG r n kk11) 4 5 8 9 59 60 61) = (K10 (zT r n kk11) 4 5 8 9 59 60 61 117 118 119) :=
 (by kernel_rfl : D11 r n bAz (xs (xs x0 3 (K1 (bK r n) 5)) 4 (K5 (bF r n kk11) 4 5 59 60 61)) (K7 (fG r n kk11) 4 5 8 9 59 60 61) = D11 r n aPl (xs (xs (xs x0 3 (K1 (bK r n) 5)) 4 (K5 (bF r n kk11) 4 5 59 60 61)) 5 (K7 (fG r n kk11) 4 5 8 9 59 60 61)) (K7 (fG r n kk11) 4 5 8 9 59 60 61)).trans
 ((dOw r n kk11).trans (by kernel_rfl))
theorem cBm (kk11 : cN) : D11 r n aLk (xs (xs x0 3 (K1 (bK r n) 5)) 4 (K5 (bF r n kk11) 4 5 59 60 61)) (K5 (bF r n kk11) 4 5 59 60 61) = D11 r n aEd (xs (xs x0 3 (K1 (bK r n) 5)) 4 (K5 (bF r n kk11) 4 5 59 60 61)) (K7 (fG r n kk11) 4 5 8 9 59 60 61) :=
 congrArg (fun k=>D11 r n aEd (xs (xs x0 3 (K1 (bK r n) 5)) 4 (K5 (bF r n kk11) 4 5 59 60 61)) k) (dPd r n kk11)
theorem cVs (kk11 : cN) : D11 r n aEd (xs (xs x0 3 (K1 (bK r n) 5)) 4 (K5 (bF r n kk11) 4 5 59 60 61)) (K7 (fG r n kk11) 4 5 8 9 59 60 61) = D11 r n aYg (xs (xs x0 3 (K1 (bK r n) 5)) 4 (K5 (bF r n kk11) 4 5 59 60 61)) (K10 (zT r n kk11) 4 5 8 9 59 60 61 117 118 119) :=
 congrArg (fun k=>D11 r n aYg (xs (xs x0 3 (K1 (bK r n) 5)) 4 (K5 (bF r n kk11) 4 5 59 60 61)) k) (dLa r n kk11)
theorem cMa (kk11 : cN) (q0 : bCx) (q1 : TT1) (q2 : cN) : D11 r n aYg (xs (xs x0 3 (K1 q1 5)) 4 (K5 q2 4 5 59 60 61)) (K10 q0 4 5 8 9 59 60 61 117 118 119) = fun (env : aZ) (h : Hp) =>
 bnd (r 30 [(env 13)] (resv 1 h)) fun v1 h1 =>
 bnd (aB 2 (env 8) h1) fun v2 h2 =>
 bnd (aA v2 h2) fun v3 h3 =>
 cnd (aX (aA v2 (resv 1 h)) v3 && true) (
 bnd (r 30 [v3] h3) fun v4 h4 =>
 bnd (bL (bX 0 h.next) [(.i .i64 (Int.ofNat 0)),(.i .i64 (Int.ofNat 0)),(.i .i64 (Int.ofNat 0)),(.i .i64 (Int.ofNat 0)),(.i .i64 (Int.ofNat 0)),(.i .i64 (Int.ofNat 0))] 6 [(0,1,(env 10)),(1,1,(env 12)),(2,1,v1),(3,1,(env 19)),(4,1,(.i .i64 (Int.ofNat 0))),(5,1,v4)] h4) fun v5 h5 =>
 bnd (bM v5 h5) fun v6 h6 =>
  q0 (env 4) (env 5) (env 8) (env 9) (env 59) (env 60) (env 61) v5 v6 (.i .i64 (Int.ofNat 0)) h6):=by kernel_rfl
theorem bQr (kk11 : cN) : (fun (env : aZ) (h : Hp) =>
 bnd (r 30 [(env 13)] (resv 1 h)) fun v1 h1 =>
 bnd (aB 2 (env 8) h1) fun v2 h2 =>
 bnd (aA v2 h2) fun v3 h3 =>
 cnd (aX (aA v2 (resv 1 h)) v3 && true) (
 bnd (r 30 [v3] h3) fun v4 h4 =>
 bnd (bL (bX 0 h.next) [(.i .i64 (Int.ofNat 0)),(.i .i64 (Int.ofNat 0)),(.i .i64 (Int.ofNat 0)),(.i .i64 (Int.ofNat 0)),(.i .i64 (Int.ofNat 0)),(.i .i64 (Int.ofNat 0))] 6 [(0,1,(env 10)),(1,1,(env 12)),(2,1,v1),(3,1,(env 19)),(4,1,(.i .i64 (Int.ofNat 0))),(5,1,v4)] h4) fun v5 h5 =>
 bnd (bM v5 h5) fun v6 h6 =>
  zT r n kk11 (env 4) (env 5) (env 8) (env 9) (env 59) (env 60) (env 61) v5 v6 (.i .i64 (Int.ofNat 0)) h6)) = (K11 (aLa r n kk11) 4 5 8 9 10 12 13 19 59 60 61):=by kernel_rfl
theorem dCi (kk11 : cN) : D11 r n aLk (xs (xs x0 3 (K1 (bK r n) 5)) 4 (K5 (bF r n kk11) 4 5 59 60 61)) (K5 (bF r n kk11) 4 5 59 60 61) = (K11 (aLa r n kk11) 4 5 8 9 10 12 13 19 59 60 61) :=
 (cBm r n kk11).trans
 ((cVs r n kk11).trans
 ((cMa r n kk11 (zT r n kk11) (bK r n) (bF r n kk11)).trans (bQr r n kk11)))
theorem cIo (kk11 : cN) : D11 r n aOg (xs (xs x0 3 (K1 (bK r n) 5)) 4 (K5 (bF r n kk11) 4 5 59 60 61)) (K5 (bF r n kk11) 4 5 59 60 61) = D11 r n cTe (xs (xs x0 3 (K1 (bK r n) 5)) 4 (K5 (bF r n kk11) 4 5 59 60 61)) (K11 (aLa r n kk11) 4 5 8 9 10 12 13 19 59 60 61) :=
 congrArg (fun k=>D11 r n cTe (xs (xs x0 3 (K1 (bK r n) 5)) 4 (K5 (bF r n kk11) 4 5 59 60 61)) k) (dCi r n kk11)
theorem dJg (kk11 : cN) : D11 r n aOg (xs (xs x0 3 (K1 (bK r n) 5)) 4 (K5 (bF r n kk11) 4 5 59 60 61)) (K5 (bF r n kk11) 4 5 59 60 61) = (K11 (pS r n kk11) 4 5 8 9 10 12 13 14 59 60 61) :=
 (cIo r n kk11).trans
 ((by kernel_rfl))
theorem cWz (kk11 : cN) : D11 r n aQr (xs (xs x0 3 (K1 (bK r n) 5)) 4 (K5 (bF r n kk11) 4 5 59 60 61)) (K5 (bF r n kk11) 4 5 59 60 61) = D11 r n bBo (xs (xs x0 3 (K1 (bK r n) 5)) 4 (K5 (bF r n kk11) 4 5 59 60 61)) (K11 (pS r n kk11) 4 5 8 9 10 12 13 14 59 60 61) :=
 congrArg (fun k=>D11 r n bBo (xs (xs x0 3 (K1 (bK r n) 5)) 4 (K5 (bF r n kk11) 4 5 59 60 61)) k) (dJg r n kk11)
theorem cFo (kk11 : cN) (q0 : eOk) (q1 : TT1) (q2 : cN) : D11 r n bBo (xs (xs x0 3 (K1 q1 5)) 4 (K5 q2 4 5 59 60 61)) (K11 q0 4 5 8 9 10 12 13 14 59 60 61) = fun (env : aZ) (h : Hp) =>
 bnd (aC .eql (env 7) (.i .i64 (Int.ofNat 15)) h) fun v1 h1 =>
 aR v1 (
 bnd (r 28 [(env 5),(.s [115,101,108,101,99,116,111,114])] h1) fun v2 h2 =>
 bnd (aF 0 v2 h2) fun v3 h3 =>
 bnd (aF 1 v2 h3) fun v4 h4 =>
 bnd (r 28 [(env 5),(.s [97,114,103,117,109,101,110,116,115])] h4) fun v5 h5 =>
 bnd (aF 0 v5 h5) fun v6 h6 =>
 bnd (aF 1 v5 h6) fun v7 h7 =>
 bnd (aS [(.i .i64 (Int.ofNat 0)), (.i .i64 (Int.ofNat 0))] 2 [(0, 1, v3), (1, 1, v6)] h7) fun v8 h8 =>
      q0 (env 4) (env 5) (env 8) (env 9) (env 10) (env 12) (.i .i64 (Int.ofNat 2)) v8 (env 59) (env 60) (env 61) h8) (
      q0 (env 4) (env 5) (env 8) (env 9) (env 10) (env 12) (env 13) (env 14) (env 59) (env 60) (env 61) h1):=by kernel_rfl
theorem bWj (kk11 : cN) : (fun (env : aZ) (h : Hp) =>
 bnd (aC .eql (env 7) (.i .i64 (Int.ofNat 15)) h) fun v1 h1 =>
 aR v1 (
 bnd (r 28 [(env 5),(.s [115,101,108,101,99,116,111,114])] h1) fun v2 h2 =>
 bnd (aF 0 v2 h2) fun v3 h3 =>
 bnd (aF 1 v2 h3) fun v4 h4 =>
 bnd (r 28 [(env 5),(.s [97,114,103,117,109,101,110,116,115])] h4) fun v5 h5 =>
 bnd (aF 0 v5 h5) fun v6 h6 =>
 bnd (aF 1 v5 h6) fun v7 h7 =>
 bnd (aS [(.i .i64 (Int.ofNat 0)), (.i .i64 (Int.ofNat 0))] 2 [(0, 1, v3), (1, 1, v6)] h7) fun v8 h8 =>
      pS r n kk11 (env 4) (env 5) (env 8) (env 9) (env 10) (env 12) (.i .i64 (Int.ofNat 2)) v8 (env 59) (env 60) (env 61) h8) (
      pS r n kk11 (env 4) (env 5) (env 8) (env 9) (env 10) (env 12) (env 13) (env 14) (env 59) (env 60) (env 61) h1)) = (K12 (aDb r n kk11) 4 5 7 8 9 10 12 13 14 59 60 61):=by kernel_rfl
theorem dAe (kk11 : cN) : D11 r n aQr (xs (xs x0 3 (K1 (bK r n) 5)) 4 (K5 (bF r n kk11) 4 5 59 60 61)) (K5 (bF r n kk11) 4 5 59 60 61) = (K12 (aDb r n kk11) 4 5 7 8 9 10 12 13 14 59 60 61) :=
 (cWz r n kk11).trans
 ((cFo r n kk11 (pS r n kk11) (bK r n) (bF r n kk11)).trans (bWj r n kk11))
theorem cEf (kk11 : cN) : D11 r n aGn (xs (xs x0 3 (K1 (bK r n) 5)) 4 (K5 (bF r n kk11) 4 5 59 60 61)) (K5 (bF r n kk11) 4 5 59 60 61) = D11 r n cMe (xs (xs x0 3 (K1 (bK r n) 5)) 4 (K5 (bF r n kk11) 4 5 59 60 61)) (K12 (aDb r n kk11) 4 5 7 8 9 10 12 13 14 59 60 61) :=
 congrArg (fun k=>D11 r n cMe (xs (xs x0 3 (K1 (bK r n) 5)) 4 (K5 (bF r n kk11) 4 5 59 60 61)) k) (dAe r n kk11)
theorem cYl (kk11 : cN) : D11 r n aGn (xs (xs x0 3 (K1 (bK r n) 5)) 4 (K5 (bF r n kk11) 4 5 59 60 61)) (K5 (bF r n kk11) 4 5 59 60 61) = (K12 (bAa r n kk11) 4 5 7 8 9 10 12 13 14 59 60 61) :=
 (cEf r n kk11).trans
 ((by kernel_rfl))
theorem bRx (kk11 : cN) : D11 r n aMk (xs (xs x0 3 (K1 (bK r n) 5)) 4 (K5 (bF r n kk11) 4 5 59 60 61)) (K5 (bF r n kk11) 4 5 59 60 61) = D11 r n cUa (xs (xs x0 3 (K1 (bK r n) 5)) 4 (K5 (bF r n kk11) 4 5 59 60 61)) (K12 (bAa r n kk11) 4 5 7 8 9 10 12 13 14 59 60 61) :=
 congrArg (fun k=>D11 r n cUa (xs (xs x0 3 (K1 (bK r n) 5)) 4 (K5 (bF r n kk11) 4 5 59 60 61)) k) (cYl r n kk11)
theorem dAn (kk11 : cN) : D11 r n aMk (xs (xs x0 3 (K1 (bK r n) 5)) 4 (K5 (bF r n kk11) 4 5 59 60 61)) (K5 (bF r n kk11) 4 5 59 60 61) = (K9 (aWl r n kk11) 4 5 7 8 9 10 59 60 61) :=
 (bRx r n kk11).trans
 ((by kernel_rfl))
theorem bRj (kk11 : cN) : D11 r n aNg (xs (xs x0 3 (K1 (bK r n) 5)) 4 (K5 (bF r n kk11) 4 5 59 60 61)) (K5 (bF r n kk11) 4 5 59 60 61) = D11 r n cKn (xs (xs x0 3 (K1 (bK r n) 5)) 4 (K5 (bF r n kk11) 4 5 59 60 61)) (K9 (aWl r n kk11) 4 5 7 8 9 10 59 60 61) :=
 congrArg (fun k=>D11 r n cKn (xs (xs x0 3 (K1 (bK r n) 5)) 4 (K5 (bF r n kk11) 4 5 59 60 61)) k) (dAn r n kk11)
theorem dOu (kk11 : cN) : D11 r n aNg (xs (xs x0 3 (K1 (bK r n) 5)) 4 (K5 (bF r n kk11) 4 5 59 60 61)) (K5 (bF r n kk11) 4 5 59 60 61) = (K8 (aWj r n kk11) 4 5 7 8 9 59 60 61) :=
 (bRj r n kk11).trans
 ((by kernel_rfl))
theorem bRr (kk11 : cN) : D11 r n aOc (xs (xs x0 3 (K1 (bK r n) 5)) 4 (K5 (bF r n kk11) 4 5 59 60 61)) (K5 (bF r n kk11) 4 5 59 60 61) = D11 r n cCg (xs (xs x0 3 (K1 (bK r n) 5)) 4 (K5 (bF r n kk11) 4 5 59 60 61)) (K8 (aWj r n kk11) 4 5 7 8 9 59 60 61) :=
 congrArg (fun k=>D11 r n cCg (xs (xs x0 3 (K1 (bK r n) 5)) 4 (K5 (bF r n kk11) 4 5 59 60 61)) k) (dOu r n kk11)
theorem dGh (kk11 : cN) : D11 r n aOc (xs (xs x0 3 (K1 (bK r n) 5)) 4 (K5 (bF r n kk11) 4 5 59 60 61)) (K5 (bF r n kk11) 4 5 59 60 61) = (K8 (aWe r n kk11) 4 5 7 8 9 59 60 61) :=
 (bRr r n kk11).trans
 ((by kernel_rfl))
theorem bTy (kk11 : cN) : D11 r n aKe (xs (xs x0 3 (K1 (bK r n) 5)) 4 (K5 (bF r n kk11) 4 5 59 60 61)) (K5 (bF r n kk11) 4 5 59 60 61) = D11 r n cNi (xs (xs x0 3 (K1 (bK r n) 5)) 4 (K5 (bF r n kk11) 4 5 59 60 61)) (K8 (aWe r n kk11) 4 5 7 8 9 59 60 61) :=
 congrArg (fun k=>D11 r n cNi (xs (xs x0 3 (K1 (bK r n) 5)) 4 (K5 (bF r n kk11) 4 5 59 60 61)) k) (dGh r n kk11)
theorem cYu (kk11 : cN) : D11 r n aKe (xs (xs x0 3 (K1 (bK r n) 5)) 4 (K5 (bF r n kk11) 4 5 59 60 61)) (K5 (bF r n kk11) 4 5 59 60 61) = (K7 (aAi r n kk11) 4 5 7 8 59 60 61) :=
 (bTy r n kk11).trans
 ((by kernel_rfl))
theorem bSx (kk11 : cN) : D11 r n aIb (xs x0 3 (K1 (bK r n) 5)) (K5 kk11 4 5 59 60 61) = D11 r n aMg (xs x0 3 (K1 (bK r n) 5)) (K5 (bF r n kk11) 4 5 59 60 61) :=
 congrArg (fun k=>D11 r n aMg (xs x0 3 (K1 (bK r n) 5)) k) (cXy r n kk11)
theorem bRb (kk11 : cN) : D11 r n aQt (xs (xs x0 3 (K1 (bK r n) 5)) 4 (K5 (bF r n kk11) 4 5 59 60 61)) (K5 (bF r n kk11) 4 5 59 60 61) = D11 r n bAj (xs (xs x0 3 (K1 (bK r n) 5)) 4 (K5 (bF r n kk11) 4 5 59 60 61)) (K7 (aAi r n kk11) 4 5 7 8 59 60 61) :=
 congrArg (fun k=>D11 r n bAj (xs (xs x0 3 (K1 (bK r n) 5)) 4 (K5 (bF r n kk11) 4 5 59 60 61)) k) (cYu r n kk11)
theorem bTl (kk11 : cN) (q0 : TT7) (q1 : TT1) (q2 : cN) : D11 r n bAj (xs (xs x0 3 (K1 q1 5)) 4 (K5 q2 4 5 59 60 61)) (K7 q0 4 5 7 8 59 60 61) = fun (env : aZ) (h : Hp) =>
 bnd (aG 3 (env 59) (env 61) h) fun v1 h1 =>
 bnd (aK 3 v1 h1) fun v2 h2 =>
 bnd (bQ [(.s []),(.i .i64 (Int.ofNat 0)),(.i .i64 (Int.ofNat 0))] h2) fun v3 h3 =>
 bnd (aJ 3 v3 v2 h3) fun _ h4 =>
  q0 (env 4) (env 5) (env 61) v3 (env 59) (env 60) (env 61) h4:=by kernel_rfl
theorem bDv (kk11 : cN) : (fun (env : aZ) (h : Hp) =>
 bnd (aG 3 (env 59) (env 61) h) fun v1 h1 =>
 bnd (aK 3 v1 h1) fun v2 h2 =>
 bnd (bQ [(.s []),(.i .i64 (Int.ofNat 0)),(.i .i64 (Int.ofNat 0))] h2) fun v3 h3 =>
 bnd (aJ 3 v3 v2 h3) fun _ h4 =>
  aAi r n kk11 (env 4) (env 5) (env 61) v3 (env 59) (env 60) (env 61) h4) = (K5 (aNh r n kk11) 4 5 59 60 61):=by kernel_rfl
theorem dKo (kk11 : cN) : D11 r n aIb (xs x0 3 (K1 (bK r n) 5)) (K5 kk11 4 5 59 60 61) = (K5 (aNh r n kk11) 4 5 59 60 61) :=
 (bSx r n kk11).trans
 ((by kernel_rfl : D11 r n aMg (xs x0 3 (K1 (bK r n) 5)) (K5 (bF r n kk11) 4 5 59 60 61) = D11 r n aQt (xs (xs x0 3 (K1 (bK r n) 5)) 4 (K5 (bF r n kk11) 4 5 59 60 61)) (K5 (bF r n kk11) 4 5 59 60 61)).trans
 ((bRb r n kk11).trans
 ((bTl r n kk11 (aAi r n kk11) (bK r n) (bF r n kk11)).trans (bDv r n kk11))))
theorem bSt (kk11 : cN) : D11 r n aPb (xs x0 3 (K1 (bK r n) 5)) (K5 kk11 4 5 59 60 61) = D11 r n cOs (xs x0 3 (K1 (bK r n) 5)) (K5 (aNh r n kk11) 4 5 59 60 61) :=
 congrArg (fun k=>D11 r n cOs (xs x0 3 (K1 (bK r n) 5)) k) (dKo r n kk11)
theorem dGe (kk11 : cN) : D11 r n aPb (xs x0 3 (K1 (bK r n) 5)) (K5 kk11 4 5 59 60 61) = (K6 (bCy r n kk11) 4 5 59 60 61 62) :=
 (bSt r n kk11).trans
 ((by kernel_rfl))
theorem bTn (kk11 : cN) : D11 r n lT (xs x0 3 (K1 (bK r n) 5)) (K5 kk11 4 5 59 60 61) = D11 r n cLs (xs x0 3 (K1 (bK r n) 5)) (K6 (bCy r n kk11) 4 5 59 60 61 62) :=
 congrArg (fun k=>D11 r n cLs (xs x0 3 (K1 (bK r n) 5)) k) (dGe r n kk11)
theorem cDv (kk11 : cN) : D11 r n lT (xs x0 3 (K1 (bK r n) 5)) (K5 kk11 4 5 59 60 61) = (K5 (bOu r n kk11) 4 5 59 60 61) :=
 (bTn r n kk11).trans
 ((by kernel_rfl))
theorem cWb (m : Nat) : aM (fun kk=>D11 r n lT (xs x0 3 (K1 (bK r n) 5)) kk) m = (K5 (wP r n m) 4 5 59 60 61):=by
 induction m with
 | zero=>exact (by kernel_rfl : aM (fun kk=>D11 r n lT (xs x0 3 (K1 (bK r n) 5)) kk) 0 = (K5 (wP r n 0) 4 5 59 60 61))
 | succ m ih =>
  refine (by kernel_rfl : aM (fun kk=>D11 r n lT (xs x0 3 (K1 (bK r n) 5)) kk) (m + 1) = D11 r n lT (xs x0 3 (K1 (bK r n) 5)) (aM (fun kk=>D11 r n lT (xs x0 3 (K1 (bK r n) 5)) kk) m)).trans ?_
  rw [ih]
  exact (cDv r n (wP r n m)).trans (by kernel_rfl)
theorem dHf : D11 r n aLi (xs x0 3 (K1 (bK r n) 5)) (K1 (bK r n) 5) = (K5 (cLq r n) 4 5 59 60 61) :=
 (by kernel_rfl : D11 r n aLi (xs x0 3 (K1 (bK r n) 5)) (K1 (bK r n) 5) = aM (fun kk=>D11 r n lT (xs x0 3 (K1 (bK r n) 5)) kk) n).trans ((cWb r n n).trans (by kernel_rfl))
theorem dPs : D11 r n bAg x0 (K1 (bK r n) 5) = (K5 (bAc r n) 4 5 59 60 61) :=
 (by kernel_rfl : D11 r n bAg x0 (K1 (bK r n) 5) = D11 r n aLi (xs x0 3 (K1 (bK r n) 5)) (K1 (bK r n) 5)).trans
 ((dHf r n).trans (by kernel_rfl))
theorem cEs : D11 r n bMe x0 r11 = D11 r n aAg x0 (K1 (bK r n) 5) :=
 congrArg (fun k=>D11 r n aAg x0 k) (eFp r n)
theorem bYs : D11 r n aAg x0 (K1 (bK r n) 5) = D11 r n cEc x0 (K5 (bAc r n) 4 5 59 60 61) :=
 congrArg (fun k=>D11 r n cEc x0 k) (dPs r n)
theorem eGr : D11 r n bMe x0 r11 = (K2 (iL r n) 4 5) :=
 (cEs r n).trans
 ((bYs r n).trans
 ((by kernel_rfl)))
theorem cBr (kk27 : jS) : D11 r n qG (xs x0 1 (K2 (iL r n) 4 5)) (K3 kk27 4 5 43) = (K3 (bKx r n kk27) 4 5 43) :=
 (by kernel_rfl)
theorem cTx (m : Nat) : aM (fun kk=>D11 r n qG (xs x0 1 (K2 (iL r n) 4 5)) kk) m = (K3 (xZ r n m) 4 5 43):=by
 induction m with
 | zero=>exact (by kernel_rfl : aM (fun kk=>D11 r n qG (xs x0 1 (K2 (iL r n) 4 5)) kk) 0 = (K3 (xZ r n 0) 4 5 43))
 | succ m ih =>
  refine (by kernel_rfl : aM (fun kk=>D11 r n qG (xs x0 1 (K2 (iL r n) 4 5)) kk) (m + 1) = D11 r n qG (xs x0 1 (K2 (iL r n) 4 5)) (aM (fun kk=>D11 r n qG (xs x0 1 (K2 (iL r n) 4 5)) kk) m)).trans ?_
  rw [ih]
  exact (cBr r n (xZ r n m)).trans (by kernel_rfl)
theorem dOh : D11 r n aJu (xs x0 1 (K2 (iL r n) 4 5)) (K2 (iL r n) 4 5) = (K3 (cMi r n) 4 5 43) :=
 (by kernel_rfl : D11 r n aJu (xs x0 1 (K2 (iL r n) 4 5)) (K2 (iL r n) 4 5) = aM (fun kk=>D11 r n qG (xs x0 1 (K2 (iL r n) 4 5)) kk) n).trans ((cTx r n n).trans (by kernel_rfl))
theorem dNx : D11 r n aXt x0 (K2 (iL r n) 4 5) = (K3 (bCr r n) 4 5 43) :=
 (by kernel_rfl : D11 r n aXt x0 (K2 (iL r n) 4 5) = D11 r n aJu (xs x0 1 (K2 (iL r n) 4 5)) (K2 (iL r n) 4 5)).trans
 ((dOh r n).trans (by kernel_rfl))
theorem cDd : D11 r n bPt x0 r11 = D11 r n aAq x0 (K2 (iL r n) 4 5) :=
 congrArg (fun k=>D11 r n aAq x0 k) (eGr r n)
theorem bYh : D11 r n aAq x0 (K2 (iL r n) 4 5) = D11 r n cAm x0 (K3 (bCr r n) 4 5 43) :=
 congrArg (fun k=>D11 r n cAm x0 k) (dNx r n)
theorem eGv : D11 r n bPt x0 r11 = (K2 (aVt r n) 4 5) :=
 (cDd r n).trans
 ((bYh r n).trans
 ((by kernel_rfl)))
theorem cIw : D11 r n bMt x0 r11 = D11 r n bBu x0 (K2 (aVt r n) 4 5) :=
 congrArg (fun k=>D11 r n bBu x0 k) (eGv r n)
theorem cOa (q0 : gP) : D11 r n bBu x0 (K2 q0 4 5) = fun (env : aZ) (h : Hp) =>
 bnd (cI 1 8 [(.i .i64 (Int.ofNat 0))] (.i .i64 (Int.ofNat 18)) (.i .i64 (Int.ofNat 18)) h) fun v1 h1 =>
 bnd (eE h1) fun v2 h2 =>
 bnd (eE h2) fun v3 h3 =>
 bnd (aY [.p0,.l0,.m0,.m0] [(0,1,(env 4)),(1,1,v1),(2,1,v2),(3,1,v3)] h3) fun v4 h4 =>
 bnd (bZ v4 h4) fun v5 h5 =>
  q0 (env 4) v5 h5:=by kernel_rfl
theorem bSq : (fun (env : aZ) (h : Hp) =>
 bnd (cI 1 8 [(.i .i64 (Int.ofNat 0))] (.i .i64 (Int.ofNat 18)) (.i .i64 (Int.ofNat 18)) h) fun v1 h1 =>
 bnd (eE h1) fun v2 h2 =>
 bnd (eE h2) fun v3 h3 =>
 bnd (aY [.p0,.l0,.m0,.m0] [(0,1,(env 4)),(1,1,v1),(2,1,v2),(3,1,v3)] h3) fun v4 h4 =>
 bnd (bZ v4 h4) fun v5 h5 =>
  aVt r n (env 4) v5 h5) = (K1 (bPd r n) 4):=by kernel_rfl
theorem dVw : D11 r n bMt x0 r11 = (K1 (bPd r n) 4) :=
 (cIw r n).trans
 ((cOa r n (aVt r n)).trans (bSq r n))
theorem cTt : D11 r n bJs x0 r11 = D11 r n bZm x0 (K1 (bPd r n) 4) :=
 congrArg (fun k=>D11 r n bZm x0 k) (dVw r n)
theorem dZh : D11 r n bJs x0 r11 = (K2 (cGi r n) 0 4) :=
 (cTt r n).trans
 ((by kernel_rfl))
theorem cMx : D11 r n bJd x0 r11 = D11 r n cPb x0 (K2 (cGi r n) 0 4) :=
 congrArg (fun k=>D11 r n cPb x0 k) (dZh r n)
theorem dZj : D11 r n bJd x0 r11 = (K1 (cAg r n) 0) :=
 (cMx r n).trans
 ((by kernel_rfl))
theorem dTx : D11 r n c11 x0 r11 = D11 r n cRb x0 (K1 (cAg r n) 0) :=
 congrArg (fun k=>D11 r n cRb x0 k) (dZj r n)
theorem fAl : D11 r n c11 x0 r11 = (K1 (s11 r n) 0) :=
 (dTx r n).trans
 ((by kernel_rfl))
theorem eLe : aI CF r n 11 args h = s11 r n (bI args 0) h :=
 (by kernel_rfl : aI CF r n 11 args h = D11 r n c11 x0 r11 (aQ args) h).trans ((congrFun (congrFun (fAl r n) (aQ args)) h).trans (by kernel_rfl))
def bId (r : RT) (n : Nat) (x0 x4 : DV) (h0 : Hp) : aH :=
 bnd (aV x0 h0) fun v1 h1 =>
 bnd (aB 0 v1 h1) fun v2 h2 =>
 bnd (aA v2 h2) fun v3 h3 =>
 bnd (aV x0 h3) fun v4 h4 =>
 bnd (aB 0 v4 h4) fun v5 h5 =>
 bnd (aA v5 h5) fun v6 h6 =>
 bnd (r 26 [v6,(.i .i64 (Int.ofNat 2))] h6) fun v7 h7 =>
 cnd (aX (aA v2 h7) v3 && true) (
 bnd (aK 6 x4 h7) fun v8 h8 =>
 cnd (aX (aK 6 x4 h0) v8 && true) (
 bnd (r 44 [v3,v7,v8] h8) fun v9 h9 =>
 bnd (aF 0 v9 h9) fun v10 h10 =>
 bnd (aF 1 v9 h10) fun v11 h11 =>
 bnd (aC .neq v11 (.i .i64 (Int.ofNat 0)) h11) fun v12 h12 =>
 aR v12 (
 some (v11,h12)) (
 bnd (aB 1 x4 h12) fun v13 h13 =>
 bnd (aA v13 h13) fun v14 h14 =>
 bnd (aC .neq v14 (.i .i64 (Int.ofNat 0)) h14) fun v15 h15 =>
 aR v15 (
 some ((.i .i64 (Int.ofNat 1)),h15)) (
 bnd (aV x0 h15) fun v16 h16 =>
 bnd (aB 12 v16 h16) fun v17 h17 =>
 bnd (aJ 1 v17 (.b false) h17) fun _ h18 =>
 bnd (aV x0 h18) fun v19 h19 =>
 bnd (aB 1 v19 h19) fun v20 h20 =>
 bnd (aA v20 h20) fun v21 h21 =>
 bnd (aB 2 x4 h21) fun v22 h22 =>
 bnd (aA v22 h22) fun v23 h23 =>
 bnd (cI 1 8 [(.i .i64 (Int.ofNat 0))] v23 v23 h23) fun v24 h24 =>
 cnd (aX (aA v20 h24) v21 && true) (
 bnd (aY [(.i .i64 (Int.ofNat 0)),(.i .i64 (Int.ofNat 0)),(.i .i64 (Int.ofNat 0)),(.i .i64 (Int.ofNat 0)),(.i .i64 (Int.ofNat 0)),.l0,.l0,(.b false),(.i .i64 (Int.ofNat 0)),(.i .i64 (Int.ofNat 0))] [(0,1,v10),(5,1,v24)] h24) fun v25 h25 =>
 bnd (r 45 [v21,v25] h25) fun v26 h26 =>
 some (v26,h26))))))
def cTn (r : RT) (n : Nat) (x0 x4 : DV) (h0 : Hp) : aH :=
 bnd (aV x0 h0) fun v1 h1 =>
 bnd (aB 0 v1 h1) fun v2 h2 =>
 bnd (aA v2 h2) fun v3 h3 =>
 bnd (r 41 [v3] h3) fun v4 h4 =>
 bnd (vB [v4] h4) fun v5 h5 =>
 bnd (aC .lss v5 (.i .i64 (Int.ofNat 4000)) h5) fun v6 h6 =>
 aR v6 (
 bnd (r 43 [x0] h6) fun v7 h7 =>
  bId r n x0 x4 h7) (
  bId r n x0 x4 h6)
def jP (r : RT) (n : Nat) (x0 x2 x4 : DV) (h0 : Hp) : aH :=
 bnd (bXc (.i .i64 (Int.ofNat 0)) x2 h0) fun v1 h1 =>
 bnd (aV x0 h1) fun v2 h2 =>
 bnd (aB 4 v2 h2) fun v3 h3 =>
 bnd (aJ 1 v3 (.s []) h3) fun _ h4 =>
 bnd (aV x0 h4) fun v5 h5 =>
 bnd (aB 5 v5 h5) fun v6 h6 =>
 bnd (aJ 1 v6 v1 h6) fun _ h7 =>
 bnd (aV x0 h7) fun v8 h8 =>
 bnd (aB 7 v8 h8) fun v9 h9 =>
 bnd (aJ 1 v9 (.i .i64 (Int.ofNat 0)) h9) fun _ h10 =>
 bnd (aV x0 h10) fun v11 h11 =>
 bnd (aB 9 v11 h11) fun v12 h12 =>
 bnd (aJ 1 v12 (.i .i64 (Int.ofNat 0)) h12) fun _ h13 =>
 bnd (aV x0 h13) fun v14 h14 =>
 bnd (aB 10 v14 h14) fun v15 h15 =>
 bnd (aJ 1 v15 (.i .i64 (Int.ofNat 0)) h15) fun _ h16 =>
 bnd (aV x0 h16) fun v17 h17 =>
 bnd (aB 11 v17 h17) fun v18 h18 =>
 bnd (aJ 1 v18 (.s []) h18) fun _ h19 =>
 bnd (aV x0 h19) fun v20 h20 =>
 bnd (aB 12 v20 h20) fun v21 h21 =>
 bnd (aJ 1 v21 (.b true) h21) fun _ h22 =>
  cTn r n x0 x4 h22
def cAj (r : RT) (n : Nat) (kk5 : jS) (x0 x2 x4 : DV) (h0 : Hp) : aH :=
 bnd (aV x0 h0) fun v1 h1 =>
 bnd (aB 1 v1 h1) fun v2 h2 =>
 bnd (aA v2 h2) fun v3 h3 =>
 bnd (r 39 [v3] h3) fun v4 h4 =>
 bnd (aC .gtr v4 (.i .i64 (Int.ofNat 0)) h4) fun v5 h5 =>
 aR v5 (
 bnd (aV x0 h5) fun v6 h6 =>
 bnd (aB 1 v6 h6) fun v7 h7 =>
 bnd (aA v7 h7) fun v8 h8 =>
 bnd (r 40 [v8] h8) fun v9 h9 =>
      kk5 x0 x2 x4 h9) (
      jP r n x0 x2 x4 h5)
def aLb (r : RT) (n : Nat) (m : Nat) : jS :=
 Nat.rec (motive:=fun _=>jS) (fun _ _ _ _=>none) (fun _ ih=>cAj r n ih) m
def dQt (r : RT) (n : Nat) : jS:=aLb r n n
def aVn (r : RT) (n : Nat) (x0 x2 x4 : DV) (h0 : Hp) : aH :=
 dQt r n x0 x2 x4 h0
def s14 (r : RT) (n : Nat) (x0 x1 x2 : DV) (h0 : Hp) : aH :=
 bnd (bZ x1 h0) fun v1 h1 =>
  aVn r n x0 x2 v1 h1
abbrev c14 : Code:=cf Tryz.f14
abbrev bPa : Code:=cR c14
abbrev bHi : Code:=cR bPa
abbrev bKe : Code:=cR bHi
abbrev eIz : Code:=cR bKe
abbrev dSv : Code:=cL bKe
abbrev dRm : Code:=cL bHi
abbrev bIi : Code:=cL bPa
abbrev bOe : Code:=cL bIi
abbrev aCz : Code:=cL bOe
abbrev aYd : Code:=cL c14
abbrev r14 : K:=bE CF Tryz.f14
def D14 (r : RT) (n : Nat) (c : Code) (X : Nat → K) (k : K) : K:=aW CF r 85 n c X r14 k
theorem eAr : D14 r n eIz x0 r14 = (K2 (bId r n) 0 4) :=
 (by kernel_rfl)
theorem cXz : D14 r n bKe x0 r14 = D14 r n dSv x0 (K2 (bId r n) 0 4) :=
 congrArg (fun k=>D14 r n dSv x0 k) (eAr r n)
theorem eCj : D14 r n bKe x0 r14 = (K2 (cTn r n) 0 4) :=
 (cXz r n).trans
 ((by kernel_rfl))
theorem dOo : D14 r n bHi x0 r14 = D14 r n dRm x0 (K2 (cTn r n) 0 4) :=
 congrArg (fun k=>D14 r n dRm x0 k) (eCj r n)
theorem dTs : D14 r n bHi x0 r14 = (K3 (jP r n) 0 2 4) :=
 (dOo r n).trans
 ((by kernel_rfl))
theorem dMy (kk5 : jS) : D14 r n aCz (xs x0 0 (K3 (jP r n) 0 2 4)) (K3 kk5 0 2 4) = (K3 (cAj r n kk5) 0 2 4) :=
 (by kernel_rfl)
theorem dEg (m : Nat) : aM (fun kk=>D14 r n aCz (xs x0 0 (K3 (jP r n) 0 2 4)) kk) m = (K3 (aLb r n m) 0 2 4):=by
 induction m with
 | zero=>exact (by kernel_rfl : aM (fun kk=>D14 r n aCz (xs x0 0 (K3 (jP r n) 0 2 4)) kk) 0 = (K3 (aLb r n 0) 0 2 4))
 | succ m ih =>
  refine (by kernel_rfl : aM (fun kk=>D14 r n aCz (xs x0 0 (K3 (jP r n) 0 2 4)) kk) (m + 1) = D14 r n aCz (xs x0 0 (K3 (jP r n) 0 2 4)) (aM (fun kk=>D14 r n aCz (xs x0 0 (K3 (jP r n) 0 2 4)) kk) m)).trans ?_
  rw [ih]
  exact (dMy r n (aLb r n m)).trans (by kernel_rfl)
theorem eGs : D14 r n bOe (xs x0 0 (K3 (jP r n) 0 2 4)) (K3 (jP r n) 0 2 4) = (K3 (dQt r n) 0 2 4) :=
 (by kernel_rfl : D14 r n bOe (xs x0 0 (K3 (jP r n) 0 2 4)) (K3 (jP r n) 0 2 4) = aM (fun kk=>D14 r n aCz (xs x0 0 (K3 (jP r n) 0 2 4)) kk) n).trans ((dEg r n n).trans (by kernel_rfl))
theorem cYi : D14 r n bPa x0 r14 = D14 r n bIi x0 (K3 (jP r n) 0 2 4) :=
 congrArg (fun k=>D14 r n bIi x0 k) (dTs r n)
theorem dUz : D14 r n bPa x0 r14 = (K3 (aVn r n) 0 2 4) :=
 (cYi r n).trans
 ((by kernel_rfl : D14 r n bIi x0 (K3 (jP r n) 0 2 4) = D14 r n bOe (xs x0 0 (K3 (jP r n) 0 2 4)) (K3 (jP r n) 0 2 4)).trans
 ((eGs r n).trans (by kernel_rfl)))
theorem eNw : D14 r n c14 x0 r14 = D14 r n aYd x0 (K3 (aVn r n) 0 2 4) :=
 congrArg (fun k=>D14 r n aYd x0 k) (dUz r n)
theorem eSz (q0 : jS) : D14 r n aYd x0 (K3 q0 0 2 4) = fun (env : aZ) (h : Hp) =>
 bnd (bZ (env 1) h) fun v1 h1 =>
  q0 (env 0) (env 2) v1 h1:=by kernel_rfl
theorem dUi : (fun (env : aZ) (h : Hp) =>
 bnd (bZ (env 1) h) fun v1 h1 =>
  aVn r n (env 0) (env 2) v1 h1) = (K3 (s14 r n) 0 1 2):=by kernel_rfl
theorem eZg : D14 r n c14 x0 r14 = (K3 (s14 r n) 0 1 2) :=
 (eNw r n).trans
 ((eSz r n (aVn r n)).trans (dUi r n))
theorem eUy : aI CF r n 14 args h = s14 r n (bI args 0) (bI args 1) (bI args 2) h :=
 (by kernel_rfl : aI CF r n 14 args h = D14 r n c14 x0 r14 (aQ args) h).trans ((congrFun (congrFun (eZg r n) (aQ args)) h).trans (by kernel_rfl))
end Go.Dd

namespace Go.Dd
open Go.Proofs
variable (r : RT) (n : Nat) (args : List DV) (h : Hp)
def jO (r : RT) (n : Nat) (x0 : DV) (h0 : Hp) : aH :=
 fL 10 x0 h0 fun v1 h1 =>
 some (v1,h1)
def cTy (r : RT) (n : Nat) (kk3 : TT1) (x0 : DV) (h0 : Hp) : aH :=
 bnd (r 46 [x0] h0) fun v1 h1 =>
 aR v1 (
   kk3 x0 h1) (
   jO r n x0 h1)
def aOr (r : RT) (n : Nat) (m : Nat) : TT1 :=
 Nat.rec (motive:=fun _=>TT1) (fun _ _=>none) (fun _ ih=>cTy r n ih) m
def dRp (r : RT) (n : Nat) : TT1:=aOr r n n
def cFr (r : RT) (n : Nat) (x0 : DV) (h0 : Hp) : aH :=
 dRp r n x0 h0
def s15 (r : RT) (n : Nat) (x0 : DV) (h0 : Hp) : aH :=
 cFr r n x0 h0
abbrev c15 : Code:=cf Tryz.f15
abbrev bFk : Code:=cR c15
abbrev eTk : Code:=cR bFk
abbrev bFo : Code:=cL bFk
abbrev bPi : Code:=cL bFo
abbrev aDo : Code:=cL bPi
abbrev dRf : Code:=cL c15
abbrev r15 : K:=bE CF Tryz.f15
def D15 (r : RT) (n : Nat) (c : Code) (X : Nat → K) (k : K) : K:=aW CF r 9 n c X r15 k
theorem eAk : D15 r n eTk x0 r15 = (K1 (jO r n) 0) :=
 (by kernel_rfl)
theorem dAk (kk3 : TT1) : D15 r n aDo (xs x0 0 (K1 (jO r n) 0)) (K1 kk3 0) = (K1 (cTy r n kk3) 0) :=
 (by kernel_rfl)
theorem dFe (m : Nat) : aM (fun kk=>D15 r n aDo (xs x0 0 (K1 (jO r n) 0)) kk) m = (K1 (aOr r n m) 0):=by
 induction m with
 | zero=>exact (by kernel_rfl : aM (fun kk=>D15 r n aDo (xs x0 0 (K1 (jO r n) 0)) kk) 0 = (K1 (aOr r n 0) 0))
 | succ m ih =>
  refine (by kernel_rfl : aM (fun kk=>D15 r n aDo (xs x0 0 (K1 (jO r n) 0)) kk) (m + 1) = D15 r n aDo (xs x0 0 (K1 (jO r n) 0)) (aM (fun kk=>D15 r n aDo (xs x0 0 (K1 (jO r n) 0)) kk) m)).trans ?_
  rw [ih]
  exact (dAk r n (aOr r n m)).trans (by kernel_rfl)
theorem dZk : D15 r n bPi (xs x0 0 (K1 (jO r n) 0)) (K1 (jO r n) 0) = (K1 (dRp r n) 0) :=
 (by kernel_rfl : D15 r n bPi (xs x0 0 (K1 (jO r n) 0)) (K1 (jO r n) 0) = aM (fun kk=>D15 r n aDo (xs x0 0 (K1 (jO r n) 0)) kk) n).trans ((dFe r n n).trans (by kernel_rfl))
theorem dIz : D15 r n bFk x0 r15 = D15 r n bFo x0 (K1 (jO r n) 0) :=
 congrArg (fun k=>D15 r n bFo x0 k) (eAk r n)
theorem dZp : D15 r n bFk x0 r15 = (K1 (cFr r n) 0) :=
 (dIz r n).trans
 ((by kernel_rfl : D15 r n bFo x0 (K1 (jO r n) 0) = D15 r n bPi (xs x0 0 (K1 (jO r n) 0)) (K1 (jO r n) 0)).trans
 ((dZk r n).trans (by kernel_rfl)))
theorem eJr : D15 r n c15 x0 r15 = D15 r n dRf x0 (K1 (cFr r n) 0) :=
 congrArg (fun k=>D15 r n dRf x0 k) (dZp r n)
theorem eXr : D15 r n c15 x0 r15 = (K1 (s15 r n) 0) :=
 (eJr r n).trans
 ((by kernel_rfl))
theorem eQu : aI CF r n 15 args h = s15 r n (bI args 0) h :=
 (by kernel_rfl : aI CF r n 15 args h = D15 r n c15 x0 r15 (aQ args) h).trans ((congrFun (congrFun (eXr r n) (aQ args)) h).trans (by kernel_rfl))
def s26 (r : RT) (n : Nat) (x0 x1 : DV) (h0 : Hp) : aH :=
 bnd (aC .lss x1 (aE 0) h0) fun v1 h1 =>
 bnd (gD v1 false (some (x1,h1)) h1) fun v2 h2 =>
 bnd (gD v1 false (aC .geq v2 (aE 16) h2) h2) fun v3 h3 =>
 bnd (aN v1 (.b true) v3 h3) fun v4 h4 =>
 aR v4 (
 some ((aE 0),h4)) (
 bnd (aV x0 h4) fun v5 h5 =>
 bnd (aB 1 v5 h5) fun v6 h6 =>
 bnd (aA v6 h6) fun v7 h7 =>
 bnd (aC .add (aE 2) x1 h7) fun v8 h8 =>
 bnd (aG 1 v7 v8 h8) fun v9 h9 =>
 bnd (aA v9 h9) fun v10 h10 =>
 some (v10,h10))
theorem eIh : aI CF r n 26 args h = s26 r n (bI args 0) (bI args 1) h :=
 by kernel_rfl
def s28 (r : RT) (n : Nat) (x0 x1 : DV) (h0 : Hp) : aH :=
 bnd (fS x1 h0) fun v1 h1 =>
 bnd (aC .lss v1 (aE 1) h1) fun v2 h2 =>
 bnd (gD v2 false (some (x1,h2)) h2) fun v3 h3 =>
 bnd (gD v2 false (fS v3 h3) h3) fun v4 h4 =>
 bnd (gD v2 false (aC .gtr v4 (aE 60) h4) h4) fun v5 h5 =>
 bnd (aN v2 (.b true) v5 h5) fun v6 h6 =>
 aR v6 (
 some (.t [(aE 0),(aE 1)],h6)) (
  fL 2 x0 h6 fun v7 h7 =>
 bnd (dV .string (aE 0) false v7 x1 h7) fun v8 h8 =>
 bnd (aC .neq v8 (aE 0) h8) fun v9 h9 =>
 aR v9 (
 some (.t [v8,(aE 0)],h9)) (
 bnd (r 26 [x0,(aE 11)] h9) fun v10 h10 =>
 bnd (r 55 [x0,v10,x1] h10) fun v11 h11 =>
 bnd (aF 0 v11 h11) fun v12 h12 =>
 bnd (aF 1 v11 h12) fun v13 h13 =>
 bnd (aC .neq v13 (aE 0) h13) fun v14 h14 =>
 aR v14 (
 some (.t [(aE 0),v13],h14)) (
    fL 1 x0 h14 fun v15 h15 =>
 bnd (aG 1 v15 (aE 0) h15) fun v16 h16 =>
 bnd (aA v16 h16) fun v17 h17 =>
 bnd (r 32 [x0,v12,v17] h17) fun v18 h18 =>
 bnd (aF 0 v18 h18) fun v19 h19 =>
 bnd (aF 1 v18 h19) fun v20 h20 =>
 bnd (aC .neq v20 (aE 0) h20) fun v21 h21 =>
 aR v21 (
 some (.t [(aE 0),v20],h21)) (
     fL 1 x0 h21 fun v22 h22 =>
     fL 2 x0 h22 fun v23 h23 =>
 bnd (aG 1 v22 (aE 0) h23) fun v24 h24 =>
 bnd (aJ 1 v24 v19 h24) fun v25 h25 =>
 bnd (jE .string (aE 0) v23 x1 h25) fun v26 h26 =>
 bnd (aF 1 v26 h26) fun v27 h27 =>
 bnd (gH v23 v27 v12 h27) fun v28 h28 =>
 some (.t [v12,(aE 0)],h28)))))
theorem eMt : aI CF r n 28 args h = s28 r n (bI args 0) (bI args 1) h :=
 by kernel_rfl
def s29 (r : RT) (n : Nat) (x0 x1 : DV) (h0 : Hp) : aH :=
 bnd (bZ x0 h0) fun v1 h1 =>
 bnd (bM x1 h1) fun v2 h2 =>
 bnd (aC .gtr v2 (aE 250) h2) fun v3 h3 =>
 bnd (gD v3 false (some (x1,h3)) h3) fun v4 h4 =>
 bnd (gD v3 false (some ((.f 57 [] [v1]),h4)) h4) fun v5 h5 =>
 bnd (gD v3 false (r 56 [v4,v5] h5) h5) fun v6 h6 =>
 bnd (aN v3 (.b true) v6 h6) fun v7 h7 =>
 aR v7 (
 some (.t [(aE 0),(aE 1)],h7)) (
 bnd (aA v1 h7) fun v8 h8 =>
 bnd (aA v1 h8) fun v9 h9 =>
 bnd (r 26 [v9,(aE 9)] h9) fun v10 h10 =>
 cnd (aX (aA v1 h10) v8 && true) (
 bnd (r 59 [v8,v10,(aE 0),x1] h10) fun v11 h11 =>
 bnd (aF 0 v11 h11) fun v12 h12 =>
 bnd (aF 1 v11 h12) fun v13 h13 =>
 some (.t [v12,v13],h13)))
theorem eJo : aI CF r n 29 args h = s29 r n (bI args 0) (bI args 1) h :=
 by kernel_rfl
def s30 (r : RT) (n : Nat) (x0 : DV) (h0 : Hp) : aH :=
 bnd (lQ [x0] h0) fun v1 h1 =>
 bnd (aF 0 v1 h1) fun v2 h2 =>
 bnd (aF 1 v1 h2) fun v3 h3 =>
 some (v2,h3)
theorem eKs : aI CF r n 30 args h = s30 r n (bI args 0) h :=
 by kernel_rfl
def s32 (r : RT) (n : Nat) (x0 x1 x2 : DV) (h0 : Hp) : aH :=
 bnd (r 26 [x0,(aE 9)] h0) fun v1 h1 =>
 bnd (aS [(aE 0),(aE 0)] 2 [(0,1,x1),(1,1,x2)] h1) fun v2 h2 =>
 bnd (r 59 [x0,v1,(aE 0),v2] h2) fun v3 h3 =>
 bnd (aF 0 v3 h3) fun v4 h4 =>
 bnd (aF 1 v3 h4) fun v5 h5 =>
 some (.t [v4,v5],h5)
theorem eNq : aI CF r n 32 args h = s32 r n (bI args 0) (bI args 1) (bI args 2) h :=
 by kernel_rfl
def eJ (r : RT) (n : Nat) (x6 x9 : DV) (h0 : Hp) : aH :=
 bnd (aV x9 h0) fun v1 h1 =>
 bnd (aB 0 v1 h1) fun v2 h2 =>
 bnd (aK 6 v2 h2) fun v3 h3 =>
 bnd (aJ 6 x6 v3 h3) fun _ h4 =>
 bnd (aK 6 x6 h4) fun v5 _ =>
 some (.t [v5,(.s []),(aE 0)],h4)
def aNc (r : RT) (n : Nat) (kk15 : jS) (x6 x9 x15 : DV) (h0 : Hp) : aH :=
 bnd (aV x9 h0) fun v1 h1 =>
 bnd (aB 0 v1 h1) fun v2 h2 =>
  fM 5 v2 h2 fun v3 h3 =>
 bnd (bM v3 h3) fun v4 h4 =>
 bnd (aC .lss x15 v4 h4) fun v5 h5 =>
 aR v5 (
 bnd (aV x9 h5) fun v6 h6 =>
 bnd (aB 0 v6 h6) fun v7 h7 =>
      fM 5 v7 h7 fun v8 h8 =>
 bnd (aG 3 v8 x15 h8) fun v9 h9 =>
 bnd (aK 3 v9 h9) fun v10 h10 =>
 bnd (r 76 [v10] h10) fun v11 h11 =>
 bnd (eQ .not v11 h11) fun v12 h12 =>
 aR v12 (
 bnd (aY [(.s []),(aE 0),(aE 0),(aE 0),.l0,.l0] [] h12) fun v13 h13 =>
 bnd (aJ 6 x6 v13 h13) fun _ h14 =>
 bnd (aK 6 x6 h14) fun v15 _ =>
 some (.t [v15,(.s []),(aE 12)],h14)) (
 bnd (aC .add x15 (aE 1) h12) fun v16 h16 =>
    kk15 x6 x9 v16 h16)) (
      eJ r n x6 x9 h5)
def xQ (r : RT) (n : Nat) (m : Nat) : jS :=
 Nat.rec (motive:=fun _=>jS) (fun _ _ _ _=>none) (fun _ ih=>aNc r n ih) m
def cDl (r : RT) (n : Nat) : jS:=xQ r n n
def aYb (r : RT) (n : Nat) (x6 x9 x15 : DV) (h0 : Hp) : aH :=
 cDl r n x6 x9 x15 h0
def aEc (r : RT) (n : Nat) (x6 x9 : DV) (h0 : Hp) : aH :=
 aYb r n x6 x9 (aE 0) h0
def uD (r : RT) (n : Nat) (x6 x9 : DV) (h0 : Hp) : aH :=
 bnd (aV x9 h0) fun v1 h1 =>
 bnd (aB 0 v1 h1) fun v2 h2 =>
  fM 5 v2 h2 fun v3 h3 =>
 bnd (bM v3 h3) fun v4 h4 =>
 bnd (aC .gtr v4 (aE 400) h4) fun v5 h5 =>
 aR v5 (
 bnd (aY [(.s []),(aE 0),(aE 0),(aE 0),.l0,.l0] [] h5) fun v6 h6 =>
 bnd (aJ 6 x6 v6 h6) fun _ h7 =>
 bnd (aK 6 x6 h7) fun v8 _ =>
 some (.t [v8,(.s []),(aE 12)],h7)) (
  aEc r n x6 x9 h5)
def uG (r : RT) (n : Nat) (x6 x9 : DV) (h0 : Hp) : aH :=
 bnd (aV x9 h0) fun v1 h1 =>
 bnd (aB 0 v1 h1) fun v2 h2 =>
  fM 4 v2 h2 fun v3 h3 =>
 bnd (bM v3 h3) fun v4 h4 =>
 bnd (aC .gtr v4 (aE 60) h4) fun v5 h5 =>
 aR v5 (
 bnd (aY [(.s []),(aE 0),(aE 0),(aE 0),.l0,.l0] [] h5) fun v6 h6 =>
 bnd (aJ 6 x6 v6 h6) fun _ h7 =>
 bnd (aK 6 x6 h7) fun v8 _ =>
 some (.t [v8,(.s []),(aE 18)],h7)) (
  uD r n x6 x9 h5)
def mC (r : RT) (n : Nat) (x6 x9 : DV) (h0 : Hp) : aH :=
 fL 7 x9 h0 fun v1 h1 =>
 bnd (aC .neq v1 (aE 0) h1) fun v2 h2 =>
 aR v2 (
 bnd (aY [(.s []),(aE 0),(aE 0),(aE 0),.l0,.l0] [] h2) fun v3 h3 =>
 bnd (aV x9 h3) fun v4 h4 =>
 bnd (aB 8 v4 h4) fun v5 h5 =>
 bnd (aA v5 h5) fun v6 h6 =>
 bnd (aV x9 h6) fun v7 h7 =>
 bnd (aB 7 v7 h7) fun v8 h8 =>
 bnd (aA v8 h8) fun v9 h9 =>
 bnd (aJ 6 x6 v3 h9) fun v10 h10 =>
 cnd (aX (aA v8 h10) v9 && (aX (aA v5 h10) v6 && true)) (
 bnd (aK 6 x6 h10) fun v11 _ =>
 some (.t [v11,v6,v9],h10))) (
  uG r n x6 x9 h2)
def aJg (r : RT) (n : Nat) (x6 x9 : DV) (h0 : Hp) : aH :=
 bnd (r 75 [x9,(aE 20),(aE 0),(aE 0)] h0) fun v1 h1 =>
  mC r n x6 x9 h1
def bZw (r : RT) (n : Nat) (x2 x6 x9 : DV) (h0 : Hp) : aH :=
 aR x2 (
 bnd (r 75 [x9,(aE 2),(aE 0),(aE 0)] h0) fun v1 h1 =>
  aJg r n x6 x9 h1) (
 bnd (r 75 [x9,(aE 1),(aE 0),(aE 0)] h0) fun v2 h2 =>
  aJg r n x6 x9 h2)
def aYp (r : RT) (n : Nat) (x2 x6 x9 x104 : DV) (h0 : Hp) : aH :=
 aR x104 (
  bZw r n x2 x6 x9 h0) (
  mC r n x6 x9 h0)
def eN (r : RT) (n : Nat) (x2 x6 x9 x11 : DV) (h0 : Hp) : aH :=
 bnd (eQ .not x11 h0) fun v1 h1 =>
  aYp r n x2 x6 x9 v1 h1
def mV (r : RT) (n : Nat) (kk20 : fZ) (x2 x3 x6 x9 x11 x12 : DV) (h0 : Hp) : aH :=
 bnd (aC .add x12 (aE 1) h0) fun v1 h1 =>
  kk20 x2 x3 x6 x9 x11 v1 h1
def aMp (r : RT) (n : Nat) (kk20 : fZ) (x2 x3 x6 x9 x12 : DV) (h0 : Hp) : aH :=
 fM 5 x3 h0 fun v1 h1 =>
 bnd (aG 6 v1 x12 h1) fun v2 h2 =>
 bnd (aK 6 v2 h2) fun v3 h3 =>
 bnd (bQ kG h3) fun v4 h4 =>
 bnd (aJ 6 v4 v3 h4) fun _ h5 =>
 bnd (aK 6 v4 h5) fun v6 h6 =>
 bnd (r 74 [x9,v6] h6) fun v7 h7 =>
 bnd (aC .add x12 (aE 1) h7) fun v8 h8 =>
  fM 5 x3 h8 fun v9 h9 =>
 bnd (bM v9 h9) fun v10 h10 =>
 bnd (aC .eql v8 v10 h10) fun v11 h11 =>
 bnd (gD v11 true (aB 0 v4 h11) h11) fun v12 h12 =>
 bnd (gD v11 true (aA v12 h12) h12) fun v13 h13 =>
 bnd (gD v11 true (aC .eql v13 (aE 10) h13) h13) fun v14 h14 =>
 bnd (aN v11 v14 (.b false) h14) fun v15 h15 =>
  fM 0 v4 h15 fun v16 h16 =>
 bnd (aC .eql v16 (aE 10) h16) fun v17 h17 =>
 aR v17 (
  mV r n kk20 x2 x3 x6 x9 v15 x12 h17) (
 bnd (gD v11 true (some (x2,h17)) h17) fun v18 h18 =>
 bnd (aN v11 v18 (.b false) h18) fun v19 h19 =>
 aR v19 (
 bnd (r 75 [x9, (aE 20), (aE 0), (aE 0)] h19) fun v20 h20 =>
      mV r n kk20 x2 x3 x6 x9 (.b true) x12 h20) (
 bnd (r 75 [x9, (aE 12), (aE 0), (aE 0)] h19) fun v21 h21 =>
      mV r n kk20 x2 x3 x6 x9 v15 x12 h21))
def bOm (r : RT) (n : Nat) (kk20 : fZ) (x2 x3 x6 x9 x11 x12 : DV) (h0 : Hp) : aH :=
  fM 5 x3 h0 fun v1 h1 =>
 bnd (bM v1 h1) fun v2 h2 =>
 bnd (aC .lss x12 v2 h2) fun v3 h3 =>
 aR v3 (
   aMp r n kk20 x2 x3 x6 x9 x12 h3) (
   eN r n x2 x6 x9 x11 h3)
def xE (r : RT) (n : Nat) (m : Nat) : fZ :=
 Nat.rec (motive:=fun _=>fZ) (fun _ _ _ _ _ _ _=>none) (fun _ ih=>bOm r n ih) m
def cSj (r : RT) (n : Nat) : fZ:=xE r n n
def bEg (r : RT) (n : Nat) (x2 x3 x6 x9 x11 x12 : DV) (h0 : Hp) : aH :=
 cSj r n x2 x3 x6 x9 x11 x12 h0
def cMo (r : RT) (n : Nat) (x2 x3 x6 x9 x11 : DV) (h0 : Hp) : aH :=
 bEg r n x2 x3 x6 x9 x11 (aE 0) h0
def cNw (r : RT) (n : Nat) (x2 x3 x6 x9 : DV) (h0 : Hp) : aH :=
 cMo r n x2 x3 x6 x9 (.b false) h0
def cKu (r : RT) (n : Nat) (x2 x3 x6 x9 : DV) (h0 : Hp) : aH :=
 fM 4 x3 h0 fun v1 h1 =>
 bnd (r 73 [x9,v1,(aE 2)] h1) fun v2 h2 =>
  cNw r n x2 x3 x6 x9 h2
def gS (r : RT) (n : Nat) (x2 x3 x6 x9 : DV) (h0 : Hp) : aH :=
 fM 3 x3 h0 fun v1 h1 =>
 bnd (r 73 [x9,v1,(aE 3)] h1) fun v2 h2 =>
  cKu r n x2 x3 x6 x9 h2
def aQm (r : RT) (n : Nat) (kk24 : fZ) (x1 x2 x3 x6 x9 x10 : DV) (h0 : Hp) : aH :=
 bnd (bM x1 h0) fun v1 h1 =>
 bnd (aC .lss x10 v1 h1) fun v2 h2 =>
 aR v2 (
 bnd (aV x9 (resv 1 h2)) fun v3 h3 =>
      fM 6 v3 h3 fun v4 h4 =>
 bnd (aG 1 x1 x10 h4) fun v5 h5 =>
 bnd (aA v5 h5) fun v6 h6 =>
 bnd (aY [(.s []),(aE 0),(aE 0)] [(0,1,v6),(1,1,(aE 1)),(2,1,x10)] h6) fun v7 h7 =>
 bnd (bL (bX 0 h2.next) [(.s []),(aE 0),(aE 0)] 1 [(0,3,v7)] h7) fun v8 h8 =>
 bnd (bH 3 32 v4 v8 h8) fun v9 h9 =>
 bnd (aV x9 h9) fun v10 h10 =>
 bnd (aB 6 v10 h10) fun v11 h11 =>
 bnd (aJ 1 v11 v9 h11) fun v12 h12 =>
 bnd (aC .add x10 (aE 1) h12) fun v13 h13 =>
      kk24 x1 x2 x3 x6 x9 v13 h13) (
      gS r n x2 x3 x6 x9 h2)
def vZ (r : RT) (n : Nat) (m : Nat) : fZ :=
 Nat.rec (motive:=fun _=>fZ) (fun _ _ _ _ _ _ _=>none) (fun _ ih=>aQm r n ih) m
def cCl (r : RT) (n : Nat) : fZ:=vZ r n n
def aXf (r : RT) (n : Nat) (x1 x2 x3 x6 x9 x10 : DV) (h0 : Hp) : aH :=
 cCl r n x1 x2 x3 x6 x9 x10 h0
def aRy (r : RT) (n : Nat) (x1 x2 x3 x6 x9 : DV) (h0 : Hp) : aH :=
 aXf r n x1 x2 x3 x6 x9 (aE 0) h0
def aFt (r : RT) (n : Nat) (x1 x2 x3 x6 : DV) (h0 : Hp) : aH :=
 fM 1 x3 h0 fun v1 h1 =>
 fM 3 x3 h1 fun v2 h2 =>
 bnd (bM v2 h2) fun v3 h3 =>
  fM 2 x3 h3 fun v4 h4 =>
 bnd (aY [(.s []),(aE 0),(aE 0),(aE 0),.l0,.l0] [(0,1,v1),(1,1,v3),(3,1,v4)] h4) fun v5 h5 =>
 bnd (aY [(.s []),(aE 0),(aE 0),(aE 0),.l0,.l0,.l0,(aE 0),(.s [])] [(0,6,v5)] h5) fun v6 h6 =>
 bnd (bZ v6 h6) fun v7 h7 =>
  aRy r n x1 x2 x3 x6 v7 h7
def aFq (r : RT) (n : Nat) (x1 x2 x3 x6 : DV) (h0 : Hp) : aH :=
 fM 0 x3 h0 fun v1 h1 =>
 bnd (aC .neq v1 (aE 11) h1) fun v2 h2 =>
 bnd (gD v2 false (some (x1,h2)) h2) fun v3 h3 =>
 bnd (gD v2 false (bM v3 h3) h3) fun v4 h4 =>
 bnd (gD v2 false (aC .gtr v4 (aE 8) h4) h4) fun v5 h5 =>
 bnd (aN v2 (.b true) v5 h5) fun v6 h6 =>
 aR v6 (
 bnd (aY [(.s []),(aE 0),(aE 0),(aE 0),.l0,.l0] [] h6) fun v7 h7 =>
 bnd (aJ 6 x6 v7 h7) fun _ h8 =>
 bnd (aK 6 x6 h8) fun v9 _ =>
 some (.t [v9,(.s []),(aE 1)],h8)) (
  aFt r n x1 x2 x3 x6 h6)
def s38 (r : RT) (n : Nat) (x0 x1 x2 : DV) (h0 : Hp) : aH :=
 bnd (bZ x0 h0) fun v1 h1 =>
 bnd (bQ [(.s []),(aE 0),(aE 0),(aE 0),.l0,.l0] h1) fun v2 h2 =>
  aFq r n x1 x2 v1 v2 h2
abbrev c38 : Code:=cf Tryz.f38
abbrev bNs : Code:=cR c38
abbrev bOb : Code:=cR bNs
abbrev bKu : Code:=cR bOb
abbrev bGl : Code:=cR bKu
abbrev bHe : Code:=cR bGl
abbrev bKw : Code:=cR bHe
abbrev bLs : Code:=cR bKw
abbrev bJi : Code:=cR bLs
abbrev bPg : Code:=cR bJi
abbrev aMi : Code:=cR bPg
abbrev aMb : Code:=cR aMi
abbrev aLg : Code:=cR aMb
abbrev eBp : Code:=cR aLg
abbrev aBl : Code:=cL aLg
abbrev aYa : Code:=cR aBl
abbrev aNp : Code:=cL aYa
abbrev nT : Code:=cL aNp
abbrev cHb : Code:=cL aBl
abbrev aYs : Code:=cL aMb
abbrev bCv : Code:=cL aMi
abbrev bDr : Code:=cL bPg
abbrev aAl : Code:=cL bJi
abbrev aBi : Code:=cR aAl
abbrev aCu : Code:=cL aBi
abbrev dUd : Code:=cR aCu
abbrev cRl : Code:=cL aCu
abbrev dZn : Code:=cR aBi
abbrev cAa : Code:=cL aAl
abbrev aBr : Code:=cL bLs
abbrev bDk : Code:=cR aBr
abbrev aGk : Code:=cL bDk
abbrev lK : Code:=cL aGk
abbrev aHw : Code:=cR lK
abbrev eEf : Code:=cR aHw
abbrev aZn : Code:=cL aHw
abbrev cFs : Code:=cL lK
abbrev cBv : Code:=cL aBr
abbrev bXp : Code:=cL bKw
abbrev cPc : Code:=cL bHe
abbrev cBz : Code:=cL bGl
abbrev aCh : Code:=cL bKu
abbrev bAu : Code:=cR aCh
abbrev aMs : Code:=cL bAu
abbrev nM : Code:=cL aMs
abbrev cOw : Code:=cL aCh
abbrev aZu : Code:=cL bOb
abbrev bEn : Code:=cL bNs
abbrev bBv : Code:=cL c38
abbrev r38 : K:=bE CF Tryz.f38
def D38 (r : RT) (n : Nat) (c : Code) (X : Nat → K) (k : K) : K:=aW CF r 168 n c X r38 k
theorem dQe : D38 r n eBp x0 r38 = (K2 (eJ r n) 6 9) :=
 (by kernel_rfl)
theorem bZs (kk15 : jS) (q0 : gP) : D38 r n nT (xs x0 4 (K2 q0 6 9)) (K3 kk15 6 9 15) = fun (env : aZ) (h : Hp) =>
 bnd (aV (env 9) h) fun v1 h1 =>
 bnd (aB 0 v1 h1) fun v2 h2 =>
 bnd (aB 5 v2 h2) fun v3 h3 =>
 bnd (aA v3 h3) fun v4 h4 =>
 bnd (bM v4 h4) fun v5 h5 =>
 bnd (aC .lss (env 15) v5 h5) fun v6 h6 =>
 aR v6 (
 bnd (aV (env 9) h6) fun v7 h7 =>
 bnd (aB 0 v7 h7) fun v8 h8 =>
 bnd (aB 5 v8 h8) fun v9 h9 =>
 bnd (aA v9 h9) fun v10 h10 =>
 bnd (aG 3 v10 (env 15) h10) fun v11 h11 =>
 bnd (aK 3 v11 h11) fun v12 h12 =>
 bnd (r 76 [v12] h12) fun v13 h13 =>
 bnd (eQ .not v13 h13) fun v14 h14 =>
 aR v14 (
 bnd (aY [(.s []),(aE 0),(aE 0),(aE 0),.l0,.l0] [] h14) fun v15 h15 =>
 bnd (aJ 6 (env 6) v15 h15) fun _ h16 =>
 bnd (aK 6 (env 6) h16) fun v17 _ =>
 some (.t [v17,(.s []),(aE 12)],h16)) (
 bnd (aC .add (env 15) (aE 1) h14) fun v18 h18 =>
    kk15 (env 6) (env 9) v18 h18)) (
      q0 (env 6) (env 9) h6):=by kernel_rfl
theorem bSi (kk15 : jS) : (fun (env : aZ) (h : Hp) =>
 bnd (aV (env 9) h) fun v1 h1 =>
 bnd (aB 0 v1 h1) fun v2 h2 =>
 bnd (aB 5 v2 h2) fun v3 h3 =>
 bnd (aA v3 h3) fun v4 h4 =>
 bnd (bM v4 h4) fun v5 h5 =>
 bnd (aC .lss (env 15) v5 h5) fun v6 h6 =>
 aR v6 (
 bnd (aV (env 9) h6) fun v7 h7 =>
 bnd (aB 0 v7 h7) fun v8 h8 =>
 bnd (aB 5 v8 h8) fun v9 h9 =>
 bnd (aA v9 h9) fun v10 h10 =>
 bnd (aG 3 v10 (env 15) h10) fun v11 h11 =>
 bnd (aK 3 v11 h11) fun v12 h12 =>
 bnd (r 76 [v12] h12) fun v13 h13 =>
 bnd (eQ .not v13 h13) fun v14 h14 =>
 aR v14 (
 bnd (aY [(.s []),(aE 0),(aE 0),(aE 0),.l0,.l0] [] h14) fun v15 h15 =>
 bnd (aJ 6 (env 6) v15 h15) fun _ h16 =>
 bnd (aK 6 (env 6) h16) fun v17 _ =>
 some (.t [v17,(.s []),(aE 12)],h16)) (
 bnd (aC .add (env 15) (aE 1) h14) fun v18 h18 =>
    kk15 (env 6) (env 9) v18 h18)) (
      eJ r n (env 6) (env 9) h6)) = (K3 (aNc r n kk15) 6 9 15):=by kernel_rfl
theorem cAu (kk15 : jS) : D38 r n nT (xs x0 4 (K2 (eJ r n) 6 9)) (K3 kk15 6 9 15) = (K3 (aNc r n kk15) 6 9 15) :=
 (bZs r n kk15 (eJ r n)).trans (bSi r n kk15)
theorem cHa (m : Nat) : aM (fun kk=>D38 r n nT (xs x0 4 (K2 (eJ r n) 6 9)) kk) m = (K3 (xQ r n m) 6 9 15):=by
 induction m with
 | zero=>exact (by kernel_rfl : aM (fun kk=>D38 r n nT (xs x0 4 (K2 (eJ r n) 6 9)) kk) 0 = (K3 (xQ r n 0) 6 9 15))
 | succ m ih =>
  refine (by kernel_rfl : aM (fun kk=>D38 r n nT (xs x0 4 (K2 (eJ r n) 6 9)) kk) (m + 1) = D38 r n nT (xs x0 4 (K2 (eJ r n) 6 9)) (aM (fun kk=>D38 r n nT (xs x0 4 (K2 (eJ r n) 6 9)) kk) m)).trans ?_
  rw [ih]
  exact (cAu r n (xQ r n m)).trans (by kernel_rfl)
theorem dDd : D38 r n aNp (xs x0 4 (K2 (eJ r n) 6 9)) (K2 (eJ r n) 6 9) = (K3 (cDl r n) 6 9 15) :=
 (by kernel_rfl : D38 r n aNp (xs x0 4 (K2 (eJ r n) 6 9)) (K2 (eJ r n) 6 9) = aM (fun kk=>D38 r n nT (xs x0 4 (K2 (eJ r n) 6 9)) kk) n).trans ((cHa r n n).trans (by kernel_rfl))
theorem dHj : D38 r n aYa x0 (K2 (eJ r n) 6 9) = (K3 (aYb r n) 6 9 15) :=
 (by kernel_rfl : D38 r n aYa x0 (K2 (eJ r n) 6 9) = D38 r n aNp (xs x0 4 (K2 (eJ r n) 6 9)) (K2 (eJ r n) 6 9)).trans
 ((dDd r n).trans (by kernel_rfl))
theorem cEo : D38 r n aLg x0 r38 = D38 r n aBl x0 (K2 (eJ r n) 6 9) :=
 congrArg (fun k=>D38 r n aBl x0 k) (dQe r n)
theorem cRm : D38 r n aBl x0 (K2 (eJ r n) 6 9) = D38 r n cHb x0 (K3 (aYb r n) 6 9 15) :=
 congrArg (fun k=>D38 r n cHb x0 k) (dHj r n)
theorem dLj : D38 r n aLg x0 r38 = (K2 (aEc r n) 6 9) :=
 (cEo r n).trans
 ((cRm r n).trans
 ((by kernel_rfl)))
theorem cLt : D38 r n aMb x0 r38 = D38 r n aYs x0 (K2 (aEc r n) 6 9) :=
 congrArg (fun k=>D38 r n aYs x0 k) (dLj r n)
theorem cVp (q0 : gP) : D38 r n aYs x0 (K2 q0 6 9) = fun (env : aZ) (h : Hp) =>
 bnd (aV (env 9) h) fun v1 h1 =>
 bnd (aB 0 v1 h1) fun v2 h2 =>
 bnd (aB 5 v2 h2) fun v3 h3 =>
 bnd (aA v3 h3) fun v4 h4 =>
 bnd (bM v4 h4) fun v5 h5 =>
 bnd (aC .gtr v5 (aE 400) h5) fun v6 h6 =>
 aR v6 (
 bnd (aY [(.s []),(aE 0),(aE 0),(aE 0),.l0,.l0] [] h6) fun v7 h7 =>
 bnd (aJ 6 (env 6) v7 h7) fun _ h8 =>
 bnd (aK 6 (env 6) h8) fun v9 _ =>
 some (.t [v9,(.s []),(aE 12)],h8)) (
   q0 (env 6) (env 9) h6):=by kernel_rfl
theorem bUg : (fun (env : aZ) (h : Hp) =>
 bnd (aV (env 9) h) fun v1 h1 =>
 bnd (aB 0 v1 h1) fun v2 h2 =>
 bnd (aB 5 v2 h2) fun v3 h3 =>
 bnd (aA v3 h3) fun v4 h4 =>
 bnd (bM v4 h4) fun v5 h5 =>
 bnd (aC .gtr v5 (aE 400) h5) fun v6 h6 =>
 aR v6 (
 bnd (aY [(.s []),(aE 0),(aE 0),(aE 0),.l0,.l0] [] h6) fun v7 h7 =>
 bnd (aJ 6 (env 6) v7 h7) fun _ h8 =>
 bnd (aK 6 (env 6) h8) fun v9 _ =>
 some (.t [v9,(.s []),(aE 12)],h8)) (
   aEc r n (env 6) (env 9) h6)) = (K2 (uD r n) 6 9):=by kernel_rfl
theorem dNh : D38 r n aMb x0 r38 = (K2 (uD r n) 6 9) :=
 (cLt r n).trans
 ((cVp r n (aEc r n)).trans (bUg r n))
theorem cDz : D38 r n aMi x0 r38 = D38 r n bCv x0 (K2 (uD r n) 6 9) :=
 congrArg (fun k=>D38 r n bCv x0 k) (dNh r n)
theorem cPv (q0 : gP) : D38 r n bCv x0 (K2 q0 6 9) = fun (env : aZ) (h : Hp) =>
 bnd (aV (env 9) h) fun v1 h1 =>
 bnd (aB 0 v1 h1) fun v2 h2 =>
 bnd (aB 4 v2 h2) fun v3 h3 =>
 bnd (aA v3 h3) fun v4 h4 =>
 bnd (bM v4 h4) fun v5 h5 =>
 bnd (aC .gtr v5 (aE 60) h5) fun v6 h6 =>
 aR v6 (
 bnd (aY [(.s []),(aE 0),(aE 0),(aE 0),.l0,.l0] [] h6) fun v7 h7 =>
 bnd (aJ 6 (env 6) v7 h7) fun _ h8 =>
 bnd (aK 6 (env 6) h8) fun v9 _ =>
 some (.t [v9,(.s []),(aE 18)],h8)) (
   q0 (env 6) (env 9) h6):=by kernel_rfl
theorem bTk : (fun (env : aZ) (h : Hp) =>
 bnd (aV (env 9) h) fun v1 h1 =>
 bnd (aB 0 v1 h1) fun v2 h2 =>
 bnd (aB 4 v2 h2) fun v3 h3 =>
 bnd (aA v3 h3) fun v4 h4 =>
 bnd (bM v4 h4) fun v5 h5 =>
 bnd (aC .gtr v5 (aE 60) h5) fun v6 h6 =>
 aR v6 (
 bnd (aY [(.s []),(aE 0),(aE 0),(aE 0),.l0,.l0] [] h6) fun v7 h7 =>
 bnd (aJ 6 (env 6) v7 h7) fun _ h8 =>
 bnd (aK 6 (env 6) h8) fun v9 _ =>
 some (.t [v9,(.s []),(aE 18)],h8)) (
   uD r n (env 6) (env 9) h6)) = (K2 (uG r n) 6 9):=by kernel_rfl
theorem dDu : D38 r n aMi x0 r38 = (K2 (uG r n) 6 9) :=
 (cDz r n).trans
 ((cPv r n (uD r n)).trans (bTk r n))
theorem dPa : D38 r n bPg x0 r38 = D38 r n bDr x0 (K2 (uG r n) 6 9) :=
 congrArg (fun k=>D38 r n bDr x0 k) (dDu r n)
theorem dMx (q0 : gP) : D38 r n bDr x0 (K2 q0 6 9) = fun (env : aZ) (h : Hp) =>
 bnd (aV (env 9) h) fun v1 h1 =>
 bnd (aB 7 v1 h1) fun v2 h2 =>
 bnd (aA v2 h2) fun v3 h3 =>
 bnd (aC .neq v3 (aE 0) h3) fun v4 h4 =>
 aR v4 (
 bnd (aY [(.s []),(aE 0),(aE 0),(aE 0),.l0,.l0] [] h4) fun v5 h5 =>
 bnd (aV (env 9) h5) fun v6 h6 =>
 bnd (aB 8 v6 h6) fun v7 h7 =>
 bnd (aA v7 h7) fun v8 h8 =>
 bnd (aV (env 9) h8) fun v9 h9 =>
 bnd (aB 7 v9 h9) fun v10 h10 =>
 bnd (aA v10 h10) fun v11 h11 =>
 bnd (aJ 6 (env 6) v5 h11) fun v12 h12 =>
 cnd (aX (aA v10 h12) v11 && (aX (aA v7 h12) v8 && true)) (
 bnd (aK 6 (env 6) h12) fun v13 _ =>
 some (.t [v13,v8,v11],h12))) (
   q0 (env 6) (env 9) h4):=by kernel_rfl
theorem cWr : (fun (env : aZ) (h : Hp) =>
 bnd (aV (env 9) h) fun v1 h1 =>
 bnd (aB 7 v1 h1) fun v2 h2 =>
 bnd (aA v2 h2) fun v3 h3 =>
 bnd (aC .neq v3 (aE 0) h3) fun v4 h4 =>
 aR v4 (
 bnd (aY [(.s []),(aE 0),(aE 0),(aE 0),.l0,.l0] [] h4) fun v5 h5 =>
 bnd (aV (env 9) h5) fun v6 h6 =>
 bnd (aB 8 v6 h6) fun v7 h7 =>
 bnd (aA v7 h7) fun v8 h8 =>
 bnd (aV (env 9) h8) fun v9 h9 =>
 bnd (aB 7 v9 h9) fun v10 h10 =>
 bnd (aA v10 h10) fun v11 h11 =>
 bnd (aJ 6 (env 6) v5 h11) fun v12 h12 =>
 cnd (aX (aA v10 h12) v11 && (aX (aA v7 h12) v8 && true)) (
 bnd (aK 6 (env 6) h12) fun v13 _ =>
 some (.t [v13,v8,v11],h12))) (
   uG r n (env 6) (env 9) h4)) = (K2 (mC r n) 6 9):=by kernel_rfl
theorem dWg : D38 r n bPg x0 r38 = (K2 (mC r n) 6 9) :=
 (dPa r n).trans
 ((dMx r n (uG r n)).trans (cWr r n))
theorem cZz : D38 r n dUd x0 (K2 (mC r n) 6 9) = (K2 (aJg r n) 6 9) :=
 (by kernel_rfl)
theorem bTe : D38 r n aCu x0 (K2 (mC r n) 6 9) = D38 r n cRl x0 (K2 (aJg r n) 6 9) :=
 congrArg (fun k=>D38 r n cRl x0 k) (cZz r n)
theorem dQo : D38 r n aCu x0 (K2 (mC r n) 6 9) = (K3 (bZw r n) 2 6 9) :=
 (bTe r n).trans
 ((by kernel_rfl))
theorem dOe : D38 r n aBi x0 (K2 (mC r n) 6 9) = (K4 (aYp r n) 2 6 9 104) :=
 (by kernel_rfl : D38 r n aBi x0 (K2 (mC r n) 6 9) = (fun (env : aZ) (h : Hp)=>aR (opr env (cC aBi)) (D38 r n aCu x0 (K2 (mC r n) 6 9) env h) (D38 r n dZn x0 (K2 (mC r n) 6 9) env h))).trans (by rw [dQo r n]; kernel_rfl)
theorem cGg : D38 r n bJi x0 r38 = D38 r n aAl x0 (K2 (mC r n) 6 9) :=
 congrArg (fun k=>D38 r n aAl x0 k) (dWg r n)
theorem cQq : D38 r n aAl x0 (K2 (mC r n) 6 9) = D38 r n cAa x0 (K4 (aYp r n) 2 6 9 104) :=
 congrArg (fun k=>D38 r n cAa x0 k) (dOe r n)
theorem dWy : D38 r n bJi x0 r38 = (K4 (eN r n) 2 6 9 11) :=
 (cGg r n).trans
 ((cQq r n).trans
 ((by kernel_rfl)))
theorem cXp (kk20 : fZ) : D38 r n eEf (xs x0 2 (K4 (eN r n) 2 6 9 11)) (K6 kk20 2 3 6 9 11 12) = (K6 (mV r n kk20) 2 3 6 9 11 12) :=
 (by kernel_rfl)
theorem bRl (kk20 : fZ) : D38 r n aHw (xs x0 2 (K4 (eN r n) 2 6 9 11)) (K6 kk20 2 3 6 9 11 12) = D38 r n aZn (xs x0 2 (K4 (eN r n) 2 6 9 11)) (K6 (mV r n kk20) 2 3 6 9 11 12) :=
 congrArg (fun k=>D38 r n aZn (xs x0 2 (K4 (eN r n) 2 6 9 11)) k) (cXp r n kk20)
theorem bUx (kk20 : fZ) (q0 : fZ) (q1 : dG) : D38 r n aZn (xs x0 2 (K4 q1 2 6 9 11)) (K6 q0 2 3 6 9 11 12) = fun (env : aZ) (h : Hp) =>
 bnd (aB 5 (env 3) h) fun v1 h1 =>
 bnd (aA v1 h1) fun v2 h2 =>
 bnd (aG 6 v2 (env 12) h2) fun v3 h3 =>
 bnd (aK 6 v3 h3) fun v4 h4 =>
 bnd (bQ kG h4) fun v5 h5 =>
 bnd (aJ 6 v5 v4 h5) fun _ h6 =>
 bnd (aK 6 v5 h6) fun v7 h7 =>
 bnd (r 74 [(env 9),v7] h7) fun v8 h8 =>
 bnd (aC .add (env 12) (aE 1) h8) fun v9 h9 =>
 bnd (aB 5 (env 3) h9) fun v10 h10 =>
 bnd (aA v10 h10) fun v11 h11 =>
 bnd (bM v11 h11) fun v12 h12 =>
 bnd (aC .eql v9 v12 h12) fun v13 h13 =>
 bnd (gD v13 true (aB 0 v5 h13) h13) fun v14 h14 =>
 bnd (gD v13 true (aA v14 h14) h14) fun v15 h15 =>
 bnd (gD v13 true (aC .eql v15 (aE 10) h15) h15) fun v16 h16 =>
 bnd (aN v13 v16 (.b false) h16) fun v17 h17 =>
 bnd (aB 0 v5 h17) fun v18 h18 =>
 bnd (aA v18 h18) fun v19 h19 =>
 bnd (aC .eql v19 (aE 10) h19) fun v20 h20 =>
 aR v20 (
   q0 (env 2) (env 3) (env 6) (env 9) v17 (env 12) h20) (
 bnd (gD v13 true (some ((env 2),h20)) h20) fun v21 h21 =>
 bnd (aN v13 v21 (.b false) h21) fun v22 h22 =>
 aR v22 (
 bnd (r 75 [(env 9),(aE 20),(aE 0),(aE 0)] h22) fun v23 h23 =>
    q0 (env 2) (env 3) (env 6) (env 9) (.b true) (env 12) h23) (
 bnd (r 75 [(env 9),(aE 12),(aE 0),(aE 0)] h22) fun v24 h24 =>
    q0 (env 2) (env 3) (env 6) (env 9) v17 (env 12) h24)):=by kernel_rfl
theorem bEd (kk20 : fZ) : (fun (env : aZ) (h : Hp) =>
 bnd (aB 5 (env 3) h) fun v1 h1 =>
 bnd (aA v1 h1) fun v2 h2 =>
 bnd (aG 6 v2 (env 12) h2) fun v3 h3 =>
 bnd (aK 6 v3 h3) fun v4 h4 =>
 bnd (bQ kG h4) fun v5 h5 =>
 bnd (aJ 6 v5 v4 h5) fun _ h6 =>
 bnd (aK 6 v5 h6) fun v7 h7 =>
 bnd (r 74 [(env 9),v7] h7) fun v8 h8 =>
 bnd (aC .add (env 12) (aE 1) h8) fun v9 h9 =>
 bnd (aB 5 (env 3) h9) fun v10 h10 =>
 bnd (aA v10 h10) fun v11 h11 =>
 bnd (bM v11 h11) fun v12 h12 =>
 bnd (aC .eql v9 v12 h12) fun v13 h13 =>
 bnd (gD v13 true (aB 0 v5 h13) h13) fun v14 h14 =>
 bnd (gD v13 true (aA v14 h14) h14) fun v15 h15 =>
 bnd (gD v13 true (aC .eql v15 (aE 10) h15) h15) fun v16 h16 =>
 bnd (aN v13 v16 (.b false) h16) fun v17 h17 =>
 bnd (aB 0 v5 h17) fun v18 h18 =>
 bnd (aA v18 h18) fun v19 h19 =>
 bnd (aC .eql v19 (aE 10) h19) fun v20 h20 =>
 aR v20 (
   mV r n kk20 (env 2) (env 3) (env 6) (env 9) v17 (env 12) h20) (
 bnd (gD v13 true (some ((env 2),h20)) h20) fun v21 h21 =>
 bnd (aN v13 v21 (.b false) h21) fun v22 h22 =>
 aR v22 (
 bnd (r 75 [(env 9),(aE 20),(aE 0),(aE 0)] h22) fun v23 h23 =>
    mV r n kk20 (env 2) (env 3) (env 6) (env 9) (.b true) (env 12) h23) (
 bnd (r 75 [(env 9),(aE 12),(aE 0),(aE 0)] h22) fun v24 h24 =>
    mV r n kk20 (env 2) (env 3) (env 6) (env 9) v17 (env 12) h24))) = (K5 (aMp r n kk20) 2 3 6 9 12):=by kernel_rfl
theorem dLd (kk20 : fZ) : D38 r n aHw (xs x0 2 (K4 (eN r n) 2 6 9 11)) (K6 kk20 2 3 6 9 11 12) = (K5 (aMp r n kk20) 2 3 6 9 12) :=
 (bRl r n kk20).trans
 ((bUx r n kk20 (mV r n kk20) (eN r n)).trans (bEd r n kk20))
theorem bRo (kk20 : fZ) : D38 r n lK (xs x0 2 (K4 (eN r n) 2 6 9 11)) (K6 kk20 2 3 6 9 11 12) = D38 r n cFs (xs x0 2 (K4 (eN r n) 2 6 9 11)) (K5 (aMp r n kk20) 2 3 6 9 12) :=
 congrArg (fun k=>D38 r n cFs (xs x0 2 (K4 (eN r n) 2 6 9 11)) k) (dLd r n kk20)
theorem cUd (kk20 : fZ) : D38 r n lK (xs x0 2 (K4 (eN r n) 2 6 9 11)) (K6 kk20 2 3 6 9 11 12) = (K6 (bOm r n kk20) 2 3 6 9 11 12) :=
 (bRo r n kk20).trans
 ((by kernel_rfl))
theorem cRg (m : Nat) : aM (fun kk=>D38 r n lK (xs x0 2 (K4 (eN r n) 2 6 9 11)) kk) m = (K6 (xE r n m) 2 3 6 9 11 12):=by
 induction m with
 | zero=>exact (by kernel_rfl : aM (fun kk=>D38 r n lK (xs x0 2 (K4 (eN r n) 2 6 9 11)) kk) 0 = (K6 (xE r n 0) 2 3 6 9 11 12))
 | succ m ih =>
  refine (by kernel_rfl : aM (fun kk=>D38 r n lK (xs x0 2 (K4 (eN r n) 2 6 9 11)) kk) (m + 1) = D38 r n lK (xs x0 2 (K4 (eN r n) 2 6 9 11)) (aM (fun kk=>D38 r n lK (xs x0 2 (K4 (eN r n) 2 6 9 11)) kk) m)).trans ?_
  rw [ih]
  exact (cUd r n (xE r n m)).trans (by kernel_rfl)
theorem dOa : D38 r n aGk (xs x0 2 (K4 (eN r n) 2 6 9 11)) (K4 (eN r n) 2 6 9 11) = (K6 (cSj r n) 2 3 6 9 11 12) :=
 (by kernel_rfl : D38 r n aGk (xs x0 2 (K4 (eN r n) 2 6 9 11)) (K4 (eN r n) 2 6 9 11) = aM (fun kk=>D38 r n lK (xs x0 2 (K4 (eN r n) 2 6 9 11)) kk) n).trans ((cRg r n n).trans (by kernel_rfl))
theorem dKc : D38 r n bDk x0 (K4 (eN r n) 2 6 9 11) = (K6 (bEg r n) 2 3 6 9 11 12) :=
 (by kernel_rfl : D38 r n bDk x0 (K4 (eN r n) 2 6 9 11) = D38 r n aGk (xs x0 2 (K4 (eN r n) 2 6 9 11)) (K4 (eN r n) 2 6 9 11)).trans
 ((dOa r n).trans (by kernel_rfl))
theorem cUc : D38 r n bLs x0 r38 = D38 r n aBr x0 (K4 (eN r n) 2 6 9 11) :=
 congrArg (fun k=>D38 r n aBr x0 k) (dWy r n)
theorem cDt : D38 r n aBr x0 (K4 (eN r n) 2 6 9 11) = D38 r n cBv x0 (K6 (bEg r n) 2 3 6 9 11 12) :=
 congrArg (fun k=>D38 r n cBv x0 k) (dKc r n)
theorem dVg : D38 r n bLs x0 r38 = (K5 (cMo r n) 2 3 6 9 11) :=
 (cUc r n).trans
 ((cDt r n).trans
 ((by kernel_rfl)))
theorem cQj : D38 r n bKw x0 r38 = D38 r n bXp x0 (K5 (cMo r n) 2 3 6 9 11) :=
 congrArg (fun k=>D38 r n bXp x0 k) (dVg r n)
theorem eAb : D38 r n bKw x0 r38 = (K4 (cNw r n) 2 3 6 9) :=
 (cQj r n).trans
 ((by kernel_rfl))
theorem cAw : D38 r n bHe x0 r38 = D38 r n cPc x0 (K4 (cNw r n) 2 3 6 9) :=
 congrArg (fun k=>D38 r n cPc x0 k) (eAb r n)
theorem dUq : D38 r n bHe x0 r38 = (K4 (cKu r n) 2 3 6 9) :=
 (cAw r n).trans
 ((by kernel_rfl))
theorem bXk : D38 r n bGl x0 r38 = D38 r n cBz x0 (K4 (cKu r n) 2 3 6 9) :=
 congrArg (fun k=>D38 r n cBz x0 k) (dUq r n)
theorem dYs : D38 r n bGl x0 r38 = (K4 (gS r n) 2 3 6 9) :=
 (bXk r n).trans
 ((by kernel_rfl))
theorem bVc (kk24 : fZ) (q0 : dG) : D38 r n nM (xs x0 0 (K4 q0 2 3 6 9)) (K6 kk24 1 2 3 6 9 10) = fun (env : aZ) (h : Hp) =>
 bnd (bM (env 1) h) fun v1 h1 =>
 bnd (aC .lss (env 10) v1 h1) fun v2 h2 =>
 aR v2 (
 bnd (aV (env 9) (resv 1 h2)) fun v3 h3 =>
 bnd (aB 6 v3 h3) fun v4 h4 =>
 bnd (aA v4 h4) fun v5 h5 =>
 bnd (aG 1 (env 1) (env 10) h5) fun v6 h6 =>
 bnd (aA v6 h6) fun v7 h7 =>
 bnd (aY [(.s []),(aE 0),(aE 0)] [(0,1,v7),(1,1,(aE 1)),(2,1,(env 10))] h7) fun v8 h8 =>
 bnd (bL (bX 0 h2.next) [(.s []),(aE 0),(aE 0)] 1 [(0,3,v8)] h8) fun v9 h9 =>
 bnd (bH 3 32 v5 v9 h9) fun v10 h10 =>
 bnd (aV (env 9) h10) fun v11 h11 =>
 bnd (aB 6 v11 h11) fun v12 h12 =>
 bnd (aJ 1 v12 v10 h12) fun v13 h13 =>
 bnd (aC .add (env 10) (aE 1) h13) fun v14 h14 =>
      kk24 (env 1) (env 2) (env 3) (env 6) (env 9) v14 h14) (
      q0 (env 2) (env 3) (env 6) (env 9) h2):=by kernel_rfl
theorem aXw (kk24 : fZ) : (fun (env : aZ) (h : Hp) =>
 bnd (bM (env 1) h) fun v1 h1 =>
 bnd (aC .lss (env 10) v1 h1) fun v2 h2 =>
 aR v2 (
 bnd (aV (env 9) (resv 1 h2)) fun v3 h3 =>
 bnd (aB 6 v3 h3) fun v4 h4 =>
 bnd (aA v4 h4) fun v5 h5 =>
 bnd (aG 1 (env 1) (env 10) h5) fun v6 h6 =>
 bnd (aA v6 h6) fun v7 h7 =>
 bnd (aY [(.s []),(aE 0),(aE 0)] [(0,1,v7),(1,1,(aE 1)),(2,1,(env 10))] h7) fun v8 h8 =>
 bnd (bL (bX 0 h2.next) [(.s []),(aE 0),(aE 0)] 1 [(0,3,v8)] h8) fun v9 h9 =>
 bnd (bH 3 32 v5 v9 h9) fun v10 h10 =>
 bnd (aV (env 9) h10) fun v11 h11 =>
 bnd (aB 6 v11 h11) fun v12 h12 =>
 bnd (aJ 1 v12 v10 h12) fun v13 h13 =>
 bnd (aC .add (env 10) (aE 1) h13) fun v14 h14 =>
      kk24 (env 1) (env 2) (env 3) (env 6) (env 9) v14 h14) (
      gS r n (env 2) (env 3) (env 6) (env 9) h2)) = (K6 (aQm r n kk24) 1 2 3 6 9 10):=by kernel_rfl
theorem cCe (kk24 : fZ) : D38 r n nM (xs x0 0 (K4 (gS r n) 2 3 6 9)) (K6 kk24 1 2 3 6 9 10) = (K6 (aQm r n kk24) 1 2 3 6 9 10) :=
 (bVc r n kk24 (gS r n)).trans (aXw r n kk24)
theorem bZc (m : Nat) : aM (fun kk=>D38 r n nM (xs x0 0 (K4 (gS r n) 2 3 6 9)) kk) m = (K6 (vZ r n m) 1 2 3 6 9 10):=by
 induction m with
 | zero=>exact (by kernel_rfl : aM (fun kk=>D38 r n nM (xs x0 0 (K4 (gS r n) 2 3 6 9)) kk) 0 = (K6 (vZ r n 0) 1 2 3 6 9 10))
 | succ m ih =>
  refine (by kernel_rfl : aM (fun kk=>D38 r n nM (xs x0 0 (K4 (gS r n) 2 3 6 9)) kk) (m + 1) = D38 r n nM (xs x0 0 (K4 (gS r n) 2 3 6 9)) (aM (fun kk=>D38 r n nM (xs x0 0 (K4 (gS r n) 2 3 6 9)) kk) m)).trans ?_
  rw [ih]
  exact (cCe r n (vZ r n m)).trans (by kernel_rfl)
theorem cZs : D38 r n aMs (xs x0 0 (K4 (gS r n) 2 3 6 9)) (K4 (gS r n) 2 3 6 9) = (K6 (cCl r n) 1 2 3 6 9 10) :=
 (by kernel_rfl : D38 r n aMs (xs x0 0 (K4 (gS r n) 2 3 6 9)) (K4 (gS r n) 2 3 6 9) = aM (fun kk=>D38 r n nM (xs x0 0 (K4 (gS r n) 2 3 6 9)) kk) n).trans ((bZc r n n).trans (by kernel_rfl))
theorem dQh : D38 r n bAu x0 (K4 (gS r n) 2 3 6 9) = (K6 (aXf r n) 1 2 3 6 9 10) :=
 (by kernel_rfl : D38 r n bAu x0 (K4 (gS r n) 2 3 6 9) = D38 r n aMs (xs x0 0 (K4 (gS r n) 2 3 6 9)) (K4 (gS r n) 2 3 6 9)).trans
 ((cZs r n).trans (by kernel_rfl))
theorem cQe : D38 r n bKu x0 r38 = D38 r n aCh x0 (K4 (gS r n) 2 3 6 9) :=
 congrArg (fun k=>D38 r n aCh x0 k) (dYs r n)
theorem cOe : D38 r n aCh x0 (K4 (gS r n) 2 3 6 9) = D38 r n cOw x0 (K6 (aXf r n) 1 2 3 6 9 10) :=
 congrArg (fun k=>D38 r n cOw x0 k) (dQh r n)
theorem dVx : D38 r n bKu x0 r38 = (K5 (aRy r n) 1 2 3 6 9) :=
 (cQe r n).trans
 ((cOe r n).trans
 ((by kernel_rfl)))
theorem cJo : D38 r n bOb x0 r38 = D38 r n aZu x0 (K5 (aRy r n) 1 2 3 6 9) :=
 congrArg (fun k=>D38 r n aZu x0 k) (dVx r n)
theorem bYd (q0 : cN) : D38 r n aZu x0 (K5 q0 1 2 3 6 9) = fun (env : aZ) (h : Hp) =>
 bnd (aB 1 (env 3) h) fun v1 h1 =>
 bnd (aA v1 h1) fun v2 h2 =>
 bnd (aB 3 (env 3) h2) fun v3 h3 =>
 bnd (aA v3 h3) fun v4 h4 =>
 bnd (bM v4 h4) fun v5 h5 =>
 bnd (aB 2 (env 3) h5) fun v6 h6 =>
 bnd (aA v6 h6) fun v7 h7 =>
 bnd (aY [(.s []),(aE 0),(aE 0),(aE 0),.l0,.l0] [(0,1,v2),(1,1,v5),(3,1,v7)] h7) fun v8 h8 =>
 bnd (aY [(.s []),(aE 0),(aE 0),(aE 0),.l0,.l0,.l0,(aE 0),(.s [])] [(0,6,v8)] h8) fun v9 h9 =>
 bnd (bZ v9 h9) fun v10 h10 =>
  q0 (env 1) (env 2) (env 3) (env 6) v10 h10:=by kernel_rfl
theorem bRg : (fun (env : aZ) (h : Hp) =>
 bnd (aB 1 (env 3) h) fun v1 h1 =>
 bnd (aA v1 h1) fun v2 h2 =>
 bnd (aB 3 (env 3) h2) fun v3 h3 =>
 bnd (aA v3 h3) fun v4 h4 =>
 bnd (bM v4 h4) fun v5 h5 =>
 bnd (aB 2 (env 3) h5) fun v6 h6 =>
 bnd (aA v6 h6) fun v7 h7 =>
 bnd (aY [(.s []),(aE 0),(aE 0),(aE 0),.l0,.l0] [(0,1,v2),(1,1,v5),(3,1,v7)] h7) fun v8 h8 =>
 bnd (aY [(.s []),(aE 0),(aE 0),(aE 0),.l0,.l0,.l0,(aE 0),(.s [])] [(0,6,v8)] h8) fun v9 h9 =>
 bnd (bZ v9 h9) fun v10 h10 =>
  aRy r n (env 1) (env 2) (env 3) (env 6) v10 h10) = (K4 (aFt r n) 1 2 3 6):=by kernel_rfl
theorem dVz : D38 r n bOb x0 r38 = (K4 (aFt r n) 1 2 3 6) :=
 (cJo r n).trans
 ((bYd r n (aRy r n)).trans (bRg r n))
theorem cRs : D38 r n bNs x0 r38 = D38 r n bEn x0 (K4 (aFt r n) 1 2 3 6) :=
 congrArg (fun k=>D38 r n bEn x0 k) (dVz r n)
theorem cQk (q0 : dG) : D38 r n bEn x0 (K4 q0 1 2 3 6) = fun (env : aZ) (h : Hp) =>
 bnd (aB 0 (env 3) h) fun v1 h1 =>
 bnd (aA v1 h1) fun v2 h2 =>
 bnd (aC .neq v2 (aE 11) h2) fun v3 h3 =>
 bnd (gD v3 false (some ((env 1),h3)) h3) fun v4 h4 =>
 bnd (gD v3 false (bM v4 h4) h4) fun v5 h5 =>
 bnd (gD v3 false (aC .gtr v5 (aE 8) h5) h5) fun v6 h6 =>
 bnd (aN v3 (.b true) v6 h6) fun v7 h7 =>
 aR v7 (
 bnd (aY [(.s []),(aE 0),(aE 0),(aE 0),.l0,.l0] [] h7) fun v8 h8 =>
 bnd (aJ 6 (env 6) v8 h8) fun _ h9 =>
 bnd (aK 6 (env 6) h9) fun v10 _ =>
 some (.t [v10,(.s []),(aE 1)],h9)) (
   q0 (env 1) (env 2) (env 3) (env 6) h7):=by kernel_rfl
theorem bWf : (fun (env : aZ) (h : Hp) =>
 bnd (aB 0 (env 3) h) fun v1 h1 =>
 bnd (aA v1 h1) fun v2 h2 =>
 bnd (aC .neq v2 (aE 11) h2) fun v3 h3 =>
 bnd (gD v3 false (some ((env 1),h3)) h3) fun v4 h4 =>
 bnd (gD v3 false (bM v4 h4) h4) fun v5 h5 =>
 bnd (gD v3 false (aC .gtr v5 (aE 8) h5) h5) fun v6 h6 =>
 bnd (aN v3 (.b true) v6 h6) fun v7 h7 =>
 aR v7 (
 bnd (aY [(.s []),(aE 0),(aE 0),(aE 0),.l0,.l0] [] h7) fun v8 h8 =>
 bnd (aJ 6 (env 6) v8 h8) fun _ h9 =>
 bnd (aK 6 (env 6) h9) fun v10 _ =>
 some (.t [v10,(.s []),(aE 1)],h9)) (
   aFt r n (env 1) (env 2) (env 3) (env 6) h7)) = (K4 (aFq r n) 1 2 3 6):=by kernel_rfl
theorem eGp : D38 r n bNs x0 r38 = (K4 (aFq r n) 1 2 3 6) :=
 (cRs r n).trans
 ((cQk r n (aFt r n)).trans (bWf r n))
theorem dWb : D38 r n c38 x0 r38 = D38 r n bBv x0 (K4 (aFq r n) 1 2 3 6) :=
 congrArg (fun k=>D38 r n bBv x0 k) (eGp r n)
theorem dWf (q0 : dG) : D38 r n bBv x0 (K4 q0 1 2 3 6) = fun (env : aZ) (h : Hp) =>
 bnd (bZ (env 0) h) fun v1 h1 =>
 bnd (bQ [(.s []),(aE 0),(aE 0),(aE 0),.l0,.l0] h1) fun v2 h2 =>
  q0 (env 1) (env 2) v1 v2 h2:=by kernel_rfl
theorem cYw : (fun (env : aZ) (h : Hp) =>
 bnd (bZ (env 0) h) fun v1 h1 =>
 bnd (bQ [(.s []),(aE 0),(aE 0),(aE 0),.l0,.l0] h1) fun v2 h2 =>
  aFq r n (env 1) (env 2) v1 v2 h2) = (K3 (s38 r n) 0 1 2):=by kernel_rfl
theorem eXs : D38 r n c38 x0 r38 = (K3 (s38 r n) 0 1 2) :=
 (dWb r n).trans
 ((dWf r n (aFq r n)).trans (cYw r n))
theorem eRw : aI CF r n 38 args h = s38 r n (bI args 0) (bI args 1) (bI args 2) h :=
 (by kernel_rfl : aI CF r n 38 args h = D38 r n c38 x0 r38 (aQ args) h).trans ((congrFun (congrFun (eXs r n) (aQ args)) h).trans (by kernel_rfl))
def s39 (r : RT) (n : Nat) (x0 : DV) (h0 : Hp) : aH :=
 fL 1 x0 h0 fun v1 h1 =>
 bnd (bM v1 h1) fun v2 h2 =>
 some (v2,h2)
theorem eRk : aI CF r n 39 args h = s39 r n (bI args 0) h :=
 by kernel_rfl
def s40 (r : RT) (n : Nat) (x0 : DV) (h0 : Hp) : aH :=
 bnd (bQ [(aE 0),(aE 0),(aE 0),(aE 0),(aE 0),.l0,.l0,(.b false),(aE 0),(aE 0)] h0) fun v1 h1 =>
  fL 1 x0 h1 fun v2 h2 =>
 bnd (bM v2 h2) fun v3 h3 =>
 bnd (aC .sub v3 (aE 1) h3) fun v4 h4 =>
 bnd (aC .lss v4 (aE 0) h4) fun v5 h5 =>
 aR v5 (
 bnd (aY [(aE 0),(aE 0),(aE 0),(aE 0),(aE 0),.l0,.l0,(.b false),(aE 0),(aE 0)] [] h5) fun v6 h6 =>
 bnd (aJ 10 v1 v6 h6) fun _ h7 =>
 bnd (aK 10 v1 h7) fun v8 _ =>
 some (.t [v8,(.b false)],h7)) (
  fL 1 x0 h5 fun v9 h9 =>
 bnd (aG 10 v9 v4 h9) fun v10 h10 =>
 bnd (aK 10 v10 h10) fun v11 h11 =>
 bnd (bQ [(aE 0),(aE 0),(aE 0),(aE 0),(aE 0),.l0,.l0,(.b false),(aE 0),(aE 0)] h11) fun v12 h12 =>
 bnd (aJ 10 v12 v11 h12) fun _ h13 =>
  fL 1 x0 h13 fun v14 h14 =>
 bnd (eL 10 v14 none (some v4) h14) fun v15 h15 =>
 bnd (aV x0 h15) fun v16 h16 =>
 bnd (aB 1 v16 h16) fun v17 h17 =>
 bnd (aJ 1 v17 v15 h17) fun _ h18 =>
 bnd (aK 10 v12 h18) fun v19 h19 =>
 bnd (aJ 10 v1 v19 h19) fun _ h20 =>
 bnd (aK 10 v1 h20) fun v21 _ =>
 some (.t [v21,(.b true)],h20))
theorem eMj : aI CF r n 40 args h = s40 r n (bI args 0) h :=
 by kernel_rfl
def s41 (r : RT) (n : Nat) (x0 : DV) (h0 : Hp) : aH :=
 fL 0 x0 h0 fun v1 h1 =>
 some (v1,h1)
theorem eOt : aI CF r n 41 args h = s41 r n (bI args 0) h :=
 by kernel_rfl
def s44 (r : RT) (n : Nat) (x0 x1 x2 : DV) (h0 : Hp) : aH :=
 bnd (bZ x2 h0) fun v1 h1 =>
 bnd (r 81 [x0,x1] h1) fun v2 h2 =>
 bnd (eQ .not v2 h2) fun v3 h3 =>
 aR v3 (
 some (.t [(aE 0),(aE 24)],h3)) (
 bnd (aK 6 v1 h3) fun v4 h4 =>
 bnd (r 83 [x0,x1] h4) fun v5 h5 =>
 cnd (aX (aK 6 v1 h5) v4 && true) (
 bnd (r 82 [v4,v5] h5) fun v6 h6 =>
 bnd (aC .neq v6 (aE 0) h6) fun v7 h7 =>
 aR v7 (
 some (.t [(aE 0),v6],h7)) (
   fM 0 v1 h7 fun v8 h8 =>
 bnd (r 28 [x0,v8] h8) fun v9 h9 =>
 bnd (aF 0 v9 h9) fun v10 h10 =>
 bnd (aF 1 v9 h10) fun v11 h11 =>
 bnd (aC .neq v11 (aE 0) h11) fun v12 h12 =>
 aR v12 (
 some (.t [(aE 0),v11],h12)) (
    fM 4 v1 h12 fun v13 h13 =>
 bnd (aY [(aE 0),(.s []),(aE 0),.l0] [(0,1,(aE 4)),(3,1,v13)] h13) fun v14 h14 =>
 bnd (r 84 [x0,v14] h14) fun v15 h15 =>
 bnd (aF 0 v15 h15) fun v16 h16 =>
 bnd (aF 1 v15 h16) fun v17 h17 =>
 bnd (aC .neq v17 (aE 0) h17) fun v18 h18 =>
 aR v18 (
 some (.t [(aE 0),v17],h18)) (
     fM 5 v1 h18 fun v19 h19 =>
 bnd (r 85 [v19] h19) fun v20 h20 =>
 bnd (aF 0 v20 h20) fun v21 h21 =>
 bnd (aF 1 v20 h21) fun v22 h22 =>
 bnd (r 86 [x0,v21] h22) fun v23 h23 =>
 bnd (aF 0 v23 h23) fun v24 h24 =>
 bnd (aF 1 v23 h24) fun v25 h25 =>
 bnd (aC .neq v25 (aE 0) h25) fun v26 h26 =>
 aR v26 (
 some (.t [(aE 0),v25],h26)) (
 bnd (r 26 [x0,(aE 14)] (resv 1 h26)) fun v27 h27 =>
 bnd (aB 1 v1 h27) fun v28 h28 =>
 bnd (aA v28 h28) fun v29 h29 =>
 cnd (aX (aA v28 (resv 1 h26)) v29 && true) (
 bnd (r 30 [v29] h29) fun v30 h30 =>
 bnd (aB 2 v1 h30) fun v31 h31 =>
 bnd (aA v31 h31) fun v32 h32 =>
 cnd (aX (aA v31 h27) v32 && (aX (aA v31 (resv 1 h26)) v32 && true)) (
 bnd (r 30 [v32] h32) fun v33 h33 =>
 bnd (aB 3 v1 h33) fun v34 h34 =>
 bnd (aA v34 h34) fun v35 h35 =>
 cnd (aX (aA v34 h30) v35 && (aX (aA v34 h27) v35 && (aX (aA v34 (resv 1 h26)) v35 && true))) (
 bnd (r 30 [v35] h35) fun v36 h36 =>
 bnd (bL (bX 0 h26.next) [(aE 0),(aE 0),(aE 0),(aE 0),(aE 0),(aE 0),(aE 0)] 7 [(0,1,v10),(1,1,v30),(2,1,v33),(3,1,v36),(4,1,v16),(5,1,v24),(6,1,x1)] h36) fun v37 h37 =>
 bnd (r 59 [x0,v27,(aE 0),v37] h37) fun v38 h38 =>
 bnd (aF 0 v38 h38) fun v39 h39 =>
 bnd (aF 1 v38 h39) fun v40 h40 =>
 some (.t [v39,v40],h40))))))))))
theorem ePh : aI CF r n 44 args h = s44 r n (bI args 0) (bI args 1) (bI args 2) h :=
 by kernel_rfl
def s45 (r : RT) (n : Nat) (x0 x1 : DV) (h0 : Hp) : aH :=
 bnd (bZ x0 h0) fun v1 h1 =>
 bnd (bZ x1 h1) fun v2 h2 =>
  fM 4 v2 h2 fun v3 h3 =>
 bnd (aC .eql v3 (aE 0) h3) fun v4 h4 =>
 bnd (gD v4 true (aB 5 v2 h4) h4) fun v5 h5 =>
 bnd (gD v4 true (aA v5 h5) h5) fun v6 h6 =>
 bnd (gD v4 true (bM v6 h6) h6) fun v7 h7 =>
 bnd (gD v4 true (aC .leq v7 (aE 24) h7) h7) fun v8 h8 =>
 bnd (aN v4 v8 (.b false) h8) fun v9 h9 =>
 bnd (bQ [(.b false)] h9) fun v10 h10 =>
 bnd (aJ 1 v10 v9 h10) fun _ h11 =>
 bnd (r 87 [v2,(.f 88 [] [v10,v1])] h11) fun v12 h12 =>
 bnd (aA v1 h12) fun v13 h13 =>
  fL 1 v13 h13 fun v14 h14 =>
 bnd (bM v14 h14) fun v15 h15 =>
 bnd (aC .geq v15 (aE 60) h15) fun v16 h16 =>
 aR v16 (
 some ((aE 22),h16)) (
 bnd (aA v10 h16) fun v17 h17 =>
 bnd (eQ .not v17 h17) fun v18 h18 =>
 aR v18 (
 some ((aE 1),h18)) (
 bnd (aA v1 (resv 1 h18)) fun v19 h19 =>
 bnd (aA v1 h19) fun v20 h20 =>
 bnd (aV v20 h20) fun v21 h21 =>
 bnd (aB 1 v21 h21) fun v22 h22 =>
 bnd (aA v22 h22) fun v23 h23 =>
 bnd (aK 10 v2 h23) fun v24 h24 =>
 bnd (r 89 [v24] h24) fun v25 h25 =>
 cnd (aX (aA v22 h25) v23 && (aX (aA v1 h25) v20 && (aX (aA v1 h25) v19 && true))) (
 bnd (bL (bX 0 h18.next) [(aE 0),(aE 0),(aE 0),(aE 0),(aE 0),.l0,.l0,(.b false),(aE 0),(aE 0)] 1 [(0,10,v25)] h25) fun v26 h26 =>
 bnd (bH 10 112 v23 v26 h26) fun v27 h27 =>
 cnd (aX (aA v1 h27) v19 && true) (
 bnd (aV v19 h27) fun v28 h28 =>
 bnd (aB 1 v28 h28) fun v29 h29 =>
 bnd (aJ 1 v29 v27 h29) fun v30 h30 =>
 some ((aE 0),h30)))))
theorem eMi : aI CF r n 45 args h = s45 r n (bI args 0) (bI args 1) h :=
 by kernel_rfl
end Go.Dd

namespace Go.Dd
open Go.Proofs
variable (r : RT) (n : Nat) (args : List DV) (h : Hp)
def aQd (r : RT) (n : Nat) (x0 : DV) (h0 : Hp) : aH :=
 fL 12 x0 h0 fun v1 h1 =>
 bnd (eQ .not v1 h1) fun v2 h2 =>
 some (v2,h2)
def dY (r : RT) (n : Nat) (x0 x3 x6 : DV) (h0 : Hp) : aH :=
 bnd (aK 3 x3 h0) fun v1 h1 =>
 bnd (iA CF r x6 [v1] h1) fun v2 h2 =>
 bnd (aC .neq v2 (aE 0) h2) fun v3 h3 =>
 bnd (gD v3 true (some (x0,h3)) h3) fun v4 h4 =>
 bnd (gD v3 true (aV v4 h4) h4) fun v5 h5 =>
 bnd (gD v3 true (aB 12 v5 h5) h5) fun v6 h6 =>
 bnd (gD v3 true (aA v6 h6) h6) fun v7 h7 =>
 bnd (gD v3 true (eQ .not v7 h7) h7) fun v8 h8 =>
 bnd (aN v3 v8 (.b false) h8) fun v9 h9 =>
 aR v9 (
 bnd (r 92 [x0,v2,(.s [])] h9) fun v10 h10 =>
  aQd r n x0 h10) (
  aQd r n x0 h9)
def pU (r : RT) (n : Nat) (x0 x3 x6 x52 : DV) (h0 : Hp) : aH :=
 aR x52 (
  dY r n x0 x3 (.f 96 [x0] []) h0) (
  dY r n x0 x3 x6 h0)
def cIk (r : RT) (n : Nat) (x0 x3 x6 x42 : DV) (h0 : Hp) : aH :=
 bnd (aC .eql x42 (aE 18) h0) fun v1 h1 =>
 aR v1 (
  pU r n x0 x3 x6 v1 h1) (
 bnd (aC .eql x42 (aE 14) h1) fun v2 h2 =>
 aR v2 (
   pU r n x0 x3 x6 v2 h2) (
 bnd (aC .eql x42 (aE 15) h2) fun v3 h3 =>
 aR v3 (
    pU r n x0 x3 x6 v3 h3) (
 bnd (aC .eql x42 (aE 19) h3) fun v4 h4 =>
 aR v4 (
     pU r n x0 x3 x6 v4 h4) (
 bnd (aC .eql x42 (aE 20) h4) fun v5 h5 =>
     pU r n x0 x3 x6 v5 h5))))
def nJ (r : RT) (n : Nat) (x0 x3 x6 x42 x43 : DV) (h0 : Hp) : aH :=
 aR x43 (
  dY r n x0 x3 (.f 95 [x0] []) h0) (
  cIk r n x0 x3 x6 x42 h0)
def bDj (r : RT) (n : Nat) (x0 x3 x6 x42 : DV) (h0 : Hp) : aH :=
 bnd (aC .eql x42 (aE 10) h0) fun v1 h1 =>
 aR v1 (
  nJ r n x0 x3 x6 x42 v1 h1) (
 bnd (aC .eql x42 (aE 11) h1) fun v2 h2 =>
 aR v2 (
   nJ r n x0 x3 x6 x42 v2 h2) (
 bnd (aC .eql x42 (aE 12) h2) fun v3 h3 =>
 aR v3 (
    nJ r n x0 x3 x6 x42 v3 h3) (
 bnd (aC .eql x42 (aE 13) h3) fun v4 h4 =>
 aR v4 (
     nJ r n x0 x3 x6 x42 v4 h4) (
 bnd (aC .eql x42 (aE 16) h4) fun v5 h5 =>
 aR v5 (
      nJ r n x0 x3 x6 x42 v5 h5) (
 bnd (aC .eql x42 (aE 17) h5) fun v6 h6 =>
      nJ r n x0 x3 x6 x42 v6 h6)))))
def bXb (r : RT) (n : Nat) (x0 x3 x6 : DV) (h0 : Hp) : aH :=
 fM 0 x3 h0 fun v1 h1 =>
 bDj r n x0 x3 x6 v1 h1
def cHd (r : RT) (n : Nat) (x0 x3 : DV) (h0 : Hp) : aH :=
 bXb r n x0 x3 (.f 94 [x0] []) h0
def bYo (r : RT) (n : Nat) (x0 x3 x5 : DV) (h0 : Hp) : aH :=
 fL 3 x5 h0 fun v1 h1 =>
 bnd (aC .add v1 (aE 1) h1) fun v2 h2 =>
 bnd (aV x5 h2) fun v3 h3 =>
 bnd (aB 3 v3 h3) fun v4 h4 =>
 bnd (aJ 1 v4 v2 h4) fun _ h5 =>
  cHd r n x0 x3 h5
def cPj (r : RT) (n : Nat) (x0 x3 : DV) (h0 : Hp) : aH :=
 fL 1 x0 h0 fun v1 h1 =>
 bnd (r 93 [v1] h1) fun v2 h2 =>
  bYo r n x0 x3 v2 h2
def cTz (r : RT) (n : Nat) (x0 x3 : DV) (h0 : Hp) : aH :=
 fL 5 x0 h0 fun v1 h1 =>
 bnd (aC .sub v1 (aE 1) h1) fun v2 h2 =>
 bnd (aV x0 h2) fun v3 h3 =>
 bnd (aB 5 v3 h3) fun v4 h4 =>
 bnd (aJ 1 v4 v2 h4) fun _ h5 =>
  cPj r n x0 x3 h5
def aUr (r : RT) (n : Nat) (x0 x3 x4 : DV) (h0 : Hp) : aH :=
 bnd (eQ .not x4 h0) fun v1 h1 =>
 aR v1 (
 bnd (r 92 [x0,(aE 19),(.s [])] h1) fun v2 h2 =>
 some ((.b false),h2)) (
  cTz r n x0 x3 h1)
def bEt (r : RT) (n : Nat) (x0 : DV) (h0 : Hp) : aH :=
 bnd (r 91 [x0] h0) fun v1 h1 =>
 bnd (aF 0 v1 h1) fun v2 h2 =>
 bnd (aF 1 v1 h2) fun v3 h3 =>
 bnd (bQ [(aE 0),(aE 0),(aE 0)] h3) fun v4 h4 =>
 bnd (aJ 3 v4 v2 h4) fun _ h5 =>
  aUr r n x0 v4 v3 h5
def cIm (r : RT) (n : Nat) (x0 : DV) (h0 : Hp) : aH :=
 bnd (r 90 [x0] h0) fun v1 h1 =>
 bnd (eQ .not v1 h1) fun v2 h2 =>
 aR v2 (
 some ((.b false),h2)) (
  bEt r n x0 h2)
def s46 (r : RT) (n : Nat) (x0 : DV) (h0 : Hp) : aH :=
 cIm r n x0 h0
abbrev c46 : Code:=cf Tryz.f46
abbrev bOz : Code:=cR c46
abbrev bOy : Code:=cR bOz
abbrev bLz : Code:=cR bOy
abbrev bQb : Code:=cR bLz
abbrev bMf : Code:=cR bQb
abbrev bIl : Code:=cR bMf
abbrev bGr : Code:=cR bIl
abbrev bFi : Code:=cR bGr
abbrev bKm : Code:=cR bFi
abbrev eCk : Code:=cR bKm
abbrev cRd : Code:=cL bKm
abbrev aDn : Code:=cL bFi
abbrev bCk : Code:=cR aDn
abbrev aIj : Code:=cL bCk
abbrev zZ : Code:=cR aIj
abbrev aBv : Code:=cR zZ
abbrev eHr : Code:=cR aBv
abbrev cTh : Code:=cL aBv
abbrev dUg : Code:=cL zZ
abbrev cGn : Code:=cL aIj
abbrev cMs : Code:=cL aDn
abbrev cPh : Code:=cL bGr
abbrev bXm : Code:=cL bIl
abbrev cEu : Code:=cL bMf
abbrev cVb : Code:=cL bQb
abbrev cIx : Code:=cL bLz
abbrev aZv : Code:=cL bOy
abbrev cWc : Code:=cL bOz
abbrev cVo : Code:=cL c46
abbrev r46 : K:=bE CF Tryz.f46
def D46 (r : RT) (n : Nat) (c : Code) (X : Nat → K) (k : K) : K:=aW CF r 80 n c X r46 k
theorem dFi : D46 r n eCk x0 r46 = (K1 (aQd r n) 0) :=
 (by kernel_rfl)
theorem dAx : D46 r n bKm x0 r46 = D46 r n cRd x0 (K1 (aQd r n) 0) :=
 congrArg (fun k=>D46 r n cRd x0 k) (dFi r n)
theorem eHc : D46 r n bKm x0 r46 = (K3 (dY r n) 0 3 6) :=
 (dAx r n).trans
 ((by kernel_rfl))
theorem dHc : D46 r n eHr (xs x0 0 (K3 (dY r n) 0 3 6)) (K3 (dY r n) 0 3 6) = (K4 (pU r n) 0 3 6 52) :=
 (by kernel_rfl)
theorem cCy : D46 r n aBv (xs x0 0 (K3 (dY r n) 0 3 6)) (K3 (dY r n) 0 3 6) = D46 r n cTh (xs x0 0 (K3 (dY r n) 0 3 6)) (K4 (pU r n) 0 3 6 52) :=
 congrArg (fun k=>D46 r n cTh (xs x0 0 (K3 (dY r n) 0 3 6)) k) (dHc r n)
theorem cXx : D46 r n aBv (xs x0 0 (K3 (dY r n) 0 3 6)) (K3 (dY r n) 0 3 6) = (K4 (cIk r n) 0 3 6 42) :=
 (cCy r n).trans
 ((by kernel_rfl))
theorem dFo : D46 r n zZ (xs x0 0 (K3 (dY r n) 0 3 6)) (K3 (dY r n) 0 3 6) = (K5 (nJ r n) 0 3 6 42 43) :=
 (by kernel_rfl : D46 r n zZ (xs x0 0 (K3 (dY r n) 0 3 6)) (K3 (dY r n) 0 3 6) = (fun (env : aZ) (h : Hp)=>aR (opr env (cC zZ)) (D46 r n dUg (xs x0 0 (K3 (dY r n) 0 3 6)) (K3 (dY r n) 0 3 6) env h) (D46 r n aBv (xs x0 0 (K3 (dY r n) 0 3 6)) (K3 (dY r n) 0 3 6) env h))).trans (by rw [cXx r n]; kernel_rfl)
theorem cAs : D46 r n aIj (xs x0 0 (K3 (dY r n) 0 3 6)) (K3 (dY r n) 0 3 6) = D46 r n cGn (xs x0 0 (K3 (dY r n) 0 3 6)) (K5 (nJ r n) 0 3 6 42 43) :=
 congrArg (fun k=>D46 r n cGn (xs x0 0 (K3 (dY r n) 0 3 6)) k) (dFo r n)
theorem cXj : D46 r n bCk x0 (K3 (dY r n) 0 3 6) = (K4 (bDj r n) 0 3 6 42) :=
 (by kernel_rfl : D46 r n bCk x0 (K3 (dY r n) 0 3 6) = D46 r n aIj (xs x0 0 (K3 (dY r n) 0 3 6)) (K3 (dY r n) 0 3 6)).trans
 ((cAs r n).trans
 ((by kernel_rfl)))
theorem dPl : D46 r n bFi x0 r46 = D46 r n aDn x0 (K3 (dY r n) 0 3 6) :=
 congrArg (fun k=>D46 r n aDn x0 k) (eHc r n)
theorem dOv : D46 r n aDn x0 (K3 (dY r n) 0 3 6) = D46 r n cMs x0 (K4 (bDj r n) 0 3 6 42) :=
 congrArg (fun k=>D46 r n cMs x0 k) (cXj r n)
theorem eFm : D46 r n bFi x0 r46 = (K3 (bXb r n) 0 3 6) :=
 (dPl r n).trans
 ((dOv r n).trans
 ((by kernel_rfl)))
theorem dFn : D46 r n bGr x0 r46 = D46 r n cPh x0 (K3 (bXb r n) 0 3 6) :=
 congrArg (fun k=>D46 r n cPh x0 k) (eFm r n)
theorem eHp : D46 r n bGr x0 r46 = (K2 (cHd r n) 0 3) :=
 (dFn r n).trans
 ((by kernel_rfl))
theorem dGx : D46 r n bIl x0 r46 = D46 r n bXm x0 (K2 (cHd r n) 0 3) :=
 congrArg (fun k=>D46 r n bXm x0 k) (eHp r n)
theorem dXk : D46 r n bIl x0 r46 = (K3 (bYo r n) 0 3 5) :=
 (dGx r n).trans
 ((by kernel_rfl))
theorem dBj : D46 r n bMf x0 r46 = D46 r n cEu x0 (K3 (bYo r n) 0 3 5) :=
 congrArg (fun k=>D46 r n cEu x0 k) (dXk r n)
theorem eHj : D46 r n bMf x0 r46 = (K2 (cPj r n) 0 3) :=
 (dBj r n).trans
 ((by kernel_rfl))
theorem dEv : D46 r n bQb x0 r46 = D46 r n cVb x0 (K2 (cPj r n) 0 3) :=
 congrArg (fun k=>D46 r n cVb x0 k) (eHj r n)
theorem eAf : D46 r n bQb x0 r46 = (K2 (cTz r n) 0 3) :=
 (dEv r n).trans
 ((by kernel_rfl))
theorem cJn : D46 r n bLz x0 r46 = D46 r n cIx x0 (K2 (cTz r n) 0 3) :=
 congrArg (fun k=>D46 r n cIx x0 k) (eAf r n)
theorem dYi : D46 r n bLz x0 r46 = (K3 (aUr r n) 0 3 4) :=
 (cJn r n).trans
 ((by kernel_rfl))
theorem cLr : D46 r n bOy x0 r46 = D46 r n aZv x0 (K3 (aUr r n) 0 3 4) :=
 congrArg (fun k=>D46 r n aZv x0 k) (dYi r n)
theorem cOc (q0 : jS) : D46 r n aZv x0 (K3 q0 0 3 4) = fun (env : aZ) (h : Hp) =>
 bnd (r 91 [(env 0)] h) fun v1 h1 =>
 bnd (aF 0 v1 h1) fun v2 h2 =>
 bnd (aF 1 v1 h2) fun v3 h3 =>
 bnd (bQ [(aE 0),(aE 0),(aE 0)] h3) fun v4 h4 =>
 bnd (aJ 3 v4 v2 h4) fun _ h5 =>
  q0 (env 0) v4 v3 h5:=by kernel_rfl
theorem bQz : (fun (env : aZ) (h : Hp) =>
 bnd (r 91 [(env 0)] h) fun v1 h1 =>
 bnd (aF 0 v1 h1) fun v2 h2 =>
 bnd (aF 1 v1 h2) fun v3 h3 =>
 bnd (bQ [(aE 0),(aE 0),(aE 0)] h3) fun v4 h4 =>
 bnd (aJ 3 v4 v2 h4) fun _ h5 =>
  aUr r n (env 0) v4 v3 h5) = (K1 (bEt r n) 0):=by kernel_rfl
theorem dVy : D46 r n bOy x0 r46 = (K1 (bEt r n) 0) :=
 (cLr r n).trans
 ((cOc r n (aUr r n)).trans (bQz r n))
theorem cQw : D46 r n bOz x0 r46 = D46 r n cWc x0 (K1 (bEt r n) 0) :=
 congrArg (fun k=>D46 r n cWc x0 k) (dVy r n)
theorem eCc : D46 r n bOz x0 r46 = (K1 (cIm r n) 0) :=
 (cQw r n).trans
 ((by kernel_rfl))
theorem eDt : D46 r n c46 x0 r46 = D46 r n cVo x0 (K1 (cIm r n) 0) :=
 congrArg (fun k=>D46 r n cVo x0 k) (eCc r n)
theorem eZp : D46 r n c46 x0 r46 = (K1 (s46 r n) 0) :=
 (eDt r n).trans
 ((by kernel_rfl))
theorem eTu : aI CF r n 46 args h = s46 r n (bI args 0) h :=
 (by kernel_rfl : aI CF r n 46 args h = D46 r n c46 x0 r46 (aQ args) h).trans ((congrFun (congrFun (eZp r n) (aQ args)) h).trans (by kernel_rfl))
def s47 (r : RT) (n : Nat) (x0 : DV) (h0 : Hp) : aH :=
 fL 9 x0 h0 fun v1 h1 =>
 fL 10 x0 h1 fun v2 h2 =>
 fL 11 x0 h2 fun v3 h3 =>
 some (.t [v1,v2,v3],h3)
theorem eQi : aI CF r n 47 args h = s47 r n (bI args 0) h :=
 by kernel_rfl
def s48 (r : RT) (n : Nat) (x0 x1 : DV) (h0 : Hp) : aH :=
 bnd (r 97 [x0,x1,(aE 0)] h0) fun v1 h1 =>
 bnd (fS v1 h1) fun v2 h2 =>
 bnd (bXy v2 (aE 1000) h2) fun v3 h3 =>
 bnd (iF v1 none (some v3) h3) fun v4 h4 =>
 some (v4,h4)
theorem eTm : aI CF r n 48 args h = s48 r n (bI args 0) (bI args 1) h :=
 by kernel_rfl
def gQ (r : RT) (n : Nat) (x0 x1 x8 : DV) (h0 : Hp) : aH :=
 bnd (r 59 [x0,x1,(aE 2),x8] h0) fun v1 h1 =>
 bnd (aF 0 v1 h1) fun v2 h2 =>
 bnd (aF 1 v1 h2) fun v3 h3 =>
 some (.t [v2,v3],h3)
def bDz (r : RT) (n : Nat) (kk5 : fZ) (x0 x1 x2 x8 x11 x12 : DV) (h0 : Hp) : aH :=
 bnd (aC .lss x12 x11 h0) fun v1 h1 =>
 aR v1 (
 bnd (cT x2 x12 h1) fun v2 h2 =>
 bnd (cV .i64 v2 h2) fun v3 h3 =>
 bnd (aS [(aE 0)] 1 [(0,1,v3)] h3) fun v4 h4 =>
 bnd (bH 1 8 x8 v4 h4) fun v5 h5 =>
 bnd (aC .add x12 (aE 1) h5) fun v6 h6 =>
      kk5 x0 x1 x2 v5 x11 v6 h6) (
      gQ r n x0 x1 x8 h1)
def aPv (r : RT) (n : Nat) (m : Nat) : fZ :=
 Nat.rec (motive:=fun _=>fZ) (fun _ _ _ _ _ _ _=>none) (fun _ ih=>bDz r n ih) m
def dTf (r : RT) (n : Nat) : fZ:=aPv r n n
def bZu (r : RT) (n : Nat) (x0 x1 x2 x8 x11 x12 : DV) (h0 : Hp) : aH :=
 dTf r n x0 x1 x2 x8 x11 x12 h0
def cWv (r : RT) (n : Nat) (x0 x1 x2 x8 : DV) (h0 : Hp) : aH :=
 bnd (fS x2 h0) fun v1 h1 =>
  bZu r n x0 x1 x2 x8 v1 (aE 0) h1
def cJz (r : RT) (n : Nat) (x0 x1 x2 : DV) (h0 : Hp) : aH :=
 cWv r n x0 x1 x2 .l0 h0
def s55 (r : RT) (n : Nat) (x0 x1 x2 : DV) (h0 : Hp) : aH :=
 cJz r n x0 x1 x2 h0
abbrev c55 : Code:=cf Tryz.f55
abbrev bKd : Code:=cR c55
abbrev bIm : Code:=cR bKd
abbrev eLi : Code:=cR bIm
abbrev aRw : Code:=cL bIm
abbrev cFg : Code:=cR aRw
abbrev bOi : Code:=cL cFg
abbrev vD : Code:=cL bOi
abbrev dSd : Code:=cL aRw
abbrev dSq : Code:=cL bKd
abbrev cBg : Code:=cL c55
abbrev r55 : K:=bE CF Tryz.f55
def D55 (r : RT) (n : Nat) (c : Code) (X : Nat → K) (k : K) : K:=aW CF r 29 n c X r55 k
theorem eDr : D55 r n eLi x0 r55 = (K3 (gQ r n) 0 1 8) :=
 (by kernel_rfl)
theorem dDp (kk5 : fZ) (q0 : jS) : D55 r n vD (xs x0 0 (K3 q0 0 1 8)) (K6 kk5 0 1 2 8 11 12) = fun (env : aZ) (h : Hp) =>
 bnd (aC .lss (env 12) (env 11) h) fun v1 h1 =>
 aR v1 (
 bnd (cT (env 2) (env 12) h1) fun v2 h2 =>
 bnd (cV .i64 v2 h2) fun v3 h3 =>
 bnd (aS [(aE 0)] 1 [(0,1,v3)] h3) fun v4 h4 =>
 bnd (bH 1 8 (env 8) v4 h4) fun v5 h5 =>
 bnd (aC .add (env 12) (aE 1) h5) fun v6 h6 =>
      kk5 (env 0) (env 1) (env 2) v5 (env 11) v6 h6) (
      q0 (env 0) (env 1) (env 8) h1):=by kernel_rfl
theorem cPl (kk5 : fZ) : (fun (env : aZ) (h : Hp) =>
 bnd (aC .lss (env 12) (env 11) h) fun v1 h1 =>
 aR v1 (
 bnd (cT (env 2) (env 12) h1) fun v2 h2 =>
 bnd (cV .i64 v2 h2) fun v3 h3 =>
 bnd (aS [(aE 0)] 1 [(0,1,v3)] h3) fun v4 h4 =>
 bnd (bH 1 8 (env 8) v4 h4) fun v5 h5 =>
 bnd (aC .add (env 12) (aE 1) h5) fun v6 h6 =>
      kk5 (env 0) (env 1) (env 2) v5 (env 11) v6 h6) (
      gQ r n (env 0) (env 1) (env 8) h1)) = (K6 (bDz r n kk5) 0 1 2 8 11 12):=by kernel_rfl
theorem dLm (kk5 : fZ) : D55 r n vD (xs x0 0 (K3 (gQ r n) 0 1 8)) (K6 kk5 0 1 2 8 11 12) = (K6 (bDz r n kk5) 0 1 2 8 11 12) :=
 (dDp r n kk5 (gQ r n)).trans (cPl r n kk5)
theorem dEi (m : Nat) : aM (fun kk=>D55 r n vD (xs x0 0 (K3 (gQ r n) 0 1 8)) kk) m = (K6 (aPv r n m) 0 1 2 8 11 12):=by
 induction m with
 | zero=>exact (by kernel_rfl : aM (fun kk=>D55 r n vD (xs x0 0 (K3 (gQ r n) 0 1 8)) kk) 0 = (K6 (aPv r n 0) 0 1 2 8 11 12))
 | succ m ih =>
  refine (by kernel_rfl : aM (fun kk=>D55 r n vD (xs x0 0 (K3 (gQ r n) 0 1 8)) kk) (m + 1) = D55 r n vD (xs x0 0 (K3 (gQ r n) 0 1 8)) (aM (fun kk=>D55 r n vD (xs x0 0 (K3 (gQ r n) 0 1 8)) kk) m)).trans ?_
  rw [ih]
  exact (dLm r n (aPv r n m)).trans (by kernel_rfl)
theorem eDn : D55 r n bOi (xs x0 0 (K3 (gQ r n) 0 1 8)) (K3 (gQ r n) 0 1 8) = (K6 (dTf r n) 0 1 2 8 11 12) :=
 (by kernel_rfl : D55 r n bOi (xs x0 0 (K3 (gQ r n) 0 1 8)) (K3 (gQ r n) 0 1 8) = aM (fun kk=>D55 r n vD (xs x0 0 (K3 (gQ r n) 0 1 8)) kk) n).trans ((dEi r n n).trans (by kernel_rfl))
theorem eCr : D55 r n cFg x0 (K3 (gQ r n) 0 1 8) = (K6 (bZu r n) 0 1 2 8 11 12) :=
 (by kernel_rfl : D55 r n cFg x0 (K3 (gQ r n) 0 1 8) = D55 r n bOi (xs x0 0 (K3 (gQ r n) 0 1 8)) (K3 (gQ r n) 0 1 8)).trans
 ((eDn r n).trans (by kernel_rfl))
theorem dJu : D55 r n bIm x0 r55 = D55 r n aRw x0 (K3 (gQ r n) 0 1 8) :=
 congrArg (fun k=>D55 r n aRw x0 k) (eDr r n)
theorem dKa : D55 r n aRw x0 (K3 (gQ r n) 0 1 8) = D55 r n dSd x0 (K6 (bZu r n) 0 1 2 8 11 12) :=
 congrArg (fun k=>D55 r n dSd x0 k) (eCr r n)
theorem eDq : D55 r n bIm x0 r55 = (K4 (cWv r n) 0 1 2 8) :=
 (dJu r n).trans
 ((dKa r n).trans
 ((by kernel_rfl)))
theorem cYf : D55 r n bKd x0 r55 = D55 r n dSq x0 (K4 (cWv r n) 0 1 2 8) :=
 congrArg (fun k=>D55 r n dSq x0 k) (eDq r n)
theorem eEp : D55 r n bKd x0 r55 = (K3 (cJz r n) 0 1 2) :=
 (cYf r n).trans
 ((by kernel_rfl))
theorem ePj : D55 r n c55 x0 r55 = D55 r n cBg x0 (K3 (cJz r n) 0 1 2) :=
 congrArg (fun k=>D55 r n cBg x0 k) (eEp r n)
theorem eXi : D55 r n c55 x0 r55 = (K3 (s55 r n) 0 1 2) :=
 (ePj r n).trans
 ((by kernel_rfl))
theorem eUo : aI CF r n 55 args h = s55 r n (bI args 0) (bI args 1) (bI args 2) h :=
 (by kernel_rfl : aI CF r n 55 args h = D55 r n c55 x0 r55 (aQ args) h).trans ((congrFun (congrFun (eXi r n) (aQ args)) h).trans (by kernel_rfl))
def s56 (r : RT) (n : Nat) (x0 x1 : DV) (h0 : Hp) : aH :=
 bnd (r 101 [x0,x1] h0) fun v1 h1 =>
 bnd (aC .geq v1 (aE 0) h1) fun v2 h2 =>
 some (v2,h2)
theorem eKj : aI CF r n 56 args h = s56 r n (bI args 0) (bI args 1) h :=
 by kernel_rfl
def s57 (r : RT) (n : Nat) (x0 x1 : DV) (h0 : Hp) : aH :=
 bnd (aA x1 h0) fun v1 h1 =>
  fL 0 v1 h1 fun v2 h2 =>
 bnd (aWf [v2,x0] h2) fun v3 h3 =>
 bnd (eQ .not v3 h3) fun v4 h4 =>
 some (v4,h4)
theorem eUc : aI CF r n 57 args h = s57 r n (bI args 0) (bI args 1) h :=
 by kernel_rfl
def iK (r : RT) (n : Nat) (x10 : DV) (h0 : Hp) : aH :=
 some (.t [x10,(aE 0)],h0)
def bYj (r : RT) (n : Nat) (kk6 : cN) (x0 x10 x29 x30 x31 : DV) (h0 : Hp) : aH :=
 bnd (aC .lss x31 x30 h0) fun v1 h1 =>
 aR v1 (
 bnd (aG 1 x29 x31 h1) fun v2 h2 =>
 bnd (aA v2 h2) fun v3 h3 =>
 bnd (aV x0 h3) fun v4 h4 =>
 bnd (aB 0 v4 h4) fun v5 h5 =>
 bnd (aA v5 h5) fun v6 h6 =>
 bnd (oB [v6,x10,x31,v3] h6) fun v7 h7 =>
 bnd (aC .add x31 (aE 1) h7) fun v8 h8 =>
      kk6 x0 x10 x29 x30 v8 h8) (
      iK r n x10 h1)
def aIq (r : RT) (n : Nat) (m : Nat) : cN :=
 Nat.rec (motive:=fun _=>cN) (fun _ _ _ _ _ _=>none) (fun _ ih=>bYj r n ih) m
def dRk (r : RT) (n : Nat) : cN:=aIq r n n
def cMf (r : RT) (n : Nat) (x0 x10 x29 x30 x31 : DV) (h0 : Hp) : aH :=
 dRk r n x0 x10 x29 x30 x31 h0
def bYp (r : RT) (n : Nat) (x0 x3 x10 : DV) (h0 : Hp) : aH :=
 bnd (bM x3 h0) fun v1 h1 =>
  cMf r n x0 x10 x3 v1 (aE 0) h1
def cNl (r : RT) (n : Nat) (x0 x3 x10 x11 : DV) (h0 : Hp) : aH :=
 bnd (aC .neq x11 (aE 0) h0) fun v1 h1 =>
 aR v1 (
 some (.t [(aE 0),x11],h1)) (
  bYp r n x0 x3 x10 h1)
def cAq (r : RT) (n : Nat) (x0 x1 x2 x3 : DV) (h0 : Hp) : aH :=
 bnd (aV x0 h0) fun v1 h1 =>
 bnd (aB 0 v1 h1) fun v2 h2 =>
 bnd (aA v2 h2) fun v3 h3 =>
 bnd (bM x3 h3) fun v4 h4 =>
 bnd (nF [v3,x1,x2,v4] h4) fun v5 h5 =>
 bnd (aF 0 v5 h5) fun v6 h6 =>
 bnd (aF 1 v5 h6) fun v7 h7 =>
  cNl r n x0 x3 v6 v7 h7
def s59 (r : RT) (n : Nat) (x0 x1 x2 x3 : DV) (h0 : Hp) : aH :=
 cAq r n x0 x1 x2 x3 h0
abbrev c59 : Code:=cf Tryz.f59
abbrev bNn : Code:=cR c59
abbrev bIa : Code:=cR bNn
abbrev bPv : Code:=cR bIa
abbrev ePt : Code:=cR bPv
abbrev aVi : Code:=cL bPv
abbrev cNf : Code:=cR aVi
abbrev bIp : Code:=cL cNf
abbrev aAe : Code:=cL bIp
abbrev dQr : Code:=cL aVi
abbrev cEx : Code:=cL bIa
abbrev bYv : Code:=cL bNn
abbrev cPr : Code:=cL c59
abbrev r59 : K:=bE CF Tryz.f59
def D59 (r : RT) (n : Nat) (c : Code) (X : Nat → K) (k : K) : K:=aW CF r 46 n c X r59 k
theorem eFa : D59 r n ePt x0 r59 = (K1 (iK r n) 10) :=
 (by kernel_rfl)
theorem dCj (kk6 : cN) : D59 r n aAe (xs x0 0 (K1 (iK r n) 10)) (K5 kk6 0 10 29 30 31) = (K5 (bYj r n kk6) 0 10 29 30 31) :=
 (by kernel_rfl)
theorem dFy (m : Nat) : aM (fun kk=>D59 r n aAe (xs x0 0 (K1 (iK r n) 10)) kk) m = (K5 (aIq r n m) 0 10 29 30 31):=by
 induction m with
 | zero=>exact (by kernel_rfl : aM (fun kk=>D59 r n aAe (xs x0 0 (K1 (iK r n) 10)) kk) 0 = (K5 (aIq r n 0) 0 10 29 30 31))
 | succ m ih =>
  refine (by kernel_rfl : aM (fun kk=>D59 r n aAe (xs x0 0 (K1 (iK r n) 10)) kk) (m + 1) = D59 r n aAe (xs x0 0 (K1 (iK r n) 10)) (aM (fun kk=>D59 r n aAe (xs x0 0 (K1 (iK r n) 10)) kk) m)).trans ?_
  rw [ih]
  exact (dCj r n (aIq r n m)).trans (by kernel_rfl)
theorem dYj : D59 r n bIp (xs x0 0 (K1 (iK r n) 10)) (K1 (iK r n) 10) = (K5 (dRk r n) 0 10 29 30 31) :=
 (by kernel_rfl : D59 r n bIp (xs x0 0 (K1 (iK r n) 10)) (K1 (iK r n) 10) = aM (fun kk=>D59 r n aAe (xs x0 0 (K1 (iK r n) 10)) kk) n).trans ((dFy r n n).trans (by kernel_rfl))
theorem dWn : D59 r n cNf x0 (K1 (iK r n) 10) = (K5 (cMf r n) 0 10 29 30 31) :=
 (by kernel_rfl : D59 r n cNf x0 (K1 (iK r n) 10) = D59 r n bIp (xs x0 0 (K1 (iK r n) 10)) (K1 (iK r n) 10)).trans
 ((dYj r n).trans (by kernel_rfl))
theorem dNq : D59 r n bPv x0 r59 = D59 r n aVi x0 (K1 (iK r n) 10) :=
 congrArg (fun k=>D59 r n aVi x0 k) (eFa r n)
theorem dOk : D59 r n aVi x0 (K1 (iK r n) 10) = D59 r n dQr x0 (K5 (cMf r n) 0 10 29 30 31) :=
 congrArg (fun k=>D59 r n dQr x0 k) (dWn r n)
theorem dYw : D59 r n bPv x0 r59 = (K3 (bYp r n) 0 3 10) :=
 (dNq r n).trans
 ((dOk r n).trans
 ((by kernel_rfl)))
theorem dPz : D59 r n bIa x0 r59 = D59 r n cEx x0 (K3 (bYp r n) 0 3 10) :=
 congrArg (fun k=>D59 r n cEx x0 k) (dYw r n)
theorem eGk : D59 r n bIa x0 r59 = (K4 (cNl r n) 0 3 10 11) :=
 (dPz r n).trans
 ((by kernel_rfl))
theorem dPj : D59 r n bNn x0 r59 = D59 r n bYv x0 (K4 (cNl r n) 0 3 10 11) :=
 congrArg (fun k=>D59 r n bYv x0 k) (eGk r n)
theorem dZl : D59 r n bNn x0 r59 = (K4 (cAq r n) 0 1 2 3) :=
 (dPj r n).trans
 ((by kernel_rfl))
theorem ePc : D59 r n c59 x0 r59 = D59 r n cPr x0 (K4 (cAq r n) 0 1 2 3) :=
 congrArg (fun k=>D59 r n cPr x0 k) (dZl r n)
theorem fAg : D59 r n c59 x0 r59 = (K4 (s59 r n) 0 1 2 3) :=
 (ePc r n).trans
 ((by kernel_rfl))
theorem eRj : aI CF r n 59 args h = s59 r n (bI args 0) (bI args 1) (bI args 2) (bI args 3) h :=
 (by kernel_rfl : aI CF r n 59 args h = D59 r n c59 x0 r59 (aQ args) h).trans ((congrFun (congrFun (fAg r n) (aQ args)) h).trans (by kernel_rfl))
def cGa (r : RT) (n : Nat) (kk5 : jS) (x0 x5 x6 : DV) (h0 : Hp) : aH :=
 bnd (r 112 [x0,x6] h0) fun v1 h1 =>
 bnd (aF 0 v1 h1) fun v2 h2 =>
 bnd (aF 1 v1 h2) fun v3 h3 =>
 aR v3 (
 some (.t [.l0,v2,(aE 11)],h3)) (
 bnd (fS x0 h3) fun v4 h4 =>
 bnd (aC .eql v2 v4 h4) fun v5 h5 =>
 aR v5 (
 bnd (aY [(aE 0),(.s []),(aE 0),(aE 0)] [(3,1,v2)] h5) fun v6 h6 =>
 bnd (aS [(aE 0),(.s []),(aE 0),(aE 0)] 1 [(0,4,v6)] h6) fun v7 h7 =>
 bnd (bH 4 40 x5 v7 h7) fun v8 h8 =>
 some (.t [v8,(aE 0),(aE 0)],h8)) (
 bnd (r 113 [x0,v2] h5) fun v9 h9 =>
 bnd (aF 0 v9 h9) fun v10 h10 =>
 bnd (aF 1 v9 h10) fun v11 h11 =>
 bnd (aF 2 v9 h11) fun v12 h12 =>
 bnd (bQ [(aE 0),(.s []),(aE 0),(aE 0)] h12) fun v13 h13 =>
 bnd (aJ 4 v13 v10 h13) fun _ h14 =>
 bnd (aC .neq v12 (aE 0) h14) fun v15 h15 =>
 aR v15 (
 some (.t [.l0,v2,v12],h15)) (
 bnd (aK 4 v13 h15) fun v16 h16 =>
 bnd (aS [(aE 0),(.s []),(aE 0),(aE 0)] 1 [(0,4,v16)] h16) fun v17 h17 =>
 bnd (bH 4 40 x5 v17 h17) fun v18 h18 =>
     kk5 x0 v18 v11 h18)))
def aHm (r : RT) (n : Nat) (m : Nat) : jS :=
 Nat.rec (motive:=fun _=>jS) (fun _ _ _ _=>none) (fun _ ih=>cGa r n ih) m
def dTk (r : RT) (n : Nat) : jS:=aHm r n n
def cCr (r : RT) (n : Nat) (x0 x5 x6 : DV) (h0 : Hp) : aH :=
 dTk r n x0 x5 x6 h0
def cUs (r : RT) (n : Nat) (x0 x5 : DV) (h0 : Hp) : aH :=
 cCr r n x0 x5 (aE 0) h0
def cRv (r : RT) (n : Nat) (x0 : DV) (h0 : Hp) : aH :=
 cUs r n x0 .l0 h0
def bXf (r : RT) (n : Nat) (x0 : DV) (h0 : Hp) : aH :=
 bnd (fS x0 h0) fun v1 h1 =>
 bnd (aC .gtr v1 (aE 2000) h1) fun v2 h2 =>
 aR v2 (
 some (.t [.l0,(aE 0),(aE 12)],h2)) (
  cRv r n x0 h2)
def s68 (r : RT) (n : Nat) (x0 : DV) (h0 : Hp) : aH :=
 bXf r n x0 h0
abbrev c68 : Code:=cf Tryz.f68
abbrev bNd : Code:=cR c68
abbrev bQf : Code:=cR bNd
abbrev bMq : Code:=cR bQf
abbrev cQp : Code:=cR bMq
abbrev bLp : Code:=cL cQp
abbrev aBz : Code:=cL bLp
abbrev dRe : Code:=cL bMq
abbrev dQw : Code:=cL bQf
abbrev dRy : Code:=cL bNd
abbrev cEv : Code:=cL c68
abbrev r68 : K:=bE CF Tryz.f68
def D68 (r : RT) (n : Nat) (c : Code) (X : Nat → K) (k : K) : K:=aW CF r 48 n c X r68 k
theorem dBc (kk5 : jS) : D68 r n aBz (xs x0 0 r68) (K3 kk5 0 5 6) = (K3 (cGa r n kk5) 0 5 6) :=
 (by kernel_rfl)
theorem dIe (m : Nat) : aM (fun kk=>D68 r n aBz (xs x0 0 r68) kk) m = (K3 (aHm r n m) 0 5 6):=by
 induction m with
 | zero=>exact (by kernel_rfl : aM (fun kk=>D68 r n aBz (xs x0 0 r68) kk) 0 = (K3 (aHm r n 0) 0 5 6))
 | succ m ih =>
  refine (by kernel_rfl : aM (fun kk=>D68 r n aBz (xs x0 0 r68) kk) (m + 1) = D68 r n aBz (xs x0 0 r68) (aM (fun kk=>D68 r n aBz (xs x0 0 r68) kk) m)).trans ?_
  rw [ih]
  exact (dBc r n (aHm r n m)).trans (by kernel_rfl)
theorem eGb : D68 r n bLp (xs x0 0 r68) r68 = (K3 (dTk r n) 0 5 6) :=
 (by kernel_rfl : D68 r n bLp (xs x0 0 r68) r68 = aM (fun kk=>D68 r n aBz (xs x0 0 r68) kk) n).trans ((dIe r n n).trans (by kernel_rfl))
theorem dTq : D68 r n cQp x0 r68 = (K3 (cCr r n) 0 5 6) :=
 (by kernel_rfl : D68 r n cQp x0 r68 = D68 r n bLp (xs x0 0 r68) r68).trans
 ((eGb r n).trans (by kernel_rfl))
theorem dGi : D68 r n bMq x0 r68 = D68 r n dRe x0 (K3 (cCr r n) 0 5 6) :=
 congrArg (fun k=>D68 r n dRe x0 k) (dTq r n)
theorem eDs : D68 r n bMq x0 r68 = (K2 (cUs r n) 0 5) :=
 (dGi r n).trans
 ((by kernel_rfl))
theorem dAq : D68 r n bQf x0 r68 = D68 r n dQw x0 (K2 (cUs r n) 0 5) :=
 congrArg (fun k=>D68 r n dQw x0 k) (eDs r n)
theorem dWv : D68 r n bQf x0 r68 = (K1 (cRv r n) 0) :=
 (dAq r n).trans
 ((by kernel_rfl))
theorem dAt : D68 r n bNd x0 r68 = D68 r n dRy x0 (K1 (cRv r n) 0) :=
 congrArg (fun k=>D68 r n dRy x0 k) (dWv r n)
theorem eEj : D68 r n bNd x0 r68 = (K1 (bXf r n) 0) :=
 (dAt r n).trans
 ((by kernel_rfl))
theorem eVc : D68 r n c68 x0 r68 = D68 r n cEv x0 (K1 (bXf r n) 0) :=
 congrArg (fun k=>D68 r n cEv x0 k) (eEj r n)
theorem eVv : D68 r n c68 x0 r68 = (K1 (s68 r n) 0) :=
 (eVc r n).trans
 ((by kernel_rfl))
theorem eNh : aI CF r n 68 args h = s68 r n (bI args 0) h :=
 (by kernel_rfl : aI CF r n 68 args h = D68 r n c68 x0 r68 (aQ args) h).trans ((congrFun (congrFun (eVv r n) (aQ args)) h).trans (by kernel_rfl))
def fN (r : RT) (n : Nat) (x3 : DV) (h0 : Hp) : aH :=
 some (x3,h0)
def aYw (r : RT) (n : Nat) (kk4 : gP) (x0 x3 : DV) (h0 : Hp) : aH :=
  fL 3 x0 h0 fun v1 h1 =>
 bnd (aC .eql v1 (aE 0) h1) fun v2 h2 =>
 bnd (gD v2 true (some (x0,h2)) h2) fun v3 h3 =>
 bnd (gD v2 true (r 114 [v3,(aE 0),(.s [])] h3) h3) fun v4 h4 =>
 bnd (gD v2 true (eQ .not v4 h4) h4) fun v5 h5 =>
 bnd (aN v2 v5 (.b false) h5) fun v6 h6 =>
 bnd (gD v6 true (some (x0,h6)) h6) fun v7 h7 =>
 bnd (gD v6 true (r 114 [v7,(aE 10),(.s [93])] h7) h7) fun v8 h8 =>
 bnd (gD v6 true (eQ .not v8 h8) h8) fun v9 h9 =>
 bnd (aN v6 v9 (.b false) h9) fun v10 h10 =>
 aR v10 (
 bnd (r 114 [x0,(aE 10),(.s [94])] h10) fun v11 h11 =>
 aR v11 (
 bnd (r 115 [x0] h11) fun v12 h12 =>
 bnd (r 118 [x0] h12) fun v13 h13 =>
 bnd (bQ kG h13) fun v14 h14 =>
 bnd (aJ 6 v14 v13 h14) fun _ h15 =>
 bnd (aK 6 v14 h15) fun v16 h16 =>
 bnd (aS kG 1 [(0,6,v16)] h16) fun v17 h17 =>
 bnd (aY kG [(0,1,(aE 10)),(5,1,v17)] h17) fun v18 h18 =>
 bnd (aS kG 1 [(0,6,v18)] h18) fun v19 h19 =>
 bnd (bH 6 104 x3 v19 h19) fun v20 h20 =>
 bnd (r 114 [x0,(aE 10),(.s [46])] h20) fun v21 h21 =>
 aR v21 (
 bnd (r 115 [x0] h21) fun v22 h22 =>
     fN r n v20 h22) (
     fN r n v20 h21)) (
 bnd (r 118 [x0] h11) fun v23 h23 =>
 bnd (aS kG 1 [(0,6,v23)] h23) fun v24 h24 =>
 bnd (bH 6 104 x3 v24 h24) fun v25 h25 =>
 bnd (r 114 [x0,(aE 10),(.s [46])] h25) fun v26 h26 =>
 bnd (eQ .not v26 h26) fun v27 h27 =>
 aR v27 (
     fN r n v25 h27) (
 bnd (r 115 [x0] h27) fun v28 h28 =>
     kk4 x0 v25 h28))) (
      fN r n x3 h10)
def aJc (r : RT) (n : Nat) (m : Nat) : gP :=
 Nat.rec (motive:=fun _=>gP) (fun _ _ _=>none) (fun _ ih=>aYw r n ih) m
def dTm (r : RT) (n : Nat) : gP:=aJc r n n
def cMw (r : RT) (n : Nat) (x0 x3 : DV) (h0 : Hp) : aH :=
 dTm r n x0 x3 h0
def bZl (r : RT) (n : Nat) (x0 : DV) (h0 : Hp) : aH :=
 cMw r n x0 .l0 h0
def s71 (r : RT) (n : Nat) (x0 : DV) (h0 : Hp) : aH :=
 bZl r n x0 h0
abbrev c71 : Code:=cf Tryz.f71
abbrev bPu : Code:=cR c71
abbrev bGc : Code:=cR bPu
abbrev eIk : Code:=cR bGc
abbrev bGi : Code:=cL bGc
abbrev bGb : Code:=cL bGi
abbrev vA : Code:=cL bGb
abbrev dTp : Code:=cL bPu
abbrev dSn : Code:=cL c71
abbrev r71 : K:=bE CF Tryz.f71
def D71 (r : RT) (n : Nat) (c : Code) (X : Nat → K) (k : K) : K:=aW CF r 47 n c X r71 k
theorem eBw : D71 r n eIk x0 r71 = (K1 (fN r n) 3) :=
 (by kernel_rfl)
theorem dPi (kk4 : gP) (q0 : TT1) : D71 r n vA (xs x0 0 (K1 q0 3)) (K2 kk4 0 3) = fun (env : aZ) (h : Hp) =>
 bnd (aV (env 0) h) fun v1 h1 =>
 bnd (aB 3 v1 h1) fun v2 h2 =>
 bnd (aA v2 h2) fun v3 h3 =>
 bnd (aC .eql v3 (aE 0) h3) fun v4 h4 =>
 bnd (gD v4 true (some ((env 0),h4)) h4) fun v5 h5 =>
 bnd (gD v4 true (r 114 [v5,(aE 0),(.s [])] h5) h5) fun v6 h6 =>
 bnd (gD v4 true (eQ .not v6 h6) h6) fun v7 h7 =>
 bnd (aN v4 v7 (.b false) h7) fun v8 h8 =>
 bnd (gD v8 true (some ((env 0),h8)) h8) fun v9 h9 =>
 bnd (gD v8 true (r 114 [v9,(aE 10),(.s [93])] h9) h9) fun v10 h10 =>
 bnd (gD v8 true (eQ .not v10 h10) h10) fun v11 h11 =>
 bnd (aN v8 v11 (.b false) h11) fun v12 h12 =>
 aR v12 (
 bnd (r 114 [(env 0),(aE 10),(.s [94])] h12) fun v13 h13 =>
 aR v13 (
 bnd (r 115 [(env 0)] h13) fun v14 h14 =>
 bnd (r 118 [(env 0)] h14) fun v15 h15 =>
 bnd (bQ kG h15) fun v16 h16 =>
 bnd (aJ 6 v16 v15 h16) fun _ h17 =>
 bnd (aK 6 v16 h17) fun v18 h18 =>
 bnd (aS kG 1 [(0,6,v18)] h18) fun v19 h19 =>
 bnd (aY kG [(0,1,(aE 10)),(5,1,v19)] h19) fun v20 h20 =>
 bnd (aS kG 1 [(0,6,v20)] h20) fun v21 h21 =>
 bnd (bH 6 104 (env 3) v21 h21) fun v22 h22 =>
 bnd (r 114 [(env 0),(aE 10),(.s [46])] h22) fun v23 h23 =>
 aR v23 (
 bnd (r 115 [(env 0)] h23) fun v24 h24 =>
     q0 v22 h24) (
     q0 v22 h23)) (
 bnd (r 118 [(env 0)] h13) fun v25 h25 =>
 bnd (aS kG 1 [(0,6,v25)] h25) fun v26 h26 =>
 bnd (bH 6 104 (env 3) v26 h26) fun v27 h27 =>
 bnd (r 114 [(env 0),(aE 10),(.s [46])] h27) fun v28 h28 =>
 bnd (eQ .not v28 h28) fun v29 h29 =>
 aR v29 (
     q0 v27 h29) (
 bnd (r 115 [(env 0)] h29) fun v30 h30 =>
     kk4 (env 0) v27 h30))) (
      q0 (env 3) h12):=by kernel_rfl
theorem cTm (kk4 : gP) : (fun (env : aZ) (h : Hp) =>
 bnd (aV (env 0) h) fun v1 h1 =>
 bnd (aB 3 v1 h1) fun v2 h2 =>
 bnd (aA v2 h2) fun v3 h3 =>
 bnd (aC .eql v3 (aE 0) h3) fun v4 h4 =>
 bnd (gD v4 true (some ((env 0),h4)) h4) fun v5 h5 =>
 bnd (gD v4 true (r 114 [v5,(aE 0),(.s [])] h5) h5) fun v6 h6 =>
 bnd (gD v4 true (eQ .not v6 h6) h6) fun v7 h7 =>
 bnd (aN v4 v7 (.b false) h7) fun v8 h8 =>
 bnd (gD v8 true (some ((env 0),h8)) h8) fun v9 h9 =>
 bnd (gD v8 true (r 114 [v9,(aE 10),(.s [93])] h9) h9) fun v10 h10 =>
 bnd (gD v8 true (eQ .not v10 h10) h10) fun v11 h11 =>
 bnd (aN v8 v11 (.b false) h11) fun v12 h12 =>
 aR v12 (
 bnd (r 114 [(env 0),(aE 10),(.s [94])] h12) fun v13 h13 =>
 aR v13 (
 bnd (r 115 [(env 0)] h13) fun v14 h14 =>
 bnd (r 118 [(env 0)] h14) fun v15 h15 =>
 bnd (bQ kG h15) fun v16 h16 =>
 bnd (aJ 6 v16 v15 h16) fun _ h17 =>
 bnd (aK 6 v16 h17) fun v18 h18 =>
 bnd (aS kG 1 [(0,6,v18)] h18) fun v19 h19 =>
 bnd (aY kG [(0,1,(aE 10)),(5,1,v19)] h19) fun v20 h20 =>
 bnd (aS kG 1 [(0,6,v20)] h20) fun v21 h21 =>
 bnd (bH 6 104 (env 3) v21 h21) fun v22 h22 =>
 bnd (r 114 [(env 0),(aE 10),(.s [46])] h22) fun v23 h23 =>
 aR v23 (
 bnd (r 115 [(env 0)] h23) fun v24 h24 =>
     fN r n v22 h24) (
     fN r n v22 h23)) (
 bnd (r 118 [(env 0)] h13) fun v25 h25 =>
 bnd (aS kG 1 [(0,6,v25)] h25) fun v26 h26 =>
 bnd (bH 6 104 (env 3) v26 h26) fun v27 h27 =>
 bnd (r 114 [(env 0),(aE 10),(.s [46])] h27) fun v28 h28 =>
 bnd (eQ .not v28 h28) fun v29 h29 =>
 aR v29 (
     fN r n v27 h29) (
 bnd (r 115 [(env 0)] h29) fun v30 h30 =>
     kk4 (env 0) v27 h30))) (
      fN r n (env 3) h12)) = (K2 (aYw r n kk4) 0 3):=by kernel_rfl
theorem dEc (kk4 : gP) : D71 r n vA (xs x0 0 (K1 (fN r n) 3)) (K2 kk4 0 3) = (K2 (aYw r n kk4) 0 3) :=
 (dPi r n kk4 (fN r n)).trans (cTm r n kk4)
theorem dCc (m : Nat) : aM (fun kk=>D71 r n vA (xs x0 0 (K1 (fN r n) 3)) kk) m = (K2 (aJc r n m) 0 3):=by
 induction m with
 | zero=>exact (by kernel_rfl : aM (fun kk=>D71 r n vA (xs x0 0 (K1 (fN r n) 3)) kk) 0 = (K2 (aJc r n 0) 0 3))
 | succ m ih =>
  refine (by kernel_rfl : aM (fun kk=>D71 r n vA (xs x0 0 (K1 (fN r n) 3)) kk) (m + 1) = D71 r n vA (xs x0 0 (K1 (fN r n) 3)) (aM (fun kk=>D71 r n vA (xs x0 0 (K1 (fN r n) 3)) kk) m)).trans ?_
  rw [ih]
  exact (dEc r n (aJc r n m)).trans (by kernel_rfl)
theorem dWh : D71 r n bGb (xs x0 0 (K1 (fN r n) 3)) (K1 (fN r n) 3) = (K2 (dTm r n) 0 3) :=
 (by kernel_rfl : D71 r n bGb (xs x0 0 (K1 (fN r n) 3)) (K1 (fN r n) 3) = aM (fun kk=>D71 r n vA (xs x0 0 (K1 (fN r n) 3)) kk) n).trans ((dCc r n n).trans (by kernel_rfl))
theorem dDn : D71 r n bGc x0 r71 = D71 r n bGi x0 (K1 (fN r n) 3) :=
 congrArg (fun k=>D71 r n bGi x0 k) (eBw r n)
theorem eEa : D71 r n bGc x0 r71 = (K2 (cMw r n) 0 3) :=
 (dDn r n).trans
 ((by kernel_rfl : D71 r n bGi x0 (K1 (fN r n) 3) = D71 r n bGb (xs x0 0 (K1 (fN r n) 3)) (K1 (fN r n) 3)).trans
 ((dWh r n).trans (by kernel_rfl)))
theorem dIf : D71 r n bPu x0 r71 = D71 r n dTp x0 (K2 (cMw r n) 0 3) :=
 congrArg (fun k=>D71 r n dTp x0 k) (eEa r n)
theorem eCt : D71 r n bPu x0 r71 = (K1 (bZl r n) 0) :=
 (dIf r n).trans
 ((by kernel_rfl))
theorem eUa : D71 r n c71 x0 r71 = D71 r n dSn x0 (K1 (bZl r n) 0) :=
 congrArg (fun k=>D71 r n dSn x0 k) (eCt r n)
theorem eWi : D71 r n c71 x0 r71 = (K1 (s71 r n) 0) :=
 (eUa r n).trans
 ((by kernel_rfl))
theorem eOj : aI CF r n 71 args h = s71 r n (bI args 0) h :=
 (by kernel_rfl : aI CF r n 71 args h = D71 r n c71 x0 r71 (aQ args) h).trans ((congrFun (congrFun (eWi r n) (aQ args)) h).trans (by kernel_rfl))
def s72 (r : RT) (n : Nat) (x0 x1 x2 : DV) (h0 : Hp) : aH :=
 bnd (bQ [(aE 0),(.s []),(aE 0),(aE 0)] h0) fun v1 h1 =>
 bnd (r 114 [x0,x1,x2] h1) fun v2 h2 =>
 bnd (eQ .not v2 h2) fun v3 h3 =>
 aR v3 (
 bnd (r 119 [x0,(aE 0)] h3) fun v4 h4 =>
 bnd (r 117 [x0,v4,(aE 13)] h4) fun v5 h5 =>
 bnd (aY [(aE 0),(.s []),(aE 0),(aE 0)] [] h5) fun v6 h6 =>
 bnd (aJ 4 v1 v6 h6) fun _ h7 =>
 bnd (aK 4 v1 h7) fun v8 _ =>
 some (v8,h7)) (
 bnd (r 115 [x0] h3) fun v9 h9 =>
 bnd (aJ 4 v1 v9 h9) fun _ h10 =>
 bnd (aK 4 v1 h10) fun v11 _ =>
 some (v11,h10))
theorem eMx : aI CF r n 72 args h = s72 r n (bI args 0) (bI args 1) (bI args 2) h :=
 by kernel_rfl
def cUu (r : RT) (n : Nat) (kk2 : dG) (x0 x1 x2 x6 : DV) (h0 : Hp) : aH :=
 bnd (bM x1 h0) fun v1 h1 =>
 bnd (aC .lss x6 v1 h1) fun v2 h2 =>
 bnd (gD v2 true (some (x0,h2)) h2) fun v3 h3 =>
 bnd (gD v2 true (aV v3 h3) h3) fun v4 h4 =>
 bnd (gD v2 true (aB 7 v4 h4) h4) fun v5 h5 =>
 bnd (gD v2 true (aA v5 h5) h5) fun v6 h6 =>
 bnd (gD v2 true (aC .eql v6 (aE 0) h6) h6) fun v7 h7 =>
 bnd (aN v2 v7 (.b false) h7) fun v8 h8 =>
 aR v8 (
 bnd (aG 1 x1 x6 h8) fun v9 h9 =>
 bnd (aA v9 h9) fun v10 h10 =>
 bnd (r 120 [x0,v10] h10) fun v11 h11 =>
 bnd (gN 1 v11 h11) fun v12 h12 =>
 bnd (aC .neq v12 (aE 0) h12) fun v13 h13 =>
 bnd (gD v13 false (some (x1,h13)) h13) fun v14 h14 =>
 bnd (gD v13 false (some (x6,h14)) h14) fun v15 h15 =>
 bnd (gD v13 false (aG 1 v14 v15 h15) h15) fun v16 h16 =>
 bnd (gD v13 false (aA v16 h16) h16) fun v17 h17 =>
 bnd (gD v13 false (r 121 [v17] h17) h17) fun v18 h18 =>
 bnd (aN v13 (.b true) v18 h18) fun v19 h19 =>
 aR v19 (
 bnd (aG 1 x1 x6 h19) fun v20 h20 =>
 bnd (aA v20 h20) fun v21 h21 =>
 bnd (r 122 [x0,v21,(aE 16)] h21) fun v22 h22 =>
 some (.t [],h22)) (
 bnd (aV x0 h19) fun v23 h23 =>
 bnd (aB 0 v23 h23) fun v24 h24 =>
    fM 2 v24 h24 fun v25 h25 =>
 bnd (aC .eql v25 (aE 24) h25) fun v26 h26 =>
 aR v26 (
 bnd (aG 1 x1 x6 h26) fun v27 h27 =>
 bnd (aA v27 h27) fun v28 h28 =>
 bnd (r 122 [x0,v28,(aE 18)] h28) fun v29 h29 =>
 some (.t [],h29)) (
     fL 6 x0 h26 fun v30 h30 =>
 bnd (bH 3 32 .l0 v30 h30) fun v31 h31 =>
 bnd (aG 1 x1 x6 (resv 1 h31)) fun v32 h32 =>
 bnd (aA v32 h32) fun v33 h33 =>
 bnd (aV x0 h33) fun v34 h34 =>
 bnd (aB 0 v34 h34) fun v35 h35 =>
     fM 2 v35 h35 fun v36 h36 =>
 bnd (aY [(.s []),(aE 0),(aE 0)] [(0,1,v33),(1,1,x2),(2,1,v36)] h36) fun v37 h37 =>
 bnd (bL (bX 0 h31.next) [(.s []),(aE 0),(aE 0)] 1 [(0,3,v37)] h37) fun v38 h38 =>
 bnd (bH 3 32 v31 v38 h38) fun v39 h39 =>
 bnd (aV x0 h39) fun v40 h40 =>
 bnd (aB 6 v40 h40) fun v41 h41 =>
 bnd (aJ 1 v41 v39 h41) fun _ h42 =>
 bnd (aV x0 h42) fun v43 h43 =>
 bnd (aB 0 v43 h43) fun v44 h44 =>
     fM 2 v44 h44 fun v45 h45 =>
 bnd (aC .add v45 (aE 1) h45) fun v46 h46 =>
 bnd (aV x0 h46) fun v47 h47 =>
 bnd (aB 0 v47 h47) fun v48 h48 =>
 bnd (aB 2 v48 h48) fun v49 h49 =>
 bnd (aJ 1 v49 v46 h49) fun _ h50 =>
 bnd (aC .add x6 (aE 1) h50) fun v51 h51 =>
     kk2 x0 x1 x2 v51 h51))) (
 some (.t [],h8))
def aJi (r : RT) (n : Nat) (m : Nat) : dG :=
 Nat.rec (motive:=fun _=>dG) (fun _ _ _ _ _=>none) (fun _ ih=>cUu r n ih) m
def dRu (r : RT) (n : Nat) : dG:=aJi r n n
def bXo (r : RT) (n : Nat) (x0 x1 x2 x6 : DV) (h0 : Hp) : aH :=
 dRu r n x0 x1 x2 x6 h0
def s73 (r : RT) (n : Nat) (x0 x1 x2 : DV) (h0 : Hp) : aH :=
 bXo r n x0 x1 x2 (aE 0) h0
abbrev c73 : Code:=cf Tryz.f73
abbrev cWd : Code:=cR c73
abbrev bFa : Code:=cL cWd
abbrev aDy : Code:=cL bFa
abbrev dTe : Code:=cL c73
abbrev r73 : K:=bE CF Tryz.f73
def D73 (r : RT) (n : Nat) (c : Code) (X : Nat → K) (k : K) : K:=aW CF r 87 n c X r73 k
theorem dCt (kk2 : dG) : D73 r n aDy (xs x0 0 r73) (K4 kk2 0 1 2 6) = (K4 (cUu r n kk2) 0 1 2 6) :=
 (by kernel_rfl)
theorem dKq (m : Nat) : aM (fun kk=>D73 r n aDy (xs x0 0 r73) kk) m = (K4 (aJi r n m) 0 1 2 6):=by
 induction m with
 | zero=>exact (by kernel_rfl : aM (fun kk=>D73 r n aDy (xs x0 0 r73) kk) 0 = (K4 (aJi r n 0) 0 1 2 6))
 | succ m ih =>
  refine (by kernel_rfl : aM (fun kk=>D73 r n aDy (xs x0 0 r73) kk) (m + 1) = D73 r n aDy (xs x0 0 r73) (aM (fun kk=>D73 r n aDy (xs x0 0 r73) kk) m)).trans ?_
  rw [ih]
  exact (dCt r n (aJi r n m)).trans (by kernel_rfl)
theorem eFc : D73 r n bFa (xs x0 0 r73) r73 = (K4 (dRu r n) 0 1 2 6) :=
 (by kernel_rfl : D73 r n bFa (xs x0 0 r73) r73 = aM (fun kk=>D73 r n aDy (xs x0 0 r73) kk) n).trans ((dKq r n n).trans (by kernel_rfl))
theorem dYl : D73 r n cWd x0 r73 = (K4 (bXo r n) 0 1 2 6) :=
 (by kernel_rfl : D73 r n cWd x0 r73 = D73 r n bFa (xs x0 0 r73) r73).trans
 ((eFc r n).trans (by kernel_rfl))
theorem eKp : D73 r n c73 x0 r73 = D73 r n dTe x0 (K4 (bXo r n) 0 1 2 6) :=
 congrArg (fun k=>D73 r n dTe x0 k) (dYl r n)
theorem eVy : D73 r n c73 x0 r73 = (K3 (s73 r n) 0 1 2) :=
 (eKp r n).trans
 ((by kernel_rfl))
theorem eJs : aI CF r n 73 args h = s73 r n (bI args 0) (bI args 1) (bI args 2) h :=
 (by kernel_rfl : aI CF r n 73 args h = D73 r n c73 x0 r73 (aQ args) h).trans ((congrFun (congrFun (eVy r n) (aQ args)) h).trans (by kernel_rfl))
end Go.Dd

namespace Go.Dd
open Go.Proofs
variable (r : RT) (n : Nat) (args : List DV) (h : Hp)
def aGa (r : RT) (n : Nat) (x0 x3 x14 x17 : DV) (h0 : Hp) : aH :=
 aR x17 (
 bnd (aK 6 x3 h0) fun v1 h1 =>
 bnd (r 123 [x0,v1] h1) fun v2 h2 =>
 bnd (bQ [(aE 0),(.s []),(aE 0),.l0] h2) fun v3 h3 =>
 bnd (aJ 4 v3 v2 h3) fun _ h4 =>
  fL 7 x0 h4 fun v5 h5 =>
 bnd (aC .eql v5 (aE 0) h5) fun v6 h6 =>
 aR v6 (
 bnd (aK 4 v3 h6) fun v7 h7 =>
 bnd (oF [x0,v7] h7) fun v8 h8 =>
 bnd (r 75 [x0,(aE 6),v8,(aE 0)] h8) fun v9 h9 =>
 some (.t [],h9)) (
 some (.t [],h6))) (
 bnd (aC .eql x14 (aE 5) h0) fun v10 h10 =>
 aR v10 (
   fM 1 x3 h10 fun v11 h11 =>
 bnd (r 125 [x0,v11] h11) fun v12 h12 =>
 some (.t [],h12)) (
 bnd (aC .eql x14 (aE 6) h10) fun v13 h13 =>
 aR v13 (
 bnd (aK 6 x3 h13) fun v14 h14 =>
 bnd (r 126 [x0,v14] h14) fun v15 h15 =>
 some (.t [],h15)) (
 bnd (aC .eql x14 (aE 7) h13) fun v16 h16 =>
 aR v16 (
     fM 5 x3 h16 fun v17 h17 =>
 bnd (bM v17 h17) fun v18 h18 =>
 bnd (aC .eql v18 (aE 0) h18) fun v19 h19 =>
 aR v19 (
 bnd (r 122 [x0,(.s []),(aE 1)] h19) fun v20 h20 =>
 some (.t [],h20)) (
 bnd (aK 6 x3 h19) fun v21 h21 =>
 bnd (r 127 [x0,v21] h21) fun v22 h22 =>
 bnd (eQ .not v22 h22) fun v23 h23 =>
 aR v23 (
       fM 5 x3 h23 fun v24 h24 =>
 bnd (aG 6 v24 (aE 0) h24) fun v25 h25 =>
 bnd (aK 6 v25 h25) fun v26 h26 =>
 bnd (r 128 [x0,v26] h26) fun v27 h27 =>
       fM 1 x3 h27 fun v28 h28 =>
       fM 5 x3 h28 fun v29 h29 =>
 bnd (eL 6 v29 (some (aE 1)) none h29) fun v30 h30 =>
 bnd (r 129 [x0,v27,v28,v30] h30) fun v31 h31 =>
 some (.t [],h31)) (
 some (.t [],h23)))) (
 bnd (aC .eql x14 (aE 8) h16) fun v32 h32 =>
 aR v32 (
 bnd (aK 6 x3 h32) fun v33 h33 =>
 bnd (r 130 [x0,v33] h33) fun v34 h34 =>
 some (.t [],h34)) (
 bnd (aC .eql x14 (aE 9) h32) fun v35 h35 =>
 aR v35 (
 bnd (aV x0 h35) fun v36 h36 =>
 bnd (aB 0 v36 h36) fun v37 h37 =>
       fM 2 v37 h37 fun v38 h38 =>
       fM 3 x3 h38 fun v39 h39 =>
 bnd (bM v39 h39) fun v40 h40 =>
 bnd (r 75 [x0,(aE 18),v38,v40] h40) fun v41 h41 =>
 bnd (aV x0 h41) fun v42 h42 =>
 bnd (aB 0 v42 h42) fun v43 h43 =>
       fM 5 v43 h43 fun v44 h44 =>
 bnd (bM v44 h44) fun v45 h45 =>
 bnd (r 75 [x0,(aE 16),(aE 0),(aE 0)] h45) fun v46 h46 =>
 bnd (aK 6 x3 h46) fun v47 h47 =>
 bnd (r 131 [x0,v47] h47) fun v48 h48 =>
 bnd (r 75 [x0,(aE 19),(aE 0),(aE 0)] h48) fun v49 h49 =>
 bnd (aV x0 h49) fun v50 h50 =>
 bnd (aB 0 v50 h50) fun v51 h51 =>
       fM 5 v51 h51 fun v52 h52 =>
 bnd (bM v52 h52) fun v53 h53 =>
 bnd (r 132 [x0,v45,v53] h53) fun v54 h54 =>
 some (.t [],h54)) (
 bnd (aC .eql x14 (aE 10) h35) fun v55 h55 =>
 aR v55 (
        fM 5 x3 h55 fun v56 h56 =>
 bnd (bM v56 h56) fun v57 h57 =>
 bnd (aC .neq v57 (aE 1) h57) fun v58 h58 =>
 aR v58 (
 bnd (r 122 [x0,(.s []),(aE 1)] h58) fun v59 h59 =>
 some (.t [],h59)) (
         fM 5 x3 h58 fun v60 h60 =>
 bnd (aG 6 v60 (aE 0) h60) fun v61 h61 =>
 bnd (aK 6 v61 h61) fun v62 h62 =>
 bnd (r 74 [x0,v62] h62) fun v63 h63 =>
 bnd (r 75 [x0,(aE 20),(aE 0),(aE 0)] h63) fun v64 h64 =>
 some (.t [],h64))) (
 bnd (r 122 [x0,(.s []),(aE 1)] h55) fun v65 h65 =>
 some (.t [],h65))))))))
def cHj (r : RT) (n : Nat) (x0 x3 x14 : DV) (h0 : Hp) : aH :=
 bnd (aC .eql x14 (aE 1) h0) fun v1 h1 =>
 aR v1 (
  aGa r n x0 x3 x14 v1 h1) (
 bnd (aC .eql x14 (aE 2) h1) fun v2 h2 =>
 aR v2 (
   aGa r n x0 x3 x14 v2 h2) (
 bnd (aC .eql x14 (aE 3) h2) fun v3 h3 =>
 aR v3 (
    aGa r n x0 x3 x14 v3 h3) (
 bnd (aC .eql x14 (aE 4) h3) fun v4 h4 =>
    aGa r n x0 x3 x14 v4 h4)))
def cQu (r : RT) (n : Nat) (x0 x3 : DV) (h0 : Hp) : aH :=
 fM 0 x3 h0 fun v1 h1 =>
 cHj r n x0 x3 v1 h1
def aVw (r : RT) (n : Nat) (x0 x3 : DV) (h0 : Hp) : aH :=
 fL 7 x0 h0 fun v1 h1 =>
 bnd (aC .neq v1 (aE 0) h1) fun v2 h2 =>
 aR v2 (
 some (.t [],h2)) (
  cQu r n x0 x3 h2)
def s74 (r : RT) (n : Nat) (x0 x1 : DV) (h0 : Hp) : aH :=
 bnd (bZ x1 h0) fun v1 h1 =>
  aVw r n x0 v1 h1
abbrev c74 : Code:=cf Tryz.f74
abbrev bNg : Code:=cR c74
abbrev bFt : Code:=cR bNg
abbrev bZj : Code:=cR bFt
abbrev bHo : Code:=cL bZj
abbrev eTz : Code:=cR bHo
abbrev dSb : Code:=cL bHo
abbrev dSu : Code:=cL bFt
abbrev dTg : Code:=cL bNg
abbrev cUw : Code:=cL c74
abbrev r74 : K:=bE CF Tryz.f74
def D74 (r : RT) (n : Nat) (c : Code) (X : Nat → K) (k : K) : K:=aW CF r 128 n c X r74 k
theorem dTy : D74 r n eTz (xs x0 0 r74) r74 = (K4 (aGa r n) 0 3 14 17) :=
 (by kernel_rfl)
theorem dKf : D74 r n bHo (xs x0 0 r74) r74 = D74 r n dSb (xs x0 0 r74) (K4 (aGa r n) 0 3 14 17) :=
 congrArg (fun k=>D74 r n dSb (xs x0 0 r74) k) (dTy r n)
theorem dVh : D74 r n bZj x0 r74 = (K3 (cHj r n) 0 3 14) :=
 (by kernel_rfl : D74 r n bZj x0 r74 = D74 r n bHo (xs x0 0 r74) r74).trans
 ((dKf r n).trans
 ((by kernel_rfl)))
theorem dKt : D74 r n bFt x0 r74 = D74 r n dSu x0 (K3 (cHj r n) 0 3 14) :=
 congrArg (fun k=>D74 r n dSu x0 k) (dVh r n)
theorem dUm : D74 r n bFt x0 r74 = (K2 (cQu r n) 0 3) :=
 (dKt r n).trans
 ((by kernel_rfl))
theorem dMf : D74 r n bNg x0 r74 = D74 r n dTg x0 (K2 (cQu r n) 0 3) :=
 congrArg (fun k=>D74 r n dTg x0 k) (dUm r n)
theorem dWr : D74 r n bNg x0 r74 = (K2 (aVw r n) 0 3) :=
 (dMf r n).trans
 ((by kernel_rfl))
theorem eQr : D74 r n c74 x0 r74 = D74 r n cUw x0 (K2 (aVw r n) 0 3) :=
 congrArg (fun k=>D74 r n cUw x0 k) (dWr r n)
theorem ePm (q0 : gP) : D74 r n cUw x0 (K2 q0 0 3) = fun (env : aZ) (h : Hp) =>
 bnd (bZ (env 1) h) fun v1 h1 =>
  q0 (env 0) v1 h1:=by kernel_rfl
theorem eBr : (fun (env : aZ) (h : Hp) =>
 bnd (bZ (env 1) h) fun v1 h1 =>
  aVw r n (env 0) v1 h1) = (K2 (s74 r n) 0 1):=by kernel_rfl
theorem eVz : D74 r n c74 x0 r74 = (K2 (s74 r n) 0 1) :=
 (eQr r n).trans
 ((ePm r n (aVw r n)).trans (eBr r n))
theorem eRg : aI CF r n 74 args h = s74 r n (bI args 0) (bI args 1) h :=
 (by kernel_rfl : aI CF r n 74 args h = D74 r n c74 x0 r74 (aQ args) h).trans ((congrFun (congrFun (eVz r n) (aQ args)) h).trans (by kernel_rfl))
def s75 (r : RT) (n : Nat) (x0 x1 x2 x3 : DV) (h0 : Hp) : aH :=
 bnd (aV x0 h0) fun v1 h1 =>
 bnd (aB 0 v1 h1) fun v2 h2 =>
  fM 5 v2 h2 fun v3 h3 =>
 bnd (aY [(aE 0),(aE 0),(aE 0)] [(0,1,x1),(1,1,x2),(2,1,x3)] h3) fun v4 h4 =>
 bnd (aS [(aE 0),(aE 0),(aE 0)] 1 [(0,3,v4)] h4) fun v5 h5 =>
 bnd (bH 3 24 v3 v5 h5) fun v6 h6 =>
 bnd (aV x0 h6) fun v7 h7 =>
 bnd (aB 0 v7 h7) fun v8 h8 =>
 bnd (aB 5 v8 h8) fun v9 h9 =>
 bnd (aJ 1 v9 v6 h9) fun _ h10 =>
 some (.t [],h10)
theorem eUx : aI CF r n 75 args h = s75 r n (bI args 0) (bI args 1) (bI args 2) (bI args 3) h :=
 by kernel_rfl
def s76 (r : RT) (n : Nat) (x0 : DV) (h0 : Hp) : aH :=
 bnd (bZ x0 h0) fun v1 h1 =>
  fM 0 v1 h1 fun v2 h2 =>
 bnd (aC .lss v2 (aE 1) h2) fun v3 h3 =>
 bnd (gD v3 false (aB 0 v1 h3) h3) fun v4 h4 =>
 bnd (gD v3 false (aA v4 h4) h4) fun v5 h5 =>
 bnd (gD v3 false (aC .gtr v5 (aE 20) h5) h5) fun v6 h6 =>
 bnd (aN v3 (.b true) v6 h6) fun v7 h7 =>
 bnd (gD v7 false (aB 1 v1 h7) h7) fun v8 h8 =>
 bnd (gD v7 false (aA v8 h8) h8) fun v9 h9 =>
 bnd (gD v7 false (aC .lss v9 (aE 0) h9) h9) fun v10 h10 =>
 bnd (aN v7 (.b true) v10 h10) fun v11 h11 =>
 bnd (gD v11 false (aB 1 v1 h11) h11) fun v12 h12 =>
 bnd (gD v11 false (aA v12 h12) h12) fun v13 h13 =>
 bnd (gD v11 false (aC .gtr v13 (aE 255) h13) h13) fun v14 h14 =>
 bnd (aN v11 (.b true) v14 h14) fun v15 h15 =>
 bnd (gD v15 false (aB 2 v1 h15) h15) fun v16 h16 =>
 bnd (gD v15 false (aA v16 h16) h16) fun v17 h17 =>
 bnd (gD v15 false (aC .lss v17 (aE 0) h17) h17) fun v18 h18 =>
 bnd (aN v15 (.b true) v18 h18) fun v19 h19 =>
 bnd (gD v19 false (aB 2 v1 h19) h19) fun v20 h20 =>
 bnd (gD v19 false (aA v20 h20) h20) fun v21 h21 =>
 bnd (gD v19 false (aC .gtr v21 (aE 255) h21) h21) fun v22 h22 =>
 bnd (aN v19 (.b true) v22 h22) fun v23 h23 =>
 aR v23 (
 some ((.b false),h23)) (
  fM 0 v1 h23 fun v24 h24 =>
 bnd (r 133 [v24] h24) fun v25 h25 =>
 bnd (aC .gtr v25 (aE 0) h25) fun v26 h26 =>
 bnd (gD v26 false (aB 1 v1 h26) h26) fun v27 h27 =>
 bnd (gD v26 false (aA v27 h27) h27) fun v28 h28 =>
 bnd (gD v26 false (aC .eql v28 (aE 0) h28) h28) fun v29 h29 =>
 bnd (aN v26 (.b true) v29 h29) fun v30 h30 =>
 bnd (gD v30 true (some (v25,h30)) h30) fun v31 h31 =>
 bnd (gD v30 true (aC .gtr v31 (aE 1) h31) h31) fun v32 h32 =>
 bnd (gD v30 true (some (v32,h32)) h32) fun v33 h33 =>
 bnd (gD v33 false (aB 2 v1 h33) h33) fun v34 h34 =>
 bnd (gD v33 false (aA v34 h34) h34) fun v35 h35 =>
 bnd (gD v33 false (aC .eql v35 (aE 0) h35) h35) fun v36 h36 =>
 bnd (gD v30 true (aN v33 (.b true) v36 h36) h36) fun v37 h37 =>
 bnd (aN v30 v37 (.b false) h37) fun v38 h38 =>
 some (v38,h38))
theorem eRm : aI CF r n 76 args h = s76 r n (bI args 0) h :=
 by kernel_rfl
def s81 (r : RT) (n : Nat) (x0 x1 : DV) (h0 : Hp) : aH :=
 fL 0 x0 h0 fun v1 h1 =>
 bnd (isQ [v1,x1] h1) fun v2 h2 =>
 bnd (gD v2 true (some (x0,h2)) h2) fun v3 h3 =>
 bnd (gD v2 true (aV v3 h3) h3) fun v4 h4 =>
 bnd (gD v2 true (aB 0 v4 h4) h4) fun v5 h5 =>
 bnd (gD v2 true (aA v5 h5) h5) fun v6 h6 =>
 bnd (gD v2 true (some (x1,h6)) h6) fun v7 h7 =>
 bnd (gD v2 true (qL [v6,v7] h7) h7) fun v8 h8 =>
 bnd (gD v2 true (some (x0,h8)) h8) fun v9 h9 =>
 bnd (gD v2 true (r 26 [v9,(aE 1)] h9) h9) fun v10 h10 =>
 bnd (gD v2 true (aC .eql v8 v10 h10) h10) fun v11 h11 =>
 bnd (aN v2 v11 (.b false) h11) fun v12 h12 =>
 bnd (gD v12 true (some (x0,h12)) h12) fun v13 h13 =>
 bnd (gD v12 true (aV v13 h13) h13) fun v14 h14 =>
 bnd (gD v12 true (aB 0 v14 h14) h14) fun v15 h15 =>
 bnd (gD v12 true (aA v15 h15) h15) fun v16 h16 =>
 bnd (gD v12 true (some (x1,h16)) h16) fun v17 h17 =>
 bnd (gD v12 true (oN [v16,v17] h17) h17) fun v18 h18 =>
 bnd (gD v12 true (aC .eql v18 (aE 6) h18) h18) fun v19 h19 =>
 bnd (aN v12 v19 (.b false) h19) fun v20 h20 =>
 some (v20,h20)
theorem eMc : aI CF r n 81 args h = s81 r n (bI args 0) (bI args 1) h :=
 by kernel_rfl
def s82 (r : RT) (n : Nat) (x0 x1 : DV) (h0 : Hp) : aH :=
 bnd (bZ x0 h0) fun v1 h1 =>
 bnd (aK 6 v1 h1) fun v2 h2 =>
 bnd (r 142 [v2,x1] h2) fun v3 h3 =>
 bnd (aF 0 v3 h3) fun v4 h4 =>
 bnd (aF 1 v3 h4) fun v5 h5 =>
 some (v5,h5)
theorem eMg : aI CF r n 82 args h = s82 r n (bI args 0) (bI args 1) h :=
 by kernel_rfl
def s83 (r : RT) (n : Nat) (x0 x1 : DV) (h0 : Hp) : aH :=
 bnd (r 81 [x0,x1] h0) fun v1 h1 =>
 bnd (eQ .not v1 h1) fun v2 h2 =>
 aR v2 (
 some ((aE 0),h2)) (
 bnd (r 108 [x0,x1,(aE 2)] h2) fun v3 h3 =>
 bnd (oA [v3] h3) fun v4 h4 =>
 some (v4,h4))
theorem eNz : aI CF r n 83 args h = s83 r n (bI args 0) (bI args 1) h :=
 by kernel_rfl
def gT (r : RT) (n : Nat) (x0 x6 : DV) (h0 : Hp) : aH :=
 bnd (r 29 [x0,x6] h0) fun v1 h1 =>
 bnd (aF 0 v1 h1) fun v2 h2 =>
 bnd (aF 1 v1 h2) fun v3 h3 =>
 some (.t [v2,v3],h3)
def aXu (r : RT) (n : Nat) (kk6 : cN) (x0 x6 x38 x39 x40 : DV) (h0 : Hp) : aH :=
 bnd (aC .lss x40 x39 h0) fun v1 h1 =>
 aR v1 (
 bnd (aG 4 x38 x40 h1) fun v2 h2 =>
 bnd (aK 4 v2 h2) fun v3 h3 =>
 bnd (bQ [(aE 0),(.s []),(aE 0),.l0] h3) fun v4 h4 =>
 bnd (aJ 4 v4 v3 h4) fun _ h5 =>
 bnd (aK 4 v4 h5) fun v6 h6 =>
 bnd (r 84 [x0,v6] h6) fun v7 h7 =>
 bnd (aF 0 v7 h7) fun v8 h8 =>
 bnd (aF 1 v7 h8) fun v9 h9 =>
 bnd (aC .neq v9 (aE 0) h9) fun v10 h10 =>
 aR v10 (
 some (.t [(aE 0),v9],h10)) (
 bnd (aS [(aE 0)] 1 [(0,1,v8)] h10) fun v11 h11 =>
 bnd (bH 1 8 x6 v11 h11) fun v12 h12 =>
 bnd (aC .add x40 (aE 1) h12) fun v13 h13 =>
    kk6 x0 v12 x38 x39 v13 h13)) (
      gT r n x0 x6 h1)
def aLq (r : RT) (n : Nat) (m : Nat) : cN :=
 Nat.rec (motive:=fun _=>cN) (fun _ _ _ _ _ _=>none) (fun _ ih=>aXu r n ih) m
def dTj (r : RT) (n : Nat) : cN:=aLq r n n
def cRz (r : RT) (n : Nat) (x0 x6 x38 x39 x40 : DV) (h0 : Hp) : aH :=
 dTj r n x0 x6 x38 x39 x40 h0
def cLz (r : RT) (n : Nat) (x0 x3 x6 : DV) (h0 : Hp) : aH :=
 fM 3 x3 h0 fun v1 h1 =>
 bnd (bM v1 h1) fun v2 h2 =>
  cRz r n x0 x6 v1 v2 (aE 0) h2
def cHx (r : RT) (n : Nat) (x0 x3 : DV) (h0 : Hp) : aH :=
 cLz r n x0 x3 .l0 h0
def aVb (r : RT) (n : Nat) (x0 x3 : DV) (h0 : Hp) : aH :=
 fM 0 x3 h0 fun v1 h1 =>
 bnd (aC .eql v1 (aE 1) h1) fun v2 h2 =>
 aR v2 (
  fM 2 x3 h2 fun v3 h3 =>
 bnd (r 144 [x0,v3] h3) fun v4 h4 =>
 bnd (aF 0 v4 h4) fun v5 h5 =>
 bnd (aF 1 v4 h5) fun v6 h6 =>
 some (.t [v5,v6],h6)) (
 bnd (aC .eql v1 (aE 2) h2) fun v7 h7 =>
 aR v7 (
   fM 1 x3 h7 fun v8 h8 =>
 bnd (r 145 [x0,v8] h8) fun v9 h9 =>
 bnd (aF 0 v9 h9) fun v10 h10 =>
 bnd (aF 1 v9 h10) fun v11 h11 =>
 some (.t [v10,v11],h11)) (
 bnd (aC .eql v1 (aE 3) h7) fun v12 h12 =>
 aR v12 (
    fM 1 x3 h12 fun v13 h13 =>
 bnd (r 28 [x0,v13] h13) fun v14 h14 =>
 bnd (aF 0 v14 h14) fun v15 h15 =>
 bnd (aF 1 v14 h15) fun v16 h16 =>
 some (.t [v15,v16],h16)) (
    cHx r n x0 x3 h12)))
def s84 (r : RT) (n : Nat) (x0 x1 : DV) (h0 : Hp) : aH :=
 bnd (bZ x1 h0) fun v1 h1 =>
  aVb r n x0 v1 h1
abbrev c84 : Code:=cf Tryz.f84
abbrev bGa : Code:=cR c84
abbrev bJb : Code:=cR bGa
abbrev bHw : Code:=cR bJb
abbrev eIl : Code:=cR bHw
abbrev aVq : Code:=cL bHw
abbrev cLu : Code:=cR aVq
abbrev bLa : Code:=cL cLu
abbrev vH : Code:=cL bLa
abbrev dQu : Code:=cL aVq
abbrev cJu : Code:=cL bJb
abbrev cSk : Code:=cL bGa
abbrev bDx : Code:=cL c84
abbrev r84 : K:=bE CF Tryz.f84
def D84 (r : RT) (n : Nat) (c : Code) (X : Nat → K) (k : K) : K:=aW CF r 63 n c X r84 k
theorem eDy : D84 r n eIl x0 r84 = (K2 (gT r n) 0 6) :=
 (by kernel_rfl)
theorem dFw (kk6 : cN) (q0 : gP) : D84 r n vH (xs x0 1 (K2 q0 0 6)) (K5 kk6 0 6 38 39 40) = fun (env : aZ) (h : Hp) =>
 bnd (aC .lss (env 40) (env 39) h) fun v1 h1 =>
 aR v1 (
 bnd (aG 4 (env 38) (env 40) h1) fun v2 h2 =>
 bnd (aK 4 v2 h2) fun v3 h3 =>
 bnd (bQ [(aE 0),(.s []),(aE 0),.l0] h3) fun v4 h4 =>
 bnd (aJ 4 v4 v3 h4) fun _ h5 =>
 bnd (aK 4 v4 h5) fun v6 h6 =>
 bnd (r 84 [(env 0),v6] h6) fun v7 h7 =>
 bnd (aF 0 v7 h7) fun v8 h8 =>
 bnd (aF 1 v7 h8) fun v9 h9 =>
 bnd (aC .neq v9 (aE 0) h9) fun v10 h10 =>
 aR v10 (
 some (.t [(aE 0),v9],h10)) (
 bnd (aS [(aE 0)] 1 [(0,1,v8)] h10) fun v11 h11 =>
 bnd (bH 1 8 (env 6) v11 h11) fun v12 h12 =>
 bnd (aC .add (env 40) (aE 1) h12) fun v13 h13 =>
    kk6 (env 0) v12 (env 38) (env 39) v13 h13)) (
      q0 (env 0) (env 6) h1):=by kernel_rfl
theorem bZn (kk6 : cN) : (fun (env : aZ) (h : Hp) =>
 bnd (aC .lss (env 40) (env 39) h) fun v1 h1 =>
 aR v1 (
 bnd (aG 4 (env 38) (env 40) h1) fun v2 h2 =>
 bnd (aK 4 v2 h2) fun v3 h3 =>
 bnd (bQ [(aE 0),(.s []),(aE 0),.l0] h3) fun v4 h4 =>
 bnd (aJ 4 v4 v3 h4) fun _ h5 =>
 bnd (aK 4 v4 h5) fun v6 h6 =>
 bnd (r 84 [(env 0),v6] h6) fun v7 h7 =>
 bnd (aF 0 v7 h7) fun v8 h8 =>
 bnd (aF 1 v7 h8) fun v9 h9 =>
 bnd (aC .neq v9 (aE 0) h9) fun v10 h10 =>
 aR v10 (
 some (.t [(aE 0),v9],h10)) (
 bnd (aS [(aE 0)] 1 [(0,1,v8)] h10) fun v11 h11 =>
 bnd (bH 1 8 (env 6) v11 h11) fun v12 h12 =>
 bnd (aC .add (env 40) (aE 1) h12) fun v13 h13 =>
    kk6 (env 0) v12 (env 38) (env 39) v13 h13)) (
      gT r n (env 0) (env 6) h1)) = (K5 (aXu r n kk6) 0 6 38 39 40):=by kernel_rfl
theorem cZc (kk6 : cN) : D84 r n vH (xs x0 1 (K2 (gT r n) 0 6)) (K5 kk6 0 6 38 39 40) = (K5 (aXu r n kk6) 0 6 38 39 40) :=
 (dFw r n kk6 (gT r n)).trans (bZn r n kk6)
theorem dMn (m : Nat) : aM (fun kk=>D84 r n vH (xs x0 1 (K2 (gT r n) 0 6)) kk) m = (K5 (aLq r n m) 0 6 38 39 40):=by
 induction m with
 | zero=>exact (by kernel_rfl : aM (fun kk=>D84 r n vH (xs x0 1 (K2 (gT r n) 0 6)) kk) 0 = (K5 (aLq r n 0) 0 6 38 39 40))
 | succ m ih =>
  refine (by kernel_rfl : aM (fun kk=>D84 r n vH (xs x0 1 (K2 (gT r n) 0 6)) kk) (m + 1) = D84 r n vH (xs x0 1 (K2 (gT r n) 0 6)) (aM (fun kk=>D84 r n vH (xs x0 1 (K2 (gT r n) 0 6)) kk) m)).trans ?_
  rw [ih]
  exact (cZc r n (aLq r n m)).trans (by kernel_rfl)
theorem eBq : D84 r n bLa (xs x0 1 (K2 (gT r n) 0 6)) (K2 (gT r n) 0 6) = (K5 (dTj r n) 0 6 38 39 40) :=
 (by kernel_rfl : D84 r n bLa (xs x0 1 (K2 (gT r n) 0 6)) (K2 (gT r n) 0 6) = aM (fun kk=>D84 r n vH (xs x0 1 (K2 (gT r n) 0 6)) kk) n).trans ((dMn r n n).trans (by kernel_rfl))
theorem eEn : D84 r n cLu x0 (K2 (gT r n) 0 6) = (K5 (cRz r n) 0 6 38 39 40) :=
 (by kernel_rfl : D84 r n cLu x0 (K2 (gT r n) 0 6) = D84 r n bLa (xs x0 1 (K2 (gT r n) 0 6)) (K2 (gT r n) 0 6)).trans
 ((eBq r n).trans (by kernel_rfl))
theorem dQg : D84 r n bHw x0 r84 = D84 r n aVq x0 (K2 (gT r n) 0 6) :=
 congrArg (fun k=>D84 r n aVq x0 k) (eDy r n)
theorem dFt : D84 r n aVq x0 (K2 (gT r n) 0 6) = D84 r n dQu x0 (K5 (cRz r n) 0 6 38 39 40) :=
 congrArg (fun k=>D84 r n dQu x0 k) (eEn r n)
theorem dXy : D84 r n bHw x0 r84 = (K3 (cLz r n) 0 3 6) :=
 (dQg r n).trans
 ((dFt r n).trans
 ((by kernel_rfl)))
theorem cXq : D84 r n bJb x0 r84 = D84 r n cJu x0 (K3 (cLz r n) 0 3 6) :=
 congrArg (fun k=>D84 r n cJu x0 k) (dXy r n)
theorem dVt : D84 r n bJb x0 r84 = (K2 (cHx r n) 0 3) :=
 (cXq r n).trans
 ((by kernel_rfl))
theorem dQd : D84 r n bGa x0 r84 = D84 r n cSk x0 (K2 (cHx r n) 0 3) :=
 congrArg (fun k=>D84 r n cSk x0 k) (dVt r n)
theorem eHl : D84 r n bGa x0 r84 = (K2 (aVb r n) 0 3) :=
 (dQd r n).trans
 ((by kernel_rfl))
theorem eSn : D84 r n c84 x0 r84 = D84 r n bDx x0 (K2 (aVb r n) 0 3) :=
 congrArg (fun k=>D84 r n bDx x0 k) (eHl r n)
theorem eJm (q0 : gP) : D84 r n bDx x0 (K2 q0 0 3) = fun (env : aZ) (h : Hp) =>
 bnd (bZ (env 1) h) fun v1 h1 =>
  q0 (env 0) v1 h1:=by kernel_rfl
theorem eGx : (fun (env : aZ) (h : Hp) =>
 bnd (bZ (env 1) h) fun v1 h1 =>
  aVb r n (env 0) v1 h1) = (K2 (s84 r n) 0 1):=by kernel_rfl
theorem eYk : D84 r n c84 x0 r84 = (K2 (s84 r n) 0 1) :=
 (eSn r n).trans
 ((eJm r n (aVb r n)).trans (eGx r n))
theorem eOp : aI CF r n 84 args h = s84 r n (bI args 0) (bI args 1) h :=
 (by kernel_rfl : aI CF r n 84 args h = D84 r n c84 x0 r84 (aQ args) h).trans ((congrFun (congrFun (eYk r n) (aQ args)) h).trans (by kernel_rfl))
def gU (r : RT) (n : Nat) (x4 : DV) (h0 : Hp) : aH :=
 some (.t [x4,(aE 0)],h0)
def bEa (r : RT) (n : Nat) (kk6 : dG) (x4 x10 x11 x12 : DV) (h0 : Hp) : aH :=
 bnd (aC .lss x12 x11 h0) fun v1 h1 =>
 aR v1 (
 bnd (aG 3 x10 x12 h1) fun v2 h2 =>
 bnd (aK 3 v2 h2) fun v3 h3 =>
 bnd (bQ [(aE 0),(aE 0),(aE 0)] h3) fun v4 h4 =>
 bnd (aJ 3 v4 v3 h4) fun _ h5 =>
 bnd (aK 3 v4 h5) fun v6 h6 =>
 bnd (r 146 [v6] h6) fun v7 h7 =>
 bnd (eQ .not v7 h7) fun v8 h8 =>
 aR v8 (
 some (.t [.l0,(aE 19)],h8)) (
    fM 0 v4 h8 fun v9 h9 =>
 bnd (cV .u8 v9 h9) fun v10 h10 =>
    fM 1 v4 h10 fun v11 h11 =>
 bnd (cV .u8 v11 h11) fun v12 h12 =>
    fM 2 v4 h12 fun v13 h13 =>
 bnd (cV .u8 v13 h13) fun v14 h14 =>
 bnd (aS [(.i .u8 (Int.ofNat 0)),(.i .u8 (Int.ofNat 0)),(.i .u8 (Int.ofNat 0))] 3 [(0,1,v10),(1,1,v12),(2,1,v14)] h14) fun v15 h15 =>
 bnd (bH 1 1 x4 v15 h15) fun v16 h16 =>
 bnd (aC .add x12 (aE 1) h16) fun v17 h17 =>
    kk6 v16 x10 x11 v17 h17)) (
      gU r n x4 h1)
def aJy (r : RT) (n : Nat) (m : Nat) : dG :=
 Nat.rec (motive:=fun _=>dG) (fun _ _ _ _ _=>none) (fun _ ih=>bEa r n ih) m
def dSa (r : RT) (n : Nat) : dG:=aJy r n n
def cJw (r : RT) (n : Nat) (x4 x10 x11 x12 : DV) (h0 : Hp) : aH :=
 dSa r n x4 x10 x11 x12 h0
def cGr (r : RT) (n : Nat) (x0 x4 : DV) (h0 : Hp) : aH :=
 bnd (bM x0 h0) fun v1 h1 =>
  cJw r n x4 x0 v1 (aE 0) h1
def cBl (r : RT) (n : Nat) (x0 : DV) (h0 : Hp) : aH :=
 cGr r n x0 .l0 h0
def cSx (r : RT) (n : Nat) (x0 : DV) (h0 : Hp) : aH :=
 bnd (bM x0 h0) fun v1 h1 =>
 bnd (aC .gtr v1 (aE 400) h1) fun v2 h2 =>
 aR v2 (
 some (.t [.l0,(aE 19)],h2)) (
  cBl r n x0 h2)
def s85 (r : RT) (n : Nat) (x0 : DV) (h0 : Hp) : aH :=
 cSx r n x0 h0
abbrev c85 : Code:=cf Tryz.f85
abbrev bLc : Code:=cR c85
abbrev bNa : Code:=cR bLc
abbrev bHk : Code:=cR bNa
abbrev eJj : Code:=cR bHk
abbrev aSj : Code:=cL bHk
abbrev cPf : Code:=cR aSj
abbrev bEy : Code:=cL cPf
abbrev uT : Code:=cL bEy
abbrev dSz : Code:=cL aSj
abbrev cTi : Code:=cL bNa
abbrev cKz : Code:=cL bLc
abbrev cCq : Code:=cL c85
abbrev r85 : K:=bE CF Tryz.f85
def D85 (r : RT) (n : Nat) (c : Code) (X : Nat → K) (k : K) : K:=aW CF r 33 n c X r85 k
theorem eEk : D85 r n eJj x0 r85 = (K1 (gU r n) 4) :=
 (by kernel_rfl)
theorem dEu (kk6 : dG) (q0 : TT1) : D85 r n uT (xs x0 0 (K1 q0 4)) (K4 kk6 4 10 11 12) = fun (env : aZ) (h : Hp) =>
 bnd (aC .lss (env 12) (env 11) h) fun v1 h1 =>
 aR v1 (
 bnd (aG 3 (env 10) (env 12) h1) fun v2 h2 =>
 bnd (aK 3 v2 h2) fun v3 h3 =>
 bnd (bQ [(aE 0),(aE 0),(aE 0)] h3) fun v4 h4 =>
 bnd (aJ 3 v4 v3 h4) fun _ h5 =>
 bnd (aK 3 v4 h5) fun v6 h6 =>
 bnd (r 146 [v6] h6) fun v7 h7 =>
 bnd (eQ .not v7 h7) fun v8 h8 =>
 aR v8 (
 some (.t [.l0,(aE 19)],h8)) (
 bnd (aB 0 v4 h8) fun v9 h9 =>
 bnd (aA v9 h9) fun v10 h10 =>
 bnd (cV .u8 v10 h10) fun v11 h11 =>
 bnd (aB 1 v4 h11) fun v12 h12 =>
 bnd (aA v12 h12) fun v13 h13 =>
 bnd (cV .u8 v13 h13) fun v14 h14 =>
 bnd (aB 2 v4 h14) fun v15 h15 =>
 bnd (aA v15 h15) fun v16 h16 =>
 bnd (cV .u8 v16 h16) fun v17 h17 =>
 bnd (aS [(.i .u8 (Int.ofNat 0)),(.i .u8 (Int.ofNat 0)),(.i .u8 (Int.ofNat 0))] 3 [(0,1,v11),(1,1,v14),(2,1,v17)] h17) fun v18 h18 =>
 bnd (bH 1 1 (env 4) v18 h18) fun v19 h19 =>
 bnd (aC .add (env 12) (aE 1) h19) fun v20 h20 =>
    kk6 v19 (env 10) (env 11) v20 h20)) (
      q0 (env 4) h1):=by kernel_rfl
theorem cEi (kk6 : dG) : (fun (env : aZ) (h : Hp) =>
 bnd (aC .lss (env 12) (env 11) h) fun v1 h1 =>
 aR v1 (
 bnd (aG 3 (env 10) (env 12) h1) fun v2 h2 =>
 bnd (aK 3 v2 h2) fun v3 h3 =>
 bnd (bQ [(aE 0),(aE 0),(aE 0)] h3) fun v4 h4 =>
 bnd (aJ 3 v4 v3 h4) fun _ h5 =>
 bnd (aK 3 v4 h5) fun v6 h6 =>
 bnd (r 146 [v6] h6) fun v7 h7 =>
 bnd (eQ .not v7 h7) fun v8 h8 =>
 aR v8 (
 some (.t [.l0,(aE 19)],h8)) (
 bnd (aB 0 v4 h8) fun v9 h9 =>
 bnd (aA v9 h9) fun v10 h10 =>
 bnd (cV .u8 v10 h10) fun v11 h11 =>
 bnd (aB 1 v4 h11) fun v12 h12 =>
 bnd (aA v12 h12) fun v13 h13 =>
 bnd (cV .u8 v13 h13) fun v14 h14 =>
 bnd (aB 2 v4 h14) fun v15 h15 =>
 bnd (aA v15 h15) fun v16 h16 =>
 bnd (cV .u8 v16 h16) fun v17 h17 =>
 bnd (aS [(.i .u8 (Int.ofNat 0)),(.i .u8 (Int.ofNat 0)),(.i .u8 (Int.ofNat 0))] 3 [(0,1,v11),(1,1,v14),(2,1,v17)] h17) fun v18 h18 =>
 bnd (bH 1 1 (env 4) v18 h18) fun v19 h19 =>
 bnd (aC .add (env 12) (aE 1) h19) fun v20 h20 =>
    kk6 v19 (env 10) (env 11) v20 h20)) (
      gU r n (env 4) h1)) = (K4 (bEa r n kk6) 4 10 11 12):=by kernel_rfl
theorem dBl (kk6 : dG) : D85 r n uT (xs x0 0 (K1 (gU r n) 4)) (K4 kk6 4 10 11 12) = (K4 (bEa r n kk6) 4 10 11 12) :=
 (dEu r n kk6 (gU r n)).trans (cEi r n kk6)
theorem dLe (m : Nat) : aM (fun kk=>D85 r n uT (xs x0 0 (K1 (gU r n) 4)) kk) m = (K4 (aJy r n m) 4 10 11 12):=by
 induction m with
 | zero=>exact (by kernel_rfl : aM (fun kk=>D85 r n uT (xs x0 0 (K1 (gU r n) 4)) kk) 0 = (K4 (aJy r n 0) 4 10 11 12))
 | succ m ih =>
  refine (by kernel_rfl : aM (fun kk=>D85 r n uT (xs x0 0 (K1 (gU r n) 4)) kk) (m + 1) = D85 r n uT (xs x0 0 (K1 (gU r n) 4)) (aM (fun kk=>D85 r n uT (xs x0 0 (K1 (gU r n) 4)) kk) m)).trans ?_
  rw [ih]
  exact (dBl r n (aJy r n m)).trans (by kernel_rfl)
theorem eCm : D85 r n bEy (xs x0 0 (K1 (gU r n) 4)) (K1 (gU r n) 4) = (K4 (dSa r n) 4 10 11 12) :=
 (by kernel_rfl : D85 r n bEy (xs x0 0 (K1 (gU r n) 4)) (K1 (gU r n) 4) = aM (fun kk=>D85 r n uT (xs x0 0 (K1 (gU r n) 4)) kk) n).trans ((dLe r n n).trans (by kernel_rfl))
theorem eDo : D85 r n cPf x0 (K1 (gU r n) 4) = (K4 (cJw r n) 4 10 11 12) :=
 (by kernel_rfl : D85 r n cPf x0 (K1 (gU r n) 4) = D85 r n bEy (xs x0 0 (K1 (gU r n) 4)) (K1 (gU r n) 4)).trans
 ((eCm r n).trans (by kernel_rfl))
theorem dOq : D85 r n bHk x0 r85 = D85 r n aSj x0 (K1 (gU r n) 4) :=
 congrArg (fun k=>D85 r n aSj x0 k) (eEk r n)
theorem dLq : D85 r n aSj x0 (K1 (gU r n) 4) = D85 r n dSz x0 (K4 (cJw r n) 4 10 11 12) :=
 congrArg (fun k=>D85 r n dSz x0 k) (eDo r n)
theorem dYc : D85 r n bHk x0 r85 = (K2 (cGr r n) 0 4) :=
 (dOq r n).trans
 ((dLq r n).trans
 ((by kernel_rfl)))
theorem dIl : D85 r n bNa x0 r85 = D85 r n cTi x0 (K2 (cGr r n) 0 4) :=
 congrArg (fun k=>D85 r n cTi x0 k) (dYc r n)
theorem dZd : D85 r n bNa x0 r85 = (K1 (cBl r n) 0) :=
 (dIl r n).trans
 ((by kernel_rfl))
theorem dEd : D85 r n bLc x0 r85 = D85 r n cKz x0 (K1 (cBl r n) 0) :=
 congrArg (fun k=>D85 r n cKz x0 k) (dZd r n)
theorem dWd : D85 r n bLc x0 r85 = (K1 (cSx r n) 0) :=
 (dEd r n).trans
 ((by kernel_rfl))
theorem eKu : D85 r n c85 x0 r85 = D85 r n cCq x0 (K1 (cSx r n) 0) :=
 congrArg (fun k=>D85 r n cCq x0 k) (dWd r n)
theorem eVx : D85 r n c85 x0 r85 = (K1 (s85 r n) 0) :=
 (eKu r n).trans
 ((by kernel_rfl))
theorem eUv : aI CF r n 85 args h = s85 r n (bI args 0) h :=
 (by kernel_rfl : aI CF r n 85 args h = D85 r n c85 x0 r85 (aQ args) h).trans ((congrFun (congrFun (eVx r n) (aQ args)) h).trans (by kernel_rfl))
def iH (r : RT) (n : Nat) (x0 x1 : DV) (h0 : Hp) : aH :=
 bnd (aV x0 h0) fun v1 h1 =>
 bnd (aB 7 v1 h1) fun v2 h2 =>
 bnd (aB 2 v2 h2) fun v3 h3 =>
 bnd (iA CF r x1 [v3] h3) fun v4 h4 =>
 some (.t [],h4)
def cTw (r : RT) (n : Nat) (kk8 : dG) (x0 x1 x47 x48 : DV) (h0 : Hp) : aH :=
 bnd (aC .lss x48 x47 h0) fun v1 h1 =>
 aR v1 (
   fL 6 x0 h1 fun v2 h2 =>
 bnd (aG 1 v2 x48 h2) fun v3 h3 =>
 bnd (iA CF r x1 [v3] h3) fun v4 h4 =>
 bnd (aC .add x48 (aE 1) h4) fun v5 h5 =>
      kk8 x0 x1 x47 v5 h5) (
      iH r n x0 x1 h1)
def aHx (r : RT) (n : Nat) (m : Nat) : dG :=
 Nat.rec (motive:=fun _=>dG) (fun _ _ _ _ _=>none) (fun _ ih=>cTw r n ih) m
def dTn (r : RT) (n : Nat) : dG:=aHx r n n
def bZr (r : RT) (n : Nat) (x0 x1 x47 x48 : DV) (h0 : Hp) : aH :=
 dTn r n x0 x1 x47 x48 h0
def iC (r : RT) (n : Nat) (x0 x1 : DV) (h0 : Hp) : aH :=
 fL 6 x0 h0 fun v1 h1 =>
 bnd (bM v1 h1) fun v2 h2 =>
  bZr r n x0 x1 v2 (aE 0) h2
def bEv (r : RT) (n : Nat) (kk10 : dG) (x0 x1 x30 x31 : DV) (h0 : Hp) : aH :=
 bnd (aC .lss x31 x30 h0) fun v1 h1 =>
 aR v1 (
   fL 5 x0 h1 fun v2 h2 =>
 bnd (aG 1 v2 x31 h2) fun v3 h3 =>
 bnd (iA CF r x1 [v3] h3) fun v4 h4 =>
 bnd (aC .add x31 (aE 1) h4) fun v5 h5 =>
      kk10 x0 x1 x30 v5 h5) (
      iC r n x0 x1 h1)
def wK (r : RT) (n : Nat) (m : Nat) : dG :=
 Nat.rec (motive:=fun _=>dG) (fun _ _ _ _ _=>none) (fun _ ih=>bEv r n ih) m
def cSt (r : RT) (n : Nat) : dG:=wK r n n
def cVi (r : RT) (n : Nat) (x0 x1 x30 x31 : DV) (h0 : Hp) : aH :=
 cSt r n x0 x1 x30 x31 h0
def cVj (r : RT) (n : Nat) (x0 x1 : DV) (h0 : Hp) : aH :=
 fL 5 x0 h0 fun v1 h1 =>
 bnd (bM v1 h1) fun v2 h2 =>
  cVi r n x0 x1 v2 (aE 0) h2
def cFt (r : RT) (n : Nat) (x0 x1 : DV) (h0 : Hp) : aH :=
 bnd (aV x0 h0) fun v1 h1 =>
 bnd (aB 4 v1 h1) fun v2 h2 =>
 bnd (iA CF r x1 [v2] h2) fun v3 h3 =>
  cVj r n x0 x1 h3
def cMm (r : RT) (n : Nat) (x0 x1 : DV) (h0 : Hp) : aH :=
 bnd (aV x0 h0) fun v1 h1 =>
 bnd (aB 2 v1 h1) fun v2 h2 =>
 bnd (iA CF r x1 [v2] h2) fun v3 h3 =>
  cFt r n x0 x1 h3
def cBi (r : RT) (n : Nat) (x0 x1 : DV) (h0 : Hp) : aH :=
 bnd (aV x0 h0) fun v1 h1 =>
 bnd (aB 1 v1 h1) fun v2 h2 =>
 bnd (iA CF r x1 [v2] h2) fun v3 h3 =>
  cMm r n x0 x1 h3
def s87 (r : RT) (n : Nat) (x0 x1 : DV) (h0 : Hp) : aH :=
 bnd (aV x0 h0) fun v1 h1 =>
 bnd (aB 0 v1 h1) fun v2 h2 =>
 bnd (iA CF r x1 [v2] h2) fun v3 h3 =>
  cBi r n x0 x1 h3
abbrev c87 : Code:=cf Tryz.f87
abbrev bQe : Code:=cR c87
abbrev bJj : Code:=cR bQe
abbrev bHf : Code:=cR bJj
abbrev bHc : Code:=cR bHf
abbrev bPl : Code:=cR bHc
abbrev eJi : Code:=cR bPl
abbrev aSk : Code:=cL bPl
abbrev cSs : Code:=cR aSk
abbrev bKh : Code:=cL cSs
abbrev qF : Code:=cL bKh
abbrev cGw : Code:=cL aSk
abbrev aAp : Code:=cL bHc
abbrev aZz : Code:=cR aAp
abbrev aOe : Code:=cL aZz
abbrev pQ : Code:=cL aOe
abbrev bZx : Code:=cL aAp
abbrev cNj : Code:=cL bHf
abbrev cWa : Code:=cL bJj
abbrev cSa : Code:=cL bQe
abbrev cQs : Code:=cL c87
abbrev r87 : K:=bE CF Tryz.f87
def D87 (r : RT) (n : Nat) (c : Code) (X : Nat → K) (k : K) : K:=aW CF r 66 n c X r87 k
theorem eBi : D87 r n eJi x0 r87 = (K2 (iH r n) 0 1) :=
 (by kernel_rfl)
theorem dEt (kk8 : dG) : D87 r n qF (xs x0 2 (K2 (iH r n) 0 1)) (K4 kk8 0 1 47 48) = (K4 (cTw r n kk8) 0 1 47 48) :=
 (by kernel_rfl)
theorem cZe (m : Nat) : aM (fun kk=>D87 r n qF (xs x0 2 (K2 (iH r n) 0 1)) kk) m = (K4 (aHx r n m) 0 1 47 48):=by
 induction m with
 | zero=>exact (by kernel_rfl : aM (fun kk=>D87 r n qF (xs x0 2 (K2 (iH r n) 0 1)) kk) 0 = (K4 (aHx r n 0) 0 1 47 48))
 | succ m ih =>
  refine (by kernel_rfl : aM (fun kk=>D87 r n qF (xs x0 2 (K2 (iH r n) 0 1)) kk) (m + 1) = D87 r n qF (xs x0 2 (K2 (iH r n) 0 1)) (aM (fun kk=>D87 r n qF (xs x0 2 (K2 (iH r n) 0 1)) kk) m)).trans ?_
  rw [ih]
  exact (dEt r n (aHx r n m)).trans (by kernel_rfl)
theorem eHe : D87 r n bKh (xs x0 2 (K2 (iH r n) 0 1)) (K2 (iH r n) 0 1) = (K4 (dTn r n) 0 1 47 48) :=
 (by kernel_rfl : D87 r n bKh (xs x0 2 (K2 (iH r n) 0 1)) (K2 (iH r n) 0 1) = aM (fun kk=>D87 r n qF (xs x0 2 (K2 (iH r n) 0 1)) kk) n).trans ((cZe r n n).trans (by kernel_rfl))
theorem eHo : D87 r n cSs x0 (K2 (iH r n) 0 1) = (K4 (bZr r n) 0 1 47 48) :=
 (by kernel_rfl : D87 r n cSs x0 (K2 (iH r n) 0 1) = D87 r n bKh (xs x0 2 (K2 (iH r n) 0 1)) (K2 (iH r n) 0 1)).trans
 ((eHe r n).trans (by kernel_rfl))
theorem dNw : D87 r n bPl x0 r87 = D87 r n aSk x0 (K2 (iH r n) 0 1) :=
 congrArg (fun k=>D87 r n aSk x0 k) (eBi r n)
theorem dKd : D87 r n aSk x0 (K2 (iH r n) 0 1) = D87 r n cGw x0 (K4 (bZr r n) 0 1 47 48) :=
 congrArg (fun k=>D87 r n cGw x0 k) (eHo r n)
theorem eBf : D87 r n bPl x0 r87 = (K2 (iC r n) 0 1) :=
 (dNw r n).trans
 ((dKd r n).trans
 ((by kernel_rfl)))
theorem cPz (kk10 : dG) : D87 r n pQ (xs x0 0 (K2 (iC r n) 0 1)) (K4 kk10 0 1 30 31) = (K4 (bEv r n kk10) 0 1 30 31) :=
 (by kernel_rfl)
theorem bXz (m : Nat) : aM (fun kk=>D87 r n pQ (xs x0 0 (K2 (iC r n) 0 1)) kk) m = (K4 (wK r n m) 0 1 30 31):=by
 induction m with
 | zero=>exact (by kernel_rfl : aM (fun kk=>D87 r n pQ (xs x0 0 (K2 (iC r n) 0 1)) kk) 0 = (K4 (wK r n 0) 0 1 30 31))
 | succ m ih =>
  refine (by kernel_rfl : aM (fun kk=>D87 r n pQ (xs x0 0 (K2 (iC r n) 0 1)) kk) (m + 1) = D87 r n pQ (xs x0 0 (K2 (iC r n) 0 1)) (aM (fun kk=>D87 r n pQ (xs x0 0 (K2 (iC r n) 0 1)) kk) m)).trans ?_
  rw [ih]
  exact (cPz r n (wK r n m)).trans (by kernel_rfl)
theorem dIy : D87 r n aOe (xs x0 0 (K2 (iC r n) 0 1)) (K2 (iC r n) 0 1) = (K4 (cSt r n) 0 1 30 31) :=
 (by kernel_rfl : D87 r n aOe (xs x0 0 (K2 (iC r n) 0 1)) (K2 (iC r n) 0 1) = aM (fun kk=>D87 r n pQ (xs x0 0 (K2 (iC r n) 0 1)) kk) n).trans ((bXz r n n).trans (by kernel_rfl))
theorem eEh : D87 r n aZz x0 (K2 (iC r n) 0 1) = (K4 (cVi r n) 0 1 30 31) :=
 (by kernel_rfl : D87 r n aZz x0 (K2 (iC r n) 0 1) = D87 r n aOe (xs x0 0 (K2 (iC r n) 0 1)) (K2 (iC r n) 0 1)).trans
 ((dIy r n).trans (by kernel_rfl))
theorem dBa : D87 r n bHc x0 r87 = D87 r n aAp x0 (K2 (iC r n) 0 1) :=
 congrArg (fun k=>D87 r n aAp x0 k) (eBf r n)
theorem dFq : D87 r n aAp x0 (K2 (iC r n) 0 1) = D87 r n bZx x0 (K4 (cVi r n) 0 1 30 31) :=
 congrArg (fun k=>D87 r n bZx x0 k) (eEh r n)
theorem dVp : D87 r n bHc x0 r87 = (K2 (cVj r n) 0 1) :=
 (dBa r n).trans
 ((dFq r n).trans
 ((by kernel_rfl)))
theorem dDs : D87 r n bHf x0 r87 = D87 r n cNj x0 (K2 (cVj r n) 0 1) :=
 congrArg (fun k=>D87 r n cNj x0 k) (dVp r n)
theorem eFq : D87 r n bHf x0 r87 = (K2 (cFt r n) 0 1) :=
 (dDs r n).trans
 ((by kernel_rfl))
theorem dDm : D87 r n bJj x0 r87 = D87 r n cWa x0 (K2 (cFt r n) 0 1) :=
 congrArg (fun k=>D87 r n cWa x0 k) (eFq r n)
theorem eBo : D87 r n bJj x0 r87 = (K2 (cMm r n) 0 1) :=
 (dDm r n).trans
 ((by kernel_rfl))
theorem dKj : D87 r n bQe x0 r87 = D87 r n cSa x0 (K2 (cMm r n) 0 1) :=
 congrArg (fun k=>D87 r n cSa x0 k) (eBo r n)
theorem dVi : D87 r n bQe x0 r87 = (K2 (cBi r n) 0 1) :=
 (dKj r n).trans
 ((by kernel_rfl))
theorem eRx : D87 r n c87 x0 r87 = D87 r n cQs x0 (K2 (cBi r n) 0 1) :=
 congrArg (fun k=>D87 r n cQs x0 k) (dVi r n)
theorem eVq : D87 r n c87 x0 r87 = (K2 (s87 r n) 0 1) :=
 (eRx r n).trans
 ((by kernel_rfl))
theorem eRe : aI CF r n 87 args h = s87 r n (bI args 0) (bI args 1) h :=
 (by kernel_rfl : aI CF r n 87 args h = D87 r n c87 x0 r87 (aQ args) h).trans ((congrFun (congrFun (eVq r n) (aQ args)) h).trans (by kernel_rfl))
def s88 (r : RT) (n : Nat) (x0 x1 x2 : DV) (h0 : Hp) : aH :=
 bnd (aA x1 h0) fun v1 h1 =>
 bnd (gD v1 true (aA x2 h1) h1) fun v2 h2 =>
 bnd (gD v1 true (aV v2 h2) h2) fun v3 h3 =>
 bnd (gD v1 true (aB 0 v3 h3) h3) fun v4 h4 =>
 bnd (gD v1 true (aA v4 h4) h4) fun v5 h5 =>
 bnd (gD v1 true (r 41 [v5] h5) h5) fun v6 h6 =>
 bnd (gD v1 true (some (x0,h6)) h6) fun v7 h7 =>
 bnd (gD v1 true (aV v7 h7) h7) fun v8 h8 =>
 bnd (gD v1 true (aA v8 h8) h8) fun v9 h9 =>
 cnd (aX (gD v1 true (aA v8 h0) h0) v9 && true) (
 bnd (gD v1 true (aWf [v6,v9] h9) h9) fun v10 h10 =>
 bnd (aN v1 v10 (.b false) h10) fun v11 h11 =>
 bnd (aJ 1 x1 v11 h11) fun v12 h12 =>
 some (.t [],h12))
theorem eRr : aI CF r n 88 args h = s88 r n (bI args 0) (bI args 1) (bI args 2) h :=
 by kernel_rfl
def s89 (r : RT) (n : Nat) (x0 : DV) (h0 : Hp) : aH :=
 bnd (bZ x0 h0) fun v1 h1 =>
 bnd (bQ [(aE 0),(aE 0),(aE 0),(aE 0),(aE 0),.l0,.l0,(.b false),(aE 0),(aE 0)] h1) fun v2 h2 =>
  fM 5 v1 h2 fun v3 h3 =>
 bnd (r 134 [v3] h3) fun v4 h4 =>
 bnd (aB 6 v1 h4) fun v5 h5 =>
 bnd (aA v5 h5) fun v6 h6 =>
 cnd (aX (aA v5 h2) v6 && true) (
 bnd (r 134 [v6] h6) fun v7 h7 =>
 bnd (aB 5 v1 h7) fun v8 h8 =>
 bnd (aJ 1 v8 v4 h8) fun v9 h9 =>
 bnd (aB 6 v1 h9) fun v10 h10 =>
 bnd (aJ 1 v10 v7 h10) fun v11 h11 =>
 bnd (aK 10 v1 h11) fun v12 h12 =>
 bnd (aJ 10 v2 v12 h12) fun _ h13 =>
 bnd (aK 10 v2 h13) fun v14 _ =>
 some (v14,h13))
theorem eMu : aI CF r n 89 args h = s89 r n (bI args 0) h :=
 by kernel_rfl
def aSt (r : RT) (n : Nat) (x0 : DV) (h0 : Hp) : aH :=
 fL 12 x0 h0 fun v1 h1 =>
 bnd (eQ .not v1 h1) fun v2 h2 =>
 some (v2,h2)
def bIh (r : RT) (n : Nat) (x0 : DV) (h0 : Hp) : aH :=
 fL 0 x0 h0 fun v1 h1 =>
 bnd (r 41 [v1] h1) fun v2 h2 =>
 bnd (vB [v2] h2) fun v3 h3 =>
 bnd (aC .lss v3 (aE 2000) h3) fun v4 h4 =>
 aR v4 (
 bnd (r 92 [x0,(aE 4),(.s [])] h4) fun v5 h5 =>
  aSt r n x0 h5) (
  fL 5 x0 h4 fun v6 h6 =>
 bnd (aC .eql v6 (aE 0) h6) fun v7 h7 =>
 aR v7 (
 bnd (r 92 [x0, (aE 21), (.s [])] h7) fun v8 h8 =>
      aSt r n x0 h8) (
      aSt r n x0 h7))
def cFy (r : RT) (n : Nat) (x0 x3 : DV) (h0 : Hp) : aH :=
 bnd (gD x3 false (some (x0,h0)) h0) fun v1 h1 =>
 bnd (gD x3 false (aV v1 h1) h1) fun v2 h2 =>
 bnd (gD x3 false (aB 0 v2 h2) h2) fun v3 h3 =>
 bnd (gD x3 false (aA v3 h3) h3) fun v4 h4 =>
 bnd (gD x3 false (r 41 [v4] h4) h4) fun v5 h5 =>
 bnd (gD x3 false (vB [v5] h5) h5) fun v6 h6 =>
 bnd (gD x3 false (aC .lss v6 (aE 2000) h6) h6) fun v7 h7 =>
 bnd (aN x3 (.b true) v7 h7) fun v8 h8 =>
 aR v8 (
 bnd (r 43 [x0] h8) fun v9 h9 =>
  bIh r n x0 h9) (
  bIh r n x0 h8)
def cVk (r : RT) (n : Nat) (x0 : DV) (h0 : Hp) : aH :=
 fL 6 x0 h0 fun v1 h1 =>
 bnd (aC .gtr v1 (aE 0) h1) fun v2 h2 =>
 bnd (gD v2 true (some (x0,h2)) h2) fun v3 h3 =>
 bnd (gD v2 true (aV v3 h3) h3) fun v4 h4 =>
 bnd (gD v2 true (aB 7 v4 h4) h4) fun v5 h5 =>
 bnd (gD v2 true (aA v5 h5) h5) fun v6 h6 =>
 bnd (gD v2 true (some (x0,h6)) h6) fun v7 h7 =>
 bnd (gD v2 true (aV v7 h7) h7) fun v8 h8 =>
 bnd (gD v2 true (aB 6 v8 h8) h8) fun v9 h9 =>
 bnd (gD v2 true (aA v9 h9) h9) fun v10 h10 =>
 bnd (gD v2 true (aC .rem v6 v10 h10) h10) fun v11 h11 =>
 bnd (gD v2 true (aC .eql v11 (aE 0) h11) h11) fun v12 h12 =>
 bnd (aN v2 v12 (.b false) h12) fun v13 h13 =>
  cFy r n x0 v13 h13
def cVy (r : RT) (n : Nat) (x0 : DV) (h0 : Hp) : aH :=
 fL 7 x0 h0 fun v1 h1 =>
 bnd (aC .add v1 (aE 1) h1) fun v2 h2 =>
 bnd (aV x0 h2) fun v3 h3 =>
 bnd (aB 7 v3 h3) fun v4 h4 =>
 bnd (aJ 1 v4 v2 h4) fun _ h5 =>
  cVk r n x0 h5
def cWx (r : RT) (n : Nat) (x0 : DV) (h0 : Hp) : aH :=
 fL 12 x0 h0 fun v1 h1 =>
 aR v1 (
 some ((.b false),h1)) (
  cVy r n x0 h1)
def s90 (r : RT) (n : Nat) (x0 : DV) (h0 : Hp) : aH :=
 cWx r n x0 h0
abbrev c90 : Code:=cf Tryz.f90
abbrev bOh : Code:=cR c90
abbrev bMr : Code:=cR bOh
abbrev bNx : Code:=cR bMr
abbrev bIf : Code:=cR bNx
abbrev bGu : Code:=cR bIf
abbrev ePr : Code:=cR bGu
abbrev dRd : Code:=cL bGu
abbrev dRc : Code:=cL bIf
abbrev dRv : Code:=cL bNx
abbrev cOn : Code:=cL bMr
abbrev cLg : Code:=cL bOh
abbrev cDm : Code:=cL c90
abbrev r90 : K:=bE CF Tryz.f90
def D90 (r : RT) (n : Nat) (c : Code) (X : Nat → K) (k : K) : K:=aW CF r 67 n c X r90 k
theorem dXp : D90 r n ePr x0 r90 = (K1 (aSt r n) 0) :=
 (by kernel_rfl)
theorem dKr : D90 r n bGu x0 r90 = D90 r n dRd x0 (K1 (aSt r n) 0) :=
 congrArg (fun k=>D90 r n dRd x0 k) (dXp r n)
theorem eEv : D90 r n bGu x0 r90 = (K1 (bIh r n) 0) :=
 (dKr r n).trans
 ((by kernel_rfl))
theorem dIp : D90 r n bIf x0 r90 = D90 r n dRc x0 (K1 (bIh r n) 0) :=
 congrArg (fun k=>D90 r n dRc x0 k) (eEv r n)
theorem dXg : D90 r n bIf x0 r90 = (K2 (cFy r n) 0 3) :=
 (dIp r n).trans
 ((by kernel_rfl))
theorem dFx : D90 r n bNx x0 r90 = D90 r n dRv x0 (K2 (cFy r n) 0 3) :=
 congrArg (fun k=>D90 r n dRv x0 k) (dXg r n)
theorem eFd : D90 r n bNx x0 r90 = (K1 (cVk r n) 0) :=
 (dFx r n).trans
 ((by kernel_rfl))
theorem dJi : D90 r n bMr x0 r90 = D90 r n cOn x0 (K1 (cVk r n) 0) :=
 congrArg (fun k=>D90 r n cOn x0 k) (eFd r n)
theorem dYx : D90 r n bMr x0 r90 = (K1 (cVy r n) 0) :=
 (dJi r n).trans
 ((by kernel_rfl))
theorem dHt : D90 r n bOh x0 r90 = D90 r n cLg x0 (K1 (cVy r n) 0) :=
 congrArg (fun k=>D90 r n cLg x0 k) (dYx r n)
theorem eAu : D90 r n bOh x0 r90 = (K1 (cWx r n) 0) :=
 (dHt r n).trans
 ((by kernel_rfl))
theorem eJb : D90 r n c90 x0 r90 = D90 r n cDm x0 (K1 (cWx r n) 0) :=
 congrArg (fun k=>D90 r n cDm x0 k) (eAu r n)
theorem eYv : D90 r n c90 x0 r90 = (K1 (s90 r n) 0) :=
 (eJb r n).trans
 ((by kernel_rfl))
theorem eQt : aI CF r n 90 args h = s90 r n (bI args 0) h :=
 (by kernel_rfl : aI CF r n 90 args h = D90 r n c90 x0 r90 (aQ args) h).trans ((congrFun (congrFun (eYv r n) (aQ args)) h).trans (by kernel_rfl))
def s91 (r : RT) (n : Nat) (x0 : DV) (h0 : Hp) : aH :=
 bnd (bQ [(aE 0),(aE 0),(aE 0)] h0) fun v1 h1 =>
 bnd (r 147 [x0] h1) fun v2 h2 =>
 bnd (aF 0 v2 h2) fun v3 h3 =>
 bnd (aF 1 v2 h3) fun v4 h4 =>
 bnd (bQ [(.s []),(aE 0),(aE 0),(aE 0),.l0,.l0] h4) fun v5 h5 =>
 bnd (aJ 6 v5 v3 h5) fun _ h6 =>
  fM 5 v5 h6 fun v7 h7 =>
 bnd (bM v7 h7) fun v8 h8 =>
 bnd (aC .geq v4 v8 h8) fun v9 h9 =>
 aR v9 (
 bnd (aY [(aE 0),(aE 0),(aE 0)] [] h9) fun v10 h10 =>
 bnd (aJ 3 v1 v10 h10) fun _ h11 =>
 bnd (aK 3 v1 h11) fun v12 _ =>
 some (.t [v12,(.b false)],h11)) (
  fM 5 v5 h9 fun v13 h13 =>
 bnd (aG 3 v13 v4 h13) fun v14 h14 =>
 bnd (aK 3 v14 h14) fun v15 h15 =>
 bnd (aJ 3 v1 v15 h15) fun _ h16 =>
 bnd (aK 3 v1 h16) fun v17 _ =>
 some (.t [v17,(.b true)],h16))
theorem eQx : aI CF r n 91 args h = s91 r n (bI args 0) h :=
 by kernel_rfl
def s93 (r : RT) (n : Nat) (x0 : DV) (h0 : Hp) : aH :=
 fL 1 x0 h0 fun v1 h1 =>
 bnd (bM v1 h1) fun v2 h2 =>
 bnd (aC .eql v2 (aE 0) h2) fun v3 h3 =>
 aR v3 (
 some (.p0,h3)) (
  fL 1 x0 h3 fun v4 h4 =>
  fL 1 x0 h4 fun v5 h5 =>
 bnd (bM v5 h5) fun v6 h6 =>
 bnd (aC .sub v6 (aE 1) h6) fun v7 h7 =>
 bnd (aG 10 v4 v7 h7) fun v8 h8 =>
 some (v8,h8))
theorem eKo : aI CF r n 93 args h = s93 r n (bI args 0) h :=
 by kernel_rfl
def oE (r : RT) (n : Nat) (x0 x6 : DV) (h0 : Hp) : aH :=
 bnd (r 152 [x0,x6] h0) fun v1 h1 =>
 some ((aE 0),h1)
def cWk (r : RT) (n : Nat) (x0 x3 x5 x6 : DV) (h0 : Hp) : aH :=
 fM 0 x3 h0 fun v1 h1 =>
 bnd (aC .eql v1 (aE 1) h1) fun v2 h2 =>
 aR v2 (
  fL 1 x5 h2 fun v3 h3 =>
  oE r n x0 v3 h3) (
 bnd (aC .eql v1 (aE 3) h2) fun v4 h4 =>
 aR v4 (
   oE r n x0 (aE 2) h4) (
 bnd (aC .eql v1 (aE 4) h4) fun v5 h5 =>
 aR v5 (
    oE r n x0 (aE 4) h5) (
 bnd (aC .eql v1 (aE 5) h5) fun v6 h6 =>
 aR v6 (
 bnd (aV x0 h6) fun v7 h7 =>
 bnd (aB 1 v7 h7) fun v8 h8 =>
 bnd (aA v8 h8) fun v9 h9 =>
     fL 1 x0 h9 fun v10 h10 =>
 bnd (r 39 [v10] h10) fun v11 h11 =>
 cnd (aX (aA v8 h11) v9 && true) (
 bnd (aC .sub v11 (aE 1) h11) fun v12 h12 =>
 bnd (r 148 [v9,v12] h12) fun v13 h13 =>
 bnd (aF 0 v13 h13) fun v14 h14 =>
 bnd (aF 1 v13 h14) fun v15 h15 =>
 bnd (aC .neq v15 (aE 0) h15) fun v16 h16 =>
 aR v16 (
 some (v15,h16)) (
      oE r n x0 v14 h16))) (
 bnd (aC .eql v1 (aE 6) h6) fun v17 h17 =>
 aR v17 (
      fM 1 x3 h17 fun v18 h18 =>
 bnd (r 149 [x0, v18] h18) fun v19 h19 =>
      oE r n x0 v19 h19) (
 bnd (aC .eql v1 (aE 7) h17) fun v20 h20 =>
 aR v20 (
 bnd (aV x0 h20) fun v21 h21 =>
 bnd (aB 1 v21 h21) fun v22 h22 =>
 bnd (aA v22 h22) fun v23 h23 =>
       fL 1 x0 h23 fun v24 h24 =>
 bnd (r 39 [v24] h24) fun v25 h25 =>
 cnd (aX (aA v22 h25) v23 && true) (
 bnd (aC .sub v25 (aE 1) h25) fun v26 h26 =>
 bnd (aB 1 x3 h26) fun v27 h27 =>
 bnd (aA v27 h27) fun v28 h28 =>
 cnd (aX (aA v27 h20) v28 && true) (
 bnd (r 150 [v23,v26,v28] h28) fun v29 h29 =>
       oE r n x0 v29 h29))) (
 bnd (aC .eql v1 (aE 8) h20) fun v30 h30 =>
 aR v30 (
        fL 1 x5 h30 fun v31 h31 =>
        fM 1 x3 h31 fun v32 h32 =>
 bnd (r 151 [x0,v31,v32] h32) fun v33 h33 =>
        oE r n x0 v33 h33) (
 bnd (aC .eql v1 (aE 9) h30) fun v34 h34 =>
 aR v34 (
 bnd (aV x0 h34) fun v35 h35 =>
 bnd (aB 0 v35 h35) fun v36 h36 =>
 bnd (aA v36 h36) fun v37 h37 =>
         fM 1 x3 h37 fun v38 h38 =>
 bnd (r 149 [x0,v38] h38) fun v39 h39 =>
 cnd (aX (aA v36 h39) v37 && true) (
 bnd (r 109 [v37,v39] h39) fun v40 h40 =>
 bnd (aF 0 v40 h40) fun v41 h41 =>
 bnd (aF 1 v40 h41) fun v42 h42 =>
         fL 0 x0 h42 fun v43 h43 =>
 bnd (r 63 [v43,v41] h43) fun v44 h44 =>
         oE r n x0 v44 h44)) (
         oE r n x0 x6 h34))))))))
def cMl (r : RT) (n : Nat) (x0 x3 x5 : DV) (h0 : Hp) : aH :=
 cWk r n x0 x3 x5 (aE 0) h0
def aSd (r : RT) (n : Nat) (x0 x3 : DV) (h0 : Hp) : aH :=
 fL 1 x0 h0 fun v1 h1 =>
 bnd (r 93 [v1] h1) fun v2 h2 =>
  cMl r n x0 x3 v2 h2
def s94 (r : RT) (n : Nat) (x0 x1 : DV) (h0 : Hp) : aH :=
 bnd (bZ x1 h0) fun v1 h1 =>
  aSd r n x0 v1 h1
abbrev c94 : Code:=cf Tryz.f94
abbrev bOd : Code:=cR c94
abbrev bPq : Code:=cR bOd
abbrev bOq : Code:=cR bPq
abbrev ePu : Code:=cR bOq
abbrev dTd : Code:=cL bOq
abbrev dSc : Code:=cL bPq
abbrev dQp : Code:=cL bOd
abbrev cVl : Code:=cL c94
abbrev r94 : K:=bE CF Tryz.f94
def D94 (r : RT) (n : Nat) (c : Code) (X : Nat → K) (k : K) : K:=aW CF r 102 n c X r94 k
theorem eFk : D94 r n ePu x0 r94 = (K2 (oE r n) 0 6) :=
 (by kernel_rfl)
theorem dMl : D94 r n bOq x0 r94 = D94 r n dTd x0 (K2 (oE r n) 0 6) :=
 congrArg (fun k=>D94 r n dTd x0 k) (eFk r n)
theorem eFb : D94 r n bOq x0 r94 = (K4 (cWk r n) 0 3 5 6) :=
 (dMl r n).trans
 ((by kernel_rfl))
theorem dCa : D94 r n bPq x0 r94 = D94 r n dSc x0 (K4 (cWk r n) 0 3 5 6) :=
 congrArg (fun k=>D94 r n dSc x0 k) (eFb r n)
theorem eCe : D94 r n bPq x0 r94 = (K3 (cMl r n) 0 3 5) :=
 (dCa r n).trans
 ((by kernel_rfl))
theorem dCo : D94 r n bOd x0 r94 = D94 r n dQp x0 (K3 (cMl r n) 0 3 5) :=
 congrArg (fun k=>D94 r n dQp x0 k) (eCe r n)
theorem eAm : D94 r n bOd x0 r94 = (K2 (aSd r n) 0 3) :=
 (dCo r n).trans
 ((by kernel_rfl))
theorem eTr : D94 r n c94 x0 r94 = D94 r n cVl x0 (K2 (aSd r n) 0 3) :=
 congrArg (fun k=>D94 r n cVl x0 k) (eAm r n)
theorem eVd (q0 : gP) : D94 r n cVl x0 (K2 q0 0 3) = fun (env : aZ) (h : Hp) =>
 bnd (bZ (env 1) h) fun v1 h1 =>
  q0 (env 0) v1 h1:=by kernel_rfl
theorem eDu : (fun (env : aZ) (h : Hp) =>
 bnd (bZ (env 1) h) fun v1 h1 =>
  aSd r n (env 0) v1 h1) = (K2 (s94 r n) 0 1):=by kernel_rfl
theorem eXd : D94 r n c94 x0 r94 = (K2 (s94 r n) 0 1) :=
 (eTr r n).trans
 ((eVd r n (aSd r n)).trans (eDu r n))
theorem eMk : aI CF r n 94 args h = s94 r n (bI args 0) (bI args 1) h :=
 (by kernel_rfl : aI CF r n 94 args h = D94 r n c94 x0 r94 (aQ args) h).trans ((congrFun (congrFun (eXd r n) (aQ args)) h).trans (by kernel_rfl))
def oI (r : RT) (n : Nat) (h0 : Hp) : aH :=
 some ((aE 0),h0)
def cMq (r : RT) (n : Nat) (x0 x3 x5 : DV) (h0 : Hp) : aH :=
 fM 0 x3 h0 fun v1 h1 =>
 bnd (aC .eql v1 (aE 10) h1) fun v2 h2 =>
 aR v2 (
 bnd (aV x0 h2) fun v3 h3 =>
 bnd (aB 1 v3 h3) fun v4 h4 =>
 bnd (aA v4 h4) fun v5 h5 =>
  fL 1 x0 h5 fun v6 h6 =>
 bnd (r 39 [v6] h6) fun v7 h7 =>
 cnd (aX (aA v4 h7) v5 && true) (
 bnd (aC .sub v7 (aE 1) h7) fun v8 h8 =>
 bnd (aB 1 x3 h8) fun v9 h9 =>
 bnd (aA v9 h9) fun v10 h10 =>
 cnd (aX (aA v9 h2) v10 && true) (
 bnd (r 154 [x0] h10) fun v11 h11 =>
 cnd (aX (aA v9 h11) v10 && (aX (aA v4 h11) v5 && true)) (
 bnd (r 153 [v5,v8,v10,v11] h11) fun v12 h12 =>
  oI r n h12)))) (
 bnd (aC .eql v1 (aE 11) h2) fun v13 h13 =>
 aR v13 (
   fL 0 x0 h13 fun v14 h14 =>
 bnd (r 41 [v14] h14) fun v15 h15 =>
 bnd (aV x5 h15) fun v16 h16 =>
 bnd (aB 1 v16 h16) fun v17 h17 =>
 bnd (aA v17 h17) fun v18 h18 =>
 cnd (aX (aA v17 h13) v18 && true) (
 bnd (mR [v15,v18] h18) fun v19 h19 =>
 bnd (aC .eql v19 (aE 0) h19) fun v20 h20 =>
 aR v20 (
    fL 0 x0 h20 fun v21 h21 =>
 bnd (r 41 [v21] h21) fun v22 h22 =>
 bnd (aV x5 h22) fun v23 h23 =>
 bnd (aB 1 v23 h23) fun v24 h24 =>
 bnd (aA v24 h24) fun v25 h25 =>
 cnd (aX (aA v24 h20) v25 && true) (
 bnd (aB 1 x3 h25) fun v26 h26 =>
 bnd (aA v26 h26) fun v27 h27 =>
 cnd (aX (aA v26 h20) v27 && true) (
 bnd (r 154 [x0] h27) fun v28 h28 =>
 cnd (aX (aA v26 h28) v27 && (aX (aA v24 h28) v25 && true)) (
 bnd (oB [v22,v25,v27,v28] h28) fun v29 h29 =>
    oI r n h29)))) (
    oI r n h20))) (
 bnd (aC .eql v1 (aE 12) h13) fun v30 h30 =>
 aR v30 (
 bnd (r 155 [x0] h30) fun v31 h31 =>
    oI r n h31) (
 bnd (aC .eql v1 (aE 13) h30) fun v32 h32 =>
 aR v32 (
 bnd (r 154 [x0] h32) fun v33 h33 =>
 bnd (r 152 [x0,v33] h33) fun v34 h34 =>
     oI r n h34) (
 bnd (aC .eql v1 (aE 16) h32) fun v35 h35 =>
 aR v35 (
 bnd (aK 3 x3 h35) fun v36 h36 =>
 bnd (r 156 [v36] h36) fun v37 h37 =>
 bnd (aV x5 h37) fun v38 h38 =>
 bnd (aB 3 v38 h38) fun v39 h39 =>
 bnd (aJ 1 v39 v37 h39) fun _ h40 =>
      oI r n h40) (
 bnd (aC .eql v1 (aE 17) h35) fun v41 h41 =>
 aR v41 (
 bnd (r 155 [x0] h41) fun v42 h42 =>
 bnd (aC .eql v42 (aE 2) h42) fun v43 h43 =>
 aR v43 (
        oI r n h43) (
 bnd (aC .eql v42 (aE 4) h43) fun v44 h44 =>
 aR v44 (
 bnd (aK 3 x3 h44) fun v45 h45 =>
 bnd (r 156 [v45] h45) fun v46 h46 =>
 bnd (aV x5 h46) fun v47 h47 =>
 bnd (aB 3 v47 h47) fun v48 h48 =>
 bnd (aJ 1 v48 v46 h48) fun _ h49 =>
         oI r n h49) (
         fL 3 x5 h44 fun v50 h50 =>
 bnd (aC .sub v50 (aE 1) h50) fun v51 h51 =>
 bnd (aV x5 h51) fun v52 h52 =>
 bnd (aB 3 v52 h52) fun v53 h53 =>
 bnd (aJ 1 v53 v51 h53) fun _ h54 =>
 bnd (r 152 [x0,v42] h54) fun v55 h55 =>
 bnd (r 157 [x0,(.s [109,117,115,116,66,101,66,111,111,108,101,97,110]),(aE 0)] h55) fun v56 h56 =>
 some (v56, h56)))) (
       oI r n h41))))))
def aRr (r : RT) (n : Nat) (x0 x3 : DV) (h0 : Hp) : aH :=
 fL 1 x0 h0 fun v1 h1 =>
 bnd (r 93 [v1] h1) fun v2 h2 =>
  cMq r n x0 x3 v2 h2
def s95 (r : RT) (n : Nat) (x0 x1 : DV) (h0 : Hp) : aH :=
 bnd (bZ x1 h0) fun v1 h1 =>
  aRr r n x0 v1 h1
abbrev c95 : Code:=cf Tryz.f95
abbrev bEs : Code:=cR c95
abbrev bFf : Code:=cR bEs
abbrev eUl : Code:=cR bFf
abbrev dSe : Code:=cL bFf
abbrev dSl : Code:=cL bEs
abbrev cWf : Code:=cL c95
abbrev r95 : K:=bE CF Tryz.f95
def D95 (r : RT) (n : Nat) (c : Code) (X : Nat → K) (k : K) : K:=aW CF r 101 n c X r95 k
theorem dUr : D95 r n eUl x0 r95 = (K0 (oI r n)) :=
 (by kernel_rfl)
theorem dJn : D95 r n bFf x0 r95 = D95 r n dSe x0 (K0 (oI r n)) :=
 congrArg (fun k=>D95 r n dSe x0 k) (dUr r n)
theorem dXm : D95 r n bFf x0 r95 = (K3 (cMq r n) 0 3 5) :=
 (dJn r n).trans
 ((by kernel_rfl))
theorem dAf : D95 r n bEs x0 r95 = D95 r n dSl x0 (K3 (cMq r n) 0 3 5) :=
 congrArg (fun k=>D95 r n dSl x0 k) (dXm r n)
theorem eAe : D95 r n bEs x0 r95 = (K2 (aRr r n) 0 3) :=
 (dAf r n).trans
 ((by kernel_rfl))
theorem eUb : D95 r n c95 x0 r95 = D95 r n cWf x0 (K2 (aRr r n) 0 3) :=
 congrArg (fun k=>D95 r n cWf x0 k) (eAe r n)
theorem eIq (q0 : gP) : D95 r n cWf x0 (K2 q0 0 3) = fun (env : aZ) (h : Hp) =>
 bnd (bZ (env 1) h) fun v1 h1 =>
  q0 (env 0) v1 h1:=by kernel_rfl
theorem eCq : (fun (env : aZ) (h : Hp) =>
 bnd (bZ (env 1) h) fun v1 h1 =>
  aRr r n (env 0) v1 h1) = (K2 (s95 r n) 0 1):=by kernel_rfl
theorem eVp : D95 r n c95 x0 r95 = (K2 (s95 r n) 0 1) :=
 (eUb r n).trans
 ((eIq r n (aRr r n)).trans (eCq r n))
theorem eNk : aI CF r n 95 args h = s95 r n (bI args 0) (bI args 1) h :=
 (by kernel_rfl : aI CF r n 95 args h = D95 r n c95 x0 r95 (aQ args) h).trans ((congrFun (congrFun (eVp r n) (aQ args)) h).trans (by kernel_rfl))
def s96 (r : RT) (n : Nat) (x0 x1 : DV) (h0 : Hp) : aH :=
 bnd (bZ x1 h0) fun v1 h1 =>
  fM 0 v1 h1 fun v2 h2 =>
 bnd (aC .eql v2 (aE 18) h2) fun v3 h3 =>
 aR v3 (
 bnd (aK 3 v1 h3) fun v4 h4 =>
 bnd (r 158 [x0,v4] h4) fun v5 h5 =>
 some (v5,h5)) (
 bnd (aC .eql v2 (aE 14) h3) fun v6 h6 =>
 aR v6 (
   fM 1 v1 h6 fun v7 h7 =>
 bnd (r 149 [x0,v7] h7) fun v8 h8 =>
 bnd (aB 2 v1 h8) fun v9 h9 =>
 bnd (aA v9 h9) fun v10 h10 =>
 cnd (aX (aA v9 h6) v10 && true) (
 bnd (aV x0 h10) fun v11 h11 =>
 bnd (aB 0 v11 h11) fun v12 h12 =>
 bnd (aA v12 h12) fun v13 h13 =>
 cnd (aX (aA v12 h6) v13 && true) (
 bnd (aB 2 v1 h13) fun v14 h14 =>
 bnd (aA v14 h14) fun v15 h15 =>
 cnd (aX (aA v14 h6) v15 && true) (
 bnd (r 161 [x0,v15] h15) fun v16 h16 =>
 cnd (aX (aA v12 h16) v13 && (aX (aA v9 h16) v10 && true)) (
 bnd (r 160 [v13,v16] h16) fun v17 h17 =>
 cnd (aX (aA v9 h17) v10 && true) (
 bnd (r 159 [x0,v8,v10,v17] h17) fun v18 h18 =>
 some (v18,h18))))))) (
 bnd (aC .eql v2 (aE 15) h6) fun v19 h19 =>
 aR v19 (
    fM 1 v1 h19 fun v20 h20 =>
 bnd (r 149 [x0,v20] h20) fun v21 h21 =>
 bnd (aB 2 v1 h21) fun v22 h22 =>
 bnd (aA v22 h22) fun v23 h23 =>
 cnd (aX (aA v22 h19) v23 && true) (
 bnd (aV x0 h23) fun v24 h24 =>
 bnd (aB 0 v24 h24) fun v25 h25 =>
 bnd (aA v25 h25) fun v26 h26 =>
 cnd (aX (aA v25 h19) v26 && true) (
 bnd (aV x0 h26) fun v27 h27 =>
 bnd (aB 1 v27 h27) fun v28 h28 =>
 bnd (aA v28 h28) fun v29 h29 =>
 cnd (aX (aA v28 h19) v29 && true) (
 bnd (r 93 [v29] h29) fun v30 h30 =>
 cnd (aX (aA v25 h30) v26 && (aX (aA v22 h30) v23 && true)) (
    fL 0 v30 h30 fun v31 h31 =>
 bnd (r 151 [x0,v31,(aE 6)] h31) fun v32 h32 =>
 cnd (aX (aA v25 h32) v26 && (aX (aA v22 h32) v23 && true)) (
 bnd (r 110 [v26,v32] h32) fun v33 h33 =>
 cnd (aX (aA v22 h33) v23 && true) (
 bnd (r 159 [x0,v21,v23,v33] h33) fun v34 h34 =>
 some (v34,h34)))))))) (
 bnd (aC .eql v2 (aE 19) h19) fun v35 h35 =>
 aR v35 (
 bnd (r 155 [x0] h35) fun v36 h36 =>
 bnd (r 162 [x0,v36] h36) fun v37 h37 =>
 some (v37,h37)) (
 bnd (r 155 [x0] h35) fun v38 h38 =>
 bnd (r 163 [x0,v38] h38) fun v39 h39 =>
 some (v39,h39)))))
theorem eTj : aI CF r n 96 args h = s96 r n (bI args 0) (bI args 1) h :=
 by kernel_rfl
def s97 (r : RT) (n : Nat) (x0 x1 x2 : DV) (h0 : Hp) : aH :=
 bnd (r 41 [x0] h0) fun v1 h1 =>
 bnd (aWf [v1,x1] h1) fun v2 h2 =>
 bnd (eQ .not v2 h2) fun v3 h3 =>
 aR v3 (
 some ((.s [63]),h3)) (
 bnd (r 164 [x0,x1] h3) fun v4 h4 =>
 bnd (aF 0 v4 h4) fun v5 h5 =>
 bnd (aF 1 v4 h5) fun v6 h6 =>
 aR v6 (
 bnd (aDa [v5] h6) fun v7 h7 =>
 some (v7,h7)) (
 bnd (isQ [v1,x1] h6) fun v8 h8 =>
 bnd (eQ .not v8 h8) fun v9 h9 =>
 aR v9 (
 bnd (r 166 [x1] h9) fun v10 h10 =>
 some (v10,h10)) (
 bnd (r 160 [x0,x1] h9) fun v11 h11 =>
 bnd (r 109 [x0,x1] h11) fun v12 h12 =>
 bnd (aF 0 v12 h12) fun v13 h13 =>
 bnd (aF 1 v12 h13) fun v14 h14 =>
 aR v14 (
 bnd (r 26 [x0,(aE 11)] h14) fun v15 h15 =>
 bnd (aC .eql v11 v15 h15) fun v16 h16 =>
 aR v16 (
 bnd (dX .add (.s [35]) v13 h16) fun v17 h17 =>
 some (v17,h17)) (
 bnd (aEj [v13,(.s [39]),(.s [39,39])] h16) fun v18 h18 =>
 bnd (dX .add (.s [39]) v18 h18) fun v19 h19 =>
 bnd (dX .add v19 (.s [39]) h19) fun v20 h20 =>
 some (v20,h20))) (
 bnd (r 26 [x0,(aE 9)] h14) fun v21 h21 =>
 bnd (aC .eql v11 v21 h21) fun v22 h22 =>
 aR v22 (
 bnd (r 168 [x0,x1,x2] h22) fun v23 h23 =>
 some (v23,h23)) (
 bnd (r 169 [x0,x1] h22) fun v24 h24 =>
 bnd (aC .geq v24 (aE 0) h24) fun v25 h25 =>
 aR v25 (
 bnd (r 170 [x0,x1] h25) fun v26 h26 =>
 some (v26,h26)) (
 bnd (r 170 [x0,v11] h25) fun v27 h27 =>
 bnd (dX .neq v27 (.s []) h27) fun v28 h28 =>
 bnd (gD v28 true (some (v27,h28)) h28) fun v29 h29 =>
 bnd (gD v28 true (cT v29 (aE 0) h29) h29) fun v30 h30 =>
 bnd (gD v28 true (r 171 [(.s [65,69,73,79,85]),v30] h30) h30) fun v31 h31 =>
 bnd (gD v28 true (aC .geq v31 (aE 0) h31) h31) fun v32 h32 =>
 bnd (aN v28 v32 (.b false) h32) fun v33 h33 =>
 aR v33 (
 bnd (dX .add (.s [97,110,32]) v27 h33) fun v34 h34 =>
 some (v34,h34)) (
 bnd (dX .add (.s [97,32]) v27 h33) fun v35 h35 =>
 some (v35,h35))))))))
theorem ePw : aI CF r n 97 args h = s97 r n (bI args 0) (bI args 1) (bI args 2) h :=
 by kernel_rfl
end Go.Dd

namespace Go.Dd
open Go.Proofs
variable (r : RT) (n : Nat) (args : List DV) (h : Hp)
def fA (r : RT) (n : Nat) (h0 : Hp) : aH :=
 some ((.i .i64 (Int.negSucc 0)),h0)
def bJm (r : RT) (n : Nat) (kk4 : dG) (x0 x1 x7 x8 : DV) (h0 : Hp) : aH :=
 bnd (aC .lss x8 x7 h0) fun v1 h1 =>
 aR v1 (
 bnd (aG 1 x0 x8 h1) fun v2 h2 =>
 bnd (aA v2 h2) fun v3 h3 =>
 bnd (iA CF r x1 [v3] h3) fun v4 h4 =>
 aR v4 (
 some (x8,h4)) (
 bnd (aC .add x8 (aE 1) h4) fun v5 h5 =>
    kk4 x0 x1 x7 v5 h5)) (
      fA r n h1)
def yW (r : RT) (n : Nat) (m : Nat) : dG :=
 Nat.rec (motive:=fun _=>dG) (fun _ _ _ _ _=>none) (fun _ ih=>bJm r n ih) m
def cCc (r : RT) (n : Nat) : dG:=yW r n n
def aYv (r : RT) (n : Nat) (x0 x1 x7 x8 : DV) (h0 : Hp) : aH :=
 cCc r n x0 x1 x7 x8 h0
def bAs (r : RT) (n : Nat) (x0 x1 : DV) (h0 : Hp) : aH :=
 bnd (bM x0 h0) fun v1 h1 =>
  aYv r n x0 x1 v1 (aE 0) h1
def s101 (r : RT) (n : Nat) (x0 x1 : DV) (h0 : Hp) : aH :=
 bAs r n x0 x1 h0
abbrev c101 : Code:=cf Tryz.f101
abbrev aMc : Code:=cR c101
abbrev dWs : Code:=cR aMc
abbrev aAk : Code:=cL aMc
abbrev bBs : Code:=cR aAk
abbrev aPe : Code:=cL bBs
abbrev qP : Code:=cL aPe
abbrev cHu : Code:=cL aAk
abbrev cCw : Code:=cL c101
abbrev r101 : K:=bE CF Tryz.f101
def D101 (r : RT) (n : Nat) (c : Code) (X : Nat → K) (k : K) : K:=aW CF r 19 n c X r101 k
theorem dHm : D101 r n dWs x0 r101 = (K0 (fA r n)) :=
 (by kernel_rfl)
theorem cWp (kk4 : dG) : D101 r n qP (xs x0 0 (K0 (fA r n))) (K4 kk4 0 1 7 8) = (K4 (bJm r n kk4) 0 1 7 8) :=
 (by kernel_rfl)
theorem cRu (m : Nat) : aM (fun kk=>D101 r n qP (xs x0 0 (K0 (fA r n))) kk) m = (K4 (yW r n m) 0 1 7 8):=by
 induction m with
 | zero=>exact (by kernel_rfl : aM (fun kk=>D101 r n qP (xs x0 0 (K0 (fA r n))) kk) 0 = (K4 (yW r n 0) 0 1 7 8))
 | succ m ih =>
  refine (by kernel_rfl : aM (fun kk=>D101 r n qP (xs x0 0 (K0 (fA r n))) kk) (m + 1) = D101 r n qP (xs x0 0 (K0 (fA r n))) (aM (fun kk=>D101 r n qP (xs x0 0 (K0 (fA r n))) kk) m)).trans ?_
  rw [ih]
  exact (cWp r n (yW r n m)).trans (by kernel_rfl)
theorem dPh : D101 r n aPe (xs x0 0 (K0 (fA r n))) (K0 (fA r n)) = (K4 (cCc r n) 0 1 7 8) :=
 (by kernel_rfl : D101 r n aPe (xs x0 0 (K0 (fA r n))) (K0 (fA r n)) = aM (fun kk=>D101 r n qP (xs x0 0 (K0 (fA r n))) kk) n).trans ((cRu r n n).trans (by kernel_rfl))
theorem dAb : D101 r n bBs x0 (K0 (fA r n)) = (K4 (aYv r n) 0 1 7 8) :=
 (by kernel_rfl : D101 r n bBs x0 (K0 (fA r n)) = D101 r n aPe (xs x0 0 (K0 (fA r n))) (K0 (fA r n))).trans
 ((dPh r n).trans (by kernel_rfl))
theorem cEz : D101 r n aMc x0 r101 = D101 r n aAk x0 (K0 (fA r n)) :=
 congrArg (fun k=>D101 r n aAk x0 k) (dHm r n)
theorem cKj : D101 r n aAk x0 (K0 (fA r n)) = D101 r n cHu x0 (K4 (aYv r n) 0 1 7 8) :=
 congrArg (fun k=>D101 r n cHu x0 k) (dAb r n)
theorem dBi : D101 r n aMc x0 r101 = (K2 (bAs r n) 0 1) :=
 (cEz r n).trans
 ((cKj r n).trans
 ((by kernel_rfl)))
theorem dYu : D101 r n c101 x0 r101 = D101 r n cCw x0 (K2 (bAs r n) 0 1) :=
 congrArg (fun k=>D101 r n cCw x0 k) (dBi r n)
theorem eUn : D101 r n c101 x0 r101 = (K2 (s101 r n) 0 1) :=
 (dYu r n).trans
 ((by kernel_rfl))
theorem eFn : aI CF r n 101 args h = s101 r n (bI args 0) (bI args 1) h :=
 (by kernel_rfl : aI CF r n 101 args h = D101 r n c101 x0 r101 (aQ args) h).trans ((congrFun (congrFun (eUn r n) (aQ args)) h).trans (by kernel_rfl))
def s108 (r : RT) (n : Nat) (x0 x1 x2 : DV) (h0 : Hp) : aH :=
 fL 0 x0 h0 fun v1 h1 =>
 bnd (bTq [v1,x1,x2] h1) fun v2 h2 =>
 bnd (aF 0 v2 h2) fun v3 h3 =>
 bnd (aF 1 v2 h3) fun v4 h4 =>
 some (v3,h4)
theorem dZr : aI CF r n 108 args h = s108 r n (bI args 0) (bI args 1) (bI args 2) h :=
 by kernel_rfl
def eK (r : RT) (n : Nat) (x7 : DV) (h0 : Hp) : aH :=
 bnd (nG x7 h0) fun v1 h1 =>
 some (.t [v1,(.b true)],h1)
def aLj (r : RT) (n : Nat) (kk7 : cN) (x0 x1 x7 x48 x49 : DV) (h0 : Hp) : aH :=
 bnd (aC .lss x49 x48 h0) fun v1 h1 =>
 aR v1 (
 bnd (r 108 [x0,x1,x49] h1) fun v2 h2 =>
 bnd (cV .u8 v2 h2) fun v3 h3 =>
 bnd (aS [(.i .u8 (Int.ofNat 0))] 1 [(0,1,v3)] h3) fun v4 h4 =>
 bnd (bH 1 1 x7 v4 h4) fun v5 h5 =>
 bnd (aC .add x49 (aE 1) h5) fun v6 h6 =>
      kk7 x0 x1 v5 x48 v6 h6) (
      eK r n x7 h1)
def xK (r : RT) (n : Nat) (m : Nat) : cN :=
 Nat.rec (motive:=fun _=>cN) (fun _ _ _ _ _ _=>none) (fun _ ih=>aLj r n ih) m
def cUl (r : RT) (n : Nat) : cN:=xK r n n
def aXc (r : RT) (n : Nat) (x0 x1 x7 x48 x49 : DV) (h0 : Hp) : aH :=
 cUl r n x0 x1 x7 x48 x49 h0
def bAw (r : RT) (n : Nat) (x0 x1 x7 : DV) (h0 : Hp) : aH :=
 fL 0 x0 h0 fun v1 h1 =>
 bnd (oN [v1,x1] h1) fun v2 h2 =>
  aXc r n x0 x1 x7 v2 (aE 0) h2
def bDp (r : RT) (n : Nat) (x0 x1 : DV) (h0 : Hp) : aH :=
 bAw r n x0 x1 .l0 h0
def bAr (r : RT) (n : Nat) (x0 x1 x6 : DV) (h0 : Hp) : aH :=
 fL 0 x0 h0 fun v1 h1 =>
 bnd (isQ [v1,x1] h1) fun v2 h2 =>
 bnd (eQ .not v2 h2) fun v3 h3 =>
 bnd (gD v3 false (some (x6,h3)) h3) fun v4 h4 =>
 bnd (gD v3 false (some (x0,h4)) h4) fun v5 h5 =>
 bnd (gD v3 false (r 26 [v5,(aE 10)] h5) h5) fun v6 h6 =>
 bnd (gD v3 false (aC .neq v4 v6 h6) h6) fun v7 h7 =>
 bnd (gD v3 false (some (v7,h7)) h7) fun v8 h8 =>
 bnd (gD v8 true (some (x6,h8)) h8) fun v9 h9 =>
 bnd (gD v8 true (some (x0,h9)) h9) fun v10 h10 =>
 bnd (gD v8 true (r 26 [v10,(aE 11)] h10) h10) fun v11 h11 =>
 bnd (gD v8 true (aC .neq v9 v11 h11) h11) fun v12 h12 =>
 bnd (gD v3 false (aN v8 v12 (.b false) h12) h12) fun v13 h13 =>
 bnd (aN v3 (.b true) v13 h13) fun v14 h14 =>
 bnd (gD v14 false (some (x0,h14)) h14) fun v15 h15 =>
 bnd (gD v14 false (aV v15 h15) h15) fun v16 h16 =>
 bnd (gD v14 false (aB 0 v16 h16) h16) fun v17 h17 =>
 bnd (gD v14 false (aA v17 h17) h17) fun v18 h18 =>
 bnd (gD v14 false (some (x1,h18)) h18) fun v19 h19 =>
 bnd (gD v14 false (mR [v18,v19] h19) h19) fun v20 h20 =>
 bnd (gD v14 false (aC .neq v20 (aE 2) h20) h20) fun v21 h21 =>
 bnd (aN v14 (.b true) v21 h21) fun v22 h22 =>
 aR v22 (
 some (.t [(.s []),(.b false)],h22)) (
  bDp r n x0 x1 h22)
def bDh (r : RT) (n : Nat) (x0 x1 : DV) (h0 : Hp) : aH :=
 fL 0 x0 h0 fun v1 h1 =>
 bnd (qL [v1,x1] h1) fun v2 h2 =>
  bAr r n x0 x1 v2 h2
def s109 (r : RT) (n : Nat) (x0 x1 : DV) (h0 : Hp) : aH :=
 bDh r n x0 x1 h0
abbrev c109 : Code:=cf Tryz.f109
abbrev aIh : Code:=cR c109
abbrev aMf : Code:=cR aIh
abbrev aHz : Code:=cR aMf
abbrev aKs : Code:=cR aHz
abbrev dZz : Code:=cR aKs
abbrev aAz : Code:=cL aKs
abbrev bEp : Code:=cR aAz
abbrev aPp : Code:=cL bEp
abbrev oJ : Code:=cL aPp
abbrev bIr : Code:=cL aAz
abbrev bFp : Code:=cL aHz
abbrev bKj : Code:=cL aMf
abbrev bMx : Code:=cL aIh
abbrev bQm : Code:=cL c109
abbrev r109 : K:=bE CF Tryz.f109
def D109 (r : RT) (n : Nat) (c : Code) (X : Nat → K) (k : K) : K:=aW CF r 63 n c X r109 k
theorem dAs : D109 r n dZz x0 r109 = (K1 (eK r n) 7) :=
 (by kernel_rfl)
theorem cFj (kk7 : cN) (q0 : TT1) : D109 r n oJ (xs x0 0 (K1 q0 7)) (K5 kk7 0 1 7 48 49) = fun (env : aZ) (h : Hp) =>
 bnd (aC .lss (env 49) (env 48) h) fun v1 h1 =>
 aR v1 (
 bnd (r 108 [(env 0),(env 1),(env 49)] h1) fun v2 h2 =>
 bnd (cV .u8 v2 h2) fun v3 h3 =>
 bnd (aS [(.i .u8 (Int.ofNat 0))] 1 [(0,1,v3)] h3) fun v4 h4 =>
 bnd (bH 1 1 (env 7) v4 h4) fun v5 h5 =>
 bnd (aC .add (env 49) (aE 1) h5) fun v6 h6 =>
      kk7 (env 0) (env 1) v5 (env 48) v6 h6) (
      q0 (env 7) h1):=by kernel_rfl
theorem bSj (kk7 : cN) : (fun (env : aZ) (h : Hp) =>
 bnd (aC .lss (env 49) (env 48) h) fun v1 h1 =>
 aR v1 (
 bnd (r 108 [(env 0),(env 1),(env 49)] h1) fun v2 h2 =>
 bnd (cV .u8 v2 h2) fun v3 h3 =>
 bnd (aS [(.i .u8 (Int.ofNat 0))] 1 [(0,1,v3)] h3) fun v4 h4 =>
 bnd (bH 1 1 (env 7) v4 h4) fun v5 h5 =>
 bnd (aC .add (env 49) (aE 1) h5) fun v6 h6 =>
      kk7 (env 0) (env 1) v5 (env 48) v6 h6) (
      eK r n (env 7) h1)) = (K5 (aLj r n kk7) 0 1 7 48 49):=by kernel_rfl
theorem cCi (kk7 : cN) : D109 r n oJ (xs x0 0 (K1 (eK r n) 7)) (K5 kk7 0 1 7 48 49) = (K5 (aLj r n kk7) 0 1 7 48 49) :=
 (cFj r n kk7 (eK r n)).trans (bSj r n kk7)
theorem bYe (m : Nat) : aM (fun kk=>D109 r n oJ (xs x0 0 (K1 (eK r n) 7)) kk) m = (K5 (xK r n m) 0 1 7 48 49):=by
 induction m with
 | zero=>exact (by kernel_rfl : aM (fun kk=>D109 r n oJ (xs x0 0 (K1 (eK r n) 7)) kk) 0 = (K5 (xK r n 0) 0 1 7 48 49))
 | succ m ih =>
  refine (by kernel_rfl : aM (fun kk=>D109 r n oJ (xs x0 0 (K1 (eK r n) 7)) kk) (m + 1) = D109 r n oJ (xs x0 0 (K1 (eK r n) 7)) (aM (fun kk=>D109 r n oJ (xs x0 0 (K1 (eK r n) 7)) kk) m)).trans ?_
  rw [ih]
  exact (cCi r n (xK r n m)).trans (by kernel_rfl)
theorem dMb : D109 r n aPp (xs x0 0 (K1 (eK r n) 7)) (K1 (eK r n) 7) = (K5 (cUl r n) 0 1 7 48 49) :=
 (by kernel_rfl : D109 r n aPp (xs x0 0 (K1 (eK r n) 7)) (K1 (eK r n) 7) = aM (fun kk=>D109 r n oJ (xs x0 0 (K1 (eK r n) 7)) kk) n).trans ((bYe r n n).trans (by kernel_rfl))
theorem dEj : D109 r n bEp x0 (K1 (eK r n) 7) = (K5 (aXc r n) 0 1 7 48 49) :=
 (by kernel_rfl : D109 r n bEp x0 (K1 (eK r n) 7) = D109 r n aPp (xs x0 0 (K1 (eK r n) 7)) (K1 (eK r n) 7)).trans
 ((dMb r n).trans (by kernel_rfl))
theorem cQr : D109 r n aKs x0 r109 = D109 r n aAz x0 (K1 (eK r n) 7) :=
 congrArg (fun k=>D109 r n aAz x0 k) (dAs r n)
theorem bYc : D109 r n aAz x0 (K1 (eK r n) 7) = D109 r n bIr x0 (K5 (aXc r n) 0 1 7 48 49) :=
 congrArg (fun k=>D109 r n bIr x0 k) (dEj r n)
theorem dLl : D109 r n aKs x0 r109 = (K3 (bAw r n) 0 1 7) :=
 (cQr r n).trans
 ((bYc r n).trans
 ((by kernel_rfl)))
theorem cKx : D109 r n aHz x0 r109 = D109 r n bFp x0 (K3 (bAw r n) 0 1 7) :=
 congrArg (fun k=>D109 r n bFp x0 k) (dLl r n)
theorem cYn : D109 r n aHz x0 r109 = (K2 (bDp r n) 0 1) :=
 (cKx r n).trans
 ((by kernel_rfl))
theorem cBf : D109 r n aMf x0 r109 = D109 r n bKj x0 (K2 (bDp r n) 0 1) :=
 congrArg (fun k=>D109 r n bKj x0 k) (cYn r n)
theorem dNy : D109 r n aMf x0 r109 = (K3 (bAr r n) 0 1 6) :=
 (cBf r n).trans
 ((by kernel_rfl))
theorem cBe : D109 r n aIh x0 r109 = D109 r n bMx x0 (K3 (bAr r n) 0 1 6) :=
 congrArg (fun k=>D109 r n bMx x0 k) (dNy r n)
theorem dIk : D109 r n aIh x0 r109 = (K2 (bDh r n) 0 1) :=
 (cBe r n).trans
 ((by kernel_rfl))
theorem dUc : D109 r n c109 x0 r109 = D109 r n bQm x0 (K2 (bDh r n) 0 1) :=
 congrArg (fun k=>D109 r n bQm x0 k) (dIk r n)
theorem ePd : D109 r n c109 x0 r109 = (K2 (s109 r n) 0 1) :=
 (dUc r n).trans
 ((by kernel_rfl))
theorem eDb : aI CF r n 109 args h = s109 r n (bI args 0) (bI args 1) h :=
 (by kernel_rfl : aI CF r n 109 args h = D109 r n c109 x0 r109 (aQ args) h).trans ((congrFun (congrFun (ePd r n) (aQ args)) h).trans (by kernel_rfl))
def s110 (r : RT) (n : Nat) (x0 x1 : DV) (h0 : Hp) : aH :=
 bnd (r 81 [x0,x1] h0) fun v1 h1 =>
 bnd (eQ .not v1 h1) fun v2 h2 =>
 aR v2 (
 some ((aE 0),h2)) (
 bnd (r 108 [x0,x1,(aE 1)] h2) fun v3 h3 =>
 some (v3,h3))
theorem eDe : aI CF r n 110 args h = s110 r n (bI args 0) (bI args 1) h :=
 by kernel_rfl
def bT (r : RT) (n : Nat) (x1 : DV) (h0 : Hp) : aH :=
 some (.t [x1,(.b false)],h0)
def gF (r : RT) (n : Nat) (kk3 : gP) (x0 x1 x6 : DV) (h0 : Hp) : aH :=
 bnd (fS x0 h0) fun v1 h1 =>
 bnd (aC .eql x6 v1 h1) fun v2 h2 =>
 aR v2 (
 some (.t [x1,(.b true)],h2)) (
 bnd (aC .add x6 (aE 1) h2) fun v3 h3 =>
  kk3 x0 v3 h3)
def bMk (r : RT) (n : Nat) (kk3 : gP) (kk9 : jS) (x0 x1 x6 : DV) (h0 : Hp) : aH :=
 bnd (fS x0 h0) fun v1 h1 =>
 bnd (aC .lss x6 v1 h1) fun v2 h2 =>
 bnd (gD v2 true (some (x0,h2)) h2) fun v3 h3 =>
 bnd (gD v2 true (some (x6,h3)) h3) fun v4 h4 =>
 bnd (gD v2 true (cT v3 v4 h4) h4) fun v5 h5 =>
 bnd (gD v2 true (aC .neq v5 (.i .u8 (Int.ofNat 34)) h5) h5) fun v6 h6 =>
 bnd (aN v2 v6 (.b false) h6) fun v7 h7 =>
 aR v7 (
 bnd (aC .add x6 (aE 1) h7) fun v8 h8 =>
      kk9 x0 x1 v8 h8) (
      gF r n kk3 x0 x1 x6 h7)
def vY (r : RT) (n : Nat) (kk3 : gP) (m : Nat) : jS :=
 Nat.rec (motive:=fun _=>jS) (fun _ _ _ _=>none) (fun _ ih=>bMk r n kk3 ih) m
def bXn (r : RT) (n : Nat) (kk3 : gP) : jS:=vY r n kk3 n
def aZe (r : RT) (n : Nat) (kk3 : gP) (x0 x1 x6 : DV) (h0 : Hp) : aH :=
 bXn r n kk3 x0 x1 x6 h0
def bDs (r : RT) (n : Nat) (kk3 : gP) (x0 x1 : DV) (h0 : Hp) : aH :=
 bnd (aC .add x1 (aE 1) h0) fun v1 h1 =>
  aZe r n kk3 x0 x1 v1 h1
def bAq (r : RT) (n : Nat) (kk3 : gP) (x0 x1 : DV) (h0 : Hp) : aH :=
 bnd (cT x0 x1 h0) fun v1 h1 =>
 bnd (aC .neq v1 (.i .u8 (Int.ofNat 34)) h1) fun v2 h2 =>
 aR v2 (
  bT r n x1 h2) (
  bDs r n kk3 x0 x1 h2)
def aXv (r : RT) (n : Nat) (kk3 : gP) (x0 x1 : DV) (h0 : Hp) : aH :=
 bnd (cT x0 x1 h0) fun v1 h1 =>
 bnd (r 181 [v1] h1) fun v2 h2 =>
 bnd (aC .eql v2 (aE 5) h2) fun v3 h3 =>
 aR v3 (
 bnd (aC .add x1 (aE 1) h3) fun v4 h4 =>
  kk3 x0 v4 h4) (
  bAq r n kk3 x0 x1 h3)
def bLu (r : RT) (n : Nat) (kk3 : gP) (x0 x1 : DV) (h0 : Hp) : aH :=
 bnd (fS x0 h0) fun v1 h1 =>
 bnd (aC .lss x1 v1 h1) fun v2 h2 =>
 aR v2 (
   aXv r n kk3 x0 x1 h2) (
   bT r n x1 h2)
def wC (r : RT) (n : Nat) (m : Nat) : gP :=
 Nat.rec (motive:=fun _=>gP) (fun _ _ _=>none) (fun _ ih=>bLu r n ih) m
def cMc (r : RT) (n : Nat) : gP:=wC r n n
def bCt (r : RT) (n : Nat) (x0 x1 : DV) (h0 : Hp) : aH :=
 cMc r n x0 x1 h0
def s112 (r : RT) (n : Nat) (x0 x1 : DV) (h0 : Hp) : aH :=
 bCt r n x0 x1 h0
abbrev c112 : Code:=cf Tryz.f112
abbrev aPa : Code:=cR c112
abbrev eDc : Code:=cR aPa
abbrev aMl : Code:=cL aPa
abbrev aHo : Code:=cL aMl
abbrev lR : Code:=cL aHo
abbrev bCf : Code:=cR lR
abbrev aHj : Code:=cL bCf
abbrev aJb : Code:=cR aHj
abbrev aNa : Code:=cR aJb
abbrev yO : Code:=cR aNa
abbrev dNo : Code:=cR yO
abbrev wB : Code:=cL yO
abbrev wH : Code:=cL wB
abbrev mZ : Code:=cL wH
abbrev bJn : Code:=cL aNa
abbrev bFw : Code:=cL aJb
abbrev bKy : Code:=cL aHj
abbrev bLn : Code:=cL lR
abbrev bMz : Code:=cL c112
abbrev r112 : K:=bE CF Tryz.f112
def D112 (r : RT) (n : Nat) (c : Code) (X : Nat → K) (k : K) : K:=aW CF r 44 n c X r112 k
theorem dCn : D112 r n eDc x0 r112 = (K1 (bT r n) 1) :=
 (by kernel_rfl)
theorem dDk (kk3 : gP) : D112 r n dNo (xs (xs x0 0 (K1 (bT r n) 1)) 1 (K2 kk3 0 1)) (K2 kk3 0 1) = (K3 (gF r n kk3) 0 1 6) :=
 (by kernel_rfl)
theorem cAd (kk3 : gP) (kk9 : jS) : D112 r n mZ (xs (xs (xs x0 0 (K1 (bT r n) 1)) 1 (K2 kk3 0 1)) 2 (K3 (gF r n kk3) 0 1 6)) (K3 kk9 0 1 6) = (K3 (bMk r n kk3 kk9) 0 1 6) :=
 (by kernel_rfl)
theorem cEb (kk3 : gP) (m : Nat) : aM (fun kk=>D112 r n mZ (xs (xs (xs x0 0 (K1 (bT r n) 1)) 1 (K2 kk3 0 1)) 2 (K3 (gF r n kk3) 0 1 6)) kk) m = (K3 (vY r n kk3 m) 0 1 6):=by
 induction m with
 | zero=>exact (by kernel_rfl : aM (fun kk=>D112 r n mZ (xs (xs (xs x0 0 (K1 (bT r n) 1)) 1 (K2 kk3 0 1)) 2 (K3 (gF r n kk3) 0 1 6)) kk) 0 = (K3 (vY r n kk3 0) 0 1 6))
 | succ m ih =>
  refine (by kernel_rfl : aM (fun kk=>D112 r n mZ (xs (xs (xs x0 0 (K1 (bT r n) 1)) 1 (K2 kk3 0 1)) 2 (K3 (gF r n kk3) 0 1 6)) kk) (m + 1) = D112 r n mZ (xs (xs (xs x0 0 (K1 (bT r n) 1)) 1 (K2 kk3 0 1)) 2 (K3 (gF r n kk3) 0 1 6)) (aM (fun kk=>D112 r n mZ (xs (xs (xs x0 0 (K1 (bT r n) 1)) 1 (K2 kk3 0 1)) 2 (K3 (gF r n kk3) 0 1 6)) kk) m)).trans ?_
  rw [ih]
  exact (cAd r n kk3 (vY r n kk3 m)).trans (by kernel_rfl)
theorem dCk (kk3 : gP) : D112 r n wH (xs (xs (xs x0 0 (K1 (bT r n) 1)) 1 (K2 kk3 0 1)) 2 (K3 (gF r n kk3) 0 1 6)) (K3 (gF r n kk3) 0 1 6) = (K3 (bXn r n kk3) 0 1 6) :=
 (by kernel_rfl : D112 r n wH (xs (xs (xs x0 0 (K1 (bT r n) 1)) 1 (K2 kk3 0 1)) 2 (K3 (gF r n kk3) 0 1 6)) (K3 (gF r n kk3) 0 1 6) = aM (fun kk=>D112 r n mZ (xs (xs (xs x0 0 (K1 (bT r n) 1)) 1 (K2 kk3 0 1)) 2 (K3 (gF r n kk3) 0 1 6)) kk) n).trans ((cEb r n kk3 n).trans (by kernel_rfl))
theorem cCh (kk3 : gP) : D112 r n yO (xs (xs x0 0 (K1 (bT r n) 1)) 1 (K2 kk3 0 1)) (K2 kk3 0 1) = D112 r n wB (xs (xs x0 0 (K1 (bT r n) 1)) 1 (K2 kk3 0 1)) (K3 (gF r n kk3) 0 1 6) :=
 congrArg (fun k=>D112 r n wB (xs (xs x0 0 (K1 (bT r n) 1)) 1 (K2 kk3 0 1)) k) (dDk r n kk3)
theorem dQf (kk3 : gP) : D112 r n yO (xs (xs x0 0 (K1 (bT r n) 1)) 1 (K2 kk3 0 1)) (K2 kk3 0 1) = (K3 (aZe r n kk3) 0 1 6) :=
 (cCh r n kk3).trans
 ((by kernel_rfl : D112 r n wB (xs (xs x0 0 (K1 (bT r n) 1)) 1 (K2 kk3 0 1)) (K3 (gF r n kk3) 0 1 6) = D112 r n wH (xs (xs (xs x0 0 (K1 (bT r n) 1)) 1 (K2 kk3 0 1)) 2 (K3 (gF r n kk3) 0 1 6)) (K3 (gF r n kk3) 0 1 6)).trans
 ((dCk r n kk3).trans (by kernel_rfl)))
theorem cQz (kk3 : gP) : D112 r n aNa (xs (xs x0 0 (K1 (bT r n) 1)) 1 (K2 kk3 0 1)) (K2 kk3 0 1) = D112 r n bJn (xs (xs x0 0 (K1 (bT r n) 1)) 1 (K2 kk3 0 1)) (K3 (aZe r n kk3) 0 1 6) :=
 congrArg (fun k=>D112 r n bJn (xs (xs x0 0 (K1 (bT r n) 1)) 1 (K2 kk3 0 1)) k) (dQf r n kk3)
theorem cXn (kk3 : gP) : D112 r n aNa (xs (xs x0 0 (K1 (bT r n) 1)) 1 (K2 kk3 0 1)) (K2 kk3 0 1) = (K2 (bDs r n kk3) 0 1) :=
 (cQz r n kk3).trans
 ((by kernel_rfl))
theorem cNq (kk3 : gP) : D112 r n aJb (xs (xs x0 0 (K1 (bT r n) 1)) 1 (K2 kk3 0 1)) (K2 kk3 0 1) = D112 r n bFw (xs (xs x0 0 (K1 (bT r n) 1)) 1 (K2 kk3 0 1)) (K2 (bDs r n kk3) 0 1) :=
 congrArg (fun k=>D112 r n bFw (xs (xs x0 0 (K1 (bT r n) 1)) 1 (K2 kk3 0 1)) k) (cXn r n kk3)
theorem dCz (kk3 : gP) : D112 r n aJb (xs (xs x0 0 (K1 (bT r n) 1)) 1 (K2 kk3 0 1)) (K2 kk3 0 1) = (K2 (bAq r n kk3) 0 1) :=
 (cNq r n kk3).trans
 ((by kernel_rfl))
theorem cNp (kk3 : gP) : D112 r n aHj (xs (xs x0 0 (K1 (bT r n) 1)) 1 (K2 kk3 0 1)) (K2 kk3 0 1) = D112 r n bKy (xs (xs x0 0 (K1 (bT r n) 1)) 1 (K2 kk3 0 1)) (K2 (bAq r n kk3) 0 1) :=
 congrArg (fun k=>D112 r n bKy (xs (xs x0 0 (K1 (bT r n) 1)) 1 (K2 kk3 0 1)) k) (dCz r n kk3)
theorem dDv (kk3 : gP) : D112 r n bCf (xs x0 0 (K1 (bT r n) 1)) (K2 kk3 0 1) = (K2 (aXv r n kk3) 0 1) :=
 (by kernel_rfl : D112 r n bCf (xs x0 0 (K1 (bT r n) 1)) (K2 kk3 0 1) = D112 r n aHj (xs (xs x0 0 (K1 (bT r n) 1)) 1 (K2 kk3 0 1)) (K2 kk3 0 1)).trans
 ((cNp r n kk3).trans
 ((by kernel_rfl)))
theorem cPd (kk3 : gP) : D112 r n lR (xs x0 0 (K1 (bT r n) 1)) (K2 kk3 0 1) = D112 r n bLn (xs x0 0 (K1 (bT r n) 1)) (K2 (aXv r n kk3) 0 1) :=
 congrArg (fun k=>D112 r n bLn (xs x0 0 (K1 (bT r n) 1)) k) (dDv r n kk3)
theorem cQa (kk3 : gP) : D112 r n lR (xs x0 0 (K1 (bT r n) 1)) (K2 kk3 0 1) = (K2 (bLu r n kk3) 0 1) :=
 (cPd r n kk3).trans
 ((by kernel_rfl))
theorem cFb (m : Nat) : aM (fun kk=>D112 r n lR (xs x0 0 (K1 (bT r n) 1)) kk) m = (K2 (wC r n m) 0 1):=by
 induction m with
 | zero=>exact (by kernel_rfl : aM (fun kk=>D112 r n lR (xs x0 0 (K1 (bT r n) 1)) kk) 0 = (K2 (wC r n 0) 0 1))
 | succ m ih =>
  refine (by kernel_rfl : aM (fun kk=>D112 r n lR (xs x0 0 (K1 (bT r n) 1)) kk) (m + 1) = D112 r n lR (xs x0 0 (K1 (bT r n) 1)) (aM (fun kk=>D112 r n lR (xs x0 0 (K1 (bT r n) 1)) kk) m)).trans ?_
  rw [ih]
  exact (cQa r n (wC r n m)).trans (by kernel_rfl)
theorem dCu : D112 r n aHo (xs x0 0 (K1 (bT r n) 1)) (K1 (bT r n) 1) = (K2 (cMc r n) 0 1) :=
 (by kernel_rfl : D112 r n aHo (xs x0 0 (K1 (bT r n) 1)) (K1 (bT r n) 1) = aM (fun kk=>D112 r n lR (xs x0 0 (K1 (bT r n) 1)) kk) n).trans ((cFb r n n).trans (by kernel_rfl))
theorem cUr : D112 r n aPa x0 r112 = D112 r n aMl x0 (K1 (bT r n) 1) :=
 congrArg (fun k=>D112 r n aMl x0 k) (dCn r n)
theorem dFa : D112 r n aPa x0 r112 = (K2 (bCt r n) 0 1) :=
 (cUr r n).trans
 ((by kernel_rfl : D112 r n aMl x0 (K1 (bT r n) 1) = D112 r n aHo (xs x0 0 (K1 (bT r n) 1)) (K1 (bT r n) 1)).trans
 ((dCu r n).trans (by kernel_rfl)))
theorem eFi : D112 r n c112 x0 r112 = D112 r n bMz x0 (K2 (bCt r n) 0 1) :=
 congrArg (fun k=>D112 r n bMz x0 k) (dFa r n)
theorem ePi : D112 r n c112 x0 r112 = (K2 (s112 r n) 0 1) :=
 (eFi r n).trans
 ((by kernel_rfl))
theorem eFh : aI CF r n 112 args h = s112 r n (bI args 0) (bI args 1) h :=
 (by kernel_rfl : aI CF r n 112 args h = D112 r n c112 x0 r112 (aQ args) h).trans ((congrFun (congrFun (ePi r n) (aQ args)) h).trans (by kernel_rfl))
end Go.Dd

namespace Go.Dd
open Go.Proofs
variable (r : RT) (n : Nat) (args : List DV) (h : Hp)
def gX (r : RT) (n : Nat) (x0 x1 x4 x7 x8 : DV) (h0 : Hp) : aH :=
 bnd (aC .eql x8 (aE 4) h0) fun v1 h1 =>
 aR v1 (
 bnd (aB 0 x7 h1) fun v2 h2 =>
 bnd (aJ 1 v2 (aE 10) h2) fun _ h3 =>
 bnd (aC .add x1 (aE 1) h3) fun v4 h4 =>
 bnd (iF x0 (some x1) (some v4) h4) fun v5 h5 =>
 bnd (aB 1 x7 h5) fun v6 h6 =>
 bnd (aJ 1 v6 v5 h6) fun _ h7 =>
 bnd (aK 4 x7 h7) fun v8 h8 =>
 bnd (aC .add x1 (aE 1) h8) fun v9 h9 =>
 bnd (aJ 4 x4 v8 h9) fun _ h10 =>
 bnd (aK 4 x4 h10) fun v11 _ =>
 some (.t [v11,v9,(aE 0)],h10)) (
 bnd (cT x0 x1 h1) fun v12 h12 =>
 bnd (aC .eql v12 (.i .u8 (Int.ofNat 39)) h12) fun v13 h13 =>
 aR v13 (
 bnd (aB 0 x7 h13) fun v14 h14 =>
 bnd (aJ 1 v14 (aE 5) h14) fun _ h15 =>
 bnd (aK 4 x7 h15) fun v16 h16 =>
 bnd (r 185 [x0,v16] h16) fun v17 h17 =>
 bnd (aF 0 v17 h17) fun v18 h18 =>
 bnd (aF 1 v17 h18) fun v19 h19 =>
 bnd (aF 2 v17 h19) fun v20 h20 =>
 bnd (aJ 4 x4 v18 h20) fun _ h21 =>
 bnd (aK 4 x4 h21) fun v22 _ =>
 some (.t [v22,v19,v20],h21)) (
 bnd (cT x0 x1 h13) fun v23 h23 =>
 bnd (aC .eql v23 (.i .u8 (Int.ofNat 35)) h23) fun v24 h24 =>
 aR v24 (
 bnd (aK 4 x7 h24) fun v25 h25 =>
 bnd (r 186 [x0,v25] h25) fun v26 h26 =>
 bnd (aF 0 v26 h26) fun v27 h27 =>
 bnd (aF 1 v26 h27) fun v28 h28 =>
 bnd (aF 2 v26 h28) fun v29 h29 =>
 bnd (aJ 4 x4 v27 h29) fun _ h30 =>
 bnd (aK 4 x4 h30) fun v31 _ =>
 some (.t [v31,v28,v29],h30)) (
 bnd (cT x0 x1 h24) fun v32 h32 =>
 bnd (aC .eql v32 (.i .u8 (Int.ofNat 58)) h32) fun v33 h33 =>
 bnd (gD v33 true (some (x1,h33)) h33) fun v34 h34 =>
 bnd (gD v33 true (aC .add v34 (aE 1) h34) h34) fun v35 h35 =>
 bnd (gD v33 true (some (x0,h35)) h35) fun v36 h36 =>
 bnd (gD v33 true (fS v36 h36) h36) fun v37 h37 =>
 bnd (gD v33 true (aC .lss v35 v37 h37) h37) fun v38 h38 =>
 bnd (aN v33 v38 (.b false) h38) fun v39 h39 =>
 bnd (gD v39 true (some (x0,h39)) h39) fun v40 h40 =>
 bnd (gD v39 true (some (x1,h40)) h40) fun v41 h41 =>
 bnd (gD v39 true (aC .add v41 (aE 1) h41) h41) fun v42 h42 =>
 bnd (gD v39 true (cT v40 v42 h42) h42) fun v43 h43 =>
 bnd (gD v39 true (aC .eql v43 (.i .u8 (Int.ofNat 61)) h43) h43) fun v44 h44 =>
 bnd (aN v39 v44 (.b false) h44) fun v45 h45 =>
 aR v45 (
 bnd (aB 0 x7 h45) fun v46 h46 =>
 bnd (aJ 1 v46 (aE 9) h46) fun _ h47 =>
 bnd (aK 4 x7 h47) fun v48 h48 =>
 bnd (aC .add x1 (aE 2) h48) fun v49 h49 =>
 bnd (aJ 4 x4 v48 h49) fun _ h50 =>
 bnd (aK 4 x4 h50) fun v51 _ =>
 some (.t [v51,v49,(aE 0)],h50)) (
 bnd (cT x0 x1 h45) fun v52 h52 =>
 bnd (aC .eql v52 (.i .u8 (Int.ofNat 58)) h52) fun v53 h53 =>
 bnd (gD v53 true (some (x0,h53)) h53) fun v54 h54 =>
 bnd (gD v53 true (some (x1,h54)) h54) fun v55 h55 =>
 bnd (gD v53 true (aC .add v55 (aE 1) h55) h55) fun v56 h56 =>
 bnd (gD v53 true (r 182 [v54,v56] h56) h56) fun v57 h57 =>
 bnd (gD v53 true (aC .eql v57 (aE 1) h57) h57) fun v58 h58 =>
 bnd (aN v53 v58 (.b false) h58) fun v59 h59 =>
 aR v59 (
 bnd (aC .add x1 (aE 1) h59) fun v60 h60 =>
 bnd (r 183 [x0,v60] h60) fun v61 h61 =>
 bnd (aC .sub v61 x1 h61) fun v62 h62 =>
 bnd (aC .sub v62 (aE 1) h62) fun v63 h63 =>
 bnd (aC .gtr v63 (aE 24) h63) fun v64 h64 =>
 aR v64 (
 bnd (aK 4 x7 h64) fun v65 h65 =>
 bnd (aJ 4 x4 v65 h65) fun _ h66 =>
 bnd (aK 4 x4 h66) fun v67 _ =>
 some (.t [v67,(aE 0),(aE 12)],h66)) (
 bnd (aB 0 x7 h64) fun v68 h68 =>
 bnd (aJ 1 v68 (aE 8) h68) fun _ h69 =>
 bnd (aC .add x1 (aE 1) h69) fun v70 h70 =>
 bnd (iF x0 (some v70) (some v61) h70) fun v71 h71 =>
 bnd (aB 1 x7 h71) fun v72 h72 =>
 bnd (aJ 1 v72 v71 h72) fun _ h73 =>
 bnd (aK 4 x7 h73) fun v74 h74 =>
 bnd (aJ 4 x4 v74 h74) fun _ h75 =>
 bnd (aK 4 x4 h75) fun v76 _ =>
 some (.t [v76,v61,(aE 0)],h75))) (
 bnd (aK 4 x7 h59) fun v77 h77 =>
 bnd (aJ 4 x4 v77 h77) fun _ h78 =>
 bnd (aK 4 x4 h78) fun v79 _ =>
 some (.t [v79,(aE 0),(aE 10)],h78))))))
def wN (r : RT) (n : Nat) (x0 x1 x4 x7 x11 : DV) (h0 : Hp) : aH :=
 bnd (iF x0 (some x1) (some x11) h0) fun v1 h1 =>
 bnd (aB 1 x7 h1) fun v2 h2 =>
 bnd (aJ 1 v2 v1 h2) fun _ h3 =>
 bnd (aK 4 x7 h3) fun v4 h4 =>
 bnd (aJ 4 x4 v4 h4) fun _ h5 =>
 bnd (aK 4 x4 h5) fun v6 _ =>
 some (.t [v6,x11,(aE 0)],h5)
def aJw (r : RT) (n : Nat) (x0 x1 x4 x7 x11 : DV) (h0 : Hp) : aH :=
 bnd (r 182 [x0,x11] h0) fun v1 h1 =>
 bnd (aC .eql v1 (aE 3) h1) fun v2 h2 =>
 aR v2 (
 bnd (aC .add x11 (aE 1) h2) fun v3 h3 =>
  wN r n x0 x1 x4 x7 v3 h3) (
  wN r n x0 x1 x4 x7 x11 h2)
def aZg (r : RT) (n : Nat) (x0 x1 x4 x7 : DV) (h0 : Hp) : aH :=
 bnd (aC .add x1 (aE 1) h0) fun v1 h1 =>
  aJw r n x0 x1 x4 x7 v1 h1
def cWo (r : RT) (n : Nat) (x0 x1 x4 x7 : DV) (h0 : Hp) : aH :=
 bnd (aB 0 x7 h0) fun v1 h1 =>
 bnd (aJ 1 v1 (aE 3) h1) fun _ h2 =>
  aZg r n x0 x1 x4 x7 h2
def bBb (r : RT) (n : Nat) (x0 x1 x4 x7 x8 x72 : DV) (h0 : Hp) : aH :=
 aR x72 (
  cWo r n x0 x1 x4 x7 h0) (
  gX r n x0 x1 x4 x7 x8 h0)
def jF (r : RT) (n : Nat) (x0 x1 x4 x7 x8 : DV) (h0 : Hp) : aH :=
 bnd (aC .eql x8 (aE 3) h0) fun v1 h1 =>
  bBb r n x0 x1 x4 x7 x8 v1 h1
def eG (r : RT) (n : Nat) (x1 x4 x7 : DV) (h0 : Hp) : aH :=
 bnd (aK 4 x7 h0) fun v1 h1 =>
 bnd (aJ 4 x4 v1 h1) fun _ h2 =>
 bnd (aK 4 x4 h2) fun v3 _ =>
 some (.t [v3,x1,(aE 0)],h2)
def aUi (r : RT) (n : Nat) (kk16 : dG) (x0 x1 x4 x7 : DV) (h0 : Hp) : aH :=
 bnd (r 182 [x0,x1] h0) fun v1 h1 =>
 bnd (aC .eql v1 (aE 2) h1) fun v2 h2 =>
 aR v2 (
 bnd (cT x0 x1 h2) fun v3 h3 =>
 bnd (aC .sub v3 (.i .u8 (Int.ofNat 48)) h3) fun v4 h4 =>
 bnd (cV .i64 v4 h4) fun v5 h5 =>
      fM 2 x7 h5 fun v6 h6 =>
 bnd (aC .sub (aE 1152921504606846976) v5 h6) fun v7 h7 =>
 bnd (aC .quo v7 (aE 10) h7) fun v8 h8 =>
 bnd (aC .gtr v6 v8 h8) fun v9 h9 =>
 aR v9 (
 bnd (aK 4 x7 h9) fun v10 h10 =>
 bnd (aJ 4 x4 v10 h10) fun _ h11 =>
 bnd (aK 4 x4 h11) fun v12 _ =>
 some (.t [v12,(aE 0),(aE 2)],h11)) (
    fM 2 x7 h9 fun v13 h13 =>
 bnd (aC .mul (aE 10) v13 h13) fun v14 h14 =>
 bnd (aC .add v14 v5 h14) fun v15 h15 =>
 bnd (aB 2 x7 h15) fun v16 h16 =>
 bnd (aJ 1 v16 v15 h16) fun _ h17 =>
 bnd (aC .add x1 (aE 1) h17) fun v18 h18 =>
    kk16 x0 v18 x4 x7 h18)) (
      eG r n x1 x4 x7 h2)
def rW (r : RT) (n : Nat) (m : Nat) : dG :=
 Nat.rec (motive:=fun _=>dG) (fun _ _ _ _ _=>none) (fun _ ih=>aUi r n ih) m
def bLy (r : RT) (n : Nat) : dG:=rW r n n
def aRa (r : RT) (n : Nat) (x0 x1 x4 x7 : DV) (h0 : Hp) : aH :=
 bLy r n x0 x1 x4 x7 h0
def bGj (r : RT) (n : Nat) (x0 x1 x4 x7 : DV) (h0 : Hp) : aH :=
 bnd (aB 0 x7 h0) fun v1 h1 =>
 bnd (aJ 1 v1 (aE 4) h1) fun _ h2 =>
  aRa r n x0 x1 x4 x7 h2
def aIs (r : RT) (n : Nat) (x0 x1 x4 x7 x8 x43 : DV) (h0 : Hp) : aH :=
 aR x43 (
  bGj r n x0 x1 x4 x7 h0) (
  jF r n x0 x1 x4 x7 x8 h0)
def gB (r : RT) (n : Nat) (x0 x1 x4 x7 x8 : DV) (h0 : Hp) : aH :=
 bnd (aC .eql x8 (aE 2) h0) fun v1 h1 =>
  aIs r n x0 x1 x4 x7 x8 v1 h1
def yV (r : RT) (n : Nat) (x0 x1 x4 x7 x9 : DV) (h0 : Hp) : aH :=
 bnd (iF x0 (some x1) (some x9) h0) fun v1 h1 =>
 bnd (aB 1 x7 h1) fun v2 h2 =>
 bnd (aJ 1 v2 v1 h2) fun _ h3 =>
 bnd (aK 4 x7 h3) fun v4 h4 =>
 bnd (aJ 4 x4 v4 h4) fun _ h5 =>
 bnd (aK 4 x4 h5) fun v6 _ =>
 some (.t [v6,x9,(aE 0)],h5)
def aQu (r : RT) (n : Nat) (x0 x1 x4 x7 x9 : DV) (h0 : Hp) : aH :=
 bnd (r 184 [x0,x9] h0) fun v1 h1 =>
 aR v1 (
 bnd (aB 0 x7 h1) fun v2 h2 =>
 bnd (aJ 1 v2 (aE 2) h2) fun _ h3 =>
 bnd (aC .add x9 (aE 1) h3) fun v4 h4 =>
  yV r n x0 x1 x4 x7 v4 h4) (
  yV r n x0 x1 x4 x7 x9 h1)
def aQz (r : RT) (n : Nat) (x0 x1 x4 x7 x9 : DV) (h0 : Hp) : aH :=
 bnd (aB 0 x7 h0) fun v1 h1 =>
 bnd (aJ 1 v1 (aE 1) h1) fun _ h2 =>
  aQu r n x0 x1 x4 x7 x9 h2
def aJj (r : RT) (n : Nat) (x0 x1 x4 x7 x9 : DV) (h0 : Hp) : aH :=
 bnd (aC .sub x9 x1 h0) fun v1 h1 =>
 bnd (aC .gtr v1 (aE 24) h1) fun v2 h2 =>
 aR v2 (
 bnd (aK 4 x7 h2) fun v3 h3 =>
 bnd (aJ 4 x4 v3 h3) fun _ h4 =>
 bnd (aK 4 x4 h4) fun v5 _ =>
 some (.t [v5,(aE 0),(aE 12)],h4)) (
  aQz r n x0 x1 x4 x7 x9 h2)
def bGm (r : RT) (n : Nat) (x0 x1 x4 x7 : DV) (h0 : Hp) : aH :=
 bnd (r 183 [x0,x1] h0) fun v1 h1 =>
  aJj r n x0 x1 x4 x7 v1 h1
def aKd (r : RT) (n : Nat) (x0 x1 x4 x7 x8 x19 : DV) (h0 : Hp) : aH :=
 aR x19 (
  bGm r n x0 x1 x4 x7 h0) (
  gB r n x0 x1 x4 x7 x8 h0)
def aYr (r : RT) (n : Nat) (x0 x1 x4 x7 x8 : DV) (h0 : Hp) : aH :=
 bnd (aC .eql x8 (aE 1) h0) fun v1 h1 =>
  aKd r n x0 x1 x4 x7 x8 v1 h1
def aCx (r : RT) (n : Nat) (x0 x1 x4 x7 : DV) (h0 : Hp) : aH :=
 bnd (r 182 [x0,x1] h0) fun v1 h1 =>
  aYr r n x0 x1 x4 x7 v1 h1
def tV (r : RT) (n : Nat) (x0 x1 x4 : DV) (h0 : Hp) : aH :=
 bnd (aY [(aE 0),(.s []),(aE 0),(aE 0)] [(3,1,x1)] h0) fun v1 h1 =>
 bnd (bQ [(aE 0),(.s []),(aE 0),(aE 0)] h1) fun v2 h2 =>
 bnd (aJ 4 v2 v1 h2) fun _ h3 =>
  aCx r n x0 x1 x4 v2 h3
def s113 (r : RT) (n : Nat) (x0 x1 : DV) (h0 : Hp) : aH :=
 bnd (bQ [(aE 0),(.s []),(aE 0),(aE 0)] h0) fun v1 h1 =>
  tV r n x0 x1 v1 h1
abbrev c113 : Code:=cf Tryz.f113
abbrev aPu : Code:=cR c113
abbrev aGy : Code:=cR aPu
abbrev aLl : Code:=cR aGy
abbrev aHu : Code:=cR aLl
abbrev aLo : Code:=cR aHu
abbrev dZt : Code:=cR aLo
abbrev aDq : Code:=cL aLo
abbrev aBg : Code:=cR aDq
abbrev zV : Code:=cL aBg
abbrev vW : Code:=cR zV
abbrev xO : Code:=cR vW
abbrev dDg : Code:=cR xO
abbrev bIk : Code:=cL xO
abbrev bNq : Code:=cL vW
abbrev bPm : Code:=cL zV
abbrev dEy : Code:=cR aBg
abbrev bIu : Code:=cL aDq
abbrev tE : Code:=cL aHu
abbrev rO : Code:=cR tE
abbrev rL : Code:=cL rO
abbrev yR : Code:=cR rL
abbrev cZd : Code:=cR yR
abbrev wM : Code:=cL yR
abbrev yA : Code:=cL wM
abbrev mY : Code:=cL yA
abbrev bGs : Code:=cL rL
abbrev dBr : Code:=cR rO
abbrev bJy : Code:=cL tE
abbrev rE : Code:=cL aLl
abbrev sD : Code:=cR rE
abbrev rT : Code:=cL sD
abbrev yE : Code:=cR rT
abbrev wX : Code:=cR yE
abbrev yM : Code:=cR wX
abbrev dLp : Code:=cR yM
abbrev bJh : Code:=cL yM
abbrev bGz : Code:=cL wX
abbrev bGk : Code:=cL yE
abbrev bMc : Code:=cL rT
abbrev dMg : Code:=cR sD
abbrev bHz : Code:=cL rE
abbrev bLj : Code:=cL aGy
abbrev aLt : Code:=cL aPu
abbrev aKw : Code:=cL c113
abbrev r113 : K:=bE CF Tryz.f113
def D113 (r : RT) (n : Nat) (c : Code) (X : Nat → K) (k : K) : K:=aW CF r 175 n c X r113 k
theorem dJz : D113 r n dZt x0 r113 = (K5 (gX r n) 0 1 4 7 8) :=
 (by kernel_rfl)
theorem cQm : D113 r n dDg x0 (K5 (gX r n) 0 1 4 7 8) = (K5 (wN r n) 0 1 4 7 11) :=
 (by kernel_rfl)
theorem bSw : D113 r n xO x0 (K5 (gX r n) 0 1 4 7 8) = D113 r n bIk x0 (K5 (wN r n) 0 1 4 7 11) :=
 congrArg (fun k=>D113 r n bIk x0 k) (cQm r n)
theorem cWn : D113 r n xO x0 (K5 (gX r n) 0 1 4 7 8) = (K5 (aJw r n) 0 1 4 7 11) :=
 (bSw r n).trans
 ((by kernel_rfl))
theorem cXd : D113 r n vW x0 (K5 (gX r n) 0 1 4 7 8) = D113 r n bNq x0 (K5 (aJw r n) 0 1 4 7 11) :=
 congrArg (fun k=>D113 r n bNq x0 k) (cWn r n)
theorem cXw : D113 r n vW x0 (K5 (gX r n) 0 1 4 7 8) = (K4 (aZg r n) 0 1 4 7) :=
 (cXd r n).trans
 ((by kernel_rfl))
theorem cDy : D113 r n zV x0 (K5 (gX r n) 0 1 4 7 8) = D113 r n bPm x0 (K4 (aZg r n) 0 1 4 7) :=
 congrArg (fun k=>D113 r n bPm x0 k) (cXw r n)
theorem dHb : D113 r n zV x0 (K5 (gX r n) 0 1 4 7 8) = (K4 (cWo r n) 0 1 4 7) :=
 (cDy r n).trans
 ((by kernel_rfl))
theorem dJw : D113 r n aBg x0 (K5 (gX r n) 0 1 4 7 8) = (K6 (bBb r n) 0 1 4 7 8 72) :=
 (by kernel_rfl : D113 r n aBg x0 (K5 (gX r n) 0 1 4 7 8) = (fun (env : aZ) (h : Hp)=>aR (opr env (cC aBg)) (D113 r n zV x0 (K5 (gX r n) 0 1 4 7 8) env h) (D113 r n dEy x0 (K5 (gX r n) 0 1 4 7 8) env h))).trans (by rw [dHb r n]; kernel_rfl)
theorem bXh : D113 r n aLo x0 r113 = D113 r n aDq x0 (K5 (gX r n) 0 1 4 7 8) :=
 congrArg (fun k=>D113 r n aDq x0 k) (dJz r n)
theorem bYt : D113 r n aDq x0 (K5 (gX r n) 0 1 4 7 8) = D113 r n bIu x0 (K6 (bBb r n) 0 1 4 7 8 72) :=
 congrArg (fun k=>D113 r n bIu x0 k) (dJw r n)
theorem dMh : D113 r n aLo x0 r113 = (K5 (jF r n) 0 1 4 7 8) :=
 (bXh r n).trans
 ((bYt r n).trans
 ((by kernel_rfl)))
theorem cAp : D113 r n cZd x0 (K5 (jF r n) 0 1 4 7 8) = (K3 (eG r n) 1 4 7) :=
 (by kernel_rfl)
theorem bVj (kk16 : dG) : D113 r n mY (xs x0 0 (K3 (eG r n) 1 4 7)) (K4 kk16 0 1 4 7) = (K4 (aUi r n kk16) 0 1 4 7) :=
 (by kernel_rfl)
theorem bVv (m : Nat) : aM (fun kk=>D113 r n mY (xs x0 0 (K3 (eG r n) 1 4 7)) kk) m = (K4 (rW r n m) 0 1 4 7):=by
 induction m with
 | zero=>exact (by kernel_rfl : aM (fun kk=>D113 r n mY (xs x0 0 (K3 (eG r n) 1 4 7)) kk) 0 = (K4 (rW r n 0) 0 1 4 7))
 | succ m ih =>
  refine (by kernel_rfl : aM (fun kk=>D113 r n mY (xs x0 0 (K3 (eG r n) 1 4 7)) kk) (m + 1) = D113 r n mY (xs x0 0 (K3 (eG r n) 1 4 7)) (aM (fun kk=>D113 r n mY (xs x0 0 (K3 (eG r n) 1 4 7)) kk) m)).trans ?_
  rw [ih]
  exact (bVj r n (rW r n m)).trans (by kernel_rfl)
theorem cJr : D113 r n yA (xs x0 0 (K3 (eG r n) 1 4 7)) (K3 (eG r n) 1 4 7) = (K4 (bLy r n) 0 1 4 7) :=
 (by kernel_rfl : D113 r n yA (xs x0 0 (K3 (eG r n) 1 4 7)) (K3 (eG r n) 1 4 7) = aM (fun kk=>D113 r n mY (xs x0 0 (K3 (eG r n) 1 4 7)) kk) n).trans ((bVv r n n).trans (by kernel_rfl))
theorem bTd : D113 r n yR x0 (K5 (jF r n) 0 1 4 7 8) = D113 r n wM x0 (K3 (eG r n) 1 4 7) :=
 congrArg (fun k=>D113 r n wM x0 k) (cAp r n)
theorem cDn : D113 r n yR x0 (K5 (jF r n) 0 1 4 7 8) = (K4 (aRa r n) 0 1 4 7) :=
 (bTd r n).trans
 ((by kernel_rfl : D113 r n wM x0 (K3 (eG r n) 1 4 7) = D113 r n yA (xs x0 0 (K3 (eG r n) 1 4 7)) (K3 (eG r n) 1 4 7)).trans
 ((cJr r n).trans (by kernel_rfl)))
theorem bWd : D113 r n rL x0 (K5 (jF r n) 0 1 4 7 8) = D113 r n bGs x0 (K4 (aRa r n) 0 1 4 7) :=
 congrArg (fun k=>D113 r n bGs x0 k) (cDn r n)
theorem cQv : D113 r n rL x0 (K5 (jF r n) 0 1 4 7 8) = (K4 (bGj r n) 0 1 4 7) :=
 (bWd r n).trans
 ((by kernel_rfl))
theorem cGd : D113 r n rO x0 (K5 (jF r n) 0 1 4 7 8) = (K6 (aIs r n) 0 1 4 7 8 43) :=
 (by kernel_rfl : D113 r n rO x0 (K5 (jF r n) 0 1 4 7 8) = (fun (env : aZ) (h : Hp)=>aR (opr env (cC rO)) (D113 r n rL x0 (K5 (jF r n) 0 1 4 7 8) env h) (D113 r n dBr x0 (K5 (jF r n) 0 1 4 7 8) env h))).trans (by rw [cQv r n]; kernel_rfl)
theorem cFh : D113 r n aHu x0 r113 = D113 r n tE x0 (K5 (jF r n) 0 1 4 7 8) :=
 congrArg (fun k=>D113 r n tE x0 k) (dMh r n)
theorem cCs : D113 r n tE x0 (K5 (jF r n) 0 1 4 7 8) = D113 r n bJy x0 (K6 (aIs r n) 0 1 4 7 8 43) :=
 congrArg (fun k=>D113 r n bJy x0 k) (cGd r n)
theorem dBx : D113 r n aHu x0 r113 = (K5 (gB r n) 0 1 4 7 8) :=
 (cFh r n).trans
 ((cCs r n).trans
 ((by kernel_rfl)))
theorem cKq : D113 r n dLp x0 (K5 (gB r n) 0 1 4 7 8) = (K5 (yV r n) 0 1 4 7 9) :=
 (by kernel_rfl)
theorem aXz : D113 r n yM x0 (K5 (gB r n) 0 1 4 7 8) = D113 r n bJh x0 (K5 (yV r n) 0 1 4 7 9) :=
 congrArg (fun k=>D113 r n bJh x0 k) (cKq r n)
theorem cVc : D113 r n yM x0 (K5 (gB r n) 0 1 4 7 8) = (K5 (aQu r n) 0 1 4 7 9) :=
 (aXz r n).trans
 ((by kernel_rfl))
theorem aZq : D113 r n wX x0 (K5 (gB r n) 0 1 4 7 8) = D113 r n bGz x0 (K5 (aQu r n) 0 1 4 7 9) :=
 congrArg (fun k=>D113 r n bGz x0 k) (cVc r n)
theorem cTp : D113 r n wX x0 (K5 (gB r n) 0 1 4 7 8) = (K5 (aQz r n) 0 1 4 7 9) :=
 (aZq r n).trans
 ((by kernel_rfl))
theorem bDf : D113 r n yE x0 (K5 (gB r n) 0 1 4 7 8) = D113 r n bGk x0 (K5 (aQz r n) 0 1 4 7 9) :=
 congrArg (fun k=>D113 r n bGk x0 k) (cTp r n)
theorem cWg : D113 r n yE x0 (K5 (gB r n) 0 1 4 7 8) = (K5 (aJj r n) 0 1 4 7 9) :=
 (bDf r n).trans
 ((by kernel_rfl))
theorem aXq : D113 r n rT x0 (K5 (gB r n) 0 1 4 7 8) = D113 r n bMc x0 (K5 (aJj r n) 0 1 4 7 9) :=
 congrArg (fun k=>D113 r n bMc x0 k) (cWg r n)
theorem cFz : D113 r n rT x0 (K5 (gB r n) 0 1 4 7 8) = (K4 (bGm r n) 0 1 4 7) :=
 (aXq r n).trans
 ((by kernel_rfl))
theorem cBq : D113 r n sD x0 (K5 (gB r n) 0 1 4 7 8) = (K6 (aKd r n) 0 1 4 7 8 19) :=
 (by kernel_rfl : D113 r n sD x0 (K5 (gB r n) 0 1 4 7 8) = (fun (env : aZ) (h : Hp)=>aR (opr env (cC sD)) (D113 r n rT x0 (K5 (gB r n) 0 1 4 7 8) env h) (D113 r n dMg x0 (K5 (gB r n) 0 1 4 7 8) env h))).trans (by rw [cFz r n]; kernel_rfl)
theorem bUf : D113 r n aLl x0 r113 = D113 r n rE x0 (K5 (gB r n) 0 1 4 7 8) :=
 congrArg (fun k=>D113 r n rE x0 k) (dBx r n)
theorem bUj : D113 r n rE x0 (K5 (gB r n) 0 1 4 7 8) = D113 r n bHz x0 (K6 (aKd r n) 0 1 4 7 8 19) :=
 congrArg (fun k=>D113 r n bHz x0 k) (cBq r n)
theorem dHv : D113 r n aLl x0 r113 = (K5 (aYr r n) 0 1 4 7 8) :=
 (bUf r n).trans
 ((bUj r n).trans
 ((by kernel_rfl)))
theorem bSm : D113 r n aGy x0 r113 = D113 r n bLj x0 (K5 (aYr r n) 0 1 4 7 8) :=
 congrArg (fun k=>D113 r n bLj x0 k) (dHv r n)
theorem dAc : D113 r n aGy x0 r113 = (K4 (aCx r n) 0 1 4 7) :=
 (bSm r n).trans
 ((by kernel_rfl))
theorem bWi : D113 r n aPu x0 r113 = D113 r n aLt x0 (K4 (aCx r n) 0 1 4 7) :=
 congrArg (fun k=>D113 r n aLt x0 k) (dAc r n)
theorem bQq (q0 : dG) : D113 r n aLt x0 (K4 q0 0 1 4 7) = fun (env : aZ) (h : Hp) =>
 bnd (aY [(aE 0),(.s []),(aE 0),(aE 0)] [(3,1,(env 1))] h) fun v1 h1 =>
 bnd (bQ [(aE 0),(.s []),(aE 0),(aE 0)] h1) fun v2 h2 =>
 bnd (aJ 4 v2 v1 h2) fun _ h3 =>
  q0 (env 0) (env 1) (env 4) v2 h3:=by kernel_rfl
theorem aWw : (fun (env : aZ) (h : Hp) =>
 bnd (aY [(aE 0),(.s []),(aE 0),(aE 0)] [(3,1,(env 1))] h) fun v1 h1 =>
 bnd (bQ [(aE 0),(.s []),(aE 0),(aE 0)] h1) fun v2 h2 =>
 bnd (aJ 4 v2 v1 h2) fun _ h3 =>
  aCx r n (env 0) (env 1) (env 4) v2 h3) = (K3 (tV r n) 0 1 4):=by kernel_rfl
theorem dDj : D113 r n aPu x0 r113 = (K3 (tV r n) 0 1 4) :=
 (bWi r n).trans
 ((bQq r n (aCx r n)).trans (aWw r n))
theorem dJv : D113 r n c113 x0 r113 = D113 r n aKw x0 (K3 (tV r n) 0 1 4) :=
 congrArg (fun k=>D113 r n aKw x0 k) (dDj r n)
theorem dEp (q0 : jS) : D113 r n aKw x0 (K3 q0 0 1 4) = fun (env : aZ) (h : Hp) =>
 bnd (bQ [(aE 0),(.s []),(aE 0),(aE 0)] h) fun v1 h1 =>
  q0 (env 0) (env 1) v1 h1:=by kernel_rfl
theorem cDw : (fun (env : aZ) (h : Hp) =>
 bnd (bQ [(aE 0),(.s []),(aE 0),(aE 0)] h) fun v1 h1 =>
  tV r n (env 0) (env 1) v1 h1) = (K2 (s113 r n) 0 1):=by kernel_rfl
theorem eTe : D113 r n c113 x0 r113 = (K2 (s113 r n) 0 1) :=
 (dJv r n).trans
 ((dEp r n (tV r n)).trans (cDw r n))
theorem eHf : aI CF r n 113 args h = s113 r n (bI args 0) (bI args 1) h :=
 (by kernel_rfl : aI CF r n 113 args h = D113 r n c113 x0 r113 (aQ args) h).trans ((congrFun (congrFun (eTe r n) (aQ args)) h).trans (by kernel_rfl))
def s114 (r : RT) (n : Nat) (x0 x1 x2 : DV) (h0 : Hp) : aH :=
 bnd (r 119 [x0,(aE 0)] h0) fun v1 h1 =>
 bnd (bQ [(aE 0),(.s []),(aE 0),(aE 0)] h1) fun v2 h2 =>
 bnd (aJ 4 v2 v1 h2) fun _ h3 =>
  fL 3 x0 h3 fun v4 h4 =>
 bnd (aC .eql v4 (aE 0) h4) fun v5 h5 =>
 bnd (gD v5 true (aB 0 v2 h5) h5) fun v6 h6 =>
 bnd (gD v5 true (aA v6 h6) h6) fun v7 h7 =>
 bnd (gD v5 true (some (x1,h7)) h7) fun v8 h8 =>
 bnd (gD v5 true (aC .eql v7 v8 h8) h8) fun v9 h9 =>
 bnd (aN v5 v9 (.b false) h9) fun v10 h10 =>
 bnd (gD v10 true (some (x2,h10)) h10) fun v11 h11 =>
 bnd (gD v10 true (dX .eql v11 (.s []) h11) h11) fun v12 h12 =>
 bnd (gD v10 true (some (v12,h12)) h12) fun v13 h13 =>
 bnd (gD v13 false (aB 1 v2 h13) h13) fun v14 h14 =>
 bnd (gD v13 false (aA v14 h14) h14) fun v15 h15 =>
 bnd (gD v13 false (some (x2,h15)) h15) fun v16 h16 =>
 bnd (gD v13 false (dX .eql v15 v16 h16) h16) fun v17 h17 =>
 bnd (gD v10 true (aN v13 (.b true) v17 h17) h17) fun v18 h18 =>
 bnd (aN v10 v18 (.b false) h18) fun v19 h19 =>
 some (v19,h19)
theorem eAl : aI CF r n 114 args h = s114 r n (bI args 0) (bI args 1) (bI args 2) h :=
 by kernel_rfl
def s115 (r : RT) (n : Nat) (x0 : DV) (h0 : Hp) : aH :=
 bnd (bQ [(aE 0),(.s []),(aE 0),(aE 0)] h0) fun v1 h1 =>
 bnd (r 119 [x0,(aE 0)] h1) fun v2 h2 =>
 bnd (bQ [(aE 0),(.s []),(aE 0),(aE 0)] h2) fun v3 h3 =>
 bnd (aJ 4 v3 v2 h3) fun _ h4 =>
  fL 1 x0 h4 fun v5 h5 =>
 bnd (aC .add v5 (aE 1) h5) fun v6 h6 =>
 bnd (aV x0 h6) fun v7 h7 =>
 bnd (aB 1 v7 h7) fun v8 h8 =>
 bnd (aJ 1 v8 v6 h8) fun _ h9 =>
 bnd (aK 4 v3 h9) fun v10 h10 =>
 bnd (aJ 4 v1 v10 h10) fun _ h11 =>
 bnd (aK 4 v1 h11) fun v12 _ =>
 some (v12,h11)
theorem eCd : aI CF r n 115 args h = s115 r n (bI args 0) h :=
 by kernel_rfl
def s119 (r : RT) (n : Nat) (x0 x1 : DV) (h0 : Hp) : aH :=
 bnd (bQ [(aE 0),(.s []),(aE 0),(aE 0)] h0) fun v1 h1 =>
  fL 1 x0 h1 fun v2 h2 =>
 bnd (aC .add v2 x1 h2) fun v3 h3 =>
  fL 0 x0 h3 fun v4 h4 =>
 bnd (bM v4 h4) fun v5 h5 =>
 bnd (aC .geq v3 v5 h5) fun v6 h6 =>
 aR v6 (
  fL 0 x0 h6 fun v7 h7 =>
  fL 0 x0 h7 fun v8 h8 =>
 bnd (bM v8 h8) fun v9 h9 =>
 bnd (aC .sub v9 (aE 1) h9) fun v10 h10 =>
 bnd (aG 4 v7 v10 h10) fun v11 h11 =>
 bnd (aK 4 v11 h11) fun v12 h12 =>
 bnd (aJ 4 v1 v12 h12) fun v13 h13 =>
 bnd (aK 4 v1 h13) fun v14 _ =>
 some (v14,h13)) (
  fL 0 x0 h6 fun v15 h15 =>
  fL 1 x0 h15 fun v16 h16 =>
 bnd (aC .add v16 x1 h16) fun v17 h17 =>
 bnd (aG 4 v15 v17 h17) fun v18 h18 =>
 bnd (aK 4 v18 h18) fun v19 h19 =>
 bnd (aJ 4 v1 v19 h19) fun v20 h20 =>
 bnd (aK 4 v1 h20) fun v21 _ =>
 some (v21,h20))
theorem eFt : aI CF r n 119 args h = s119 r n (bI args 0) (bI args 1) h :=
 by kernel_rfl
end Go.Dd

namespace Go.Dd
open Go.Proofs
variable (r : RT) (n : Nat) (args : List DV) (h : Hp)
def aO (r : RT) (n : Nat) (h0 : Hp) : aH :=
 some ((.b true),h0)
def wY (r : RT) (n : Nat) (x0 x7 x8 x10 : DV) (h0 : Hp) : aH :=
 bnd (aG 6 x7 (aE 1) h0) fun v1 h1 =>
 bnd (aK 6 v1 h1) fun v2 h2 =>
 bnd (r 131 [x0,v2] h2) fun v3 h3 =>
 bnd (r 75 [x0,(aE 12),(aE 0),(aE 0)] h3) fun v4 h4 =>
 bnd (aV x0 h4) fun v5 h5 =>
 bnd (aB 0 v5 h5) fun v6 h6 =>
  fM 5 v6 h6 fun v7 h7 =>
 bnd (bM v7 h7) fun v8 h8 =>
 bnd (r 75 [x0,(aE 16),(aE 0),(aE 0)] h8) fun v9 h9 =>
 bnd (r 132 [x0,v8,x8] h9) fun v10 h10 =>
 bnd (aV x0 h10) fun v11 h11 =>
 bnd (aB 0 v11 h11) fun v12 h12 =>
  fM 5 v12 h12 fun v13 h13 =>
 bnd (bM v13 h13) fun v14 h14 =>
 bnd (r 132 [x0,x10,v14] h14) fun v15 h15 =>
 bnd (r 75 [x0,(aE 2),(aE 0),(aE 0)] h15) fun v16 h16 =>
  aO r n h16
def aOb (r : RT) (n : Nat) (x0 x3 x7 x8 x9 x10 : DV) (h0 : Hp) : aH :=
 fM 1 x3 h0 fun v1 h1 =>
 bnd (dX .eql v1 (.s [119,104,105,108,101,70,97,108,115,101,58]) h1) fun v2 h2 =>
 aR v2 (
 bnd (aV x0 h2) fun v3 h3 =>
 bnd (aB 0 v3 h3) fun v4 h4 =>
  fM 5 v4 h4 fun v5 h5 =>
 bnd (bM v5 h5) fun v6 h6 =>
 bnd (r 75 [x0,(aE 16),(aE 0),(aE 0)] h6) fun v7 h7 =>
 bnd (aV x0 h7) fun v8 h8 =>
 bnd (aB 0 v8 h8) fun v9 h9 =>
  fM 5 v9 h9 fun v10 h10 =>
 bnd (bM v10 h10) fun v11 h11 =>
 bnd (r 132 [x0,x9,v11] h11) fun v12 h12 =>
  wY r n x0 x7 x8 v6 h12) (
  wY r n x0 x7 x8 x10 h2)
def aKz (r : RT) (n : Nat) (x0 x3 x7 x8 x9 : DV) (h0 : Hp) : aH :=
 aOb r n x0 x3 x7 x8 x9 x9 h0
def aId (r : RT) (n : Nat) (x0 x3 x7 x8 x9 : DV) (h0 : Hp) : aH :=
 bnd (r 75 [x0,(aE 17),(aE 0),(aE 0)] h0) fun v1 h1 =>
  aKz r n x0 x3 x7 x8 x9 h1
def aKx (r : RT) (n : Nat) (x0 x3 x7 x8 : DV) (h0 : Hp) : aH :=
 bnd (aV x0 h0) fun v1 h1 =>
 bnd (aB 0 v1 h1) fun v2 h2 =>
  fM 5 v2 h2 fun v3 h3 =>
 bnd (bM v3 h3) fun v4 h4 =>
  aId r n x0 x3 x7 x8 v4 h4
def aIx (r : RT) (n : Nat) (x0 x3 x7 x8 : DV) (h0 : Hp) : aH :=
 bnd (aG 6 x7 (aE 0) h0) fun v1 h1 =>
 bnd (aK 6 v1 h1) fun v2 h2 =>
 bnd (r 131 [x0,v2] h2) fun v3 h3 =>
  aKx r n x0 x3 x7 x8 h3
def bFz (r : RT) (n : Nat) (x0 x3 x7 : DV) (h0 : Hp) : aH :=
 bnd (aV x0 h0) fun v1 h1 =>
 bnd (aB 0 v1 h1) fun v2 h2 =>
  fM 5 v2 h2 fun v3 h3 =>
 bnd (bM v3 h3) fun v4 h4 =>
  aIx r n x0 x3 x7 v4 h4
def aQc (r : RT) (n : Nat) (x0 x3 x7 x113 : DV) (h0 : Hp) : aH :=
 aR x113 (
  bFz r n x0 x3 x7 h0) (
 some ((.b false),h0))
def bJu (r : RT) (n : Nat) (x0 x3 x5 x7 : DV) (h0 : Hp) : aH :=
 fM 1 x3 h0 fun v1 h1 =>
 bnd (dX .eql v1 (.s [119,104,105,108,101,84,114,117,101,58]) h1) fun v2 h2 =>
 bnd (gD v2 false (aB 1 x3 h2) h2) fun v3 h3 =>
 bnd (gD v2 false (aA v3 h3) h3) fun v4 h4 =>
 bnd (gD v2 false (dX .eql v4 (.s [119,104,105,108,101,70,97,108,115,101,58]) h4) h4) fun v5 h5 =>
 bnd (aN v2 (.b true) v5 h5) fun v6 h6 =>
 bnd (gD v6 true (some (x5,h6)) h6) fun v7 h7 =>
 bnd (gD v6 true (aC .eql v7 (aE 2) h7) h7) fun v8 h8 =>
 bnd (aN v6 v8 (.b false) h8) fun v9 h9 =>
 bnd (gD v9 true (some (x7,h9)) h9) fun v10 h10 =>
 bnd (gD v9 true (aG 6 v10 (aE 0) h10) h10) fun v11 h11 =>
 bnd (gD v9 true (aK 6 v11 h11) h11) fun v12 h12 =>
 bnd (gD v9 true (r 195 [v12] h12) h12) fun v13 h13 =>
 bnd (aN v9 v13 (.b false) h13) fun v14 h14 =>
  aQc r n x0 x3 x7 v14 h14
def aHy (r : RT) (n : Nat) (x0 x3 x5 x7 x99 : DV) (h0 : Hp) : aH :=
 aR x99 (
 bnd (aG 6 x7 (aE 0) h0) fun v1 h1 =>
 bnd (aK 6 v1 h1) fun v2 h2 =>
 bnd (r 196 [x0,v2,x7,(aE 0),(aE 3),(aE 1),(aE 0)] h2) fun v3 h3 =>
  aO r n h3) (
  bJu r n x0 x3 x5 x7 h0)
def bIx (r : RT) (n : Nat) (x0 x3 x5 x7 : DV) (h0 : Hp) : aH :=
 fM 1 x3 h0 fun v1 h1 =>
 bnd (dX .eql v1 (.s [111,114,58]) h1) fun v2 h2 =>
 bnd (gD v2 true (some (x5,h2)) h2) fun v3 h3 =>
 bnd (gD v2 true (aC .eql v3 (aE 2) h3) h3) fun v4 h4 =>
 bnd (aN v2 v4 (.b false) h4) fun v5 h5 =>
  aHy r n x0 x3 x5 x7 v5 h5
def aQx (r : RT) (n : Nat) (x0 x3 x5 x7 x85 : DV) (h0 : Hp) : aH :=
 aR x85 (
 bnd (aG 6 x7 (aE 0) h0) fun v1 h1 =>
 bnd (aK 6 v1 h1) fun v2 h2 =>
 bnd (r 196 [x0,v2,x7,(aE 1),(aE 0),(aE 0),(aE 4)] h2) fun v3 h3 =>
  aO r n h3) (
  bIx r n x0 x3 x5 x7 h0)
def bGe (r : RT) (n : Nat) (x0 x3 x5 x7 : DV) (h0 : Hp) : aH :=
 fM 1 x3 h0 fun v1 h1 =>
 bnd (dX .eql v1 (.s [97,110,100,58]) h1) fun v2 h2 =>
 bnd (gD v2 true (some (x5,h2)) h2) fun v3 h3 =>
 bnd (gD v2 true (aC .eql v3 (aE 2) h3) h3) fun v4 h4 =>
 bnd (aN v2 v4 (.b false) h4) fun v5 h5 =>
  aQx r n x0 x3 x5 x7 v5 h5
def aMw (r : RT) (n : Nat) (x0 x3 x5 x7 x71 : DV) (h0 : Hp) : aH :=
 aR x71 (
 bnd (aG 6 x7 (aE 0) h0) fun v1 h1 =>
 bnd (aK 6 v1 h1) fun v2 h2 =>
 bnd (r 196 [x0,v2,x7,(aE 2),(aE 0),(aE 1),(aE 0)] h2) fun v3 h3 =>
  aO r n h3) (
  bGe r n x0 x3 x5 x7 h0)
def bGw (r : RT) (n : Nat) (x0 x3 x5 x7 : DV) (h0 : Hp) : aH :=
 fM 1 x3 h0 fun v1 h1 =>
 bnd (dX .eql v1 (.s [105,102,70,97,108,115,101,58,105,102,84,114,117,101,58]) h1) fun v2 h2 =>
 bnd (gD v2 true (some (x5,h2)) h2) fun v3 h3 =>
 bnd (gD v2 true (aC .eql v3 (aE 3) h3) h3) fun v4 h4 =>
 bnd (aN v2 v4 (.b false) h4) fun v5 h5 =>
  aMw r n x0 x3 x5 x7 v5 h5
def aJd (r : RT) (n : Nat) (x0 x3 x5 x7 x57 : DV) (h0 : Hp) : aH :=
 aR x57 (
 bnd (aG 6 x7 (aE 0) h0) fun v1 h1 =>
 bnd (aK 6 v1 h1) fun v2 h2 =>
 bnd (r 196 [x0,v2,x7,(aE 1),(aE 0),(aE 2),(aE 0)] h2) fun v3 h3 =>
  aO r n h3) (
  bGw r n x0 x3 x5 x7 h0)
def cKr (r : RT) (n : Nat) (x0 x3 x5 x7 : DV) (h0 : Hp) : aH :=
 fM 1 x3 h0 fun v1 h1 =>
 bnd (dX .eql v1 (.s [105,102,84,114,117,101,58,105,102,70,97,108,115,101,58]) h1) fun v2 h2 =>
 bnd (gD v2 true (some (x5,h2)) h2) fun v3 h3 =>
 bnd (gD v2 true (aC .eql v3 (aE 3) h3) h3) fun v4 h4 =>
 bnd (aN v2 v4 (.b false) h4) fun v5 h5 =>
  aJd r n x0 x3 x5 x7 v5 h5
def bBa (r : RT) (n : Nat) (x0 x3 x5 x7 x43 : DV) (h0 : Hp) : aH :=
 aR x43 (
 bnd (aG 6 x7 (aE 0) h0) fun v1 h1 =>
 bnd (aK 6 v1 h1) fun v2 h2 =>
 bnd (r 196 [x0,v2,x7,(aE 0),(aE 2),(aE 1),(aE 0)] h2) fun v3 h3 =>
  aO r n h3) (
  cKr r n x0 x3 x5 x7 h0)
def cDi (r : RT) (n : Nat) (x0 x3 x5 x7 : DV) (h0 : Hp) : aH :=
 fM 1 x3 h0 fun v1 h1 =>
 bnd (dX .eql v1 (.s [105,102,70,97,108,115,101,58]) h1) fun v2 h2 =>
 bnd (gD v2 true (some (x5,h2)) h2) fun v3 h3 =>
 bnd (gD v2 true (aC .eql v3 (aE 2) h3) h3) fun v4 h4 =>
 bnd (aN v2 v4 (.b false) h4) fun v5 h5 =>
  bBa r n x0 x3 x5 x7 v5 h5
def aZc (r : RT) (n : Nat) (x0 x3 x5 x7 x29 : DV) (h0 : Hp) : aH :=
 aR x29 (
 bnd (aG 6 x7 (aE 0) h0) fun v1 h1 =>
 bnd (aK 6 v1 h1) fun v2 h2 =>
 bnd (r 196 [x0,v2,x7,(aE 1),(aE 0),(aE 0),(aE 2)] h2) fun v3 h3 =>
  aO r n h3) (
  cDi r n x0 x3 x5 x7 h0)
def aZt (r : RT) (n : Nat) (x0 x3 x5 x7 : DV) (h0 : Hp) : aH :=
 fM 1 x3 h0 fun v1 h1 =>
 bnd (dX .eql v1 (.s [105,102,84,114,117,101,58]) h1) fun v2 h2 =>
 bnd (gD v2 true (some (x5,h2)) h2) fun v3 h3 =>
 bnd (gD v2 true (aC .eql v3 (aE 2) h3) h3) fun v4 h4 =>
 bnd (aN v2 v4 (.b false) h4) fun v5 h5 =>
  aZc r n x0 x3 x5 x7 v5 h5
def fI (r : RT) (n : Nat) (x0 x3 x5 : DV) (h0 : Hp) : aH :=
 fM 5 x3 h0 fun v1 h1 =>
 aZt r n x0 x3 x5 v1 h1
def aSg (r : RT) (n : Nat) (kk27 : dG) (x0 x3 x5 x6 : DV) (h0 : Hp) : aH :=
 bnd (aC .lss x6 x5 h0) fun v1 h1 =>
 aR v1 (
   fM 5 x3 h1 fun v2 h2 =>
 bnd (aG 6 v2 x6 h2) fun v3 h3 =>
 bnd (aK 6 v3 h3) fun v4 h4 =>
 bnd (r 195 [v4] h4) fun v5 h5 =>
 bnd (eQ .not v5 h5) fun v6 h6 =>
 aR v6 (
 some ((.b false),h6)) (
 bnd (aC .add x6 (aE 1) h6) fun v7 h7 =>
    kk27 x0 x3 x5 v7 h7)) (
      fI r n x0 x3 x5 h1)
def sI (r : RT) (n : Nat) (m : Nat) : dG :=
 Nat.rec (motive:=fun _=>dG) (fun _ _ _ _ _=>none) (fun _ ih=>aSg r n ih) m
def bHa (r : RT) (n : Nat) : dG:=sI r n n
def aIm (r : RT) (n : Nat) (x0 x3 x5 x6 : DV) (h0 : Hp) : aH :=
 bHa r n x0 x3 x5 x6 h0
def aWk (r : RT) (n : Nat) (x0 x3 x5 : DV) (h0 : Hp) : aH :=
 aIm r n x0 x3 x5 (aE 1) h0
def aCk (r : RT) (n : Nat) (x0 x3 : DV) (h0 : Hp) : aH :=
 fM 5 x3 h0 fun v1 h1 =>
 bnd (bM v1 h1) fun v2 h2 =>
  aWk r n x0 x3 v2 h2
def s127 (r : RT) (n : Nat) (x0 x1 : DV) (h0 : Hp) : aH :=
 bnd (bZ x1 h0) fun v1 h1 =>
  aCk r n x0 v1 h1
abbrev c127 : Code:=cf Tryz.f127
abbrev aOp : Code:=cR c127
abbrev aPq : Code:=cR aOp
abbrev aPw : Code:=cR aPq
abbrev aKp : Code:=cR aPw
abbrev eFz : Code:=cR aKp
abbrev aGu : Code:=cL aKp
abbrev aMo : Code:=cL aGu
abbrev zK : Code:=cR aMo
abbrev aBo : Code:=cR zK
abbrev rJ : Code:=cR aBo
abbrev qY : Code:=cR rJ
abbrev qW : Code:=cR qY
abbrev sU : Code:=cR qW
abbrev sG : Code:=cR sU
abbrev sQ : Code:=cR sG
abbrev qV : Code:=cR sQ
abbrev rM : Code:=cR qV
abbrev rG : Code:=cR rM
abbrev sR : Code:=cR rG
abbrev sN : Code:=cR sR
abbrev qS : Code:=cL sN
abbrev vX : Code:=cR qS
abbrev yZ : Code:=cR vX
abbrev wJ : Code:=cR yZ
abbrev xR : Code:=cR wJ
abbrev vV : Code:=cR xR
abbrev dGw : Code:=cR vV
abbrev bIn : Code:=cL vV
abbrev bQd : Code:=cL xR
abbrev bIy : Code:=cL wJ
abbrev bKo : Code:=cL yZ
abbrev bMb : Code:=cL vX
abbrev bIt : Code:=cL qS
abbrev dPu : Code:=cR sN
abbrev bJg : Code:=cL sR
abbrev dIq : Code:=cL rG
abbrev bFr : Code:=cL rM
abbrev dEm : Code:=cL qV
abbrev bHj : Code:=cL sQ
abbrev cYp : Code:=cL sG
abbrev bLk : Code:=cL sU
abbrev dOc : Code:=cL qW
abbrev bGg : Code:=cL qY
abbrev dGl : Code:=cL rJ
abbrev bQj : Code:=cL aBo
abbrev dAd : Code:=cL zK
abbrev bLd : Code:=cL aMo
abbrev bMy : Code:=cL aPw
abbrev tC : Code:=cL aPq
abbrev aQb : Code:=cR tC
abbrev yJ : Code:=cL aQb
abbrev mK : Code:=cL yJ
abbrev bLw : Code:=cL tC
abbrev bNo : Code:=cL aOp
abbrev aPc : Code:=cL c127
abbrev r127 : K:=bE CF Tryz.f127
def D127 (r : RT) (n : Nat) (c : Code) (X : Nat → K) (k : K) : K:=aW CF r 202 n c X r127 k
theorem dCw : D127 r n eFz x0 r127 = (K0 (aO r n)) :=
 (by kernel_rfl)
theorem cDo : D127 r n dGw (xs x0 2 (K0 (aO r n))) (K0 (aO r n)) = (K4 (wY r n) 0 7 8 10) :=
 (by kernel_rfl)
theorem bWh : D127 r n vV (xs x0 2 (K0 (aO r n))) (K0 (aO r n)) = D127 r n bIn (xs x0 2 (K0 (aO r n))) (K4 (wY r n) 0 7 8 10) :=
 congrArg (fun k=>D127 r n bIn (xs x0 2 (K0 (aO r n))) k) (cDo r n)
theorem bYy : D127 r n vV (xs x0 2 (K0 (aO r n))) (K0 (aO r n)) = (K6 (aOb r n) 0 3 7 8 9 10) :=
 (bWh r n).trans
 ((by kernel_rfl))
theorem bQn : D127 r n xR (xs x0 2 (K0 (aO r n))) (K0 (aO r n)) = D127 r n bQd (xs x0 2 (K0 (aO r n))) (K6 (aOb r n) 0 3 7 8 9 10) :=
 congrArg (fun k=>D127 r n bQd (xs x0 2 (K0 (aO r n))) k) (bYy r n)
theorem cRn : D127 r n xR (xs x0 2 (K0 (aO r n))) (K0 (aO r n)) = (K5 (aKz r n) 0 3 7 8 9) :=
 (bQn r n).trans
 ((by kernel_rfl))
theorem bSr : D127 r n wJ (xs x0 2 (K0 (aO r n))) (K0 (aO r n)) = D127 r n bIy (xs x0 2 (K0 (aO r n))) (K5 (aKz r n) 0 3 7 8 9) :=
 congrArg (fun k=>D127 r n bIy (xs x0 2 (K0 (aO r n))) k) (cRn r n)
theorem cRx : D127 r n wJ (xs x0 2 (K0 (aO r n))) (K0 (aO r n)) = (K5 (aId r n) 0 3 7 8 9) :=
 (bSr r n).trans
 ((by kernel_rfl))
theorem bVk : D127 r n yZ (xs x0 2 (K0 (aO r n))) (K0 (aO r n)) = D127 r n bKo (xs x0 2 (K0 (aO r n))) (K5 (aId r n) 0 3 7 8 9) :=
 congrArg (fun k=>D127 r n bKo (xs x0 2 (K0 (aO r n))) k) (cRx r n)
theorem cMu : D127 r n yZ (xs x0 2 (K0 (aO r n))) (K0 (aO r n)) = (K4 (aKx r n) 0 3 7 8) :=
 (bVk r n).trans
 ((by kernel_rfl))
theorem bUy : D127 r n vX (xs x0 2 (K0 (aO r n))) (K0 (aO r n)) = D127 r n bMb (xs x0 2 (K0 (aO r n))) (K4 (aKx r n) 0 3 7 8) :=
 congrArg (fun k=>D127 r n bMb (xs x0 2 (K0 (aO r n))) k) (cMu r n)
theorem cTs : D127 r n vX (xs x0 2 (K0 (aO r n))) (K0 (aO r n)) = (K4 (aIx r n) 0 3 7 8) :=
 (bUy r n).trans
 ((by kernel_rfl))
theorem bTu : D127 r n qS (xs x0 2 (K0 (aO r n))) (K0 (aO r n)) = D127 r n bIt (xs x0 2 (K0 (aO r n))) (K4 (aIx r n) 0 3 7 8) :=
 congrArg (fun k=>D127 r n bIt (xs x0 2 (K0 (aO r n))) k) (cTs r n)
theorem cNy : D127 r n qS (xs x0 2 (K0 (aO r n))) (K0 (aO r n)) = (K3 (bFz r n) 0 3 7) :=
 (bTu r n).trans
 ((by kernel_rfl))
theorem cPs : D127 r n sN (xs x0 2 (K0 (aO r n))) (K0 (aO r n)) = (K4 (aQc r n) 0 3 7 113) :=
 (by kernel_rfl : D127 r n sN (xs x0 2 (K0 (aO r n))) (K0 (aO r n)) = (fun (env : aZ) (h : Hp)=>aR (opr env (cC sN)) (D127 r n qS (xs x0 2 (K0 (aO r n))) (K0 (aO r n)) env h) (D127 r n dPu (xs x0 2 (K0 (aO r n))) (K0 (aO r n)) env h))).trans (by rw [cNy r n]; kernel_rfl)
theorem bRw : D127 r n sR (xs x0 2 (K0 (aO r n))) (K0 (aO r n)) = D127 r n bJg (xs x0 2 (K0 (aO r n))) (K4 (aQc r n) 0 3 7 113) :=
 congrArg (fun k=>D127 r n bJg (xs x0 2 (K0 (aO r n))) k) (cPs r n)
theorem cGj : D127 r n sR (xs x0 2 (K0 (aO r n))) (K0 (aO r n)) = (K4 (bJu r n) 0 3 5 7) :=
 (bRw r n).trans
 ((by kernel_rfl))
theorem cVh : D127 r n rG (xs x0 2 (K0 (aO r n))) (K0 (aO r n)) = (K5 (aHy r n) 0 3 5 7 99) :=
 (by kernel_rfl : D127 r n rG (xs x0 2 (K0 (aO r n))) (K0 (aO r n)) = (fun (env : aZ) (h : Hp)=>aR (opr env (cC rG)) (D127 r n dIq (xs x0 2 (K0 (aO r n))) (K0 (aO r n)) env h) (D127 r n sR (xs x0 2 (K0 (aO r n))) (K0 (aO r n)) env h))).trans (by rw [cGj r n]; kernel_rfl)
theorem bVl : D127 r n rM (xs x0 2 (K0 (aO r n))) (K0 (aO r n)) = D127 r n bFr (xs x0 2 (K0 (aO r n))) (K5 (aHy r n) 0 3 5 7 99) :=
 congrArg (fun k=>D127 r n bFr (xs x0 2 (K0 (aO r n))) k) (cVh r n)
theorem cHm : D127 r n rM (xs x0 2 (K0 (aO r n))) (K0 (aO r n)) = (K4 (bIx r n) 0 3 5 7) :=
 (bVl r n).trans
 ((by kernel_rfl))
theorem cBj : D127 r n qV (xs x0 2 (K0 (aO r n))) (K0 (aO r n)) = (K5 (aQx r n) 0 3 5 7 85) :=
 (by kernel_rfl : D127 r n qV (xs x0 2 (K0 (aO r n))) (K0 (aO r n)) = (fun (env : aZ) (h : Hp)=>aR (opr env (cC qV)) (D127 r n dEm (xs x0 2 (K0 (aO r n))) (K0 (aO r n)) env h) (D127 r n rM (xs x0 2 (K0 (aO r n))) (K0 (aO r n)) env h))).trans (by rw [cHm r n]; kernel_rfl)
theorem bTz : D127 r n sQ (xs x0 2 (K0 (aO r n))) (K0 (aO r n)) = D127 r n bHj (xs x0 2 (K0 (aO r n))) (K5 (aQx r n) 0 3 5 7 85) :=
 congrArg (fun k=>D127 r n bHj (xs x0 2 (K0 (aO r n))) k) (cBj r n)
theorem cFc : D127 r n sQ (xs x0 2 (K0 (aO r n))) (K0 (aO r n)) = (K4 (bGe r n) 0 3 5 7) :=
 (bTz r n).trans
 ((by kernel_rfl))
theorem cSg : D127 r n sG (xs x0 2 (K0 (aO r n))) (K0 (aO r n)) = (K5 (aMw r n) 0 3 5 7 71) :=
 (by kernel_rfl : D127 r n sG (xs x0 2 (K0 (aO r n))) (K0 (aO r n)) = (fun (env : aZ) (h : Hp)=>aR (opr env (cC sG)) (D127 r n cYp (xs x0 2 (K0 (aO r n))) (K0 (aO r n)) env h) (D127 r n sQ (xs x0 2 (K0 (aO r n))) (K0 (aO r n)) env h))).trans (by rw [cFc r n]; kernel_rfl)
theorem aXk : D127 r n sU (xs x0 2 (K0 (aO r n))) (K0 (aO r n)) = D127 r n bLk (xs x0 2 (K0 (aO r n))) (K5 (aMw r n) 0 3 5 7 71) :=
 congrArg (fun k=>D127 r n bLk (xs x0 2 (K0 (aO r n))) k) (cSg r n)
theorem cQc : D127 r n sU (xs x0 2 (K0 (aO r n))) (K0 (aO r n)) = (K4 (bGw r n) 0 3 5 7) :=
 (aXk r n).trans
 ((by kernel_rfl))
theorem cJf : D127 r n qW (xs x0 2 (K0 (aO r n))) (K0 (aO r n)) = (K5 (aJd r n) 0 3 5 7 57) :=
 (by kernel_rfl : D127 r n qW (xs x0 2 (K0 (aO r n))) (K0 (aO r n)) = (fun (env : aZ) (h : Hp)=>aR (opr env (cC qW)) (D127 r n dOc (xs x0 2 (K0 (aO r n))) (K0 (aO r n)) env h) (D127 r n sU (xs x0 2 (K0 (aO r n))) (K0 (aO r n)) env h))).trans (by rw [cQc r n]; kernel_rfl)
theorem bSg : D127 r n qY (xs x0 2 (K0 (aO r n))) (K0 (aO r n)) = D127 r n bGg (xs x0 2 (K0 (aO r n))) (K5 (aJd r n) 0 3 5 7 57) :=
 congrArg (fun k=>D127 r n bGg (xs x0 2 (K0 (aO r n))) k) (cJf r n)
theorem dOd : D127 r n qY (xs x0 2 (K0 (aO r n))) (K0 (aO r n)) = (K4 (cKr r n) 0 3 5 7) :=
 (bSg r n).trans
 ((by kernel_rfl))
theorem dJs : D127 r n rJ (xs x0 2 (K0 (aO r n))) (K0 (aO r n)) = (K5 (bBa r n) 0 3 5 7 43) :=
 (by kernel_rfl : D127 r n rJ (xs x0 2 (K0 (aO r n))) (K0 (aO r n)) = (fun (env : aZ) (h : Hp)=>aR (opr env (cC rJ)) (D127 r n dGl (xs x0 2 (K0 (aO r n))) (K0 (aO r n)) env h) (D127 r n qY (xs x0 2 (K0 (aO r n))) (K0 (aO r n)) env h))).trans (by rw [dOd r n]; kernel_rfl)
theorem bWe : D127 r n aBo (xs x0 2 (K0 (aO r n))) (K0 (aO r n)) = D127 r n bQj (xs x0 2 (K0 (aO r n))) (K5 (bBa r n) 0 3 5 7 43) :=
 congrArg (fun k=>D127 r n bQj (xs x0 2 (K0 (aO r n))) k) (dJs r n)
theorem dPm : D127 r n aBo (xs x0 2 (K0 (aO r n))) (K0 (aO r n)) = (K4 (cDi r n) 0 3 5 7) :=
 (bWe r n).trans
 ((by kernel_rfl))
theorem dHp : D127 r n zK (xs x0 2 (K0 (aO r n))) (K0 (aO r n)) = (K5 (aZc r n) 0 3 5 7 29) :=
 (by kernel_rfl : D127 r n zK (xs x0 2 (K0 (aO r n))) (K0 (aO r n)) = (fun (env : aZ) (h : Hp)=>aR (opr env (cC zK)) (D127 r n dAd (xs x0 2 (K0 (aO r n))) (K0 (aO r n)) env h) (D127 r n aBo (xs x0 2 (K0 (aO r n))) (K0 (aO r n)) env h))).trans (by rw [dPm r n]; kernel_rfl)
theorem bSc : D127 r n aKp x0 r127 = D127 r n aGu x0 (K0 (aO r n)) :=
 congrArg (fun k=>D127 r n aGu x0 k) (dCw r n)
theorem bUi : D127 r n aMo (xs x0 2 (K0 (aO r n))) (K0 (aO r n)) = D127 r n bLd (xs x0 2 (K0 (aO r n))) (K5 (aZc r n) 0 3 5 7 29) :=
 congrArg (fun k=>D127 r n bLd (xs x0 2 (K0 (aO r n))) k) (dHp r n)
theorem dFp : D127 r n aKp x0 r127 = (K4 (aZt r n) 0 3 5 7) :=
 (bSc r n).trans
 ((by kernel_rfl : D127 r n aGu x0 (K0 (aO r n)) = D127 r n aMo (xs x0 2 (K0 (aO r n))) (K0 (aO r n))).trans
 ((bUi r n).trans
 ((by kernel_rfl))))
theorem bSo : D127 r n aPw x0 r127 = D127 r n bMy x0 (K4 (aZt r n) 0 3 5 7) :=
 congrArg (fun k=>D127 r n bMy x0 k) (dFp r n)
theorem dGj : D127 r n aPw x0 r127 = (K3 (fI r n) 0 3 5) :=
 (bSo r n).trans
 ((by kernel_rfl))
theorem bSd (kk27 : dG) : D127 r n mK (xs x0 0 (K3 (fI r n) 0 3 5)) (K4 kk27 0 3 5 6) = (K4 (aSg r n kk27) 0 3 5 6) :=
 (by kernel_rfl)
theorem bSk (m : Nat) : aM (fun kk=>D127 r n mK (xs x0 0 (K3 (fI r n) 0 3 5)) kk) m = (K4 (sI r n m) 0 3 5 6):=by
 induction m with
 | zero=>exact (by kernel_rfl : aM (fun kk=>D127 r n mK (xs x0 0 (K3 (fI r n) 0 3 5)) kk) 0 = (K4 (sI r n 0) 0 3 5 6))
 | succ m ih =>
  refine (by kernel_rfl : aM (fun kk=>D127 r n mK (xs x0 0 (K3 (fI r n) 0 3 5)) kk) (m + 1) = D127 r n mK (xs x0 0 (K3 (fI r n) 0 3 5)) (aM (fun kk=>D127 r n mK (xs x0 0 (K3 (fI r n) 0 3 5)) kk) m)).trans ?_
  rw [ih]
  exact (bSd r n (sI r n m)).trans (by kernel_rfl)
theorem cDc : D127 r n yJ (xs x0 0 (K3 (fI r n) 0 3 5)) (K3 (fI r n) 0 3 5) = (K4 (bHa r n) 0 3 5 6) :=
 (by kernel_rfl : D127 r n yJ (xs x0 0 (K3 (fI r n) 0 3 5)) (K3 (fI r n) 0 3 5) = aM (fun kk=>D127 r n mK (xs x0 0 (K3 (fI r n) 0 3 5)) kk) n).trans ((bSk r n n).trans (by kernel_rfl))
theorem cQg : D127 r n aQb x0 (K3 (fI r n) 0 3 5) = (K4 (aIm r n) 0 3 5 6) :=
 (by kernel_rfl : D127 r n aQb x0 (K3 (fI r n) 0 3 5) = D127 r n yJ (xs x0 0 (K3 (fI r n) 0 3 5)) (K3 (fI r n) 0 3 5)).trans
 ((cDc r n).trans (by kernel_rfl))
theorem bRy : D127 r n aPq x0 r127 = D127 r n tC x0 (K3 (fI r n) 0 3 5) :=
 congrArg (fun k=>D127 r n tC x0 k) (dGj r n)
theorem bTx : D127 r n tC x0 (K3 (fI r n) 0 3 5) = D127 r n bLw x0 (K4 (aIm r n) 0 3 5 6) :=
 congrArg (fun k=>D127 r n bLw x0 k) (cQg r n)
theorem dHa : D127 r n aPq x0 r127 = (K3 (aWk r n) 0 3 5) :=
 (bRy r n).trans
 ((bTx r n).trans
 ((by kernel_rfl)))
theorem bUn : D127 r n aOp x0 r127 = D127 r n bNo x0 (K3 (aWk r n) 0 3 5) :=
 congrArg (fun k=>D127 r n bNo x0 k) (dHa r n)
theorem dAr : D127 r n aOp x0 r127 = (K2 (aCk r n) 0 3) :=
 (bUn r n).trans
 ((by kernel_rfl))
theorem dLr : D127 r n c127 x0 r127 = D127 r n aPc x0 (K2 (aCk r n) 0 3) :=
 congrArg (fun k=>D127 r n aPc x0 k) (dAr r n)
theorem dKp (q0 : gP) : D127 r n aPc x0 (K2 q0 0 3) = fun (env : aZ) (h : Hp) =>
 bnd (bZ (env 1) h) fun v1 h1 =>
  q0 (env 0) v1 h1:=by kernel_rfl
theorem bZk : (fun (env : aZ) (h : Hp) =>
 bnd (bZ (env 1) h) fun v1 h1 =>
  aCk r n (env 0) v1 h1) = (K2 (s127 r n) 0 1):=by kernel_rfl
theorem eMy : D127 r n c127 x0 r127 = (K2 (s127 r n) 0 1) :=
 (dLr r n).trans
 ((dKp r n (aCk r n)).trans (bZk r n))
theorem eHi : aI CF r n 127 args h = s127 r n (bI args 0) (bI args 1) h :=
 (by kernel_rfl : aI CF r n 127 args h = D127 r n c127 x0 r127 (aQ args) h).trans ((congrFun (congrFun (eMy r n) (aQ args)) h).trans (by kernel_rfl))
def s128 (r : RT) (n : Nat) (x0 x1 : DV) (h0 : Hp) : aH :=
 bnd (bZ x1 h0) fun v1 h1 =>
  fM 0 v1 h1 fun v2 h2 =>
 bnd (aC .eql v2 (aE 5) h2) fun v3 h3 =>
 bnd (gD v3 true (aB 1 v1 h3) h3) fun v4 h4 =>
 bnd (gD v3 true (aA v4 h4) h4) fun v5 h5 =>
 bnd (gD v3 true (dX .eql v5 (.s [115,117,112,101,114]) h5) h5) fun v6 h6 =>
 bnd (aN v3 v6 (.b false) h6) fun v7 h7 =>
 aR v7 (
 bnd (r 75 [x0,(aE 1),(aE 0),(aE 0)] h7) fun v8 h8 =>
 some ((aE 15),h8)) (
 bnd (aK 6 v1 h7) fun v9 h9 =>
 bnd (r 74 [x0,v9] h9) fun v10 h10 =>
 some ((aE 14),h10))
theorem dZb : aI CF r n 128 args h = s128 r n (bI args 0) (bI args 1) h :=
 by kernel_rfl
def eZ (r : RT) (n : Nat) (x0 x1 x2 x3 : DV) (h0 : Hp) : aH :=
 fL 7 x0 h0 fun v1 h1 =>
 bnd (aC .eql v1 (aE 0) h1) fun v2 h2 =>
 aR v2 (
 bnd (r 194 [x0,x2] h2) fun v3 h3 =>
 bnd (bM x3 h3) fun v4 h4 =>
 bnd (r 75 [x0,x1,v3,v4] h4) fun v5 h5 =>
 some (.t [],h5)) (
 some (.t [],h2))
def bNl (r : RT) (n : Nat) (kk3 : cN) (x0 x1 x2 x3 x8 : DV) (h0 : Hp) : aH :=
 bnd (bM x3 h0) fun v1 h1 =>
 bnd (aC .lss x8 v1 h1) fun v2 h2 =>
 aR v2 (
 bnd (aG 6 x3 x8 h2) fun v3 h3 =>
 bnd (aK 6 v3 h3) fun v4 h4 =>
 bnd (r 74 [x0,v4] h4) fun v5 h5 =>
 bnd (aC .add x8 (aE 1) h5) fun v6 h6 =>
      kk3 x0 x1 x2 x3 v6 h6) (
      eZ r n x0 x1 x2 x3 h2)
def wU (r : RT) (n : Nat) (m : Nat) : cN :=
 Nat.rec (motive:=fun _=>cN) (fun _ _ _ _ _ _=>none) (fun _ ih=>bNl r n ih) m
def cHi (r : RT) (n : Nat) : cN:=wU r n n
def aYy (r : RT) (n : Nat) (x0 x1 x2 x3 x8 : DV) (h0 : Hp) : aH :=
 cHi r n x0 x1 x2 x3 x8 h0
def s129 (r : RT) (n : Nat) (x0 x1 x2 x3 : DV) (h0 : Hp) : aH :=
 aYy r n x0 x1 x2 x3 (aE 0) h0
abbrev c129 : Code:=cf Tryz.f129
abbrev dYf : Code:=cR c129
abbrev aDj : Code:=cL c129
abbrev aWg : Code:=cR aDj
abbrev aPk : Code:=cL aWg
abbrev pM : Code:=cL aPk
abbrev cHs : Code:=cL aDj
abbrev r129 : K:=bE CF Tryz.f129
def D129 (r : RT) (n : Nat) (c : Code) (X : Nat → K) (k : K) : K:=aW CF r 34 n c X r129 k
theorem dDx : D129 r n dYf x0 r129 = (K4 (eZ r n) 0 1 2 3) :=
 (by kernel_rfl)
theorem cSb (kk3 : cN) : D129 r n pM (xs x0 0 (K4 (eZ r n) 0 1 2 3)) (K5 kk3 0 1 2 3 8) = (K5 (bNl r n kk3) 0 1 2 3 8) :=
 (by kernel_rfl)
theorem cPt (m : Nat) : aM (fun kk=>D129 r n pM (xs x0 0 (K4 (eZ r n) 0 1 2 3)) kk) m = (K5 (wU r n m) 0 1 2 3 8):=by
 induction m with
 | zero=>exact (by kernel_rfl : aM (fun kk=>D129 r n pM (xs x0 0 (K4 (eZ r n) 0 1 2 3)) kk) 0 = (K5 (wU r n 0) 0 1 2 3 8))
 | succ m ih =>
  refine (by kernel_rfl : aM (fun kk=>D129 r n pM (xs x0 0 (K4 (eZ r n) 0 1 2 3)) kk) (m + 1) = D129 r n pM (xs x0 0 (K4 (eZ r n) 0 1 2 3)) (aM (fun kk=>D129 r n pM (xs x0 0 (K4 (eZ r n) 0 1 2 3)) kk) m)).trans ?_
  rw [ih]
  exact (cSb r n (wU r n m)).trans (by kernel_rfl)
theorem dIw : D129 r n aPk (xs x0 0 (K4 (eZ r n) 0 1 2 3)) (K4 (eZ r n) 0 1 2 3) = (K5 (cHi r n) 0 1 2 3 8) :=
 (by kernel_rfl : D129 r n aPk (xs x0 0 (K4 (eZ r n) 0 1 2 3)) (K4 (eZ r n) 0 1 2 3) = aM (fun kk=>D129 r n pM (xs x0 0 (K4 (eZ r n) 0 1 2 3)) kk) n).trans ((cPt r n n).trans (by kernel_rfl))
theorem dBn : D129 r n aWg x0 (K4 (eZ r n) 0 1 2 3) = (K5 (aYy r n) 0 1 2 3 8) :=
 (by kernel_rfl : D129 r n aWg x0 (K4 (eZ r n) 0 1 2 3) = D129 r n aPk (xs x0 0 (K4 (eZ r n) 0 1 2 3)) (K4 (eZ r n) 0 1 2 3)).trans
 ((dIw r n).trans (by kernel_rfl))
theorem eAg : D129 r n c129 x0 r129 = D129 r n aDj x0 (K4 (eZ r n) 0 1 2 3) :=
 congrArg (fun k=>D129 r n aDj x0 k) (dDx r n)
theorem dZi : D129 r n aDj x0 (K4 (eZ r n) 0 1 2 3) = D129 r n cHs x0 (K5 (aYy r n) 0 1 2 3 8) :=
 congrArg (fun k=>D129 r n cHs x0 k) (dBn r n)
theorem eNx : D129 r n c129 x0 r129 = (K4 (s129 r n) 0 1 2 3) :=
 (eAg r n).trans
 ((dZi r n).trans
 ((by kernel_rfl)))
theorem dTw : aI CF r n 129 args h = s129 r n (bI args 0) (bI args 1) (bI args 2) (bI args 3) h :=
 (by kernel_rfl : aI CF r n 129 args h = D129 r n c129 x0 r129 (aQ args) h).trans ((congrFun (congrFun (eNx r n) (aQ args)) h).trans (by kernel_rfl))
def aQn (r : RT) (n : Nat) (x0 x4 : DV) (h0 : Hp) : aH :=
 bnd (aV x0 h0) fun v1 h1 =>
 bnd (aB 6 v1 h1) fun v2 h2 =>
 bnd (aJ 1 v2 x4 h2) fun _ h3 =>
 some (.t [],h3)
def cJ (r : RT) (n : Nat) (x0 x3 x4 : DV) (h0 : Hp) : aH :=
 fM 5 x3 h0 fun v1 h1 =>
 bnd (bM v1 h1) fun v2 h2 =>
 bnd (aC .eql v2 (aE 0) h2) fun v3 h3 =>
 aR v3 (
 bnd (r 75 [x0,(aE 2),(aE 0),(aE 0)] h3) fun v4 h4 =>
  aQn r n x0 x4 h4) (
  aQn r n x0 x4 h3)
def dI (r : RT) (n : Nat) (kk8 : dG) (x0 x3 x4 x5 : DV) (h0 : Hp) : aH :=
 bnd (aC .add x5 (aE 1) h0) fun v1 h1 =>
  kk8 x0 x3 x4 v1 h1
def yK (r : RT) (n : Nat) (kk8 : dG) (x0 x3 x4 x5 : DV) (h0 : Hp) : aH :=
 bnd (aC .add x5 (aE 1) h0) fun v1 h1 =>
  fM 5 x3 h1 fun v2 h2 =>
 bnd (bM v2 h2) fun v3 h3 =>
 bnd (aC .lss v1 v3 h3) fun v4 h4 =>
 aR v4 (
 bnd (r 75 [x0,(aE 12),(aE 0),(aE 0)] h4) fun v5 h5 =>
  dI r n kk8 x0 x3 x4 x5 h5) (
  dI r n kk8 x0 x3 x4 x5 h4)
def aHd (r : RT) (n : Nat) (kk8 : dG) (x0 x3 x4 x5 : DV) (h0 : Hp) : aH :=
 fM 5 x3 h0 fun v1 h1 =>
 bnd (aG 6 v1 x5 h1) fun v2 h2 =>
  fM 0 v2 h2 fun v3 h3 =>
 bnd (aC .eql v3 (aE 10) h3) fun v4 h4 =>
 aR v4 (
 bnd (r 75 [x0,(aE 2),(aE 0),(aE 0)] h4) fun v5 h5 =>
  yK r n kk8 x0 x3 x4 x5 h5) (
  yK r n kk8 x0 x3 x4 x5 h4)
def aZm (r : RT) (n : Nat) (kk8 : dG) (x0 x3 x4 x5 : DV) (h0 : Hp) : aH :=
 fM 5 x3 h0 fun v1 h1 =>
 bnd (aG 6 v1 x5 h1) fun v2 h2 =>
 bnd (aK 6 v2 h2) fun v3 h3 =>
 bnd (r 74 [x0,v3] h3) fun v4 h4 =>
  aHd r n kk8 x0 x3 x4 x5 h4
def bHt (r : RT) (n : Nat) (kk8 : dG) (x0 x3 x4 x5 : DV) (h0 : Hp) : aH :=
  fM 5 x3 h0 fun v1 h1 =>
 bnd (bM v1 h1) fun v2 h2 =>
 bnd (aC .lss x5 v2 h2) fun v3 h3 =>
 aR v3 (
   aZm r n kk8 x0 x3 x4 x5 h3) (
   cJ r n x0 x3 x4 h3)
def vS (r : RT) (n : Nat) (m : Nat) : dG :=
 Nat.rec (motive:=fun _=>dG) (fun _ _ _ _ _=>none) (fun _ ih=>bHt r n ih) m
def cAi (r : RT) (n : Nat) : dG:=vS r n n
def bAx (r : RT) (n : Nat) (x0 x3 x4 x5 : DV) (h0 : Hp) : aH :=
 cAi r n x0 x3 x4 x5 h0
def aYl (r : RT) (n : Nat) (x0 x3 x4 : DV) (h0 : Hp) : aH :=
 bAx r n x0 x3 x4 (aE 0) h0
def bCz (r : RT) (n : Nat) (x0 x3 x4 : DV) (h0 : Hp) : aH :=
 fM 4 x3 h0 fun v1 h1 =>
 bnd (r 73 [x0,v1,(aE 2)] h1) fun v2 h2 =>
  aYl r n x0 x3 x4 h2
def bBx (r : RT) (n : Nat) (x0 x3 x4 : DV) (h0 : Hp) : aH :=
 fM 3 x3 h0 fun v1 h1 =>
 bnd (r 73 [x0,v1,(aE 3)] h1) fun v2 h2 =>
  bCz r n x0 x3 x4 h2
def zU (r : RT) (n : Nat) (x0 x3 : DV) (h0 : Hp) : aH :=
 fL 6 x0 h0 fun v1 h1 =>
 bBx r n x0 x3 v1 h1
def s131 (r : RT) (n : Nat) (x0 x1 : DV) (h0 : Hp) : aH :=
 bnd (bZ x1 h0) fun v1 h1 =>
  zU r n x0 v1 h1
abbrev c131 : Code:=cf Tryz.f131
abbrev aHb : Code:=cR c131
abbrev aJx : Code:=cR aHb
abbrev aPd : Code:=cR aJx
abbrev aJe : Code:=cR aPd
abbrev aOu : Code:=cR aJe
abbrev eGw : Code:=cR aOu
abbrev cBs : Code:=cL aOu
abbrev aDm : Code:=cL aJe
abbrev bBj : Code:=cR aDm
abbrev wA : Code:=cL bBj
abbrev jG : Code:=cL wA
abbrev yU : Code:=cR jG
abbrev dIm : Code:=cR yU
abbrev yT : Code:=cL yU
abbrev xL : Code:=cL yT
abbrev wQ : Code:=cR xL
abbrev dOs : Code:=cR wQ
abbrev bFx : Code:=cL wQ
abbrev bIz : Code:=cL xL
abbrev bFe : Code:=cL jG
abbrev bEx : Code:=cL aDm
abbrev bOc : Code:=cL aPd
abbrev bMm : Code:=cL aJx
abbrev bOo : Code:=cL aHb
abbrev aNd : Code:=cL c131
abbrev r131 : K:=bE CF Tryz.f131
def D131 (r : RT) (n : Nat) (c : Code) (X : Nat → K) (k : K) : K:=aW CF r 59 n c X r131 k
theorem dDh : D131 r n eGw x0 r131 = (K2 (aQn r n) 0 4) :=
 (by kernel_rfl)
theorem cNb : D131 r n aOu x0 r131 = D131 r n cBs x0 (K2 (aQn r n) 0 4) :=
 congrArg (fun k=>D131 r n cBs x0 k) (dDh r n)
theorem dLi : D131 r n aOu x0 r131 = (K3 (cJ r n) 0 3 4) :=
 (cNb r n).trans
 ((by kernel_rfl))
theorem cQd (kk8 : dG) : D131 r n dIm (xs x0 0 (K3 (cJ r n) 0 3 4)) (K4 kk8 0 3 4 5) = (K4 (dI r n kk8) 0 3 4 5) :=
 (by kernel_rfl)
theorem cWq (kk8 : dG) : D131 r n dOs (xs (xs x0 0 (K3 (cJ r n) 0 3 4)) 1 (K4 (dI r n kk8) 0 3 4 5)) (K4 (dI r n kk8) 0 3 4 5) = (K4 (yK r n kk8) 0 3 4 5) :=
 (by kernel_rfl)
theorem bWm (kk8 : dG) : D131 r n wQ (xs (xs x0 0 (K3 (cJ r n) 0 3 4)) 1 (K4 (dI r n kk8) 0 3 4 5)) (K4 (dI r n kk8) 0 3 4 5) = D131 r n bFx (xs (xs x0 0 (K3 (cJ r n) 0 3 4)) 1 (K4 (dI r n kk8) 0 3 4 5)) (K4 (yK r n kk8) 0 3 4 5) :=
 congrArg (fun k=>D131 r n bFx (xs (xs x0 0 (K3 (cJ r n) 0 3 4)) 1 (K4 (dI r n kk8) 0 3 4 5)) k) (cWq r n kk8)
theorem cFf (kk8 : dG) : D131 r n wQ (xs (xs x0 0 (K3 (cJ r n) 0 3 4)) 1 (K4 (dI r n kk8) 0 3 4 5)) (K4 (dI r n kk8) 0 3 4 5) = (K4 (aHd r n kk8) 0 3 4 5) :=
 (bWm r n kk8).trans
 ((by kernel_rfl))
theorem cPq (kk8 : dG) : D131 r n yU (xs x0 0 (K3 (cJ r n) 0 3 4)) (K4 kk8 0 3 4 5) = D131 r n yT (xs x0 0 (K3 (cJ r n) 0 3 4)) (K4 (dI r n kk8) 0 3 4 5) :=
 congrArg (fun k=>D131 r n yT (xs x0 0 (K3 (cJ r n) 0 3 4)) k) (cQd r n kk8)
theorem cJm (kk8 : dG) : D131 r n xL (xs (xs x0 0 (K3 (cJ r n) 0 3 4)) 1 (K4 (dI r n kk8) 0 3 4 5)) (K4 (dI r n kk8) 0 3 4 5) = D131 r n bIz (xs (xs x0 0 (K3 (cJ r n) 0 3 4)) 1 (K4 (dI r n kk8) 0 3 4 5)) (K4 (aHd r n kk8) 0 3 4 5) :=
 congrArg (fun k=>D131 r n bIz (xs (xs x0 0 (K3 (cJ r n) 0 3 4)) 1 (K4 (dI r n kk8) 0 3 4 5)) k) (cFf r n kk8)
theorem dHk (kk8 : dG) : D131 r n yU (xs x0 0 (K3 (cJ r n) 0 3 4)) (K4 kk8 0 3 4 5) = (K4 (aZm r n kk8) 0 3 4 5) :=
 (cPq r n kk8).trans
 ((by kernel_rfl : D131 r n yT (xs x0 0 (K3 (cJ r n) 0 3 4)) (K4 (dI r n kk8) 0 3 4 5) = D131 r n xL (xs (xs x0 0 (K3 (cJ r n) 0 3 4)) 1 (K4 (dI r n kk8) 0 3 4 5)) (K4 (dI r n kk8) 0 3 4 5)).trans
 ((cJm r n kk8).trans
 ((by kernel_rfl))))
theorem cBu (kk8 : dG) : D131 r n jG (xs x0 0 (K3 (cJ r n) 0 3 4)) (K4 kk8 0 3 4 5) = D131 r n bFe (xs x0 0 (K3 (cJ r n) 0 3 4)) (K4 (aZm r n kk8) 0 3 4 5) :=
 congrArg (fun k=>D131 r n bFe (xs x0 0 (K3 (cJ r n) 0 3 4)) k) (dHk r n kk8)
theorem cBp (kk8 : dG) : D131 r n jG (xs x0 0 (K3 (cJ r n) 0 3 4)) (K4 kk8 0 3 4 5) = (K4 (bHt r n kk8) 0 3 4 5) :=
 (cBu r n kk8).trans
 ((by kernel_rfl))
theorem cPg (m : Nat) : aM (fun kk=>D131 r n jG (xs x0 0 (K3 (cJ r n) 0 3 4)) kk) m = (K4 (vS r n m) 0 3 4 5):=by
 induction m with
 | zero=>exact (by kernel_rfl : aM (fun kk=>D131 r n jG (xs x0 0 (K3 (cJ r n) 0 3 4)) kk) 0 = (K4 (vS r n 0) 0 3 4 5))
 | succ m ih =>
  refine (by kernel_rfl : aM (fun kk=>D131 r n jG (xs x0 0 (K3 (cJ r n) 0 3 4)) kk) (m + 1) = D131 r n jG (xs x0 0 (K3 (cJ r n) 0 3 4)) (aM (fun kk=>D131 r n jG (xs x0 0 (K3 (cJ r n) 0 3 4)) kk) m)).trans ?_
  rw [ih]
  exact (cBp r n (vS r n m)).trans (by kernel_rfl)
theorem dBy : D131 r n wA (xs x0 0 (K3 (cJ r n) 0 3 4)) (K3 (cJ r n) 0 3 4) = (K4 (cAi r n) 0 3 4 5) :=
 (by kernel_rfl : D131 r n wA (xs x0 0 (K3 (cJ r n) 0 3 4)) (K3 (cJ r n) 0 3 4) = aM (fun kk=>D131 r n jG (xs x0 0 (K3 (cJ r n) 0 3 4)) kk) n).trans ((cPg r n n).trans (by kernel_rfl))
theorem dMo : D131 r n bBj x0 (K3 (cJ r n) 0 3 4) = (K4 (bAx r n) 0 3 4 5) :=
 (by kernel_rfl : D131 r n bBj x0 (K3 (cJ r n) 0 3 4) = D131 r n wA (xs x0 0 (K3 (cJ r n) 0 3 4)) (K3 (cJ r n) 0 3 4)).trans
 ((dBy r n).trans (by kernel_rfl))
theorem cKg : D131 r n aJe x0 r131 = D131 r n aDm x0 (K3 (cJ r n) 0 3 4) :=
 congrArg (fun k=>D131 r n aDm x0 k) (dLi r n)
theorem cJk : D131 r n aDm x0 (K3 (cJ r n) 0 3 4) = D131 r n bEx x0 (K4 (bAx r n) 0 3 4 5) :=
 congrArg (fun k=>D131 r n bEx x0 k) (dMo r n)
theorem dQm : D131 r n aJe x0 r131 = (K3 (aYl r n) 0 3 4) :=
 (cKg r n).trans
 ((cJk r n).trans
 ((by kernel_rfl)))
theorem cCb : D131 r n aPd x0 r131 = D131 r n bOc x0 (K3 (aYl r n) 0 3 4) :=
 congrArg (fun k=>D131 r n bOc x0 k) (dQm r n)
theorem dHi : D131 r n aPd x0 r131 = (K3 (bCz r n) 0 3 4) :=
 (cCb r n).trans
 ((by kernel_rfl))
theorem cHk : D131 r n aJx x0 r131 = D131 r n bMm x0 (K3 (bCz r n) 0 3 4) :=
 congrArg (fun k=>D131 r n bMm x0 k) (dHi r n)
theorem dMp : D131 r n aJx x0 r131 = (K3 (bBx r n) 0 3 4) :=
 (cHk r n).trans
 ((by kernel_rfl))
theorem bVu : D131 r n aHb x0 r131 = D131 r n bOo x0 (K3 (bBx r n) 0 3 4) :=
 congrArg (fun k=>D131 r n bOo x0 k) (dMp r n)
theorem cYk : D131 r n aHb x0 r131 = (K2 (zU r n) 0 3) :=
 (bVu r n).trans
 ((by kernel_rfl))
theorem cZi : D131 r n c131 x0 r131 = D131 r n aNd x0 (K2 (zU r n) 0 3) :=
 congrArg (fun k=>D131 r n aNd x0 k) (cYk r n)
theorem dBz (q0 : gP) : D131 r n aNd x0 (K2 q0 0 3) = fun (env : aZ) (h : Hp) =>
 bnd (bZ (env 1) h) fun v1 h1 =>
  q0 (env 0) v1 h1:=by kernel_rfl
theorem cIb : (fun (env : aZ) (h : Hp) =>
 bnd (bZ (env 1) h) fun v1 h1 =>
  zU r n (env 0) v1 h1) = (K2 (s131 r n) 0 1):=by kernel_rfl
theorem eKn : D131 r n c131 x0 r131 = (K2 (s131 r n) 0 1) :=
 (cZi r n).trans
 ((dBz r n (zU r n)).trans (cIb r n))
theorem eCn : aI CF r n 131 args h = s131 r n (bI args 0) (bI args 1) h :=
 (by kernel_rfl : aI CF r n 131 args h = D131 r n c131 x0 r131 (aQ args) h).trans ((congrFun (congrFun (eKn r n) (aQ args)) h).trans (by kernel_rfl))
def s132 (r : RT) (n : Nat) (x0 x1 x2 : DV) (h0 : Hp) : aH :=
 bnd (aV x0 h0) fun v1 h1 =>
 bnd (aB 0 v1 h1) fun v2 h2 =>
  fM 5 v2 h2 fun v3 h3 =>
 bnd (aC .rem x2 (aE 256) h3) fun v4 h4 =>
 bnd (aG 3 v3 x1 h4) fun v5 h5 =>
 bnd (aB 1 v5 h5) fun v6 h6 =>
 bnd (aJ 1 v6 v4 h6) fun _ h7 =>
 bnd (aV x0 h7) fun v8 h8 =>
 bnd (aB 0 v8 h8) fun v9 h9 =>
  fM 5 v9 h9 fun v10 h10 =>
 bnd (aC .quo x2 (aE 256) h10) fun v11 h11 =>
 bnd (aG 3 v10 x1 h11) fun v12 h12 =>
 bnd (aB 2 v12 h12) fun v13 h13 =>
 bnd (aJ 1 v13 v11 h13) fun _ h14 =>
 some (.t [],h14)
theorem eEz : aI CF r n 132 args h = s132 r n (bI args 0) (bI args 1) (bI args 2) h :=
 by kernel_rfl
def s133 (r : RT) (n : Nat) (x0 : DV) (h0 : Hp) : aH :=
 bnd (aC .geq x0 (aE 14) h0) fun v1 h1 =>
 bnd (gD v1 true (some (x0,h1)) h1) fun v2 h2 =>
 bnd (gD v1 true (aC .leq v2 (aE 18) h2) h2) fun v3 h3 =>
 bnd (aN v1 v3 (.b false) h3) fun v4 h4 =>
 aR v4 (
 some ((aE 2),h4)) (
 bnd (aC .geq x0 (aE 6) h4) fun v5 h5 =>
 bnd (gD v5 true (some (x0,h5)) h5) fun v6 h6 =>
 bnd (gD v5 true (aC .leq v6 (aE 11) h6) h6) fun v7 h7 =>
 bnd (aN v5 v7 (.b false) h7) fun v8 h8 =>
 aR v8 (
 some ((aE 1),h8)) (
 some ((aE 0),h8)))
theorem eAn : aI CF r n 133 args h = s133 r n (bI args 0) h :=
 by kernel_rfl
def s134 (r : RT) (n : Nat) (x0 : DV) (h0 : Hp) : aH :=
 bnd (pEq (.slice 3) true x0 .l0 h0) fun v1 h1 =>
 aR v1 (
 some (.l0,h1)) (
 bnd (aS [] 0 [] h1) fun v2 h2 =>
 bnd (bH 1 8 v2 x0 h2) fun v3 h3 =>
 some (v3,h3))
theorem dXe : aI CF r n 134 args h = s134 r n (bI args 0) h :=
 by kernel_rfl
def eI (r : RT) (n : Nat) (x2 : DV) (h0 : Hp) : aH :=
 fM 5 x2 h0 fun v1 h1 =>
 bnd (r 213 [v1] h1) fun v2 h2 =>
  fM 5 x2 h2 fun v3 h3 =>
 bnd (r 214 [v3,v2] h3) fun v4 h4 =>
 bnd (eQ .not v4 h4) fun v5 h5 =>
 aR v5 (
 some (.t [.l0,(aE 19)],h5)) (
  fM 5 x2 h5 fun v6 h6 =>
 bnd (r 215 [v6,v2] h6) fun v7 h7 =>
 bnd (aF 0 v7 h7) fun v8 h8 =>
 bnd (aF 1 v7 h8) fun v9 h9 =>
 bnd (eQ .not v9 h9) fun v10 h10 =>
 aR v10 (
 some (.t [.l0,(aE 19)],h10)) (
 some (.t [v8,(aE 0)],h10)))
def aKc (r : RT) (n : Nat) (kk7 : cN) (x1 x2 x60 x61 x62 : DV) (h0 : Hp) : aH :=
 bnd (aC .lss x62 x61 h0) fun v1 h1 =>
 aR v1 (
 bnd (aG 3 x60 x62 h1) fun v2 h2 =>
 bnd (aK 3 v2 h2) fun v3 h3 =>
 bnd (bQ [(aE 0),(aE 0),(aE 0)] h3) fun v4 h4 =>
 bnd (aJ 3 v4 v3 h4) fun _ h5 =>
 bnd (aK 3 v4 h5) fun v6 h6 =>
 bnd (r 146 [v6] h6) fun v7 h7 =>
 bnd (eQ .not v7 h7) fun v8 h8 =>
 bnd (gD v8 false (aK 6 x2 h8) h8) fun v9 h9 =>
 bnd (gD v8 false (aK 3 v4 h9) h9) fun v10 h10 =>
 bnd (gD v8 false (some (x1,h10)) h10) fun v11 h11 =>
 bnd (gD v8 false (r 212 [v9,v10,v11] h11) h11) fun v12 h12 =>
 bnd (gD v8 false (eQ .not v12 h12) h12) fun v13 h13 =>
 bnd (aN v8 (.b true) v13 h13) fun v14 h14 =>
 aR v14 (
 some (.t [.l0,(aE 19)],h14)) (
 bnd (aC .add x62 (aE 1) h14) fun v15 h15 =>
    kk7 x1 x2 x60 x61 v15 h15)) (
      eI r n x2 h1)
def xX (r : RT) (n : Nat) (m : Nat) : cN :=
 Nat.rec (motive:=fun _=>cN) (fun _ _ _ _ _ _=>none) (fun _ ih=>aKc r n ih) m
def cUz (r : RT) (n : Nat) : cN:=xX r n n
def bBk (r : RT) (n : Nat) (x1 x2 x60 x61 x62 : DV) (h0 : Hp) : aH :=
 cUz r n x1 x2 x60 x61 x62 h0
def bCm (r : RT) (n : Nat) (x1 x2 : DV) (h0 : Hp) : aH :=
 fM 5 x2 h0 fun v1 h1 =>
 bnd (bM v1 h1) fun v2 h2 =>
  bBk r n x1 x2 v1 v2 (aE 0) h2
def aZd (r : RT) (n : Nat) (x1 x2 x6 x7 : DV) (h0 : Hp) : aH :=
 bnd (eQ .not x6 h0) fun v1 h1 =>
 bnd (gD v1 false (some (x7,h1)) h1) fun v2 h2 =>
 bnd (aN v1 (.b true) v2 h2) fun v3 h3 =>
 bnd (gD v3 false (aB 4 x2 h3) h3) fun v4 h4 =>
 bnd (gD v3 false (aA v4 h4) h4) fun v5 h5 =>
 bnd (gD v3 false (bM v5 h5) h5) fun v6 h6 =>
 bnd (gD v3 false (aC .gtr v6 (aE 60) h6) h6) fun v7 h7 =>
 bnd (aN v3 (.b true) v7 h7) fun v8 h8 =>
 bnd (gD v8 false (aB 5 x2 h8) h8) fun v9 h9 =>
 bnd (gD v8 false (aA v9 h9) h9) fun v10 h10 =>
 bnd (gD v8 false (bM v10 h10) h10) fun v11 h11 =>
 bnd (gD v8 false (r 208 [v11,(aE 1),(aE 400)] h11) h11) fun v12 h12 =>
 bnd (gD v8 false (eQ .not v12 h12) h12) fun v13 h13 =>
 bnd (aN v8 (.b true) v13 h13) fun v14 h14 =>
 aR v14 (
 some (.t [.l0,(aE 19)],h14)) (
  bCm r n x1 x2 h14)
def bCi (r : RT) (n : Nat) (x1 x2 x6 : DV) (h0 : Hp) : aH :=
 fM 4 x2 h0 fun v1 h1 =>
 bnd (r 209 [v1,(.f 210 [] [])] h1) fun v2 h2 =>
  aZd r n x1 x2 x6 v2 h2
def zS (r : RT) (n : Nat) (x1 x2 : DV) (h0 : Hp) : aH :=
 bnd (r 208 [x1,(aE 0),(aE 8)] h0) fun v1 h1 =>
 bnd (gD v1 true (aB 0 x2 h1) h1) fun v2 h2 =>
 bnd (gD v1 true (aA v2 h2) h2) fun v3 h3 =>
 bnd (gD v1 true (fS v3 h3) h3) fun v4 h4 =>
 bnd (gD v1 true (r 208 [v4,(aE 1),(aE 60)] h4) h4) fun v5 h5 =>
 bnd (aN v1 v5 (.b false) h5) fun v6 h6 =>
 bnd (gD v6 true (aB 1 x2 h6) h6) fun v7 h7 =>
 bnd (gD v6 true (aA v7 h7) h7) fun v8 h8 =>
 bnd (gD v6 true (r 208 [v8,(aE 0),(aE 4)] h8) h8) fun v9 h9 =>
 bnd (aN v6 v9 (.b false) h9) fun v10 h10 =>
 bnd (gD v10 true (aB 2 x2 h10) h10) fun v11 h11 =>
 bnd (gD v10 true (aA v11 h11) h11) fun v12 h12 =>
 bnd (gD v10 true (aB 1 x2 h12) h12) fun v13 h13 =>
 bnd (gD v10 true (aA v13 h13) h13) fun v14 h14 =>
 bnd (gD v10 true (r 208 [v12,v14,(aE 24)] h14) h14) fun v15 h15 =>
 bnd (aN v10 v15 (.b false) h15) fun v16 h16 =>
 bnd (gD v16 true (aB 3 x2 h16) h16) fun v17 h17 =>
 bnd (gD v16 true (aA v17 h17) h17) fun v18 h18 =>
 bnd (gD v16 true (r 208 [v18,(aE 0),(aE 255)] h18) h18) fun v19 h19 =>
 bnd (aN v16 v19 (.b false) h19) fun v20 h20 =>
  bCi r n x1 x2 v20 h20
def s142 (r : RT) (n : Nat) (x0 x1 : DV) (h0 : Hp) : aH :=
 bnd (bZ x0 h0) fun v1 h1 =>
  zS r n x1 v1 h1
abbrev c142 : Code:=cf Tryz.f142
abbrev aNe : Code:=cR c142
abbrev aIv : Code:=cR aNe
abbrev aPr : Code:=cR aIv
abbrev aNw : Code:=cR aPr
abbrev dUo : Code:=cR aNw
abbrev aAs : Code:=cL aNw
abbrev bAb : Code:=cR aAs
abbrev aMm : Code:=cL bAb
abbrev nZ : Code:=cL aMm
abbrev bJw : Code:=cL aAs
abbrev bMs : Code:=cL aPr
abbrev bGh : Code:=cL aIv
abbrev bEr : Code:=cL aNe
abbrev aIa : Code:=cL c142
abbrev r142 : K:=bE CF Tryz.f142
def D142 (r : RT) (n : Nat) (c : Code) (X : Nat → K) (k : K) : K:=aW CF r 95 n c X r142 k
theorem dOt : D142 r n dUo x0 r142 = (K1 (eI r n) 2) :=
 (by kernel_rfl)
theorem cVv (kk7 : cN) (q0 : TT1) : D142 r n nZ (xs x0 0 (K1 q0 2)) (K5 kk7 1 2 60 61 62) = fun (env : aZ) (h : Hp) =>
 bnd (aC .lss (env 62) (env 61) h) fun v1 h1 =>
 aR v1 (
 bnd (aG 3 (env 60) (env 62) h1) fun v2 h2 =>
 bnd (aK 3 v2 h2) fun v3 h3 =>
 bnd (bQ [(aE 0),(aE 0),(aE 0)] h3) fun v4 h4 =>
 bnd (aJ 3 v4 v3 h4) fun _ h5 =>
 bnd (aK 3 v4 h5) fun v6 h6 =>
 bnd (r 146 [v6] h6) fun v7 h7 =>
 bnd (eQ .not v7 h7) fun v8 h8 =>
 bnd (gD v8 false (aK 6 (env 2) h8) h8) fun v9 h9 =>
 bnd (gD v8 false (aK 3 v4 h9) h9) fun v10 h10 =>
 bnd (gD v8 false (some ((env 1),h10)) h10) fun v11 h11 =>
 bnd (gD v8 false (r 212 [v9,v10,v11] h11) h11) fun v12 h12 =>
 bnd (gD v8 false (eQ .not v12 h12) h12) fun v13 h13 =>
 bnd (aN v8 (.b true) v13 h13) fun v14 h14 =>
 aR v14 (
 some (.t [.l0,(aE 19)],h14)) (
 bnd (aC .add (env 62) (aE 1) h14) fun v15 h15 =>
    kk7 (env 1) (env 2) (env 60) (env 61) v15 h15)) (
      q0 (env 2) h1):=by kernel_rfl
theorem bTo (kk7 : cN) : (fun (env : aZ) (h : Hp) =>
 bnd (aC .lss (env 62) (env 61) h) fun v1 h1 =>
 aR v1 (
 bnd (aG 3 (env 60) (env 62) h1) fun v2 h2 =>
 bnd (aK 3 v2 h2) fun v3 h3 =>
 bnd (bQ [(aE 0),(aE 0),(aE 0)] h3) fun v4 h4 =>
 bnd (aJ 3 v4 v3 h4) fun _ h5 =>
 bnd (aK 3 v4 h5) fun v6 h6 =>
 bnd (r 146 [v6] h6) fun v7 h7 =>
 bnd (eQ .not v7 h7) fun v8 h8 =>
 bnd (gD v8 false (aK 6 (env 2) h8) h8) fun v9 h9 =>
 bnd (gD v8 false (aK 3 v4 h9) h9) fun v10 h10 =>
 bnd (gD v8 false (some ((env 1),h10)) h10) fun v11 h11 =>
 bnd (gD v8 false (r 212 [v9,v10,v11] h11) h11) fun v12 h12 =>
 bnd (gD v8 false (eQ .not v12 h12) h12) fun v13 h13 =>
 bnd (aN v8 (.b true) v13 h13) fun v14 h14 =>
 aR v14 (
 some (.t [.l0,(aE 19)],h14)) (
 bnd (aC .add (env 62) (aE 1) h14) fun v15 h15 =>
    kk7 (env 1) (env 2) (env 60) (env 61) v15 h15)) (
      eI r n (env 2) h1)) = (K5 (aKc r n kk7) 1 2 60 61 62):=by kernel_rfl
theorem cPa (kk7 : cN) : D142 r n nZ (xs x0 0 (K1 (eI r n) 2)) (K5 kk7 1 2 60 61 62) = (K5 (aKc r n kk7) 1 2 60 61 62) :=
 (cVv r n kk7 (eI r n)).trans (bTo r n kk7)
theorem cIs (m : Nat) : aM (fun kk=>D142 r n nZ (xs x0 0 (K1 (eI r n) 2)) kk) m = (K5 (xX r n m) 1 2 60 61 62):=by
 induction m with
 | zero=>exact (by kernel_rfl : aM (fun kk=>D142 r n nZ (xs x0 0 (K1 (eI r n) 2)) kk) 0 = (K5 (xX r n 0) 1 2 60 61 62))
 | succ m ih =>
  refine (by kernel_rfl : aM (fun kk=>D142 r n nZ (xs x0 0 (K1 (eI r n) 2)) kk) (m + 1) = D142 r n nZ (xs x0 0 (K1 (eI r n) 2)) (aM (fun kk=>D142 r n nZ (xs x0 0 (K1 (eI r n) 2)) kk) m)).trans ?_
  rw [ih]
  exact (cPa r n (xX r n m)).trans (by kernel_rfl)
theorem cZb : D142 r n aMm (xs x0 0 (K1 (eI r n) 2)) (K1 (eI r n) 2) = (K5 (cUz r n) 1 2 60 61 62) :=
 (by kernel_rfl : D142 r n aMm (xs x0 0 (K1 (eI r n) 2)) (K1 (eI r n) 2) = aM (fun kk=>D142 r n nZ (xs x0 0 (K1 (eI r n) 2)) kk) n).trans ((cIs r n n).trans (by kernel_rfl))
theorem dJm : D142 r n bAb x0 (K1 (eI r n) 2) = (K5 (bBk r n) 1 2 60 61 62) :=
 (by kernel_rfl : D142 r n bAb x0 (K1 (eI r n) 2) = D142 r n aMm (xs x0 0 (K1 (eI r n) 2)) (K1 (eI r n) 2)).trans
 ((cZb r n).trans (by kernel_rfl))
theorem cEd : D142 r n aNw x0 r142 = D142 r n aAs x0 (K1 (eI r n) 2) :=
 congrArg (fun k=>D142 r n aAs x0 k) (dOt r n)
theorem cJi : D142 r n aAs x0 (K1 (eI r n) 2) = D142 r n bJw x0 (K5 (bBk r n) 1 2 60 61 62) :=
 congrArg (fun k=>D142 r n bJw x0 k) (dJm r n)
theorem dDe : D142 r n aNw x0 r142 = (K2 (bCm r n) 1 2) :=
 (cEd r n).trans
 ((cJi r n).trans
 ((by kernel_rfl)))
theorem cOx : D142 r n aPr x0 r142 = D142 r n bMs x0 (K2 (bCm r n) 1 2) :=
 congrArg (fun k=>D142 r n bMs x0 k) (dDe r n)
theorem dEk : D142 r n aPr x0 r142 = (K4 (aZd r n) 1 2 6 7) :=
 (cOx r n).trans
 ((by kernel_rfl))
theorem cLd : D142 r n aIv x0 r142 = D142 r n bGh x0 (K4 (aZd r n) 1 2 6 7) :=
 congrArg (fun k=>D142 r n bGh x0 k) (dEk r n)
theorem cZv : D142 r n aIv x0 r142 = (K3 (bCi r n) 1 2 6) :=
 (cLd r n).trans
 ((by kernel_rfl))
theorem cNz : D142 r n aNe x0 r142 = D142 r n bEr x0 (K3 (bCi r n) 1 2 6) :=
 congrArg (fun k=>D142 r n bEr x0 k) (cZv r n)
theorem dHd : D142 r n aNe x0 r142 = (K2 (zS r n) 1 2) :=
 (cNz r n).trans
 ((by kernel_rfl))
theorem dZq : D142 r n c142 x0 r142 = D142 r n aIa x0 (K2 (zS r n) 1 2) :=
 congrArg (fun k=>D142 r n aIa x0 k) (dHd r n)
theorem eAc (q0 : gP) : D142 r n aIa x0 (K2 q0 1 2) = fun (env : aZ) (h : Hp) =>
 bnd (bZ (env 0) h) fun v1 h1 =>
  q0 (env 1) v1 h1:=by kernel_rfl
theorem dNl : (fun (env : aZ) (h : Hp) =>
 bnd (bZ (env 0) h) fun v1 h1 =>
  zS r n (env 1) v1 h1) = (K2 (s142 r n) 0 1):=by kernel_rfl
theorem ePo : D142 r n c142 x0 r142 = (K2 (s142 r n) 0 1) :=
 (dZq r n).trans
 ((eAc r n (zS r n)).trans (dNl r n))
theorem dYm : aI CF r n 142 args h = s142 r n (bI args 0) (bI args 1) h :=
 (by kernel_rfl : aI CF r n 142 args h = D142 r n c142 x0 r142 (aQ args) h).trans ((congrFun (congrFun (ePo r n) (aQ args)) h).trans (by kernel_rfl))
def s144 (r : RT) (n : Nat) (x0 x1 : DV) (h0 : Hp) : aH :=
 bnd (aC .lss x1 (.i .i64 (Int.negSucc 1152921504606846975)) h0) fun v1 h1 =>
 bnd (gD v1 false (some (x1,h1)) h1) fun v2 h2 =>
 bnd (gD v1 false (aC .gtr v2 (aE 1152921504606846976) h2) h2) fun v3 h3 =>
 bnd (aN v1 (.b true) v3 h3) fun v4 h4 =>
 aR v4 (
 some (.t [(aE 0),(aE 2)],h4)) (
 bnd (lQ [x1] h4) fun v5 h5 =>
 bnd (aF 0 v5 h5) fun v6 h6 =>
 bnd (aF 1 v5 h6) fun v7 h7 =>
 aR v7 (
 some (.t [v6,(aE 0)],h7)) (
 bnd (r 26 [x0,(aE 8)] h7) fun v8 h8 =>
 bnd (aS [(aE 0)] 1 [(0,1,x1)] h8) fun v9 h9 =>
 bnd (r 59 [x0,v8,(aE 1),v9] h9) fun v10 h10 =>
 bnd (aF 0 v10 h10) fun v11 h11 =>
 bnd (aF 1 v10 h11) fun v12 h12 =>
 some (.t [v11,v12],h12)))
theorem dUb : aI CF r n 144 args h = s144 r n (bI args 0) (bI args 1) h :=
 by kernel_rfl
def s146 (r : RT) (n : Nat) (x0 : DV) (h0 : Hp) : aH :=
 bnd (bZ x0 h0) fun v1 h1 =>
  fM 0 v1 h1 fun v2 h2 =>
 bnd (r 216 [v2] h2) fun v3 h3 =>
 bnd (aF 0 v3 h3) fun v4 h4 =>
 bnd (aF 1 v3 h4) fun v5 h5 =>
  fM 0 v1 h5 fun v6 h6 =>
 bnd (aC .geq v6 (aE 1) h6) fun v7 h7 =>
 bnd (gD v7 true (aB 0 v1 h7) h7) fun v8 h8 =>
 bnd (gD v7 true (aA v8 h8) h8) fun v9 h9 =>
 bnd (gD v7 true (aC .leq v9 (aE 20) h9) h9) fun v10 h10 =>
 bnd (aN v7 v10 (.b false) h10) fun v11 h11 =>
 bnd (gD v11 true (aB 1 v1 h11) h11) fun v12 h12 =>
 bnd (gD v11 true (aA v12 h12) h12) fun v13 h13 =>
 bnd (gD v11 true (some (v4,h13)) h13) fun v14 h14 =>
 bnd (gD v11 true (r 217 [v13,v14] h14) h14) fun v15 h15 =>
 bnd (aN v11 v15 (.b false) h15) fun v16 h16 =>
 bnd (gD v16 true (aB 2 v1 h16) h16) fun v17 h17 =>
 bnd (gD v16 true (aA v17 h17) h17) fun v18 h18 =>
 bnd (gD v16 true (some (v5,h18)) h18) fun v19 h19 =>
 bnd (gD v16 true (r 217 [v18,v19] h19) h19) fun v20 h20 =>
 bnd (aN v16 v20 (.b false) h20) fun v21 h21 =>
 some (v21,h21)
theorem eHt : aI CF r n 146 args h = s146 r n (bI args 0) h :=
 by kernel_rfl
def s147 (r : RT) (n : Nat) (x0 : DV) (h0 : Hp) : aH :=
 bnd (bQ [(.s []),(aE 0),(aE 0),(aE 0),.l0,.l0] h0) fun v1 h1 =>
  fL 1 x0 h1 fun v2 h2 =>
 bnd (r 93 [v2] h2) fun v3 h3 =>
  fL 12 x0 h3 fun v4 h4 =>
 bnd (gD v4 false (some (v3,h4)) h4) fun v5 h5 =>
 bnd (gD v4 false (pEq (.pointer 95) true v5 .p0 h5) h5) fun v6 h6 =>
 bnd (aN v4 (.b true) v6 h6) fun v7 h7 =>
 aR v7 (
 bnd (aY [(.s []),(aE 0),(aE 0),(aE 0),.l0,.l0] [] h7) fun v8 h8 =>
 bnd (aJ 6 v1 v8 h8) fun _ h9 =>
 bnd (aK 6 v1 h9) fun v10 _ =>
 some (.t [v10,(aE 0)],h9)) (
  fL 0 v3 h7 fun v11 h11 =>
 bnd (r 218 [x0,v11] h11) fun v12 h12 =>
 bnd (aV v3 h12) fun v13 h13 =>
 bnd (aB 3 v13 h13) fun v14 h14 =>
 bnd (aA v14 h14) fun v15 h15 =>
 cnd (aX (aA v14 h7) v15 && true) (
 bnd (aJ 6 v1 v12 h15) fun v16 h16 =>
 cnd (aX (aA v14 h16) v15 && true) (
 bnd (aK 6 v1 h16) fun v17 _ =>
 some (.t [v17,v15],h16))))
theorem dVv : aI CF r n 147 args h = s147 r n (bI args 0) h :=
 by kernel_rfl
end Go.Dd

end
