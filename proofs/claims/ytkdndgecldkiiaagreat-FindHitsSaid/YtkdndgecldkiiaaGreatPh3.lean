/- A part of the proof: Q13 Q14 Q15 Q16 Qt HK: each text has a comment of its own. -/
import Derived.Test.YtkdndgecldkiiaaGreatPh2
set_option linter.unusedVariables false
set_option linter.unusedSimpArgs false
set_option linter.constructorNameAsVariable false
set_option maxRecDepth 100000
namespace Go.Dd
open Go.Proofs
variable (r : RT) (n : Nat) (args : List DV) (h : Hp)
noncomputable def s200 (r : RT) (n : Nat) (x0 x1 : DV) (h0 : Hp) : aK :=
 bnd (aA x1 h0) fun v1 h1 =>
 bnd (r 177 [v1, x0] h1) fun v2 h2 =>
 bnd (aF .geq v2 (aD 0) h2) fun v3 h3 =>
 some (v3, h3)
noncomputable abbrev c200 : Code := cf Tryz.f200
noncomputable abbrev r200 : K := aR CF Tryz.f200
noncomputable def D200 (r : RT) (n : Nat) (c : Code) (X : Nat → K) (k : K) : K := aM CF r 8 n c X r200 k
theorem eGm : D200 r n c200 x0 r200 = (K2 (s200 r n) 0 1) :=
 (by kernel_rfl)
theorem dLd : aE CF r n 200 args h = s200 r n (aO args 0) (aO args 1) h :=
 (by kernel_rfl : aE CF r n 200 args h = D200 r n c200 x0 r200 (aI args) h).trans ((congrFun (congrFun (eGm r n) (aI args)) h).trans (by kernel_rfl))
noncomputable def s201 (r : RT) (n : Nat) (x0 x1 : DV) (h0 : Hp) : aK :=
 bnd (mQ [x0, x1] h0) fun v1 h1 =>
 some (v1, h1)
noncomputable abbrev c201 : Code := cf Tryz.f201
noncomputable abbrev r201 : K := aR CF Tryz.f201
noncomputable def D201 (r : RT) (n : Nat) (c : Code) (X : Nat → K) (k : K) : K := aM CF r 8 n c X r201 k
theorem eHe : D201 r n c201 x0 r201 = (K2 (s201 r n) 0 1) :=
 (by kernel_rfl)
theorem dQg : aE CF r n 201 args h = s201 r n (aO args 0) (aO args 1) h :=
 (by kernel_rfl : aE CF r n 201 args h = D201 r n c201 x0 r201 (aI args) h).trans ((congrFun (congrFun (eHe r n) (aI args)) h).trans (by kernel_rfl))
noncomputable def s202 (r : RT) (n : Nat) (x0 x1 : DV) (h0 : Hp) : aK :=
 bnd (aQ x0 h0) fun v1 h1 =>
 bnd (aB 1 v1 h1) fun v2 h2 =>
 bnd (aA v2 h2) fun v3 h3 =>
 bnd (aF .add v3 x1 h3) fun v4 h4 =>
 bnd (aQ x0 h4) fun v5 h5 =>
 bnd (aB 0 v5 h5) fun v6 h6 =>
 bnd (aA v6 h6) fun v7 h7 =>
 bnd (eC v7 h7) fun v8 h8 =>
 bnd (aF .geq v4 v8 h8) fun v9 h9 =>
 aU v9 (
 some ((.i .u8 (Int.ofNat 0)), h9)) (
 bnd (aQ x0 h9) fun v10 h10 =>
 bnd (aB 0 v10 h10) fun v11 h11 =>
 bnd (aA v11 h11) fun v12 h12 =>
 bnd (aQ x0 h12) fun v13 h13 =>
 bnd (aB 1 v13 h13) fun v14 h14 =>
 bnd (aA v14 h14) fun v15 h15 =>
 bnd (aF .add v15 x1 h15) fun v16 h16 =>
 bnd (eT v12 v16 h16) fun v17 h17 =>
 some (v17, h17))
noncomputable abbrev c202 : Code := cf Tryz.f202
noncomputable abbrev r202 : K := aR CF Tryz.f202
noncomputable def D202 (r : RT) (n : Nat) (c : Code) (X : Nat → K) (k : K) : K := aM CF r 28 n c X r202 k
theorem dZu : D202 r n c202 x0 r202 = (K2 (s202 r n) 0 1) :=
 (by kernel_rfl)
theorem dTk : aE CF r n 202 args h = s202 r n (aO args 0) (aO args 1) h :=
 (by kernel_rfl : aE CF r n 202 args h = D202 r n c202 x0 r202 (aI args) h).trans ((congrFun (congrFun (dZu r n) (aI args)) h).trans (by kernel_rfl))
noncomputable def s203 (r : RT) (n : Nat) (x0 : DV) (h0 : Hp) : aK :=
 bnd (aF .geq x0 (.i .u8 (Int.ofNat 97)) h0) fun v1 h1 =>
 bnd (gD v1 true (some (x0, h1)) h1) fun v2 h2 =>
 bnd (gD v1 true (aF .leq v2 (.i .u8 (Int.ofNat 122)) h2) h2) fun v3 h3 =>
 bnd (aP v1 v3 (.b false) h3) fun v4 h4 =>
 bnd (gD v4 false (some (x0, h4)) h4) fun v5 h5 =>
 bnd (gD v4 false (aF .geq v5 (.i .u8 (Int.ofNat 65)) h5) h5) fun v6 h6 =>
 bnd (gD v4 false (some (v6, h6)) h6) fun v7 h7 =>
 bnd (gD v7 true (some (x0, h7)) h7) fun v8 h8 =>
 bnd (gD v7 true (aF .leq v8 (.i .u8 (Int.ofNat 90)) h8) h8) fun v9 h9 =>
 bnd (gD v4 false (aP v7 v9 (.b false) h9) h9) fun v10 h10 =>
 bnd (aP v4 (.b true) v10 h10) fun v11 h11 =>
 some (v11, h11)
noncomputable abbrev c203 : Code := cf Tryz.f203
noncomputable abbrev r203 : K := aR CF Tryz.f203
noncomputable def D203 (r : RT) (n : Nat) (c : Code) (X : Nat → K) (k : K) : K := aM CF r 17 n c X r203 k
theorem eHh : D203 r n c203 x0 r203 = (K1 (s203 r n) 0) :=
 (by kernel_rfl)
theorem dQr : aE CF r n 203 args h = s203 r n (aO args 0) h :=
 (by kernel_rfl : aE CF r n 203 args h = D203 r n c203 x0 r203 (aI args) h).trans ((congrFun (congrFun (eHh r n) (aI args)) h).trans (by kernel_rfl))
noncomputable def s204 (r : RT) (n : Nat) (x0 : DV) (h0 : Hp) : aK :=
 bnd (aQ x0 h0) fun v1 h1 =>
 bnd (aB 0 v1 h1) fun v2 h2 =>
 bnd (aA v2 h2) fun v3 h3 =>
 bnd (eC v3 h3) fun v4 h4 =>
 bnd (r 175 [x0, (.f 230 [] []), v4] h4) fun v5 h5 =>
 bnd (eC v5 h5) fun v6 h6 =>
 bnd (aF .gtr v6 (aD 24) h6) fun v7 h7 =>
 aU v7 (
 some (.t [(.s []), (aD 12)], h7)) (
 some (.t [v5, (aD 0)], h7))
noncomputable abbrev c204 : Code := cf Tryz.f204
noncomputable abbrev r204 : K := aR CF Tryz.f204
noncomputable def D204 (r : RT) (n : Nat) (c : Code) (X : Nat → K) (k : K) : K := aM CF r 16 n c X r204 k
theorem eGn : D204 r n c204 x0 r204 = (K1 (s204 r n) 0) :=
 (by kernel_rfl)
theorem dVl : aE CF r n 204 args h = s204 r n (aO args 0) h :=
 (by kernel_rfl : aE CF r n 204 args h = D204 r n c204 x0 r204 (aI args) h).trans ((congrFun (congrFun (eGn r n) (aI args)) h).trans (by kernel_rfl))
noncomputable def s205 (r : RT) (n : Nat) (x0 : DV) (h0 : Hp) : aK :=
 bnd (r 202 [x0, (aD 0)] h0) fun v1 h1 =>
 bnd (aF .neq v1 (.i .u8 (Int.ofNat 58)) h1) fun v2 h2 =>
 bnd (gD v2 false (some (x0, h2)) h2) fun v3 h3 =>
 bnd (gD v2 false (r 202 [v3, (aD 1)] h3) h3) fun v4 h4 =>
 bnd (gD v2 false (aF .eql v4 (.i .u8 (Int.ofNat 61)) h4) h4) fun v5 h5 =>
 bnd (aP v2 (.b true) v5 h5) fun v6 h6 =>
 aU v6 (
 some ((.b false), h6)) (
 bnd (aQ x0 h6) fun v7 h7 =>
 bnd (aB 1 v7 h7) fun v8 h8 =>
 bnd (aA v8 h8) fun v9 h9 =>
 bnd (aF .add v9 (aD 1) h9) fun v10 h10 =>
 bnd (aQ x0 h10) fun v11 h11 =>
 bnd (aB 1 v11 h11) fun v12 h12 =>
 bnd (aC 1 v12 v10 h12) fun _ h13 =>
 some ((.b true), h13))
noncomputable abbrev c205 : Code := cf Tryz.f205
noncomputable abbrev r205 : K := aR CF Tryz.f205
noncomputable def D205 (r : RT) (n : Nat) (c : Code) (X : Nat → K) (k : K) : K := aM CF r 18 n c X r205 k
theorem eAe : D205 r n c205 x0 r205 = (K1 (s205 r n) 0) :=
 (by kernel_rfl)
theorem dNo : aE CF r n 205 args h = s205 r n (aO args 0) h :=
 (by kernel_rfl : aE CF r n 205 args h = D205 r n c205 x0 r205 (aI args) h).trans ((congrFun (congrFun (eAe r n) (aI args)) h).trans (by kernel_rfl))
noncomputable def s206 (r : RT) (n : Nat) (x0 : DV) (h0 : Hp) : aK :=
 bnd (aF .geq x0 (.i .u8 (Int.ofNat 48)) h0) fun v1 h1 =>
 bnd (gD v1 true (some (x0, h1)) h1) fun v2 h2 =>
 bnd (gD v1 true (aF .leq v2 (.i .u8 (Int.ofNat 57)) h2) h2) fun v3 h3 =>
 bnd (aP v1 v3 (.b false) h3) fun v4 h4 =>
 some (v4, h4)
noncomputable abbrev c206 : Code := cf Tryz.f206
noncomputable abbrev r206 : K := aR CF Tryz.f206
noncomputable def D206 (r : RT) (n : Nat) (c : Code) (X : Nat → K) (k : K) : K := aM CF r 9 n c X r206 k
theorem eHb : D206 r n c206 x0 r206 = (K1 (s206 r n) 0) :=
 (by kernel_rfl)
theorem dVx : aE CF r n 206 args h = s206 r n (aO args 0) h :=
 (by kernel_rfl : aE CF r n 206 args h = D206 r n c206 x0 r206 (aI args) h).trans ((congrFun (congrFun (eHb r n) (aI args)) h).trans (by kernel_rfl))
noncomputable def fO (r : RT) (n : Nat) (x4 : DV) (h0 : Hp) : aK :=
 some (.t [x4, (aD 0)], h0)
noncomputable def bKb (r : RT) (n : Nat) (kk5 : eK) (x4 x14 : DV) (h0 : Hp) : aK :=
 bnd (aBh x14 h0) fun v1 h1 =>
 bnd (aH 0 v1 h1) fun v2 h2 =>
 aU v2 (
 bnd (aH 2 v1 h2) fun v3 h3 =>
 bnd (aF .gtr x4 (aD 115292150460684697) h3) fun v4 h4 =>
 aU v4 (
 some (.t [(aD 0), (aD 2)], h4)) (
 bnd (aF .mul x4 (aD 10) h4) fun v5 h5 =>
 bnd (aF .sub v3 (.i .i32 (Int.ofNat 48)) h5) fun v6 h6 =>
 bnd (dS .i64 v6 h6) fun v7 h7 =>
 bnd (aF .add v5 v7 h7) fun v8 h8 =>
 bnd (aF .gtr v8 (aD 1152921504606846976) h8) fun v9 h9 =>
 aU v9 (
 some (.t [(aD 0), (aD 2)], h9)) (
     kk5 v8 x14 h9))) (
   fO r n x4 h2)
noncomputable def vT (r : RT) (n : Nat) (m : Nat) : eK :=
 Nat.rec (motive := fun _ => eK) (fun _ _ _ => none) (fun _ ih => bKb r n ih) m
noncomputable def bXn (r : RT) (n : Nat) : eK := vT r n n
noncomputable def aXc (r : RT) (n : Nat) (x4 x14 : DV) (h0 : Hp) : aK :=
 bXn r n x4 x14 h0
noncomputable def aUg (r : RT) (n : Nat) (x0 x4 : DV) (h0 : Hp) : aK :=
 bnd (aQ x0 h0) fun v1 h1 =>
 bnd (aB 0 v1 h1) fun v2 h2 =>
 bnd (aA v2 h2) fun v3 h3 =>
 bnd (eC v3 h3) fun v4 h4 =>
 bnd (r 175 [x0, (.f 206 [] []), v4] h4) fun v5 h5 =>
 bnd (oX v5 h5) fun v6 h6 =>
  aXc r n x4 v6 h6
noncomputable def aYs (r : RT) (n : Nat) (x0 : DV) (h0 : Hp) : aK :=
 aUg r n x0 (aD 0) h0
noncomputable def s207 (r : RT) (n : Nat) (x0 : DV) (h0 : Hp) : aK :=
 aYs r n x0 h0
noncomputable abbrev c207 : Code := cf Tryz.f207
noncomputable abbrev aPy : Code := cR c207
noncomputable abbrev aJq : Code := cR aPy
noncomputable abbrev dOb : Code := cR aJq
noncomputable abbrev xW : Code := cL aJq
noncomputable abbrev aTu : Code := cR xW
noncomputable abbrev aJm : Code := cL aTu
noncomputable abbrev oY : Code := cL aJm
noncomputable abbrev cEg : Code := cL xW
noncomputable abbrev cIf : Code := cL aPy
noncomputable abbrev bGi : Code := cL c207
noncomputable abbrev r207 : K := aR CF Tryz.f207
noncomputable def D207 (r : RT) (n : Nat) (c : Code) (X : Nat → K) (k : K) : K := aM CF r 29 n c X r207 k
theorem dFo : D207 r n dOb x0 r207 = (K1 (fO r n) 4) :=
 (by kernel_rfl)
theorem cIx (kk5 : eK) : D207 r n oY (xs x0 0 (K1 (fO r n) 4)) (K2 kk5 4 14) = (K2 (bKb r n kk5) 4 14) :=
 (by kernel_rfl)
theorem cDz (m : Nat) : aL (fun kk => D207 r n oY (xs x0 0 (K1 (fO r n) 4)) kk) m = (K2 (vT r n m) 4 14) := by
 induction m with
 | zero => exact (by kernel_rfl : aL (fun kk => D207 r n oY (xs x0 0 (K1 (fO r n) 4)) kk) 0 = (K2 (vT r n 0) 4 14))
 | succ m ih =>
  refine (by kernel_rfl : aL (fun kk => D207 r n oY (xs x0 0 (K1 (fO r n) 4)) kk) (m + 1) = D207 r n oY (xs x0 0 (K1 (fO r n) 4)) (aL (fun kk => D207 r n oY (xs x0 0 (K1 (fO r n) 4)) kk) m)).trans ?_
  rw [ih]
  exact (cIx r n (vT r n m)).trans (by kernel_rfl)
theorem dFc : D207 r n aJm (xs x0 0 (K1 (fO r n) 4)) (K1 (fO r n) 4) = (K2 (bXn r n) 4 14) :=
 (by kernel_rfl : D207 r n aJm (xs x0 0 (K1 (fO r n) 4)) (K1 (fO r n) 4) = aL (fun kk => D207 r n oY (xs x0 0 (K1 (fO r n) 4)) kk) n).trans ((cDz r n n).trans (by kernel_rfl))
theorem dEi : D207 r n aTu x0 (K1 (fO r n) 4) = (K2 (aXc r n) 4 14) :=
 (by kernel_rfl : D207 r n aTu x0 (K1 (fO r n) 4) = D207 r n aJm (xs x0 0 (K1 (fO r n) 4)) (K1 (fO r n) 4)).trans
 ((dFc r n).trans (by kernel_rfl))
theorem bQx : D207 r n aJq x0 r207 = D207 r n xW x0 (K1 (fO r n) 4) :=
 congrArg (fun k => D207 r n xW x0 k) (dFo r n)
theorem cDb : D207 r n xW x0 (K1 (fO r n) 4) = D207 r n cEg x0 (K2 (aXc r n) 4 14) :=
 congrArg (fun k => D207 r n cEg x0 k) (dEi r n)
theorem cRp : D207 r n aJq x0 r207 = (K2 (aUg r n) 0 4) :=
 (bQx r n).trans
 ((cDb r n).trans
 ((by kernel_rfl)))
theorem bZp : D207 r n aPy x0 r207 = D207 r n cIf x0 (K2 (aUg r n) 0 4) :=
 congrArg (fun k => D207 r n cIf x0 k) (cRp r n)
theorem cRh : D207 r n aPy x0 r207 = (K1 (aYs r n) 0) :=
 (bZp r n).trans
 ((by kernel_rfl))
theorem dSc : D207 r n c207 x0 r207 = D207 r n bGi x0 (K1 (aYs r n) 0) :=
 congrArg (fun k => D207 r n bGi x0 k) (cRh r n)
theorem eBr : D207 r n c207 x0 r207 = (K1 (s207 r n) 0) :=
 (dSc r n).trans
 ((by kernel_rfl))
theorem dVt : aE CF r n 207 args h = s207 r n (aO args 0) h :=
 (by kernel_rfl : aE CF r n 207 args h = D207 r n c207 x0 r207 (aI args) h).trans ((congrFun (congrFun (eBr r n) (aI args)) h).trans (by kernel_rfl))
noncomputable def bGp (r : RT) (n : Nat) (kk3 : eK) (x0 x4 : DV) (h0 : Hp) : aK :=
 bnd (aQ x0 h0) fun v1 h1 =>
 bnd (aB 0 v1 h1) fun v2 h2 =>
 bnd (aA v2 h2) fun v3 h3 =>
 bnd (eC v3 h3) fun v4 h4 =>
 bnd (r 175 [x0, (.f 231 [] []), v4] h4) fun v5 h5 =>
 bnd (eE .add x4 v5 h5) fun v6 h6 =>
 bnd (aQ x0 h6) fun v7 h7 =>
 bnd (aB 1 v7 h7) fun v8 h8 =>
 bnd (aA v8 h8) fun v9 h9 =>
 bnd (aQ x0 h9) fun v10 h10 =>
 bnd (aB 0 v10 h10) fun v11 h11 =>
 bnd (aA v11 h11) fun v12 h12 =>
 bnd (eC v12 h12) fun v13 h13 =>
 bnd (aF .geq v9 v13 h13) fun v14 h14 =>
 aU v14 (
 some (.t [(.s []), (aD 11)], h14)) (
 bnd (aQ x0 h14) fun v15 h15 =>
 bnd (aB 1 v15 h15) fun v16 h16 =>
 bnd (aA v16 h16) fun v17 h17 =>
 bnd (aF .add v17 (aD 1) h17) fun v18 h18 =>
 bnd (aQ x0 h18) fun v19 h19 =>
 bnd (aB 1 v19 h19) fun v20 h20 =>
 bnd (aC 1 v20 v18 h20) fun _ h21 =>
 bnd (r 202 [x0, (aD 0)] h21) fun v22 h22 =>
 bnd (aF .neq v22 (.i .u8 (Int.ofNat 39)) h22) fun v23 h23 =>
 aU v23 (
 some (.t [v6, (aD 0)], h23)) (
 bnd (eE .add v6 (.s [39]) h23) fun v24 h24 =>
 bnd (aQ x0 h24) fun v25 h25 =>
 bnd (aB 1 v25 h25) fun v26 h26 =>
 bnd (aA v26 h26) fun v27 h27 =>
 bnd (aF .add v27 (aD 1) h27) fun v28 h28 =>
 bnd (aQ x0 h28) fun v29 h29 =>
 bnd (aB 1 v29 h29) fun v30 h30 =>
 bnd (aC 1 v30 v28 h30) fun _ h31 =>
    kk3 x0 v24 h31))
noncomputable def uG (r : RT) (n : Nat) (m : Nat) : eK :=
 Nat.rec (motive := fun _ => eK) (fun _ _ _ => none) (fun _ ih => bGp r n ih) m
noncomputable def bRy (r : RT) (n : Nat) : eK := uG r n n
noncomputable def aYw (r : RT) (n : Nat) (x0 x4 : DV) (h0 : Hp) : aK :=
 bRy r n x0 x4 h0
noncomputable def bAc (r : RT) (n : Nat) (x0 : DV) (h0 : Hp) : aK :=
 aYw r n x0 (.s []) h0
noncomputable def s208 (r : RT) (n : Nat) (x0 : DV) (h0 : Hp) : aK :=
 bAc r n x0 h0
noncomputable abbrev c208 : Code := cf Tryz.f208
noncomputable abbrev aLz : Code := cR c208
noncomputable abbrev aVy : Code := cR aLz
noncomputable abbrev aGn : Code := cL aVy
noncomputable abbrev pH : Code := cL aGn
noncomputable abbrev bTy : Code := cL aLz
noncomputable abbrev cJc : Code := cL c208
noncomputable abbrev r208 : K := aR CF Tryz.f208
noncomputable def D208 (r : RT) (n : Nat) (c : Code) (X : Nat → K) (k : K) : K := aM CF r 44 n c X r208 k
theorem cAw (kk3 : eK) : D208 r n pH (xs x0 0 r208) (K2 kk3 0 4) = (K2 (bGp r n kk3) 0 4) :=
 (by kernel_rfl)
theorem bVn (m : Nat) : aL (fun kk => D208 r n pH (xs x0 0 r208) kk) m = (K2 (uG r n m) 0 4) := by
 induction m with
 | zero => exact (by kernel_rfl : aL (fun kk => D208 r n pH (xs x0 0 r208) kk) 0 = (K2 (uG r n 0) 0 4))
 | succ m ih =>
  refine (by kernel_rfl : aL (fun kk => D208 r n pH (xs x0 0 r208) kk) (m + 1) = D208 r n pH (xs x0 0 r208) (aL (fun kk => D208 r n pH (xs x0 0 r208) kk) m)).trans ?_
  rw [ih]
  exact (cAw r n (uG r n m)).trans (by kernel_rfl)
theorem dFp : D208 r n aGn (xs x0 0 r208) r208 = (K2 (bRy r n) 0 4) :=
 (by kernel_rfl : D208 r n aGn (xs x0 0 r208) r208 = aL (fun kk => D208 r n pH (xs x0 0 r208) kk) n).trans ((bVn r n n).trans (by kernel_rfl))
theorem cWs : D208 r n aVy x0 r208 = (K2 (aYw r n) 0 4) :=
 (by kernel_rfl : D208 r n aVy x0 r208 = D208 r n aGn (xs x0 0 r208) r208).trans
 ((dFp r n).trans (by kernel_rfl))
theorem bRe : D208 r n aLz x0 r208 = D208 r n bTy x0 (K2 (aYw r n) 0 4) :=
 congrArg (fun k => D208 r n bTy x0 k) (cWs r n)
theorem cPu : D208 r n aLz x0 r208 = (K1 (bAc r n) 0) :=
 (bRe r n).trans
 ((by kernel_rfl))
theorem dOz : D208 r n c208 x0 r208 = D208 r n cJc x0 (K1 (bAc r n) 0) :=
 congrArg (fun k => D208 r n cJc x0 k) (cPu r n)
theorem eEy : D208 r n c208 x0 r208 = (K1 (s208 r n) 0) :=
 (dOz r n).trans
 ((by kernel_rfl))
theorem dUb : aE CF r n 208 args h = s208 r n (aO args 0) h :=
 (by kernel_rfl : aE CF r n 208 args h = D208 r n c208 x0 r208 (aI args) h).trans ((congrFun (congrFun (eEy r n) (aI args)) h).trans (by kernel_rfl))
noncomputable def gB (r : RT) (n : Nat) (x5 : DV) (h0 : Hp) : aK :=
 some (.t [x5, (aD 0)], h0)
noncomputable def bIn (r : RT) (n : Nat) (kk8 : eK) (x0 x5 : DV) (h0 : Hp) : aK :=
 bnd (r 202 [x0, (aD 0)] h0) fun v1 h1 =>
 bnd (r 203 [v1] h1) fun v2 h2 =>
 aU v2 (
 bnd (aQ x0 h2) fun v3 h3 =>
 bnd (aB 1 v3 h3) fun v4 h4 =>
 bnd (aA v4 h4) fun v5 h5 =>
 bnd (r 204 [x0] h5) fun v6 h6 =>
 bnd (aH 0 v6 h6) fun v7 h7 =>
 bnd (aH 1 v6 h7) fun v8 h8 =>
 bnd (r 205 [x0] h8) fun v9 h9 =>
 bnd (fR .not v9 h9) fun v10 h10 =>
 aU v10 (
 bnd (aQ x0 h10) fun v11 h11 =>
 bnd (aB 1 v11 h11) fun v12 h12 =>
 bnd (aC 1 v12 v5 h12) fun _ h13 =>
 some (.t [x5, (aD 0)], h13)) (
 bnd (aF .neq v8 (aD 0) h10) fun v14 h14 =>
 aU v14 (
 some (.t [(.s []), v8], h14)) (
 bnd (eE .add v7 (.s [58]) h14) fun v15 h15 =>
 bnd (eE .add x5 v15 h15) fun v16 h16 =>
     kk8 x0 v16 h16))) (
      gB r n x5 h2)
noncomputable def vU (r : RT) (n : Nat) (m : Nat) : eK :=
 Nat.rec (motive := fun _ => eK) (fun _ _ _ => none) (fun _ ih => bIn r n ih) m
noncomputable def bQr (r : RT) (n : Nat) : eK := vU r n n
noncomputable def aWt (r : RT) (n : Nat) (x0 x5 : DV) (h0 : Hp) : aK :=
 bQr r n x0 x5 h0
noncomputable def aVn (r : RT) (n : Nat) (x0 x5 : DV) (h0 : Hp) : aK :=
 bnd (eE .add x5 (.s [58]) h0) fun v1 h1 =>
  aWt r n x0 v1 h1
noncomputable def bBd (r : RT) (n : Nat) (x0 x5 x6 : DV) (h0 : Hp) : aK :=
 bnd (aF .neq x6 (aD 0) h0) fun v1 h1 =>
 bnd (gD v1 false (some (x0, h1)) h1) fun v2 h2 =>
 bnd (gD v1 false (r 205 [v2] h2) h2) fun v3 h3 =>
 bnd (gD v1 false (fR .not v3 h3) h3) fun v4 h4 =>
 bnd (aP v1 (.b true) v4 h4) fun v5 h5 =>
 aU v5 (
 some (.t [x5, x6], h5)) (
  aVn r n x0 x5 h5)
noncomputable def bAy (r : RT) (n : Nat) (x0 : DV) (h0 : Hp) : aK :=
 bnd (r 204 [x0] h0) fun v1 h1 =>
 bnd (aH 0 v1 h1) fun v2 h2 =>
 bnd (aH 1 v1 h2) fun v3 h3 =>
  bBd r n x0 v2 v3 h3
noncomputable def aVv (r : RT) (n : Nat) (x0 : DV) (h0 : Hp) : aK :=
 bnd (r 202 [x0, (aD 0)] h0) fun v1 h1 =>
 bnd (r 203 [v1] h1) fun v2 h2 =>
 bnd (fR .not v2 h2) fun v3 h3 =>
 aU v3 (
 some (.t [(.s []), (aD 10)], h3)) (
  bAy r n x0 h3)
noncomputable def aUd (r : RT) (n : Nat) (x0 : DV) (h0 : Hp) : aK :=
 bnd (r 176 [(.s [43, 45, 42, 47, 60, 62, 61, 126, 44, 64, 38, 37])] h0) fun v1 h1 =>
 bnd (r 175 [x0, v1, (aD 2)] h1) fun v2 h2 =>
 bnd (eE .neq v2 (.s []) h2) fun v3 h3 =>
 aU v3 (
 some (.t [v2, (aD 0)], h3)) (
  aVv r n x0 h3)
noncomputable def s209 (r : RT) (n : Nat) (x0 : DV) (h0 : Hp) : aK :=
 aUd r n x0 h0
noncomputable abbrev c209 : Code := cf Tryz.f209
noncomputable abbrev aHn : Code := cR c209
noncomputable abbrev aKo : Code := cR aHn
noncomputable abbrev aOw : Code := cR aKo
noncomputable abbrev aMo : Code := cR aOw
noncomputable abbrev aGc : Code := cR aMo
noncomputable abbrev aEk : Code := cR aGc
noncomputable abbrev dOd : Code := cR aEk
noncomputable abbrev aNh : Code := cL aEk
noncomputable abbrev aDr : Code := cL aNh
noncomputable abbrev lS : Code := cL aDr
noncomputable abbrev bDx : Code := cL aGc
noncomputable abbrev bFx : Code := cL aMo
noncomputable abbrev bCc : Code := cL aOw
noncomputable abbrev bHt : Code := cL aKo
noncomputable abbrev bJk : Code := cL aHn
noncomputable abbrev bDy : Code := cL c209
noncomputable abbrev r209 : K := aR CF Tryz.f209
noncomputable def D209 (r : RT) (n : Nat) (c : Code) (X : Nat → K) (k : K) : K := aM CF r 64 n c X r209 k
theorem dBo : D209 r n dOd x0 r209 = (K1 (gB r n) 5) :=
 (by kernel_rfl)
theorem cLj (kk8 : eK) : D209 r n lS (xs x0 0 (K1 (gB r n) 5)) (K2 kk8 0 5) = (K2 (bIn r n kk8) 0 5) :=
 (by kernel_rfl)
theorem cAz (m : Nat) : aL (fun kk => D209 r n lS (xs x0 0 (K1 (gB r n) 5)) kk) m = (K2 (vU r n m) 0 5) := by
 induction m with
 | zero => exact (by kernel_rfl : aL (fun kk => D209 r n lS (xs x0 0 (K1 (gB r n) 5)) kk) 0 = (K2 (vU r n 0) 0 5))
 | succ m ih =>
  refine (by kernel_rfl : aL (fun kk => D209 r n lS (xs x0 0 (K1 (gB r n) 5)) kk) (m + 1) = D209 r n lS (xs x0 0 (K1 (gB r n) 5)) (aL (fun kk => D209 r n lS (xs x0 0 (K1 (gB r n) 5)) kk) m)).trans ?_
  rw [ih]
  exact (cLj r n (vU r n m)).trans (by kernel_rfl)
theorem cPy : D209 r n aDr (xs x0 0 (K1 (gB r n) 5)) (K1 (gB r n) 5) = (K2 (bQr r n) 0 5) :=
 (by kernel_rfl : D209 r n aDr (xs x0 0 (K1 (gB r n) 5)) (K1 (gB r n) 5) = aL (fun kk => D209 r n lS (xs x0 0 (K1 (gB r n) 5)) kk) n).trans ((cAz r n n).trans (by kernel_rfl))
theorem cIg : D209 r n aEk x0 r209 = D209 r n aNh x0 (K1 (gB r n) 5) :=
 congrArg (fun k => D209 r n aNh x0 k) (dBo r n)
theorem cUi : D209 r n aEk x0 r209 = (K2 (aWt r n) 0 5) :=
 (cIg r n).trans
 ((by kernel_rfl : D209 r n aNh x0 (K1 (gB r n) 5) = D209 r n aDr (xs x0 0 (K1 (gB r n) 5)) (K1 (gB r n) 5)).trans
 ((cPy r n).trans (by kernel_rfl)))
theorem cLo : D209 r n aGc x0 r209 = D209 r n bDx x0 (K2 (aWt r n) 0 5) :=
 congrArg (fun k => D209 r n bDx x0 k) (cUi r n)
theorem dHc : D209 r n aGc x0 r209 = (K2 (aVn r n) 0 5) :=
 (cLo r n).trans
 ((by kernel_rfl))
theorem bXd : D209 r n aMo x0 r209 = D209 r n bFx x0 (K2 (aVn r n) 0 5) :=
 congrArg (fun k => D209 r n bFx x0 k) (dHc r n)
theorem cOr : D209 r n aMo x0 r209 = (K3 (bBd r n) 0 5 6) :=
 (bXd r n).trans
 ((by kernel_rfl))
theorem cMn : D209 r n aOw x0 r209 = D209 r n bCc x0 (K3 (bBd r n) 0 5 6) :=
 congrArg (fun k => D209 r n bCc x0 k) (cOr r n)
theorem cUc : D209 r n aOw x0 r209 = (K1 (bAy r n) 0) :=
 (cMn r n).trans
 ((by kernel_rfl))
theorem cNu : D209 r n aKo x0 r209 = D209 r n bHt x0 (K1 (bAy r n) 0) :=
 congrArg (fun k => D209 r n bHt x0 k) (cUc r n)
theorem dDr : D209 r n aKo x0 r209 = (K1 (aVv r n) 0) :=
 (cNu r n).trans
 ((by kernel_rfl))
theorem cHc : D209 r n aHn x0 r209 = D209 r n bJk x0 (K1 (aVv r n) 0) :=
 congrArg (fun k => D209 r n bJk x0 k) (dDr r n)
theorem dDd : D209 r n aHn x0 r209 = (K1 (aUd r n) 0) :=
 (cHc r n).trans
 ((by kernel_rfl))
theorem dTh : D209 r n c209 x0 r209 = D209 r n bDy x0 (K1 (aUd r n) 0) :=
 congrArg (fun k => D209 r n bDy x0 k) (dDd r n)
theorem eGe : D209 r n c209 x0 r209 = (K1 (s209 r n) 0) :=
 (dTh r n).trans
 ((by kernel_rfl))
theorem dTg : aE CF r n 209 args h = s209 r n (aO args 0) h :=
 (by kernel_rfl : aE CF r n 209 args h = D209 r n c209 x0 r209 (aI args) h).trans ((congrFun (congrFun (eGe r n) (aI args)) h).trans (by kernel_rfl))
noncomputable def fK (r : RT) (n : Nat) (x2 x4 : DV) (h0 : Hp) : aK :=
 bnd (aG 6 x4 h0) fun v1 h1 =>
 bnd (aC 6 x2 v1 h1) fun _ h2 =>
 bnd (aG 6 x2 h2) fun v3 _ =>
 some (v3, h2)
noncomputable def aJc (r : RT) (n : Nat) (kk7 : dU) (x0 x2 x4 : DV) (h0 : Hp) : aK :=
 bnd (r 179 [x0, (aD 10), (.s [59])] h0) fun v1 h1 =>
 aU v1 (
 bnd (r 180 [x0] h1) fun v2 h2 =>
 bnd (aB 5 x4 (resv 1 h2)) fun v3 h3 =>
 bnd (aA v3 h3) fun v4 h4 =>
 bnd (r 237 [x0] h4) fun v5 h5 =>
 cnd (aX (aA v3 h5) v4 && true) (
 bnd (r 236 [v5] h5) fun v6 h6 =>
 cnd (aX (aA v3 h6) v4 && true) (
 bnd (aV (bF 0 h2.next) cV 1 [(0, 6, v6)] h6) fun v7 h7 =>
 bnd (aY 6 104 v4 v7 h7) fun v8 h8 =>
 bnd (aB 5 x4 h8) fun v9 h9 =>
 bnd (aC 1 v9 v8 h9) fun v10 h10 =>
      kk7 x0 x2 x4 h10))) (
      fK r n x2 x4 h1)
noncomputable def vF (r : RT) (n : Nat) (m : Nat) : dU :=
 Nat.rec (motive := fun _ => dU) (fun _ _ _ _ => none) (fun _ ih => aJc r n ih) m
noncomputable def bQp (r : RT) (n : Nat) : dU := vF r n n
noncomputable def zI (r : RT) (n : Nat) (x0 x2 x4 : DV) (h0 : Hp) : aK :=
 bQp r n x0 x2 x4 h0
noncomputable def aMg (r : RT) (n : Nat) (x0 x2 x3 : DV) (h0 : Hp) : aK :=
 bnd (aB 5 x3 (resv 2 h0)) fun v1 h1 =>
 bnd (aA v1 h1) fun v2 h2 =>
 bnd (aJ 6 v2 (aD 0) h2) fun v3 h3 =>
 bnd (aG 6 v3 h3) fun v4 h4 =>
 bnd (aG 6 x3 h4) fun v5 h5 =>
 bnd (r 236 [v5] h5) fun v6 h6 =>
 cnd (aX (aG 6 v3 h6) v4 && (aX (aA v1 h6) v2 && true)) (
 bnd (aV (bF 0 h0.next) [(aD 0), (.s []), (aD 0), .l0, .l0, .l0, (aD 0), (.s []), (aD 0), .l0, .l0, .l0] 2 [(0, 6, v4), (6, 6, v6)] h6) fun v7 h7 =>
 bnd (aS cV [(0, 1, (aD 8)), (5, 1, v7)] h7) fun v8 h8 =>
 bnd (jH (bF 1 h0.next) cV h8) fun v9 h9 =>
 bnd (aC 6 v9 v8 h9) fun v10 h10 =>
  zI r n x0 x2 v9 h10)
noncomputable def aZg (r : RT) (n : Nat) (x0 x2 x3 : DV) (h0 : Hp) : aK :=
 bnd (aB 0 x3 h0) fun v1 h1 =>
 bnd (aA v1 h1) fun v2 h2 =>
 bnd (aF .neq v2 (aD 7) h2) fun v3 h3 =>
 aU v3 (
 bnd (r 183 [x0, (aD 0)] h3) fun v4 h4 =>
 bnd (r 182 [x0, v4, (aD 13)] h4) fun v5 h5 =>
 bnd (aG 6 x3 h5) fun v6 h6 =>
 bnd (aC 6 x2 v6 h6) fun _ h7 =>
 bnd (aG 6 x2 h7) fun v8 _ =>
 some (v8, h7)) (
  aMg r n x0 x2 x3 h3)
noncomputable def zL (r : RT) (n : Nat) (x0 x2 x3 : DV) (h0 : Hp) : aK :=
 bnd (r 179 [x0, (aD 10), (.s [59])] h0) fun v1 h1 =>
 bnd (fR .not v1 h1) fun v2 h2 =>
 aU v2 (
 bnd (aG 6 x3 h2) fun v3 h3 =>
 bnd (aC 6 x2 v3 h3) fun _ h4 =>
 bnd (aG 6 x2 h4) fun v5 _ =>
 some (v5, h4)) (
  aZg r n x0 x2 x3 h2)
noncomputable def tF (r : RT) (n : Nat) (x0 x2 : DV) (h0 : Hp) : aK :=
 bnd (r 235 [x0] h0) fun v1 h1 =>
 bnd (r 234 [x0, v1] h1) fun v2 h2 =>
 bnd (r 233 [x0, v2] h2) fun v3 h3 =>
 bnd (r 232 [x0, v3] h3) fun v4 h4 =>
 bnd (aZ cV h4) fun v5 h5 =>
 bnd (aC 6 v5 v4 h5) fun _ h6 =>
  zL r n x0 x2 v5 h6
noncomputable def s210 (r : RT) (n : Nat) (x0 : DV) (h0 : Hp) : aK :=
 bnd (aZ cV h0) fun v1 h1 =>
  tF r n x0 v1 h1
noncomputable abbrev c210 : Code := cf Tryz.f210
noncomputable abbrev aGo : Code := cR c210
noncomputable abbrev aIh : Code := cR aGo
noncomputable abbrev aMt : Code := cR aIh
noncomputable abbrev aFr : Code := cR aMt
noncomputable abbrev aId : Code := cR aFr
noncomputable abbrev dUa : Code := cR aId
noncomputable abbrev aNn : Code := cL aId
noncomputable abbrev aNd : Code := cL aNn
noncomputable abbrev mZ : Code := cL aNd
noncomputable abbrev aIx : Code := cL aFr
noncomputable abbrev bKd : Code := cL aMt
noncomputable abbrev bDq : Code := cL aIh
noncomputable abbrev aGp : Code := cL aGo
noncomputable abbrev aKw : Code := cL c210
noncomputable abbrev r210 : K := aR CF Tryz.f210
noncomputable def D210 (r : RT) (n : Nat) (c : Code) (X : Nat → K) (k : K) : K := aM CF r 46 n c X r210 k
theorem dAu : D210 r n dUa x0 r210 = (K2 (fK r n) 2 4) :=
 (by kernel_rfl)
theorem cAa (kk7 : dU) (q0 : eK) : D210 r n mZ (xs x0 0 (K2 q0 2 4)) (K3 kk7 0 2 4) = fun (env : bB) (h : Hp) =>
 bnd (r 179 [(env 0), (aD 10), (.s [59])] h) fun v1 h1 =>
 aU v1 (
 bnd (r 180 [(env 0)] h1) fun v2 h2 =>
 bnd (aB 5 (env 4) (resv 1 h2)) fun v3 h3 =>
 bnd (aA v3 h3) fun v4 h4 =>
 bnd (r 237 [(env 0)] h4) fun v5 h5 =>
 cnd (aX (aA v3 h5) v4 && true) (
 bnd (r 236 [v5] h5) fun v6 h6 =>
 cnd (aX (aA v3 h6) v4 && true) (
 bnd (aV (bF 0 h2.next) cV 1 [(0, 6, v6)] h6) fun v7 h7 =>
 bnd (aY 6 104 v4 v7 h7) fun v8 h8 =>
 bnd (aB 5 (env 4) h8) fun v9 h9 =>
 bnd (aC 1 v9 v8 h9) fun v10 h10 =>
      kk7 (env 0) (env 2) (env 4) h10))) (
      q0 (env 2) (env 4) h1) := by kernel_rfl
theorem bLj (kk7 : dU) : (fun (env : bB) (h : Hp) =>
 bnd (r 179 [(env 0), (aD 10), (.s [59])] h) fun v1 h1 =>
 aU v1 (
 bnd (r 180 [(env 0)] h1) fun v2 h2 =>
 bnd (aB 5 (env 4) (resv 1 h2)) fun v3 h3 =>
 bnd (aA v3 h3) fun v4 h4 =>
 bnd (r 237 [(env 0)] h4) fun v5 h5 =>
 cnd (aX (aA v3 h5) v4 && true) (
 bnd (r 236 [v5] h5) fun v6 h6 =>
 cnd (aX (aA v3 h6) v4 && true) (
 bnd (aV (bF 0 h2.next) cV 1 [(0, 6, v6)] h6) fun v7 h7 =>
 bnd (aY 6 104 v4 v7 h7) fun v8 h8 =>
 bnd (aB 5 (env 4) h8) fun v9 h9 =>
 bnd (aC 1 v9 v8 h9) fun v10 h10 =>
      kk7 (env 0) (env 2) (env 4) h10))) (
      fK r n (env 2) (env 4) h1)) = (K3 (aJc r n kk7) 0 2 4) := by kernel_rfl
theorem cNq (kk7 : dU) : D210 r n mZ (xs x0 0 (K2 (fK r n) 2 4)) (K3 kk7 0 2 4) = (K3 (aJc r n kk7) 0 2 4) :=
 (cAa r n kk7 (fK r n)).trans (bLj r n kk7)
theorem cIv (m : Nat) : aL (fun kk => D210 r n mZ (xs x0 0 (K2 (fK r n) 2 4)) kk) m = (K3 (vF r n m) 0 2 4) := by
 induction m with
 | zero => exact (by kernel_rfl : aL (fun kk => D210 r n mZ (xs x0 0 (K2 (fK r n) 2 4)) kk) 0 = (K3 (vF r n 0) 0 2 4))
 | succ m ih =>
  refine (by kernel_rfl : aL (fun kk => D210 r n mZ (xs x0 0 (K2 (fK r n) 2 4)) kk) (m + 1) = D210 r n mZ (xs x0 0 (K2 (fK r n) 2 4)) (aL (fun kk => D210 r n mZ (xs x0 0 (K2 (fK r n) 2 4)) kk) m)).trans ?_
  rw [ih]
  exact (cNq r n (vF r n m)).trans (by kernel_rfl)
theorem cRx : D210 r n aNd (xs x0 0 (K2 (fK r n) 2 4)) (K2 (fK r n) 2 4) = (K3 (bQp r n) 0 2 4) :=
 (by kernel_rfl : D210 r n aNd (xs x0 0 (K2 (fK r n) 2 4)) (K2 (fK r n) 2 4) = aL (fun kk => D210 r n mZ (xs x0 0 (K2 (fK r n) 2 4)) kk) n).trans ((cIv r n n).trans (by kernel_rfl))
theorem bRt : D210 r n aId x0 r210 = D210 r n aNn x0 (K2 (fK r n) 2 4) :=
 congrArg (fun k => D210 r n aNn x0 k) (dAu r n)
theorem cWy : D210 r n aId x0 r210 = (K3 (zI r n) 0 2 4) :=
 (bRt r n).trans
 ((by kernel_rfl : D210 r n aNn x0 (K2 (fK r n) 2 4) = D210 r n aNd (xs x0 0 (K2 (fK r n) 2 4)) (K2 (fK r n) 2 4)).trans
 ((cRx r n).trans (by kernel_rfl)))
theorem bYr : D210 r n aFr x0 r210 = D210 r n aIx x0 (K3 (zI r n) 0 2 4) :=
 congrArg (fun k => D210 r n aIx x0 k) (cWy r n)
theorem cIp (q0 : dU) : D210 r n aIx x0 (K3 q0 0 2 4) = fun (env : bB) (h : Hp) =>
 bnd (aB 5 (env 3) (resv 2 h)) fun v1 h1 =>
 bnd (aA v1 h1) fun v2 h2 =>
 bnd (aJ 6 v2 (aD 0) h2) fun v3 h3 =>
 bnd (aG 6 v3 h3) fun v4 h4 =>
 bnd (aG 6 (env 3) h4) fun v5 h5 =>
 bnd (r 236 [v5] h5) fun v6 h6 =>
 cnd (aX (aG 6 v3 h6) v4 && (aX (aA v1 h6) v2 && true)) (
 bnd (aV (bF 0 h.next) [(aD 0), (.s []), (aD 0), .l0, .l0, .l0, (aD 0), (.s []), (aD 0), .l0, .l0, .l0] 2 [(0, 6, v4), (6, 6, v6)] h6) fun v7 h7 =>
 bnd (aS cV [(0, 1, (aD 8)), (5, 1, v7)] h7) fun v8 h8 =>
 bnd (jH (bF 1 h.next) cV h8) fun v9 h9 =>
 bnd (aC 6 v9 v8 h9) fun v10 h10 =>
  q0 (env 0) (env 2) v9 h10) := by kernel_rfl
theorem bLx : (fun (env : bB) (h : Hp) =>
 bnd (aB 5 (env 3) (resv 2 h)) fun v1 h1 =>
 bnd (aA v1 h1) fun v2 h2 =>
 bnd (aJ 6 v2 (aD 0) h2) fun v3 h3 =>
 bnd (aG 6 v3 h3) fun v4 h4 =>
 bnd (aG 6 (env 3) h4) fun v5 h5 =>
 bnd (r 236 [v5] h5) fun v6 h6 =>
 cnd (aX (aG 6 v3 h6) v4 && (aX (aA v1 h6) v2 && true)) (
 bnd (aV (bF 0 h.next) [(aD 0), (.s []), (aD 0), .l0, .l0, .l0, (aD 0), (.s []), (aD 0), .l0, .l0, .l0] 2 [(0, 6, v4), (6, 6, v6)] h6) fun v7 h7 =>
 bnd (aS cV [(0, 1, (aD 8)), (5, 1, v7)] h7) fun v8 h8 =>
 bnd (jH (bF 1 h.next) cV h8) fun v9 h9 =>
 bnd (aC 6 v9 v8 h9) fun v10 h10 =>
  zI r n (env 0) (env 2) v9 h10)) = (K3 (aMg r n) 0 2 3) := by kernel_rfl
theorem cYl : D210 r n aFr x0 r210 = (K3 (aMg r n) 0 2 3) :=
 (bYr r n).trans
 ((cIp r n (zI r n)).trans (bLx r n))
theorem cAi : D210 r n aMt x0 r210 = D210 r n bKd x0 (K3 (aMg r n) 0 2 3) :=
 congrArg (fun k => D210 r n bKd x0 k) (cYl r n)
theorem cSx : D210 r n aMt x0 r210 = (K3 (aZg r n) 0 2 3) :=
 (cAi r n).trans
 ((by kernel_rfl))
theorem cFj : D210 r n aIh x0 r210 = D210 r n bDq x0 (K3 (aZg r n) 0 2 3) :=
 congrArg (fun k => D210 r n bDq x0 k) (cSx r n)
theorem cUq : D210 r n aIh x0 r210 = (K3 (zL r n) 0 2 3) :=
 (cFj r n).trans
 ((by kernel_rfl))
theorem cAf : D210 r n aGo x0 r210 = D210 r n aGp x0 (K3 (zL r n) 0 2 3) :=
 congrArg (fun k => D210 r n aGp x0 k) (cUq r n)
theorem cLy (q0 : dU) : D210 r n aGp x0 (K3 q0 0 2 3) = fun (env : bB) (h : Hp) =>
 bnd (r 235 [(env 0)] h) fun v1 h1 =>
 bnd (r 234 [(env 0), v1] h1) fun v2 h2 =>
 bnd (r 233 [(env 0), v2] h2) fun v3 h3 =>
 bnd (r 232 [(env 0), v3] h3) fun v4 h4 =>
 bnd (aZ cV h4) fun v5 h5 =>
 bnd (aC 6 v5 v4 h5) fun _ h6 =>
  q0 (env 0) (env 2) v5 h6 := by kernel_rfl
theorem bLb : (fun (env : bB) (h : Hp) =>
 bnd (r 235 [(env 0)] h) fun v1 h1 =>
 bnd (r 234 [(env 0), v1] h1) fun v2 h2 =>
 bnd (r 233 [(env 0), v2] h2) fun v3 h3 =>
 bnd (r 232 [(env 0), v3] h3) fun v4 h4 =>
 bnd (aZ cV h4) fun v5 h5 =>
 bnd (aC 6 v5 v4 h5) fun _ h6 =>
  zL r n (env 0) (env 2) v5 h6) = (K2 (tF r n) 0 2) := by kernel_rfl
theorem dDi : D210 r n aGo x0 r210 = (K2 (tF r n) 0 2) :=
 (cAf r n).trans
 ((cLy r n (zL r n)).trans (bLb r n))
theorem dQw : D210 r n c210 x0 r210 = D210 r n aKw x0 (K2 (tF r n) 0 2) :=
 congrArg (fun k => D210 r n aKw x0 k) (dDi r n)
theorem cRa (q0 : eK) : D210 r n aKw x0 (K2 q0 0 2) = fun (env : bB) (h : Hp) =>
 bnd (aZ cV h) fun v1 h1 =>
  q0 (env 0) v1 h1 := by kernel_rfl
theorem cDj : (fun (env : bB) (h : Hp) =>
 bnd (aZ cV h) fun v1 h1 =>
  tF r n (env 0) v1 h1) = (K1 (s210 r n) 0) := by kernel_rfl
theorem eGs : D210 r n c210 x0 r210 = (K1 (s210 r n) 0) :=
 (dQw r n).trans
 ((cRa r n (tF r n)).trans (cDj r n))
theorem dUu : aE CF r n 210 args h = s210 r n (aO args 0) h :=
 (by kernel_rfl : aE CF r n 210 args h = D210 r n c210 x0 r210 (aI args) h).trans ((congrFun (congrFun (eGs r n) (aI args)) h).trans (by kernel_rfl))
noncomputable def s211 (r : RT) (n : Nat) (x0 x1 : DV) (h0 : Hp) : aK :=
 bnd (bJ x1 h0) fun v1 h1 =>
 bnd (aZ [(.s []), (.b false), (.b false), (aD 0)] h1) fun v2 h2 =>
 bnd (aQ x0 h2) fun v3 h3 =>
 bnd (aB 6 v3 h3) fun v4 h4 =>
 bnd (aA v4 h4) fun v5 h5 =>
 bnd (r 238 [v5, (.f 239 [] [v1])] h5) fun v6 h6 =>
 bnd (aF .lss v6 (aD 0) h6) fun v7 h7 =>
 aU v7 (
 bnd (aS [(.s []), (.b false), (.b false), (aD 0)] [] h7) fun v8 h8 =>
 bnd (aC 4 v2 v8 h8) fun _ h9 =>
 bnd (aG 4 v2 h9) fun v10 _ =>
 some (.t [v10, (.b false)], h9)) (
 bnd (aQ x0 h7) fun v11 h11 =>
 bnd (aB 6 v11 h11) fun v12 h12 =>
 bnd (aA v12 h12) fun v13 h13 =>
 bnd (aJ 4 v13 v6 h13) fun v14 h14 =>
 bnd (aG 4 v14 h14) fun v15 h15 =>
 bnd (aC 4 v2 v15 h15) fun _ h16 =>
 bnd (aG 4 v2 h16) fun v17 _ =>
 some (.t [v17, (.b true)], h16))
noncomputable abbrev c211 : Code := cf Tryz.f211
noncomputable abbrev r211 : K := aR CF Tryz.f211
noncomputable def D211 (r : RT) (n : Nat) (c : Code) (X : Nat → K) (k : K) : K := aM CF r 23 n c X r211 k
theorem dXt : D211 r n c211 x0 r211 = (K2 (s211 r n) 0 1) :=
 (by kernel_rfl)
theorem dRi : aE CF r n 211 args h = s211 r n (aO args 0) (aO args 1) h :=
 (by kernel_rfl : aE CF r n 211 args h = D211 r n c211 x0 r211 (aI args) h).trans ((congrFun (congrFun (dXt r n) (aI args)) h).trans (by kernel_rfl))
noncomputable def iF (r : RT) (n : Nat) (h0 : Hp) : aK :=
 some ((.b false), h0)
noncomputable def nL (r : RT) (n : Nat) (x4 : DV) (h0 : Hp) : aK :=
 aU x4 (
 some ((.b true), h0)) (
  iF r n h0)
noncomputable def aVe (r : RT) (n : Nat) (x3 : DV) (h0 : Hp) : aK :=
 bnd (eE .eql x3 (.s [115, 101, 108, 102]) h0) fun v1 h1 =>
 aU v1 (
  nL r n v1 h1) (
 bnd (eE .eql x3 (.s [115, 117, 112, 101, 114]) h1) fun v2 h2 =>
 aU v2 (
   nL r n v2 h2) (
 bnd (eE .eql x3 (.s [110, 105, 108]) h2) fun v3 h3 =>
 aU v3 (
    nL r n v3 h3) (
 bnd (eE .eql x3 (.s [116, 114, 117, 101]) h3) fun v4 h4 =>
 aU v4 (
     nL r n v4 h4) (
 bnd (eE .eql x3 (.s [102, 97, 108, 115, 101]) h4) fun v5 h5 =>
 aU v5 (
      nL r n v5 h5) (
 bnd (eE .eql x3 (.s [116, 104, 105, 115, 67, 111, 110, 116, 101, 120, 116]) h5) fun v6 h6 =>
      nL r n v6 h6)))))
noncomputable def aXh (r : RT) (n : Nat) (x0 : DV) (h0 : Hp) : aK :=
 aVe r n x0 h0
noncomputable def s212 (r : RT) (n : Nat) (x0 : DV) (h0 : Hp) : aK :=
 aXh r n x0 h0
noncomputable abbrev c212 : Code := cf Tryz.f212
noncomputable abbrev aNx : Code := cR c212
noncomputable abbrev dMs : Code := cR aNx
noncomputable abbrev zR : Code := cL aNx
noncomputable abbrev bAh : Code := cR zR
noncomputable abbrev aOi : Code := cL bAh
noncomputable abbrev dKh : Code := cR aOi
noncomputable abbrev cNt : Code := cL aOi
noncomputable abbrev bVh : Code := cL zR
noncomputable abbrev bWa : Code := cL c212
noncomputable abbrev r212 : K := aR CF Tryz.f212
noncomputable def D212 (r : RT) (n : Nat) (c : Code) (X : Nat → K) (k : K) : K := aM CF r 11 n c X r212 k
theorem cXm : D212 r n dMs x0 r212 = (K0 (iF r n)) :=
 (by kernel_rfl)
theorem dFx : D212 r n dKh (xs x0 0 (K0 (iF r n))) (K0 (iF r n)) = (K1 (nL r n) 4) :=
 (by kernel_rfl)
theorem cJf : D212 r n aOi (xs x0 0 (K0 (iF r n))) (K0 (iF r n)) = D212 r n cNt (xs x0 0 (K0 (iF r n))) (K1 (nL r n) 4) :=
 congrArg (fun k => D212 r n cNt (xs x0 0 (K0 (iF r n))) k) (dFx r n)
theorem cSo : D212 r n bAh x0 (K0 (iF r n)) = (K1 (aVe r n) 3) :=
 (by kernel_rfl : D212 r n bAh x0 (K0 (iF r n)) = D212 r n aOi (xs x0 0 (K0 (iF r n))) (K0 (iF r n))).trans
 ((cJf r n).trans
 ((by kernel_rfl)))
theorem cHu : D212 r n aNx x0 r212 = D212 r n zR x0 (K0 (iF r n)) :=
 congrArg (fun k => D212 r n zR x0 k) (cXm r n)
theorem cBp : D212 r n zR x0 (K0 (iF r n)) = D212 r n bVh x0 (K1 (aVe r n) 3) :=
 congrArg (fun k => D212 r n bVh x0 k) (cSo r n)
theorem dFl : D212 r n aNx x0 r212 = (K1 (aXh r n) 0) :=
 (cHu r n).trans
 ((cBp r n).trans
 ((by kernel_rfl)))
theorem dKg : D212 r n c212 x0 r212 = D212 r n bWa x0 (K1 (aXh r n) 0) :=
 congrArg (fun k => D212 r n bWa x0 k) (dFl r n)
theorem eAp : D212 r n c212 x0 r212 = (K1 (s212 r n) 0) :=
 (dKg r n).trans
 ((by kernel_rfl))
theorem dSh : aE CF r n 212 args h = s212 r n (aO args 0) h :=
 (by kernel_rfl : aE CF r n 212 args h = D212 r n c212 x0 r212 (aI args) h).trans ((congrFun (congrFun (eAp r n) (aI args)) h).trans (by kernel_rfl))
noncomputable def s213 (r : RT) (n : Nat) (x0 x1 x2 : DV) (h0 : Hp) : aK :=
 bnd (aQ x0 h0) fun v1 h1 =>
 bnd (aB 8 v1 h1) fun v2 h2 =>
 bnd (aA v2 h2) fun v3 h3 =>
 bnd (aF .eql v3 (aD 0) h3) fun v4 h4 =>
 aU v4 (
 bnd (aQ x0 h4) fun v5 h5 =>
 bnd (aB 7 v5 h5) fun v6 h6 =>
 bnd (aC 1 v6 x1 h6) fun _ h7 =>
 bnd (aQ x0 h7) fun v8 h8 =>
 bnd (aB 8 v8 h8) fun v9 h9 =>
 bnd (aC 1 v9 x2 h9) fun _ h10 =>
 some (.t [], h10)) (
 some (.t [], h4))
noncomputable abbrev c213 : Code := cf Tryz.f213
noncomputable abbrev r213 : K := aR CF Tryz.f213
noncomputable def D213 (r : RT) (n : Nat) (c : Code) (X : Nat → K) (k : K) : K := aM CF r 19 n c X r213 k
theorem eEm : D213 r n c213 x0 r213 = (K3 (s213 r n) 0 1 2) :=
 (by kernel_rfl)
theorem dUk : aE CF r n 213 args h = s213 r n (aO args 0) (aO args 1) (aO args 2) h :=
 (by kernel_rfl : aE CF r n 213 args h = D213 r n c213 x0 r213 (aI args) h).trans ((congrFun (congrFun (eEm r n) (aI args)) h).trans (by kernel_rfl))
end Go.Dd

namespace Go.Dd
open Go.Proofs
variable (r : RT) (n : Nat) (args : List DV) (h : Hp)
noncomputable def bA (r : RT) (n : Nat) (x0 x4 : DV) (h0 : Hp) : aK :=
 bnd (r 213 [x0, (.s []), (aD 1)] h0) fun v1 h1 =>
 bnd (aS [(aD 0), (.s []), (aD 0), .l0] [] h1) fun v2 h2 =>
 bnd (aC 4 x4 v2 h2) fun _ h3 =>
 bnd (aG 4 x4 h3) fun v4 _ =>
 some (v4, h3)
noncomputable def dN (r : RT) (n : Nat) (x4 x5 : DV) (h0 : Hp) : aK :=
 bnd (aG 4 x5 h0) fun v1 h1 =>
 bnd (aC 4 x4 v1 h1) fun _ h2 =>
 bnd (aG 4 x4 h2) fun v3 _ =>
 some (v3, h2)
noncomputable def yC (r : RT) (n : Nat) (kk15 : cZ) (x0 x4 x5 x29 x30 x31 : DV) (h0 : Hp) : aK :=
 bnd (aF .lss x31 x30 h0) fun v1 h1 =>
 aU v1 (
 bnd (aJ 6 x29 x31 h1) fun v2 h2 =>
 bnd (aG 6 v2 h2) fun v3 h3 =>
 bnd (aZ cV h3) fun v4 h4 =>
 bnd (aC 6 v4 v3 h4) fun _ h5 =>
 bnd (aB 3 x5 (resv 1 h5)) fun v6 h6 =>
 bnd (aA v6 h6) fun v7 h7 =>
 bnd (aG 6 v4 h7) fun v8 h8 =>
 bnd (r 215 [x0, v8] h8) fun v9 h9 =>
 cnd (aX (aA v6 h9) v7 && true) (
 bnd (aV (bF 0 h5.next) [(aD 0), (.s []), (aD 0), .l0] 1 [(0, 4, v9)] h9) fun v10 h10 =>
 bnd (aY 4 56 v7 v10 h10) fun v11 h11 =>
 bnd (aB 3 x5 h11) fun v12 h12 =>
 bnd (aC 1 v12 v11 h12) fun v13 h13 =>
 bnd (aF .add x31 (aD 1) h13) fun v14 h14 =>
      kk15 x0 x4 x5 x29 x30 v14 h14)) (
      dN r n x4 x5 h1)
noncomputable def qR (r : RT) (n : Nat) (m : Nat) : cZ :=
 Nat.rec (motive := fun _ => cZ) (fun _ _ _ _ _ _ _ => none) (fun _ ih => yC r n ih) m
noncomputable def bKo (r : RT) (n : Nat) : cZ := qR r n n
noncomputable def aJj (r : RT) (n : Nat) (x0 x4 x5 x29 x30 x31 : DV) (h0 : Hp) : aK :=
 bKo r n x0 x4 x5 x29 x30 x31 h0
noncomputable def rJ (r : RT) (n : Nat) (x0 x3 x4 x5 : DV) (h0 : Hp) : aK :=
 bnd (aB 5 x3 h0) fun v1 h1 =>
 bnd (aA v1 h1) fun v2 h2 =>
 bnd (bO v2 h2) fun v3 h3 =>
  aJj r n x0 x4 x5 v2 v3 (aD 0) h3
noncomputable def aGs (r : RT) (n : Nat) (x0 x3 x4 : DV) (h0 : Hp) : aK :=
 bnd (aS [(aD 0), (.s []), (aD 0), .l0] [(0, 1, (aD 4))] h0) fun v1 h1 =>
 bnd (aZ [(aD 0), (.s []), (aD 0), .l0] h1) fun v2 h2 =>
 bnd (aC 4 v2 v1 h2) fun _ h3 =>
  rJ r n x0 x3 x4 v2 h3
noncomputable def aOx (r : RT) (n : Nat) (x0 x3 x4 x25 : DV) (h0 : Hp) : aK :=
 aU x25 (
  aGs r n x0 x3 x4 h0) (
  bA r n x0 x4 h0)
noncomputable def cHa (r : RT) (n : Nat) (x0 x3 x4 x9 : DV) (h0 : Hp) : aK :=
 bnd (aF .eql x9 (aD 4) h0) fun v1 h1 =>
  aOx r n x0 x3 x4 v1 h1
noncomputable def aZm (r : RT) (n : Nat) (x0 x3 x4 x9 x20 : DV) (h0 : Hp) : aK :=
 aU x20 (
 bnd (aB 1 x3 h0) fun v1 h1 =>
 bnd (aA v1 h1) fun v2 h2 =>
 bnd (aS [(aD 0), (.s []), (aD 0), .l0] [(0, 1, (aD 3)), (1, 1, v2)] h2) fun v3 h3 =>
 bnd (aC 4 x4 v3 h3) fun _ h4 =>
 bnd (aG 4 x4 h4) fun v5 _ =>
 some (v5, h4)) (
  cHa r n x0 x3 x4 x9 h0)
noncomputable def cEw (r : RT) (n : Nat) (x0 x3 x4 x9 : DV) (h0 : Hp) : aK :=
 bnd (aF .eql x9 (aD 3) h0) fun v1 h1 =>
  aZm r n x0 x3 x4 x9 v1 h1
noncomputable def aTj (r : RT) (n : Nat) (x0 x3 x4 x9 x15 : DV) (h0 : Hp) : aK :=
 aU x15 (
 bnd (aB 1 x3 h0) fun v1 h1 =>
 bnd (aA v1 h1) fun v2 h2 =>
 bnd (aS [(aD 0), (.s []), (aD 0), .l0] [(0, 1, (aD 2)), (1, 1, v2)] h2) fun v3 h3 =>
 bnd (aC 4 x4 v3 h3) fun _ h4 =>
 bnd (aG 4 x4 h4) fun v5 _ =>
 some (v5, h4)) (
  cEw r n x0 x3 x4 x9 h0)
noncomputable def cCv (r : RT) (n : Nat) (x0 x3 x4 x9 : DV) (h0 : Hp) : aK :=
 bnd (aF .eql x9 (aD 2) h0) fun v1 h1 =>
  aTj r n x0 x3 x4 x9 v1 h1
noncomputable def aXt (r : RT) (n : Nat) (x0 x3 x4 x9 x10 : DV) (h0 : Hp) : aK :=
 aU x10 (
 bnd (aB 2 x3 h0) fun v1 h1 =>
 bnd (aA v1 h1) fun v2 h2 =>
 bnd (aS [(aD 0), (.s []), (aD 0), .l0] [(0, 1, (aD 1)), (2, 1, v2)] h2) fun v3 h3 =>
 bnd (aC 4 x4 v3 h3) fun _ h4 =>
 bnd (aG 4 x4 h4) fun v5 _ =>
 some (v5, h4)) (
  cCv r n x0 x3 x4 x9 h0)
noncomputable def aXm (r : RT) (n : Nat) (x0 x3 x4 x9 : DV) (h0 : Hp) : aK :=
 bnd (aF .eql x9 (aD 1) h0) fun v1 h1 =>
  aXt r n x0 x3 x4 x9 v1 h1
noncomputable def aBb (r : RT) (n : Nat) (x0 x3 x4 : DV) (h0 : Hp) : aK :=
 bnd (aB 0 x3 h0) fun v1 h1 =>
 bnd (aA v1 h1) fun v2 h2 =>
  aXm r n x0 x3 x4 v2 h2
noncomputable def s215 (r : RT) (n : Nat) (x0 x1 : DV) (h0 : Hp) : aK :=
 bnd (bJ x1 h0) fun v1 h1 =>
 bnd (aZ [(aD 0), (.s []), (aD 0), .l0] h1) fun v2 h2 =>
  aBb r n x0 v1 v2 h2
noncomputable abbrev c215 : Code := cf Tryz.f215
noncomputable abbrev aDe : Code := cR c215
noncomputable abbrev dVd : Code := cR aDe
noncomputable abbrev aAy : Code := cL aDe
noncomputable abbrev aYc : Code := cR aAy
noncomputable abbrev aIl : Code := cL aYc
noncomputable abbrev yR : Code := cR aIl
noncomputable abbrev aBw : Code := cR yR
noncomputable abbrev yL : Code := cR aBw
noncomputable abbrev aAg : Code := cR yL
noncomputable abbrev qV : Code := cR aAg
noncomputable abbrev qC : Code := cR qV
noncomputable abbrev rC : Code := cR qC
noncomputable abbrev qQ : Code := cL rC
noncomputable abbrev wW : Code := cR qQ
noncomputable abbrev dGn : Code := cR wW
noncomputable abbrev rG : Code := cL wW
noncomputable abbrev aKp : Code := cR rG
noncomputable abbrev xI : Code := cL aKp
noncomputable abbrev kI : Code := cL xI
noncomputable abbrev bGt : Code := cL rG
noncomputable abbrev aEr : Code := cL qQ
noncomputable abbrev dEn : Code := cR rC
noncomputable abbrev bEz : Code := cL qC
noncomputable abbrev cTb : Code := cL qV
noncomputable abbrev bGm : Code := cL aAg
noncomputable abbrev cYg : Code := cL yL
noncomputable abbrev bJo : Code := cL aBw
noncomputable abbrev cTa : Code := cL yR
noncomputable abbrev bFl : Code := cL aIl
noncomputable abbrev bEg : Code := cL aAy
noncomputable abbrev aOq : Code := cL c215
noncomputable abbrev r215 : K := aR CF Tryz.f215
noncomputable def D215 (r : RT) (n : Nat) (c : Code) (X : Nat → K) (k : K) : K := aM CF r 48 n c X r215 k
theorem dBh : D215 r n dVd x0 r215 = (K2 (bA r n) 0 4) :=
 (by kernel_rfl)
theorem cKh : D215 r n dGn (xs x0 0 (K2 (bA r n) 0 4)) (K2 (bA r n) 0 4) = (K2 (dN r n) 4 5) :=
 (by kernel_rfl)
theorem bMz (kk15 : cZ) (q0 : eK) (q1 : eK) : D215 r n kI (xs (xs x0 0 (K2 q0 0 4)) 1 (K2 q1 4 5)) (K6 kk15 0 4 5 29 30 31) = fun (env : bB) (h : Hp) =>
 bnd (aF .lss (env 31) (env 30) h) fun v1 h1 =>
 aU v1 (
 bnd (aJ 6 (env 29) (env 31) h1) fun v2 h2 =>
 bnd (aG 6 v2 h2) fun v3 h3 =>
 bnd (aZ cV h3) fun v4 h4 =>
 bnd (aC 6 v4 v3 h4) fun _ h5 =>
 bnd (aB 3 (env 5) (resv 1 h5)) fun v6 h6 =>
 bnd (aA v6 h6) fun v7 h7 =>
 bnd (aG 6 v4 h7) fun v8 h8 =>
 bnd (r 215 [(env 0), v8] h8) fun v9 h9 =>
 cnd (aX (aA v6 h9) v7 && true) (
 bnd (aV (bF 0 h5.next) [(aD 0), (.s []), (aD 0), .l0] 1 [(0, 4, v9)] h9) fun v10 h10 =>
 bnd (aY 4 56 v7 v10 h10) fun v11 h11 =>
 bnd (aB 3 (env 5) h11) fun v12 h12 =>
 bnd (aC 1 v12 v11 h12) fun v13 h13 =>
 bnd (aF .add (env 31) (aD 1) h13) fun v14 h14 =>
      kk15 (env 0) (env 4) (env 5) (env 29) (env 30) v14 h14)) (
      q1 (env 4) (env 5) h1) := by kernel_rfl
theorem aYn (kk15 : cZ) : (fun (env : bB) (h : Hp) =>
 bnd (aF .lss (env 31) (env 30) h) fun v1 h1 =>
 aU v1 (
 bnd (aJ 6 (env 29) (env 31) h1) fun v2 h2 =>
 bnd (aG 6 v2 h2) fun v3 h3 =>
 bnd (aZ cV h3) fun v4 h4 =>
 bnd (aC 6 v4 v3 h4) fun _ h5 =>
 bnd (aB 3 (env 5) (resv 1 h5)) fun v6 h6 =>
 bnd (aA v6 h6) fun v7 h7 =>
 bnd (aG 6 v4 h7) fun v8 h8 =>
 bnd (r 215 [(env 0), v8] h8) fun v9 h9 =>
 cnd (aX (aA v6 h9) v7 && true) (
 bnd (aV (bF 0 h5.next) [(aD 0), (.s []), (aD 0), .l0] 1 [(0, 4, v9)] h9) fun v10 h10 =>
 bnd (aY 4 56 v7 v10 h10) fun v11 h11 =>
 bnd (aB 3 (env 5) h11) fun v12 h12 =>
 bnd (aC 1 v12 v11 h12) fun v13 h13 =>
 bnd (aF .add (env 31) (aD 1) h13) fun v14 h14 =>
      kk15 (env 0) (env 4) (env 5) (env 29) (env 30) v14 h14)) (
      dN r n (env 4) (env 5) h1)) = (K6 (yC r n kk15) 0 4 5 29 30 31) := by kernel_rfl
theorem bPa (kk15 : cZ) : D215 r n kI (xs (xs x0 0 (K2 (bA r n) 0 4)) 1 (K2 (dN r n) 4 5)) (K6 kk15 0 4 5 29 30 31) = (K6 (yC r n kk15) 0 4 5 29 30 31) :=
 (bMz r n kk15 (bA r n) (dN r n)).trans (aYn r n kk15)
theorem bNv (m : Nat) : aL (fun kk => D215 r n kI (xs (xs x0 0 (K2 (bA r n) 0 4)) 1 (K2 (dN r n) 4 5)) kk) m = (K6 (qR r n m) 0 4 5 29 30 31) := by
 induction m with
 | zero => exact (by kernel_rfl : aL (fun kk => D215 r n kI (xs (xs x0 0 (K2 (bA r n) 0 4)) 1 (K2 (dN r n) 4 5)) kk) 0 = (K6 (qR r n 0) 0 4 5 29 30 31))
 | succ m ih =>
  refine (by kernel_rfl : aL (fun kk => D215 r n kI (xs (xs x0 0 (K2 (bA r n) 0 4)) 1 (K2 (dN r n) 4 5)) kk) (m + 1) = D215 r n kI (xs (xs x0 0 (K2 (bA r n) 0 4)) 1 (K2 (dN r n) 4 5)) (aL (fun kk => D215 r n kI (xs (xs x0 0 (K2 (bA r n) 0 4)) 1 (K2 (dN r n) 4 5)) kk) m)).trans ?_
  rw [ih]
  exact (bPa r n (qR r n m)).trans (by kernel_rfl)
theorem bSk : D215 r n xI (xs (xs x0 0 (K2 (bA r n) 0 4)) 1 (K2 (dN r n) 4 5)) (K2 (dN r n) 4 5) = (K6 (bKo r n) 0 4 5 29 30 31) :=
 (by kernel_rfl : D215 r n xI (xs (xs x0 0 (K2 (bA r n) 0 4)) 1 (K2 (dN r n) 4 5)) (K2 (dN r n) 4 5) = aL (fun kk => D215 r n kI (xs (xs x0 0 (K2 (bA r n) 0 4)) 1 (K2 (dN r n) 4 5)) kk) n).trans ((bNv r n n).trans (by kernel_rfl))
theorem bYf : D215 r n aKp (xs x0 0 (K2 (bA r n) 0 4)) (K2 (dN r n) 4 5) = (K6 (aJj r n) 0 4 5 29 30 31) :=
 (by kernel_rfl : D215 r n aKp (xs x0 0 (K2 (bA r n) 0 4)) (K2 (dN r n) 4 5) = D215 r n xI (xs (xs x0 0 (K2 (bA r n) 0 4)) 1 (K2 (dN r n) 4 5)) (K2 (dN r n) 4 5)).trans
 ((bSk r n).trans (by kernel_rfl))
theorem bMk : D215 r n wW (xs x0 0 (K2 (bA r n) 0 4)) (K2 (bA r n) 0 4) = D215 r n rG (xs x0 0 (K2 (bA r n) 0 4)) (K2 (dN r n) 4 5) :=
 congrArg (fun k => D215 r n rG (xs x0 0 (K2 (bA r n) 0 4)) k) (cKh r n)
theorem bOl : D215 r n rG (xs x0 0 (K2 (bA r n) 0 4)) (K2 (dN r n) 4 5) = D215 r n bGt (xs x0 0 (K2 (bA r n) 0 4)) (K6 (aJj r n) 0 4 5 29 30 31) :=
 congrArg (fun k => D215 r n bGt (xs x0 0 (K2 (bA r n) 0 4)) k) (bYf r n)
theorem cOg : D215 r n wW (xs x0 0 (K2 (bA r n) 0 4)) (K2 (bA r n) 0 4) = (K4 (rJ r n) 0 3 4 5) :=
 (bMk r n).trans
 ((bOl r n).trans
 ((by kernel_rfl)))
theorem bOk : D215 r n qQ (xs x0 0 (K2 (bA r n) 0 4)) (K2 (bA r n) 0 4) = D215 r n aEr (xs x0 0 (K2 (bA r n) 0 4)) (K4 (rJ r n) 0 3 4 5) :=
 congrArg (fun k => D215 r n aEr (xs x0 0 (K2 (bA r n) 0 4)) k) (cOg r n)
theorem bOr (q0 : dJ) (q1 : eK) : D215 r n aEr (xs x0 0 (K2 q1 0 4)) (K4 q0 0 3 4 5) = fun (env : bB) (h : Hp) =>
 bnd (aS [(aD 0), (.s []), (aD 0), .l0] [(0, 1, (aD 4))] h) fun v1 h1 =>
 bnd (aZ [(aD 0), (.s []), (aD 0), .l0] h1) fun v2 h2 =>
 bnd (aC 4 v2 v1 h2) fun _ h3 =>
  q0 (env 0) (env 3) (env 4) v2 h3 := by kernel_rfl
theorem aUr : (fun (env : bB) (h : Hp) =>
 bnd (aS [(aD 0), (.s []), (aD 0), .l0] [(0, 1, (aD 4))] h) fun v1 h1 =>
 bnd (aZ [(aD 0), (.s []), (aD 0), .l0] h1) fun v2 h2 =>
 bnd (aC 4 v2 v1 h2) fun _ h3 =>
  rJ r n (env 0) (env 3) (env 4) v2 h3) = (K3 (aGs r n) 0 3 4) := by kernel_rfl
theorem cIs : D215 r n qQ (xs x0 0 (K2 (bA r n) 0 4)) (K2 (bA r n) 0 4) = (K3 (aGs r n) 0 3 4) :=
 (bOk r n).trans
 ((bOr r n (rJ r n) (bA r n)).trans (aUr r n))
theorem cJq : D215 r n rC (xs x0 0 (K2 (bA r n) 0 4)) (K2 (bA r n) 0 4) = (K4 (aOx r n) 0 3 4 25) :=
 (by kernel_rfl : D215 r n rC (xs x0 0 (K2 (bA r n) 0 4)) (K2 (bA r n) 0 4) = (fun (env : bB) (h : Hp) => aU (opr env (cC rC)) (D215 r n qQ (xs x0 0 (K2 (bA r n) 0 4)) (K2 (bA r n) 0 4) env h) (D215 r n dEn (xs x0 0 (K2 (bA r n) 0 4)) (K2 (bA r n) 0 4) env h))).trans (by rw [cIs r n]; kernel_rfl)
theorem cMm : D215 r n qC (xs x0 0 (K2 (bA r n) 0 4)) (K2 (bA r n) 0 4) = D215 r n bEz (xs x0 0 (K2 (bA r n) 0 4)) (K4 (aOx r n) 0 3 4 25) :=
 congrArg (fun k => D215 r n bEz (xs x0 0 (K2 (bA r n) 0 4)) k) (cJq r n)
theorem dHm : D215 r n qC (xs x0 0 (K2 (bA r n) 0 4)) (K2 (bA r n) 0 4) = (K4 (cHa r n) 0 3 4 9) :=
 (cMm r n).trans
 ((by kernel_rfl))
theorem cQg : D215 r n qV (xs x0 0 (K2 (bA r n) 0 4)) (K2 (bA r n) 0 4) = (K5 (aZm r n) 0 3 4 9 20) :=
 (by kernel_rfl : D215 r n qV (xs x0 0 (K2 (bA r n) 0 4)) (K2 (bA r n) 0 4) = (fun (env : bB) (h : Hp) => aU (opr env (cC qV)) (D215 r n cTb (xs x0 0 (K2 (bA r n) 0 4)) (K2 (bA r n) 0 4) env h) (D215 r n qC (xs x0 0 (K2 (bA r n) 0 4)) (K2 (bA r n) 0 4) env h))).trans (by rw [dHm r n]; kernel_rfl)
theorem cLk : D215 r n aAg (xs x0 0 (K2 (bA r n) 0 4)) (K2 (bA r n) 0 4) = D215 r n bGm (xs x0 0 (K2 (bA r n) 0 4)) (K5 (aZm r n) 0 3 4 9 20) :=
 congrArg (fun k => D215 r n bGm (xs x0 0 (K2 (bA r n) 0 4)) k) (cQg r n)
theorem cSe : D215 r n aAg (xs x0 0 (K2 (bA r n) 0 4)) (K2 (bA r n) 0 4) = (K4 (cEw r n) 0 3 4 9) :=
 (cLk r n).trans
 ((by kernel_rfl))
theorem cRz : D215 r n yL (xs x0 0 (K2 (bA r n) 0 4)) (K2 (bA r n) 0 4) = (K5 (aTj r n) 0 3 4 9 15) :=
 (by kernel_rfl : D215 r n yL (xs x0 0 (K2 (bA r n) 0 4)) (K2 (bA r n) 0 4) = (fun (env : bB) (h : Hp) => aU (opr env (cC yL)) (D215 r n cYg (xs x0 0 (K2 (bA r n) 0 4)) (K2 (bA r n) 0 4) env h) (D215 r n aAg (xs x0 0 (K2 (bA r n) 0 4)) (K2 (bA r n) 0 4) env h))).trans (by rw [cSe r n]; kernel_rfl)
theorem bRh : D215 r n aBw (xs x0 0 (K2 (bA r n) 0 4)) (K2 (bA r n) 0 4) = D215 r n bJo (xs x0 0 (K2 (bA r n) 0 4)) (K5 (aTj r n) 0 3 4 9 15) :=
 congrArg (fun k => D215 r n bJo (xs x0 0 (K2 (bA r n) 0 4)) k) (cRz r n)
theorem cYn : D215 r n aBw (xs x0 0 (K2 (bA r n) 0 4)) (K2 (bA r n) 0 4) = (K4 (cCv r n) 0 3 4 9) :=
 (bRh r n).trans
 ((by kernel_rfl))
theorem cRk : D215 r n yR (xs x0 0 (K2 (bA r n) 0 4)) (K2 (bA r n) 0 4) = (K5 (aXt r n) 0 3 4 9 10) :=
 (by kernel_rfl : D215 r n yR (xs x0 0 (K2 (bA r n) 0 4)) (K2 (bA r n) 0 4) = (fun (env : bB) (h : Hp) => aU (opr env (cC yR)) (D215 r n cTa (xs x0 0 (K2 (bA r n) 0 4)) (K2 (bA r n) 0 4) env h) (D215 r n aBw (xs x0 0 (K2 (bA r n) 0 4)) (K2 (bA r n) 0 4) env h))).trans (by rw [cYn r n]; kernel_rfl)
theorem cAe : D215 r n aIl (xs x0 0 (K2 (bA r n) 0 4)) (K2 (bA r n) 0 4) = D215 r n bFl (xs x0 0 (K2 (bA r n) 0 4)) (K5 (aXt r n) 0 3 4 9 10) :=
 congrArg (fun k => D215 r n bFl (xs x0 0 (K2 (bA r n) 0 4)) k) (cRk r n)
theorem dAe : D215 r n aYc x0 (K2 (bA r n) 0 4) = (K4 (aXm r n) 0 3 4 9) :=
 (by kernel_rfl : D215 r n aYc x0 (K2 (bA r n) 0 4) = D215 r n aIl (xs x0 0 (K2 (bA r n) 0 4)) (K2 (bA r n) 0 4)).trans
 ((cAe r n).trans
 ((by kernel_rfl)))
theorem bPg : D215 r n aDe x0 r215 = D215 r n aAy x0 (K2 (bA r n) 0 4) :=
 congrArg (fun k => D215 r n aAy x0 k) (dBh r n)
theorem bOm : D215 r n aAy x0 (K2 (bA r n) 0 4) = D215 r n bEg x0 (K4 (aXm r n) 0 3 4 9) :=
 congrArg (fun k => D215 r n bEg x0 k) (dAe r n)
theorem cRn : D215 r n aDe x0 r215 = (K3 (aBb r n) 0 3 4) :=
 (bPg r n).trans
 ((bOm r n).trans
 ((by kernel_rfl)))
theorem cQi : D215 r n c215 x0 r215 = D215 r n aOq x0 (K3 (aBb r n) 0 3 4) :=
 congrArg (fun k => D215 r n aOq x0 k) (cRn r n)
theorem dFa (q0 : dU) : D215 r n aOq x0 (K3 q0 0 3 4) = fun (env : bB) (h : Hp) =>
 bnd (bJ (env 1) h) fun v1 h1 =>
 bnd (aZ [(aD 0), (.s []), (aD 0), .l0] h1) fun v2 h2 =>
  q0 (env 0) v1 v2 h2 := by kernel_rfl
theorem cCc : (fun (env : bB) (h : Hp) =>
 bnd (bJ (env 1) h) fun v1 h1 =>
 bnd (aZ [(aD 0), (.s []), (aD 0), .l0] h1) fun v2 h2 =>
  aBb r n (env 0) v1 v2 h2) = (K2 (s215 r n) 0 1) := by kernel_rfl
theorem dZt : D215 r n c215 x0 r215 = (K2 (s215 r n) 0 1) :=
 (cQi r n).trans
 ((dFa r n (aBb r n)).trans (cCc r n))
theorem dJu : aE CF r n 215 args h = s215 r n (aO args 0) (aO args 1) h :=
 (by kernel_rfl : aE CF r n 215 args h = D215 r n c215 x0 r215 (aI args) h).trans ((congrFun (congrFun (dZt r n) (aI args)) h).trans (by kernel_rfl))
noncomputable def aPw (r : RT) (n : Nat) (x0 x1 : DV) (h0 : Hp) : aK :=
 bnd (r 211 [x0, x1] h0) fun v1 h1 =>
 bnd (aH 0 v1 h1) fun v2 h2 =>
 bnd (aH 1 v1 h2) fun v3 h3 =>
 bnd (aZ [(.s []), (.b false), (.b false), (aD 0)] h3) fun v4 h4 =>
 bnd (aC 4 v4 v2 h4) fun _ h5 =>
 bnd (gD v3 true (aB 1 v4 h5) h5) fun v6 h6 =>
 bnd (gD v3 true (aA v6 h6) h6) fun v7 h7 =>
 bnd (aP v3 v7 (.b false) h7) fun v8 h8 =>
 aU v8 (
 bnd (aB 3 v4 h8) fun v9 h9 =>
 bnd (aA v9 h9) fun v10 h10 =>
 bnd (r 187 [x0, (aD 8), v10, (aD 0)] h10) fun v11 h11 =>
 some (.t [], h11)) (
 aU v3 (
 bnd (aB 3 v4 h8) fun v12 h12 =>
 bnd (aA v12 h12) fun v13 h13 =>
 bnd (r 187 [x0, (aD 7), v13, (aD 0)] h13) fun v14 h14 =>
 some (.t [], h14)) (
 bnd (r 242 [x1] h8) fun v15 h15 =>
 aU v15 (
 bnd (r 243 [x0, x1] h15) fun v16 h16 =>
 bnd (r 187 [x0, (aD 9), v16, (aD 0)] h16) fun v17 h17 =>
 some (.t [], h17)) (
 bnd (r 213 [x0, x1, (aD 15)] h15) fun v18 h18 =>
 some (.t [], h18))))
noncomputable def s216 (r : RT) (n : Nat) (x0 x1 : DV) (h0 : Hp) : aK :=
 bnd (eE .eql x1 (.s [115, 101, 108, 102]) h0) fun v1 h1 =>
 aU v1 (
 bnd (r 187 [x0, (aD 1), (aD 0), (aD 0)] h1) fun v2 h2 =>
 some (.t [], h2)) (
 bnd (eE .eql x1 (.s [110, 105, 108]) h1) fun v3 h3 =>
 aU v3 (
 bnd (r 187 [x0, (aD 2), (aD 0), (aD 0)] h3) fun v4 h4 =>
 some (.t [], h4)) (
 bnd (eE .eql x1 (.s [116, 114, 117, 101]) h3) fun v5 h5 =>
 aU v5 (
 bnd (r 187 [x0, (aD 3), (aD 0), (aD 0)] h5) fun v6 h6 =>
 some (.t [], h6)) (
 bnd (eE .eql x1 (.s [102, 97, 108, 115, 101]) h5) fun v7 h7 =>
 aU v7 (
 bnd (r 187 [x0, (aD 4), (aD 0), (aD 0)] h7) fun v8 h8 =>
 some (.t [], h8)) (
 bnd (eE .eql x1 (.s [116, 104, 105, 115, 67, 111, 110, 116, 101, 120, 116]) h7) fun v9 h9 =>
 aU v9 (
 bnd (r 187 [x0, (aD 5), (aD 0), (aD 0)] h9) fun v10 h10 =>
 some (.t [], h10)) (
 bnd (eE .eql x1 (.s [115, 117, 112, 101, 114]) h9) fun v11 h11 =>
 aU v11 (
 bnd (r 213 [x0, x1, (aD 15)] h11) fun v12 h12 =>
       aPw r n x0 x1 h12) (
       aPw r n x0 x1 h11))))))
noncomputable abbrev c216 : Code := cf Tryz.f216
noncomputable abbrev dVs : Code := cR c216
noncomputable abbrev cFn : Code := cL c216
noncomputable abbrev r216 : K := aR CF Tryz.f216
noncomputable def D216 (r : RT) (n : Nat) (c : Code) (X : Nat → K) (k : K) : K := aM CF r 65 n c X r216 k
theorem cSl : D216 r n dVs x0 r216 = (K2 (aPw r n) 0 1) :=
 (by kernel_rfl)
theorem dKq : D216 r n c216 x0 r216 = D216 r n cFn x0 (K2 (aPw r n) 0 1) :=
 congrArg (fun k => D216 r n cFn x0 k) (cSl r n)
theorem eDw : D216 r n c216 x0 r216 = (K2 (s216 r n) 0 1) :=
 (dKq r n).trans
 ((by kernel_rfl))
theorem dVz : aE CF r n 216 args h = s216 r n (aO args 0) (aO args 1) h :=
 (by kernel_rfl : aE CF r n 216 args h = D216 r n c216 x0 r216 (aI args) h).trans ((congrFun (congrFun (eDw r n) (aI args)) h).trans (by kernel_rfl))
noncomputable def s217 (r : RT) (n : Nat) (x0 x1 : DV) (h0 : Hp) : aK :=
 bnd (bJ x1 h0) fun v1 h1 =>
 bnd (aG 6 v1 h1) fun v2 h2 =>
 bnd (r 222 [x0, v2] h2) fun v3 h3 =>
 bnd (fR .not v3 h3) fun v4 h4 =>
 aU v4 (
 some (.t [], h4)) (
 bnd (aB 1 v1 h4) fun v5 h5 =>
 bnd (aA v5 h5) fun v6 h6 =>
 bnd (r 211 [x0, v6] h6) fun v7 h7 =>
 bnd (aH 0 v7 h7) fun v8 h8 =>
 bnd (aH 1 v7 h8) fun v9 h9 =>
 bnd (aZ [(.s []), (.b false), (.b false), (aD 0)] h9) fun v10 h10 =>
 bnd (aC 4 v10 v8 h10) fun _ h11 =>
 bnd (aB 5 v1 h11) fun v12 h12 =>
 bnd (aA v12 h12) fun v13 h13 =>
 bnd (aJ 6 v13 (aD 0) h13) fun v14 h14 =>
 bnd (aG 6 v14 h14) fun v15 h15 =>
 bnd (r 186 [x0, v15] h15) fun v16 h16 =>
 bnd (fR .not v9 h16) fun v17 h17 =>
 bnd (gD v17 true (aB 1 v1 h17) h17) fun v18 h18 =>
 bnd (gD v17 true (aA v18 h18) h18) fun v19 h19 =>
 bnd (gD v17 true (r 212 [v19] h19) h19) fun v20 h20 =>
 bnd (gD v17 true (fR .not v20 h20) h20) fun v21 h21 =>
 bnd (aP v17 v21 (.b false) h21) fun v22 h22 =>
 bnd (gD v22 true (aB 1 v1 h22) h22) fun v23 h23 =>
 bnd (gD v22 true (aA v23 h23) h23) fun v24 h24 =>
 bnd (gD v22 true (r 242 [v24] h24) h24) fun v25 h25 =>
 bnd (gD v22 true (fR .not v25 h25) h25) fun v26 h26 =>
 bnd (aP v22 v26 (.b false) h26) fun v27 h27 =>
 aU v27 (
 bnd (aB 1 v1 h27) fun v28 h28 =>
 bnd (aA v28 h28) fun v29 h29 =>
 bnd (r 213 [x0, v29, (aD 15)] h29) fun v30 h30 =>
 some (.t [], h30)) (
 bnd (fR .not v9 h27) fun v31 h31 =>
 bnd (gD v31 false (aB 2 v10 h31) h31) fun v32 h32 =>
 bnd (gD v31 false (aA v32 h32) h32) fun v33 h33 =>
 bnd (aP v31 (.b true) v33 h33) fun v34 h34 =>
 bnd (gD v34 false (aB 1 v1 h34) h34) fun v35 h35 =>
 bnd (gD v34 false (aA v35 h35) h35) fun v36 h36 =>
 bnd (gD v34 false (r 212 [v36] h36) h36) fun v37 h37 =>
 bnd (aP v34 (.b true) v37 h37) fun v38 h38 =>
 aU v38 (
 bnd (aB 1 v1 h38) fun v39 h39 =>
 bnd (aA v39 h39) fun v40 h40 =>
 bnd (r 213 [x0, v40, (aD 17)] h40) fun v41 h41 =>
 some (.t [], h41)) (
 bnd (aB 1 v10 h38) fun v42 h42 =>
 bnd (aA v42 h42) fun v43 h43 =>
 aU v43 (
 bnd (aB 3 v10 h43) fun v44 h44 =>
 bnd (aA v44 h44) fun v45 h45 =>
 bnd (r 187 [x0, (aD 11), v45, (aD 0)] h45) fun v46 h46 =>
 some (.t [], h46)) (
 bnd (aB 3 v10 h43) fun v47 h47 =>
 bnd (aA v47 h47) fun v48 h48 =>
 bnd (r 187 [x0, (aD 10), v48, (aD 0)] h48) fun v49 h49 =>
 some (.t [], h49)))))
noncomputable abbrev c217 : Code := cf Tryz.f217
noncomputable abbrev r217 : K := aR CF Tryz.f217
noncomputable def D217 (r : RT) (n : Nat) (c : Code) (X : Nat → K) (k : K) : K := aM CF r 69 n c X r217 k
theorem dZq : D217 r n c217 x0 r217 = (K2 (s217 r n) 0 1) :=
 (by kernel_rfl)
theorem dQb : aE CF r n 217 args h = s217 r n (aO args 0) (aO args 1) h :=
 (by kernel_rfl : aE CF r n 217 args h = D217 r n c217 x0 r217 (aI args) h).trans ((congrFun (congrFun (dZq r n) (aI args)) h).trans (by kernel_rfl))
noncomputable def s218 (r : RT) (n : Nat) (x0 x1 : DV) (h0 : Hp) : aK :=
 bnd (bJ x1 h0) fun v1 h1 =>
 bnd (aB 5 v1 h1) fun v2 h2 =>
 bnd (aA v2 h2) fun v3 h3 =>
 bnd (bO v3 h3) fun v4 h4 =>
 bnd (aF .eql v4 (aD 0) h4) fun v5 h5 =>
 aU v5 (
 bnd (r 213 [x0, (.s []), (aD 1)] h5) fun v6 h6 =>
 some (.t [], h6)) (
 bnd (aG 6 v1 h5) fun v7 h7 =>
 bnd (r 244 [x0, v7] h7) fun v8 h8 =>
 bnd (gD v8 false (some (x0, h8)) h8) fun v9 h9 =>
 bnd (gD v8 false (aG 6 v1 h9) h9) fun v10 h10 =>
 bnd (gD v8 false (r 245 [v9, v10] h10) h10) fun v11 h11 =>
 bnd (aP v8 (.b true) v11 h11) fun v12 h12 =>
 aU v12 (
 some (.t [], h12)) (
 bnd (aB 5 v1 h12) fun v13 h13 =>
 bnd (aA v13 h13) fun v14 h14 =>
 bnd (aJ 6 v14 (aD 0) h14) fun v15 h15 =>
 bnd (aG 6 v15 h15) fun v16 h16 =>
 bnd (r 247 [x0, v16] h16) fun v17 h17 =>
 bnd (aB 1 v1 h17) fun v18 h18 =>
 bnd (aA v18 h18) fun v19 h19 =>
 cnd (aX (aA v18 h12) v19 && true) (
 bnd (aB 5 v1 h19) fun v20 h20 =>
 bnd (aA v20 h20) fun v21 h21 =>
 cnd (aX (aA v20 h12) v21 && true) (
 bnd (cW 6 v21 (some (aD 1)) none h21) fun v22 h22 =>
 cnd (aX (cW 6 v21 (some (aD 1)) none h12) v22 && true) (
 bnd (r 246 [x0, v17, v19, v22] h22) fun v23 h23 =>
 some (.t [], h23))))))
noncomputable abbrev c218 : Code := cf Tryz.f218
noncomputable abbrev r218 : K := aR CF Tryz.f218
noncomputable def D218 (r : RT) (n : Nat) (c : Code) (X : Nat → K) (k : K) : K := aM CF r 31 n c X r218 k
theorem dXm : D218 r n c218 x0 r218 = (K2 (s218 r n) 0 1) :=
 (by kernel_rfl)
theorem dPw : aE CF r n 218 args h = s218 r n (aO args 0) (aO args 1) h :=
 (by kernel_rfl : aE CF r n 218 args h = D218 r n c218 x0 r218 (aI args) h).trans ((congrFun (congrFun (dXm r n) (aI args)) h).trans (by kernel_rfl))
noncomputable def dP (r : RT) (n : Nat) (kk6 : cZ) (x0 x4 x5 x26 x27 x28 : DV) (h0 : Hp) : aK :=
 bnd (aF .add x28 (aD 1) h0) fun v1 h1 =>
  kk6 x0 x4 x5 x26 x27 v1 h1
noncomputable def xO (r : RT) (n : Nat) (kk6 : cZ) (x0 x4 x5 x6 x7 x26 x27 x28 : DV) (h0 : Hp) : aK :=
 bnd (aB 1 x7 h0) fun v1 h1 =>
 bnd (aA v1 h1) fun v2 h2 =>
 bnd (aB 5 x7 h2) fun v3 h3 =>
 bnd (aA v3 h3) fun v4 h4 =>
 bnd (r 246 [x0, x4, v2, v4] h4) fun v5 h5 =>
 bnd (aF .add x6 (aD 1) h5) fun v6 h6 =>
 bnd (aF .lss v6 x5 h6) fun v7 h7 =>
 aU v7 (
 bnd (r 187 [x0, (aD 12), (aD 0), (aD 0)] h7) fun v8 h8 =>
  dP r n kk6 x0 x4 x5 x26 x27 x28 h8) (
  dP r n kk6 x0 x4 x5 x26 x27 x28 h7)
noncomputable def vR (r : RT) (n : Nat) (kk6 : cZ) (x0 x4 x5 x6 x7 x26 x27 x28 : DV) (h0 : Hp) : aK :=
 bnd (aF .add x6 (aD 1) h0) fun v1 h1 =>
 bnd (aF .lss v1 x5 h1) fun v2 h2 =>
 aU v2 (
 bnd (r 187 [x0, (aD 13), (aD 0), (aD 0)] h2) fun v3 h3 =>
  xO r n kk6 x0 x4 x5 x6 x7 x26 x27 x28 h3) (
  xO r n kk6 x0 x4 x5 x6 x7 x26 x27 x28 h2)
noncomputable def qL (r : RT) (n : Nat) (kk6 : cZ) (x0 x4 x5 x6 x7 x26 x27 x28 : DV) (h0 : Hp) : aK :=
 bnd (aB 0 x7 h0) fun v1 h1 =>
 bnd (aA v1 h1) fun v2 h2 =>
 bnd (aF .neq v2 (aD 7) h2) fun v3 h3 =>
 aU v3 (
 bnd (r 213 [x0, (.s []), (aD 1)] h3) fun v4 h4 =>
  vR r n kk6 x0 x4 x5 x6 x7 x26 x27 x28 h4) (
  vR r n kk6 x0 x4 x5 x6 x7 x26 x27 x28 h3)
noncomputable def aHs (r : RT) (n : Nat) (kk6 : cZ) (x0 x4 x5 x26 x27 x28 : DV) (h0 : Hp) : aK :=
 bnd (aJ 6 x26 x28 h0) fun v1 h1 =>
 bnd (aG 6 v1 h1) fun v2 h2 =>
 bnd (aZ cV h2) fun v3 h3 =>
 bnd (aC 6 v3 v2 h3) fun _ h4 =>
  qL r n kk6 x0 x4 x5 x28 v3 x26 x27 x28 h4
noncomputable def aWj (r : RT) (n : Nat) (kk6 : cZ) (x0 x4 x5 x26 x27 x28 x29 : DV) (h0 : Hp) : aK :=
 aU x29 (
  aHs r n kk6 x0 x4 x5 x26 x27 x28 h0) (
 some (.t [], h0))
noncomputable def bDm (r : RT) (n : Nat) (kk6 : cZ) (x0 x4 x5 x26 x27 x28 : DV) (h0 : Hp) : aK :=
 bnd (aF .lss x28 x27 h0) fun v1 h1 =>
  aWj r n kk6 x0 x4 x5 x26 x27 x28 v1 h1
noncomputable def wH (r : RT) (n : Nat) (m : Nat) : cZ :=
 Nat.rec (motive := fun _ => cZ) (fun _ _ _ _ _ _ _ => none) (fun _ ih => bDm r n ih) m
noncomputable def bQm (r : RT) (n : Nat) : cZ := wH r n n
noncomputable def aZx (r : RT) (n : Nat) (x0 x4 x5 x26 x27 x28 : DV) (h0 : Hp) : aK :=
 bQm r n x0 x4 x5 x26 x27 x28 h0
noncomputable def aXr (r : RT) (n : Nat) (x0 x3 x4 x5 : DV) (h0 : Hp) : aK :=
 bnd (aB 5 x3 h0) fun v1 h1 =>
 bnd (aA v1 h1) fun v2 h2 =>
 bnd (cW 6 v2 (some (aD 1)) none h2) fun v3 h3 =>
 bnd (bO v3 h3) fun v4 h4 =>
  aZx r n x0 x4 x5 v3 v4 (aD 0) h4
noncomputable def aVa (r : RT) (n : Nat) (x0 x3 x4 : DV) (h0 : Hp) : aK :=
 bnd (aB 5 x3 h0) fun v1 h1 =>
 bnd (aA v1 h1) fun v2 h2 =>
 bnd (bO v2 h2) fun v3 h3 =>
 bnd (aF .sub v3 (aD 1) h3) fun v4 h4 =>
  aXr r n x0 x3 x4 v4 h4
noncomputable def aYm (r : RT) (n : Nat) (x0 x3 : DV) (h0 : Hp) : aK :=
 bnd (aB 5 x3 h0) fun v1 h1 =>
 bnd (aA v1 h1) fun v2 h2 =>
 bnd (aJ 6 v2 (aD 0) h2) fun v3 h3 =>
 bnd (aG 6 v3 h3) fun v4 h4 =>
 bnd (r 247 [x0, v4] h4) fun v5 h5 =>
  aVa r n x0 x3 v5 h5
noncomputable def zC (r : RT) (n : Nat) (x0 x3 : DV) (h0 : Hp) : aK :=
 bnd (aB 5 x3 h0) fun v1 h1 =>
 bnd (aA v1 h1) fun v2 h2 =>
 bnd (bO v2 h2) fun v3 h3 =>
 bnd (aF .lss v3 (aD 2) h3) fun v4 h4 =>
 aU v4 (
 bnd (r 213 [x0, (.s []), (aD 1)] h4) fun v5 h5 =>
 some (.t [], h5)) (
  aYm r n x0 x3 h4)
noncomputable def s219 (r : RT) (n : Nat) (x0 x1 : DV) (h0 : Hp) : aK :=
 bnd (bJ x1 h0) fun v1 h1 =>
  zC r n x0 v1 h1
noncomputable abbrev c219 : Code := cf Tryz.f219
noncomputable abbrev aLt : Code := cR c219
noncomputable abbrev aDm : Code := cR aLt
noncomputable abbrev aLh : Code := cR aDm
noncomputable abbrev aHr : Code := cR aLh
noncomputable abbrev aZj : Code := cR aHr
noncomputable abbrev aKf : Code := cL aZj
noncomputable abbrev kS : Code := cL aKf
noncomputable abbrev aLq : Code := cR kS
noncomputable abbrev aNg : Code := cR aLq
noncomputable abbrev cSu : Code := cR aNg
noncomputable abbrev xD : Code := cL aNg
noncomputable abbrev vS : Code := cL xD
noncomputable abbrev xG : Code := cR vS
noncomputable abbrev wZ : Code := cR xG
noncomputable abbrev cZg : Code := cR wZ
noncomputable abbrev bBy : Code := cL wZ
noncomputable abbrev bDb : Code := cL xG
noncomputable abbrev aKz : Code := cL vS
noncomputable abbrev bDz : Code := cL aLq
noncomputable abbrev bHd : Code := cL kS
noncomputable abbrev bKq : Code := cL aHr
noncomputable abbrev bCb : Code := cL aLh
noncomputable abbrev bJc : Code := cL aDm
noncomputable abbrev bDr : Code := cL aLt
noncomputable abbrev aGq : Code := cL c219
noncomputable abbrev r219 : K := aR CF Tryz.f219
noncomputable def D219 (r : RT) (n : Nat) (c : Code) (X : Nat → K) (k : K) : K := aM CF r 58 n c X r219 k
theorem dDs (kk6 : cZ) : D219 r n cSu (xs x0 0 r219) (K6 kk6 0 4 5 26 27 28) = (K6 (dP r n kk6) 0 4 5 26 27 28) :=
 (by kernel_rfl)
theorem cAy (kk6 : cZ) : D219 r n cZg (xs (xs x0 0 r219) 1 (K6 (dP r n kk6) 0 4 5 26 27 28)) (K6 (dP r n kk6) 0 4 5 26 27 28) = (K8 (xO r n kk6) 0 4 5 6 7 26 27 28) :=
 (by kernel_rfl)
theorem bPx (kk6 : cZ) : D219 r n wZ (xs (xs x0 0 r219) 1 (K6 (dP r n kk6) 0 4 5 26 27 28)) (K6 (dP r n kk6) 0 4 5 26 27 28) = D219 r n bBy (xs (xs x0 0 r219) 1 (K6 (dP r n kk6) 0 4 5 26 27 28)) (K8 (xO r n kk6) 0 4 5 6 7 26 27 28) :=
 congrArg (fun k => D219 r n bBy (xs (xs x0 0 r219) 1 (K6 (dP r n kk6) 0 4 5 26 27 28)) k) (cAy r n kk6)
theorem cOm (kk6 : cZ) : D219 r n wZ (xs (xs x0 0 r219) 1 (K6 (dP r n kk6) 0 4 5 26 27 28)) (K6 (dP r n kk6) 0 4 5 26 27 28) = (K8 (vR r n kk6) 0 4 5 6 7 26 27 28) :=
 (bPx r n kk6).trans
 ((by kernel_rfl))
theorem bLy (kk6 : cZ) : D219 r n xG (xs (xs x0 0 r219) 1 (K6 (dP r n kk6) 0 4 5 26 27 28)) (K6 (dP r n kk6) 0 4 5 26 27 28) = D219 r n bDb (xs (xs x0 0 r219) 1 (K6 (dP r n kk6) 0 4 5 26 27 28)) (K8 (vR r n kk6) 0 4 5 6 7 26 27 28) :=
 congrArg (fun k => D219 r n bDb (xs (xs x0 0 r219) 1 (K6 (dP r n kk6) 0 4 5 26 27 28)) k) (cOm r n kk6)
theorem cCr (kk6 : cZ) : D219 r n xG (xs (xs x0 0 r219) 1 (K6 (dP r n kk6) 0 4 5 26 27 28)) (K6 (dP r n kk6) 0 4 5 26 27 28) = (K8 (qL r n kk6) 0 4 5 6 7 26 27 28) :=
 (bLy r n kk6).trans
 ((by kernel_rfl))
theorem bYg (kk6 : cZ) : D219 r n aNg (xs x0 0 r219) (K6 kk6 0 4 5 26 27 28) = D219 r n xD (xs x0 0 r219) (K6 (dP r n kk6) 0 4 5 26 27 28) :=
 congrArg (fun k => D219 r n xD (xs x0 0 r219) k) (dDs r n kk6)
theorem cLw (kk6 : cZ) : D219 r n vS (xs (xs x0 0 r219) 1 (K6 (dP r n kk6) 0 4 5 26 27 28)) (K6 (dP r n kk6) 0 4 5 26 27 28) = D219 r n aKz (xs (xs x0 0 r219) 1 (K6 (dP r n kk6) 0 4 5 26 27 28)) (K8 (qL r n kk6) 0 4 5 6 7 26 27 28) :=
 congrArg (fun k => D219 r n aKz (xs (xs x0 0 r219) 1 (K6 (dP r n kk6) 0 4 5 26 27 28)) k) (cCr r n kk6)
theorem cJl (kk6 : cZ) (q0 : TT8) (q1 : cZ) : D219 r n aKz (xs (xs x0 0 r219) 1 (K6 q1 0 4 5 26 27 28)) (K8 q0 0 4 5 6 7 26 27 28) = fun (env : bB) (h : Hp) =>
 bnd (aJ 6 (env 26) (env 28) h) fun v1 h1 =>
 bnd (aG 6 v1 h1) fun v2 h2 =>
 bnd (aZ cV h2) fun v3 h3 =>
 bnd (aC 6 v3 v2 h3) fun _ h4 =>
  q0 (env 0) (env 4) (env 5) (env 28) v3 (env 26) (env 27) (env 28) h4 := by kernel_rfl
theorem bMa (kk6 : cZ) : (fun (env : bB) (h : Hp) =>
 bnd (aJ 6 (env 26) (env 28) h) fun v1 h1 =>
 bnd (aG 6 v1 h1) fun v2 h2 =>
 bnd (aZ cV h2) fun v3 h3 =>
 bnd (aC 6 v3 v2 h3) fun _ h4 =>
  qL r n kk6 (env 0) (env 4) (env 5) (env 28) v3 (env 26) (env 27) (env 28) h4) = (K6 (aHs r n kk6) 0 4 5 26 27 28) := by kernel_rfl
theorem cOz (kk6 : cZ) : D219 r n aNg (xs x0 0 r219) (K6 kk6 0 4 5 26 27 28) = (K6 (aHs r n kk6) 0 4 5 26 27 28) :=
 (bYg r n kk6).trans
 ((by kernel_rfl : D219 r n xD (xs x0 0 r219) (K6 (dP r n kk6) 0 4 5 26 27 28) = D219 r n vS (xs (xs x0 0 r219) 1 (K6 (dP r n kk6) 0 4 5 26 27 28)) (K6 (dP r n kk6) 0 4 5 26 27 28)).trans
 ((cLw r n kk6).trans
 ((cJl r n kk6 (qL r n kk6) (dP r n kk6)).trans (bMa r n kk6))))
theorem bYl (kk6 : cZ) : D219 r n aLq (xs x0 0 r219) (K6 kk6 0 4 5 26 27 28) = D219 r n bDz (xs x0 0 r219) (K6 (aHs r n kk6) 0 4 5 26 27 28) :=
 congrArg (fun k => D219 r n bDz (xs x0 0 r219) k) (cOz r n kk6)
theorem cWg (kk6 : cZ) : D219 r n aLq (xs x0 0 r219) (K6 kk6 0 4 5 26 27 28) = (K7 (aWj r n kk6) 0 4 5 26 27 28 29) :=
 (bYl r n kk6).trans
 ((by kernel_rfl))
theorem cEb (kk6 : cZ) : D219 r n kS (xs x0 0 r219) (K6 kk6 0 4 5 26 27 28) = D219 r n bHd (xs x0 0 r219) (K7 (aWj r n kk6) 0 4 5 26 27 28 29) :=
 congrArg (fun k => D219 r n bHd (xs x0 0 r219) k) (cWg r n kk6)
theorem bRx (kk6 : cZ) : D219 r n kS (xs x0 0 r219) (K6 kk6 0 4 5 26 27 28) = (K6 (bDm r n kk6) 0 4 5 26 27 28) :=
 (cEb r n kk6).trans
 ((by kernel_rfl))
theorem bRk (m : Nat) : aL (fun kk => D219 r n kS (xs x0 0 r219) kk) m = (K6 (wH r n m) 0 4 5 26 27 28) := by
 induction m with
 | zero => exact (by kernel_rfl : aL (fun kk => D219 r n kS (xs x0 0 r219) kk) 0 = (K6 (wH r n 0) 0 4 5 26 27 28))
 | succ m ih =>
  refine (by kernel_rfl : aL (fun kk => D219 r n kS (xs x0 0 r219) kk) (m + 1) = D219 r n kS (xs x0 0 r219) (aL (fun kk => D219 r n kS (xs x0 0 r219) kk) m)).trans ?_
  rw [ih]
  exact (bRx r n (wH r n m)).trans (by kernel_rfl)
theorem cXr : D219 r n aKf (xs x0 0 r219) r219 = (K6 (bQm r n) 0 4 5 26 27 28) :=
 (by kernel_rfl : D219 r n aKf (xs x0 0 r219) r219 = aL (fun kk => D219 r n kS (xs x0 0 r219) kk) n).trans ((bRk r n n).trans (by kernel_rfl))
theorem dFg : D219 r n aZj x0 r219 = (K6 (aZx r n) 0 4 5 26 27 28) :=
 (by kernel_rfl : D219 r n aZj x0 r219 = D219 r n aKf (xs x0 0 r219) r219).trans
 ((cXr r n).trans (by kernel_rfl))
theorem bXw : D219 r n aHr x0 r219 = D219 r n bKq x0 (K6 (aZx r n) 0 4 5 26 27 28) :=
 congrArg (fun k => D219 r n bKq x0 k) (dFg r n)
theorem cSg : D219 r n aHr x0 r219 = (K4 (aXr r n) 0 3 4 5) :=
 (bXw r n).trans
 ((by kernel_rfl))
theorem bWz : D219 r n aLh x0 r219 = D219 r n bCb x0 (K4 (aXr r n) 0 3 4 5) :=
 congrArg (fun k => D219 r n bCb x0 k) (cSg r n)
theorem dEj : D219 r n aLh x0 r219 = (K3 (aVa r n) 0 3 4) :=
 (bWz r n).trans
 ((by kernel_rfl))
theorem bMh : D219 r n aDm x0 r219 = D219 r n bJc x0 (K3 (aVa r n) 0 3 4) :=
 congrArg (fun k => D219 r n bJc x0 k) (dEj r n)
theorem cSs : D219 r n aDm x0 r219 = (K2 (aYm r n) 0 3) :=
 (bMh r n).trans
 ((by kernel_rfl))
theorem bPm : D219 r n aLt x0 r219 = D219 r n bDr x0 (K2 (aYm r n) 0 3) :=
 congrArg (fun k => D219 r n bDr x0 k) (cSs r n)
theorem cQp : D219 r n aLt x0 r219 = (K2 (zC r n) 0 3) :=
 (bPm r n).trans
 ((by kernel_rfl))
theorem dAh : D219 r n c219 x0 r219 = D219 r n aGq x0 (K2 (zC r n) 0 3) :=
 congrArg (fun k => D219 r n aGq x0 k) (cQp r n)
theorem cWa (q0 : eK) : D219 r n aGq x0 (K2 q0 0 3) = fun (env : bB) (h : Hp) =>
 bnd (bJ (env 1) h) fun v1 h1 =>
  q0 (env 0) v1 h1 := by kernel_rfl
theorem bRn : (fun (env : bB) (h : Hp) =>
 bnd (bJ (env 1) h) fun v1 h1 =>
  zC r n (env 0) v1 h1) = (K2 (s219 r n) 0 1) := by kernel_rfl
theorem dYy : D219 r n c219 x0 r219 = (K2 (s219 r n) 0 1) :=
 (dAh r n).trans
 ((cWa r n (zC r n)).trans (bRn r n))
theorem dUe : aE CF r n 219 args h = s219 r n (aO args 0) (aO args 1) h :=
 (by kernel_rfl : aE CF r n 219 args h = D219 r n c219 x0 r219 (aI args) h).trans ((congrFun (congrFun (dYy r n) (aI args)) h).trans (by kernel_rfl))
noncomputable def s220 (r : RT) (n : Nat) (x0 x1 : DV) (h0 : Hp) : aK :=
 bnd (bJ x0 h0) fun v1 h1 =>
 bnd (bJ x1 h1) fun v2 h2 =>
 bnd (aA v1 h2) fun v3 h3 =>
 bnd (r 248 [v3] h3) fun v4 h4 =>
 bnd (aZ [(aD 0)] h4) fun v5 h5 =>
 bnd (aC 1 v5 v4 h5) fun _ h6 =>
 bnd (aA v1 h6) fun v7 h7 =>
 bnd (aA v2 h7) fun v8 h8 =>
 bnd (r 187 [v7, v8, (aD 0), (aD 0)] h8) fun v9 h9 =>
 some ((.f 249 [] [v1, v5, v2]), h9)
noncomputable abbrev c220 : Code := cf Tryz.f220
noncomputable abbrev r220 : K := aR CF Tryz.f220
noncomputable def D220 (r : RT) (n : Nat) (c : Code) (X : Nat → K) (k : K) : K := aM CF r 12 n c X r220 k
theorem eDy : D220 r n c220 x0 r220 = (K2 (s220 r n) 0 1) :=
 (by kernel_rfl)
theorem dOo : aE CF r n 220 args h = s220 r n (aO args 0) (aO args 1) h :=
 (by kernel_rfl : aE CF r n 220 args h = D220 r n c220 x0 r220 (aI args) h).trans ((congrFun (congrFun (eDy r n) (aI args)) h).trans (by kernel_rfl))
noncomputable def aMk (r : RT) (n : Nat) (x0 x4 : DV) (h0 : Hp) : aK :=
 bnd (aQ x0 h0) fun v1 h1 =>
 bnd (aB 6 v1 h1) fun v2 h2 =>
 bnd (aC 1 v2 x4 h2) fun _ h3 =>
 some (.t [], h3)
noncomputable def bY (r : RT) (n : Nat) (x0 x3 x4 : DV) (h0 : Hp) : aK :=
 bnd (aB 5 x3 h0) fun v1 h1 =>
 bnd (aA v1 h1) fun v2 h2 =>
 bnd (bO v2 h2) fun v3 h3 =>
 bnd (aF .eql v3 (aD 0) h3) fun v4 h4 =>
 aU v4 (
 bnd (r 187 [x0, (aD 2), (aD 0), (aD 0)] h4) fun v5 h5 =>
  aMk r n x0 x4 h5) (
  aMk r n x0 x4 h4)
noncomputable def dQ (r : RT) (n : Nat) (kk9 : cZ) (x0 x3 x4 x35 x36 x37 : DV) (h0 : Hp) : aK :=
 bnd (aF .add x37 (aD 1) h0) fun v1 h1 =>
  kk9 x0 x3 x4 x35 x36 v1 h1
noncomputable def xM (r : RT) (n : Nat) (kk9 : cZ) (x0 x3 x4 x6 x35 x36 x37 : DV) (h0 : Hp) : aK :=
 bnd (aG 6 x6 h0) fun v1 h1 =>
 bnd (r 186 [x0, v1] h1) fun v2 h2 =>
 bnd (aB 0 x6 h2) fun v3 h3 =>
 bnd (aA v3 h3) fun v4 h4 =>
 bnd (aF .eql v4 (aD 10) h4) fun v5 h5 =>
 aU v5 (
 bnd (r 187 [x0, (aD 2), (aD 0), (aD 0)] h5) fun v6 h6 =>
  dQ r n kk9 x0 x3 x4 x35 x36 x37 h6) (
  dQ r n kk9 x0 x3 x4 x35 x36 x37 h5)
noncomputable def qG (r : RT) (n : Nat) (kk9 : cZ) (x0 x3 x4 x5 x6 x35 x36 x37 : DV) (h0 : Hp) : aK :=
 bnd (aF .gtr x5 (aD 0) h0) fun v1 h1 =>
 aU v1 (
 bnd (r 187 [x0, (aD 12), (aD 0), (aD 0)] h1) fun v2 h2 =>
  xM r n kk9 x0 x3 x4 x6 x35 x36 x37 h2) (
  xM r n kk9 x0 x3 x4 x6 x35 x36 x37 h1)
noncomputable def vQ (r : RT) (n : Nat) (kk9 : cZ) (x0 x3 x4 x35 x36 x37 : DV) (h0 : Hp) : aK :=
 bnd (aJ 6 x35 x37 h0) fun v1 h1 =>
 bnd (aG 6 v1 h1) fun v2 h2 =>
 bnd (aZ cV h2) fun v3 h3 =>
 bnd (aC 6 v3 v2 h3) fun _ h4 =>
  qG r n kk9 x0 x3 x4 x37 v3 x35 x36 x37 h4
noncomputable def aHh (r : RT) (n : Nat) (kk9 : cZ) (x0 x3 x4 x35 x36 x37 x38 : DV) (h0 : Hp) : aK :=
 aU x38 (
  vQ r n kk9 x0 x3 x4 x35 x36 x37 h0) (
  bY r n x0 x3 x4 h0)
noncomputable def bHe (r : RT) (n : Nat) (kk9 : cZ) (x0 x3 x4 x35 x36 x37 : DV) (h0 : Hp) : aK :=
 bnd (aF .lss x37 x36 h0) fun v1 h1 =>
  aHh r n kk9 x0 x3 x4 x35 x36 x37 v1 h1
noncomputable def vI (r : RT) (n : Nat) (m : Nat) : cZ :=
 Nat.rec (motive := fun _ => cZ) (fun _ _ _ _ _ _ _ => none) (fun _ ih => bHe r n ih) m
noncomputable def bYh (r : RT) (n : Nat) : cZ := vI r n n
noncomputable def aXb (r : RT) (n : Nat) (x0 x3 x4 x35 x36 x37 : DV) (h0 : Hp) : aK :=
 bYh r n x0 x3 x4 x35 x36 x37 h0
noncomputable def aVb (r : RT) (n : Nat) (x0 x3 x4 : DV) (h0 : Hp) : aK :=
 bnd (aB 5 x3 h0) fun v1 h1 =>
 bnd (aA v1 h1) fun v2 h2 =>
 bnd (bO v2 h2) fun v3 h3 =>
  aXb r n x0 x3 x4 v2 v3 (aD 0) h3
noncomputable def bBb (r : RT) (n : Nat) (x0 x3 x4 : DV) (h0 : Hp) : aK :=
 bnd (aB 4 x3 h0) fun v1 h1 =>
 bnd (aA v1 h1) fun v2 h2 =>
 bnd (r 185 [x0, v2, (.b false)] h2) fun v3 h3 =>
  aVb r n x0 x3 x4 h3
noncomputable def aXf (r : RT) (n : Nat) (x0 x3 x4 : DV) (h0 : Hp) : aK :=
 bnd (aB 3 x3 h0) fun v1 h1 =>
 bnd (aA v1 h1) fun v2 h2 =>
 bnd (r 185 [x0, v2, (.b true)] h2) fun v3 h3 =>
  bBb r n x0 x3 x4 h3
noncomputable def aXo (r : RT) (n : Nat) (x0 x3 x4 : DV) (h0 : Hp) : aK :=
 bnd (aQ x0 h0) fun v1 h1 =>
 bnd (aB 6 v1 h1) fun v2 h2 =>
 bnd (aC 1 v2 x4 h2) fun _ h3 =>
  aXf r n x0 x3 x4 h3
noncomputable def yS (r : RT) (n : Nat) (x0 x3 : DV) (h0 : Hp) : aK :=
 bnd (aQ x0 h0) fun v1 h1 =>
 bnd (aB 6 v1 h1) fun v2 h2 =>
 bnd (aA v2 h2) fun v3 h3 =>
 bnd (aQ x0 h3) fun v4 h4 =>
 bnd (aB 6 v4 h4) fun v5 h5 =>
 bnd (aA v5 h5) fun v6 h6 =>
 bnd (bO v6 h6) fun v7 h7 =>
 bnd (aQ x0 h7) fun v8 h8 =>
 bnd (aB 6 v8 h8) fun v9 h9 =>
 bnd (aA v9 h9) fun v10 h10 =>
 bnd (bO v10 h10) fun v11 h11 =>
 bnd (mB v3 none v7 v11 h11) fun v12 h12 =>
  aXo r n x0 x3 v12 h12
noncomputable def s221 (r : RT) (n : Nat) (x0 x1 : DV) (h0 : Hp) : aK :=
 bnd (bJ x1 h0) fun v1 h1 =>
  yS r n x0 v1 h1
noncomputable abbrev c221 : Code := cf Tryz.f221
noncomputable abbrev aGj : Code := cR c221
noncomputable abbrev aKk : Code := cR aGj
noncomputable abbrev aEu : Code := cR aKk
noncomputable abbrev aMu : Code := cR aEu
noncomputable abbrev aIw : Code := cR aMu
noncomputable abbrev aJh : Code := cR aIw
noncomputable abbrev dQs : Code := cR aJh
noncomputable abbrev cGe : Code := cL aJh
noncomputable abbrev aBg : Code := cL aIw
noncomputable abbrev aGr : Code := cR aBg
noncomputable abbrev uJ : Code := cL aGr
noncomputable abbrev iY : Code := cL uJ
noncomputable abbrev vW : Code := cR iY
noncomputable abbrev vP : Code := cR vW
noncomputable abbrev dHd : Code := cR vP
noncomputable abbrev wS : Code := cL vP
noncomputable abbrev uR : Code := cL wS
noncomputable abbrev wC : Code := cR uR
noncomputable abbrev cUb : Code := cR wC
noncomputable abbrev bIj : Code := cL wC
noncomputable abbrev aOl : Code := cL uR
noncomputable abbrev bIi : Code := cL vW
noncomputable abbrev bFf : Code := cL iY
noncomputable abbrev bDa : Code := cL aBg
noncomputable abbrev bJe : Code := cL aMu
noncomputable abbrev bJy : Code := cL aEu
noncomputable abbrev bDh : Code := cL aKk
noncomputable abbrev bDj : Code := cL aGj
noncomputable abbrev aJu : Code := cL c221
noncomputable abbrev r221 : K := aR CF Tryz.f221
noncomputable def D221 (r : RT) (n : Nat) (c : Code) (X : Nat → K) (k : K) : K := aM CF r 65 n c X r221 k
theorem cYb : D221 r n dQs x0 r221 = (K2 (aMk r n) 0 4) :=
 (by kernel_rfl)
theorem cMk : D221 r n aJh x0 r221 = D221 r n cGe x0 (K2 (aMk r n) 0 4) :=
 congrArg (fun k => D221 r n cGe x0 k) (cYb r n)
theorem cZz : D221 r n aJh x0 r221 = (K3 (bY r n) 0 3 4) :=
 (cMk r n).trans
 ((by kernel_rfl))
theorem cKy (kk9 : cZ) : D221 r n dHd (xs x0 0 (K3 (bY r n) 0 3 4)) (K6 kk9 0 3 4 35 36 37) = (K6 (dQ r n kk9) 0 3 4 35 36 37) :=
 (by kernel_rfl)
theorem bUh (kk9 : cZ) : D221 r n cUb (xs (xs x0 0 (K3 (bY r n) 0 3 4)) 1 (K6 (dQ r n kk9) 0 3 4 35 36 37)) (K6 (dQ r n kk9) 0 3 4 35 36 37) = (K7 (xM r n kk9) 0 3 4 6 35 36 37) :=
 (by kernel_rfl)
theorem bNz (kk9 : cZ) : D221 r n wC (xs (xs x0 0 (K3 (bY r n) 0 3 4)) 1 (K6 (dQ r n kk9) 0 3 4 35 36 37)) (K6 (dQ r n kk9) 0 3 4 35 36 37) = D221 r n bIj (xs (xs x0 0 (K3 (bY r n) 0 3 4)) 1 (K6 (dQ r n kk9) 0 3 4 35 36 37)) (K7 (xM r n kk9) 0 3 4 6 35 36 37) :=
 congrArg (fun k => D221 r n bIj (xs (xs x0 0 (K3 (bY r n) 0 3 4)) 1 (K6 (dQ r n kk9) 0 3 4 35 36 37)) k) (bUh r n kk9)
theorem cFv (kk9 : cZ) : D221 r n wC (xs (xs x0 0 (K3 (bY r n) 0 3 4)) 1 (K6 (dQ r n kk9) 0 3 4 35 36 37)) (K6 (dQ r n kk9) 0 3 4 35 36 37) = (K8 (qG r n kk9) 0 3 4 5 6 35 36 37) :=
 (bNz r n kk9).trans
 ((by kernel_rfl))
theorem bMw (kk9 : cZ) : D221 r n vP (xs x0 0 (K3 (bY r n) 0 3 4)) (K6 kk9 0 3 4 35 36 37) = D221 r n wS (xs x0 0 (K3 (bY r n) 0 3 4)) (K6 (dQ r n kk9) 0 3 4 35 36 37) :=
 congrArg (fun k => D221 r n wS (xs x0 0 (K3 (bY r n) 0 3 4)) k) (cKy r n kk9)
theorem bMi (kk9 : cZ) : D221 r n uR (xs (xs x0 0 (K3 (bY r n) 0 3 4)) 1 (K6 (dQ r n kk9) 0 3 4 35 36 37)) (K6 (dQ r n kk9) 0 3 4 35 36 37) = D221 r n aOl (xs (xs x0 0 (K3 (bY r n) 0 3 4)) 1 (K6 (dQ r n kk9) 0 3 4 35 36 37)) (K8 (qG r n kk9) 0 3 4 5 6 35 36 37) :=
 congrArg (fun k => D221 r n aOl (xs (xs x0 0 (K3 (bY r n) 0 3 4)) 1 (K6 (dQ r n kk9) 0 3 4 35 36 37)) k) (cFv r n kk9)
theorem bLd (kk9 : cZ) (q0 : TT8) (q1 : dU) (q2 : cZ) : D221 r n aOl (xs (xs x0 0 (K3 q1 0 3 4)) 1 (K6 q2 0 3 4 35 36 37)) (K8 q0 0 3 4 5 6 35 36 37) = fun (env : bB) (h : Hp) =>
 bnd (aJ 6 (env 35) (env 37) h) fun v1 h1 =>
 bnd (aG 6 v1 h1) fun v2 h2 =>
 bnd (aZ cV h2) fun v3 h3 =>
 bnd (aC 6 v3 v2 h3) fun _ h4 =>
  q0 (env 0) (env 3) (env 4) (env 37) v3 (env 35) (env 36) (env 37) h4 := by kernel_rfl
theorem aZs (kk9 : cZ) : (fun (env : bB) (h : Hp) =>
 bnd (aJ 6 (env 35) (env 37) h) fun v1 h1 =>
 bnd (aG 6 v1 h1) fun v2 h2 =>
 bnd (aZ cV h2) fun v3 h3 =>
 bnd (aC 6 v3 v2 h3) fun _ h4 =>
  qG r n kk9 (env 0) (env 3) (env 4) (env 37) v3 (env 35) (env 36) (env 37) h4) = (K6 (vQ r n kk9) 0 3 4 35 36 37) := by kernel_rfl
theorem bTp (kk9 : cZ) : D221 r n vP (xs x0 0 (K3 (bY r n) 0 3 4)) (K6 kk9 0 3 4 35 36 37) = (K6 (vQ r n kk9) 0 3 4 35 36 37) :=
 (bMw r n kk9).trans
 ((by kernel_rfl : D221 r n wS (xs x0 0 (K3 (bY r n) 0 3 4)) (K6 (dQ r n kk9) 0 3 4 35 36 37) = D221 r n uR (xs (xs x0 0 (K3 (bY r n) 0 3 4)) 1 (K6 (dQ r n kk9) 0 3 4 35 36 37)) (K6 (dQ r n kk9) 0 3 4 35 36 37)).trans
 ((bMi r n kk9).trans
 ((bLd r n kk9 (qG r n kk9) (bY r n) (dQ r n kk9)).trans (aZs r n kk9))))
theorem bLa (kk9 : cZ) : D221 r n vW (xs x0 0 (K3 (bY r n) 0 3 4)) (K6 kk9 0 3 4 35 36 37) = D221 r n bIi (xs x0 0 (K3 (bY r n) 0 3 4)) (K6 (vQ r n kk9) 0 3 4 35 36 37) :=
 congrArg (fun k => D221 r n bIi (xs x0 0 (K3 (bY r n) 0 3 4)) k) (bTp r n kk9)
theorem bSi (kk9 : cZ) : D221 r n vW (xs x0 0 (K3 (bY r n) 0 3 4)) (K6 kk9 0 3 4 35 36 37) = (K7 (aHh r n kk9) 0 3 4 35 36 37 38) :=
 (bLa r n kk9).trans
 ((by kernel_rfl))
theorem cBv (kk9 : cZ) : D221 r n iY (xs x0 0 (K3 (bY r n) 0 3 4)) (K6 kk9 0 3 4 35 36 37) = D221 r n bFf (xs x0 0 (K3 (bY r n) 0 3 4)) (K7 (aHh r n kk9) 0 3 4 35 36 37 38) :=
 congrArg (fun k => D221 r n bFf (xs x0 0 (K3 (bY r n) 0 3 4)) k) (bSi r n kk9)
theorem cNb (kk9 : cZ) : D221 r n iY (xs x0 0 (K3 (bY r n) 0 3 4)) (K6 kk9 0 3 4 35 36 37) = (K6 (bHe r n kk9) 0 3 4 35 36 37) :=
 (cBv r n kk9).trans
 ((by kernel_rfl))
theorem cLd (m : Nat) : aL (fun kk => D221 r n iY (xs x0 0 (K3 (bY r n) 0 3 4)) kk) m = (K6 (vI r n m) 0 3 4 35 36 37) := by
 induction m with
 | zero => exact (by kernel_rfl : aL (fun kk => D221 r n iY (xs x0 0 (K3 (bY r n) 0 3 4)) kk) 0 = (K6 (vI r n 0) 0 3 4 35 36 37))
 | succ m ih =>
  refine (by kernel_rfl : aL (fun kk => D221 r n iY (xs x0 0 (K3 (bY r n) 0 3 4)) kk) (m + 1) = D221 r n iY (xs x0 0 (K3 (bY r n) 0 3 4)) (aL (fun kk => D221 r n iY (xs x0 0 (K3 (bY r n) 0 3 4)) kk) m)).trans ?_
  rw [ih]
  exact (cNb r n (vI r n m)).trans (by kernel_rfl)
theorem dEy : D221 r n uJ (xs x0 0 (K3 (bY r n) 0 3 4)) (K3 (bY r n) 0 3 4) = (K6 (bYh r n) 0 3 4 35 36 37) :=
 (by kernel_rfl : D221 r n uJ (xs x0 0 (K3 (bY r n) 0 3 4)) (K3 (bY r n) 0 3 4) = aL (fun kk => D221 r n iY (xs x0 0 (K3 (bY r n) 0 3 4)) kk) n).trans ((cLd r n n).trans (by kernel_rfl))
theorem cQx : D221 r n aGr x0 (K3 (bY r n) 0 3 4) = (K6 (aXb r n) 0 3 4 35 36 37) :=
 (by kernel_rfl : D221 r n aGr x0 (K3 (bY r n) 0 3 4) = D221 r n uJ (xs x0 0 (K3 (bY r n) 0 3 4)) (K3 (bY r n) 0 3 4)).trans
 ((dEy r n).trans (by kernel_rfl))
theorem cLc : D221 r n aIw x0 r221 = D221 r n aBg x0 (K3 (bY r n) 0 3 4) :=
 congrArg (fun k => D221 r n aBg x0 k) (cZz r n)
theorem cHw : D221 r n aBg x0 (K3 (bY r n) 0 3 4) = D221 r n bDa x0 (K6 (aXb r n) 0 3 4 35 36 37) :=
 congrArg (fun k => D221 r n bDa x0 k) (cQx r n)
theorem dDm : D221 r n aIw x0 r221 = (K3 (aVb r n) 0 3 4) :=
 (cLc r n).trans
 ((cHw r n).trans
 ((by kernel_rfl)))
theorem bKz : D221 r n aMu x0 r221 = D221 r n bJe x0 (K3 (aVb r n) 0 3 4) :=
 congrArg (fun k => D221 r n bJe x0 k) (dDm r n)
theorem cTx : D221 r n aMu x0 r221 = (K3 (bBb r n) 0 3 4) :=
 (bKz r n).trans
 ((by kernel_rfl))
theorem bPo : D221 r n aEu x0 r221 = D221 r n bJy x0 (K3 (bBb r n) 0 3 4) :=
 congrArg (fun k => D221 r n bJy x0 k) (cTx r n)
theorem cXj : D221 r n aEu x0 r221 = (K3 (aXf r n) 0 3 4) :=
 (bPo r n).trans
 ((by kernel_rfl))
theorem bPy : D221 r n aKk x0 r221 = D221 r n bDh x0 (K3 (aXf r n) 0 3 4) :=
 congrArg (fun k => D221 r n bDh x0 k) (cXj r n)
theorem cUj : D221 r n aKk x0 r221 = (K3 (aXo r n) 0 3 4) :=
 (bPy r n).trans
 ((by kernel_rfl))
theorem bMc : D221 r n aGj x0 r221 = D221 r n bDj x0 (K3 (aXo r n) 0 3 4) :=
 congrArg (fun k => D221 r n bDj x0 k) (cUj r n)
theorem dEd : D221 r n aGj x0 r221 = (K2 (yS r n) 0 3) :=
 (bMc r n).trans
 ((by kernel_rfl))
theorem cQv : D221 r n c221 x0 r221 = D221 r n aJu x0 (K2 (yS r n) 0 3) :=
 congrArg (fun k => D221 r n aJu x0 k) (dEd r n)
theorem dBm (q0 : eK) : D221 r n aJu x0 (K2 q0 0 3) = fun (env : bB) (h : Hp) =>
 bnd (bJ (env 1) h) fun v1 h1 =>
  q0 (env 0) v1 h1 := by kernel_rfl
theorem cBd : (fun (env : bB) (h : Hp) =>
 bnd (bJ (env 1) h) fun v1 h1 =>
  yS r n (env 0) v1 h1) = (K2 (s221 r n) 0 1) := by kernel_rfl
theorem eEk : D221 r n c221 x0 r221 = (K2 (s221 r n) 0 1) :=
 (cQv r n).trans
 ((dBm r n (yS r n)).trans (cBd r n))
theorem dTr : aE CF r n 221 args h = s221 r n (aO args 0) (aO args 1) h :=
 (by kernel_rfl : aE CF r n 221 args h = D221 r n c221 x0 r221 (aI args) h).trans ((congrFun (congrFun (eEk r n) (aI args)) h).trans (by kernel_rfl))
noncomputable def aDf (r : RT) (n : Nat) (x3 : DV) (h0 : Hp) : aK :=
 bnd (aB 5 x3 h0) fun v1 h1 =>
 bnd (aA v1 h1) fun v2 h2 =>
 bnd (bO v2 h2) fun v3 h3 =>
 bnd (aF .eql v3 (aD 1) h3) fun v4 h4 =>
 some (v4, h4)
noncomputable def zN (r : RT) (n : Nat) (x0 x3 : DV) (h0 : Hp) : aK :=
 bnd (aB 5 x3 h0) fun v1 h1 =>
 bnd (aA v1 h1) fun v2 h2 =>
 bnd (bO v2 h2) fun v3 h3 =>
 bnd (aF .neq v3 (aD 1) h3) fun v4 h4 =>
 aU v4 (
 bnd (r 213 [x0, (.s []), (aD 1)] h4) fun v5 h5 =>
  aDf r n x3 h5) (
  aDf r n x3 h4)
noncomputable def s222 (r : RT) (n : Nat) (x0 x1 : DV) (h0 : Hp) : aK :=
 bnd (bJ x1 h0) fun v1 h1 =>
  zN r n x0 v1 h1
noncomputable abbrev c222 : Code := cf Tryz.f222
noncomputable abbrev aPi : Code := cR c222
noncomputable abbrev dMd : Code := cR aPi
noncomputable abbrev cOh : Code := cL aPi
noncomputable abbrev aXp : Code := cL c222
noncomputable abbrev r222 : K := aR CF Tryz.f222
noncomputable def D222 (r : RT) (n : Nat) (c : Code) (X : Nat → K) (k : K) : K := aM CF r 15 n c X r222 k
theorem cUa : D222 r n dMd x0 r222 = (K1 (aDf r n) 3) :=
 (by kernel_rfl)
theorem cHk : D222 r n aPi x0 r222 = D222 r n cOh x0 (K1 (aDf r n) 3) :=
 congrArg (fun k => D222 r n cOh x0 k) (cUa r n)
theorem cWn : D222 r n aPi x0 r222 = (K2 (zN r n) 0 3) :=
 (cHk r n).trans
 ((by kernel_rfl))
theorem dJr : D222 r n c222 x0 r222 = D222 r n aXp x0 (K2 (zN r n) 0 3) :=
 congrArg (fun k => D222 r n aXp x0 k) (cWn r n)
theorem dOv (q0 : eK) : D222 r n aXp x0 (K2 q0 0 3) = fun (env : bB) (h : Hp) =>
 bnd (bJ (env 1) h) fun v1 h1 =>
  q0 (env 0) v1 h1 := by kernel_rfl
theorem cTm : (fun (env : bB) (h : Hp) =>
 bnd (bJ (env 1) h) fun v1 h1 =>
  zN r n (env 0) v1 h1) = (K2 (s222 r n) 0 1) := by kernel_rfl
theorem eFz : D222 r n c222 x0 r222 = (K2 (s222 r n) 0 1) :=
 (dJr r n).trans
 ((dOv r n (zN r n)).trans (cTm r n))
theorem dTx : aE CF r n 222 args h = s222 r n (aO args 0) (aO args 1) h :=
 (by kernel_rfl : aE CF r n 222 args h = D222 r n c222 x0 r222 (aI args) h).trans ((congrFun (congrFun (eFz r n) (aI args)) h).trans (by kernel_rfl))
noncomputable def aFg (r : RT) (n : Nat) (kk2 : dJ) (x0 x2 x3 x8 x9 : DV) (h0 : Hp) : aK :=
 bnd (aF .add x3 x8 h0) fun v1 h1 =>
 bnd (aJ 1 x0 v1 h1) fun v2 h2 =>
 bnd (aA v2 h2) fun v3 h3 =>
 bnd (aF .add x3 x9 h3) fun v4 h4 =>
 bnd (aJ 1 x0 v4 h4) fun v5 h5 =>
 bnd (aA v5 h5) fun v6 h6 =>
 bnd (r 195 [v3, v6] h6) fun v7 h7 =>
 bnd (fR .not v7 h7) fun v8 h8 =>
 aU v8 (
 some (.t [], h8)) (
 bnd (aF .add x3 x8 h8) fun v9 h9 =>
 bnd (aF .add x3 x9 h9) fun v10 h10 =>
 bnd (aF .add x3 x9 h10) fun v11 h11 =>
 bnd (aJ 1 x0 v11 h11) fun v12 h12 =>
 bnd (aA v12 h12) fun v13 h13 =>
 bnd (aF .add x3 x8 h13) fun v14 h14 =>
 bnd (aJ 1 x0 v14 h14) fun v15 h15 =>
 bnd (aA v15 h15) fun v16 h16 =>
 bnd (aJ 1 x0 v9 h16) fun v17 h17 =>
 bnd (aC 1 v17 v13 h17) fun v18 h18 =>
 bnd (aJ 1 x0 v10 h18) fun v19 h19 =>
 bnd (aC 1 v19 v16 h19) fun v20 h20 =>
  kk2 x0 x2 x3 x9 h20)
noncomputable def aUx (r : RT) (n : Nat) (kk2 : dJ) (x0 x2 x3 x8 x9 : DV) (h0 : Hp) : aK :=
 bnd (aF .add x9 (aD 1) h0) fun v1 h1 =>
 bnd (aF .lss v1 x2 h1) fun v2 h2 =>
 bnd (gD v2 true (some (x0, h2)) h2) fun v3 h3 =>
 bnd (gD v2 true (some (x3, h3)) h3) fun v4 h4 =>
 bnd (gD v2 true (some (x9, h4)) h4) fun v5 h5 =>
 bnd (gD v2 true (aF .add v4 v5 h5) h5) fun v6 h6 =>
 bnd (gD v2 true (aJ 1 v3 v6 h6) h6) fun v7 h7 =>
 bnd (gD v2 true (aA v7 h7) h7) fun v8 h8 =>
 bnd (gD v2 true (some (x0, h8)) h8) fun v9 h9 =>
 bnd (gD v2 true (some (x3, h9)) h9) fun v10 h10 =>
 bnd (gD v2 true (some (x9, h10)) h10) fun v11 h11 =>
 bnd (gD v2 true (aF .add v10 v11 h11) h11) fun v12 h12 =>
 bnd (gD v2 true (aF .add v12 (aD 1) h12) h12) fun v13 h13 =>
 bnd (gD v2 true (aJ 1 v9 v13 h13) h13) fun v14 h14 =>
 bnd (gD v2 true (aA v14 h14) h14) fun v15 h15 =>
 bnd (gD v2 true (r 195 [v8, v15] h15) h15) fun v16 h16 =>
 bnd (aP v2 v16 (.b false) h16) fun v17 h17 =>
 aU v17 (
 bnd (aF .add x9 (aD 1) h17) fun v18 h18 =>
  aFg r n kk2 x0 x2 x3 x8 v18 h18) (
  aFg r n kk2 x0 x2 x3 x8 x9 h17)
noncomputable def aWy (r : RT) (n : Nat) (kk2 : dJ) (x0 x2 x3 x8 x9 : DV) (h0 : Hp) : aK :=
 bnd (aF .geq x9 x2 h0) fun v1 h1 =>
 aU v1 (
 some (.t [], h1)) (
  aUx r n kk2 x0 x2 x3 x8 x9 h1)
noncomputable def bId (r : RT) (n : Nat) (kk2 : dJ) (x0 x2 x3 x8 : DV) (h0 : Hp) : aK :=
 bnd (aF .mul (aD 2) x8 h0) fun v1 h1 =>
 bnd (aF .add v1 (aD 1) h1) fun v2 h2 =>
  aWy r n kk2 x0 x2 x3 x8 v2 h2
noncomputable def uQ (r : RT) (n : Nat) (m : Nat) : dJ :=
 Nat.rec (motive := fun _ => dJ) (fun _ _ _ _ _ => none) (fun _ ih => bId r n ih) m
noncomputable def cIq (r : RT) (n : Nat) : dJ := uQ r n n
noncomputable def bBe (r : RT) (n : Nat) (x0 x2 x3 x8 : DV) (h0 : Hp) : aK :=
 cIq r n x0 x2 x3 x8 h0
noncomputable def s223 (r : RT) (n : Nat) (x0 x1 x2 x3 : DV) (h0 : Hp) : aK :=
 bBe r n x0 x2 x3 x1 h0
noncomputable abbrev c223 : Code := cf Tryz.f223
noncomputable abbrev aXj : Code := cR c223
noncomputable abbrev aLe : Code := cL aXj
noncomputable abbrev lQ : Code := cL aLe
noncomputable abbrev aIj : Code := cL lQ
noncomputable abbrev aOj : Code := cR aIj
noncomputable abbrev aPq : Code := cR aOj
noncomputable abbrev dLw : Code := cR aPq
noncomputable abbrev bRi : Code := cL aPq
noncomputable abbrev cEm : Code := cL aOj
noncomputable abbrev bDu : Code := cL aIj
noncomputable abbrev bEj : Code := cL c223
noncomputable abbrev r223 : K := aR CF Tryz.f223
noncomputable def D223 (r : RT) (n : Nat) (c : Code) (X : Nat → K) (k : K) : K := aM CF r 76 n c X r223 k
theorem dEo (kk2 : dJ) : D223 r n dLw (xs (xs x0 0 r223) 1 (K4 kk2 0 2 3 8)) (K4 kk2 0 2 3 8) = (K5 (aFg r n kk2) 0 2 3 8 9) :=
 (by kernel_rfl)
theorem bZa (kk2 : dJ) : D223 r n aPq (xs (xs x0 0 r223) 1 (K4 kk2 0 2 3 8)) (K4 kk2 0 2 3 8) = D223 r n bRi (xs (xs x0 0 r223) 1 (K4 kk2 0 2 3 8)) (K5 (aFg r n kk2) 0 2 3 8 9) :=
 congrArg (fun k => D223 r n bRi (xs (xs x0 0 r223) 1 (K4 kk2 0 2 3 8)) k) (dEo r n kk2)
theorem dAt (kk2 : dJ) : D223 r n aPq (xs (xs x0 0 r223) 1 (K4 kk2 0 2 3 8)) (K4 kk2 0 2 3 8) = (K5 (aUx r n kk2) 0 2 3 8 9) :=
 (bZa r n kk2).trans
 ((by kernel_rfl))
theorem bZv (kk2 : dJ) : D223 r n aOj (xs (xs x0 0 r223) 1 (K4 kk2 0 2 3 8)) (K4 kk2 0 2 3 8) = D223 r n cEm (xs (xs x0 0 r223) 1 (K4 kk2 0 2 3 8)) (K5 (aUx r n kk2) 0 2 3 8 9) :=
 congrArg (fun k => D223 r n cEm (xs (xs x0 0 r223) 1 (K4 kk2 0 2 3 8)) k) (dAt r n kk2)
theorem cSy (kk2 : dJ) : D223 r n aOj (xs (xs x0 0 r223) 1 (K4 kk2 0 2 3 8)) (K4 kk2 0 2 3 8) = (K5 (aWy r n kk2) 0 2 3 8 9) :=
 (bZv r n kk2).trans
 ((by kernel_rfl))
theorem bVb (kk2 : dJ) : D223 r n aIj (xs (xs x0 0 r223) 1 (K4 kk2 0 2 3 8)) (K4 kk2 0 2 3 8) = D223 r n bDu (xs (xs x0 0 r223) 1 (K4 kk2 0 2 3 8)) (K5 (aWy r n kk2) 0 2 3 8 9) :=
 congrArg (fun k => D223 r n bDu (xs (xs x0 0 r223) 1 (K4 kk2 0 2 3 8)) k) (cSy r n kk2)
theorem cNh (kk2 : dJ) : D223 r n lQ (xs x0 0 r223) (K4 kk2 0 2 3 8) = (K4 (bId r n kk2) 0 2 3 8) :=
 (by kernel_rfl : D223 r n lQ (xs x0 0 r223) (K4 kk2 0 2 3 8) = D223 r n aIj (xs (xs x0 0 r223) 1 (K4 kk2 0 2 3 8)) (K4 kk2 0 2 3 8)).trans
 ((bVb r n kk2).trans
 ((by kernel_rfl)))
theorem cBn (m : Nat) : aL (fun kk => D223 r n lQ (xs x0 0 r223) kk) m = (K4 (uQ r n m) 0 2 3 8) := by
 induction m with
 | zero => exact (by kernel_rfl : aL (fun kk => D223 r n lQ (xs x0 0 r223) kk) 0 = (K4 (uQ r n 0) 0 2 3 8))
 | succ m ih =>
  refine (by kernel_rfl : aL (fun kk => D223 r n lQ (xs x0 0 r223) kk) (m + 1) = D223 r n lQ (xs x0 0 r223) (aL (fun kk => D223 r n lQ (xs x0 0 r223) kk) m)).trans ?_
  rw [ih]
  exact (cNh r n (uQ r n m)).trans (by kernel_rfl)
theorem cXg : D223 r n aLe (xs x0 0 r223) r223 = (K4 (cIq r n) 0 2 3 8) :=
 (by kernel_rfl : D223 r n aLe (xs x0 0 r223) r223 = aL (fun kk => D223 r n lQ (xs x0 0 r223) kk) n).trans ((cBn r n n).trans (by kernel_rfl))
theorem cQb : D223 r n aXj x0 r223 = (K4 (bBe r n) 0 2 3 8) :=
 (by kernel_rfl : D223 r n aXj x0 r223 = D223 r n aLe (xs x0 0 r223) r223).trans
 ((cXg r n).trans (by kernel_rfl))
theorem dTa : D223 r n c223 x0 r223 = D223 r n bEj x0 (K4 (bBe r n) 0 2 3 8) :=
 congrArg (fun k => D223 r n bEj x0 k) (cQb r n)
theorem dYe : D223 r n c223 x0 r223 = (K4 (s223 r n) 0 1 2 3) :=
 (dTa r n).trans
 ((by kernel_rfl))
theorem dSt : aE CF r n 223 args h = s223 r n (aO args 0) (aO args 1) (aO args 2) (aO args 3) h :=
 (by kernel_rfl : aE CF r n 223 args h = D223 r n c223 x0 r223 (aI args) h).trans ((congrFun (congrFun (dYe r n) (aI args)) h).trans (by kernel_rfl))
noncomputable def s224 (r : RT) (n : Nat) (x0 : DV) (h0 : Hp) : aK :=
 bnd (dS .u64 x0 h0) fun v1 h1 =>
 bnd (r 174 [v1] h1) fun v2 h2 =>
 bnd (dG .shl (.i .u64 (Int.ofNat 1)) v2 h2) fun v3 h3 =>
 some (v3, h3)
noncomputable abbrev c224 : Code := cf Tryz.f224
noncomputable abbrev r224 : K := aR CF Tryz.f224
noncomputable def D224 (r : RT) (n : Nat) (c : Code) (X : Nat → K) (k : K) : K := aM CF r 7 n c X r224 k
theorem dZa : D224 r n c224 x0 r224 = (K1 (s224 r n) 0) :=
 (by kernel_rfl)
theorem dOl : aE CF r n 224 args h = s224 r n (aO args 0) h :=
 (by kernel_rfl : aE CF r n 224 args h = D224 r n c224 x0 r224 (aI args) h).trans ((congrFun (congrFun (dZa r n) (aI args)) h).trans (by kernel_rfl))
noncomputable def s225 (r : RT) (n : Nat) (x0 : DV) (h0 : Hp) : aK :=
 bnd (aQ x0 h0) fun v1 h1 =>
 bnd (aA v1 h1) fun v2 h2 =>
 bnd (aQ x0 h2) fun v3 h3 =>
 bnd (aA v3 h3) fun v4 h4 =>
 bnd (dG .shl v4 (.i .u64 (Int.ofNat 13)) h4) fun v5 h5 =>
 bnd (aF .xor v2 v5 h5) fun v6 h6 =>
 bnd (aQ x0 h6) fun v7 h7 =>
 bnd (aC 1 v7 v6 h7) fun v8 h8 =>
 bnd (aQ x0 h8) fun v9 h9 =>
 bnd (aA v9 h9) fun v10 h10 =>
 bnd (aQ x0 h10) fun v11 h11 =>
 bnd (aA v11 h11) fun v12 h12 =>
 bnd (dG .shr v12 (.i .u64 (Int.ofNat 7)) h12) fun v13 h13 =>
 bnd (aF .xor v10 v13 h13) fun v14 h14 =>
 bnd (aQ x0 h14) fun v15 h15 =>
 bnd (aC 1 v15 v14 h15) fun v16 h16 =>
 bnd (aQ x0 h16) fun v17 h17 =>
 bnd (aA v17 h17) fun v18 h18 =>
 bnd (aQ x0 h18) fun v19 h19 =>
 bnd (aA v19 h19) fun v20 h20 =>
 bnd (dG .shl v20 (.i .u64 (Int.ofNat 17)) h20) fun v21 h21 =>
 bnd (aF .xor v18 v21 h21) fun v22 h22 =>
 bnd (aQ x0 h22) fun v23 h23 =>
 bnd (aC 1 v23 v22 h23) fun v24 h24 =>
 bnd (aQ x0 h24) fun v25 h25 =>
 bnd (aA v25 h25) fun v26 h26 =>
 some (v26, h26)
noncomputable abbrev c225 : Code := cf Tryz.f225
noncomputable abbrev r225 : K := aR CF Tryz.f225
noncomputable def D225 (r : RT) (n : Nat) (c : Code) (X : Nat → K) (k : K) : K := aM CF r 33 n c X r225 k
theorem eEw : D225 r n c225 x0 r225 = (K1 (s225 r n) 0) :=
 (by kernel_rfl)
theorem dQo : aE CF r n 225 args h = s225 r n (aO args 0) h :=
 (by kernel_rfl : aE CF r n 225 args h = D225 r n c225 x0 r225 (aI args) h).trans ((congrFun (congrFun (eEw r n) (aI args)) h).trans (by kernel_rfl))
noncomputable def s226 (r : RT) (n : Nat) (x0 x1 x2 : DV) (h0 : Hp) : aK :=
 bnd (aF .sub x1 (aD 1) h0) fun v1 h1 =>
 bnd (aF .add x1 (aD 1) h1) fun v2 h2 =>
 bnd (r 227 [x0, v1, x1, v2, x2] h2) fun v3 h3 =>
 some (v3, h3)
noncomputable abbrev c226 : Code := cf Tryz.f226
noncomputable abbrev r226 : K := aR CF Tryz.f226
noncomputable def D226 (r : RT) (n : Nat) (c : Code) (X : Nat → K) (k : K) : K := aM CF r 15 n c X r226 k
theorem eBp : D226 r n c226 x0 r226 = (K3 (s226 r n) 0 1 2) :=
 (by kernel_rfl)
theorem dLm : aE CF r n 226 args h = s226 r n (aO args 0) (aO args 1) (aO args 2) h :=
 (by kernel_rfl : aE CF r n 226 args h = D226 r n c226 x0 r226 (aI args) h).trans ((congrFun (congrFun (eBp r n) (aI args)) h).trans (by kernel_rfl))
noncomputable def s227 (r : RT) (n : Nat) (x0 x1 x2 x3 x4 : DV) (h0 : Hp) : aK :=
 bnd (r 251 [x0, x1, x2, x4] h0) fun v1 h1 =>
 bnd (aH 0 v1 h1) fun v2 h2 =>
 bnd (aH 1 v1 h2) fun v3 h3 =>
 bnd (r 251 [x0, v3, x3, x4] h3) fun v4 h4 =>
 bnd (aH 0 v4 h4) fun v5 h5 =>
 bnd (aH 1 v4 h5) fun v6 h6 =>
 bnd (r 251 [x0, v2, v5, x4] h6) fun v7 h7 =>
 bnd (aH 0 v7 h7) fun v8 h8 =>
 bnd (aH 1 v7 h8) fun v9 h9 =>
 some (v9, h9)
noncomputable abbrev c227 : Code := cf Tryz.f227
noncomputable abbrev r227 : K := aR CF Tryz.f227
noncomputable def D227 (r : RT) (n : Nat) (c : Code) (X : Nat → K) (k : K) : K := aM CF r 36 n c X r227 k
theorem dXs : D227 r n c227 x0 r227 = (K5 (s227 r n) 0 1 2 3 4) :=
 (by kernel_rfl)
theorem dUf : aE CF r n 227 args h = s227 r n (aO args 0) (aO args 1) (aO args 2) (aO args 3) (aO args 4) h :=
 (by kernel_rfl : aE CF r n 227 args h = D227 r n c227 x0 r227 (aI args) h).trans ((congrFun (congrFun (dXs r n) (aI args)) h).trans (by kernel_rfl))
noncomputable def s228 (r : RT) (n : Nat) (x0 : DV) (h0 : Hp) : aK :=
 bnd (eE .neq x0 x0 h0) fun v1 h1 =>
 some (v1, h1)
noncomputable abbrev c228 : Code := cf Tryz.f228
noncomputable abbrev r228 : K := aR CF Tryz.f228
noncomputable def D228 (r : RT) (n : Nat) (c : Code) (X : Nat → K) (k : K) : K := aM CF r 6 n c X r228 k
theorem eDj : D228 r n c228 x0 r228 = (K1 (s228 r n) 0) :=
 (by kernel_rfl)
theorem dMo : aE CF r n 228 args h = s228 r n (aO args 0) h :=
 (by kernel_rfl : aE CF r n 228 args h = D228 r n c228 x0 r228 (aI args) h).trans ((congrFun (congrFun (eDj r n) (aI args)) h).trans (by kernel_rfl))
noncomputable def s230 (r : RT) (n : Nat) (x0 : DV) (h0 : Hp) : aK :=
 bnd (r 203 [x0] h0) fun v1 h1 =>
 bnd (gD v1 false (some (x0, h1)) h1) fun v2 h2 =>
 bnd (gD v1 false (r 206 [v2] h2) h2) fun v3 h3 =>
 bnd (aP v1 (.b true) v3 h3) fun v4 h4 =>
 some (v4, h4)
noncomputable abbrev c230 : Code := cf Tryz.f230
noncomputable abbrev r230 : K := aR CF Tryz.f230
noncomputable def D230 (r : RT) (n : Nat) (c : Code) (X : Nat → K) (k : K) : K := aM CF r 9 n c X r230 k
theorem eGc : D230 r n c230 x0 r230 = (K1 (s230 r n) 0) :=
 (by kernel_rfl)
theorem dOu : aE CF r n 230 args h = s230 r n (aO args 0) h :=
 (by kernel_rfl : aE CF r n 230 args h = D230 r n c230 x0 r230 (aI args) h).trans ((congrFun (congrFun (eGc r n) (aI args)) h).trans (by kernel_rfl))
noncomputable def s231 (r : RT) (n : Nat) (x0 : DV) (h0 : Hp) : aK :=
 bnd (aF .neq x0 (.i .u8 (Int.ofNat 39)) h0) fun v1 h1 =>
 some (v1, h1)
noncomputable abbrev c231 : Code := cf Tryz.f231
noncomputable abbrev r231 : K := aR CF Tryz.f231
noncomputable def D231 (r : RT) (n : Nat) (c : Code) (X : Nat → K) (k : K) : K := aM CF r 5 n c X r231 k
theorem eFq : D231 r n c231 x0 r231 = (K1 (s231 r n) 0) :=
 (by kernel_rfl)
theorem dPv : aE CF r n 231 args h = s231 r n (aO args 0) h :=
 (by kernel_rfl : aE CF r n 231 args h = D231 r n c231 x0 r231 (aI args) h).trans ((congrFun (congrFun (eFq r n) (aI args)) h).trans (by kernel_rfl))
end Go.Dd

namespace Go.Dd
open Go.Proofs
variable (r : RT) (n : Nat) (args : List DV) (h : Hp)
noncomputable def fB (r : RT) (n : Nat) (x4 x5 : DV) (h0 : Hp) : aK :=
 bnd (aG 6 x5 h0) fun v1 h1 =>
 bnd (aC 6 x4 v1 h1) fun _ h2 =>
 bnd (aG 6 x4 h2) fun v3 _ =>
 some (v3, h2)
noncomputable def aDx (r : RT) (n : Nat) (kk5 : dU) (x0 x4 x5 : DV) (h0 : Hp) : aK :=
 bnd (r 179 [x0, (aD 2), (.s [])] h0) fun v1 h1 =>
 aU v1 (
 bnd (aB 1 x5 h1) fun v2 h2 =>
 bnd (aA v2 h2) fun v3 h3 =>
 bnd (r 180 [x0] h3) fun v4 h4 =>
 cnd (aX (aA v2 h4) v3 && true) (
 bnd (dO 1 v4 h4) fun v5 h5 =>
 bnd (eE .add v3 v5 h5) fun v6 h6 =>
 bnd (aB 1 x5 h6) fun v7 h7 =>
 bnd (aC 1 v7 v6 h7) fun v8 h8 =>
 bnd (aB 5 x5 (resv 1 h8)) fun v9 h9 =>
 bnd (aA v9 h9) fun v10 h10 =>
 bnd (r 235 [x0] h10) fun v11 h11 =>
 cnd (aX (aA v9 h11) v10 && true) (
 bnd (r 234 [x0, v11] h11) fun v12 h12 =>
 cnd (aX (aA v9 h12) v10 && true) (
 bnd (r 233 [x0, v12] h12) fun v13 h13 =>
 cnd (aX (aA v9 h13) v10 && true) (
 bnd (aV (bF 0 h8.next) cV 1 [(0, 6, v13)] h13) fun v14 h14 =>
 bnd (aY 6 104 v10 v14 h14) fun v15 h15 =>
 bnd (aB 5 x5 h15) fun v16 h16 =>
 bnd (aC 1 v16 v15 h16) fun v17 h17 =>
      kk5 x0 x4 x5 h17))))) (
      fB r n x4 x5 h1)
noncomputable def wT (r : RT) (n : Nat) (m : Nat) : dU :=
 Nat.rec (motive := fun _ => dU) (fun _ _ _ _ => none) (fun _ ih => aDx r n ih) m
noncomputable def bXm (r : RT) (n : Nat) : dU := wT r n n
noncomputable def aAw (r : RT) (n : Nat) (x0 x4 x5 : DV) (h0 : Hp) : aK :=
 bXm r n x0 x4 x5 h0
noncomputable def aIi (r : RT) (n : Nat) (x0 x3 x4 : DV) (h0 : Hp) : aK :=
 bnd (aG 6 x3 h0) fun v1 h1 =>
 bnd (aN cV 1 [(0, 6, v1)] h1) fun v2 h2 =>
 bnd (r 252 [(.s []), v2] h2) fun v3 h3 =>
 bnd (aZ cV h3) fun v4 h4 =>
 bnd (aC 6 v4 v3 h4) fun _ h5 =>
  aAw r n x0 x4 v4 h5
noncomputable def aAd (r : RT) (n : Nat) (x0 x3 x4 : DV) (h0 : Hp) : aK :=
 bnd (r 179 [x0, (aD 2), (.s [])] h0) fun v1 h1 =>
 bnd (fR .not v1 h1) fun v2 h2 =>
 aU v2 (
 bnd (aG 6 x3 h2) fun v3 h3 =>
 bnd (aC 6 x4 v3 h3) fun _ h4 =>
 bnd (aG 6 x4 h4) fun v5 _ =>
 some (v5, h4)) (
  aIi r n x0 x3 x4 h2)
noncomputable def s232 (r : RT) (n : Nat) (x0 x1 : DV) (h0 : Hp) : aK :=
 bnd (bJ x1 h0) fun v1 h1 =>
 bnd (aZ cV h1) fun v2 h2 =>
  aAd r n x0 v1 v2 h2
noncomputable abbrev c232 : Code := cf Tryz.f232
noncomputable abbrev aLc : Code := cR c232
noncomputable abbrev aJp : Code := cR aLc
noncomputable abbrev aFc : Code := cR aJp
noncomputable abbrev dQh : Code := cR aFc
noncomputable abbrev aHz : Code := cL aFc
noncomputable abbrev aEq : Code := cL aHz
noncomputable abbrev mS : Code := cL aEq
noncomputable abbrev aWm : Code := cL aJp
noncomputable abbrev cJd : Code := cL aLc
noncomputable abbrev aLk : Code := cL c232
noncomputable abbrev r232 : K := aR CF Tryz.f232
noncomputable def D232 (r : RT) (n : Nat) (c : Code) (X : Nat → K) (k : K) : K := aM CF r 34 n c X r232 k
theorem cUh : D232 r n dQh x0 r232 = (K2 (fB r n) 4 5) :=
 (by kernel_rfl)
theorem bSf (kk5 : dU) (q0 : eK) : D232 r n mS (xs x0 0 (K2 q0 4 5)) (K3 kk5 0 4 5) = fun (env : bB) (h : Hp) =>
 bnd (r 179 [(env 0), (aD 2), (.s [])] h) fun v1 h1 =>
 aU v1 (
 bnd (aB 1 (env 5) h1) fun v2 h2 =>
 bnd (aA v2 h2) fun v3 h3 =>
 bnd (r 180 [(env 0)] h3) fun v4 h4 =>
 cnd (aX (aA v2 h4) v3 && true) (
 bnd (dO 1 v4 h4) fun v5 h5 =>
 bnd (eE .add v3 v5 h5) fun v6 h6 =>
 bnd (aB 1 (env 5) h6) fun v7 h7 =>
 bnd (aC 1 v7 v6 h7) fun v8 h8 =>
 bnd (aB 5 (env 5) (resv 1 h8)) fun v9 h9 =>
 bnd (aA v9 h9) fun v10 h10 =>
 bnd (r 235 [(env 0)] h10) fun v11 h11 =>
 cnd (aX (aA v9 h11) v10 && true) (
 bnd (r 234 [(env 0), v11] h11) fun v12 h12 =>
 cnd (aX (aA v9 h12) v10 && true) (
 bnd (r 233 [(env 0), v12] h12) fun v13 h13 =>
 cnd (aX (aA v9 h13) v10 && true) (
 bnd (aV (bF 0 h8.next) cV 1 [(0, 6, v13)] h13) fun v14 h14 =>
 bnd (aY 6 104 v10 v14 h14) fun v15 h15 =>
 bnd (aB 5 (env 5) h15) fun v16 h16 =>
 bnd (aC 1 v16 v15 h16) fun v17 h17 =>
      kk5 (env 0) (env 4) (env 5) h17))))) (
      q0 (env 4) (env 5) h1) := by kernel_rfl
theorem bPt (kk5 : dU) : (fun (env : bB) (h : Hp) =>
 bnd (r 179 [(env 0), (aD 2), (.s [])] h) fun v1 h1 =>
 aU v1 (
 bnd (aB 1 (env 5) h1) fun v2 h2 =>
 bnd (aA v2 h2) fun v3 h3 =>
 bnd (r 180 [(env 0)] h3) fun v4 h4 =>
 cnd (aX (aA v2 h4) v3 && true) (
 bnd (dO 1 v4 h4) fun v5 h5 =>
 bnd (eE .add v3 v5 h5) fun v6 h6 =>
 bnd (aB 1 (env 5) h6) fun v7 h7 =>
 bnd (aC 1 v7 v6 h7) fun v8 h8 =>
 bnd (aB 5 (env 5) (resv 1 h8)) fun v9 h9 =>
 bnd (aA v9 h9) fun v10 h10 =>
 bnd (r 235 [(env 0)] h10) fun v11 h11 =>
 cnd (aX (aA v9 h11) v10 && true) (
 bnd (r 234 [(env 0), v11] h11) fun v12 h12 =>
 cnd (aX (aA v9 h12) v10 && true) (
 bnd (r 233 [(env 0), v12] h12) fun v13 h13 =>
 cnd (aX (aA v9 h13) v10 && true) (
 bnd (aV (bF 0 h8.next) cV 1 [(0, 6, v13)] h13) fun v14 h14 =>
 bnd (aY 6 104 v10 v14 h14) fun v15 h15 =>
 bnd (aB 5 (env 5) h15) fun v16 h16 =>
 bnd (aC 1 v16 v15 h16) fun v17 h17 =>
      kk5 (env 0) (env 4) (env 5) h17))))) (
      fB r n (env 4) (env 5) h1)) = (K3 (aDx r n kk5) 0 4 5) := by kernel_rfl
theorem cGo (kk5 : dU) : D232 r n mS (xs x0 0 (K2 (fB r n) 4 5)) (K3 kk5 0 4 5) = (K3 (aDx r n kk5) 0 4 5) :=
 (bSf r n kk5 (fB r n)).trans (bPt r n kk5)
theorem cLa (m : Nat) : aL (fun kk => D232 r n mS (xs x0 0 (K2 (fB r n) 4 5)) kk) m = (K3 (wT r n m) 0 4 5) := by
 induction m with
 | zero => exact (by kernel_rfl : aL (fun kk => D232 r n mS (xs x0 0 (K2 (fB r n) 4 5)) kk) 0 = (K3 (wT r n 0) 0 4 5))
 | succ m ih =>
  refine (by kernel_rfl : aL (fun kk => D232 r n mS (xs x0 0 (K2 (fB r n) 4 5)) kk) (m + 1) = D232 r n mS (xs x0 0 (K2 (fB r n) 4 5)) (aL (fun kk => D232 r n mS (xs x0 0 (K2 (fB r n) 4 5)) kk) m)).trans ?_
  rw [ih]
  exact (cGo r n (wT r n m)).trans (by kernel_rfl)
theorem cTt : D232 r n aEq (xs x0 0 (K2 (fB r n) 4 5)) (K2 (fB r n) 4 5) = (K3 (bXm r n) 0 4 5) :=
 (by kernel_rfl : D232 r n aEq (xs x0 0 (K2 (fB r n) 4 5)) (K2 (fB r n) 4 5) = aL (fun kk => D232 r n mS (xs x0 0 (K2 (fB r n) 4 5)) kk) n).trans ((cLa r n n).trans (by kernel_rfl))
theorem cEq : D232 r n aFc x0 r232 = D232 r n aHz x0 (K2 (fB r n) 4 5) :=
 congrArg (fun k => D232 r n aHz x0 k) (cUh r n)
theorem cOv : D232 r n aFc x0 r232 = (K3 (aAw r n) 0 4 5) :=
 (cEq r n).trans
 ((by kernel_rfl : D232 r n aHz x0 (K2 (fB r n) 4 5) = D232 r n aEq (xs x0 0 (K2 (fB r n) 4 5)) (K2 (fB r n) 4 5)).trans
 ((cTt r n).trans (by kernel_rfl)))
theorem cBm : D232 r n aJp x0 r232 = D232 r n aWm x0 (K3 (aAw r n) 0 4 5) :=
 congrArg (fun k => D232 r n aWm x0 k) (cOv r n)
theorem cEv (q0 : dU) : D232 r n aWm x0 (K3 q0 0 4 5) = fun (env : bB) (h : Hp) =>
 bnd (aG 6 (env 3) h) fun v1 h1 =>
 bnd (aN cV 1 [(0, 6, v1)] h1) fun v2 h2 =>
 bnd (r 252 [(.s []), v2] h2) fun v3 h3 =>
 bnd (aZ cV h3) fun v4 h4 =>
 bnd (aC 6 v4 v3 h4) fun _ h5 =>
  q0 (env 0) (env 4) v4 h5 := by kernel_rfl
theorem bNf : (fun (env : bB) (h : Hp) =>
 bnd (aG 6 (env 3) h) fun v1 h1 =>
 bnd (aN cV 1 [(0, 6, v1)] h1) fun v2 h2 =>
 bnd (r 252 [(.s []), v2] h2) fun v3 h3 =>
 bnd (aZ cV h3) fun v4 h4 =>
 bnd (aC 6 v4 v3 h4) fun _ h5 =>
  aAw r n (env 0) (env 4) v4 h5) = (K3 (aIi r n) 0 3 4) := by kernel_rfl
theorem dGa : D232 r n aJp x0 r232 = (K3 (aIi r n) 0 3 4) :=
 (cBm r n).trans
 ((cEv r n (aAw r n)).trans (bNf r n))
theorem cBk : D232 r n aLc x0 r232 = D232 r n cJd x0 (K3 (aIi r n) 0 3 4) :=
 congrArg (fun k => D232 r n cJd x0 k) (dGa r n)
theorem cRj : D232 r n aLc x0 r232 = (K3 (aAd r n) 0 3 4) :=
 (cBk r n).trans
 ((by kernel_rfl))
theorem dRw : D232 r n c232 x0 r232 = D232 r n aLk x0 (K3 (aAd r n) 0 3 4) :=
 congrArg (fun k => D232 r n aLk x0 k) (cRj r n)
theorem dPm (q0 : dU) : D232 r n aLk x0 (K3 q0 0 3 4) = fun (env : bB) (h : Hp) =>
 bnd (bJ (env 1) h) fun v1 h1 =>
 bnd (aZ cV h1) fun v2 h2 =>
  q0 (env 0) v1 v2 h2 := by kernel_rfl
theorem cRd : (fun (env : bB) (h : Hp) =>
 bnd (bJ (env 1) h) fun v1 h1 =>
 bnd (aZ cV h1) fun v2 h2 =>
  aAd r n (env 0) v1 v2 h2) = (K2 (s232 r n) 0 1) := by kernel_rfl
theorem dZl : D232 r n c232 x0 r232 = (K2 (s232 r n) 0 1) :=
 (dRw r n).trans
 ((dPm r n (aAd r n)).trans (cRd r n))
theorem dNt : aE CF r n 232 args h = s232 r n (aO args 0) (aO args 1) h :=
 (by kernel_rfl : aE CF r n 232 args h = D232 r n c232 x0 r232 (aI args) h).trans ((congrFun (congrFun (dZl r n) (aI args)) h).trans (by kernel_rfl))
noncomputable def fC (r : RT) (n : Nat) (x3 x4 : DV) (h0 : Hp) : aK :=
 bnd (aG 6 x3 h0) fun v1 h1 =>
 bnd (aC 6 x4 v1 h1) fun _ h2 =>
 bnd (aG 6 x4 h2) fun v3 _ =>
 some (v3, h2)
noncomputable def aOu (r : RT) (n : Nat) (kk3 : dU) (x0 x3 x4 : DV) (h0 : Hp) : aK :=
 bnd (r 179 [x0, (aD 3), (.s [])] h0) fun v1 h1 =>
 aU v1 (
 bnd (r 180 [x0] h1) fun v2 h2 =>
 bnd (aZ [(aD 0), (.s []), (aD 0), (aD 0)] h2) fun v3 h3 =>
 bnd (aC 4 v3 v2 h3) fun _ h4 =>
 bnd (aB 1 v3 (resv 1 h4)) fun v5 h5 =>
 bnd (aA v5 h5) fun v6 h6 =>
 bnd (aG 6 x3 h6) fun v7 h7 =>
 bnd (r 235 [x0] h7) fun v8 h8 =>
 cnd (aX (aG 6 x3 h8) v7 && (aX (aA v5 h8) v6 && true)) (
 bnd (r 234 [x0, v8] h8) fun v9 h9 =>
 cnd (aX (aG 6 x3 h9) v7 && (aX (aA v5 h9) v6 && true)) (
 bnd (aV (bF 0 h4.next) [(aD 0), (.s []), (aD 0), .l0, .l0, .l0, (aD 0), (.s []), (aD 0), .l0, .l0, .l0] 2 [(0, 6, v7), (6, 6, v9)] h9) fun v10 h10 =>
 bnd (r 252 [v6, v10] h10) fun v11 h11 =>
 bnd (aC 6 x3 v11 h11) fun v12 h12 =>
      kk3 x0 x3 x4 h12))) (
      fC r n x3 x4 h1)
noncomputable def vX (r : RT) (n : Nat) (m : Nat) : dU :=
 Nat.rec (motive := fun _ => dU) (fun _ _ _ _ => none) (fun _ ih => aOu r n ih) m
noncomputable def cGa (r : RT) (n : Nat) : dU := vX r n n
noncomputable def aAi (r : RT) (n : Nat) (x0 x3 x4 : DV) (h0 : Hp) : aK :=
 cGa r n x0 x3 x4 h0
noncomputable def s233 (r : RT) (n : Nat) (x0 x1 : DV) (h0 : Hp) : aK :=
 bnd (bJ x1 h0) fun v1 h1 =>
 bnd (aZ cV h1) fun v2 h2 =>
  aAi r n x0 v1 v2 h2
noncomputable abbrev c233 : Code := cf Tryz.f233
noncomputable abbrev aDs : Code := cR c233
noncomputable abbrev dKt : Code := cR aDs
noncomputable abbrev aNp : Code := cL aDs
noncomputable abbrev aNc : Code := cL aNp
noncomputable abbrev nD : Code := cL aNc
noncomputable abbrev aYg : Code := cL c233
noncomputable abbrev r233 : K := aR CF Tryz.f233
noncomputable def D233 (r : RT) (n : Nat) (c : Code) (X : Nat → K) (k : K) : K := aM CF r 20 n c X r233 k
theorem dEb : D233 r n dKt x0 r233 = (K2 (fC r n) 3 4) :=
 (by kernel_rfl)
theorem cGr (kk3 : dU) (q0 : eK) : D233 r n nD (xs x0 0 (K2 q0 3 4)) (K3 kk3 0 3 4) = fun (env : bB) (h : Hp) =>
 bnd (r 179 [(env 0), (aD 3), (.s [])] h) fun v1 h1 =>
 aU v1 (
 bnd (r 180 [(env 0)] h1) fun v2 h2 =>
 bnd (aZ [(aD 0), (.s []), (aD 0), (aD 0)] h2) fun v3 h3 =>
 bnd (aC 4 v3 v2 h3) fun _ h4 =>
 bnd (aB 1 v3 (resv 1 h4)) fun v5 h5 =>
 bnd (aA v5 h5) fun v6 h6 =>
 bnd (aG 6 (env 3) h6) fun v7 h7 =>
 bnd (r 235 [(env 0)] h7) fun v8 h8 =>
 cnd (aX (aG 6 (env 3) h8) v7 && (aX (aA v5 h8) v6 && true)) (
 bnd (r 234 [(env 0), v8] h8) fun v9 h9 =>
 cnd (aX (aG 6 (env 3) h9) v7 && (aX (aA v5 h9) v6 && true)) (
 bnd (aV (bF 0 h4.next) [(aD 0), (.s []), (aD 0), .l0, .l0, .l0, (aD 0), (.s []), (aD 0), .l0, .l0, .l0] 2 [(0, 6, v7), (6, 6, v9)] h9) fun v10 h10 =>
 bnd (r 252 [v6, v10] h10) fun v11 h11 =>
 bnd (aC 6 (env 3) v11 h11) fun v12 h12 =>
      kk3 (env 0) (env 3) (env 4) h12))) (
      q0 (env 3) (env 4) h1) := by kernel_rfl
theorem bNn (kk3 : dU) : (fun (env : bB) (h : Hp) =>
 bnd (r 179 [(env 0), (aD 3), (.s [])] h) fun v1 h1 =>
 aU v1 (
 bnd (r 180 [(env 0)] h1) fun v2 h2 =>
 bnd (aZ [(aD 0), (.s []), (aD 0), (aD 0)] h2) fun v3 h3 =>
 bnd (aC 4 v3 v2 h3) fun _ h4 =>
 bnd (aB 1 v3 (resv 1 h4)) fun v5 h5 =>
 bnd (aA v5 h5) fun v6 h6 =>
 bnd (aG 6 (env 3) h6) fun v7 h7 =>
 bnd (r 235 [(env 0)] h7) fun v8 h8 =>
 cnd (aX (aG 6 (env 3) h8) v7 && (aX (aA v5 h8) v6 && true)) (
 bnd (r 234 [(env 0), v8] h8) fun v9 h9 =>
 cnd (aX (aG 6 (env 3) h9) v7 && (aX (aA v5 h9) v6 && true)) (
 bnd (aV (bF 0 h4.next) [(aD 0), (.s []), (aD 0), .l0, .l0, .l0, (aD 0), (.s []), (aD 0), .l0, .l0, .l0] 2 [(0, 6, v7), (6, 6, v9)] h9) fun v10 h10 =>
 bnd (r 252 [v6, v10] h10) fun v11 h11 =>
 bnd (aC 6 (env 3) v11 h11) fun v12 h12 =>
      kk3 (env 0) (env 3) (env 4) h12))) (
      fC r n (env 3) (env 4) h1)) = (K3 (aOu r n kk3) 0 3 4) := by kernel_rfl
theorem cKw (kk3 : dU) : D233 r n nD (xs x0 0 (K2 (fC r n) 3 4)) (K3 kk3 0 3 4) = (K3 (aOu r n kk3) 0 3 4) :=
 (cGr r n kk3 (fC r n)).trans (bNn r n kk3)
theorem bWl (m : Nat) : aL (fun kk => D233 r n nD (xs x0 0 (K2 (fC r n) 3 4)) kk) m = (K3 (vX r n m) 0 3 4) := by
 induction m with
 | zero => exact (by kernel_rfl : aL (fun kk => D233 r n nD (xs x0 0 (K2 (fC r n) 3 4)) kk) 0 = (K3 (vX r n 0) 0 3 4))
 | succ m ih =>
  refine (by kernel_rfl : aL (fun kk => D233 r n nD (xs x0 0 (K2 (fC r n) 3 4)) kk) (m + 1) = D233 r n nD (xs x0 0 (K2 (fC r n) 3 4)) (aL (fun kk => D233 r n nD (xs x0 0 (K2 (fC r n) 3 4)) kk) m)).trans ?_
  rw [ih]
  exact (cKw r n (vX r n m)).trans (by kernel_rfl)
theorem cVy : D233 r n aNc (xs x0 0 (K2 (fC r n) 3 4)) (K2 (fC r n) 3 4) = (K3 (cGa r n) 0 3 4) :=
 (by kernel_rfl : D233 r n aNc (xs x0 0 (K2 (fC r n) 3 4)) (K2 (fC r n) 3 4) = aL (fun kk => D233 r n nD (xs x0 0 (K2 (fC r n) 3 4)) kk) n).trans ((bWl r n n).trans (by kernel_rfl))
theorem bSh : D233 r n aDs x0 r233 = D233 r n aNp x0 (K2 (fC r n) 3 4) :=
 congrArg (fun k => D233 r n aNp x0 k) (dEb r n)
theorem dBl : D233 r n aDs x0 r233 = (K3 (aAi r n) 0 3 4) :=
 (bSh r n).trans
 ((by kernel_rfl : D233 r n aNp x0 (K2 (fC r n) 3 4) = D233 r n aNc (xs x0 0 (K2 (fC r n) 3 4)) (K2 (fC r n) 3 4)).trans
 ((cVy r n).trans (by kernel_rfl)))
theorem dWa : D233 r n c233 x0 r233 = D233 r n aYg x0 (K3 (aAi r n) 0 3 4) :=
 congrArg (fun k => D233 r n aYg x0 k) (dBl r n)
theorem dLs (q0 : dU) : D233 r n aYg x0 (K3 q0 0 3 4) = fun (env : bB) (h : Hp) =>
 bnd (bJ (env 1) h) fun v1 h1 =>
 bnd (aZ cV h1) fun v2 h2 =>
  q0 (env 0) v1 v2 h2 := by kernel_rfl
theorem dBu : (fun (env : bB) (h : Hp) =>
 bnd (bJ (env 1) h) fun v1 h1 =>
 bnd (aZ cV h1) fun v2 h2 =>
  aAi r n (env 0) v1 v2 h2) = (K2 (s233 r n) 0 1) := by kernel_rfl
theorem dYn : D233 r n c233 x0 r233 = (K2 (s233 r n) 0 1) :=
 (dWa r n).trans
 ((dLs r n (aAi r n)).trans (dBu r n))
theorem dWz : aE CF r n 233 args h = s233 r n (aO args 0) (aO args 1) h :=
 (by kernel_rfl : aE CF r n 233 args h = D233 r n c233 x0 r233 (aI args) h).trans ((congrFun (congrFun (dYn r n) (aI args)) h).trans (by kernel_rfl))
noncomputable def fI (r : RT) (n : Nat) (x3 x4 : DV) (h0 : Hp) : aK :=
 bnd (aG 6 x3 h0) fun v1 h1 =>
 bnd (aC 6 x4 v1 h1) fun _ h2 =>
 bnd (aG 6 x4 h2) fun v3 _ =>
 some (v3, h2)
noncomputable def aPa (r : RT) (n : Nat) (kk3 : dU) (x0 x3 x4 : DV) (h0 : Hp) : aK :=
 bnd (r 179 [x0, (aD 1), (.s [])] h0) fun v1 h1 =>
 aU v1 (
 bnd (r 180 [x0] (resv 1 h1)) fun v2 h2 =>
 bnd (dO 1 v2 h2) fun v3 h3 =>
 bnd (aG 6 x3 h3) fun v4 h4 =>
 cnd (aX (aG 6 x3 (resv 1 h1)) v4 && true) (
 bnd (aV (bF 0 h1.next) cV 1 [(0, 6, v4)] h4) fun v5 h5 =>
 bnd (r 252 [v3, v5] h5) fun v6 h6 =>
 bnd (aC 6 x3 v6 h6) fun v7 h7 =>
      kk3 x0 x3 x4 h7)) (
      fI r n x3 x4 h1)
noncomputable def uH (r : RT) (n : Nat) (m : Nat) : dU :=
 Nat.rec (motive := fun _ => dU) (fun _ _ _ _ => none) (fun _ ih => aPa r n ih) m
noncomputable def cEt (r : RT) (n : Nat) : dU := uH r n n
noncomputable def zY (r : RT) (n : Nat) (x0 x3 x4 : DV) (h0 : Hp) : aK :=
 cEt r n x0 x3 x4 h0
noncomputable def s234 (r : RT) (n : Nat) (x0 x1 : DV) (h0 : Hp) : aK :=
 bnd (bJ x1 h0) fun v1 h1 =>
 bnd (aZ cV h1) fun v2 h2 =>
  zY r n x0 v1 v2 h2
noncomputable abbrev c234 : Code := cf Tryz.f234
noncomputable abbrev aOg : Code := cR c234
noncomputable abbrev dKz : Code := cR aOg
noncomputable abbrev aPo : Code := cL aOg
noncomputable abbrev aMm : Code := cL aPo
noncomputable abbrev nF : Code := cL aMm
noncomputable abbrev aYj : Code := cL c234
noncomputable abbrev r234 : K := aR CF Tryz.f234
noncomputable def D234 (r : RT) (n : Nat) (c : Code) (X : Nat → K) (k : K) : K := aM CF r 14 n c X r234 k
theorem dAl : D234 r n dKz x0 r234 = (K2 (fI r n) 3 4) :=
 (by kernel_rfl)
theorem cAh (kk3 : dU) (q0 : eK) : D234 r n nF (xs x0 0 (K2 q0 3 4)) (K3 kk3 0 3 4) = fun (env : bB) (h : Hp) =>
 bnd (r 179 [(env 0), (aD 1), (.s [])] h) fun v1 h1 =>
 aU v1 (
 bnd (r 180 [(env 0)] (resv 1 h1)) fun v2 h2 =>
 bnd (dO 1 v2 h2) fun v3 h3 =>
 bnd (aG 6 (env 3) h3) fun v4 h4 =>
 cnd (aX (aG 6 (env 3) (resv 1 h1)) v4 && true) (
 bnd (aV (bF 0 h1.next) cV 1 [(0, 6, v4)] h4) fun v5 h5 =>
 bnd (r 252 [v3, v5] h5) fun v6 h6 =>
 bnd (aC 6 (env 3) v6 h6) fun v7 h7 =>
      kk3 (env 0) (env 3) (env 4) h7)) (
      q0 (env 3) (env 4) h1) := by kernel_rfl
theorem bNh (kk3 : dU) : (fun (env : bB) (h : Hp) =>
 bnd (r 179 [(env 0), (aD 1), (.s [])] h) fun v1 h1 =>
 aU v1 (
 bnd (r 180 [(env 0)] (resv 1 h1)) fun v2 h2 =>
 bnd (dO 1 v2 h2) fun v3 h3 =>
 bnd (aG 6 (env 3) h3) fun v4 h4 =>
 cnd (aX (aG 6 (env 3) (resv 1 h1)) v4 && true) (
 bnd (aV (bF 0 h1.next) cV 1 [(0, 6, v4)] h4) fun v5 h5 =>
 bnd (r 252 [v3, v5] h5) fun v6 h6 =>
 bnd (aC 6 (env 3) v6 h6) fun v7 h7 =>
      kk3 (env 0) (env 3) (env 4) h7)) (
      fI r n (env 3) (env 4) h1)) = (K3 (aPa r n kk3) 0 3 4) := by kernel_rfl
theorem cCm (kk3 : dU) : D234 r n nF (xs x0 0 (K2 (fI r n) 3 4)) (K3 kk3 0 3 4) = (K3 (aPa r n kk3) 0 3 4) :=
 (cAh r n kk3 (fI r n)).trans (bNh r n kk3)
theorem cDq (m : Nat) : aL (fun kk => D234 r n nF (xs x0 0 (K2 (fI r n) 3 4)) kk) m = (K3 (uH r n m) 0 3 4) := by
 induction m with
 | zero => exact (by kernel_rfl : aL (fun kk => D234 r n nF (xs x0 0 (K2 (fI r n) 3 4)) kk) 0 = (K3 (uH r n 0) 0 3 4))
 | succ m ih =>
  refine (by kernel_rfl : aL (fun kk => D234 r n nF (xs x0 0 (K2 (fI r n) 3 4)) kk) (m + 1) = D234 r n nF (xs x0 0 (K2 (fI r n) 3 4)) (aL (fun kk => D234 r n nF (xs x0 0 (K2 (fI r n) 3 4)) kk) m)).trans ?_
  rw [ih]
  exact (cCm r n (uH r n m)).trans (by kernel_rfl)
theorem cQe : D234 r n aMm (xs x0 0 (K2 (fI r n) 3 4)) (K2 (fI r n) 3 4) = (K3 (cEt r n) 0 3 4) :=
 (by kernel_rfl : D234 r n aMm (xs x0 0 (K2 (fI r n) 3 4)) (K2 (fI r n) 3 4) = aL (fun kk => D234 r n nF (xs x0 0 (K2 (fI r n) 3 4)) kk) n).trans ((cDq r n n).trans (by kernel_rfl))
theorem bYn : D234 r n aOg x0 r234 = D234 r n aPo x0 (K2 (fI r n) 3 4) :=
 congrArg (fun k => D234 r n aPo x0 k) (dAl r n)
theorem cRw : D234 r n aOg x0 r234 = (K3 (zY r n) 0 3 4) :=
 (bYn r n).trans
 ((by kernel_rfl : D234 r n aPo x0 (K2 (fI r n) 3 4) = D234 r n aMm (xs x0 0 (K2 (fI r n) 3 4)) (K2 (fI r n) 3 4)).trans
 ((cQe r n).trans (by kernel_rfl)))
theorem dWi : D234 r n c234 x0 r234 = D234 r n aYj x0 (K3 (zY r n) 0 3 4) :=
 congrArg (fun k => D234 r n aYj x0 k) (cRw r n)
theorem dRt (q0 : dU) : D234 r n aYj x0 (K3 q0 0 3 4) = fun (env : bB) (h : Hp) =>
 bnd (bJ (env 1) h) fun v1 h1 =>
 bnd (aZ cV h1) fun v2 h2 =>
  q0 (env 0) v1 v2 h2 := by kernel_rfl
theorem cZb : (fun (env : bB) (h : Hp) =>
 bnd (bJ (env 1) h) fun v1 h1 =>
 bnd (aZ cV h1) fun v2 h2 =>
  zY r n (env 0) v1 v2 h2) = (K2 (s234 r n) 0 1) := by kernel_rfl
theorem dXw : D234 r n c234 x0 r234 = (K2 (s234 r n) 0 1) :=
 (dWi r n).trans
 ((dRt r n (zY r n)).trans (cZb r n))
theorem dLo : aE CF r n 234 args h = s234 r n (aO args 0) (aO args 1) h :=
 (by kernel_rfl : aE CF r n 234 args h = D234 r n c234 x0 r234 (aI args) h).trans ((congrFun (congrFun (dXw r n) (aI args)) h).trans (by kernel_rfl))
noncomputable def pF (r : RT) (n : Nat) (x2 : DV) (h0 : Hp) : aK :=
 bnd (aS cV [] h0) fun v1 h1 =>
 bnd (aC 6 x2 v1 h1) fun _ h2 =>
 bnd (aG 6 x2 h2) fun v3 _ =>
 some (v3, h2)
noncomputable def tD (r : RT) (n : Nat) (x0 x2 : DV) (h0 : Hp) : aK :=
 bnd (r 183 [x0, (aD 0)] h0) fun v1 h1 =>
 bnd (aZ [(aD 0), (.s []), (aD 0), (aD 0)] h1) fun v2 h2 =>
 bnd (aC 4 v2 v1 h2) fun _ h3 =>
 bnd (aQ x0 h3) fun v4 h4 =>
 bnd (aB 3 v4 h4) fun v5 h5 =>
 bnd (aA v5 h5) fun v6 h6 =>
 bnd (aF .neq v6 (aD 0) h6) fun v7 h7 =>
 aU v7 (
  pF r n x2 h7) (
 bnd (aB 0 v2 h7) fun v8 h8 =>
 bnd (aA v8 h8) fun v9 h9 =>
 bnd (aF .eql v9 (aD 1) h9) fun v10 h10 =>
 aU v10 (
 bnd (r 180 [x0] h10) fun v11 h11 =>
 bnd (dO 1 v11 h11) fun v12 h12 =>
 bnd (aS cV [(0, 1, (aD 5)), (1, 1, v12)] h12) fun v13 h13 =>
 bnd (aC 6 x2 v13 h13) fun _ h14 =>
 bnd (aG 6 x2 h14) fun v15 _ =>
 some (v15, h14)) (
 bnd (aB 0 v2 h10) fun v16 h16 =>
 bnd (aA v16 h16) fun v17 h17 =>
 bnd (aF .eql v17 (aD 7) h17) fun v18 h18 =>
 aU v18 (
 bnd (r 254 [x0, (.f 255 [x0] [])] h18) fun v19 h19 =>
 bnd (aC 6 x2 v19 h19) fun _ h20 =>
 bnd (aG 6 x2 h20) fun v21 _ =>
 some (v21, h20)) (
 bnd (r 179 [x0, (aD 10), (.s [40])] h18) fun v22 h22 =>
 aU v22 (
 bnd (r 254 [x0, (.f 256 [x0] [])] h22) fun v23 h23 =>
 bnd (aC 6 x2 v23 h23) fun _ h24 =>
 bnd (aG 6 x2 h24) fun v25 _ =>
 some (v25, h24)) (
 bnd (r 179 [x0, (aD 10), (.s [91])] h22) fun v26 h26 =>
 aU v26 (
 bnd (r 254 [x0, (.f 257 [x0] [])] h26) fun v27 h27 =>
 bnd (aC 6 x2 v27 h27) fun _ h28 =>
 bnd (aG 6 x2 h28) fun v29 _ =>
 some (v29, h28)) (
 bnd (aG 4 v2 h26) fun v30 h30 =>
 bnd (r 182 [x0, v30, (aD 13)] h30) fun v31 h31 =>
      pF r n x2 h31)))))
noncomputable def tC (r : RT) (n : Nat) (x0 x2 : DV) (h0 : Hp) : aK :=
 bnd (r 253 [x0] h0) fun v1 h1 =>
 bnd (aH 0 v1 h1) fun v2 h2 =>
 bnd (aH 1 v1 h2) fun v3 h3 =>
 bnd (aZ cV h3) fun v4 h4 =>
 bnd (aC 6 v4 v2 h4) fun _ h5 =>
 aU v3 (
 bnd (aG 6 v4 h5) fun v6 h6 =>
 bnd (aC 6 x2 v6 h6) fun _ h7 =>
 bnd (aG 6 x2 h7) fun v8 _ =>
 some (v8, h7)) (
  tD r n x0 x2 h5)
noncomputable def s235 (r : RT) (n : Nat) (x0 : DV) (h0 : Hp) : aK :=
 bnd (aZ cV h0) fun v1 h1 =>
  tC r n x0 v1 h1
noncomputable abbrev c235 : Code := cf Tryz.f235
noncomputable abbrev aNi : Code := cR c235
noncomputable abbrev aPs : Code := cR aNi
noncomputable abbrev dSl : Code := cR aPs
noncomputable abbrev aUa : Code := cL aPs
noncomputable abbrev aUb : Code := cL aNi
noncomputable abbrev aYx : Code := cL c235
noncomputable abbrev r235 : K := aR CF Tryz.f235
noncomputable def D235 (r : RT) (n : Nat) (c : Code) (X : Nat → K) (k : K) : K := aM CF r 55 n c X r235 k
theorem dCd : D235 r n dSl x0 r235 = (K1 (pF r n) 2) :=
 (by kernel_rfl)
theorem cOe : D235 r n aPs x0 r235 = D235 r n aUa x0 (K1 (pF r n) 2) :=
 congrArg (fun k => D235 r n aUa x0 k) (dCd r n)
theorem bSn (q0 : TT1) : D235 r n aUa x0 (K1 q0 2) = fun (env : bB) (h : Hp) =>
 bnd (r 183 [(env 0), (aD 0)] h) fun v1 h1 =>
 bnd (aZ [(aD 0), (.s []), (aD 0), (aD 0)] h1) fun v2 h2 =>
 bnd (aC 4 v2 v1 h2) fun _ h3 =>
 bnd (aQ (env 0) h3) fun v4 h4 =>
 bnd (aB 3 v4 h4) fun v5 h5 =>
 bnd (aA v5 h5) fun v6 h6 =>
 bnd (aF .neq v6 (aD 0) h6) fun v7 h7 =>
 aU v7 (
   q0 (env 2) h7) (
 bnd (aB 0 v2 h7) fun v8 h8 =>
 bnd (aA v8 h8) fun v9 h9 =>
 bnd (aF .eql v9 (aD 1) h9) fun v10 h10 =>
 aU v10 (
 bnd (r 180 [(env 0)] h10) fun v11 h11 =>
 bnd (dO 1 v11 h11) fun v12 h12 =>
 bnd (aS cV [(0, 1, (aD 5)), (1, 1, v12)] h12) fun v13 h13 =>
 bnd (aC 6 (env 2) v13 h13) fun _ h14 =>
 bnd (aG 6 (env 2) h14) fun v15 _ =>
 some (v15, h14)) (
 bnd (aB 0 v2 h10) fun v16 h16 =>
 bnd (aA v16 h16) fun v17 h17 =>
 bnd (aF .eql v17 (aD 7) h17) fun v18 h18 =>
 aU v18 (
 bnd (r 254 [(env 0), (.f 255 [(env 0)] [])] h18) fun v19 h19 =>
 bnd (aC 6 (env 2) v19 h19) fun _ h20 =>
 bnd (aG 6 (env 2) h20) fun v21 _ =>
 some (v21, h20)) (
 bnd (r 179 [(env 0), (aD 10), (.s [40])] h18) fun v22 h22 =>
 aU v22 (
 bnd (r 254 [(env 0), (.f 256 [(env 0)] [])] h22) fun v23 h23 =>
 bnd (aC 6 (env 2) v23 h23) fun _ h24 =>
 bnd (aG 6 (env 2) h24) fun v25 _ =>
 some (v25, h24)) (
 bnd (r 179 [(env 0), (aD 10), (.s [91])] h22) fun v26 h26 =>
 aU v26 (
 bnd (r 254 [(env 0), (.f 257 [(env 0)] [])] h26) fun v27 h27 =>
 bnd (aC 6 (env 2) v27 h27) fun _ h28 =>
 bnd (aG 6 (env 2) h28) fun v29 _ =>
 some (v29, h28)) (
 bnd (aG 4 v2 h26) fun v30 h30 =>
 bnd (r 182 [(env 0), v30, (aD 13)] h30) fun v31 h31 =>
       q0 (env 2) h31))))) := by kernel_rfl
theorem bOn : (fun (env : bB) (h : Hp) =>
 bnd (r 183 [(env 0), (aD 0)] h) fun v1 h1 =>
 bnd (aZ [(aD 0), (.s []), (aD 0), (aD 0)] h1) fun v2 h2 =>
 bnd (aC 4 v2 v1 h2) fun _ h3 =>
 bnd (aQ (env 0) h3) fun v4 h4 =>
 bnd (aB 3 v4 h4) fun v5 h5 =>
 bnd (aA v5 h5) fun v6 h6 =>
 bnd (aF .neq v6 (aD 0) h6) fun v7 h7 =>
 aU v7 (
   pF r n (env 2) h7) (
 bnd (aB 0 v2 h7) fun v8 h8 =>
 bnd (aA v8 h8) fun v9 h9 =>
 bnd (aF .eql v9 (aD 1) h9) fun v10 h10 =>
 aU v10 (
 bnd (r 180 [(env 0)] h10) fun v11 h11 =>
 bnd (dO 1 v11 h11) fun v12 h12 =>
 bnd (aS cV [(0, 1, (aD 5)), (1, 1, v12)] h12) fun v13 h13 =>
 bnd (aC 6 (env 2) v13 h13) fun _ h14 =>
 bnd (aG 6 (env 2) h14) fun v15 _ =>
 some (v15, h14)) (
 bnd (aB 0 v2 h10) fun v16 h16 =>
 bnd (aA v16 h16) fun v17 h17 =>
 bnd (aF .eql v17 (aD 7) h17) fun v18 h18 =>
 aU v18 (
 bnd (r 254 [(env 0), (.f 255 [(env 0)] [])] h18) fun v19 h19 =>
 bnd (aC 6 (env 2) v19 h19) fun _ h20 =>
 bnd (aG 6 (env 2) h20) fun v21 _ =>
 some (v21, h20)) (
 bnd (r 179 [(env 0), (aD 10), (.s [40])] h18) fun v22 h22 =>
 aU v22 (
 bnd (r 254 [(env 0), (.f 256 [(env 0)] [])] h22) fun v23 h23 =>
 bnd (aC 6 (env 2) v23 h23) fun _ h24 =>
 bnd (aG 6 (env 2) h24) fun v25 _ =>
 some (v25, h24)) (
 bnd (r 179 [(env 0), (aD 10), (.s [91])] h22) fun v26 h26 =>
 aU v26 (
 bnd (r 254 [(env 0), (.f 257 [(env 0)] [])] h26) fun v27 h27 =>
 bnd (aC 6 (env 2) v27 h27) fun _ h28 =>
 bnd (aG 6 (env 2) h28) fun v29 _ =>
 some (v29, h28)) (
 bnd (aG 4 v2 h26) fun v30 h30 =>
 bnd (r 182 [(env 0), v30, (aD 13)] h30) fun v31 h31 =>
       pF r n (env 2) h31)))))) = (K2 (tD r n) 0 2) := by kernel_rfl
theorem dEt : D235 r n aPs x0 r235 = (K2 (tD r n) 0 2) :=
 (cOe r n).trans
 ((bSn r n (pF r n)).trans (bOn r n))
theorem bRz : D235 r n aNi x0 r235 = D235 r n aUb x0 (K2 (tD r n) 0 2) :=
 congrArg (fun k => D235 r n aUb x0 k) (dEt r n)
theorem cAr (q0 : eK) : D235 r n aUb x0 (K2 q0 0 2) = fun (env : bB) (h : Hp) =>
 bnd (r 253 [(env 0)] h) fun v1 h1 =>
 bnd (aH 0 v1 h1) fun v2 h2 =>
 bnd (aH 1 v1 h2) fun v3 h3 =>
 bnd (aZ cV h3) fun v4 h4 =>
 bnd (aC 6 v4 v2 h4) fun _ h5 =>
 aU v3 (
 bnd (aG 6 v4 h5) fun v6 h6 =>
 bnd (aC 6 (env 2) v6 h6) fun _ h7 =>
 bnd (aG 6 (env 2) h7) fun v8 _ =>
 some (v8, h7)) (
   q0 (env 0) (env 2) h5) := by kernel_rfl
theorem bLg : (fun (env : bB) (h : Hp) =>
 bnd (r 253 [(env 0)] h) fun v1 h1 =>
 bnd (aH 0 v1 h1) fun v2 h2 =>
 bnd (aH 1 v1 h2) fun v3 h3 =>
 bnd (aZ cV h3) fun v4 h4 =>
 bnd (aC 6 v4 v2 h4) fun _ h5 =>
 aU v3 (
 bnd (aG 6 v4 h5) fun v6 h6 =>
 bnd (aC 6 (env 2) v6 h6) fun _ h7 =>
 bnd (aG 6 (env 2) h7) fun v8 _ =>
 some (v8, h7)) (
   tD r n (env 0) (env 2) h5)) = (K2 (tC r n) 0 2) := by kernel_rfl
theorem dGd : D235 r n aNi x0 r235 = (K2 (tC r n) 0 2) :=
 (bRz r n).trans
 ((cAr r n (tD r n)).trans (bLg r n))
theorem dNd : D235 r n c235 x0 r235 = D235 r n aYx x0 (K2 (tC r n) 0 2) :=
 congrArg (fun k => D235 r n aYx x0 k) (dGd r n)
theorem dMg (q0 : eK) : D235 r n aYx x0 (K2 q0 0 2) = fun (env : bB) (h : Hp) =>
 bnd (aZ cV h) fun v1 h1 =>
  q0 (env 0) v1 h1 := by kernel_rfl
theorem cVf : (fun (env : bB) (h : Hp) =>
 bnd (aZ cV h) fun v1 h1 =>
  tC r n (env 0) v1 h1) = (K1 (s235 r n) 0) := by kernel_rfl
theorem eBn : D235 r n c235 x0 r235 = (K1 (s235 r n) 0) :=
 (dNd r n).trans
 ((dMg r n (tC r n)).trans (cVf r n))
theorem dWu : aE CF r n 235 args h = s235 r n (aO args 0) h :=
 (by kernel_rfl : aE CF r n 235 args h = D235 r n c235 x0 r235 (aI args) h).trans ((congrFun (congrFun (eBn r n) (aI args)) h).trans (by kernel_rfl))
noncomputable def s236 (r : RT) (n : Nat) (x0 : DV) (h0 : Hp) : aK :=
 bnd (bJ x0 h0) fun v1 h1 =>
 bnd (aZ cV h1) fun v2 h2 =>
 bnd (aB 5 v1 h2) fun v3 h3 =>
 bnd (aA v3 h3) fun v4 h4 =>
 bnd (bO v4 h4) fun v5 h5 =>
 bnd (aF .eql v5 (aD 0) h5) fun v6 h6 =>
 aU v6 (
 bnd (aG 6 v1 h6) fun v7 h7 =>
 bnd (aC 6 v2 v7 h7) fun _ h8 =>
 bnd (aG 6 v2 h8) fun v9 _ =>
 some (v9, h8)) (
 bnd (aB 1 v1 h6) fun v10 h10 =>
 bnd (aA v10 h10) fun v11 h11 =>
 bnd (aB 5 v1 h11) fun v12 h12 =>
 bnd (aA v12 h12) fun v13 h13 =>
 bnd (cW 6 v13 (some (aD 1)) none h13) fun v14 h14 =>
 bnd (r 258 [v14] h14) fun v15 h15 =>
 cnd (aX (aA v10 h15) v11 && true) (
 bnd (aS cV [(0, 1, (aD 7)), (1, 1, v11), (5, 1, v15)] h15) fun v16 h16 =>
 bnd (aC 6 v2 v16 h16) fun v17 h17 =>
 bnd (aG 6 v2 h17) fun v18 _ =>
 some (v18, h17)))
noncomputable abbrev c236 : Code := cf Tryz.f236
noncomputable abbrev r236 : K := aR CF Tryz.f236
noncomputable def D236 (r : RT) (n : Nat) (c : Code) (X : Nat → K) (k : K) : K := aM CF r 15 n c X r236 k
theorem dXi : D236 r n c236 x0 r236 = (K1 (s236 r n) 0) :=
 (by kernel_rfl)
theorem dNh : aE CF r n 236 args h = s236 r n (aO args 0) h :=
 (by kernel_rfl : aE CF r n 236 args h = D236 r n c236 x0 r236 (aI args) h).trans ((congrFun (congrFun (dXi r n) (aI args)) h).trans (by kernel_rfl))
noncomputable def s237 (r : RT) (n : Nat) (x0 : DV) (h0 : Hp) : aK :=
 bnd (aZ cV h0) fun v1 h1 =>
 bnd (aZ cV h1) fun v2 h2 =>
 bnd (r 183 [x0, (aD 0)] h2) fun v3 h3 =>
 bnd (aZ [(aD 0), (.s []), (aD 0), (aD 0)] h3) fun v4 h4 =>
 bnd (aC 4 v4 v3 h4) fun _ h5 =>
 bnd (aB 0 v4 h5) fun v6 h6 =>
 bnd (aA v6 h6) fun v7 h7 =>
 bnd (aF .eql v7 (aD 1) h7) fun v8 h8 =>
 aU v8 (
 bnd (r 180 [x0] h8) fun v9 h9 =>
 bnd (aB 1 v4 h9) fun v10 h10 =>
 bnd (aA v10 h10) fun v11 h11 =>
 bnd (aG 6 v2 h11) fun v12 h12 =>
 bnd (aN cV 1 [(0, 6, v12)] h12) fun v13 h13 =>
 bnd (r 252 [v11, v13] h13) fun v14 h14 =>
 bnd (aC 6 v1 v14 h14) fun _ h15 =>
 bnd (aG 6 v1 h15) fun v16 _ =>
 some (v16, h15)) (
 bnd (aF .eql v7 (aD 3) h8) fun v17 h17 =>
 aU v17 (
 bnd (r 180 [x0] h17) fun v18 h18 =>
 bnd (aB 1 v4 (resv 1 h18)) fun v19 h19 =>
 bnd (aA v19 h19) fun v20 h20 =>
 bnd (aG 6 v2 h20) fun v21 h21 =>
 bnd (r 235 [x0] h21) fun v22 h22 =>
 cnd (aX (aG 6 v2 h22) v21 && (aX (aA v19 h22) v20 && true)) (
 bnd (r 234 [x0, v22] h22) fun v23 h23 =>
 cnd (aX (aG 6 v2 h23) v21 && (aX (aA v19 h23) v20 && true)) (
 bnd (aV (bF 0 h18.next) [(aD 0), (.s []), (aD 0), .l0, .l0, .l0, (aD 0), (.s []), (aD 0), .l0, .l0, .l0] 2 [(0, 6, v21), (6, 6, v23)] h23) fun v24 h24 =>
 bnd (r 252 [v20, v24] h24) fun v25 h25 =>
 bnd (aC 6 v1 v25 h25) fun v26 h26 =>
 bnd (aG 6 v1 h26) fun v27 _ =>
 some (v27, h26)))) (
 bnd (aF .eql v7 (aD 2) h17) fun v28 h28 =>
 aU v28 (
 bnd (aG 6 v2 h28) fun v29 h29 =>
 bnd (r 232 [x0, v29] h29) fun v30 h30 =>
 bnd (aC 6 v1 v30 h30) fun _ h31 =>
 bnd (aG 6 v1 h31) fun v32 _ =>
 some (v32, h31)) (
 bnd (aG 4 v4 h28) fun v33 h33 =>
 bnd (r 182 [x0, v33, (aD 13)] h33) fun v34 h34 =>
 bnd (aG 6 v2 h34) fun v35 h35 =>
 bnd (aC 6 v1 v35 h35) fun _ h36 =>
 bnd (aG 6 v1 h36) fun v37 _ =>
 some (v37, h36))))
noncomputable abbrev c237 : Code := cf Tryz.f237
noncomputable abbrev r237 : K := aR CF Tryz.f237
noncomputable def D237 (r : RT) (n : Nat) (c : Code) (X : Nat → K) (k : K) : K := aM CF r 40 n c X r237 k
theorem eCw : D237 r n c237 x0 r237 = (K1 (s237 r n) 0) :=
 (by kernel_rfl)
theorem dLr : aE CF r n 237 args h = s237 r n (aO args 0) h :=
 (by kernel_rfl : aE CF r n 237 args h = D237 r n c237 x0 r237 (aI args) h).trans ((congrFun (congrFun (eCw r n) (aI args)) h).trans (by kernel_rfl))
noncomputable def fM (r : RT) (n : Nat) (h0 : Hp) : aK :=
 some ((.i .i64 (Int.negSucc 0)), h0)
noncomputable def bIe (r : RT) (n : Nat) (kk4 : dJ) (x0 x1 x7 x8 : DV) (h0 : Hp) : aK :=
 bnd (aF .lss x8 x7 h0) fun v1 h1 =>
 aU v1 (
 bnd (aJ 4 x0 x8 h1) fun v2 h2 =>
 bnd (aG 4 v2 h2) fun v3 h3 =>
 bnd (dF CF r x1 [v3] h3) fun v4 h4 =>
 aU v4 (
 some (x8, h4)) (
 bnd (aF .add x8 (aD 1) h4) fun v5 h5 =>
    kk4 x0 x1 x7 v5 h5)) (
      fM r n h1)
noncomputable def vM (r : RT) (n : Nat) (m : Nat) : dJ :=
 Nat.rec (motive := fun _ => dJ) (fun _ _ _ _ _ => none) (fun _ ih => bIe r n ih) m
noncomputable def bSy (r : RT) (n : Nat) : dJ := vM r n n
noncomputable def aUf (r : RT) (n : Nat) (x0 x1 x7 x8 : DV) (h0 : Hp) : aK :=
 bSy r n x0 x1 x7 x8 h0
noncomputable def aWe (r : RT) (n : Nat) (x0 x1 : DV) (h0 : Hp) : aK :=
 bnd (bO x0 h0) fun v1 h1 =>
  aUf r n x0 x1 v1 (aD 0) h1
noncomputable def s238 (r : RT) (n : Nat) (x0 x1 : DV) (h0 : Hp) : aK :=
 aWe r n x0 x1 h0
noncomputable abbrev c238 : Code := cf Tryz.f238
noncomputable abbrev aJt : Code := cR c238
noncomputable abbrev dUo : Code := cR aJt
noncomputable abbrev aBk : Code := cL aJt
noncomputable abbrev bBl : Code := cR aBk
noncomputable abbrev aNw : Code := cL bBl
noncomputable abbrev oW : Code := cL aNw
noncomputable abbrev bYx : Code := cL aBk
noncomputable abbrev cJb : Code := cL c238
noncomputable abbrev r238 : K := aR CF Tryz.f238
noncomputable def D238 (r : RT) (n : Nat) (c : Code) (X : Nat → K) (k : K) : K := aM CF r 19 n c X r238 k
theorem cXn : D238 r n dUo x0 r238 = (K0 (fM r n)) :=
 (by kernel_rfl)
theorem cAu (kk4 : dJ) : D238 r n oW (xs x0 0 (K0 (fM r n))) (K4 kk4 0 1 7 8) = (K4 (bIe r n kk4) 0 1 7 8) :=
 (by kernel_rfl)
theorem bTf (m : Nat) : aL (fun kk => D238 r n oW (xs x0 0 (K0 (fM r n))) kk) m = (K4 (vM r n m) 0 1 7 8) := by
 induction m with
 | zero => exact (by kernel_rfl : aL (fun kk => D238 r n oW (xs x0 0 (K0 (fM r n))) kk) 0 = (K4 (vM r n 0) 0 1 7 8))
 | succ m ih =>
  refine (by kernel_rfl : aL (fun kk => D238 r n oW (xs x0 0 (K0 (fM r n))) kk) (m + 1) = D238 r n oW (xs x0 0 (K0 (fM r n))) (aL (fun kk => D238 r n oW (xs x0 0 (K0 (fM r n))) kk) m)).trans ?_
  rw [ih]
  exact (cAu r n (vM r n m)).trans (by kernel_rfl)
theorem cSf : D238 r n aNw (xs x0 0 (K0 (fM r n))) (K0 (fM r n)) = (K4 (bSy r n) 0 1 7 8) :=
 (by kernel_rfl : D238 r n aNw (xs x0 0 (K0 (fM r n))) (K0 (fM r n)) = aL (fun kk => D238 r n oW (xs x0 0 (K0 (fM r n))) kk) n).trans ((bTf r n n).trans (by kernel_rfl))
theorem cTk : D238 r n bBl x0 (K0 (fM r n)) = (K4 (aUf r n) 0 1 7 8) :=
 (by kernel_rfl : D238 r n bBl x0 (K0 (fM r n)) = D238 r n aNw (xs x0 0 (K0 (fM r n))) (K0 (fM r n))).trans
 ((cSf r n).trans (by kernel_rfl))
theorem cLl : D238 r n aJt x0 r238 = D238 r n aBk x0 (K0 (fM r n)) :=
 congrArg (fun k => D238 r n aBk x0 k) (cXn r n)
theorem cJj : D238 r n aBk x0 (K0 (fM r n)) = D238 r n bYx x0 (K4 (aUf r n) 0 1 7 8) :=
 congrArg (fun k => D238 r n bYx x0 k) (cTk r n)
theorem cSc : D238 r n aJt x0 r238 = (K2 (aWe r n) 0 1) :=
 (cLl r n).trans
 ((cJj r n).trans
 ((by kernel_rfl)))
theorem dLg : D238 r n c238 x0 r238 = D238 r n cJb x0 (K2 (aWe r n) 0 1) :=
 congrArg (fun k => D238 r n cJb x0 k) (cSc r n)
theorem eCh : D238 r n c238 x0 r238 = (K2 (s238 r n) 0 1) :=
 (dLg r n).trans
 ((by kernel_rfl))
theorem dTm : aE CF r n 238 args h = s238 r n (aO args 0) (aO args 1) h :=
 (by kernel_rfl : aE CF r n 238 args h = D238 r n c238 x0 r238 (aI args) h).trans ((congrFun (congrFun (eCh r n) (aI args)) h).trans (by kernel_rfl))
noncomputable def s239 (r : RT) (n : Nat) (x0 x1 : DV) (h0 : Hp) : aK :=
 bnd (bJ x0 h0) fun v1 h1 =>
 bnd (aB 0 v1 h1) fun v2 h2 =>
 bnd (aA v2 h2) fun v3 h3 =>
 bnd (aA x1 h3) fun v4 h4 =>
 bnd (eE .eql v3 v4 h4) fun v5 h5 =>
 some (v5, h5)
noncomputable abbrev c239 : Code := cf Tryz.f239
noncomputable abbrev r239 : K := aR CF Tryz.f239
noncomputable def D239 (r : RT) (n : Nat) (c : Code) (X : Nat → K) (k : K) : K := aM CF r 8 n c X r239 k
theorem eGl : D239 r n c239 x0 r239 = (K2 (s239 r n) 0 1) :=
 (by kernel_rfl)
theorem dUh : aE CF r n 239 args h = s239 r n (aO args 0) (aO args 1) h :=
 (by kernel_rfl : aE CF r n 239 args h = D239 r n c239 x0 r239 (aI args) h).trans ((congrFun (congrFun (eGl r n) (aI args)) h).trans (by kernel_rfl))
noncomputable def s240 (r : RT) (n : Nat) (x0 x1 : DV) (h0 : Hp) : aK :=
 bnd (bJ x0 h0) fun v1 h1 =>
 bnd (aG 4 v1 h1) fun v2 h2 =>
 bnd (aG 4 x1 h2) fun v3 h3 =>
 bnd (r 241 [v2, v3] h3) fun v4 h4 =>
 some (v4, h4)
noncomputable abbrev c240 : Code := cf Tryz.f240
noncomputable abbrev r240 : K := aR CF Tryz.f240
noncomputable def D240 (r : RT) (n : Nat) (c : Code) (X : Nat → K) (k : K) : K := aM CF r 7 n c X r240 k
theorem eDi : D240 r n c240 x0 r240 = (K2 (s240 r n) 0 1) :=
 (by kernel_rfl)
theorem dKm : aE CF r n 240 args h = s240 r n (aO args 0) (aO args 1) h :=
 (by kernel_rfl : aE CF r n 240 args h = D240 r n c240 x0 r240 (aI args) h).trans ((congrFun (congrFun (eDi r n) (aI args)) h).trans (by kernel_rfl))
noncomputable def s241 (r : RT) (n : Nat) (x0 x1 : DV) (h0 : Hp) : aK :=
 bnd (bJ x0 h0) fun v1 h1 =>
 bnd (bJ x1 h1) fun v2 h2 =>
 bnd (aB 0 v1 h2) fun v3 h3 =>
 bnd (aA v3 h3) fun v4 h4 =>
 bnd (aB 0 v2 h4) fun v5 h5 =>
 bnd (aA v5 h5) fun v6 h6 =>
 bnd (aF .eql v4 v6 h6) fun v7 h7 =>
 bnd (gD v7 true (aB 1 v1 h7) h7) fun v8 h8 =>
 bnd (gD v7 true (aA v8 h8) h8) fun v9 h9 =>
 bnd (gD v7 true (aB 1 v2 h9) h9) fun v10 h10 =>
 bnd (gD v7 true (aA v10 h10) h10) fun v11 h11 =>
 bnd (gD v7 true (eE .eql v9 v11 h11) h11) fun v12 h12 =>
 bnd (aP v7 v12 (.b false) h12) fun v13 h13 =>
 bnd (gD v13 true (aB 2 v1 h13) h13) fun v14 h14 =>
 bnd (gD v13 true (aA v14 h14) h14) fun v15 h15 =>
 bnd (gD v13 true (aB 2 v2 h15) h15) fun v16 h16 =>
 bnd (gD v13 true (aA v16 h16) h16) fun v17 h17 =>
 bnd (gD v13 true (aF .eql v15 v17 h17) h17) fun v18 h18 =>
 bnd (aP v13 v18 (.b false) h18) fun v19 h19 =>
 bnd (gD v19 true (aB 3 v1 h19) h19) fun v20 h20 =>
 bnd (gD v19 true (aA v20 h20) h20) fun v21 h21 =>
 bnd (gD v19 true (aB 3 v2 h21) h21) fun v22 h22 =>
 bnd (gD v19 true (aA v22 h22) h22) fun v23 h23 =>
 bnd (gD v19 true (r 259 [v21, v23, (.f 241 [] [])] h23) h23) fun v24 h24 =>
 bnd (aP v19 v24 (.b false) h24) fun v25 h25 =>
 some (v25, h25)
noncomputable abbrev c241 : Code := cf Tryz.f241
noncomputable abbrev r241 : K := aR CF Tryz.f241
noncomputable def D241 (r : RT) (n : Nat) (c : Code) (X : Nat → K) (k : K) : K := aM CF r 31 n c X r241 k
theorem eAo : D241 r n c241 x0 r241 = (K2 (s241 r n) 0 1) :=
 (by kernel_rfl)
theorem dWj : aE CF r n 241 args h = s241 r n (aO args 0) (aO args 1) h :=
 (by kernel_rfl : aE CF r n 241 args h = D241 r n c241 x0 r241 (aI args) h).trans ((congrFun (congrFun (eAo r n) (aI args)) h).trans (by kernel_rfl))
noncomputable def s242 (r : RT) (n : Nat) (x0 : DV) (h0 : Hp) : aK :=
 bnd (eE .neq x0 (.s []) h0) fun v1 h1 =>
 bnd (gD v1 true (some (x0, h1)) h1) fun v2 h2 =>
 bnd (gD v1 true (eT v2 (aD 0) h2) h2) fun v3 h3 =>
 bnd (gD v1 true (aF .geq v3 (.i .u8 (Int.ofNat 65)) h3) h3) fun v4 h4 =>
 bnd (aP v1 v4 (.b false) h4) fun v5 h5 =>
 bnd (gD v5 true (some (x0, h5)) h5) fun v6 h6 =>
 bnd (gD v5 true (eT v6 (aD 0) h6) h6) fun v7 h7 =>
 bnd (gD v5 true (aF .leq v7 (.i .u8 (Int.ofNat 90)) h7) h7) fun v8 h8 =>
 bnd (aP v5 v8 (.b false) h8) fun v9 h9 =>
 some (v9, h9)
noncomputable abbrev c242 : Code := cf Tryz.f242
noncomputable abbrev r242 : K := aR CF Tryz.f242
noncomputable def D242 (r : RT) (n : Nat) (c : Code) (X : Nat → K) (k : K) : K := aM CF r 15 n c X r242 k
theorem eFh : D242 r n c242 x0 r242 = (K1 (s242 r n) 0) :=
 (by kernel_rfl)
theorem dNz : aE CF r n 242 args h = s242 r n (aO args 0) h :=
 (by kernel_rfl : aE CF r n 242 args h = D242 r n c242 x0 r242 (aI args) h).trans ((congrFun (congrFun (eFh r n) (aI args)) h).trans (by kernel_rfl))
noncomputable def s243 (r : RT) (n : Nat) (x0 x1 : DV) (h0 : Hp) : aK :=
 bnd (aS [(aD 0), (.s []), (aD 0), .l0] [(0, 1, (aD 3)), (1, 1, x1)] h0) fun v1 h1 =>
 bnd (lV [x0, v1] h1) fun v2 h2 =>
 some (v2, h2)
noncomputable abbrev c243 : Code := cf Tryz.f243
noncomputable abbrev r243 : K := aR CF Tryz.f243
noncomputable def D243 (r : RT) (n : Nat) (c : Code) (X : Nat → K) (k : K) : K := aM CF r 9 n c X r243 k
theorem eEi : D243 r n c243 x0 r243 = (K2 (s243 r n) 0 1) :=
 (by kernel_rfl)
theorem dSf : aE CF r n 243 args h = s243 r n (aO args 0) (aO args 1) h :=
 (by kernel_rfl : aE CF r n 243 args h = D243 r n c243 x0 r243 (aI args) h).trans ((congrFun (congrFun (eEi r n) (aI args)) h).trans (by kernel_rfl))
noncomputable def nH (r : RT) (n : Nat) (x2 x3 x5 x6 x9 : DV) (h0 : Hp) : aK :=
 bnd (aB 5 x3 h0) fun v1 h1 =>
 bnd (aA v1 h1) fun v2 h2 =>
 bnd (bO v2 h2) fun v3 h3 =>
 bnd (aF .neq v3 x9 h3) fun v4 h4 =>
 bnd (gD v4 false (aB 5 x3 h4) h4) fun v5 h5 =>
 bnd (gD v4 false (aA v5 h5) h5) fun v6 h6 =>
 bnd (gD v4 false (cW 6 v6 (some (aD 1)) none h6) h6) fun v7 h7 =>
 bnd (gD v4 false (r 266 [v7, (.f 267 [] [])] h7) h7) fun v8 h8 =>
 bnd (aP v4 (.b true) v8 h8) fun v9 h9 =>
 aU v9 (
 some ((.b false), h9)) (
 bnd (aA x2 h9) fun v10 h10 =>
 bnd (aB 5 x3 h10) fun v11 h11 =>
 bnd (aA v11 h11) fun v12 h12 =>
 bnd (aJ 6 v12 (aD 0) h12) fun v13 h13 =>
 bnd (aG 6 v13 h13) fun v14 h14 =>
 bnd (r 186 [v10, v14] h14) fun v15 h15 =>
 bnd (aA x2 h15) fun v16 h16 =>
 bnd (r 220 [v16, (aD 17)] h16) fun v17 h17 =>
 bnd (dF CF r x5 [] h17) fun v18 h18 =>
 bnd (aA x2 h18) fun v19 h19 =>
 bnd (r 220 [v19, (aD 16)] h19) fun v20 h20 =>
 bnd (dF CF r v17 [] h20) fun v21 h21 =>
 bnd (dF CF r x6 [] h21) fun v22 h22 =>
 bnd (dF CF r v20 [] h22) fun v23 h23 =>
 some ((.b true), h23))
noncomputable def aWf (r : RT) (n : Nat) (x2 x3 x7 x8 x9 : DV) (h0 : Hp) : aK :=
 bnd (aB 1 x3 h0) fun v1 h1 =>
 bnd (aA v1 h1) fun v2 h2 =>
 bnd (eE .eql v2 (.s [105, 102, 84, 114, 117, 101, 58]) h2) fun v3 h3 =>
 aU v3 (
 bnd (dF CF r x7 [(aD 1)] h3) fun v4 h4 =>
 bnd (dF CF r x8 [(aD 2)] h4) fun v5 h5 =>
  nH r n x2 x3 v4 v5 x9 h5) (
 bnd (eE .eql v2 (.s [105, 102, 70, 97, 108, 115, 101, 58]) h3) fun v6 h6 =>
 aU v6 (
 bnd (dF CF r x8 [(aD 2)] h6) fun v7 h7 =>
 bnd (dF CF r x7 [(aD 1)] h7) fun v8 h8 =>
      nH r n x2 x3 v7 v8 x9 h8) (
 bnd (eE .eql v2 (.s [97, 110, 100, 58]) h6) fun v9 h9 =>
 aU v9 (
 bnd (dF CF r x7 [(aD 1)] h9) fun v10 h10 =>
 bnd (dF CF r x8 [(aD 4)] h10) fun v11 h11 =>
    nH r n x2 x3 v10 v11 x9 h11) (
 bnd (eE .eql v2 (.s [111, 114, 58]) h9) fun v12 h12 =>
 aU v12 (
 bnd (dF CF r x8 [(aD 3)] h12) fun v13 h13 =>
 bnd (dF CF r x7 [(aD 1)] h13) fun v14 h14 =>
     nH r n x2 x3 v13 v14 x9 h14) (
 bnd (eE .eql v2 (.s [105, 102, 84, 114, 117, 101, 58, 105, 102, 70, 97, 108, 115, 101, 58]) h12) fun v15 h15 =>
 aU v15 (
 bnd (dF CF r x7 [(aD 1)] h15) fun v16 h16 =>
 bnd (dF CF r x7 [(aD 2)] h16) fun v17 h17 =>
      nH r n x2 x3 v16 v17 (aD 3) h17) (
 bnd (eE .eql v2 (.s [105, 102, 70, 97, 108, 115, 101, 58, 105, 102, 84, 114, 117, 101, 58]) h15) fun v18 h18 =>
 aU v18 (
 bnd (dF CF r x7 [(aD 2)] h18) fun v19 h19 =>
 bnd (dF CF r x7 [(aD 1)] h19) fun v20 h20 =>
       nH r n x2 x3 v19 v20 (aD 3) h20) (
 some ((.b false), h18)))))))
noncomputable def aUi (r : RT) (n : Nat) (x2 x3 x7 x8 : DV) (h0 : Hp) : aK :=
 aWf r n x2 x3 x7 x8 (aD 2) h0
noncomputable def aUz (r : RT) (n : Nat) (x2 x3 x7 : DV) (h0 : Hp) : aK :=
 aUi r n x2 x3 x7 (.f 264 [] [x2]) h0
noncomputable def aYa (r : RT) (n : Nat) (x2 x3 : DV) (h0 : Hp) : aK :=
 aUz r n x2 x3 (.f 262 [] [x2, x3]) h0
noncomputable def aBx (r : RT) (n : Nat) (x2 x3 : DV) (h0 : Hp) : aK :=
 aYa r n x2 x3 h0
noncomputable def s244 (r : RT) (n : Nat) (x0 x1 : DV) (h0 : Hp) : aK :=
 bnd (bJ x0 h0) fun v1 h1 =>
 bnd (bJ x1 h1) fun v2 h2 =>
  aBx r n v1 v2 h2
noncomputable abbrev c244 : Code := cf Tryz.f244
noncomputable abbrev aNz : Code := cR c244
noncomputable abbrev aPh : Code := cR aNz
noncomputable abbrev aMe : Code := cR aPh
noncomputable abbrev aDn : Code := cR aMe
noncomputable abbrev aDy : Code := cR aDn
noncomputable abbrev dQz : Code := cR aDy
noncomputable abbrev bTd : Code := cL aDy
noncomputable abbrev cEh : Code := cL aDn
noncomputable abbrev cMf : Code := cL aMe
noncomputable abbrev bFa : Code := cL aPh
noncomputable abbrev bBo : Code := cL aNz
noncomputable abbrev aHg : Code := cL c244
noncomputable abbrev r244 : K := aR CF Tryz.f244
noncomputable def D244 (r : RT) (n : Nat) (c : Code) (X : Nat → K) (k : K) : K := aM CF r 81 n c X r244 k
theorem dBs : D244 r n dQz x0 r244 = (K5 (nH r n) 2 3 5 6 9) :=
 (by kernel_rfl)
theorem cAs : D244 r n aDy x0 r244 = D244 r n bTd x0 (K5 (nH r n) 2 3 5 6 9) :=
 congrArg (fun k => D244 r n bTd x0 k) (dBs r n)
theorem dEk : D244 r n aDy x0 r244 = (K5 (aWf r n) 2 3 7 8 9) :=
 (cAs r n).trans
 ((by kernel_rfl))
theorem cKk : D244 r n aDn x0 r244 = D244 r n cEh x0 (K5 (aWf r n) 2 3 7 8 9) :=
 congrArg (fun k => D244 r n cEh x0 k) (dEk r n)
theorem dEh : D244 r n aDn x0 r244 = (K4 (aUi r n) 2 3 7 8) :=
 (cKk r n).trans
 ((by kernel_rfl))
theorem cJu : D244 r n aMe x0 r244 = D244 r n cMf x0 (K4 (aUi r n) 2 3 7 8) :=
 congrArg (fun k => D244 r n cMf x0 k) (dEh r n)
theorem dEm : D244 r n aMe x0 r244 = (K3 (aUz r n) 2 3 7) :=
 (cJu r n).trans
 ((by kernel_rfl))
theorem bQy : D244 r n aPh x0 r244 = D244 r n bFa x0 (K3 (aUz r n) 2 3 7) :=
 congrArg (fun k => D244 r n bFa x0 k) (dEm r n)
theorem cUz : D244 r n aPh x0 r244 = (K2 (aYa r n) 2 3) :=
 (bQy r n).trans
 ((by kernel_rfl))
theorem bSc : D244 r n aNz x0 r244 = D244 r n bBo x0 (K2 (aYa r n) 2 3) :=
 congrArg (fun k => D244 r n bBo x0 k) (cUz r n)
theorem cPa : D244 r n aNz x0 r244 = (K2 (aBx r n) 2 3) :=
 (bSc r n).trans
 ((by kernel_rfl))
theorem dKd : D244 r n c244 x0 r244 = D244 r n aHg x0 (K2 (aBx r n) 2 3) :=
 congrArg (fun k => D244 r n aHg x0 k) (cPa r n)
theorem dUp (q0 : eK) : D244 r n aHg x0 (K2 q0 2 3) = fun (env : bB) (h : Hp) =>
 bnd (bJ (env 0) h) fun v1 h1 =>
 bnd (bJ (env 1) h1) fun v2 h2 =>
  q0 v1 v2 h2 := by kernel_rfl
theorem cUf : (fun (env : bB) (h : Hp) =>
 bnd (bJ (env 0) h) fun v1 h1 =>
 bnd (bJ (env 1) h1) fun v2 h2 =>
  aBx r n v1 v2 h2) = (K2 (s244 r n) 0 1) := by kernel_rfl
theorem dYk : D244 r n c244 x0 r244 = (K2 (s244 r n) 0 1) :=
 (dKd r n).trans
 ((dUp r n (aBx r n)).trans (cUf r n))
theorem dQp : aE CF r n 244 args h = s244 r n (aO args 0) (aO args 1) h :=
 (by kernel_rfl : aE CF r n 244 args h = D244 r n c244 x0 r244 (aI args) h).trans ((congrFun (congrFun (dYk r n) (aI args)) h).trans (by kernel_rfl))
noncomputable def aGv (r : RT) (n : Nat) (x0 x3 x6 x7 : DV) (h0 : Hp) : aK :=
 bnd (aB 5 x3 h0) fun v1 h1 =>
 bnd (aA v1 h1) fun v2 h2 =>
 bnd (aJ 6 v2 (aD 1) h2) fun v3 h3 =>
 bnd (aG 6 v3 h3) fun v4 h4 =>
 bnd (r 221 [x0, v4] h4) fun v5 h5 =>
 bnd (r 187 [x0, (aD 12), (aD 0), (aD 0)] h5) fun v6 h6 =>
 bnd (r 248 [x0] h6) fun v7 h7 =>
 bnd (r 187 [x0, (aD 16), (aD 0), (aD 0)] h7) fun v8 h8 =>
 bnd (r 250 [x0, v7, (aD 16), x6] h8) fun v9 h9 =>
 bnd (dF CF r x7 [] h9) fun v10 h10 =>
 bnd (r 187 [x0, (aD 2), (aD 0), (aD 0)] h10) fun v11 h11 =>
 some ((.b true), h11)
noncomputable def aVi (r : RT) (n : Nat) (x0 x3 x5 x6 x7 : DV) (h0 : Hp) : aK :=
 bnd (fR .not x5 h0) fun v1 h1 =>
 aU v1 (
 bnd (r 220 [x0, (aD 16)] h1) fun v2 h2 =>
 bnd (dF CF r x7 [] h2) fun v3 h3 =>
  aGv r n x0 x3 x6 v2 h3) (
  aGv r n x0 x3 x6 x7 h1)
noncomputable def aTc (r : RT) (n : Nat) (x0 x3 x5 x6 : DV) (h0 : Hp) : aK :=
 bnd (r 220 [x0, (aD 17)] h0) fun v1 h1 =>
  aVi r n x0 x3 x5 x6 v1 h1
noncomputable def aTt (r : RT) (n : Nat) (x0 x3 x5 x6 : DV) (h0 : Hp) : aK :=
 bnd (aB 5 x3 h0) fun v1 h1 =>
 bnd (aA v1 h1) fun v2 h2 =>
 bnd (aJ 6 v2 (aD 0) h2) fun v3 h3 =>
 bnd (aG 6 v3 h3) fun v4 h4 =>
 bnd (r 221 [x0, v4] h4) fun v5 h5 =>
  aTc r n x0 x3 x5 x6 h5
noncomputable def aSz (r : RT) (n : Nat) (x0 x3 x5 : DV) (h0 : Hp) : aK :=
 bnd (r 248 [x0] h0) fun v1 h1 =>
  aTt r n x0 x3 x5 v1 h1
noncomputable def bBg (r : RT) (n : Nat) (x0 x3 x5 : DV) (h0 : Hp) : aK :=
 bnd (fR .not x5 h0) fun v1 h1 =>
 bnd (gD v1 true (aB 1 x3 h1) h1) fun v2 h2 =>
 bnd (gD v1 true (aA v2 h2) h2) fun v3 h3 =>
 bnd (gD v1 true (eE .neq v3 (.s [119, 104, 105, 108, 101, 70, 97, 108, 115, 101, 58]) h3) h3) fun v4 h4 =>
 bnd (aP v1 v4 (.b false) h4) fun v5 h5 =>
 bnd (gD v5 false (aB 5 x3 h5) h5) fun v6 h6 =>
 bnd (gD v5 false (aA v6 h6) h6) fun v7 h7 =>
 bnd (gD v5 false (bO v7 h7) h7) fun v8 h8 =>
 bnd (gD v5 false (aF .neq v8 (aD 2) h8) h8) fun v9 h9 =>
 bnd (aP v5 (.b true) v9 h9) fun v10 h10 =>
 bnd (gD v10 false (aB 5 x3 h10) h10) fun v11 h11 =>
 bnd (gD v10 false (aA v11 h11) h11) fun v12 h12 =>
 bnd (gD v10 false (aJ 6 v12 (aD 0) h12) h12) fun v13 h13 =>
 bnd (gD v10 false (aG 6 v13 h13) h13) fun v14 h14 =>
 bnd (gD v10 false (r 268 [v14] h14) h14) fun v15 h15 =>
 bnd (gD v10 false (fR .not v15 h15) h15) fun v16 h16 =>
 bnd (aP v10 (.b true) v16 h16) fun v17 h17 =>
 bnd (gD v17 false (aB 5 x3 h17) h17) fun v18 h18 =>
 bnd (gD v17 false (aA v18 h18) h18) fun v19 h19 =>
 bnd (gD v17 false (aJ 6 v19 (aD 1) h19) h19) fun v20 h20 =>
 bnd (gD v17 false (aG 6 v20 h20) h20) fun v21 h21 =>
 bnd (gD v17 false (r 268 [v21] h21) h21) fun v22 h22 =>
 bnd (gD v17 false (fR .not v22 h22) h22) fun v23 h23 =>
 bnd (aP v17 (.b true) v23 h23) fun v24 h24 =>
 aU v24 (
 some ((.b false), h24)) (
  aSz r n x0 x3 x5 h24)
noncomputable def aBp (r : RT) (n : Nat) (x0 x3 : DV) (h0 : Hp) : aK :=
 bnd (aB 1 x3 h0) fun v1 h1 =>
 bnd (aA v1 h1) fun v2 h2 =>
 bnd (eE .eql v2 (.s [119, 104, 105, 108, 101, 84, 114, 117, 101, 58]) h2) fun v3 h3 =>
  bBg r n x0 x3 v3 h3
noncomputable def s245 (r : RT) (n : Nat) (x0 x1 : DV) (h0 : Hp) : aK :=
 bnd (bJ x1 h0) fun v1 h1 =>
  aBp r n x0 v1 h1
noncomputable abbrev c245 : Code := cf Tryz.f245
noncomputable abbrev aOr : Code := cR c245
noncomputable abbrev aFn : Code := cR aOr
noncomputable abbrev aFb : Code := cR aFn
noncomputable abbrev aHv : Code := cR aFb
noncomputable abbrev aOh : Code := cR aHv
noncomputable abbrev aFj : Code := cR aOh
noncomputable abbrev dOw : Code := cR aFj
noncomputable abbrev cJn : Code := cL aFj
noncomputable abbrev cFm : Code := cL aOh
noncomputable abbrev bCp : Code := cL aHv
noncomputable abbrev bIv : Code := cL aFb
noncomputable abbrev bKw : Code := cL aFn
noncomputable abbrev bCh : Code := cL aOr
noncomputable abbrev aIg : Code := cL c245
noncomputable abbrev r245 : K := aR CF Tryz.f245
noncomputable def D245 (r : RT) (n : Nat) (c : Code) (X : Nat → K) (k : K) : K := aM CF r 79 n c X r245 k
theorem cRt : D245 r n dOw x0 r245 = (K4 (aGv r n) 0 3 6 7) :=
 (by kernel_rfl)
theorem cJt : D245 r n aFj x0 r245 = D245 r n cJn x0 (K4 (aGv r n) 0 3 6 7) :=
 congrArg (fun k => D245 r n cJn x0 k) (cRt r n)
theorem cZh : D245 r n aFj x0 r245 = (K5 (aVi r n) 0 3 5 6 7) :=
 (cJt r n).trans
 ((by kernel_rfl))
theorem bUu : D245 r n aOh x0 r245 = D245 r n cFm x0 (K5 (aVi r n) 0 3 5 6 7) :=
 congrArg (fun k => D245 r n cFm x0 k) (cZh r n)
theorem dFy : D245 r n aOh x0 r245 = (K4 (aTc r n) 0 3 5 6) :=
 (bUu r n).trans
 ((by kernel_rfl))
theorem cAm : D245 r n aHv x0 r245 = D245 r n bCp x0 (K4 (aTc r n) 0 3 5 6) :=
 congrArg (fun k => D245 r n bCp x0 k) (dFy r n)
theorem dDl : D245 r n aHv x0 r245 = (K4 (aTt r n) 0 3 5 6) :=
 (cAm r n).trans
 ((by kernel_rfl))
theorem cBw : D245 r n aFb x0 r245 = D245 r n bIv x0 (K4 (aTt r n) 0 3 5 6) :=
 congrArg (fun k => D245 r n bIv x0 k) (dDl r n)
theorem dFj : D245 r n aFb x0 r245 = (K3 (aSz r n) 0 3 5) :=
 (cBw r n).trans
 ((by kernel_rfl))
theorem bZw : D245 r n aFn x0 r245 = D245 r n bKw x0 (K3 (aSz r n) 0 3 5) :=
 congrArg (fun k => D245 r n bKw x0 k) (dFj r n)
theorem cTy : D245 r n aFn x0 r245 = (K3 (bBg r n) 0 3 5) :=
 (bZw r n).trans
 ((by kernel_rfl))
theorem cFz : D245 r n aOr x0 r245 = D245 r n bCh x0 (K3 (bBg r n) 0 3 5) :=
 congrArg (fun k => D245 r n bCh x0 k) (cTy r n)
theorem dGz : D245 r n aOr x0 r245 = (K2 (aBp r n) 0 3) :=
 (cFz r n).trans
 ((by kernel_rfl))
theorem dJx : D245 r n c245 x0 r245 = D245 r n aIg x0 (K2 (aBp r n) 0 3) :=
 congrArg (fun k => D245 r n aIg x0 k) (dGz r n)
theorem dRa (q0 : eK) : D245 r n aIg x0 (K2 q0 0 3) = fun (env : bB) (h : Hp) =>
 bnd (bJ (env 1) h) fun v1 h1 =>
  q0 (env 0) v1 h1 := by kernel_rfl
theorem cOq : (fun (env : bB) (h : Hp) =>
 bnd (bJ (env 1) h) fun v1 h1 =>
  aBp r n (env 0) v1 h1) = (K2 (s245 r n) 0 1) := by kernel_rfl
theorem eAg : D245 r n c245 x0 r245 = (K2 (s245 r n) 0 1) :=
 (dJx r n).trans
 ((dRa r n (aBp r n)).trans (cOq r n))
theorem dJy : aE CF r n 245 args h = s245 r n (aO args 0) (aO args 1) h :=
 (by kernel_rfl : aE CF r n 245 args h = D245 r n c245 x0 r245 (aI args) h).trans ((congrFun (congrFun (eAg r n) (aI args)) h).trans (by kernel_rfl))
noncomputable def eM (r : RT) (n : Nat) (x0 x1 x2 x3 : DV) (h0 : Hp) : aK :=
 bnd (r 243 [x0, x2] h0) fun v1 h1 =>
 bnd (bO x3 h1) fun v2 h2 =>
 bnd (r 187 [x0, x1, v1, v2] h2) fun v3 h3 =>
 some (.t [], h3)
noncomputable def aHi (r : RT) (n : Nat) (kk3 : TT7) (x0 x1 x2 x3 x10 x11 x12 : DV) (h0 : Hp) : aK :=
 bnd (aF .lss x12 x11 h0) fun v1 h1 =>
 aU v1 (
 bnd (aJ 6 x10 x12 h1) fun v2 h2 =>
 bnd (aG 6 v2 h2) fun v3 h3 =>
 bnd (aZ cV h3) fun v4 h4 =>
 bnd (aC 6 v4 v3 h4) fun _ h5 =>
 bnd (aG 6 v4 h5) fun v6 h6 =>
 bnd (r 186 [x0, v6] h6) fun v7 h7 =>
 bnd (aF .add x12 (aD 1) h7) fun v8 h8 =>
      kk3 x0 x1 x2 x3 x10 x11 v8 h8) (
      eM r n x0 x1 x2 x3 h1)
noncomputable def vA (r : RT) (n : Nat) (m : Nat) : TT7 :=
 Nat.rec (motive := fun _ => TT7) (fun _ _ _ _ _ _ _ _ => none) (fun _ ih => aHi r n ih) m
noncomputable def bTs (r : RT) (n : Nat) : TT7 := vA r n n
noncomputable def aWz (r : RT) (n : Nat) (x0 x1 x2 x3 x10 x11 x12 : DV) (h0 : Hp) : aK :=
 bTs r n x0 x1 x2 x3 x10 x11 x12 h0
noncomputable def s246 (r : RT) (n : Nat) (x0 x1 x2 x3 : DV) (h0 : Hp) : aK :=
 bnd (bO x3 h0) fun v1 h1 =>
  aWz r n x0 x1 x2 x3 x3 v1 (aD 0) h1
noncomputable abbrev c246 : Code := cf Tryz.f246
noncomputable abbrev dVu : Code := cR c246
noncomputable abbrev yX : Code := cL c246
noncomputable abbrev aVk : Code := cR yX
noncomputable abbrev aLg : Code := cL aVk
noncomputable abbrev nP : Code := cL aLg
noncomputable abbrev cCn : Code := cL yX
noncomputable abbrev r246 : K := aR CF Tryz.f246
noncomputable def D246 (r : RT) (n : Nat) (c : Code) (X : Nat → K) (k : K) : K := aM CF r 28 n c X r246 k
theorem cZi : D246 r n dVu x0 r246 = (K4 (eM r n) 0 1 2 3) :=
 (by kernel_rfl)
theorem cIy (kk3 : TT7) (q0 : dJ) : D246 r n nP (xs x0 0 (K4 q0 0 1 2 3)) (K7 kk3 0 1 2 3 10 11 12) = fun (env : bB) (h : Hp) =>
 bnd (aF .lss (env 12) (env 11) h) fun v1 h1 =>
 aU v1 (
 bnd (aJ 6 (env 10) (env 12) h1) fun v2 h2 =>
 bnd (aG 6 v2 h2) fun v3 h3 =>
 bnd (aZ cV h3) fun v4 h4 =>
 bnd (aC 6 v4 v3 h4) fun _ h5 =>
 bnd (aG 6 v4 h5) fun v6 h6 =>
 bnd (r 186 [(env 0), v6] h6) fun v7 h7 =>
 bnd (aF .add (env 12) (aD 1) h7) fun v8 h8 =>
      kk3 (env 0) (env 1) (env 2) (env 3) (env 10) (env 11) v8 h8) (
      q0 (env 0) (env 1) (env 2) (env 3) h1) := by kernel_rfl
theorem bPu (kk3 : TT7) : (fun (env : bB) (h : Hp) =>
 bnd (aF .lss (env 12) (env 11) h) fun v1 h1 =>
 aU v1 (
 bnd (aJ 6 (env 10) (env 12) h1) fun v2 h2 =>
 bnd (aG 6 v2 h2) fun v3 h3 =>
 bnd (aZ cV h3) fun v4 h4 =>
 bnd (aC 6 v4 v3 h4) fun _ h5 =>
 bnd (aG 6 v4 h5) fun v6 h6 =>
 bnd (r 186 [(env 0), v6] h6) fun v7 h7 =>
 bnd (aF .add (env 12) (aD 1) h7) fun v8 h8 =>
      kk3 (env 0) (env 1) (env 2) (env 3) (env 10) (env 11) v8 h8) (
      eM r n (env 0) (env 1) (env 2) (env 3) h1)) = (K7 (aHi r n kk3) 0 1 2 3 10 11 12) := by kernel_rfl
theorem cIi (kk3 : TT7) : D246 r n nP (xs x0 0 (K4 (eM r n) 0 1 2 3)) (K7 kk3 0 1 2 3 10 11 12) = (K7 (aHi r n kk3) 0 1 2 3 10 11 12) :=
 (cIy r n kk3 (eM r n)).trans (bPu r n kk3)
theorem bRw (m : Nat) : aL (fun kk => D246 r n nP (xs x0 0 (K4 (eM r n) 0 1 2 3)) kk) m = (K7 (vA r n m) 0 1 2 3 10 11 12) := by
 induction m with
 | zero => exact (by kernel_rfl : aL (fun kk => D246 r n nP (xs x0 0 (K4 (eM r n) 0 1 2 3)) kk) 0 = (K7 (vA r n 0) 0 1 2 3 10 11 12))
 | succ m ih =>
  refine (by kernel_rfl : aL (fun kk => D246 r n nP (xs x0 0 (K4 (eM r n) 0 1 2 3)) kk) (m + 1) = D246 r n nP (xs x0 0 (K4 (eM r n) 0 1 2 3)) (aL (fun kk => D246 r n nP (xs x0 0 (K4 (eM r n) 0 1 2 3)) kk) m)).trans ?_
  rw [ih]
  exact (cIi r n (vA r n m)).trans (by kernel_rfl)
theorem cTd : D246 r n aLg (xs x0 0 (K4 (eM r n) 0 1 2 3)) (K4 (eM r n) 0 1 2 3) = (K7 (bTs r n) 0 1 2 3 10 11 12) :=
 (by kernel_rfl : D246 r n aLg (xs x0 0 (K4 (eM r n) 0 1 2 3)) (K4 (eM r n) 0 1 2 3) = aL (fun kk => D246 r n nP (xs x0 0 (K4 (eM r n) 0 1 2 3)) kk) n).trans ((bRw r n n).trans (by kernel_rfl))
theorem dGx : D246 r n aVk x0 (K4 (eM r n) 0 1 2 3) = (K7 (aWz r n) 0 1 2 3 10 11 12) :=
 (by kernel_rfl : D246 r n aVk x0 (K4 (eM r n) 0 1 2 3) = D246 r n aLg (xs x0 0 (K4 (eM r n) 0 1 2 3)) (K4 (eM r n) 0 1 2 3)).trans
 ((cTd r n).trans (by kernel_rfl))
theorem dTz : D246 r n c246 x0 r246 = D246 r n yX x0 (K4 (eM r n) 0 1 2 3) :=
 congrArg (fun k => D246 r n yX x0 k) (cZi r n)
theorem dOr : D246 r n yX x0 (K4 (eM r n) 0 1 2 3) = D246 r n cCn x0 (K7 (aWz r n) 0 1 2 3 10 11 12) :=
 congrArg (fun k => D246 r n cCn x0 k) (dGx r n)
theorem eAf : D246 r n c246 x0 r246 = (K4 (s246 r n) 0 1 2 3) :=
 (dTz r n).trans
 ((dOr r n).trans
 ((by kernel_rfl)))
theorem dVe : aE CF r n 246 args h = s246 r n (aO args 0) (aO args 1) (aO args 2) (aO args 3) h :=
 (by kernel_rfl : aE CF r n 246 args h = D246 r n c246 x0 r246 (aI args) h).trans ((congrFun (congrFun (eAf r n) (aI args)) h).trans (by kernel_rfl))
noncomputable def s247 (r : RT) (n : Nat) (x0 x1 : DV) (h0 : Hp) : aK :=
 bnd (bJ x1 h0) fun v1 h1 =>
 bnd (aG 6 v1 h1) fun v2 h2 =>
 bnd (r 269 [v2] h2) fun v3 h3 =>
 aU v3 (
 bnd (r 187 [x0, (aD 1), (aD 0), (aD 0)] h3) fun v4 h4 =>
 some ((aD 15), h4)) (
 bnd (aG 6 v1 h3) fun v5 h5 =>
 bnd (r 186 [x0, v5] h5) fun v6 h6 =>
 some ((aD 14), h6))
noncomputable abbrev c247 : Code := cf Tryz.f247
noncomputable abbrev r247 : K := aR CF Tryz.f247
noncomputable def D247 (r : RT) (n : Nat) (c : Code) (X : Nat → K) (k : K) : K := aM CF r 12 n c X r247 k
theorem dXk : D247 r n c247 x0 r247 = (K2 (s247 r n) 0 1) :=
 (by kernel_rfl)
theorem dLz : aE CF r n 247 args h = s247 r n (aO args 0) (aO args 1) h :=
 (by kernel_rfl : aE CF r n 247 args h = D247 r n c247 x0 r247 (aI args) h).trans ((congrFun (congrFun (dXk r n) (aI args)) h).trans (by kernel_rfl))
noncomputable def s248 (r : RT) (n : Nat) (x0 : DV) (h0 : Hp) : aK :=
 bnd (aQ x0 h0) fun v1 h1 =>
 bnd (aB 0 v1 h1) fun v2 h2 =>
 bnd (aB 5 v2 h2) fun v3 h3 =>
 bnd (aA v3 h3) fun v4 h4 =>
 bnd (bO v4 h4) fun v5 h5 =>
 some (v5, h5)
noncomputable abbrev c248 : Code := cf Tryz.f248
noncomputable abbrev r248 : K := aR CF Tryz.f248
noncomputable def D248 (r : RT) (n : Nat) (c : Code) (X : Nat → K) (k : K) : K := aM CF r 9 n c X r248 k
theorem eEg : D248 r n c248 x0 r248 = (K1 (s248 r n) 0) :=
 (by kernel_rfl)
theorem dWs : aE CF r n 248 args h = s248 r n (aO args 0) h :=
 (by kernel_rfl : aE CF r n 248 args h = D248 r n c248 x0 r248 (aI args) h).trans ((congrFun (congrFun (eEg r n) (aI args)) h).trans (by kernel_rfl))
noncomputable def s249 (r : RT) (n : Nat) (x0 x1 x2 : DV) (h0 : Hp) : aK :=
 bnd (aA x0 h0) fun v1 h1 =>
 bnd (aA x1 h1) fun v2 h2 =>
 bnd (aA x2 h2) fun v3 h3 =>
 bnd (aA x0 h3) fun v4 h4 =>
 bnd (r 248 [v4] h4) fun v5 h5 =>
 cnd (aX (aA x2 h5) v3 && (aX (aA x1 h5) v2 && (aX (aA x0 h5) v1 && true))) (
 bnd (r 250 [v1, v2, v3, v5] h5) fun v6 h6 =>
 some (.t [], h6))
noncomputable abbrev c249 : Code := cf Tryz.f249
noncomputable abbrev r249 : K := aR CF Tryz.f249
noncomputable def D249 (r : RT) (n : Nat) (c : Code) (X : Nat → K) (k : K) : K := aM CF r 9 n c X r249 k
theorem dZy : D249 r n c249 x0 r249 = (K3 (s249 r n) 0 1 2) :=
 (by kernel_rfl)
theorem dNk : aE CF r n 249 args h = s249 r n (aO args 0) (aO args 1) (aO args 2) h :=
 (by kernel_rfl : aE CF r n 249 args h = D249 r n c249 x0 r249 (aI args) h).trans ((congrFun (congrFun (dZy r n) (aI args)) h).trans (by kernel_rfl))
noncomputable def s250 (r : RT) (n : Nat) (x0 x1 x2 x3 : DV) (h0 : Hp) : aK :=
 bnd (aQ x0 h0) fun v1 h1 =>
 bnd (aB 0 v1 h1) fun v2 h2 =>
 bnd (aB 5 v2 h2) fun v3 h3 =>
 bnd (aA v3 h3) fun v4 h4 =>
 bnd (aF .and x3 (aD 255) h4) fun v5 h5 =>
 bnd (dG .shr x3 (.i .u64 (Int.ofNat 8)) h5) fun v6 h6 =>
 bnd (aS [(aD 0), (aD 0), (aD 0)] [(0, 1, x2), (1, 1, v5), (2, 1, v6)] h6) fun v7 h7 =>
 bnd (aJ 3 v4 x1 h7) fun v8 h8 =>
 bnd (aC 3 v8 v7 h8) fun _ h9 =>
 some (.t [], h9)
noncomputable abbrev c250 : Code := cf Tryz.f250
noncomputable abbrev r250 : K := aR CF Tryz.f250
noncomputable def D250 (r : RT) (n : Nat) (c : Code) (X : Nat → K) (k : K) : K := aM CF r 21 n c X r250 k
theorem eAa : D250 r n c250 x0 r250 = (K4 (s250 r n) 0 1 2 3) :=
 (by kernel_rfl)
theorem dRs : aE CF r n 250 args h = s250 r n (aO args 0) (aO args 1) (aO args 2) (aO args 3) h :=
 (by kernel_rfl : aE CF r n 250 args h = D250 r n c250 x0 r250 (aI args) h).trans ((congrFun (congrFun (eAa r n) (aI args)) h).trans (by kernel_rfl))
noncomputable def s251 (r : RT) (n : Nat) (x0 x1 x2 x3 : DV) (h0 : Hp) : aK :=
 bnd (aJ 1 x0 x2 h0) fun v1 h1 =>
 bnd (aA v1 h1) fun v2 h2 =>
 bnd (aJ 1 x0 x1 h2) fun v3 h3 =>
 bnd (aA v3 h3) fun v4 h4 =>
 bnd (r 195 [v2, v4] h4) fun v5 h5 =>
 aU v5 (
 bnd (aQ x3 h5) fun v6 h6 =>
 bnd (aA v6 h6) fun v7 h7 =>
 bnd (aF .add v7 (aD 1) h7) fun v8 h8 =>
 bnd (aQ x3 h8) fun v9 h9 =>
 bnd (aC 1 v9 v8 h9) fun _ h10 =>
 some (.t [x2, x1], h10)) (
 some (.t [x1, x2], h5))
noncomputable abbrev c251 : Code := cf Tryz.f251
noncomputable abbrev r251 : K := aR CF Tryz.f251
noncomputable def D251 (r : RT) (n : Nat) (c : Code) (X : Nat → K) (k : K) : K := aM CF r 28 n c X r251 k
theorem eBc : D251 r n c251 x0 r251 = (K4 (s251 r n) 0 1 2 3) :=
 (by kernel_rfl)
theorem dMp : aE CF r n 251 args h = s251 r n (aO args 0) (aO args 1) (aO args 2) (aO args 3) h :=
 (by kernel_rfl : aE CF r n 251 args h = D251 r n c251 x0 r251 (aI args) h).trans ((congrFun (congrFun (eBc r n) (aI args)) h).trans (by kernel_rfl))
noncomputable def s252 (r : RT) (n : Nat) (x0 x1 : DV) (h0 : Hp) : aK :=
 bnd (aZ cV h0) fun v1 h1 =>
 bnd (aS cV [(0, 1, (aD 7)), (1, 1, x0), (5, 1, x1)] h1) fun v2 h2 =>
 bnd (aC 6 v1 v2 h2) fun _ h3 =>
 bnd (aG 6 v1 h3) fun v4 _ =>
 some (v4, h3)
noncomputable abbrev c252 : Code := cf Tryz.f252
noncomputable abbrev r252 : K := aR CF Tryz.f252
noncomputable def D252 (r : RT) (n : Nat) (c : Code) (X : Nat → K) (k : K) : K := aM CF r 8 n c X r252 k
theorem eFw : D252 r n c252 x0 r252 = (K2 (s252 r n) 0 1) :=
 (by kernel_rfl)
theorem dUl : aE CF r n 252 args h = s252 r n (aO args 0) (aO args 1) h :=
 (by kernel_rfl : aE CF r n 252 args h = D252 r n c252 x0 r252 (aI args) h).trans ((congrFun (congrFun (eFw r n) (aI args)) h).trans (by kernel_rfl))
noncomputable def mC (r : RT) (n : Nat) (x0 x2 x5 : DV) (h0 : Hp) : aK :=
 bnd (r 180 [x0] h0) fun v1 h1 =>
 bnd (aG 6 x5 h1) fun v2 h2 =>
 bnd (aC 6 x2 v2 h2) fun _ h3 =>
 bnd (aG 6 x2 h3) fun v4 _ =>
 some (.t [v4, (.b true)], h3)
noncomputable def sI (r : RT) (n : Nat) (x0 x2 x4 x5 : DV) (h0 : Hp) : aK :=
 bnd (aQ x0 h0) fun v1 h1 =>
 bnd (aB 3 v1 h1) fun v2 h2 =>
 bnd (aA v2 h2) fun v3 h3 =>
 bnd (aF .neq v3 (aD 0) h3) fun v4 h4 =>
 aU v4 (
 bnd (aG 6 x5 h4) fun v5 h5 =>
 bnd (aC 6 x2 v5 h5) fun _ h6 =>
 bnd (aG 6 x2 h6) fun v7 _ =>
 some (.t [v7, (.b false)], h6)) (
 bnd (r 270 [x0] h4) fun v8 h8 =>
 aU v8 (
 bnd (r 180 [x0] h8) fun v9 h9 =>
 bnd (r 180 [x0] h9) fun v10 h10 =>
 bnd (dO 2 v10 h10) fun v11 h11 =>
 bnd (fR .neg v11 h11) fun v12 h12 =>
 bnd (aS cV [(0, 1, (aD 1)), (2, 1, v12)] h12) fun v13 h13 =>
 bnd (aC 6 x2 v13 h13) fun _ h14 =>
 bnd (aG 6 x2 h14) fun v15 _ =>
 some (.t [v15, (.b true)], h14)) (
 bnd (aB 0 x4 h8) fun v16 h16 =>
 bnd (aA v16 h16) fun v17 h17 =>
 bnd (aF .eql v17 (aD 4) h17) fun v18 h18 =>
 aU v18 (
 bnd (aB 0 x5 h18) fun v19 h19 =>
 bnd (aC 1 v19 (aD 1) h19) fun _ h20 =>
    mC r n x0 x2 x5 h20) (
 bnd (aB 0 x4 h18) fun v21 h21 =>
 bnd (aA v21 h21) fun v22 h22 =>
 bnd (aF .eql v22 (aD 5) h22) fun v23 h23 =>
 aU v23 (
 bnd (aB 0 x5 h23) fun v24 h24 =>
 bnd (aC 1 v24 (aD 2) h24) fun _ h25 =>
     mC r n x0 x2 x5 h25) (
 bnd (aB 0 x4 h23) fun v26 h26 =>
 bnd (aA v26 h26) fun v27 h27 =>
 bnd (aF .eql v27 (aD 6) h27) fun v28 h28 =>
 aU v28 (
 bnd (aB 0 x5 h28) fun v29 h29 =>
 bnd (aC 1 v29 (aD 3) h29) fun _ h30 =>
      mC r n x0 x2 x5 h30) (
 bnd (aG 6 x5 h28) fun v31 h31 =>
 bnd (aC 6 x2 v31 h31) fun _ h32 =>
 bnd (aG 6 x2 h32) fun v33 _ =>
 some (.t [v33, (.b false)], h32))))))
noncomputable def rX (r : RT) (n : Nat) (x0 x2 x4 : DV) (h0 : Hp) : aK :=
 bnd (aB 1 x4 h0) fun v1 h1 =>
 bnd (aA v1 h1) fun v2 h2 =>
 bnd (aB 2 x4 h2) fun v3 h3 =>
 bnd (aA v3 h3) fun v4 h4 =>
 bnd (aS cV [(1, 1, v2), (2, 1, v4)] h4) fun v5 h5 =>
 bnd (aZ cV h5) fun v6 h6 =>
 bnd (aC 6 v6 v5 h6) fun _ h7 =>
  sI r n x0 x2 x4 v6 h7
noncomputable def sN (r : RT) (n : Nat) (x0 x2 : DV) (h0 : Hp) : aK :=
 bnd (r 183 [x0, (aD 0)] h0) fun v1 h1 =>
 bnd (aZ [(aD 0), (.s []), (aD 0), (aD 0)] h1) fun v2 h2 =>
 bnd (aC 4 v2 v1 h2) fun _ h3 =>
  rX r n x0 x2 v2 h3
noncomputable def s253 (r : RT) (n : Nat) (x0 : DV) (h0 : Hp) : aK :=
 bnd (aZ cV h0) fun v1 h1 =>
  sN r n x0 v1 h1
noncomputable abbrev c253 : Code := cf Tryz.f253
noncomputable abbrev aLy : Code := cR c253
noncomputable abbrev aOy : Code := cR aLy
noncomputable abbrev aNa : Code := cR aOy
noncomputable abbrev dRm : Code := cR aNa
noncomputable abbrev aUj : Code := cL aNa
noncomputable abbrev aUq : Code := cL aOy
noncomputable abbrev aWu : Code := cL aLy
noncomputable abbrev aWh : Code := cL c253
noncomputable abbrev r253 : K := aR CF Tryz.f253
noncomputable def D253 (r : RT) (n : Nat) (c : Code) (X : Nat → K) (k : K) : K := aM CF r 49 n c X r253 k
theorem dAm : D253 r n dRm x0 r253 = (K3 (mC r n) 0 2 5) :=
 (by kernel_rfl)
theorem bRj : D253 r n aNa x0 r253 = D253 r n aUj x0 (K3 (mC r n) 0 2 5) :=
 congrArg (fun k => D253 r n aUj x0 k) (dAm r n)
theorem bWe (q0 : dU) : D253 r n aUj x0 (K3 q0 0 2 5) = fun (env : bB) (h : Hp) =>
 bnd (aQ (env 0) h) fun v1 h1 =>
 bnd (aB 3 v1 h1) fun v2 h2 =>
 bnd (aA v2 h2) fun v3 h3 =>
 bnd (aF .neq v3 (aD 0) h3) fun v4 h4 =>
 aU v4 (
 bnd (aG 6 (env 5) h4) fun v5 h5 =>
 bnd (aC 6 (env 2) v5 h5) fun _ h6 =>
 bnd (aG 6 (env 2) h6) fun v7 _ =>
 some (.t [v7, (.b false)], h6)) (
 bnd (r 270 [(env 0)] h4) fun v8 h8 =>
 aU v8 (
 bnd (r 180 [(env 0)] h8) fun v9 h9 =>
 bnd (r 180 [(env 0)] h9) fun v10 h10 =>
 bnd (dO 2 v10 h10) fun v11 h11 =>
 bnd (fR .neg v11 h11) fun v12 h12 =>
 bnd (aS cV [(0, 1, (aD 1)), (2, 1, v12)] h12) fun v13 h13 =>
 bnd (aC 6 (env 2) v13 h13) fun _ h14 =>
 bnd (aG 6 (env 2) h14) fun v15 _ =>
 some (.t [v15, (.b true)], h14)) (
 bnd (aB 0 (env 4) h8) fun v16 h16 =>
 bnd (aA v16 h16) fun v17 h17 =>
 bnd (aF .eql v17 (aD 4) h17) fun v18 h18 =>
 aU v18 (
 bnd (aB 0 (env 5) h18) fun v19 h19 =>
 bnd (aC 1 v19 (aD 1) h19) fun _ h20 =>
     q0 (env 0) (env 2) (env 5) h20) (
 bnd (aB 0 (env 4) h18) fun v21 h21 =>
 bnd (aA v21 h21) fun v22 h22 =>
 bnd (aF .eql v22 (aD 5) h22) fun v23 h23 =>
 aU v23 (
 bnd (aB 0 (env 5) h23) fun v24 h24 =>
 bnd (aC 1 v24 (aD 2) h24) fun _ h25 =>
      q0 (env 0) (env 2) (env 5) h25) (
 bnd (aB 0 (env 4) h23) fun v26 h26 =>
 bnd (aA v26 h26) fun v27 h27 =>
 bnd (aF .eql v27 (aD 6) h27) fun v28 h28 =>
 aU v28 (
 bnd (aB 0 (env 5) h28) fun v29 h29 =>
 bnd (aC 1 v29 (aD 3) h29) fun _ h30 =>
       q0 (env 0) (env 2) (env 5) h30) (
 bnd (aG 6 (env 5) h28) fun v31 h31 =>
 bnd (aC 6 (env 2) v31 h31) fun _ h32 =>
 bnd (aG 6 (env 2) h32) fun v33 _ =>
 some (.t [v33, (.b false)], h32)))))) := by kernel_rfl
theorem bLi : (fun (env : bB) (h : Hp) =>
 bnd (aQ (env 0) h) fun v1 h1 =>
 bnd (aB 3 v1 h1) fun v2 h2 =>
 bnd (aA v2 h2) fun v3 h3 =>
 bnd (aF .neq v3 (aD 0) h3) fun v4 h4 =>
 aU v4 (
 bnd (aG 6 (env 5) h4) fun v5 h5 =>
 bnd (aC 6 (env 2) v5 h5) fun _ h6 =>
 bnd (aG 6 (env 2) h6) fun v7 _ =>
 some (.t [v7, (.b false)], h6)) (
 bnd (r 270 [(env 0)] h4) fun v8 h8 =>
 aU v8 (
 bnd (r 180 [(env 0)] h8) fun v9 h9 =>
 bnd (r 180 [(env 0)] h9) fun v10 h10 =>
 bnd (dO 2 v10 h10) fun v11 h11 =>
 bnd (fR .neg v11 h11) fun v12 h12 =>
 bnd (aS cV [(0, 1, (aD 1)), (2, 1, v12)] h12) fun v13 h13 =>
 bnd (aC 6 (env 2) v13 h13) fun _ h14 =>
 bnd (aG 6 (env 2) h14) fun v15 _ =>
 some (.t [v15, (.b true)], h14)) (
 bnd (aB 0 (env 4) h8) fun v16 h16 =>
 bnd (aA v16 h16) fun v17 h17 =>
 bnd (aF .eql v17 (aD 4) h17) fun v18 h18 =>
 aU v18 (
 bnd (aB 0 (env 5) h18) fun v19 h19 =>
 bnd (aC 1 v19 (aD 1) h19) fun _ h20 =>
     mC r n (env 0) (env 2) (env 5) h20) (
 bnd (aB 0 (env 4) h18) fun v21 h21 =>
 bnd (aA v21 h21) fun v22 h22 =>
 bnd (aF .eql v22 (aD 5) h22) fun v23 h23 =>
 aU v23 (
 bnd (aB 0 (env 5) h23) fun v24 h24 =>
 bnd (aC 1 v24 (aD 2) h24) fun _ h25 =>
      mC r n (env 0) (env 2) (env 5) h25) (
 bnd (aB 0 (env 4) h23) fun v26 h26 =>
 bnd (aA v26 h26) fun v27 h27 =>
 bnd (aF .eql v27 (aD 6) h27) fun v28 h28 =>
 aU v28 (
 bnd (aB 0 (env 5) h28) fun v29 h29 =>
 bnd (aC 1 v29 (aD 3) h29) fun _ h30 =>
       mC r n (env 0) (env 2) (env 5) h30) (
 bnd (aG 6 (env 5) h28) fun v31 h31 =>
 bnd (aC 6 (env 2) v31 h31) fun _ h32 =>
 bnd (aG 6 (env 2) h32) fun v33 _ =>
 some (.t [v33, (.b false)], h32))))))) = (K4 (sI r n) 0 2 4 5) := by kernel_rfl
theorem dGe : D253 r n aNa x0 r253 = (K4 (sI r n) 0 2 4 5) :=
 (bRj r n).trans
 ((bWe r n (mC r n)).trans (bLi r n))
theorem bXu : D253 r n aOy x0 r253 = D253 r n aUq x0 (K4 (sI r n) 0 2 4 5) :=
 congrArg (fun k => D253 r n aUq x0 k) (dGe r n)
theorem bVu (q0 : dJ) : D253 r n aUq x0 (K4 q0 0 2 4 5) = fun (env : bB) (h : Hp) =>
 bnd (aB 1 (env 4) h) fun v1 h1 =>
 bnd (aA v1 h1) fun v2 h2 =>
 bnd (aB 2 (env 4) h2) fun v3 h3 =>
 bnd (aA v3 h3) fun v4 h4 =>
 bnd (aS cV [(1, 1, v2), (2, 1, v4)] h4) fun v5 h5 =>
 bnd (aZ cV h5) fun v6 h6 =>
 bnd (aC 6 v6 v5 h6) fun _ h7 =>
  q0 (env 0) (env 2) (env 4) v6 h7 := by kernel_rfl
theorem bKy : (fun (env : bB) (h : Hp) =>
 bnd (aB 1 (env 4) h) fun v1 h1 =>
 bnd (aA v1 h1) fun v2 h2 =>
 bnd (aB 2 (env 4) h2) fun v3 h3 =>
 bnd (aA v3 h3) fun v4 h4 =>
 bnd (aS cV [(1, 1, v2), (2, 1, v4)] h4) fun v5 h5 =>
 bnd (aZ cV h5) fun v6 h6 =>
 bnd (aC 6 v6 v5 h6) fun _ h7 =>
  sI r n (env 0) (env 2) (env 4) v6 h7) = (K3 (rX r n) 0 2 4) := by kernel_rfl
theorem cWw : D253 r n aOy x0 r253 = (K3 (rX r n) 0 2 4) :=
 (bXu r n).trans
 ((bVu r n (sI r n)).trans (bKy r n))
theorem cKl : D253 r n aLy x0 r253 = D253 r n aWu x0 (K3 (rX r n) 0 2 4) :=
 congrArg (fun k => D253 r n aWu x0 k) (cWw r n)
theorem bYu (q0 : dU) : D253 r n aWu x0 (K3 q0 0 2 4) = fun (env : bB) (h : Hp) =>
 bnd (r 183 [(env 0), (aD 0)] h) fun v1 h1 =>
 bnd (aZ [(aD 0), (.s []), (aD 0), (aD 0)] h1) fun v2 h2 =>
 bnd (aC 4 v2 v1 h2) fun _ h3 =>
  q0 (env 0) (env 2) v2 h3 := by kernel_rfl
theorem bNy : (fun (env : bB) (h : Hp) =>
 bnd (r 183 [(env 0), (aD 0)] h) fun v1 h1 =>
 bnd (aZ [(aD 0), (.s []), (aD 0), (aD 0)] h1) fun v2 h2 =>
 bnd (aC 4 v2 v1 h2) fun _ h3 =>
  rX r n (env 0) (env 2) v2 h3) = (K2 (sN r n) 0 2) := by kernel_rfl
theorem dEu : D253 r n aLy x0 r253 = (K2 (sN r n) 0 2) :=
 (cKl r n).trans
 ((bYu r n (rX r n)).trans (bNy r n))
theorem dNj : D253 r n c253 x0 r253 = D253 r n aWh x0 (K2 (sN r n) 0 2) :=
 congrArg (fun k => D253 r n aWh x0 k) (dEu r n)
theorem dNb (q0 : eK) : D253 r n aWh x0 (K2 q0 0 2) = fun (env : bB) (h : Hp) =>
 bnd (aZ cV h) fun v1 h1 =>
  q0 (env 0) v1 h1 := by kernel_rfl
theorem dBt : (fun (env : bB) (h : Hp) =>
 bnd (aZ cV h) fun v1 h1 =>
  sN r n (env 0) v1 h1) = (K1 (s253 r n) 0) := by kernel_rfl
theorem eDu : D253 r n c253 x0 r253 = (K1 (s253 r n) 0) :=
 (dNj r n).trans
 ((dNb r n (sN r n)).trans (dBt r n))
theorem dRb : aE CF r n 253 args h = s253 r n (aO args 0) h :=
 (by kernel_rfl : aE CF r n 253 args h = D253 r n c253 x0 r253 (aI args) h).trans ((congrFun (congrFun (eDu r n) (aI args)) h).trans (by kernel_rfl))
noncomputable def s254 (r : RT) (n : Nat) (x0 x1 : DV) (h0 : Hp) : aK :=
 bnd (aZ cV h0) fun v1 h1 =>
 bnd (r 180 [x0] h1) fun v2 h2 =>
 bnd (aZ [(aD 0), (.s []), (aD 0), (aD 0)] h2) fun v3 h3 =>
 bnd (aC 4 v3 v2 h3) fun _ h4 =>
 bnd (aQ x0 h4) fun v5 h5 =>
 bnd (aB 1 v5 h5) fun v6 h6 =>
 bnd (aA v6 h6) fun v7 h7 =>
 bnd (aF .eql v7 (aD 20) h7) fun v8 h8 =>
 aU v8 (
 bnd (aG 4 v3 h8) fun v9 h9 =>
 bnd (r 182 [x0, v9, (aD 14)] h9) fun v10 h10 =>
 bnd (aS cV [] h10) fun v11 h11 =>
 bnd (aC 6 v1 v11 h11) fun _ h12 =>
 bnd (aG 6 v1 h12) fun v13 _ =>
 some (v13, h12)) (
 bnd (aQ x0 h8) fun v14 h14 =>
 bnd (aB 1 v14 h14) fun v15 h15 =>
 bnd (aA v15 h15) fun v16 h16 =>
 bnd (aF .add v16 (aD 1) h16) fun v17 h17 =>
 bnd (aQ x0 h17) fun v18 h18 =>
 bnd (aB 1 v18 h18) fun v19 h19 =>
 bnd (aC 1 v19 v17 h19) fun _ h20 =>
 bnd (dF CF r x1 [] h20) fun v21 h21 =>
 bnd (aZ cV h21) fun v22 h22 =>
 bnd (aC 6 v22 v21 h22) fun _ h23 =>
 bnd (aQ x0 h23) fun v24 h24 =>
 bnd (aB 1 v24 h24) fun v25 h25 =>
 bnd (aA v25 h25) fun v26 h26 =>
 bnd (aF .sub v26 (aD 1) h26) fun v27 h27 =>
 bnd (aQ x0 h27) fun v28 h28 =>
 bnd (aB 1 v28 h28) fun v29 h29 =>
 bnd (aC 1 v29 v27 h29) fun _ h30 =>
 bnd (aG 6 v22 h30) fun v31 h31 =>
 bnd (aC 6 v1 v31 h31) fun _ h32 =>
 bnd (aG 6 v1 h32) fun v33 _ =>
 some (v33, h32))
noncomputable abbrev c254 : Code := cf Tryz.f254
noncomputable abbrev r254 : K := aR CF Tryz.f254
noncomputable def D254 (r : RT) (n : Nat) (c : Code) (X : Nat → K) (k : K) : K := aM CF r 35 n c X r254 k
theorem dXr : D254 r n c254 x0 r254 = (K2 (s254 r n) 0 1) :=
 (by kernel_rfl)
theorem dJo : aE CF r n 254 args h = s254 r n (aO args 0) (aO args 1) h :=
 (by kernel_rfl : aE CF r n 254 args h = D254 r n c254 x0 r254 (aI args) h).trans ((congrFun (congrFun (dXr r n) (aI args)) h).trans (by kernel_rfl))
end Go.Dd

namespace Go.Dd
open Go.Proofs
variable (r : RT) (n : Nat) (args : List DV) (h : Hp)
noncomputable def cS (r : RT) (n : Nat) (x0 x2 x3 : DV) (h0 : Hp) : aK :=
 bnd (r 180 [x0] h0) fun v1 h1 =>
 bnd (aG 6 x3 h1) fun v2 h2 =>
 bnd (aC 6 x2 v2 h2) fun _ h3 =>
 bnd (aG 6 x2 h3) fun v4 _ =>
 some (v4, h3)
noncomputable def sM (r : RT) (n : Nat) (kk4 : dU) (x0 x2 x3 x4 : DV) (h0 : Hp) : aK :=
 bnd (aB 5 x3 h0) fun v1 h1 =>
 bnd (aA v1 h1) fun v2 h2 =>
 bnd (aG 6 x4 h2) fun v3 h3 =>
 bnd (aN cV 1 [(0, 6, v3)] h3) fun v4 h4 =>
 bnd (aY 6 104 v2 v4 h4) fun v5 h5 =>
 bnd (aB 5 x3 h5) fun v6 h6 =>
 bnd (aC 1 v6 v5 h6) fun _ h7 =>
  kk4 x0 x2 x3 h7
noncomputable def aAs (r : RT) (n : Nat) (kk4 : dU) (x0 x2 x3 x4 x5 : DV) (h0 : Hp) : aK :=
 aU x5 (
  sM r n kk4 x0 x2 x3 x4 h0) (
 bnd (r 179 [x0, (aD 7), (.s [])] h0) fun v1 h1 =>
 bnd (gD v1 false (some (x0, h1)) h1) fun v2 h2 =>
 bnd (gD v1 false (r 179 [v2, (aD 10), (.s [40])] h2) h2) fun v3 h3 =>
 bnd (aP v1 (.b true) v3 h3) fun v4 h4 =>
 aU v4 (
 bnd (r 254 [x0, (.f 255 [x0] [])] h4) fun v5 h5 =>
 bnd (aC 6 x4 v5 h5) fun _ h6 =>
      sM r n kk4 x0 x2 x3 x4 h6) (
 bnd (r 183 [x0, (aD 0)] h4) fun v7 h7 =>
 bnd (r 182 [x0, v7, (aD 13)] h7) fun v8 h8 =>
      sM r n kk4 x0 x2 x3 x4 h8))
noncomputable def aJa (r : RT) (n : Nat) (kk4 : dU) (x0 x2 x3 : DV) (h0 : Hp) : aK :=
 bnd (r 253 [x0] h0) fun v1 h1 =>
 bnd (aH 0 v1 h1) fun v2 h2 =>
 bnd (aH 1 v1 h2) fun v3 h3 =>
 bnd (aZ cV h3) fun v4 h4 =>
 bnd (aC 6 v4 v2 h4) fun _ h5 =>
  aAs r n kk4 x0 x2 x3 v4 v3 h5
noncomputable def bBp (r : RT) (n : Nat) (kk4 : dU) (x0 x2 x3 : DV) (h0 : Hp) : aK :=
 bnd (aQ x0 h0) fun v1 h1 =>
 bnd (aB 3 v1 h1) fun v2 h2 =>
 bnd (aA v2 h2) fun v3 h3 =>
 bnd (aF .eql v3 (aD 0) h3) fun v4 h4 =>
 bnd (gD v4 true (some (x0, h4)) h4) fun v5 h5 =>
 bnd (gD v4 true (r 179 [v5, (aD 10), (.s [41])] h5) h5) fun v6 h6 =>
 bnd (gD v4 true (fR .not v6 h6) h6) fun v7 h7 =>
 bnd (aP v4 v7 (.b false) h7) fun v8 h8 =>
 aU v8 (
   aJa r n kk4 x0 x2 x3 h8) (
   cS r n x0 x2 x3 h8)
noncomputable def uN (r : RT) (n : Nat) (m : Nat) : dU :=
 Nat.rec (motive := fun _ => dU) (fun _ _ _ _ => none) (fun _ ih => bBp r n ih) m
noncomputable def cCl (r : RT) (n : Nat) : dU := uN r n n
noncomputable def zV (r : RT) (n : Nat) (x0 x2 x3 : DV) (h0 : Hp) : aK :=
 cCl r n x0 x2 x3 h0
noncomputable def tB (r : RT) (n : Nat) (x0 x2 : DV) (h0 : Hp) : aK :=
 bnd (aS cV [(0, 1, (aD 4))] h0) fun v1 h1 =>
 bnd (aZ cV h1) fun v2 h2 =>
 bnd (aC 6 v2 v1 h2) fun _ h3 =>
  zV r n x0 x2 v2 h3
noncomputable def s255 (r : RT) (n : Nat) (x0 : DV) (h0 : Hp) : aK :=
 bnd (aZ cV h0) fun v1 h1 =>
  tB r n x0 v1 h1
noncomputable abbrev c255 : Code := cf Tryz.f255
noncomputable abbrev aJz : Code := cR c255
noncomputable abbrev aMs : Code := cR aJz
noncomputable abbrev dJz : Code := cR aMs
noncomputable abbrev aLd : Code := cL aMs
noncomputable abbrev aEf : Code := cL aLd
noncomputable abbrev kO : Code := cL aEf
noncomputable abbrev aZq : Code := cR kO
noncomputable abbrev aIc : Code := cL aZq
noncomputable abbrev aHa : Code := cR aIc
noncomputable abbrev bCj : Code := cR aHa
noncomputable abbrev bCn : Code := cL aHa
noncomputable abbrev aGk : Code := cL aIc
noncomputable abbrev bKi : Code := cL kO
noncomputable abbrev aMw : Code := cL aJz
noncomputable abbrev aMp : Code := cL c255
noncomputable abbrev r255 : K := aR CF Tryz.f255
noncomputable def D255 (r : RT) (n : Nat) (c : Code) (X : Nat → K) (k : K) : K := aM CF r 48 n c X r255 k
theorem dCl : D255 r n dJz x0 r255 = (K3 (cS r n) 0 2 3) :=
 (by kernel_rfl)
theorem bVo (kk4 : dU) (q0 : dU) : D255 r n bCj (xs (xs x0 0 (K3 q0 0 2 3)) 1 (K3 kk4 0 2 3)) (K3 kk4 0 2 3) = fun (env : bB) (h : Hp) =>
 bnd (aB 5 (env 3) h) fun v1 h1 =>
 bnd (aA v1 h1) fun v2 h2 =>
 bnd (aG 6 (env 4) h2) fun v3 h3 =>
 bnd (aN cV 1 [(0, 6, v3)] h3) fun v4 h4 =>
 bnd (aY 6 104 v2 v4 h4) fun v5 h5 =>
 bnd (aB 5 (env 3) h5) fun v6 h6 =>
 bnd (aC 1 v6 v5 h6) fun _ h7 =>
  kk4 (env 0) (env 2) (env 3) h7 := by kernel_rfl
theorem bNt (kk4 : dU) : (fun (env : bB) (h : Hp) =>
 bnd (aB 5 (env 3) h) fun v1 h1 =>
 bnd (aA v1 h1) fun v2 h2 =>
 bnd (aG 6 (env 4) h2) fun v3 h3 =>
 bnd (aN cV 1 [(0, 6, v3)] h3) fun v4 h4 =>
 bnd (aY 6 104 v2 v4 h4) fun v5 h5 =>
 bnd (aB 5 (env 3) h5) fun v6 h6 =>
 bnd (aC 1 v6 v5 h6) fun _ h7 =>
  kk4 (env 0) (env 2) (env 3) h7) = (K4 (sM r n kk4) 0 2 3 4) := by kernel_rfl
theorem cXe (kk4 : dU) : D255 r n bCj (xs (xs x0 0 (K3 (cS r n) 0 2 3)) 1 (K3 kk4 0 2 3)) (K3 kk4 0 2 3) = (K4 (sM r n kk4) 0 2 3 4) :=
 (bVo r n kk4 (cS r n)).trans (bNt r n kk4)
theorem cBs (kk4 : dU) : D255 r n aHa (xs (xs x0 0 (K3 (cS r n) 0 2 3)) 1 (K3 kk4 0 2 3)) (K3 kk4 0 2 3) = D255 r n bCn (xs (xs x0 0 (K3 (cS r n) 0 2 3)) 1 (K3 kk4 0 2 3)) (K4 (sM r n kk4) 0 2 3 4) :=
 congrArg (fun k => D255 r n bCn (xs (xs x0 0 (K3 (cS r n) 0 2 3)) 1 (K3 kk4 0 2 3)) k) (cXe r n kk4)
theorem cWz (kk4 : dU) : D255 r n aHa (xs (xs x0 0 (K3 (cS r n) 0 2 3)) 1 (K3 kk4 0 2 3)) (K3 kk4 0 2 3) = (K5 (aAs r n kk4) 0 2 3 4 5) :=
 (cBs r n kk4).trans
 ((by kernel_rfl))
theorem cFl (kk4 : dU) : D255 r n aIc (xs (xs x0 0 (K3 (cS r n) 0 2 3)) 1 (K3 kk4 0 2 3)) (K3 kk4 0 2 3) = D255 r n aGk (xs (xs x0 0 (K3 (cS r n) 0 2 3)) 1 (K3 kk4 0 2 3)) (K5 (aAs r n kk4) 0 2 3 4 5) :=
 congrArg (fun k => D255 r n aGk (xs (xs x0 0 (K3 (cS r n) 0 2 3)) 1 (K3 kk4 0 2 3)) k) (cWz r n kk4)
theorem bTr (kk4 : dU) (q0 : bU) (q1 : dU) : D255 r n aGk (xs (xs x0 0 (K3 q1 0 2 3)) 1 (K3 kk4 0 2 3)) (K5 q0 0 2 3 4 5) = fun (env : bB) (h : Hp) =>
 bnd (r 253 [(env 0)] h) fun v1 h1 =>
 bnd (aH 0 v1 h1) fun v2 h2 =>
 bnd (aH 1 v1 h2) fun v3 h3 =>
 bnd (aZ cV h3) fun v4 h4 =>
 bnd (aC 6 v4 v2 h4) fun _ h5 =>
  q0 (env 0) (env 2) (env 3) v4 v3 h5 := by kernel_rfl
theorem bOp (kk4 : dU) : (fun (env : bB) (h : Hp) =>
 bnd (r 253 [(env 0)] h) fun v1 h1 =>
 bnd (aH 0 v1 h1) fun v2 h2 =>
 bnd (aH 1 v1 h2) fun v3 h3 =>
 bnd (aZ cV h3) fun v4 h4 =>
 bnd (aC 6 v4 v2 h4) fun _ h5 =>
  aAs r n kk4 (env 0) (env 2) (env 3) v4 v3 h5) = (K3 (aJa r n kk4) 0 2 3) := by kernel_rfl
theorem dAi (kk4 : dU) : D255 r n aZq (xs x0 0 (K3 (cS r n) 0 2 3)) (K3 kk4 0 2 3) = (K3 (aJa r n kk4) 0 2 3) :=
 (by kernel_rfl : D255 r n aZq (xs x0 0 (K3 (cS r n) 0 2 3)) (K3 kk4 0 2 3) = D255 r n aIc (xs (xs x0 0 (K3 (cS r n) 0 2 3)) 1 (K3 kk4 0 2 3)) (K3 kk4 0 2 3)).trans
 ((cFl r n kk4).trans
 ((bTr r n kk4 (aAs r n kk4) (cS r n)).trans (bOp r n kk4)))
theorem cFt (kk4 : dU) : D255 r n kO (xs x0 0 (K3 (cS r n) 0 2 3)) (K3 kk4 0 2 3) = D255 r n bKi (xs x0 0 (K3 (cS r n) 0 2 3)) (K3 (aJa r n kk4) 0 2 3) :=
 congrArg (fun k => D255 r n bKi (xs x0 0 (K3 (cS r n) 0 2 3)) k) (dAi r n kk4)
theorem bZm (kk4 : dU) : D255 r n kO (xs x0 0 (K3 (cS r n) 0 2 3)) (K3 kk4 0 2 3) = (K3 (bBp r n kk4) 0 2 3) :=
 (cFt r n kk4).trans
 ((by kernel_rfl))
theorem cMs (m : Nat) : aL (fun kk => D255 r n kO (xs x0 0 (K3 (cS r n) 0 2 3)) kk) m = (K3 (uN r n m) 0 2 3) := by
 induction m with
 | zero => exact (by kernel_rfl : aL (fun kk => D255 r n kO (xs x0 0 (K3 (cS r n) 0 2 3)) kk) 0 = (K3 (uN r n 0) 0 2 3))
 | succ m ih =>
  refine (by kernel_rfl : aL (fun kk => D255 r n kO (xs x0 0 (K3 (cS r n) 0 2 3)) kk) (m + 1) = D255 r n kO (xs x0 0 (K3 (cS r n) 0 2 3)) (aL (fun kk => D255 r n kO (xs x0 0 (K3 (cS r n) 0 2 3)) kk) m)).trans ?_
  rw [ih]
  exact (bZm r n (uN r n m)).trans (by kernel_rfl)
theorem cXf : D255 r n aEf (xs x0 0 (K3 (cS r n) 0 2 3)) (K3 (cS r n) 0 2 3) = (K3 (cCl r n) 0 2 3) :=
 (by kernel_rfl : D255 r n aEf (xs x0 0 (K3 (cS r n) 0 2 3)) (K3 (cS r n) 0 2 3) = aL (fun kk => D255 r n kO (xs x0 0 (K3 (cS r n) 0 2 3)) kk) n).trans ((cMs r n n).trans (by kernel_rfl))
theorem cAj : D255 r n aMs x0 r255 = D255 r n aLd x0 (K3 (cS r n) 0 2 3) :=
 congrArg (fun k => D255 r n aLd x0 k) (dCl r n)
theorem dFt : D255 r n aMs x0 r255 = (K3 (zV r n) 0 2 3) :=
 (cAj r n).trans
 ((by kernel_rfl : D255 r n aLd x0 (K3 (cS r n) 0 2 3) = D255 r n aEf (xs x0 0 (K3 (cS r n) 0 2 3)) (K3 (cS r n) 0 2 3)).trans
 ((cXf r n).trans (by kernel_rfl)))
theorem cHx : D255 r n aJz x0 r255 = D255 r n aMw x0 (K3 (zV r n) 0 2 3) :=
 congrArg (fun k => D255 r n aMw x0 k) (dFt r n)
theorem cHr (q0 : dU) : D255 r n aMw x0 (K3 q0 0 2 3) = fun (env : bB) (h : Hp) =>
 bnd (aS cV [(0, 1, (aD 4))] h) fun v1 h1 =>
 bnd (aZ cV h1) fun v2 h2 =>
 bnd (aC 6 v2 v1 h2) fun _ h3 =>
  q0 (env 0) (env 2) v2 h3 := by kernel_rfl
theorem bQa : (fun (env : bB) (h : Hp) =>
 bnd (aS cV [(0, 1, (aD 4))] h) fun v1 h1 =>
 bnd (aZ cV h1) fun v2 h2 =>
 bnd (aC 6 v2 v1 h2) fun _ h3 =>
  zV r n (env 0) (env 2) v2 h3) = (K2 (tB r n) 0 2) := by kernel_rfl
theorem dGt : D255 r n aJz x0 r255 = (K2 (tB r n) 0 2) :=
 (cHx r n).trans
 ((cHr r n (zV r n)).trans (bQa r n))
theorem dRn : D255 r n c255 x0 r255 = D255 r n aMp x0 (K2 (tB r n) 0 2) :=
 congrArg (fun k => D255 r n aMp x0 k) (dGt r n)
theorem cZe (q0 : eK) : D255 r n aMp x0 (K2 q0 0 2) = fun (env : bB) (h : Hp) =>
 bnd (aZ cV h) fun v1 h1 =>
  q0 (env 0) v1 h1 := by kernel_rfl
theorem bUi : (fun (env : bB) (h : Hp) =>
 bnd (aZ cV h) fun v1 h1 =>
  tB r n (env 0) v1 h1) = (K1 (s255 r n) 0) := by kernel_rfl
theorem eCi : D255 r n c255 x0 r255 = (K1 (s255 r n) 0) :=
 (dRn r n).trans
 ((cZe r n (tB r n)).trans (bUi r n))
theorem dPu : aE CF r n 255 args h = s255 r n (aO args 0) h :=
 (by kernel_rfl : aE CF r n 255 args h = D255 r n c255 x0 r255 (aI args) h).trans ((congrFun (congrFun (eCi r n) (aI args)) h).trans (by kernel_rfl))
noncomputable def s256 (r : RT) (n : Nat) (x0 : DV) (h0 : Hp) : aK :=
 bnd (aZ cV h0) fun v1 h1 =>
 bnd (r 181 [x0] h1) fun v2 h2 =>
 bnd (aZ cV h2) fun v3 h3 =>
 bnd (aC 6 v3 v2 h3) fun _ h4 =>
 bnd (r 156 [x0, (aD 10), (.s [41])] h4) fun v5 h5 =>
 bnd (aG 6 v3 h5) fun v6 h6 =>
 bnd (aC 6 v1 v6 h6) fun _ h7 =>
 bnd (aG 6 v1 h7) fun v8 _ =>
 some (v8, h7)
noncomputable abbrev c256 : Code := cf Tryz.f256
noncomputable abbrev r256 : K := aR CF Tryz.f256
noncomputable def D256 (r : RT) (n : Nat) (c : Code) (X : Nat → K) (k : K) : K := aM CF r 9 n c X r256 k
theorem eHg : D256 r n c256 x0 r256 = (K1 (s256 r n) 0) :=
 (by kernel_rfl)
theorem dPn : aE CF r n 256 args h = s256 r n (aO args 0) h :=
 (by kernel_rfl : aE CF r n 256 args h = D256 r n c256 x0 r256 (aI args) h).trans ((congrFun (congrFun (eHg r n) (aI args)) h).trans (by kernel_rfl))
noncomputable def aMh (r : RT) (n : Nat) (x0 x2 x3 : DV) (h0 : Hp) : aK :=
 bnd (r 154 [x0] h0) fun v1 h1 =>
 bnd (aB 4 x3 h1) fun v2 h2 =>
 bnd (aC 1 v2 v1 h2) fun _ h3 =>
 bnd (r 155 [x0] h3) fun v4 h4 =>
 bnd (aB 5 x3 h4) fun v5 h5 =>
 bnd (aC 1 v5 v4 h5) fun _ h6 =>
 bnd (r 156 [x0, (aD 10), (.s [93])] h6) fun v7 h7 =>
 bnd (aG 6 x3 h7) fun v8 h8 =>
 bnd (aC 6 x2 v8 h8) fun _ h9 =>
 bnd (aG 6 x2 h9) fun v10 _ =>
 some (v10, h9)
noncomputable def fD (r : RT) (n : Nat) (x0 x2 x3 : DV) (h0 : Hp) : aK :=
 bnd (aB 3 x3 h0) fun v1 h1 =>
 bnd (aA v1 h1) fun v2 h2 =>
 bnd (bO v2 h2) fun v3 h3 =>
 bnd (aF .gtr v3 (aD 0) h3) fun v4 h4 =>
 bnd (gD v4 true (some (x0, h4)) h4) fun v5 h5 =>
 bnd (gD v4 true (r 179 [v5, (aD 10), (.s [93])] h5) h5) fun v6 h6 =>
 bnd (gD v4 true (fR .not v6 h6) h6) fun v7 h7 =>
 bnd (aP v4 v7 (.b false) h7) fun v8 h8 =>
 aU v8 (
 bnd (r 156 [x0, (aD 10), (.s [124])] h8) fun v9 h9 =>
  aMh r n x0 x2 x3 h9) (
  aMh r n x0 x2 x3 h8)
noncomputable def aGl (r : RT) (n : Nat) (kk5 : dU) (x0 x2 x3 : DV) (h0 : Hp) : aK :=
 bnd (r 179 [x0, (aD 8), (.s [])] h0) fun v1 h1 =>
 aU v1 (
 bnd (aB 3 x3 (resv 1 h1)) fun v2 h2 =>
 bnd (aA v2 h2) fun v3 h3 =>
 bnd (aB 3 x3 h3) fun v4 h4 =>
 bnd (aA v4 h4) fun v5 h5 =>
 bnd (r 184 [x0, (aD 8), v5] h5) fun v6 h6 =>
 cnd (aX (aA v2 h6) v3 && true) (
 bnd (aV (bF 0 h1.next) [(.s [])] 1 [(0, 1, v6)] h6) fun v7 h7 =>
 bnd (aY 1 16 v3 v7 h7) fun v8 h8 =>
 bnd (aB 3 x3 h8) fun v9 h9 =>
 bnd (aC 1 v9 v8 h9) fun v10 h10 =>
      kk5 x0 x2 x3 h10)) (
      fD r n x0 x2 x3 h1)
noncomputable def xQ (r : RT) (n : Nat) (m : Nat) : dU :=
 Nat.rec (motive := fun _ => dU) (fun _ _ _ _ => none) (fun _ ih => aGl r n ih) m
noncomputable def bYc (r : RT) (n : Nat) : dU := xQ r n n
noncomputable def zJ (r : RT) (n : Nat) (x0 x2 x3 : DV) (h0 : Hp) : aK :=
 bYc r n x0 x2 x3 h0
noncomputable def sJ (r : RT) (n : Nat) (x0 x2 : DV) (h0 : Hp) : aK :=
 bnd (aS cV [(0, 1, (aD 9))] h0) fun v1 h1 =>
 bnd (aZ cV h1) fun v2 h2 =>
 bnd (aC 6 v2 v1 h2) fun _ h3 =>
  zJ r n x0 x2 v2 h3
noncomputable def s257 (r : RT) (n : Nat) (x0 : DV) (h0 : Hp) : aK :=
 bnd (aZ cV h0) fun v1 h1 =>
  sJ r n x0 v1 h1
noncomputable abbrev c257 : Code := cf Tryz.f257
noncomputable abbrev aQb : Code := cR c257
noncomputable abbrev aNe : Code := cR aQb
noncomputable abbrev aKv : Code := cR aNe
noncomputable abbrev dSs : Code := cR aKv
noncomputable abbrev cEe : Code := cL aKv
noncomputable abbrev aPk : Code := cL aNe
noncomputable abbrev aJr : Code := cL aPk
noncomputable abbrev nI : Code := cL aJr
noncomputable abbrev aWx : Code := cL aQb
noncomputable abbrev aFx : Code := cL c257
noncomputable abbrev r257 : K := aR CF Tryz.f257
noncomputable def D257 (r : RT) (n : Nat) (c : Code) (X : Nat → K) (k : K) : K := aM CF r 36 n c X r257 k
theorem cPj : D257 r n dSs x0 r257 = (K3 (aMh r n) 0 2 3) :=
 (by kernel_rfl)
theorem cDs : D257 r n aKv x0 r257 = D257 r n cEe x0 (K3 (aMh r n) 0 2 3) :=
 congrArg (fun k => D257 r n cEe x0 k) (cPj r n)
theorem cVs : D257 r n aKv x0 r257 = (K3 (fD r n) 0 2 3) :=
 (cDs r n).trans
 ((by kernel_rfl))
theorem cIt (kk5 : dU) (q0 : dU) : D257 r n nI (xs x0 0 (K3 q0 0 2 3)) (K3 kk5 0 2 3) = fun (env : bB) (h : Hp) =>
 bnd (r 179 [(env 0), (aD 8), (.s [])] h) fun v1 h1 =>
 aU v1 (
 bnd (aB 3 (env 3) (resv 1 h1)) fun v2 h2 =>
 bnd (aA v2 h2) fun v3 h3 =>
 bnd (aB 3 (env 3) h3) fun v4 h4 =>
 bnd (aA v4 h4) fun v5 h5 =>
 bnd (r 184 [(env 0), (aD 8), v5] h5) fun v6 h6 =>
 cnd (aX (aA v2 h6) v3 && true) (
 bnd (aV (bF 0 h1.next) [(.s [])] 1 [(0, 1, v6)] h6) fun v7 h7 =>
 bnd (aY 1 16 v3 v7 h7) fun v8 h8 =>
 bnd (aB 3 (env 3) h8) fun v9 h9 =>
 bnd (aC 1 v9 v8 h9) fun v10 h10 =>
      kk5 (env 0) (env 2) (env 3) h10)) (
      q0 (env 0) (env 2) (env 3) h1) := by kernel_rfl
theorem bPw (kk5 : dU) : (fun (env : bB) (h : Hp) =>
 bnd (r 179 [(env 0), (aD 8), (.s [])] h) fun v1 h1 =>
 aU v1 (
 bnd (aB 3 (env 3) (resv 1 h1)) fun v2 h2 =>
 bnd (aA v2 h2) fun v3 h3 =>
 bnd (aB 3 (env 3) h3) fun v4 h4 =>
 bnd (aA v4 h4) fun v5 h5 =>
 bnd (r 184 [(env 0), (aD 8), v5] h5) fun v6 h6 =>
 cnd (aX (aA v2 h6) v3 && true) (
 bnd (aV (bF 0 h1.next) [(.s [])] 1 [(0, 1, v6)] h6) fun v7 h7 =>
 bnd (aY 1 16 v3 v7 h7) fun v8 h8 =>
 bnd (aB 3 (env 3) h8) fun v9 h9 =>
 bnd (aC 1 v9 v8 h9) fun v10 h10 =>
      kk5 (env 0) (env 2) (env 3) h10)) (
      fD r n (env 0) (env 2) (env 3) h1)) = (K3 (aGl r n kk5) 0 2 3) := by kernel_rfl
theorem bVd (kk5 : dU) : D257 r n nI (xs x0 0 (K3 (fD r n) 0 2 3)) (K3 kk5 0 2 3) = (K3 (aGl r n kk5) 0 2 3) :=
 (cIt r n kk5 (fD r n)).trans (bPw r n kk5)
theorem bSz (m : Nat) : aL (fun kk => D257 r n nI (xs x0 0 (K3 (fD r n) 0 2 3)) kk) m = (K3 (xQ r n m) 0 2 3) := by
 induction m with
 | zero => exact (by kernel_rfl : aL (fun kk => D257 r n nI (xs x0 0 (K3 (fD r n) 0 2 3)) kk) 0 = (K3 (xQ r n 0) 0 2 3))
 | succ m ih =>
  refine (by kernel_rfl : aL (fun kk => D257 r n nI (xs x0 0 (K3 (fD r n) 0 2 3)) kk) (m + 1) = D257 r n nI (xs x0 0 (K3 (fD r n) 0 2 3)) (aL (fun kk => D257 r n nI (xs x0 0 (K3 (fD r n) 0 2 3)) kk) m)).trans ?_
  rw [ih]
  exact (bVd r n (xQ r n m)).trans (by kernel_rfl)
theorem cSv : D257 r n aJr (xs x0 0 (K3 (fD r n) 0 2 3)) (K3 (fD r n) 0 2 3) = (K3 (bYc r n) 0 2 3) :=
 (by kernel_rfl : D257 r n aJr (xs x0 0 (K3 (fD r n) 0 2 3)) (K3 (fD r n) 0 2 3) = aL (fun kk => D257 r n nI (xs x0 0 (K3 (fD r n) 0 2 3)) kk) n).trans ((bSz r n n).trans (by kernel_rfl))
theorem bYj : D257 r n aNe x0 r257 = D257 r n aPk x0 (K3 (fD r n) 0 2 3) :=
 congrArg (fun k => D257 r n aPk x0 k) (cVs r n)
theorem cRl : D257 r n aNe x0 r257 = (K3 (zJ r n) 0 2 3) :=
 (bYj r n).trans
 ((by kernel_rfl : D257 r n aPk x0 (K3 (fD r n) 0 2 3) = D257 r n aJr (xs x0 0 (K3 (fD r n) 0 2 3)) (K3 (fD r n) 0 2 3)).trans
 ((cSv r n).trans (by kernel_rfl)))
theorem cCk : D257 r n aQb x0 r257 = D257 r n aWx x0 (K3 (zJ r n) 0 2 3) :=
 congrArg (fun k => D257 r n aWx x0 k) (cRl r n)
theorem bSq (q0 : dU) : D257 r n aWx x0 (K3 q0 0 2 3) = fun (env : bB) (h : Hp) =>
 bnd (aS cV [(0, 1, (aD 9))] h) fun v1 h1 =>
 bnd (aZ cV h1) fun v2 h2 =>
 bnd (aC 6 v2 v1 h2) fun _ h3 =>
  q0 (env 0) (env 2) v2 h3 := by kernel_rfl
theorem bOd : (fun (env : bB) (h : Hp) =>
 bnd (aS cV [(0, 1, (aD 9))] h) fun v1 h1 =>
 bnd (aZ cV h1) fun v2 h2 =>
 bnd (aC 6 v2 v1 h2) fun _ h3 =>
  zJ r n (env 0) (env 2) v2 h3) = (K2 (sJ r n) 0 2) := by kernel_rfl
theorem cPh : D257 r n aQb x0 r257 = (K2 (sJ r n) 0 2) :=
 (cCk r n).trans
 ((bSq r n (zJ r n)).trans (bOd r n))
theorem dQe : D257 r n c257 x0 r257 = D257 r n aFx x0 (K2 (sJ r n) 0 2) :=
 congrArg (fun k => D257 r n aFx x0 k) (cPh r n)
theorem dMw (q0 : eK) : D257 r n aFx x0 (K2 q0 0 2) = fun (env : bB) (h : Hp) =>
 bnd (aZ cV h) fun v1 h1 =>
  q0 (env 0) v1 h1 := by kernel_rfl
theorem dBi : (fun (env : bB) (h : Hp) =>
 bnd (aZ cV h) fun v1 h1 =>
  sJ r n (env 0) v1 h1) = (K1 (s257 r n) 0) := by kernel_rfl
theorem dXh : D257 r n c257 x0 r257 = (K1 (s257 r n) 0) :=
 (dQe r n).trans
 ((dMw r n (sJ r n)).trans (dBi r n))
theorem dSg : aE CF r n 257 args h = s257 r n (aO args 0) h :=
 (by kernel_rfl : aE CF r n 257 args h = D257 r n c257 x0 r257 (aI args) h).trans ((congrFun (congrFun (dXh r n) (aI args)) h).trans (by kernel_rfl))
noncomputable def s258 (r : RT) (n : Nat) (x0 : DV) (h0 : Hp) : aK :=
 bnd (pEq (.slice 145) true x0 .l0 h0) fun v1 h1 =>
 aU v1 (
 some (.l0, h1)) (
 bnd (aN [] 0 [] h1) fun v2 h2 =>
 bnd (aY 6 104 v2 x0 h2) fun v3 h3 =>
 some (v3, h3))
noncomputable abbrev c258 : Code := cf Tryz.f258
noncomputable abbrev r258 : K := aR CF Tryz.f258
noncomputable def D258 (r : RT) (n : Nat) (c : Code) (X : Nat → K) (k : K) : K := aM CF r 8 n c X r258 k
theorem dZe : D258 r n c258 x0 r258 = (K1 (s258 r n) 0) :=
 (by kernel_rfl)
theorem dTd : aE CF r n 258 args h = s258 r n (aO args 0) h :=
 (by kernel_rfl : aE CF r n 258 args h = D258 r n c258 x0 r258 (aI args) h).trans ((congrFun (congrFun (dZe r n) (aI args)) h).trans (by kernel_rfl))
noncomputable def eR (r : RT) (n : Nat) (h0 : Hp) : aK :=
 some ((.b true), h0)
noncomputable def aHe (r : RT) (n : Nat) (kk5 : bU) (x1 x2 x15 x16 x17 : DV) (h0 : Hp) : aK :=
 bnd (aF .lss x17 x16 h0) fun v1 h1 =>
 aU v1 (
 bnd (aJ 4 x15 x17 h1) fun v2 h2 =>
 bnd (aG 4 v2 h2) fun v3 h3 =>
 bnd (aZ [(aD 0), (.s []), (aD 0), .l0] h3) fun v4 h4 =>
 bnd (aC 4 v4 v3 h4) fun _ h5 =>
 bnd (aJ 4 x1 x17 h5) fun v6 h6 =>
 bnd (aG 4 v6 h6) fun v7 h7 =>
 bnd (aZ [(aD 0), (.s []), (aD 0), .l0] h7) fun v8 h8 =>
 bnd (aC 4 v8 v7 h8) fun _ h9 =>
 bnd (aG 4 v4 h9) fun v10 h10 =>
 bnd (aG 4 v8 h10) fun v11 h11 =>
 bnd (dF CF r x2 [v10, v11] h11) fun v12 h12 =>
 bnd (fR .not v12 h12) fun v13 h13 =>
 aU v13 (
 some ((.b false), h13)) (
 bnd (aF .add x17 (aD 1) h13) fun v14 h14 =>
    kk5 x1 x2 x15 x16 v14 h14)) (
      eR r n h1)
noncomputable def wD (r : RT) (n : Nat) (m : Nat) : bU :=
 Nat.rec (motive := fun _ => bU) (fun _ _ _ _ _ _ => none) (fun _ ih => aHe r n ih) m
noncomputable def bTt (r : RT) (n : Nat) : bU := wD r n n
noncomputable def aUv (r : RT) (n : Nat) (x1 x2 x15 x16 x17 : DV) (h0 : Hp) : aK :=
 bTt r n x1 x2 x15 x16 x17 h0
noncomputable def aWd (r : RT) (n : Nat) (x0 x1 x2 : DV) (h0 : Hp) : aK :=
 bnd (bO x0 h0) fun v1 h1 =>
  aUv r n x1 x2 x0 v1 (aD 0) h1
noncomputable def aXg (r : RT) (n : Nat) (x0 x1 x2 : DV) (h0 : Hp) : aK :=
 bnd (bO x0 h0) fun v1 h1 =>
 bnd (bO x1 h1) fun v2 h2 =>
 bnd (aF .neq v1 v2 h2) fun v3 h3 =>
 aU v3 (
 some ((.b false), h3)) (
  aWd r n x0 x1 x2 h3)
noncomputable def s259 (r : RT) (n : Nat) (x0 x1 x2 : DV) (h0 : Hp) : aK :=
 aXg r n x0 x1 x2 h0
noncomputable abbrev c259 : Code := cf Tryz.f259
noncomputable abbrev aKb : Code := cR c259
noncomputable abbrev aFu : Code := cR aKb
noncomputable abbrev dVy : Code := cR aFu
noncomputable abbrev zK : Code := cL aFu
noncomputable abbrev aYe : Code := cR zK
noncomputable abbrev aEh : Code := cL aYe
noncomputable abbrev nQ : Code := cL aEh
noncomputable abbrev cIc : Code := cL zK
noncomputable abbrev cLs : Code := cL aKb
noncomputable abbrev bCm : Code := cL c259
noncomputable abbrev r259 : K := aR CF Tryz.f259
noncomputable def D259 (r : RT) (n : Nat) (c : Code) (X : Nat → K) (k : K) : K := aM CF r 32 n c X r259 k
theorem dFq : D259 r n dVy x0 r259 = (K0 (eR r n)) :=
 (by kernel_rfl)
theorem bTc (kk5 : bU) (q0 : Hp → aK) : D259 r n nQ (xs x0 0 (K0 q0)) (K5 kk5 1 2 15 16 17) = fun (env : bB) (h : Hp) =>
 bnd (aF .lss (env 17) (env 16) h) fun v1 h1 =>
 aU v1 (
 bnd (aJ 4 (env 15) (env 17) h1) fun v2 h2 =>
 bnd (aG 4 v2 h2) fun v3 h3 =>
 bnd (aZ [(aD 0), (.s []), (aD 0), .l0] h3) fun v4 h4 =>
 bnd (aC 4 v4 v3 h4) fun _ h5 =>
 bnd (aJ 4 (env 1) (env 17) h5) fun v6 h6 =>
 bnd (aG 4 v6 h6) fun v7 h7 =>
 bnd (aZ [(aD 0), (.s []), (aD 0), .l0] h7) fun v8 h8 =>
 bnd (aC 4 v8 v7 h8) fun _ h9 =>
 bnd (aG 4 v4 h9) fun v10 h10 =>
 bnd (aG 4 v8 h10) fun v11 h11 =>
 bnd (dF CF r (env 2) [v10, v11] h11) fun v12 h12 =>
 bnd (fR .not v12 h12) fun v13 h13 =>
 aU v13 (
 some ((.b false), h13)) (
 bnd (aF .add (env 17) (aD 1) h13) fun v14 h14 =>
    kk5 (env 1) (env 2) (env 15) (env 16) v14 h14)) (
      q0 h1) := by kernel_rfl
theorem bPb (kk5 : bU) : (fun (env : bB) (h : Hp) =>
 bnd (aF .lss (env 17) (env 16) h) fun v1 h1 =>
 aU v1 (
 bnd (aJ 4 (env 15) (env 17) h1) fun v2 h2 =>
 bnd (aG 4 v2 h2) fun v3 h3 =>
 bnd (aZ [(aD 0), (.s []), (aD 0), .l0] h3) fun v4 h4 =>
 bnd (aC 4 v4 v3 h4) fun _ h5 =>
 bnd (aJ 4 (env 1) (env 17) h5) fun v6 h6 =>
 bnd (aG 4 v6 h6) fun v7 h7 =>
 bnd (aZ [(aD 0), (.s []), (aD 0), .l0] h7) fun v8 h8 =>
 bnd (aC 4 v8 v7 h8) fun _ h9 =>
 bnd (aG 4 v4 h9) fun v10 h10 =>
 bnd (aG 4 v8 h10) fun v11 h11 =>
 bnd (dF CF r (env 2) [v10, v11] h11) fun v12 h12 =>
 bnd (fR .not v12 h12) fun v13 h13 =>
 aU v13 (
 some ((.b false), h13)) (
 bnd (aF .add (env 17) (aD 1) h13) fun v14 h14 =>
    kk5 (env 1) (env 2) (env 15) (env 16) v14 h14)) (
      eR r n h1)) = (K5 (aHe r n kk5) 1 2 15 16 17) := by kernel_rfl
theorem cCf (kk5 : bU) : D259 r n nQ (xs x0 0 (K0 (eR r n))) (K5 kk5 1 2 15 16 17) = (K5 (aHe r n kk5) 1 2 15 16 17) :=
 (bTc r n kk5 (eR r n)).trans (bPb r n kk5)
theorem cIh (m : Nat) : aL (fun kk => D259 r n nQ (xs x0 0 (K0 (eR r n))) kk) m = (K5 (wD r n m) 1 2 15 16 17) := by
 induction m with
 | zero => exact (by kernel_rfl : aL (fun kk => D259 r n nQ (xs x0 0 (K0 (eR r n))) kk) 0 = (K5 (wD r n 0) 1 2 15 16 17))
 | succ m ih =>
  refine (by kernel_rfl : aL (fun kk => D259 r n nQ (xs x0 0 (K0 (eR r n))) kk) (m + 1) = D259 r n nQ (xs x0 0 (K0 (eR r n))) (aL (fun kk => D259 r n nQ (xs x0 0 (K0 (eR r n))) kk) m)).trans ?_
  rw [ih]
  exact (cCf r n (wD r n m)).trans (by kernel_rfl)
theorem cXt : D259 r n aEh (xs x0 0 (K0 (eR r n))) (K0 (eR r n)) = (K5 (bTt r n) 1 2 15 16 17) :=
 (by kernel_rfl : D259 r n aEh (xs x0 0 (K0 (eR r n))) (K0 (eR r n)) = aL (fun kk => D259 r n nQ (xs x0 0 (K0 (eR r n))) kk) n).trans ((cIh r n n).trans (by kernel_rfl))
theorem dAg : D259 r n aYe x0 (K0 (eR r n)) = (K5 (aUv r n) 1 2 15 16 17) :=
 (by kernel_rfl : D259 r n aYe x0 (K0 (eR r n)) = D259 r n aEh (xs x0 0 (K0 (eR r n))) (K0 (eR r n))).trans
 ((cXt r n).trans (by kernel_rfl))
theorem bUv : D259 r n aFu x0 r259 = D259 r n zK x0 (K0 (eR r n)) :=
 congrArg (fun k => D259 r n zK x0 k) (dFq r n)
theorem cHb : D259 r n zK x0 (K0 (eR r n)) = D259 r n cIc x0 (K5 (aUv r n) 1 2 15 16 17) :=
 congrArg (fun k => D259 r n cIc x0 k) (dAg r n)
theorem dDp : D259 r n aFu x0 r259 = (K3 (aWd r n) 0 1 2) :=
 (bUv r n).trans
 ((cHb r n).trans
 ((by kernel_rfl)))
theorem cEj : D259 r n aKb x0 r259 = D259 r n cLs x0 (K3 (aWd r n) 0 1 2) :=
 congrArg (fun k => D259 r n cLs x0 k) (dDp r n)
theorem dHh : D259 r n aKb x0 r259 = (K3 (aXg r n) 0 1 2) :=
 (cEj r n).trans
 ((by kernel_rfl))
theorem dMy : D259 r n c259 x0 r259 = D259 r n bCm x0 (K3 (aXg r n) 0 1 2) :=
 congrArg (fun k => D259 r n bCm x0 k) (dHh r n)
theorem dYc : D259 r n c259 x0 r259 = (K3 (s259 r n) 0 1 2) :=
 (dMy r n).trans
 ((by kernel_rfl))
theorem dWf : aE CF r n 259 args h = s259 r n (aO args 0) (aO args 1) (aO args 2) h :=
 (by kernel_rfl : aE CF r n 259 args h = D259 r n c259 x0 r259 (aI args) h).trans ((congrFun (congrFun (dYc r n) (aI args)) h).trans (by kernel_rfl))
noncomputable def s260 (r : RT) (n : Nat) (h0 : Hp) : aK :=
 some (.t [], h0)
noncomputable abbrev c260 : Code := cf Tryz.f260
noncomputable abbrev r260 : K := aR CF Tryz.f260
noncomputable def D260 (r : RT) (n : Nat) (c : Code) (X : Nat → K) (k : K) : K := aM CF r 0 n c X r260 k
theorem dYw : D260 r n c260 x0 r260 = (K0 (s260 r n)) :=
 (by kernel_rfl)
theorem dQx : aE CF r n 260 args h = s260 r n h :=
 (by kernel_rfl : aE CF r n 260 args h = D260 r n c260 x0 r260 (aI args) h).trans ((congrFun (congrFun (dYw r n) (aI args)) h).trans (by kernel_rfl))
noncomputable def s261 (r : RT) (n : Nat) (h0 : Hp) : aK :=
 some (.t [], h0)
noncomputable abbrev c261 : Code := cf Tryz.f261
noncomputable abbrev r261 : K := aR CF Tryz.f261
noncomputable def D261 (r : RT) (n : Nat) (c : Code) (X : Nat → K) (k : K) : K := aM CF r 0 n c X r261 k
theorem eDv : D261 r n c261 x0 r261 = (K0 (s261 r n)) :=
 (by kernel_rfl)
theorem dVg : aE CF r n 261 args h = s261 r n h :=
 (by kernel_rfl : aE CF r n 261 args h = D261 r n c261 x0 r261 (aI args) h).trans ((congrFun (congrFun (eDv r n) (aI args)) h).trans (by kernel_rfl))
noncomputable def s262 (r : RT) (n : Nat) (x0 x1 x2 : DV) (h0 : Hp) : aK :=
 bnd (bJ x0 h0) fun v1 h1 =>
 some ((.f 263 [] [x1, x2, v1]), h1)
noncomputable abbrev c262 : Code := cf Tryz.f262
noncomputable abbrev r262 : K := aR CF Tryz.f262
noncomputable def D262 (r : RT) (n : Nat) (c : Code) (X : Nat → K) (k : K) : K := aM CF r 6 n c X r262 k
theorem eDh : D262 r n c262 x0 r262 = (K3 (s262 r n) 0 1 2) :=
 (by kernel_rfl)
theorem dRv : aE CF r n 262 args h = s262 r n (aO args 0) (aO args 1) (aO args 2) h :=
 (by kernel_rfl : aE CF r n 262 args h = D262 r n c262 x0 r262 (aI args) h).trans ((congrFun (congrFun (eDh r n) (aI args)) h).trans (by kernel_rfl))
noncomputable def s263 (r : RT) (n : Nat) (x0 x1 x2 : DV) (h0 : Hp) : aK :=
 bnd (aA x0 h0) fun v1 h1 =>
 bnd (aB 5 x1 h1) fun v2 h2 =>
 bnd (aA v2 h2) fun v3 h3 =>
 bnd (aA x2 h3) fun v4 h4 =>
 bnd (aJ 6 v3 v4 h4) fun v5 h5 =>
 bnd (aG 6 v5 h5) fun v6 h6 =>
 bnd (r 221 [v1, v6] h6) fun v7 h7 =>
 some (.t [], h7)
noncomputable abbrev c263 : Code := cf Tryz.f263
noncomputable abbrev r263 : K := aR CF Tryz.f263
noncomputable def D263 (r : RT) (n : Nat) (c : Code) (X : Nat → K) (k : K) : K := aM CF r 10 n c X r263 k
theorem eBs : D263 r n c263 x0 r263 = (K3 (s263 r n) 0 1 2) :=
 (by kernel_rfl)
theorem dLq : aE CF r n 263 args h = s263 r n (aO args 0) (aO args 1) (aO args 2) h :=
 (by kernel_rfl : aE CF r n 263 args h = D263 r n c263 x0 r263 (aI args) h).trans ((congrFun (congrFun (eBs r n) (aI args)) h).trans (by kernel_rfl))
noncomputable def s264 (r : RT) (n : Nat) (x0 x1 : DV) (h0 : Hp) : aK :=
 bnd (bJ x0 h0) fun v1 h1 =>
 some ((.f 265 [] [x1, v1]), h1)
noncomputable abbrev c264 : Code := cf Tryz.f264
noncomputable abbrev r264 : K := aR CF Tryz.f264
noncomputable def D264 (r : RT) (n : Nat) (c : Code) (X : Nat → K) (k : K) : K := aM CF r 5 n c X r264 k
theorem eFu : D264 r n c264 x0 r264 = (K2 (s264 r n) 0 1) :=
 (by kernel_rfl)
theorem dPo : aE CF r n 264 args h = s264 r n (aO args 0) (aO args 1) h :=
 (by kernel_rfl : aE CF r n 264 args h = D264 r n c264 x0 r264 (aI args) h).trans ((congrFun (congrFun (eFu r n) (aI args)) h).trans (by kernel_rfl))
noncomputable def s265 (r : RT) (n : Nat) (x0 x1 : DV) (h0 : Hp) : aK :=
 bnd (aA x0 h0) fun v1 h1 =>
 bnd (aA x1 h1) fun v2 h2 =>
 bnd (r 187 [v1, v2, (aD 0), (aD 0)] h2) fun v3 h3 =>
 some (.t [], h3)
noncomputable abbrev c265 : Code := cf Tryz.f265
noncomputable abbrev r265 : K := aR CF Tryz.f265
noncomputable def D265 (r : RT) (n : Nat) (c : Code) (X : Nat → K) (k : K) : K := aM CF r 5 n c X r265 k
theorem eEe : D265 r n c265 x0 r265 = (K2 (s265 r n) 0 1) :=
 (by kernel_rfl)
theorem dQk : aE CF r n 265 args h = s265 r n (aO args 0) (aO args 1) h :=
 (by kernel_rfl : aE CF r n 265 args h = D265 r n c265 x0 r265 (aI args) h).trans ((congrFun (congrFun (eEe r n) (aI args)) h).trans (by kernel_rfl))
noncomputable def s266 (r : RT) (n : Nat) (x0 x1 : DV) (h0 : Hp) : aK :=
 bnd (r 271 [x0, x1] h0) fun v1 h1 =>
 bnd (aF .geq v1 (aD 0) h1) fun v2 h2 =>
 some (v2, h2)
noncomputable abbrev c266 : Code := cf Tryz.f266
noncomputable abbrev r266 : K := aR CF Tryz.f266
noncomputable def D266 (r : RT) (n : Nat) (c : Code) (X : Nat → K) (k : K) : K := aM CF r 9 n c X r266 k
theorem eGj : D266 r n c266 x0 r266 = (K2 (s266 r n) 0 1) :=
 (by kernel_rfl)
theorem dQt : aE CF r n 266 args h = s266 r n (aO args 0) (aO args 1) h :=
 (by kernel_rfl : aE CF r n 266 args h = D266 r n c266 x0 r266 (aI args) h).trans ((congrFun (congrFun (eGj r n) (aI args)) h).trans (by kernel_rfl))
noncomputable def s267 (r : RT) (n : Nat) (x0 : DV) (h0 : Hp) : aK :=
 bnd (bJ x0 h0) fun v1 h1 =>
 bnd (aG 6 v1 h1) fun v2 h2 =>
 bnd (r 268 [v2] h2) fun v3 h3 =>
 bnd (fR .not v3 h3) fun v4 h4 =>
 some (v4, h4)
noncomputable abbrev c267 : Code := cf Tryz.f267
noncomputable abbrev r267 : K := aR CF Tryz.f267
noncomputable def D267 (r : RT) (n : Nat) (c : Code) (X : Nat → K) (k : K) : K := aM CF r 6 n c X r267 k
theorem eAu : D267 r n c267 x0 r267 = (K1 (s267 r n) 0) :=
 (by kernel_rfl)
theorem dPr : aE CF r n 267 args h = s267 r n (aO args 0) h :=
 (by kernel_rfl : aE CF r n 267 args h = D267 r n c267 x0 r267 (aI args) h).trans ((congrFun (congrFun (eAu r n) (aI args)) h).trans (by kernel_rfl))
noncomputable def s268 (r : RT) (n : Nat) (x0 : DV) (h0 : Hp) : aK :=
 bnd (bJ x0 h0) fun v1 h1 =>
 bnd (aB 0 v1 h1) fun v2 h2 =>
 bnd (aA v2 h2) fun v3 h3 =>
 bnd (aF .eql v3 (aD 9) h3) fun v4 h4 =>
 bnd (gD v4 true (aB 3 v1 h4) h4) fun v5 h5 =>
 bnd (gD v4 true (aA v5 h5) h5) fun v6 h6 =>
 bnd (gD v4 true (bO v6 h6) h6) fun v7 h7 =>
 bnd (gD v4 true (aF .eql v7 (aD 0) h7) h7) fun v8 h8 =>
 bnd (aP v4 v8 (.b false) h8) fun v9 h9 =>
 some (v9, h9)
noncomputable abbrev c268 : Code := cf Tryz.f268
noncomputable abbrev r268 : K := aR CF Tryz.f268
noncomputable def D268 (r : RT) (n : Nat) (c : Code) (X : Nat → K) (k : K) : K := aM CF r 12 n c X r268 k
theorem eAd : D268 r n c268 x0 r268 = (K1 (s268 r n) 0) :=
 (by kernel_rfl)
theorem dKp : aE CF r n 268 args h = s268 r n (aO args 0) h :=
 (by kernel_rfl : aE CF r n 268 args h = D268 r n c268 x0 r268 (aI args) h).trans ((congrFun (congrFun (eAd r n) (aI args)) h).trans (by kernel_rfl))
noncomputable def s269 (r : RT) (n : Nat) (x0 : DV) (h0 : Hp) : aK :=
 bnd (bJ x0 h0) fun v1 h1 =>
 bnd (aB 0 v1 h1) fun v2 h2 =>
 bnd (aA v2 h2) fun v3 h3 =>
 bnd (aF .eql v3 (aD 5) h3) fun v4 h4 =>
 bnd (gD v4 true (aB 1 v1 h4) h4) fun v5 h5 =>
 bnd (gD v4 true (aA v5 h5) h5) fun v6 h6 =>
 bnd (gD v4 true (eE .eql v6 (.s [115, 117, 112, 101, 114]) h6) h6) fun v7 h7 =>
 bnd (aP v4 v7 (.b false) h7) fun v8 h8 =>
 some (v8, h8)
noncomputable abbrev c269 : Code := cf Tryz.f269
noncomputable abbrev r269 : K := aR CF Tryz.f269
noncomputable def D269 (r : RT) (n : Nat) (c : Code) (X : Nat → K) (k : K) : K := aM CF r 11 n c X r269 k
theorem eAs : D269 r n c269 x0 r269 = (K1 (s269 r n) 0) :=
 (by kernel_rfl)
theorem dJp : aE CF r n 269 args h = s269 r n (aO args 0) h :=
 (by kernel_rfl : aE CF r n 269 args h = D269 r n c269 x0 r269 (aI args) h).trans ((congrFun (congrFun (eAs r n) (aI args)) h).trans (by kernel_rfl))
noncomputable def s270 (r : RT) (n : Nat) (x0 : DV) (h0 : Hp) : aK :=
 bnd (r 183 [x0, (aD 1)] h0) fun v1 h1 =>
 bnd (aZ [(aD 0), (.s []), (aD 0), (aD 0)] h1) fun v2 h2 =>
 bnd (aC 4 v2 v1 h2) fun _ h3 =>
 bnd (r 179 [x0, (aD 3), (.s [45])] h3) fun v4 h4 =>
 bnd (gD v4 true (aB 0 v2 h4) h4) fun v5 h5 =>
 bnd (gD v4 true (aA v5 h5) h5) fun v6 h6 =>
 bnd (gD v4 true (aF .eql v6 (aD 4) h6) h6) fun v7 h7 =>
 bnd (aP v4 v7 (.b false) h7) fun v8 h8 =>
 bnd (gD v8 true (aB 3 v2 h8) h8) fun v9 h9 =>
 bnd (gD v8 true (aA v9 h9) h9) fun v10 h10 =>
 bnd (gD v8 true (some (x0, h10)) h10) fun v11 h11 =>
 bnd (gD v8 true (r 183 [v11, (aD 0)] h11) h11) fun v12 h12 =>
 cnd (aX (gD v8 true (aA v9 h12) h12) v10 && true) (
 bnd (gD v8 true (dO 3 v12 h12) h12) fun v13 h13 =>
 bnd (gD v8 true (aF .add v13 (aD 1) h13) h13) fun v14 h14 =>
 bnd (gD v8 true (aF .eql v10 v14 h14) h14) fun v15 h15 =>
 bnd (aP v8 v15 (.b false) h15) fun v16 h16 =>
 some (v16, h16))
noncomputable abbrev c270 : Code := cf Tryz.f270
noncomputable abbrev r270 : K := aR CF Tryz.f270
noncomputable def D270 (r : RT) (n : Nat) (c : Code) (X : Nat → K) (k : K) : K := aM CF r 22 n c X r270 k
theorem dXq : D270 r n c270 x0 r270 = (K1 (s270 r n) 0) :=
 (by kernel_rfl)
theorem dKw : aE CF r n 270 args h = s270 r n (aO args 0) h :=
 (by kernel_rfl : aE CF r n 270 args h = D270 r n c270 x0 r270 (aI args) h).trans ((congrFun (congrFun (dXq r n) (aI args)) h).trans (by kernel_rfl))
noncomputable def fN (r : RT) (n : Nat) (h0 : Hp) : aK :=
 some ((.i .i64 (Int.negSucc 0)), h0)
noncomputable def bKk (r : RT) (n : Nat) (kk4 : dJ) (x0 x1 x7 x8 : DV) (h0 : Hp) : aK :=
 bnd (aF .lss x8 x7 h0) fun v1 h1 =>
 aU v1 (
 bnd (aJ 6 x0 x8 h1) fun v2 h2 =>
 bnd (aG 6 v2 h2) fun v3 h3 =>
 bnd (dF CF r x1 [v3] h3) fun v4 h4 =>
 aU v4 (
 some (x8, h4)) (
 bnd (aF .add x8 (aD 1) h4) fun v5 h5 =>
    kk4 x0 x1 x7 v5 h5)) (
      fN r n h1)
noncomputable def vB (r : RT) (n : Nat) (m : Nat) : dJ :=
 Nat.rec (motive := fun _ => dJ) (fun _ _ _ _ _ => none) (fun _ ih => bKk r n ih) m
noncomputable def cMy (r : RT) (n : Nat) : dJ := vB r n n
noncomputable def aVd (r : RT) (n : Nat) (x0 x1 x7 x8 : DV) (h0 : Hp) : aK :=
 cMy r n x0 x1 x7 x8 h0
noncomputable def aZn (r : RT) (n : Nat) (x0 x1 : DV) (h0 : Hp) : aK :=
 bnd (bO x0 h0) fun v1 h1 =>
  aVd r n x0 x1 v1 (aD 0) h1
noncomputable def s271 (r : RT) (n : Nat) (x0 x1 : DV) (h0 : Hp) : aK :=
 aZn r n x0 x1 h0
noncomputable abbrev c271 : Code := cf Tryz.f271
noncomputable abbrev aIp : Code := cR c271
noncomputable abbrev dMb : Code := cR aIp
noncomputable abbrev zH : Code := cL aIp
noncomputable abbrev aVz : Code := cR zH
noncomputable abbrev aIm : Code := cL aVz
noncomputable abbrev oS : Code := cL aIm
noncomputable abbrev cCq : Code := cL zH
noncomputable abbrev bRg : Code := cL c271
noncomputable abbrev r271 : K := aR CF Tryz.f271
noncomputable def D271 (r : RT) (n : Nat) (c : Code) (X : Nat → K) (k : K) : K := aM CF r 19 n c X r271 k
theorem cYf : D271 r n dMb x0 r271 = (K0 (fN r n)) :=
 (by kernel_rfl)
theorem cFe (kk4 : dJ) : D271 r n oS (xs x0 0 (K0 (fN r n))) (K4 kk4 0 1 7 8) = (K4 (bKk r n kk4) 0 1 7 8) :=
 (by kernel_rfl)
theorem cFy (m : Nat) : aL (fun kk => D271 r n oS (xs x0 0 (K0 (fN r n))) kk) m = (K4 (vB r n m) 0 1 7 8) := by
 induction m with
 | zero => exact (by kernel_rfl : aL (fun kk => D271 r n oS (xs x0 0 (K0 (fN r n))) kk) 0 = (K4 (vB r n 0) 0 1 7 8))
 | succ m ih =>
  refine (by kernel_rfl : aL (fun kk => D271 r n oS (xs x0 0 (K0 (fN r n))) kk) (m + 1) = D271 r n oS (xs x0 0 (K0 (fN r n))) (aL (fun kk => D271 r n oS (xs x0 0 (K0 (fN r n))) kk) m)).trans ?_
  rw [ih]
  exact (cFe r n (vB r n m)).trans (by kernel_rfl)
theorem cPn : D271 r n aIm (xs x0 0 (K0 (fN r n))) (K0 (fN r n)) = (K4 (cMy r n) 0 1 7 8) :=
 (by kernel_rfl : D271 r n aIm (xs x0 0 (K0 (fN r n))) (K0 (fN r n)) = aL (fun kk => D271 r n oS (xs x0 0 (K0 (fN r n))) kk) n).trans ((cFy r n n).trans (by kernel_rfl))
theorem dGj : D271 r n aVz x0 (K0 (fN r n)) = (K4 (aVd r n) 0 1 7 8) :=
 (by kernel_rfl : D271 r n aVz x0 (K0 (fN r n)) = D271 r n aIm (xs x0 0 (K0 (fN r n))) (K0 (fN r n))).trans
 ((cPn r n).trans (by kernel_rfl))
theorem cJs : D271 r n aIp x0 r271 = D271 r n zH x0 (K0 (fN r n)) :=
 congrArg (fun k => D271 r n zH x0 k) (cYf r n)
theorem bVc : D271 r n zH x0 (K0 (fN r n)) = D271 r n cCq x0 (K4 (aVd r n) 0 1 7 8) :=
 congrArg (fun k => D271 r n cCq x0 k) (dGj r n)
theorem dCz : D271 r n aIp x0 r271 = (K2 (aZn r n) 0 1) :=
 (cJs r n).trans
 ((bVc r n).trans
 ((by kernel_rfl)))
theorem dVj : D271 r n c271 x0 r271 = D271 r n bRg x0 (K2 (aZn r n) 0 1) :=
 congrArg (fun k => D271 r n bRg x0 k) (dCz r n)
theorem eBk : D271 r n c271 x0 r271 = (K2 (s271 r n) 0 1) :=
 (dVj r n).trans
 ((by kernel_rfl))
theorem dQa : aE CF r n 271 args h = s271 r n (aO args 0) (aO args 1) h :=
 (by kernel_rfl : aE CF r n 271 args h = D271 r n c271 x0 r271 (aI args) h).trans ((congrFun (congrFun (eBk r n) (aI args)) h).trans (by kernel_rfl))
end Go.Dd

namespace Go.Dd
open Go.Proofs
section
variable (ih : RT) (m : Nat) (f : FuncId) (args : List DV) (h : Hp)
theorem cH {i : Nat} {s r : aK} (e1 : s = aE CF ih m i args h) (e2 : r = aE CF ih m f args h) : (bif Nat.beq f i then s else r) = aE CF ih m f args h := by
 cases e : Nat.beq f i with
 | false => exact e2
 | true => cases Nat.eq_of_beq_eq_true e; exact e1
theorem ndC {i : Nat} {a b : aK} (e1 : a = aE CF ih m f args h) (e2 : b = aE CF ih m f args h) : (bif Nat.blt f i then a else b) = aE CF ih m f args h := by
 cases Nat.blt f i with
 | false => exact e2
 | true => exact e1
noncomputable def qg0 : aK := bif Nat.beq f 7 then s7 ih m (aO args 0) h else bif Nat.beq f 8 then s8 ih m h else bif Nat.beq f 9 then s9 ih m h else bif Nat.beq f 10 then s10 ih m (aO args 0) (aO args 1) h else bif Nat.beq f 11 then s11 ih m (aO args 0) (aO args 1) h else bif Nat.beq f 12 then s12 ih m (aO args 0) (aO args 1) (aO args 2) (aO args 3) h else bif Nat.beq f 13 then s13 ih m (aO args 0) h else bif Nat.beq f 14 then s14 ih m (aO args 0) h else aE CF ih m f args h
theorem eIx : qg0 ih m f args h = aE CF ih m f args h := cH ih m f args h (eMe ih m args h).symm (cH ih m f args h (eCm ih m args h).symm (cH ih m f args h (eDs ih m args h).symm (cH ih m f args h (dJa ih m args h).symm (cH ih m f args h (dIk ih m args h).symm (cH ih m f args h (dIr ih m args h).symm (cH ih m f args h (dIb ih m args h).symm (cH ih m f args h (dIz ih m args h).symm rfl)))))))
noncomputable def qg1 : aK := bif Nat.beq f 15 then s15 ih m (aO args 0) h else bif Nat.beq f 17 then s17 ih m (aO args 0) h else bif Nat.beq f 33 then s33 ih m h else bif Nat.beq f 34 then s34 ih m (aO args 0) (aO args 1) h else bif Nat.beq f 36 then s36 ih m (aO args 0) (aO args 1) h else bif Nat.beq f 37 then s37 ih m (aO args 0) h else bif Nat.beq f 39 then s39 ih m (aO args 0) (aO args 1) (aO args 2) h else bif Nat.beq f 41 then s41 ih m (aO args 0) (aO args 1) (aO args 2) h else aE CF ih m f args h
theorem eHy : qg1 ih m f args h = aE CF ih m f args h := cH ih m f args h (dIf ih m args h).symm (cH ih m f args h (dIj ih m args h).symm (cH ih m f args h (dZj ih m args h).symm (cH ih m f args h (dHt ih m args h).symm (cH ih m f args h (eFr ih m args h).symm (cH ih m f args h (eCr ih m args h).symm (cH ih m f args h (dHv ih m args h).symm (cH ih m f args h (eBa ih m args h).symm rfl)))))))
noncomputable def qg2 : aK := bif Nat.beq f 42 then s42 ih m (aO args 0) (aO args 1) (aO args 2) h else bif Nat.beq f 43 then s43 ih m (aO args 0) (aO args 1) (aO args 2) h else bif Nat.beq f 56 then s56 ih m (aO args 0) (aO args 1) h else bif Nat.beq f 58 then s58 ih m (aO args 0) (aO args 1) h else bif Nat.beq f 60 then s60 ih m (aO args 0) (aO args 1) h else bif Nat.beq f 61 then s61 ih m (aO args 0) (aO args 1) h else bif Nat.beq f 63 then s63 ih m (aO args 0) (aO args 1) h else bif Nat.beq f 64 then s64 ih m (aO args 0) (aO args 1) h else aE CF ih m f args h
theorem eIv : qg2 ih m f args h = aE CF ih m f args h := cH ih m f args h (dIw ih m args h).symm (cH ih m f args h (dIn ih m args h).symm (cH ih m f args h (eEx ih m args h).symm (cH ih m f args h (eEo ih m args h).symm (cH ih m f args h (dZi ih m args h).symm (cH ih m f args h (eCc ih m args h).symm (cH ih m f args h (eCq ih m args h).symm (cH ih m f args h (eGw ih m args h).symm rfl)))))))
noncomputable def qg3 : aK := bif Nat.beq f 71 then s71 ih m (aO args 0) (aO args 1) h else bif Nat.beq f 72 then s72 ih m (aO args 0) (aO args 1) h else bif Nat.beq f 77 then s77 ih m (aO args 0) (aO args 1) h else bif Nat.beq f 86 then s86 ih m (aO args 0) (aO args 1) h else bif Nat.beq f 87 then s87 ih m (aO args 0) (aO args 1) (aO args 2) (aO args 3) h else bif Nat.beq f 91 then s91 ih m (aO args 0) h else bif Nat.beq f 92 then s92 ih m (aO args 0) (aO args 1) h else bif Nat.beq f 93 then s93 ih m (aO args 0) (aO args 1) (aO args 2) h else aE CF ih m f args h
theorem eLl : qg3 ih m f args h = aE CF ih m f args h := cH ih m f args h (dXn ih m args h).symm (cH ih m f args h (eAv ih m args h).symm (cH ih m f args h (dZz ih m args h).symm (cH ih m f args h (eEl ih m args h).symm (cH ih m f args h (dIy ih m args h).symm (cH ih m f args h (dYb ih m args h).symm (cH ih m f args h (eDa ih m args h).symm (cH ih m f args h (eAb ih m args h).symm rfl)))))))
noncomputable def qg4 : aK := bif Nat.beq f 96 then s96 ih m (aO args 0) (aO args 1) h else bif Nat.beq f 106 then s106 ih m (aO args 0) (aO args 1) h else bif Nat.beq f 110 then s110 ih m (aO args 0) (aO args 1) h else bif Nat.beq f 111 then s111 ih m (aO args 0) (aO args 1) (aO args 2) h else bif Nat.beq f 116 then s116 ih m (aO args 0) (aO args 1) h else bif Nat.beq f 117 then s117 ih m (aO args 0) (aO args 1) h else bif Nat.beq f 123 then s123 ih m (aO args 0) (aO args 1) h else bif Nat.beq f 132 then s132 ih m (aO args 0) (aO args 1) h else aE CF ih m f args h
theorem eKt : qg4 ih m f args h = aE CF ih m f args h := cH ih m f args h (dIa ih m args h).symm (cH ih m f args h (dLj ih m args h).symm (cH ih m f args h (cCz ih m args h).symm (cH ih m f args h (bZi ih m args h).symm (cH ih m f args h (dRx ih m args h).symm (cH ih m f args h (dLh ih m args h).symm (cH ih m f args h (dNf ih m args h).symm (cH ih m f args h (dRf ih m args h).symm rfl)))))))
noncomputable def qg5 : aK := bif Nat.beq f 133 then s133 ih m (aO args 0) (aO args 1) h else bif Nat.beq f 134 then s134 ih m (aO args 0) h else bif Nat.beq f 135 then s135 ih m (aO args 0) (aO args 1) (aO args 2) h else bif Nat.beq f 136 then s136 ih m (aO args 0) (aO args 1) (aO args 2) h else bif Nat.beq f 137 then s137 ih m (aO args 0) (aO args 1) (aO args 2) (aO args 3) h else bif Nat.beq f 138 then s138 ih m (aO args 0) (aO args 1) h else bif Nat.beq f 141 then s141 ih m (aO args 0) (aO args 1) (aO args 2) h else bif Nat.beq f 142 then s142 ih m (aO args 0) (aO args 1) h else aE CF ih m f args h
theorem eJw : qg5 ih m f args h = aE CF ih m f args h := cH ih m f args h (dPk ih m args h).symm (cH ih m f args h (dWt ih m args h).symm (cH ih m f args h (dQf ih m args h).symm (cH ih m f args h (dOg ih m args h).symm (cH ih m f args h (dLf ih m args h).symm (cH ih m f args h (cJi ih m args h).symm (cH ih m f args h (dVo ih m args h).symm (cH ih m f args h (dWn ih m args h).symm rfl)))))))
noncomputable def qg6 : aK := bif Nat.beq f 143 then s143 ih m (aO args 0) h else bif Nat.beq f 144 then s144 ih m (aO args 0) (aO args 1) h else bif Nat.beq f 145 then s145 ih m (aO args 0) h else bif Nat.beq f 146 then s146 ih m (aO args 0) (aO args 1) (aO args 2) h else bif Nat.beq f 147 then s147 ih m (aO args 0) h else bif Nat.beq f 148 then s148 ih m (aO args 0) (aO args 1) h else bif Nat.beq f 149 then s149 ih m (aO args 0) (aO args 1) h else bif Nat.beq f 153 then s153 ih m (aO args 0) h else aE CF ih m f args h
theorem eKw : qg6 ih m f args h = aE CF ih m f args h := cH ih m f args h (dLx ih m args h).symm (cH ih m f args h (dRu ih m args h).symm (cH ih m f args h (dWk ih m args h).symm (cH ih m f args h (dOm ih m args h).symm (cH ih m f args h (dSd ih m args h).symm (cH ih m f args h (dRc ih m args h).symm (cH ih m f args h (dWl ih m args h).symm (cH ih m f args h (dSv ih m args h).symm rfl)))))))
noncomputable def qg7 : aK := bif Nat.beq f 154 then s154 ih m (aO args 0) h else bif Nat.beq f 155 then s155 ih m (aO args 0) h else bif Nat.beq f 156 then s156 ih m (aO args 0) (aO args 1) (aO args 2) h else bif Nat.beq f 157 then s157 ih m (aO args 0) (aO args 1) h else bif Nat.beq f 158 then s158 ih m (aO args 0) h else bif Nat.beq f 159 then s159 ih m (aO args 0) (aO args 1) (aO args 2) h else bif Nat.beq f 160 then s160 ih m (aO args 0) h else bif Nat.beq f 161 then s161 ih m (aO args 0) (aO args 1) h else aE CF ih m f args h
theorem eIp : qg7 ih m f args h = aE CF ih m f args h := cH ih m f args h (dVn ih m args h).symm (cH ih m f args h (dMl ih m args h).symm (cH ih m f args h (dLe ih m args h).symm (cH ih m f args h (dJm ih m args h).symm (cH ih m f args h (dMt ih m args h).symm (cH ih m f args h (dTy ih m args h).symm (cH ih m f args h (dSb ih m args h).symm (cH ih m f args h (dWq ih m args h).symm rfl)))))))
noncomputable def qg8 : aK := bif Nat.beq f 162 then s162 ih m (aO args 0) (aO args 1) (aO args 2) h else bif Nat.beq f 163 then s163 ih m (aO args 0) (aO args 1) h else bif Nat.beq f 165 then s165 ih m (aO args 0) h else bif Nat.beq f 166 then s166 ih m (aO args 0) (aO args 1) h else bif Nat.beq f 167 then s167 ih m (aO args 0) (aO args 1) h else bif Nat.beq f 168 then s168 ih m (aO args 0) (aO args 1) h else bif Nat.beq f 169 then s169 ih m (aO args 0) h else bif Nat.beq f 170 then s170 ih m (aO args 0) (aO args 1) (aO args 2) (aO args 3) (aO args 4) (aO args 5) (aO args 6) (aO args 7) h else aE CF ih m f args h
theorem eId : qg8 ih m f args h = aE CF ih m f args h := cH ih m f args h (dSo ih m args h).symm (cH ih m f args h (dRk ih m args h).symm (cH ih m f args h (dJt ih m args h).symm (cH ih m f args h (dVm ih m args h).symm (cH ih m f args h (dWv ih m args h).symm (cH ih m f args h (dMm ih m args h).symm (cH ih m f args h (dKk ih m args h).symm (cH ih m f args h (dQy ih m args h).symm rfl)))))))
noncomputable def qg9 : aK := bif Nat.beq f 171 then s171 ih m (aO args 0) h else bif Nat.beq f 172 then s172 ih m (aO args 0) h else bif Nat.beq f 175 then s175 ih m (aO args 0) (aO args 1) (aO args 2) h else bif Nat.beq f 176 then s176 ih m (aO args 0) h else bif Nat.beq f 177 then s177 ih m (aO args 0) (aO args 1) h else bif Nat.beq f 178 then s178 ih m (aO args 0) h else bif Nat.beq f 179 then s179 ih m (aO args 0) (aO args 1) (aO args 2) h else bif Nat.beq f 180 then s180 ih m (aO args 0) h else aE CF ih m f args h
theorem eLr : qg9 ih m f args h = aE CF ih m f args h := cH ih m f args h (dLa ih m args h).symm (cH ih m f args h (dLp ih m args h).symm (cH ih m f args h (dSr ih m args h).symm (cH ih m f args h (dSi ih m args h).symm (cH ih m f args h (dRr ih m args h).symm (cH ih m f args h (dWm ih m args h).symm (cH ih m f args h (dSq ih m args h).symm (cH ih m f args h (dOt ih m args h).symm rfl)))))))
noncomputable def eAt : aK := bif Nat.beq f 181 then s181 ih m (aO args 0) h else bif Nat.beq f 183 then s183 ih m (aO args 0) (aO args 1) h else bif Nat.beq f 184 then s184 ih m (aO args 0) (aO args 1) (aO args 2) h else bif Nat.beq f 185 then s185 ih m (aO args 0) (aO args 1) (aO args 2) h else bif Nat.beq f 186 then s186 ih m (aO args 0) (aO args 1) h else bif Nat.beq f 187 then s187 ih m (aO args 0) (aO args 1) (aO args 2) (aO args 3) h else bif Nat.beq f 188 then s188 ih m (aO args 0) h else bif Nat.beq f 200 then s200 ih m (aO args 0) (aO args 1) h else aE CF ih m f args h
theorem dZr : eAt ih m f args h = aE CF ih m f args h := cH ih m f args h (dSm ih m args h).symm (cH ih m f args h (dKc ih m args h).symm (cH ih m f args h (dUv ih m args h).symm (cH ih m f args h (dNg ih m args h).symm (cH ih m f args h (dSy ih m args h).symm (cH ih m f args h (dKu ih m args h).symm (cH ih m f args h (dTl ih m args h).symm (cH ih m f args h (dLd ih m args h).symm rfl)))))))
noncomputable def dYl : aK := bif Nat.beq f 201 then s201 ih m (aO args 0) (aO args 1) h else bif Nat.beq f 202 then s202 ih m (aO args 0) (aO args 1) h else bif Nat.beq f 203 then s203 ih m (aO args 0) h else bif Nat.beq f 204 then s204 ih m (aO args 0) h else bif Nat.beq f 205 then s205 ih m (aO args 0) h else bif Nat.beq f 206 then s206 ih m (aO args 0) h else bif Nat.beq f 207 then s207 ih m (aO args 0) h else bif Nat.beq f 208 then s208 ih m (aO args 0) h else aE CF ih m f args h
theorem eBx : dYl ih m f args h = aE CF ih m f args h := cH ih m f args h (dQg ih m args h).symm (cH ih m f args h (dTk ih m args h).symm (cH ih m f args h (dQr ih m args h).symm (cH ih m f args h (dVl ih m args h).symm (cH ih m f args h (dNo ih m args h).symm (cH ih m f args h (dVx ih m args h).symm (cH ih m f args h (dVt ih m args h).symm (cH ih m f args h (dUb ih m args h).symm rfl)))))))
noncomputable def eBd : aK := bif Nat.beq f 209 then s209 ih m (aO args 0) h else bif Nat.beq f 210 then s210 ih m (aO args 0) h else bif Nat.beq f 211 then s211 ih m (aO args 0) (aO args 1) h else bif Nat.beq f 212 then s212 ih m (aO args 0) h else bif Nat.beq f 213 then s213 ih m (aO args 0) (aO args 1) (aO args 2) h else bif Nat.beq f 215 then s215 ih m (aO args 0) (aO args 1) h else bif Nat.beq f 216 then s216 ih m (aO args 0) (aO args 1) h else bif Nat.beq f 217 then s217 ih m (aO args 0) (aO args 1) h else aE CF ih m f args h
theorem eEc : eBd ih m f args h = aE CF ih m f args h := cH ih m f args h (dTg ih m args h).symm (cH ih m f args h (dUu ih m args h).symm (cH ih m f args h (dRi ih m args h).symm (cH ih m f args h (dSh ih m args h).symm (cH ih m f args h (dUk ih m args h).symm (cH ih m f args h (dJu ih m args h).symm (cH ih m f args h (dVz ih m args h).symm (cH ih m f args h (dQb ih m args h).symm rfl)))))))
noncomputable def dXy : aK := bif Nat.beq f 218 then s218 ih m (aO args 0) (aO args 1) h else bif Nat.beq f 219 then s219 ih m (aO args 0) (aO args 1) h else bif Nat.beq f 220 then s220 ih m (aO args 0) (aO args 1) h else bif Nat.beq f 221 then s221 ih m (aO args 0) (aO args 1) h else bif Nat.beq f 222 then s222 ih m (aO args 0) (aO args 1) h else bif Nat.beq f 223 then s223 ih m (aO args 0) (aO args 1) (aO args 2) (aO args 3) h else bif Nat.beq f 224 then s224 ih m (aO args 0) h else bif Nat.beq f 225 then s225 ih m (aO args 0) h else aE CF ih m f args h
theorem eGb : dXy ih m f args h = aE CF ih m f args h := cH ih m f args h (dPw ih m args h).symm (cH ih m f args h (dUe ih m args h).symm (cH ih m f args h (dOo ih m args h).symm (cH ih m f args h (dTr ih m args h).symm (cH ih m f args h (dTx ih m args h).symm (cH ih m f args h (dSt ih m args h).symm (cH ih m f args h (dOl ih m args h).symm (cH ih m f args h (dQo ih m args h).symm rfl)))))))
noncomputable def eDf : aK := bif Nat.beq f 226 then s226 ih m (aO args 0) (aO args 1) (aO args 2) h else bif Nat.beq f 227 then s227 ih m (aO args 0) (aO args 1) (aO args 2) (aO args 3) (aO args 4) h else bif Nat.beq f 228 then s228 ih m (aO args 0) h else bif Nat.beq f 230 then s230 ih m (aO args 0) h else bif Nat.beq f 231 then s231 ih m (aO args 0) h else bif Nat.beq f 232 then s232 ih m (aO args 0) (aO args 1) h else bif Nat.beq f 233 then s233 ih m (aO args 0) (aO args 1) h else bif Nat.beq f 234 then s234 ih m (aO args 0) (aO args 1) h else aE CF ih m f args h
theorem eCf : eDf ih m f args h = aE CF ih m f args h := cH ih m f args h (dLm ih m args h).symm (cH ih m f args h (dUf ih m args h).symm (cH ih m f args h (dMo ih m args h).symm (cH ih m f args h (dOu ih m args h).symm (cH ih m f args h (dPv ih m args h).symm (cH ih m f args h (dNt ih m args h).symm (cH ih m f args h (dWz ih m args h).symm (cH ih m f args h (dLo ih m args h).symm rfl)))))))
noncomputable def eEr : aK := bif Nat.beq f 235 then s235 ih m (aO args 0) h else bif Nat.beq f 236 then s236 ih m (aO args 0) h else bif Nat.beq f 237 then s237 ih m (aO args 0) h else bif Nat.beq f 238 then s238 ih m (aO args 0) (aO args 1) h else bif Nat.beq f 239 then s239 ih m (aO args 0) (aO args 1) h else bif Nat.beq f 240 then s240 ih m (aO args 0) (aO args 1) h else bif Nat.beq f 241 then s241 ih m (aO args 0) (aO args 1) h else bif Nat.beq f 242 then s242 ih m (aO args 0) h else aE CF ih m f args h
theorem eDk : eEr ih m f args h = aE CF ih m f args h := cH ih m f args h (dWu ih m args h).symm (cH ih m f args h (dNh ih m args h).symm (cH ih m f args h (dLr ih m args h).symm (cH ih m f args h (dTm ih m args h).symm (cH ih m f args h (dUh ih m args h).symm (cH ih m f args h (dKm ih m args h).symm (cH ih m f args h (dWj ih m args h).symm (cH ih m f args h (dNz ih m args h).symm rfl)))))))
noncomputable def eGu : aK := bif Nat.beq f 243 then s243 ih m (aO args 0) (aO args 1) h else bif Nat.beq f 244 then s244 ih m (aO args 0) (aO args 1) h else bif Nat.beq f 245 then s245 ih m (aO args 0) (aO args 1) h else bif Nat.beq f 246 then s246 ih m (aO args 0) (aO args 1) (aO args 2) (aO args 3) h else bif Nat.beq f 247 then s247 ih m (aO args 0) (aO args 1) h else bif Nat.beq f 248 then s248 ih m (aO args 0) h else bif Nat.beq f 249 then s249 ih m (aO args 0) (aO args 1) (aO args 2) h else bif Nat.beq f 250 then s250 ih m (aO args 0) (aO args 1) (aO args 2) (aO args 3) h else aE CF ih m f args h
theorem eFy : eGu ih m f args h = aE CF ih m f args h := cH ih m f args h (dSf ih m args h).symm (cH ih m f args h (dQp ih m args h).symm (cH ih m f args h (dJy ih m args h).symm (cH ih m f args h (dVe ih m args h).symm (cH ih m f args h (dLz ih m args h).symm (cH ih m f args h (dWs ih m args h).symm (cH ih m f args h (dNk ih m args h).symm (cH ih m f args h (dRs ih m args h).symm rfl)))))))
noncomputable def dXo : aK := bif Nat.beq f 251 then s251 ih m (aO args 0) (aO args 1) (aO args 2) (aO args 3) h else bif Nat.beq f 252 then s252 ih m (aO args 0) (aO args 1) h else bif Nat.beq f 253 then s253 ih m (aO args 0) h else bif Nat.beq f 254 then s254 ih m (aO args 0) (aO args 1) h else bif Nat.beq f 255 then s255 ih m (aO args 0) h else bif Nat.beq f 256 then s256 ih m (aO args 0) h else bif Nat.beq f 257 then s257 ih m (aO args 0) h else bif Nat.beq f 258 then s258 ih m (aO args 0) h else aE CF ih m f args h
theorem eFs : dXo ih m f args h = aE CF ih m f args h := cH ih m f args h (dMp ih m args h).symm (cH ih m f args h (dUl ih m args h).symm (cH ih m f args h (dRb ih m args h).symm (cH ih m f args h (dJo ih m args h).symm (cH ih m f args h (dPu ih m args h).symm (cH ih m f args h (dPn ih m args h).symm (cH ih m f args h (dSg ih m args h).symm (cH ih m f args h (dTd ih m args h).symm rfl)))))))
noncomputable def eEb : aK := bif Nat.beq f 259 then s259 ih m (aO args 0) (aO args 1) (aO args 2) h else bif Nat.beq f 260 then s260 ih m h else bif Nat.beq f 261 then s261 ih m h else bif Nat.beq f 262 then s262 ih m (aO args 0) (aO args 1) (aO args 2) h else bif Nat.beq f 263 then s263 ih m (aO args 0) (aO args 1) (aO args 2) h else bif Nat.beq f 264 then s264 ih m (aO args 0) (aO args 1) h else bif Nat.beq f 265 then s265 ih m (aO args 0) (aO args 1) h else bif Nat.beq f 266 then s266 ih m (aO args 0) (aO args 1) h else aE CF ih m f args h
theorem dYz : eEb ih m f args h = aE CF ih m f args h := cH ih m f args h (dWf ih m args h).symm (cH ih m f args h (dQx ih m args h).symm (cH ih m f args h (dVg ih m args h).symm (cH ih m f args h (dRv ih m args h).symm (cH ih m f args h (dLq ih m args h).symm (cH ih m f args h (dPo ih m args h).symm (cH ih m f args h (dQk ih m args h).symm (cH ih m f args h (dQt ih m args h).symm rfl)))))))
noncomputable def eFt : aK := bif Nat.beq f 267 then s267 ih m (aO args 0) h else bif Nat.beq f 268 then s268 ih m (aO args 0) h else bif Nat.beq f 269 then s269 ih m (aO args 0) h else bif Nat.beq f 270 then s270 ih m (aO args 0) h else bif Nat.beq f 271 then s271 ih m (aO args 0) (aO args 1) h else aE CF ih m f args h
theorem dYf : eFt ih m f args h = aE CF ih m f args h := cH ih m f args h (dPr ih m args h).symm (cH ih m f args h (dKp ih m args h).symm (cH ih m f args h (dJp ih m args h).symm (cH ih m f args h (dKw ih m args h).symm (cH ih m f args h (dQa ih m args h).symm rfl))))
noncomputable def qd0 : aK := bif Nat.blt f 15 then qg0 ih m f args h else qg1 ih m f args h
theorem eHq : qd0 ih m f args h = aE CF ih m f args h := ndC ih m f args h (eIx ih m f args h) (eHy ih m f args h)
noncomputable def qd1 : aK := bif Nat.blt f 96 then qg3 ih m f args h else qg4 ih m f args h
theorem eHx : qd1 ih m f args h = aE CF ih m f args h := ndC ih m f args h (eLl ih m f args h) (eKt ih m f args h)
noncomputable def qd2 : aK := bif Nat.blt f 71 then qg2 ih m f args h else qd1 ih m f args h
theorem eHw : qd2 ih m f args h = aE CF ih m f args h := ndC ih m f args h (eIv ih m f args h) (eHx ih m f args h)
noncomputable def qd3 : aK := bif Nat.blt f 42 then qd0 ih m f args h else qd2 ih m f args h
theorem eKa : qd3 ih m f args h = aE CF ih m f args h := ndC ih m f args h (eHq ih m f args h) (eHw ih m f args h)
noncomputable def qd4 : aK := bif Nat.blt f 143 then qg5 ih m f args h else qg6 ih m f args h
theorem eKk : qd4 ih m f args h = aE CF ih m f args h := ndC ih m f args h (eJw ih m f args h) (eKw ih m f args h)
noncomputable def qd5 : aK := bif Nat.blt f 171 then qg8 ih m f args h else qg9 ih m f args h
theorem eKz : qd5 ih m f args h = aE CF ih m f args h := ndC ih m f args h (eId ih m f args h) (eLr ih m f args h)
noncomputable def qd6 : aK := bif Nat.blt f 162 then qg7 ih m f args h else qd5 ih m f args h
theorem eIi : qd6 ih m f args h = aE CF ih m f args h := ndC ih m f args h (eIp ih m f args h) (eKz ih m f args h)
noncomputable def qd7 : aK := bif Nat.blt f 154 then qd4 ih m f args h else qd6 ih m f args h
theorem eJq : qd7 ih m f args h = aE CF ih m f args h := ndC ih m f args h (eKk ih m f args h) (eIi ih m f args h)
noncomputable def qd8 : aK := bif Nat.blt f 133 then qd3 ih m f args h else qd7 ih m f args h
theorem eLw : qd8 ih m f args h = aE CF ih m f args h := ndC ih m f args h (eKa ih m f args h) (eJq ih m f args h)
noncomputable def qd9 : aK := bif Nat.blt f 201 then eAt ih m f args h else dYl ih m f args h
theorem eJa : qd9 ih m f args h = aE CF ih m f args h := ndC ih m f args h (dZr ih m f args h) (eBx ih m f args h)
noncomputable def eDq : aK := bif Nat.blt f 226 then dXy ih m f args h else eDf ih m f args h
theorem dYv : eDq ih m f args h = aE CF ih m f args h := ndC ih m f args h (eGb ih m f args h) (eCf ih m f args h)
noncomputable def dYi : aK := bif Nat.blt f 218 then eBd ih m f args h else eDq ih m f args h
theorem dYa : dYi ih m f args h = aE CF ih m f args h := ndC ih m f args h (eEc ih m f args h) (dYv ih m f args h)
noncomputable def eCp : aK := bif Nat.blt f 209 then qd9 ih m f args h else dYi ih m f args h
theorem eFf : eCp ih m f args h = aE CF ih m f args h := ndC ih m f args h (eJa ih m f args h) (dYa ih m f args h)
noncomputable def eFb : aK := bif Nat.blt f 243 then eEr ih m f args h else eGu ih m f args h
theorem eEj : eFb ih m f args h = aE CF ih m f args h := ndC ih m f args h (eDk ih m f args h) (eFy ih m f args h)
noncomputable def eFx : aK := bif Nat.blt f 267 then eEb ih m f args h else eFt ih m f args h
theorem eEp : eFx ih m f args h = aE CF ih m f args h := ndC ih m f args h (dYz ih m f args h) (dYf ih m f args h)
noncomputable def eDb : aK := bif Nat.blt f 259 then dXo ih m f args h else eFx ih m f args h
theorem eFm : eDb ih m f args h = aE CF ih m f args h := ndC ih m f args h (eFs ih m f args h) (eEp ih m f args h)
noncomputable def eDg : aK := bif Nat.blt f 251 then eFb ih m f args h else eDb ih m f args h
theorem eGh : eDg ih m f args h = aE CF ih m f args h := ndC ih m f args h (eEj ih m f args h) (eFm ih m f args h)
noncomputable def eDd : aK := bif Nat.blt f 235 then eCp ih m f args h else eDg ih m f args h
theorem eBe : eDd ih m f args h = aE CF ih m f args h := ndC ih m f args h (eFf ih m f args h) (eGh ih m f args h)
noncomputable def eAy : aK := bif Nat.blt f 181 then qd8 ih m f args h else eDd ih m f args h
theorem eHd : eAy ih m f args h = aE CF ih m f args h := ndC ih m f args h (eLw ih m f args h) (eBe ih m f args h)
end
noncomputable def shB (ih : RT) (m : Nat) (f : FuncId) (args : List DV) (h : Hp) : aK := eAy ih m f args h
theorem cGu (ih : RT) (m : Nat) (f : FuncId) (args : List DV) (h : Hp) : shB ih m f args h = aE CF ih m f args h := eHd ih m f args h
noncomputable def fW (n : Nat) : FuncId → List DV → Hp → aK :=
 Nat.rec (motive := fun _ => FuncId → List DV → Hp → aK) (fun _ _ _ => none) (fun m ih => fun f args h => bif rgB f then iP CF ih m itm f args h else shB ih m f args h) n
theorem aSa (f : FuncId) (hf : rgB f = false) (n : Nat) (args : List DV) (h : Hp) : fW (n + 1) f args h = aE CF (fW n) n f args h := by
 show (bif rgB f then iP CF (fW n) n itm f args h else shB (fW n) n f args h) = _
 rw [hf, cond_false, cGu]
theorem aQg : ∀ n, fW n = gH CF n
 | 0 => rfl
 | n + 1 => by
  funext f args h
  show (bif rgB f then iP CF (fW n) n itm f args h else shB (fW n) n f args h) = (bif rgB f then iP CF (gH CF n) n itm f else aE CF (gH CF n) n f) args h
  rw [← aQg n]
  cases rgB f with
  | true => rfl
  | false => exact cGu _ _ _ _ _
end Go.Dd

namespace Go.Dd
noncomputable section
def mkW (l : List Nat) : Nat → WT → WT := List.rec (motive := fun _ => Nat → WT → WT) (fun _ t => t) (fun x _ ih i t => ih (Nat.add i 1) (t.set i (.ofNat x))) l
def cHn (l : List (Nat × Nat)) : WT → WT := List.rec (motive := fun _ => WT → WT) (fun t => t) (fun x _ ih t => ih (t.set x.1 (.ofNat x.2))) l
def mkP (l : List Nat) : WT → WT := List.rec (motive := fun _ => WT → WT) (fun t => t) (fun x _ ih t => ih (t.set x (.ofNat 1))) l
def zO (l : List Nat) : Nat → List Nat := List.rec (motive := fun _ => Nat → List Nat) (fun _ => []) (fun x _ ih n => bif Nat.beq n 0 then [] else x :: ih (Nat.sub n 1)) l
def eJr (f : Nat) : Nat → Pos := Nat.rec (motive := fun _ => Nat → Pos) (fun _ => .h) (fun _ ih n => bif Nat.beq n 1 then .h else bif Nat.beq (Nat.mod n 2) 0 then .o (ih (Nat.div n 2)) else .i (ih (Nat.div n 2))) f
def bD (n : Nat) : Pos := eJr 24 (Nat.add 1023 n)
def eV : List Nat := [79, 98, 106, 101, 99, 116]
def aNk : List Nat := [67, 108, 97, 115, 115]
def xX : List Nat := [84, 114, 117, 101]
def pC : List Nat := [70, 97, 108, 115, 101]
def eA : List Nat := [73, 110, 116, 101, 103, 101, 114]
def aIb : List Nat := [65, 114, 114, 97, 121]
def qO : List Nat := [83, 116, 114, 105, 110, 103]
def cUd : List Nat := [83, 121, 109, 98, 111, 108]
def sU : List Nat := [66, 108, 111, 99, 107]
def jB : List Nat := [67, 111, 110, 116, 101, 120, 116]
def aSs : List Nat := [77, 101, 115, 115, 97, 103, 101]
def eBl : List (List Nat × List Nat) := [
 (eV, [61, 32, 111, 116, 104, 101, 114, 32, 94, 115, 101, 108, 102, 32, 61, 61, 32, 111, 116, 104, 101, 114]),
 (eV, [61, 61, 32, 111, 116, 104, 101, 114, 32, 60, 112, 114, 105, 109, 105, 116, 105, 118, 101, 58, 32, 49, 48, 62]),
 (eV, [99, 108, 97, 115, 115, 32, 60, 112, 114, 105, 109, 105, 116, 105, 118, 101, 58, 32, 49, 49, 62]),
 (eV, [105, 115, 78, 105, 108, 32, 94, 115, 101, 108, 102, 32, 61, 61, 32, 110, 105, 108]),
 (eV, [110, 111, 116, 78, 105, 108, 32, 94, 40, 115, 101, 108, 102, 32, 61, 61, 32, 110, 105, 108, 41, 32, 61, 61, 32, 102, 97, 108, 115, 101]),
 (eV, [126, 61, 32, 111, 116, 104, 101, 114, 32, 94, 40, 115, 101, 108, 102, 32, 61, 32, 111, 116, 104, 101, 114, 41, 32, 61, 61, 32, 102, 97, 108, 115, 101]),
 (eV, [121, 111, 117, 114, 115, 101, 108, 102, 32, 94, 115, 101, 108, 102]),
 (eV, [105, 110, 115, 116, 86, 97, 114, 65, 116, 58, 32, 105, 32, 60, 112, 114, 105, 109, 105, 116, 105, 118, 101, 58, 32, 53, 48, 62]),
 (eV, [105, 110, 115, 116, 86, 97, 114, 65, 116, 58, 32, 105, 32, 112, 117, 116, 58, 32, 120, 32, 60, 112, 114, 105, 109, 105, 116, 105, 118, 101, 58, 32, 53, 49, 62]),
 (eV, [98, 101, 99, 111, 109, 101, 58, 32, 111, 116, 104, 101, 114, 32, 60, 112, 114, 105, 109, 105, 116, 105, 118, 101, 58, 32, 54, 48, 62]),
 (eV, [112, 101, 114, 102, 111, 114, 109, 58, 32, 115, 32, 60, 112, 114, 105, 109, 105, 116, 105, 118, 101, 58, 32, 51, 49, 62]),
 (eV, [112, 101, 114, 102, 111, 114, 109, 58, 32, 115, 32, 119, 105, 116, 104, 58, 32, 97, 32, 60, 112, 114, 105, 109, 105, 116, 105, 118, 101, 58, 32, 51, 50, 62]),
 (eV, [115, 104, 111, 119, 32, 60, 112, 114, 105, 109, 105, 116, 105, 118, 101, 58, 32, 55, 48, 62]),
 (eV, [101, 114, 114, 111, 114, 58, 32, 115, 32, 60, 112, 114, 105, 109, 105, 116, 105, 118, 101, 58, 32, 55, 49, 62]),
 (eV, [100, 111, 101, 115, 78, 111, 116, 85, 110, 100, 101, 114, 115, 116, 97, 110, 100, 58, 32, 109, 32, 60, 112, 114, 105, 109, 105, 116, 105, 118, 101, 58, 32, 55, 50, 62]),
 (eV, [109, 117, 115, 116, 66, 101, 66, 111, 111, 108, 101, 97, 110, 32, 60, 112, 114, 105, 109, 105, 116, 105, 118, 101, 58, 32, 55, 51, 62]),
 (aNk, [110, 101, 119, 32, 60, 112, 114, 105, 109, 105, 116, 105, 118, 101, 58, 32, 50, 51, 62]),
 (aNk, [110, 101, 119, 58, 32, 110, 32, 60, 112, 114, 105, 109, 105, 116, 105, 118, 101, 58, 32, 50, 52, 62]),
 (aNk, [110, 97, 109, 101, 32, 60, 112, 114, 105, 109, 105, 116, 105, 118, 101, 58, 32, 52, 48, 62]),
 (aNk, [115, 117, 112, 101, 114, 99, 108, 97, 115, 115, 32, 60, 112, 114, 105, 109, 105, 116, 105, 118, 101, 58, 32, 52, 49, 62]),
 (xX, [105, 102, 84, 114, 117, 101, 58, 32, 98, 32, 94, 98, 32, 118, 97, 108, 117, 101]),
 (xX, [105, 102, 70, 97, 108, 115, 101, 58, 32, 98, 32, 94, 110, 105, 108]),
 (xX, [105, 102, 84, 114, 117, 101, 58, 32, 97, 32, 105, 102, 70, 97, 108, 115, 101, 58, 32, 98, 32, 94, 97, 32, 118, 97, 108, 117, 101]),
 (xX, [105, 102, 70, 97, 108, 115, 101, 58, 32, 97, 32, 105, 102, 84, 114, 117, 101, 58, 32, 98, 32, 94, 98, 32, 118, 97, 108, 117, 101]),
 (xX, [97, 110, 100, 58, 32, 98, 32, 94, 98, 32, 118, 97, 108, 117, 101]),
 (xX, [111, 114, 58, 32, 98, 32, 94, 115, 101, 108, 102]),
 (xX, [110, 111, 116, 32, 94, 102, 97, 108, 115, 101]),
 (pC, [105, 102, 84, 114, 117, 101, 58, 32, 98, 32, 94, 110, 105, 108]),
 (pC, [105, 102, 70, 97, 108, 115, 101, 58, 32, 98, 32, 94, 98, 32, 118, 97, 108, 117, 101]),
 (pC, [105, 102, 84, 114, 117, 101, 58, 32, 97, 32, 105, 102, 70, 97, 108, 115, 101, 58, 32, 98, 32, 94, 98, 32, 118, 97, 108, 117, 101]),
 (pC, [105, 102, 70, 97, 108, 115, 101, 58, 32, 97, 32, 105, 102, 84, 114, 117, 101, 58, 32, 98, 32, 94, 97, 32, 118, 97, 108, 117, 101]),
 (pC, [97, 110, 100, 58, 32, 98, 32, 94, 115, 101, 108, 102]),
 (pC, [111, 114, 58, 32, 98, 32, 94, 98, 32, 118, 97, 108, 117, 101]),
 (pC, [110, 111, 116, 32, 94, 116, 114, 117, 101]),
 (eA, [43, 32, 110, 32, 60, 112, 114, 105, 109, 105, 116, 105, 118, 101, 58, 32, 49, 62, 32, 94, 115, 101, 108, 102, 32, 101, 114, 114, 111, 114, 58, 32, 35, 110, 117, 109, 98, 101, 114]),
 (eA, [45, 32, 110, 32, 60, 112, 114, 105, 109, 105, 116, 105, 118, 101, 58, 32, 50, 62, 32, 94, 115, 101, 108, 102, 32, 101, 114, 114, 111, 114, 58, 32, 35, 110, 117, 109, 98, 101, 114]),
 (eA, [42, 32, 110, 32, 60, 112, 114, 105, 109, 105, 116, 105, 118, 101, 58, 32, 51, 62, 32, 94, 115, 101, 108, 102, 32, 101, 114, 114, 111, 114, 58, 32, 35, 110, 117, 109, 98, 101, 114]),
 (eA, [47, 47, 32, 110, 32, 60, 112, 114, 105, 109, 105, 116, 105, 118, 101, 58, 32, 52, 62, 32, 94, 115, 101, 108, 102, 32, 101, 114, 114, 111, 114, 58, 32, 35, 110, 117, 109, 98, 101, 114]),
 (eA, [37, 32, 110, 32, 60, 112, 114, 105, 109, 105, 116, 105, 118, 101, 58, 32, 53, 62, 32, 94, 115, 101, 108, 102, 32, 101, 114, 114, 111, 114, 58, 32, 35, 110, 117, 109, 98, 101, 114]),
 (eA, [60, 32, 110, 32, 60, 112, 114, 105, 109, 105, 116, 105, 118, 101, 58, 32, 54, 62, 32, 94, 115, 101, 108, 102, 32, 101, 114, 114, 111, 114, 58, 32, 35, 110, 117, 109, 98, 101, 114]),
 (eA, [61, 32, 110, 32, 60, 112, 114, 105, 109, 105, 116, 105, 118, 101, 58, 32, 55, 62, 32, 94, 102, 97, 108, 115, 101]),
 (eA, [62, 32, 110, 32, 94, 110, 32, 60, 32, 115, 101, 108, 102]),
 (eA, [60, 61, 32, 110, 32, 94, 40, 110, 32, 60, 32, 115, 101, 108, 102, 41, 32, 110, 111, 116]),
 (eA, [62, 61, 32, 110, 32, 94, 40, 115, 101, 108, 102, 32, 60, 32, 110, 41, 32, 110, 111, 116]),
 (eA, [110, 101, 103, 97, 116, 101, 100, 32, 94, 48, 32, 45, 32, 115, 101, 108, 102]),
 (eA, [97, 98, 115, 32, 115, 101, 108, 102, 32, 60, 32, 48, 32, 105, 102, 84, 114, 117, 101, 58, 32, 91, 94, 115, 101, 108, 102, 32, 110, 101, 103, 97, 116, 101, 100, 93]),
 (eA, [109, 97, 120, 58, 32, 110, 32, 115, 101, 108, 102, 32, 60, 32, 110, 32, 105, 102, 84, 114, 117, 101, 58, 32, 91, 94, 110, 93]),
 (eA, [116, 105, 109, 101, 115, 82, 101, 112, 101, 97, 116, 58, 32, 98, 32, 124, 32, 105, 32, 124, 32, 105, 32, 58, 61, 32, 48, 46, 32, 91, 105, 32, 60, 32, 115, 101, 108, 102, 93, 32, 119, 104, 105, 108, 101, 84, 114, 117, 101, 58, 32, 91, 98, 32, 118, 97, 108, 117, 101, 46, 32, 105, 32, 58, 61, 32, 105, 32, 43, 32, 49, 93]),
 (eA, [116, 111, 58, 32, 110, 32, 100, 111, 58, 32, 98, 32, 124, 32, 105, 32, 124, 32, 105, 32, 58, 61, 32, 115, 101, 108, 102, 46, 32, 91, 105, 32, 60, 61, 32, 110, 93, 32, 119, 104, 105, 108, 101, 84, 114, 117, 101, 58, 32, 91, 98, 32, 118, 97, 108, 117, 101, 58, 32, 105, 46, 32, 105, 32, 58, 61, 32, 105, 32, 43, 32, 49, 93]),
 (aIb, [97, 116, 58, 32, 105, 32, 60, 112, 114, 105, 109, 105, 116, 105, 118, 101, 58, 32, 50, 48, 62, 32, 94, 115, 101, 108, 102, 32, 101, 114, 114, 111, 114, 58, 32, 35, 105, 110, 100, 101, 120]),
 (aIb, [97, 116, 58, 32, 105, 32, 112, 117, 116, 58, 32, 120, 32, 60, 112, 114, 105, 109, 105, 116, 105, 118, 101, 58, 32, 50, 49, 62, 32, 94, 115, 101, 108, 102, 32, 101, 114, 114, 111, 114, 58, 32, 35, 105, 110, 100, 101, 120]),
 (aIb, [115, 105, 122, 101, 32, 60, 112, 114, 105, 109, 105, 116, 105, 118, 101, 58, 32, 50, 50, 62]),
 (aIb, [100, 111, 58, 32, 98, 32, 49, 32, 116, 111, 58, 32, 115, 101, 108, 102, 32, 115, 105, 122, 101, 32, 100, 111, 58, 32, 91, 58, 105, 32, 124, 32, 98, 32, 118, 97, 108, 117, 101, 58, 32, 40, 115, 101, 108, 102, 32, 97, 116, 58, 32, 105, 41, 93]),
 (qO, [97, 116, 58, 32, 105, 32, 60, 112, 114, 105, 109, 105, 116, 105, 118, 101, 58, 32, 50, 48, 62, 32, 94, 115, 101, 108, 102, 32, 101, 114, 114, 111, 114, 58, 32, 35, 105, 110, 100, 101, 120]),
 (qO, [97, 116, 58, 32, 105, 32, 112, 117, 116, 58, 32, 120, 32, 60, 112, 114, 105, 109, 105, 116, 105, 118, 101, 58, 32, 50, 49, 62, 32, 94, 115, 101, 108, 102, 32, 101, 114, 114, 111, 114, 58, 32, 35, 105, 110, 100, 101, 120]),
 (qO, [115, 105, 122, 101, 32, 60, 112, 114, 105, 109, 105, 116, 105, 118, 101, 58, 32, 50, 50, 62]),
 (qO, [44, 32, 115, 32, 60, 112, 114, 105, 109, 105, 116, 105, 118, 101, 58, 32, 50, 53, 62, 32, 94, 115, 101, 108, 102, 32, 101, 114, 114, 111, 114, 58, 32, 35, 115, 116, 114, 105, 110, 103]),
 (qO, [61, 32, 115, 32, 60, 112, 114, 105, 109, 105, 116, 105, 118, 101, 58, 32, 50, 54, 62]),
 (cUd, [61, 32, 115, 32, 94, 115, 101, 108, 102, 32, 61, 61, 32, 115]),
 (sU, [118, 97, 108, 117, 101, 32, 60, 112, 114, 105, 109, 105, 116, 105, 118, 101, 58, 32, 51, 51, 62, 32, 94, 115, 101, 108, 102, 32, 101, 114, 114, 111, 114, 58, 32, 35, 97, 114, 103, 117, 109, 101, 110, 116, 115]),
 (sU, [118, 97, 108, 117, 101, 58, 32, 97, 32, 60, 112, 114, 105, 109, 105, 116, 105, 118, 101, 58, 32, 51, 52, 62, 32, 94, 115, 101, 108, 102, 32, 101, 114, 114, 111, 114, 58, 32, 35, 97, 114, 103, 117, 109, 101, 110, 116, 115]),
 (sU, [118, 97, 108, 117, 101, 58, 32, 97, 32, 118, 97, 108, 117, 101, 58, 32, 98, 32, 60, 112, 114, 105, 109, 105, 116, 105, 118, 101, 58, 32, 51, 53, 62, 32, 94, 115, 101, 108, 102, 32, 101, 114, 114, 111, 114, 58, 32, 35, 97, 114, 103, 117, 109, 101, 110, 116, 115]),
 (sU, [119, 104, 105, 108, 101, 84, 114, 117, 101, 58, 32, 98, 32, 91, 115, 101, 108, 102, 32, 118, 97, 108, 117, 101, 93, 32, 119, 104, 105, 108, 101, 84, 114, 117, 101, 58, 32, 91, 98, 32, 118, 97, 108, 117, 101, 93]),
 (sU, [101, 110, 115, 117, 114, 101, 58, 32, 98, 32, 60, 112, 114, 105, 109, 105, 116, 105, 118, 101, 58, 32, 57, 48, 62, 32, 124, 32, 118, 32, 100, 111, 110, 101, 32, 124, 32, 118, 32, 58, 61, 32, 115, 101, 108, 102, 32, 118, 97, 108, 117, 101, 46, 32, 100, 111, 110, 101, 32, 58, 61, 32, 116, 114, 117, 101, 46, 32, 98, 32, 118, 97, 108, 117, 101, 46, 32, 94, 118]),
 (sU, [105, 102, 67, 117, 114, 116, 97, 105, 108, 101, 100, 58, 32, 98, 32, 60, 112, 114, 105, 109, 105, 116, 105, 118, 101, 58, 32, 57, 49, 62, 32, 124, 32, 118, 32, 100, 111, 110, 101, 32, 124, 32, 118, 32, 58, 61, 32, 115, 101, 108, 102, 32, 118, 97, 108, 117, 101, 46, 32, 100, 111, 110, 101, 32, 58, 61, 32, 116, 114, 117, 101, 46, 32, 94, 118]),
 (jB, [115, 101, 110, 100, 101, 114, 32, 60, 112, 114, 105, 109, 105, 116, 105, 118, 101, 58, 32, 56, 48, 62]),
 (jB, [114, 101, 99, 101, 105, 118, 101, 114, 32, 60, 112, 114, 105, 109, 105, 116, 105, 118, 101, 58, 32, 56, 49, 62]),
 (jB, [115, 101, 108, 101, 99, 116, 111, 114, 32, 60, 112, 114, 105, 109, 105, 116, 105, 118, 101, 58, 32, 56, 50, 62]),
 (jB, [112, 99, 32, 60, 112, 114, 105, 109, 105, 116, 105, 118, 101, 58, 32, 56, 51, 62]),
 (jB, [116, 101, 109, 112, 65, 116, 58, 32, 105, 32, 60, 112, 114, 105, 109, 105, 116, 105, 118, 101, 58, 32, 56, 52, 62, 32, 94, 115, 101, 108, 102, 32, 101, 114, 114, 111, 114, 58, 32, 35, 105, 110, 100, 101, 120]),
 (jB, [116, 101, 109, 112, 65, 116, 58, 32, 105, 32, 112, 117, 116, 58, 32, 120, 32, 60, 112, 114, 105, 109, 105, 116, 105, 118, 101, 58, 32, 56, 53, 62, 32, 94, 115, 101, 108, 102, 32, 101, 114, 114, 111, 114, 58, 32, 35, 105, 110, 100, 101, 120]),
 (jB, [114, 101, 116, 117, 114, 110, 58, 32, 120, 32, 60, 112, 114, 105, 109, 105, 116, 105, 118, 101, 58, 32, 56, 54, 62, 32, 94, 115, 101, 108, 102, 32, 99, 97, 110, 110, 111, 116, 82, 101, 116, 117, 114, 110, 58, 32, 120]),
 (jB, [99, 97, 110, 110, 111, 116, 82, 101, 116, 117, 114, 110, 58, 32, 120, 32, 60, 112, 114, 105, 109, 105, 116, 105, 118, 101, 58, 32, 55, 52, 62]),
 (aSs, [115, 101, 108, 101, 99, 116, 111, 114, 32, 94, 115, 101, 108, 101, 99, 116, 111, 114]),
 (aSs, [97, 114, 103, 117, 109, 101, 110, 116, 115, 32, 94, 97, 114, 103, 117, 109, 101, 110, 116, 115])]
def eJp (l : List (List Nat × List Nat)) : Nat → List DV := List.rec (motive := fun _ => Nat → List DV) (fun _ => []) (fun _ _ ih p => .l (bD p) 0 2 2 :: ih (Nat.add p 1)) l
def bLp (l : List (List Nat × Nat)) : List (DV × DV) := List.rec (motive := fun _ => List (DV × DV)) [] (fun x _ ih => (.s x.1, .i .i64 (.ofNat x.2)) :: ih) l
def eJj (l : List Nat) : List DV := List.rec (motive := fun _ => List DV) [] (fun x _ ih => .i .i64 (.ofNat x) :: ih) l
def wsF : List Nat := [0, 0, 0, 24, 24, 1, 294, 0, 1, 322, 2670, 1, 24, 24, 2, 338, 6, 1, 364, 3024, 7, 24, 24, 3, 380, 6, 1, 426, 0, 7, 24, 24, 4, 442, 6, 1, 472, 0, 7, 24, 24, 5, 488, 60, 1, 512, 3738, 7, 24, 24, 6, 528, 60, 1, 554, 4204, 7, 24, 24, 7, 570, 6, 1, 600, 6046, 7, 24, 24, 8, 616, 114, 1, 656, 0, 7, 24, 24, 9, 672, 114, 1, 712, 0, 7, 24, 24, 10, 728, 6, 1, 754, 6538, 3, 24, 24, 11, 770, 6, 1, 798, 6942, 5, 24, 24, 12, 814, 186, 1, 842, 7018, 5, 24, 24, 13, 858, 6, 1, 884, 7746, 7, 24, 24, 14, 900, 6, 1, 930, 8508, 7, 24, 24, 15, 946, 6, 1, 974, 0, 7, 24, 24, 16, 990, 6, 5, 1086, 8632, 1, 26, 204, 17, 79, 98, 106, 101, 99, 116, 8, 168, 18, 294, 0, 0, 168, 19, 8, 168, 20, 6, 0, 22, 204, 21, 67, 108, 97, 115, 115, 8, 168, 22, 338, 312, 0, 168, 23, 8, 168, 24, 24, 328, 62, 204, 25, 85, 110, 100, 101, 102, 105, 110, 101, 100, 79, 98, 106, 101, 99, 116, 8, 168, 26, 380, 354, 0, 168, 27, 8, 168, 28, 42, 370, 30, 204, 29, 66, 111, 111, 108, 101, 97, 110, 8, 168, 30, 442, 416, 0, 168, 31, 8, 168, 32, 60, 432, 18, 204, 33, 84, 114, 117, 101, 8, 168, 34, 488, 462, 0, 168, 35, 8, 168, 36, 78, 478, 22, 204, 37, 70, 97, 108, 115, 101, 8, 168, 38, 528, 502, 0, 168, 39, 8, 168, 40, 96, 518, 30, 204, 41, 73, 110, 116, 101, 103, 101, 114, 8, 168, 42, 570, 544, 0, 168, 43, 8, 168, 44, 114, 560, 50, 204, 45, 83, 109, 97, 108, 108, 73, 110, 116, 101, 103, 101, 114, 8, 168, 46, 616, 590, 0, 168, 47, 8, 168, 48, 132, 606, 50, 204, 49, 76, 97, 114, 103, 101, 73, 110, 116, 101, 103, 101, 114, 8, 168, 50, 672, 646, 0, 168, 51, 8, 168, 52, 150, 662, 22, 204, 53, 65, 114, 114, 97, 121, 8, 168, 54, 728, 702, 0, 168, 55, 8, 168, 56, 168, 718, 26, 204, 57, 83, 116, 114, 105, 110, 103, 8, 168, 58, 770, 744, 0, 168, 59, 8, 168, 60, 186, 760, 26, 204, 61, 83, 121, 109, 98, 111, 108, 8, 168, 62, 814, 788, 0, 168, 63, 8, 168, 64, 204, 804, 22, 204, 65, 66, 108, 111, 99, 107, 8, 168, 66, 858, 832, 0, 168, 67, 8, 168, 68, 222, 848, 30, 204, 69, 67, 111, 110, 116, 101, 120, 116, 8, 168, 70, 900, 874, 0, 168, 71, 8, 168, 72, 240, 890, 26, 204, 73, 77, 101, 116, 104, 111, 100, 8, 168, 74, 946, 920, 0, 168, 75, 8, 168, 76, 258, 936, 30, 204, 77, 77, 101, 115, 115, 97, 103, 101, 8, 168, 78, 990, 964, 34, 204, 79, 115, 101, 108, 101, 99, 116, 111, 114, 8, 168, 80, 1020, 1010, 38, 204, 81, 97, 114, 103, 117, 109, 101, 110, 116, 115, 8, 168, 82, 1052, 1042, 8, 168, 83, 1020, 1052, 8, 168, 84, 276, 980, 6, 204, 85, 61, 8, 168, 86, 1106, 1076, 10, 204, 87, 61, 61, 8, 168, 88, 1124, 1114, 4, 168, 89, 1124, 50, 186, 90, 1, 0, 0, 7, 0, 0, 14, 0, 1, 20, 0, 0, 4, 168, 91, 1152, 28, 258, 92, 1106, 3, 3, 1, 1144, 1182, 6, 8, 168, 93, 1190, 0, 0, 168, 94, 26, 186, 95, 1, 0, 0, 20, 0, 0, 4, 168, 96, 1226, 28, 258, 97, 1124, 3, 3, 21, 1220, 1244, 6, 8, 168, 98, 1252, 1210, 22, 204, 99, 99, 108, 97, 115, 115, 8, 168, 100, 1282, 1134, 0, 168, 101, 26, 186, 102, 1, 0, 0, 20, 0, 0, 4, 168, 103, 1314, 28, 258, 104, 1282, 1, 1, 23, 1308, 1332, 6, 8, 168, 105, 1340, 1272, 22, 204, 106, 105, 115, 78, 105, 108, 8, 168, 107, 1370, 1298, 4, 168, 108, 1124, 50, 186, 109, 1, 0, 0, 2, 0, 0, 14, 0, 1, 20, 0, 0, 4, 168, 110, 1404, 28, 258, 111, 1370, 1, 1, 1, 1396, 1434, 6, 8, 168, 112, 1442, 1360, 26, 204, 113, 110, 111, 116, 78, 105, 108, 8, 168, 114, 1472, 1386, 4, 168, 115, 1124, 74, 186, 116, 1, 0, 0, 2, 0, 0, 14, 0, 1, 4, 0, 0, 14, 0, 1, 20, 0, 0, 4, 168, 117, 1508, 28, 258, 118, 1472, 1, 1, 1, 1500, 1550, 6, 8, 168, 119, 1558, 1462, 10, 204, 120, 126, 61, 8, 168, 121, 1588, 1490, 8, 168, 122, 1106, 1124, 74, 186, 123, 1, 0, 0, 7, 0, 0, 14, 0, 1, 4, 0, 0, 14, 1, 1, 20, 0, 0, 4, 168, 124, 1618, 28, 258, 125, 1588, 3, 3, 1, 1608, 1660, 6, 8, 168, 126, 1668, 1578, 34, 204, 127, 121, 111, 117, 114, 115, 101, 108, 102, 8, 168, 128, 1698, 1598, 0, 168, 129, 26, 186, 130, 1, 0, 0, 20, 0, 0, 4, 168, 131, 1736, 28, 258, 132, 1698, 1, 1, 1, 1730, 1754, 6, 8, 168, 133, 1762, 1688, 42, 204, 134, 105, 110, 115, 116, 86, 97, 114, 65, 116, 58, 8, 168, 135, 1792, 1720, 0, 168, 136, 26, 186, 137, 1, 0, 0, 20, 0, 0, 4, 168, 138, 1834, 28, 258, 139, 1792, 3, 3, 101, 1828, 1852, 6, 8, 168, 140, 1860, 1782, 58, 204, 141, 105, 110, 115, 116, 86, 97, 114, 65, 116, 58, 112, 117, 116, 58, 8, 168, 142, 1890, 1818, 0, 168, 143, 26, 186, 144, 1, 0, 0, 20, 0, 0, 4, 168, 145, 1940, 28, 258, 146, 1890, 5, 5, 103, 1934, 1958, 6, 8, 168, 147, 1966, 1880, 30, 204, 148, 98, 101, 99, 111, 109, 101, 58, 8, 168, 149, 1996, 1924, 0, 168, 150, 26, 186, 151, 1, 0, 0, 20, 0, 0, 4, 168, 152, 2032, 28, 258, 153, 1996, 3, 3, 121, 2026, 2050, 6, 8, 168, 154, 2058, 1986, 34, 204, 155, 112, 101, 114, 102, 111, 114, 109, 58, 8, 168, 156, 2088, 2016, 0, 168, 157, 26, 186, 158, 1, 0, 0, 20, 0, 0, 4, 168, 159, 2126, 28, 258, 160, 2088, 3, 3, 63, 2120, 2144, 6, 8, 168, 161, 2152, 2078, 54, 204, 162, 112, 101, 114, 102, 111, 114, 109, 58, 119, 105, 116, 104, 58, 8, 168, 163, 2182, 2110, 0, 168, 164, 26, 186, 165, 1, 0, 0, 20, 0, 0, 4, 168, 166, 2230, 28, 258, 167, 2182, 5, 5, 65, 2224, 2248, 6, 8, 168, 168, 2256, 2172, 18, 204, 169, 115, 104, 111, 119, 8, 168, 170, 2286, 2214, 0, 168, 171, 26, 186, 172, 1, 0, 0, 20, 0, 0, 4, 168, 173, 2316, 28, 258, 174, 2286, 1, 1, 141, 2310, 2334, 6, 8, 168, 175, 2342, 2276, 26, 204, 176, 101, 114, 114, 111, 114, 58, 8, 168, 177, 2372, 2300, 0, 168, 178, 26, 186, 179, 1, 0, 0, 20, 0, 0, 4, 168, 180, 2406, 28, 258, 181, 2372, 3, 3, 143, 2400, 2424, 6, 8, 168, 182, 2432, 2362, 74, 204, 183, 100, 111, 101, 115, 78, 111, 116, 85, 110, 100, 101, 114, 115, 116, 97, 110, 100, 58, 8, 168, 184, 2462, 2390, 0, 168, 185, 26, 186, 186, 1, 0, 0, 20, 0, 0, 4, 168, 187, 2520, 28, 258, 188, 2462, 3, 3, 145, 2514, 2538, 6, 8, 168, 189, 2546, 2452, 54, 204, 190, 109, 117, 115, 116, 66, 101, 66, 111, 111, 108, 101, 97, 110, 8, 168, 191, 2576, 2504, 0, 168, 192, 26, 186, 193, 1, 0, 0, 20, 0, 0, 4, 168, 194, 2624, 28, 258, 195, 2576, 1, 1, 147, 2618, 2642, 6, 8, 168, 196, 2650, 2566, 14, 204, 197, 110, 101, 119, 8, 168, 198, 2680, 2608, 0, 168, 199, 26, 186, 200, 1, 0, 0, 20, 0, 0, 4, 168, 201, 2708, 28, 258, 202, 2680, 1, 1, 47, 2702, 2726, 24, 8, 168, 203, 2734, 0, 18, 204, 204, 110, 101, 119, 58, 8, 168, 205, 2764, 2692, 0, 168, 206, 26, 186, 207, 1, 0, 0, 20, 0, 0, 4, 168, 208, 2794, 28, 258, 209, 2764, 3, 3, 49, 2788, 2812, 24, 8, 168, 210, 2820, 2754, 18, 204, 211, 110, 97, 109, 101, 8, 168, 212, 2850, 2778, 0, 168, 213, 26, 186, 214, 1, 0, 0, 20, 0, 0, 4, 168, 215, 2880, 28, 258, 216, 2850, 1, 1, 81, 2874, 2898, 24, 8, 168, 217, 2906, 2840, 42, 204, 218, 115, 117, 112, 101, 114, 99, 108, 97, 115, 115, 8, 168, 219, 2936, 2864, 0, 168, 220, 26, 186, 221, 1, 0, 0, 20, 0, 0, 4, 168, 222, 2978, 28, 258, 223, 2936, 1, 1, 83, 2972, 2996, 24, 8, 168, 224, 3004, 2926, 30, 204, 225, 105, 102, 84, 114, 117, 101, 58, 8, 168, 226, 3034, 2962, 22, 204, 227, 118, 97, 108, 117, 101, 8, 168, 228, 3064, 3054, 4, 168, 229, 3064, 38, 186, 230, 7, 0, 0, 14, 0, 0, 20, 0, 0, 4, 168, 231, 3098, 28, 258, 232, 3034, 3, 3, 1, 3090, 3122, 78, 8, 168, 233, 3130, 0, 34, 204, 234, 105, 102, 70, 97, 108, 115, 101, 58, 8, 168, 235, 3160, 3080, 0, 168, 236, 26, 186, 237, 2, 0, 0, 20, 0, 0, 4, 168, 238, 3198, 28, 258, 239, 3160, 3, 3, 1, 3192, 3216, 78, 8, 168, 240, 3224, 3150, 62, 204, 241, 105, 102, 84, 114, 117, 101, 58, 105, 102, 70, 97, 108, 115, 101, 58, 8, 168, 242, 3254, 3182, 4, 168, 243, 3064, 38, 186, 244, 7, 0, 0, 14, 0, 0, 20, 0, 0, 4, 168, 245, 3308, 28, 258, 246, 3254, 5, 5, 1, 3300, 3332, 78, 8, 168, 247, 3340, 3244, 62, 204, 248, 105, 102, 70, 97, 108, 115, 101, 58, 105, 102, 84, 114, 117, 101, 58, 8, 168, 249, 3370, 3290, 4, 168, 250, 3064, 38, 186, 251, 7, 1, 0, 14, 0, 0, 20, 0, 0, 4, 168, 252, 3424, 28, 258, 253, 3370, 5, 5, 1, 3416, 3448, 78, 8, 168, 254, 3456, 3360, 18, 204, 255, 97, 110, 100, 58, 8, 168, 256, 3486, 3406, 4, 168, 257, 3064, 38, 186, 258, 7, 0, 0, 14, 0, 0, 20, 0, 0, 4, 168, 259, 3518, 28, 258, 260, 3486, 3, 3, 1, 3510, 3542, 78, 8, 168, 261, 3550, 3476, 14, 204, 262, 111, 114, 58, 8, 168, 263, 3580, 3500, 0, 168, 264, 26, 186, 265, 1, 0, 0, 20, 0, 0, 4, 168, 266, 3608, 28, 258, 267, 3580, 3, 3, 1, 3602, 3626, 78, 8, 168, 268, 3634, 3570, 14, 204, 269, 110, 111, 116, 8, 168, 270, 3664, 3592, 0, 168, 271, 26, 186, 272, 4, 0, 0, 20, 0, 0, 4, 168, 273, 3692, 28, 258, 274, 3664, 1, 1, 1, 3686, 3710, 78, 8, 168, 275, 3718, 3654, 0, 168, 276, 26, 186, 277, 2, 0, 0, 20, 0, 0, 4, 168, 278, 3754, 28, 258, 279, 3034, 3, 3, 1, 3748, 3772, 96, 8, 168, 280, 3780, 0, 4, 168, 281, 3064, 38, 186, 282, 7, 0, 0, 14, 0, 0, 20, 0, 0, 4, 168, 283, 3818, 28, 258, 284, 3160, 3, 3, 1, 3810, 3842, 96, 8, 168, 285, 3850, 3800, 4, 168, 286, 3064, 38, 186, 287, 7, 1, 0, 14, 0, 0, 20, 0, 0, 4, 168, 288, 3888, 28, 258, 289, 3254, 5, 5, 1, 3880, 3912, 96, 8, 168, 290, 3920, 3870, 4, 168, 291, 3064, 38, 186, 292, 7, 0, 0, 14, 0, 0, 20, 0, 0, 4, 168, 293, 3958, 28, 258, 294, 3370, 5, 5, 1, 3950, 3982, 96, 8, 168, 295, 3990, 3940, 0, 168, 296, 26, 186, 297, 1, 0, 0, 20, 0, 0, 4, 168, 298, 4026, 28, 258, 299, 3486, 3, 3, 1, 4020, 4044, 96, 8, 168, 300, 4052, 4010, 4, 168, 301, 3064, 38, 186, 302, 7, 0, 0, 14, 0, 0, 20, 0, 0, 4, 168, 303, 4090, 28, 258, 304, 3580, 3, 3, 1, 4082, 4114, 96, 8, 168, 305, 4122, 4072, 0, 168, 306, 26, 186, 307, 3, 0, 0, 20, 0, 0, 4, 168, 308, 4158, 28, 258, 309, 3664, 1, 1, 1, 4152, 4176, 96, 8, 168, 310, 4184, 4142, 6, 204, 311, 43, 8, 168, 312, 4214, 3676, 26, 204, 313, 110, 117, 109, 98, 101, 114, 8, 168, 314, 4232, 4222, 8, 168, 315, 4232, 2372, 50, 186, 316, 1, 0, 0, 6, 0, 0, 14, 1, 1, 20, 0, 0, 4, 168, 317, 4270, 28, 258, 318, 4214, 3, 3, 3, 4260, 4300, 114, 8, 168, 319, 4308, 0, 6, 204, 320, 45, 8, 168, 321, 4338, 4250, 8, 168, 322, 4232, 2372, 50, 186, 323, 1, 0, 0, 6, 0, 0, 14, 1, 1, 20, 0, 0, 4, 168, 324, 4366, 28, 258, 325, 4338, 3, 3, 5, 4356, 4396, 114, 8, 168, 326, 4404, 4328, 6, 204, 327, 42, 8, 168, 328, 4434, 4346, 8, 168, 329, 4232, 2372, 50, 186, 330, 1, 0, 0, 6, 0, 0, 14, 1, 1, 20, 0, 0, 4, 168, 331, 4462, 28, 258, 332, 4434, 3, 3, 7, 4452, 4492, 114, 8, 168, 333, 4500, 4424, 10, 204, 334, 47, 47, 8, 168, 335, 4530, 4442, 8, 168, 336, 4232, 2372, 50, 186, 337, 1, 0, 0, 6, 0, 0, 14, 1, 1, 20, 0, 0, 4, 168, 338, 4560, 28, 258, 339, 4530, 3, 3, 9, 4550, 4590, 114, 8, 168, 340, 4598, 4520, 6, 204, 341, 37, 8, 168, 342, 4628, 4540, 8, 168, 343, 4232, 2372, 50, 186, 344, 1, 0, 0, 6, 0, 0, 14, 1, 1, 20, 0, 0, 4, 168, 345, 4656, 28, 258, 346, 4628, 3, 3, 11, 4646, 4686, 114, 8, 168, 347, 4694, 4618, 6, 204, 348, 60, 8, 168, 349, 4724, 4636, 8, 168, 350, 4232, 2372, 50, 186, 351, 1, 0, 0, 6, 0, 0, 14, 1, 1, 20, 0, 0, 4, 168, 352, 4752, 28, 258, 353, 4724, 3, 3, 13, 4742, 4782, 114, 8, 168, 354, 4790, 4714, 0, 168, 355, 26, 186, 356, 4, 0, 0, 20, 0, 0, 4, 168, 357, 4826, 28, 258, 358, 1106, 3, 3, 15, 4820, 4844, 114, 8, 168, 359, 4852, 4810, 6, 204, 360, 62, 8, 168, 361, 4882, 4732, 4, 168, 362, 4724, 50, 186, 363, 7, 0, 0, 1, 0, 0, 14, 0, 1, 20, 0, 0, 4, 168, 364, 4908, 28, 258, 365, 4882, 3, 3, 1, 4900, 4938, 114, 8, 168, 366, 4946, 4872, 10, 204, 367, 60, 61, 8, 168, 368, 4976, 4890, 8, 168, 369, 4724, 3664, 62, 186, 370, 7, 0, 0, 1, 0, 0, 14, 0, 1, 14, 1, 0, 20, 0, 0, 4, 168, 371, 5006, 28, 258, 372, 4976, 3, 3, 1, 4996, 5042, 114, 8, 168, 373, 5050, 4966, 10, 204, 374, 62, 61, 8, 168, 375, 5080, 4986, 8, 168, 376, 4724, 3664, 62, 186, 377, 1, 0, 0, 7, 0, 0, 14, 0, 1, 14, 1, 0, 20, 0, 0, 4, 168, 378, 5110, 28, 258, 379, 5080, 3, 3, 1, 5100, 5146, 114, 8, 168, 380, 5154, 5070, 30, 204, 381, 110, 101, 103, 97, 116, 101, 100, 8, 168, 382, 5184, 5090, 8, 168, 383, 1, 4338, 50, 186, 384, 6, 0, 0, 1, 0, 0, 14, 1, 1, 20, 0, 0, 4, 168, 385, 5224, 28, 258, 386, 5184, 1, 1, 1, 5214, 5254, 114, 8, 168, 387, 5262, 5174, 14, 204, 388, 97, 98, 115, 8, 168, 389, 5292, 5204, 12, 168, 390, 1, 4724, 5184, 158, 186, 391, 1, 0, 0, 6, 0, 0, 14, 1, 1, 17, 9, 0, 1, 0, 0, 14, 2, 0, 20, 0, 0, 2, 0, 0, 16, 10, 0, 2, 0, 0, 12, 0, 0, 1, 0, 0, 20, 0, 0, 4, 168, 392, 5326, 28, 258, 393, 5292, 1, 1, 1, 5314, 5410, 114, 8, 168, 394, 5418, 5282, 18, 204, 395, 109, 97, 120, 58, 8, 168, 396, 5448, 5304, 4, 168, 397, 4724, 146, 186, 398, 1, 0, 0, 7, 0, 0, 14, 0, 1, 17, 8, 0, 7, 0, 0, 20, 0, 0, 2, 0, 0, 16, 9, 0, 2, 0, 0, 12, 0, 0, 1, 0, 0, 20, 0, 0, 4, 168, 399, 5480, 28, 258, 400, 5448, 3, 3, 1, 5472, 5558, 114, 8, 168, 401, 5566, 5438, 50, 204, 402, 116, 105, 109, 101, 115, 82, 101, 112, 101, 97, 116, 58, 8, 168, 403, 5596, 5462, 20, 168, 404, 1, 4724, 3064, 3, 4214, 242, 186, 405, 6, 0, 0, 10, 1, 0, 12, 0, 0, 7, 1, 0, 1, 0, 0, 14, 1, 1, 17, 16, 0, 7, 0, 0, 14, 2, 0, 12, 0, 0, 7, 1, 0, 6, 3, 0, 14, 4, 1, 10, 1, 0, 12, 0, 0, 16, 3, 0, 2, 0, 0, 12, 0, 0, 1, 0, 0, 20, 0, 0, 4, 168, 406, 5652, 28, 258, 407, 5596, 3, 5, 1, 5636, 5778, 114, 8, 168, 408, 5786, 5586, 26, 204, 409, 116, 111, 58, 100, 111, 58, 8, 168, 410, 5816, 5626, 26, 204, 411, 118, 97, 108, 117, 101, 58, 8, 168, 412, 5844, 5834, 16, 168, 413, 4976, 5844, 3, 4214, 254, 186, 414, 1, 0, 0, 10, 2, 0, 12, 0, 0, 7, 2, 0, 7, 0, 0, 14, 0, 1, 17, 17, 0, 7, 1, 0, 7, 2, 0, 14, 1, 1, 12, 0, 0, 7, 2, 0, 6, 2, 0, 14, 3, 1, 10, 2, 0, 12, 0, 0, 16, 3, 0, 2, 0, 0, 12, 0, 0, 1, 0, 0, 20, 0, 0, 4, 168, 415, 5886, 28, 258, 416, 5816, 5, 7, 1, 5872, 6018, 114, 8, 168, 417, 6026, 5806, 14, 204, 418, 97, 116, 58, 8, 168, 419, 6056, 5862, 22, 204, 420, 105, 110, 100, 101, 120, 8, 168, 421, 6078, 6068, 8, 168, 422, 6078, 2372, 50, 186, 423, 1, 0, 0, 6, 0, 0, 14, 1, 1, 20, 0, 0, 4, 168, 424, 6114, 28, 258, 425, 6056, 3, 3, 41, 6104, 6144, 168, 8, 168, 426, 6152, 0, 30, 204, 427, 97, 116, 58, 112, 117, 116, 58, 8, 168, 428, 6182, 6094, 8, 168, 429, 6078, 2372, 50, 186, 430, 1, 0, 0, 6, 0, 0, 14, 1, 1, 20, 0, 0, 4, 168, 431, 6222, 28, 258, 432, 6182, 5, 5, 43, 6212, 6252, 168, 8, 168, 433, 6260, 6172, 18, 204, 434, 115, 105, 122, 101, 8, 168, 435, 6290, 6202, 0, 168, 436, 26, 186, 437, 1, 0, 0, 20, 0, 0, 4, 168, 438, 6320, 28, 258, 439, 6290, 1, 1, 45, 6314, 6338, 168, 8, 168, 440, 6346, 6280, 14, 204, 441, 100, 111, 58, 8, 168, 442, 6376, 6304, 20, 168, 443, 3, 6290, 6056, 5844, 5816, 182, 186, 444, 6, 0, 0, 1, 0, 0, 14, 1, 0, 18, 1, 1, 16, 11, 0, 7, 0, 0, 1, 0, 0, 7, 1, 0, 14, 2, 1, 14, 3, 1, 19, 0, 0, 14, 4, 2, 12, 0, 0, 1, 0, 0, 20, 0, 0, 4, 168, 445, 6414, 28, 258, 446, 6376, 3, 5, 1, 6398, 6510, 168, 8, 168, 447, 6518, 6366, 8, 168, 448, 6078, 2372, 50, 186, 449, 1, 0, 0, 6, 0, 0, 14, 1, 1, 20, 0, 0, 4, 168, 450, 6558, 28, 258, 451, 6056, 3, 3, 41, 6548, 6588, 186, 8, 168, 452, 6596, 0, 8, 168, 453, 6078, 2372, 50, 186, 454, 1, 0, 0, 6, 0, 0, 14, 1, 1, 20, 0, 0, 4, 168, 455, 6636, 28, 258, 456, 6182, 5, 5, 43, 6626, 6666, 186, 8, 168, 457, 6674, 6616, 0, 168, 458, 26, 186, 459, 1, 0, 0, 20, 0, 0, 4, 168, 460, 6710, 28, 258, 461, 6290, 1, 1, 45, 6704, 6728, 186, 8, 168, 462, 6736, 6694, 6, 204, 463, 44, 8, 168, 464, 6766, 6388, 26, 204, 465, 115, 116, 114, 105, 110, 103, 8, 168, 466, 6784, 6774, 8, 168, 467, 6784, 2372, 50, 186, 468, 1, 0, 0, 6, 0, 0, 14, 1, 1, 20, 0, 0, 4, 168, 469, 6822, 28, 258, 470, 6766, 3, 3, 51, 6812, 6852, 186, 8, 168, 471, 6860, 6756, 0, 168, 472, 26, 186, 473, 1, 0, 0, 20, 0, 0, 4, 168, 474, 6896, 28, 258, 475, 1106, 3, 3, 53, 6890, 6914, 186, 8, 168, 476, 6922, 6880, 4, 168, 477, 1124, 50, 186, 478, 1, 0, 0, 7, 0, 0, 14, 0, 1, 20, 0, 0, 4, 168, 479, 6960, 28, 258, 480, 1106, 3, 3, 1, 6952, 6990, 204, 8, 168, 481, 6998, 0, 8, 168, 482, 1052, 2372, 50, 186, 483, 1, 0, 0, 6, 0, 0, 14, 1, 1, 20, 0, 0, 4, 168, 484, 7038, 28, 258, 485, 3064, 1, 1, 67, 7028, 7068, 222, 8, 168, 486, 7076, 0, 8, 168, 487, 1052, 2372, 50, 186, 488, 1, 0, 0, 6, 0, 0, 14, 1, 1, 20, 0, 0, 4, 168, 489, 7116, 28, 258, 490, 5844, 3, 3, 69, 7106, 7146, 222, 8, 168, 491, 7154, 7096, 50, 204, 492, 118, 97, 108, 117, 101, 58, 118, 97, 108, 117, 101, 58, 8, 168, 493, 7184, 6802, 8, 168, 494, 1052, 2372, 50, 186, 495, 1, 0, 0, 6, 0, 0, 14, 1, 1, 20, 0, 0, 4, 168, 496, 7234, 28, 258, 497, 7184, 5, 5, 71, 7224, 7264, 222, 8, 168, 498, 7272, 7174, 42, 204, 499, 119, 104, 105, 108, 101, 84, 114, 117, 101, 58, 8, 168, 500, 7302, 7214, 4, 168, 501, 3064, 134, 186, 502, 1, 0, 0, 14, 0, 0, 17, 7, 0, 7, 0, 0, 14, 0, 0, 12, 0, 0, 16, 0, 0, 2, 0, 0, 12, 0, 0, 1, 0, 0, 20, 0, 0, 4, 168, 503, 7346, 28, 258, 504, 7302, 3, 3, 1, 7338, 7418, 222, 8, 168, 505, 7426, 7292, 30, 204, 506, 101, 110, 115, 117, 114, 101, 58, 8, 168, 507, 7456, 7328, 4, 168, 508, 3064, 146, 186, 509, 1, 0, 0, 14, 0, 0, 10, 1, 0, 12, 0, 0, 3, 0, 0, 10, 2, 0, 12, 0, 0, 7, 0, 0, 14, 0, 0, 12, 0, 0, 7, 1, 0, 20, 0, 0, 4, 168, 510, 7494, 28, 258, 511, 7456, 3, 7, 181, 7486, 7572, 222, 8, 168, 512, 7580, 7446, 50, 204, 513, 105, 102, 67, 117, 114, 116, 97, 105, 108, 101, 100, 58, 8, 168, 514, 7610, 7476, 4, 168, 515, 3064, 110, 186, 516, 1, 0, 0, 14, 0, 0, 10, 1, 0, 12, 0, 0, 3, 0, 0, 10, 2, 0, 12, 0, 0, 7, 1, 0, 20, 0, 0, 4, 168, 517, 7658, 28, 258, 518, 7610, 3, 7, 183, 7650, 7718, 222, 8, 168, 519, 7726, 7600, 26, 204, 520, 115, 101, 110, 100, 101, 114, 8, 168, 521, 7756, 7640, 0, 168, 522, 26, 186, 523, 1, 0, 0, 20, 0, 0, 4, 168, 524, 7790, 28, 258, 525, 7756, 1, 1, 161, 7784, 7808, 240, 8, 168, 526, 7816, 0, 34, 204, 527, 114, 101, 99, 101, 105, 118, 101, 114, 8, 168, 528, 7846, 7774, 0, 168, 529, 26, 186, 530, 1, 0, 0, 20, 0, 0, 4, 168, 531, 7884, 28, 258, 532, 7846, 1, 1, 163, 7878, 7902, 240, 8, 168, 533, 7910, 7836, 0, 168, 534, 26, 186, 535, 1, 0, 0, 20, 0, 0, 4, 168, 536, 7946, 28, 258, 537, 1020, 1, 1, 165, 7940, 7964, 240, 8, 168, 538, 7972, 7930, 10, 204, 539, 112, 99, 8, 168, 540, 8002, 7868, 0, 168, 541, 26, 186, 542, 1, 0, 0, 20, 0, 0, 4, 168, 543, 8028, 28, 258, 544, 8002, 1, 1, 167, 8022, 8046, 240, 8, 168, 545, 8054, 7992, 30, 204, 546, 116, 101, 109, 112, 65, 116, 58, 8, 168, 547, 8084, 8012, 8, 168, 548, 6078, 2372, 50, 186, 549, 1, 0, 0, 6, 0, 0, 14, 1, 1, 20, 0, 0, 4, 168, 550, 8124, 28, 258, 551, 8084, 3, 3, 169, 8114, 8154, 240, 8, 168, 552, 8162, 8074, 46, 204, 553, 116, 101, 109, 112, 65, 116, 58, 112, 117, 116, 58, 8, 168, 554, 8192, 8104, 8, 168, 555, 6078, 2372, 50, 186, 556, 1, 0, 0, 6, 0, 0, 14, 1, 1, 20, 0, 0, 4, 168, 557, 8240, 28, 258, 558, 8192, 5, 5, 171, 8230, 8270, 240, 8, 168, 559, 8278, 8182, 30, 204, 560, 114, 101, 116, 117, 114, 110, 58, 8, 168, 561, 8308, 8220, 54, 204, 562, 99, 97, 110, 110, 111, 116, 82, 101, 116, 117, 114, 110, 58, 8, 168, 563, 8338, 8328, 4, 168, 564, 8338, 50, 186, 565, 1, 0, 0, 7, 0, 0, 14, 0, 1, 20, 0, 0, 4, 168, 566, 8388, 28, 258, 567, 8308, 3, 3, 173, 8380, 8418, 240, 8, 168, 568, 8426, 8298, 0, 168, 569, 26, 186, 570, 1, 0, 0, 20, 0, 0, 4, 168, 571, 8462, 28, 258, 572, 8338, 3, 3, 149, 8456, 8480, 240, 8, 168, 573, 8488, 8446, 0, 168, 574, 26, 186, 575, 8, 0, 0, 20, 0, 0, 4, 168, 576, 8524, 28, 258, 577, 1020, 1, 1, 1, 8518, 8542, 276, 8, 168, 578, 8550, 0, 0, 168, 579, 26, 186, 580, 8, 1, 0, 20, 0, 0, 4, 168, 581, 8586, 28, 258, 582, 1052, 1, 1, 1, 8580, 8604, 276, 8, 168, 583, 8612, 8570]
def plF : List Nat := [3, 12, 21, 30, 39, 48, 57, 66, 75, 84, 93, 102, 111, 120, 129, 138, 147, 156, 161, 164, 169, 177, 182, 185, 190, 208, 213, 216, 221, 231, 236, 239, 244, 251, 256, 259, 264, 272, 277, 280, 285, 295, 300, 303, 308, 323, 328, 331, 336, 351, 356, 359, 364, 372, 377, 380, 385, 394, 399, 402, 407, 416, 421, 424, 429, 437, 442, 445, 450, 460, 465, 468, 473, 482, 487, 490, 495, 505, 510, 521, 526, 538, 543, 548, 553, 557, 562, 567, 572, 576, 591, 595, 605, 610, 613, 622, 626, 636, 641, 649, 654, 657, 666, 670, 680, 685, 693, 698, 702, 717, 721, 731, 736, 745, 750, 754, 775, 779, 789, 794, 799, 804, 809, 830, 834, 844, 849, 860, 865, 868, 877, 881, 891, 896, 909, 914, 917, 926, 930, 940, 945, 962, 967, 970, 979, 983, 993, 998, 1008, 1013, 1016, 1025, 1029, 1039, 1044, 1055, 1060, 1063, 1072, 1076, 1086, 1091, 1107, 1112, 1115, 1124, 1128, 1138, 1143, 1150, 1155, 1158, 1167, 1171, 1181, 1186, 1195, 1200, 1203, 1212, 1216, 1226, 1231, 1252, 1257, 1260, 1269, 1273, 1283, 1288, 1304, 1309, 1312, 1321, 1325, 1335, 1340, 1346, 1351, 1354, 1363, 1367, 1377, 1382, 1389, 1394, 1397, 1406, 1410, 1420, 1425, 1432, 1437, 1440, 1449, 1453, 1463, 1468, 1481, 1486, 1489, 1498, 1502, 1512, 1517, 1527, 1532, 1540, 1545, 1549, 1561, 1565, 1575, 1580, 1591, 1596, 1599, 1608, 1612, 1622, 1627, 1645, 1650, 1654, 1666, 1670, 1680, 1685, 1703, 1708, 1712, 1724, 1728, 1738, 1743, 1750, 1755, 1759, 1771, 1775, 1785, 1790, 1796, 1801, 1804, 1813, 1817, 1827, 1832, 1838, 1843, 1846, 1855, 1859, 1869, 1874, 1877, 1886, 1890, 1900, 1905, 1909, 1921, 1925, 1935, 1940, 1944, 1956, 1960, 1970, 1975, 1979, 1991, 1995, 2005, 2010, 2013, 2022, 2026, 2036, 2041, 2045, 2057, 2061, 2071, 2076, 2079, 2088, 2092, 2102, 2107, 2111, 2116, 2125, 2130, 2135, 2150, 2154, 2164, 2169, 2173, 2178, 2183, 2198, 2202, 2212, 2217, 2221, 2226, 2231, 2246, 2250, 2260, 2265, 2270, 2275, 2280, 2295, 2299, 2309, 2314, 2318, 2323, 2328, 2343, 2347, 2357, 2362, 2366, 2371, 2376, 2391, 2395, 2405, 2410, 2413, 2422, 2426, 2436, 2441, 2445, 2450, 2454, 2469, 2473, 2483, 2488, 2493, 2498, 2503, 2521, 2525, 2535, 2540, 2545, 2550, 2555, 2573, 2577, 2587, 2592, 2602, 2607, 2612, 2627, 2631, 2641, 2646, 2652, 2657, 2663, 2705, 2709, 2719, 2724, 2731, 2736, 2740, 2779, 2783, 2793, 2798, 2813, 2818, 2826, 2889, 2893, 2903, 2908, 2917, 2922, 2931, 2936, 2943, 3009, 3013, 3023, 3028, 3034, 3039, 3047, 3052, 3057, 3072, 3076, 3086, 3091, 3101, 3106, 3111, 3126, 3130, 3140, 3145, 3152, 3157, 3160, 3169, 3173, 3183, 3188, 3194, 3199, 3207, 3255, 3259, 3269, 3274, 3279, 3294, 3298, 3308, 3313, 3318, 3333, 3337, 3347, 3352, 3355, 3364, 3368, 3378, 3383, 3387, 3392, 3401, 3406, 3411, 3426, 3430, 3440, 3445, 3448, 3457, 3461, 3471, 3476, 3480, 3495, 3499, 3509, 3514, 3519, 3534, 3538, 3548, 3553, 3558, 3573, 3577, 3587, 3592, 3607, 3612, 3617, 3632, 3636, 3646, 3651, 3664, 3669, 3673, 3709, 3713, 3723, 3728, 3738, 3743, 3747, 3786, 3790, 3800, 3805, 3820, 3825, 3829, 3859, 3863, 3873, 3878, 3887, 3892, 3895, 3904, 3908, 3918, 3923, 3934, 3939, 3942, 3951, 3955, 3965, 3970, 3973, 3982, 3986, 3996, 4001, 4006, 4011, 4014, 4023, 4027, 4037, 4042, 4052, 4057, 4062, 4077, 4081, 4091, 4096, 4110, 4115, 4120, 4135, 4139, 4149, 4154, 4164, 4169, 4185, 4190, 4194, 4209, 4213, 4223, 4228, 4231, 4240, 4244, 4254, 4259, 4262, 4271, 4275, 4285, 4290, 4293, 4302, 4306, 4316]
def syF : List (List Nat × Nat) := [([79, 98, 106, 101, 99, 116], 294), ([67, 108, 97, 115, 115], 338), ([85, 110, 100, 101, 102, 105, 110, 101, 100, 79, 98, 106, 101, 99, 116], 380), ([66, 111, 111, 108, 101, 97, 110], 442), ([84, 114, 117, 101], 488), ([70, 97, 108, 115, 101], 528), ([73, 110, 116, 101, 103, 101, 114], 570), ([83, 109, 97, 108, 108, 73, 110, 116, 101, 103, 101, 114], 616), ([76, 97, 114, 103, 101, 73, 110, 116, 101, 103, 101, 114], 672), ([65, 114, 114, 97, 121], 728), ([83, 116, 114, 105, 110, 103], 770), ([83, 121, 109, 98, 111, 108], 814), ([66, 108, 111, 99, 107], 858), ([67, 111, 110, 116, 101, 120, 116], 900), ([77, 101, 116, 104, 111, 100], 946), ([77, 101, 115, 115, 97, 103, 101], 990), ([115, 101, 108, 101, 99, 116, 111, 114], 1020), ([97, 114, 103, 117, 109, 101, 110, 116, 115], 1052), ([61], 1106), ([61, 61], 1124), ([99, 108, 97, 115, 115], 1282), ([105, 115, 78, 105, 108], 1370), ([110, 111, 116, 78, 105, 108], 1472), ([126, 61], 1588), ([121, 111, 117, 114, 115, 101, 108, 102], 1698), ([105, 110, 115, 116, 86, 97, 114, 65, 116, 58], 1792), ([105, 110, 115, 116, 86, 97, 114, 65, 116, 58, 112, 117, 116, 58], 1890), ([98, 101, 99, 111, 109, 101, 58], 1996), ([112, 101, 114, 102, 111, 114, 109, 58], 2088), ([112, 101, 114, 102, 111, 114, 109, 58, 119, 105, 116, 104, 58], 2182), ([115, 104, 111, 119], 2286), ([101, 114, 114, 111, 114, 58], 2372), ([100, 111, 101, 115, 78, 111, 116, 85, 110, 100, 101, 114, 115, 116, 97, 110, 100, 58], 2462), ([109, 117, 115, 116, 66, 101, 66, 111, 111, 108, 101, 97, 110], 2576), ([110, 101, 119], 2680), ([110, 101, 119, 58], 2764), ([110, 97, 109, 101], 2850), ([115, 117, 112, 101, 114, 99, 108, 97, 115, 115], 2936), ([105, 102, 84, 114, 117, 101, 58], 3034), ([118, 97, 108, 117, 101], 3064), ([105, 102, 70, 97, 108, 115, 101, 58], 3160), ([105, 102, 84, 114, 117, 101, 58, 105, 102, 70, 97, 108, 115, 101, 58], 3254), ([105, 102, 70, 97, 108, 115, 101, 58, 105, 102, 84, 114, 117, 101, 58], 3370), ([97, 110, 100, 58], 3486), ([111, 114, 58], 3580), ([110, 111, 116], 3664), ([43], 4214), ([110, 117, 109, 98, 101, 114], 4232), ([45], 4338), ([42], 4434), ([47, 47], 4530), ([37], 4628), ([60], 4724), ([62], 4882), ([60, 61], 4976), ([62, 61], 5080), ([110, 101, 103, 97, 116, 101, 100], 5184), ([97, 98, 115], 5292), ([109, 97, 120, 58], 5448), ([116, 105, 109, 101, 115, 82, 101, 112, 101, 97, 116, 58], 5596), ([116, 111, 58, 100, 111, 58], 5816), ([118, 97, 108, 117, 101, 58], 5844), ([97, 116, 58], 6056), ([105, 110, 100, 101, 120], 6078), ([97, 116, 58, 112, 117, 116, 58], 6182), ([115, 105, 122, 101], 6290), ([100, 111, 58], 6376), ([44], 6766), ([115, 116, 114, 105, 110, 103], 6784), ([118, 97, 108, 117, 101, 58, 118, 97, 108, 117, 101, 58], 7184), ([119, 104, 105, 108, 101, 84, 114, 117, 101, 58], 7302), ([101, 110, 115, 117, 114, 101, 58], 7456), ([105, 102, 67, 117, 114, 116, 97, 105, 108, 101, 100, 58], 7610), ([115, 101, 110, 100, 101, 114], 7756), ([114, 101, 99, 101, 105, 118, 101, 114], 7846), ([112, 99], 8002), ([116, 101, 109, 112, 65, 116, 58], 8084), ([116, 101, 109, 112, 65, 116, 58, 112, 117, 116, 58], 8192), ([114, 101, 116, 117, 114, 110, 58], 8308), ([99, 97, 110, 110, 111, 116, 82, 101, 116, 117, 114, 110, 58], 8338)]
def clF : List (List Nat × Nat) := [([79, 98, 106, 101, 99, 116], 6), ([67, 108, 97, 115, 115], 24), ([85, 110, 100, 101, 102, 105, 110, 101, 100, 79, 98, 106, 101, 99, 116], 42), ([66, 111, 111, 108, 101, 97, 110], 60), ([84, 114, 117, 101], 78), ([70, 97, 108, 115, 101], 96), ([73, 110, 116, 101, 103, 101, 114], 114), ([83, 109, 97, 108, 108, 73, 110, 116, 101, 103, 101, 114], 132), ([76, 97, 114, 103, 101, 73, 110, 116, 101, 103, 101, 114], 150), ([65, 114, 114, 97, 121], 168), ([83, 116, 114, 105, 110, 103], 186), ([83, 121, 109, 98, 111, 108], 204), ([66, 108, 111, 99, 107], 222), ([67, 111, 110, 116, 101, 120, 116], 240), ([77, 101, 116, 104, 111, 100], 258), ([77, 101, 115, 115, 97, 103, 101], 276)]
def bJl (l : List (List Nat × Nat)) : Nat → List (List Nat × Nat) := List.rec (motive := fun _ => Nat → List (List Nat × Nat)) (fun _ => []) (fun x _ ih n => bif Nat.beq n 0 then [] else x :: ih (Nat.sub n 1)) l
def eGd (l : List (List Nat × List Nat)) : Nat → List (Pos × Ob) := List.rec (motive := fun _ => Nat → List (Pos × Ob)) (fun _ => []) (fun x _ ih p => (bD p, .row .ex [.s x.1, .s x.2]) :: ih (Nat.add p 1)) l
def eAz (l : List (List Nat × List Nat)) : Nat → List (List Nat × List Nat) := List.rec (motive := fun _ => Nat → List (List Nat × List Nat)) (fun _ => []) (fun x l ih n => bif Nat.beq n 0 then x :: l else ih (Nat.sub n 1)) l
def nW (N fin made ns : Nat) (roots : List Nat) (pt : List (Nat × Nat)) (k : Nat) : List (Pos × Ob) :=
 (bD 7, .row .ex [.p (bD 3) 0, .l (bD 4) 0 18 18, .m (bD 5), .m (bD 6)]) ::
 (bD 6, .mp (bLp clF)) :: (bD 5, .mp (bLp (bJl syF ns))) :: (bD 4, .row .ex (eJj roots)) ::
 (bD 3, .row .ex [.l (bD 1) 0 N N, .i .i64 (.ofNat fin), .i .i64 (.ofNat made), .m (bD 2)]) ::
 (bD 2, .mi (mkP (zO plF made) .e)) :: (bD 1, .big N (cHn pt (mkW (zO wsF fin) 0 .e))) ::
 (bD 431, .row .ex (eJp eBl 356)) :: eGd (eAz eBl k) (Nat.add 356 k)
def dWd (l : List (Pos × Ob)) : Tr Ob := List.rec (motive := fun _ => Tr Ob) .e (fun x _ ih => Tr.set x.2 x.1 ih) l
def jD (nx : Nat) (l : List (Pos × Ob)) : Hp := ⟨bD nx, dWd l⟩
def fS (x y : Int) : Bool := match x, y with
 | .ofNat a, .ofNat b => Nat.beq a b
 | .negSucc a, .negSucc b => Nat.beq a b
 | _, _ => false
def wtE (t : WT) : WT → Bool := WT.rec (motive := fun _ => WT → Bool) (fun u => WT.rec (motive := fun _ => Bool) true (fun _ _ _ _ _ => false) u)
 (fun _ v _ ihl ihr u => WT.rec (motive := fun _ => Bool) false (fun l' v' r' _ _ => fS v v' && (ihl l' && ihr r')) u) t
def dvE (x y : DV) : Bool := match x, y with
 | .i .i64 a, .i .i64 b => fS a b
 | .s a, .s b => eqD a b
 | .p a o, .p b q => nC a b && Nat.beq o q
 | .l a o n c, .l b q m d => nC a b && (Nat.beq o q && (Nat.beq n m && Nat.beq c d))
 | .m a, .m b => nC a b
 | .b a, .b b => a == b
 | .l0, .l0 => true
 | .p0, .p0 => true
 | .m0, .m0 => true
 | _, _ => false
def cWd (l : List DV) : List DV → Bool := List.rec (motive := fun _ => List DV → Bool) (fun m => List.rec (motive := fun _ => Bool) true (fun _ _ _ => false) m)
 (fun x _ ih m => List.rec (motive := fun _ => Bool) false (fun y m _ => dvE x y && ih m) m) l
def dJv (l : List (DV × DV)) : List (DV × DV) → Bool := List.rec (motive := fun _ => List (DV × DV) → Bool) (fun m => List.rec (motive := fun _ => Bool) true (fun _ _ _ => false) m)
 (fun x _ ih m => List.rec (motive := fun _ => Bool) false (fun y m _ => dvE x.1 y.1 && (dvE x.2 y.2 && ih m)) m) l
def obE (o p : Ob) : Bool := match o, p with
 | .row .ex l, .row .ex m => cWd l m
 | .mp l, .mp m => dJv l m
 | .big n t, .big m u => Nat.beq n m && wtE t u
 | .mi t, .mi u => wtE t u
 | _, _ => false
def cKq (g : Tr Ob) (l : List (Pos × Ob)) : Bool := List.rec (motive := fun _ => Bool) true (fun x _ ih => (match g.get x.1 with
 | some o => obE o x.2
 | none => false) && ih) l
def mK (r : aK) (vs : List DV) (nx : Nat) (l : List (Pos × Ob)) : Bool := match r with
 | some (.t us, g) => cWd us vs && (nC g.next (bD nx) && cKq g.bl l)
 | _ => false
def itN (n : Nat) (K : DV → DV → DV → DV → Hp → aK) : DV → DV → DV → DV → Hp → aK :=
 Nat.rec (motive := fun _ => DV → DV → DV → DV → Hp → aK) K (fun _ ih => oL (fW 899) 899 ih) n
def cAv : DV → DV → DV → DV → Hp → aK := fun a b c d h => some (.t [a, b, c, d], h)
def lF (k : Nat) : List DV := [.p (bD 7) 0, .l (bD 431) 0 75 75, .i .i64 (.ofNat 75), .i .i64 (.ofNat k)]
def oG (k n : Nat) (h : Hp) : aK := itN n cAv (.p (bD 7) 0) (.l (bD 431) 0 75 75) (.i .i64 (.ofNat 75)) (.i .i64 (.ofNat k)) h
end
end Go.Dd

