/- A part of the proof: Q2 Q3 Q4 Q5 Q6 Q7 Q8 Q9: each text has a comment of its own. -/
import Derived.Test.YtkdndgecldkiiaaGreatPl1
set_option linter.unusedVariables false
set_option linter.unusedSimpArgs false
set_option linter.constructorNameAsVariable false
set_option maxRecDepth 100000
namespace Go.Dd
open Go.Proofs
variable (r : RT) (n : Nat) (args : List DV) (h : Hp)
noncomputable def s33 (r : RT) (n : Nat) (h0 : Hp) : aK :=
 bnd (aT [(.s []), (aC 0), (aC 0)] [(0, 1, (.s [79, 98, 106, 101, 99, 116])), (1, 1, (.i .i64 (Int.negSucc 0))), (2, 1, (aC 0))] h0) fun v1 h1 =>
 bnd (aT [(.s []), (aC 0), (aC 0)] [(0, 1, (.s [67, 108, 97, 115, 115])), (1, 1, (aC 0)), (2, 1, (aC 3))] h1) fun v2 h2 =>
 bnd (aT [(.s []), (aC 0), (aC 0)] [(0, 1, (.s [85, 110, 100, 101, 102, 105, 110, 101, 100, 79, 98, 106, 101, 99, 116])), (1, 1, (aC 0)), (2, 1, (aC 3))] h2) fun v3 h3 =>
 bnd (aT [(.s []), (aC 0), (aC 0)] [(0, 1, (.s [66, 111, 111, 108, 101, 97, 110])), (1, 1, (aC 0)), (2, 1, (aC 3))] h3) fun v4 h4 =>
 bnd (aT [(.s []), (aC 0), (aC 0)] [(0, 1, (.s [84, 114, 117, 101])), (1, 1, (aC 3)), (2, 1, (aC 3))] h4) fun v5 h5 =>
 bnd (aT [(.s []), (aC 0), (aC 0)] [(0, 1, (.s [70, 97, 108, 115, 101])), (1, 1, (aC 3)), (2, 1, (aC 3))] h5) fun v6 h6 =>
 bnd (aT [(.s []), (aC 0), (aC 0)] [(0, 1, (.s [73, 110, 116, 101, 103, 101, 114])), (1, 1, (aC 0)), (2, 1, (aC 3))] h6) fun v7 h7 =>
 bnd (aT [(.s []), (aC 0), (aC 0)] [(0, 1, (.s [83, 109, 97, 108, 108, 73, 110, 116, 101, 103, 101, 114])), (1, 1, (aC 6)), (2, 1, (aC 3))] h7) fun v8 h8 =>
 bnd (aT [(.s []), (aC 0), (aC 0)] [(0, 1, (.s [76, 97, 114, 103, 101, 73, 110, 116, 101, 103, 101, 114])), (1, 1, (aC 6)), (2, 1, (aC 3))] h8) fun v9 h9 =>
 bnd (aT [(.s []), (aC 0), (aC 0)] [(0, 1, (.s [65, 114, 114, 97, 121])), (1, 1, (aC 0)), (2, 1, (aC 1))] h9) fun v10 h10 =>
 bnd (aT [(.s []), (aC 0), (aC 0)] [(0, 1, (.s [83, 116, 114, 105, 110, 103])), (1, 1, (aC 0)), (2, 1, (aC 2))] h10) fun v11 h11 =>
 bnd (aT [(.s []), (aC 0), (aC 0)] [(0, 1, (.s [83, 121, 109, 98, 111, 108])), (1, 1, (aC 10)), (2, 1, (aC 2))] h11) fun v12 h12 =>
 bnd (aT [(.s []), (aC 0), (aC 0)] [(0, 1, (.s [66, 108, 111, 99, 107])), (1, 1, (aC 0)), (2, 1, (aC 3))] h12) fun v13 h13 =>
 bnd (aT [(.s []), (aC 0), (aC 0)] [(0, 1, (.s [67, 111, 110, 116, 101, 120, 116])), (1, 1, (aC 0)), (2, 1, (aC 3))] h13) fun v14 h14 =>
 bnd (aT [(.s []), (aC 0), (aC 0)] [(0, 1, (.s [77, 101, 116, 104, 111, 100])), (1, 1, (aC 0)), (2, 1, (aC 3))] h14) fun v15 h15 =>
 bnd (aT [(.s []), (aC 0), (aC 0)] [(0, 1, (.s [77, 101, 115, 115, 97, 103, 101])), (1, 1, (aC 0)), (2, 1, (aC 0))] h15) fun v16 h16 =>
 bnd (aN [(.s []), (aC 0), (aC 0), (.s []), (aC 0), (aC 0), (.s []), (aC 0), (aC 0), (.s []), (aC 0), (aC 0), (.s []), (aC 0), (aC 0), (.s []), (aC 0), (aC 0), (.s []), (aC 0), (aC 0), (.s []), (aC 0), (aC 0), (.s []), (aC 0), (aC 0), (.s []), (aC 0), (aC 0), (.s []), (aC 0), (aC 0), (.s []), (aC 0), (aC 0), (.s []), (aC 0), (aC 0), (.s []), (aC 0), (aC 0), (.s []), (aC 0), (aC 0), (.s []), (aC 0), (aC 0)] 16 [(0, 3, v1), (3, 3, v2), (6, 3, v3), (9, 3, v4), (12, 3, v5), (15, 3, v6), (18, 3, v7), (21, 3, v8), (24, 3, v9), (27, 3, v10), (30, 3, v11), (33, 3, v12), (36, 3, v13), (39, 3, v14), (42, 3, v15), (45, 3, v16)] h16) fun v17 h17 =>
 some (v17, h17)
noncomputable abbrev c33 : Code := cf Tryz.f33
noncomputable abbrev r33 : K := aR CF Tryz.f33
noncomputable def D33 (r : RT) (n : Nat) (c : Code) (X : Nat → K) (k : K) : K := aM CF r 18 n c X r33 k
theorem eJz : D33 r n c33 x0 r33 = (K0 (s33 r n)) :=
 (by kernel_rfl)
theorem eFv : aE CF r n 33 args h = s33 r n h :=
 (by kernel_rfl : aE CF r n 33 args h = D33 r n c33 x0 r33 (aJ args) h).trans ((congrFun (congrFun (eJz r n) (aJ args)) h).trans (by kernel_rfl))
noncomputable def s34 (r : RT) (n : Nat) (x0 x1 : DV) (h0 : Hp) : aK :=
 bnd (aF .lss x1 (aC 0) h0) fun v1 h1 =>
 bnd (gD v1 false (some (x1, h1)) h1) fun v2 h2 =>
 bnd (gD v1 false (aF .geq v2 (aC 16) h2) h2) fun v3 h3 =>
 bnd (aQ v1 (.b true) v3 h3) fun v4 h4 =>
 aU v4 (
 some ((aC 0), h4)) (
 bnd (aO x0 h4) fun v5 h5 =>
 bnd (aB 1 v5 h5) fun v6 h6 =>
 bnd (aA v6 h6) fun v7 h7 =>
 bnd (aF .add (aC 2) x1 h7) fun v8 h8 =>
 bnd (aI 1 v7 v8 h8) fun v9 h9 =>
 bnd (aA v9 h9) fun v10 h10 =>
 some (v10, h10))
noncomputable abbrev c34 : Code := cf Tryz.f34
noncomputable abbrev r34 : K := aR CF Tryz.f34
noncomputable def D34 (r : RT) (n : Nat) (c : Code) (X : Nat → K) (k : K) : K := aM CF r 19 n c X r34 k
theorem eJg : D34 r n c34 x0 r34 = (K2 (s34 r n) 0 1) :=
 (by kernel_rfl)
theorem eAr : aE CF r n 34 args h = s34 r n (aP args 0) (aP args 1) h :=
 (by kernel_rfl : aE CF r n 34 args h = D34 r n c34 x0 r34 (aJ args) h).trans ((congrFun (congrFun (eJg r n) (aJ args)) h).trans (by kernel_rfl))
noncomputable def s36 (r : RT) (n : Nat) (x0 x1 : DV) (h0 : Hp) : aK :=
 bnd (bM x0 h0) fun v1 h1 =>
 bnd (bK x1 h1) fun v2 h2 =>
 bnd (aF .gtr v2 (aC 250) h2) fun v3 h3 =>
 bnd (gD v3 false (some (x1, h3)) h3) fun v4 h4 =>
 bnd (gD v3 false (some ((.f 86 [] [v1]), h4)) h4) fun v5 h5 =>
 bnd (gD v3 false (r 77 [v4, v5] h5) h5) fun v6 h6 =>
 bnd (aQ v3 (.b true) v6 h6) fun v7 h7 =>
 aU v7 (
 some (.t [(aC 0), (aC 1)], h7)) (
 bnd (aA v1 h7) fun v8 h8 =>
 bnd (aA v1 h8) fun v9 h9 =>
 bnd (r 34 [v9, (aC 9)] h9) fun v10 h10 =>
 cnd (aW (aA v1 h10) v8 && true) (
 bnd (r 87 [v8, v10, (aC 0), x1] h10) fun v11 h11 =>
 bnd (aG 0 v11 h11) fun v12 h12 =>
 bnd (aG 1 v11 h12) fun v13 h13 =>
 some (.t [v12, v13], h13)))
noncomputable abbrev c36 : Code := cf Tryz.f36
noncomputable abbrev r36 : K := aR CF Tryz.f36
noncomputable def D36 (r : RT) (n : Nat) (c : Code) (X : Nat → K) (k : K) : K := aM CF r 21 n c X r36 k
theorem eLs : D36 r n c36 x0 r36 = (K2 (s36 r n) 0 1) :=
 (by kernel_rfl)
theorem eGn : aE CF r n 36 args h = s36 r n (aP args 0) (aP args 1) h :=
 (by kernel_rfl : aE CF r n 36 args h = D36 r n c36 x0 r36 (aJ args) h).trans ((congrFun (congrFun (eLs r n) (aJ args)) h).trans (by kernel_rfl))
noncomputable def s37 (r : RT) (n : Nat) (x0 : DV) (h0 : Hp) : aK :=
 bnd (lY [x0] h0) fun v1 h1 =>
 bnd (aG 0 v1 h1) fun v2 h2 =>
 bnd (aG 1 v1 h2) fun v3 h3 =>
 some (v2, h3)
noncomputable abbrev c37 : Code := cf Tryz.f37
noncomputable abbrev r37 : K := aR CF Tryz.f37
noncomputable def D37 (r : RT) (n : Nat) (c : Code) (X : Nat → K) (k : K) : K := aM CF r 11 n c X r37 k
theorem eMz : D37 r n c37 x0 r37 = (K1 (s37 r n) 0) :=
 (by kernel_rfl)
theorem eIl : aE CF r n 37 args h = s37 r n (aP args 0) h :=
 (by kernel_rfl : aE CF r n 37 args h = D37 r n c37 x0 r37 (aJ args) h).trans ((congrFun (congrFun (eMz r n) (aJ args)) h).trans (by kernel_rfl))
noncomputable def s39 (r : RT) (n : Nat) (x0 x1 x2 : DV) (h0 : Hp) : aK :=
 bnd (r 34 [x0, (aC 9)] h0) fun v1 h1 =>
 bnd (aN [(aC 0), (aC 0)] 2 [(0, 1, x1), (1, 1, x2)] h1) fun v2 h2 =>
 bnd (r 87 [x0, v1, (aC 0), v2] h2) fun v3 h3 =>
 bnd (aG 0 v3 h3) fun v4 h4 =>
 bnd (aG 1 v3 h4) fun v5 h5 =>
 some (.t [v4, v5], h5)
noncomputable abbrev c39 : Code := cf Tryz.f39
noncomputable abbrev r39 : K := aR CF Tryz.f39
noncomputable def D39 (r : RT) (n : Nat) (c : Code) (X : Nat → K) (k : K) : K := aM CF r 17 n c X r39 k
theorem eOk : D39 r n c39 x0 r39 = (K3 (s39 r n) 0 1 2) :=
 (by kernel_rfl)
theorem dYx : aE CF r n 39 args h = s39 r n (aP args 0) (aP args 1) (aP args 2) h :=
 (by kernel_rfl : aE CF r n 39 args h = D39 r n c39 x0 r39 (aJ args) h).trans ((congrFun (congrFun (eOk r n) (aJ args)) h).trans (by kernel_rfl))
noncomputable def s41 (r : RT) (n : Nat) (x0 x1 x2 : DV) (h0 : Hp) : aK :=
 bnd (r 11 [x0, x1] h0) fun v1 h1 =>
 bnd (aF .eql v1 (aC 0) h1) fun v2 h2 =>
 aU v2 (
 some (.t [(aC 0), (aC 0), (.s []), (aC 24)], h2)) (
 bnd (r 91 [x2] h2) fun v3 h3 =>
 bnd (aG 0 v3 h3) fun v4 h4 =>
 bnd (aG 1 v3 h4) fun v5 h5 =>
 bnd (aG 2 v3 h5) fun v6 h6 =>
 bnd (bA cQ h6) fun v7 h7 =>
 bnd (aD 6 v7 v4 h7) fun _ h8 =>
 bnd (aF .neq v6 (aC 0) h8) fun v9 h9 =>
 aU v9 (
 some (.t [(aC 0), v5, (.s []), v6], h9)) (
 bnd (aH 6 v7 (resv 1 h9)) fun v10 h10 =>
 bnd (r 58 [x0, v1] h10) fun v11 h11 =>
 cnd (aW (aH 6 v7 h11) v10 && true) (
 bnd (r 92 [v10, v11] h11) fun v12 h12 =>
 bnd (aG 0 v12 h12) fun v13 h13 =>
 bnd (aG 1 v12 h13) fun v14 h14 =>
 bnd (aG 2 v12 h14) fun v15 h15 =>
 bnd (iX (bD 0 h9.next) [(.s []), (aC 0), (aC 0), (aC 0), .l0, .l0] h15) fun v16 h16 =>
 bnd (aD 6 v16 v13 h16) fun v17 h17 =>
 bnd (aF .neq v15 (aC 0) h17) fun v18 h18 =>
 aU v18 (
 some (.t [(aC 0), (aC 0), v14, v15], h18)) (
 bnd (aH 6 v16 h18) fun v19 h19 =>
 bnd (r 93 [x0, v1, v19] h19) fun v20 h20 =>
 bnd (aG 0 v20 h20) fun v21 h21 =>
 bnd (aG 1 v20 h21) fun v22 h22 =>
 bnd (aF .neq v22 (aC 0) h22) fun v23 h23 =>
 aU v23 (
 some (.t [(aC 0), (aC 0), (.s []), v22], h23)) (
 some (.t [v21, (aC 0), (.s []), (aC 0)], h23))))))
noncomputable abbrev c41 : Code := cf Tryz.f41
noncomputable abbrev r41 : K := aR CF Tryz.f41
noncomputable def D41 (r : RT) (n : Nat) (c : Code) (X : Nat → K) (k : K) : K := aM CF r 56 n c X r41 k
theorem eOg : D41 r n c41 x0 r41 = (K3 (s41 r n) 0 1 2) :=
 (by kernel_rfl)
theorem eCi : aE CF r n 41 args h = s41 r n (aP args 0) (aP args 1) (aP args 2) h :=
 (by kernel_rfl : aE CF r n 41 args h = D41 r n c41 x0 r41 (aJ args) h).trans ((congrFun (congrFun (eOg r n) (aJ args)) h).trans (by kernel_rfl))
noncomputable def gH (r : RT) (n : Nat) (x0 x1 x8 : DV) (h0 : Hp) : aK :=
 bnd (r 87 [x0, x1, (aC 2), x8] h0) fun v1 h1 =>
 bnd (aG 0 v1 h1) fun v2 h2 =>
 bnd (aG 1 v1 h2) fun v3 h3 =>
 some (.t [v2, v3], h3)
noncomputable def aTe (r : RT) (n : Nat) (kk5 : dA) (x0 x1 x2 x8 x11 x12 : DV) (h0 : Hp) : aK :=
 bnd (aF .lss x12 x11 h0) fun v1 h1 =>
 aU v1 (
 bnd (fE x2 x12 h1) fun v2 h2 =>
 bnd (eM .i64 v2 h2) fun v3 h3 =>
 bnd (aN [(aC 0)] 1 [(0, 1, v3)] h3) fun v4 h4 =>
 bnd (aX 1 8 x8 v4 h4) fun v5 h5 =>
 bnd (aF .add x12 (aC 1) h5) fun v6 h6 =>
      kk5 x0 x1 x2 v5 x11 v6 h6) (
      gH r n x0 x1 x8 h1)
noncomputable def aEf (r : RT) (n : Nat) (m : Nat) : dA :=
 Nat.rec (motive := fun _ => dA) (fun _ _ _ _ _ _ _ => none) (fun _ ih => aTe r n ih) m
noncomputable def dHe (r : RT) (n : Nat) : dA := aEf r n n
noncomputable def cIn (r : RT) (n : Nat) (x0 x1 x2 x8 x11 x12 : DV) (h0 : Hp) : aK :=
 dHe r n x0 x1 x2 x8 x11 x12 h0
noncomputable def cCe (r : RT) (n : Nat) (x0 x1 x2 x8 : DV) (h0 : Hp) : aK :=
 bnd (gA x2 h0) fun v1 h1 =>
  cIn r n x0 x1 x2 x8 v1 (aC 0) h1
noncomputable def bQy (r : RT) (n : Nat) (x0 x1 x2 : DV) (h0 : Hp) : aK :=
 cCe r n x0 x1 x2 .l0 h0
noncomputable def s43 (r : RT) (n : Nat) (x0 x1 x2 : DV) (h0 : Hp) : aK :=
 bQy r n x0 x1 x2 h0
noncomputable abbrev c43 : Code := cf Tryz.f43
noncomputable abbrev bFc : Code := cR c43
noncomputable abbrev bHa : Code := cR bFc
noncomputable abbrev eFu : Code := cR bHa
noncomputable abbrev aRi : Code := cL bHa
noncomputable abbrev cJt : Code := cR aRi
noncomputable abbrev bEi : Code := cL cJt
noncomputable abbrev sP : Code := cL bEi
noncomputable abbrev dHq : Code := cL aRi
noncomputable abbrev dHs : Code := cL bFc
noncomputable abbrev cEl : Code := cL c43
noncomputable abbrev r43 : K := aR CF Tryz.f43
noncomputable def D43 (r : RT) (n : Nat) (c : Code) (X : Nat → K) (k : K) : K := aM CF r 29 n c X r43 k
theorem dRh : D43 r n eFu x0 r43 = (K3 (gH r n) 0 1 8) :=
 (by kernel_rfl)
theorem cTt (kk5 : dA) (q0 : dH) : D43 r n sP (xs x0 0 (K3 q0 0 1 8)) (K6 kk5 0 1 2 8 11 12) = fun (env : aV) (h : Hp) =>
 bnd (aF .lss (env 12) (env 11) h) fun v1 h1 =>
 aU v1 (
 bnd (fE (env 2) (env 12) h1) fun v2 h2 =>
 bnd (eM .i64 v2 h2) fun v3 h3 =>
 bnd (aN [(aC 0)] 1 [(0, 1, v3)] h3) fun v4 h4 =>
 bnd (aX 1 8 (env 8) v4 h4) fun v5 h5 =>
 bnd (aF .add (env 12) (aC 1) h5) fun v6 h6 =>
      kk5 (env 0) (env 1) (env 2) v5 (env 11) v6 h6) (
      q0 (env 0) (env 1) (env 8) h1) := by kernel_rfl
theorem cCs (kk5 : dA) : (fun (env : aV) (h : Hp) =>
 bnd (aF .lss (env 12) (env 11) h) fun v1 h1 =>
 aU v1 (
 bnd (fE (env 2) (env 12) h1) fun v2 h2 =>
 bnd (eM .i64 v2 h2) fun v3 h3 =>
 bnd (aN [(aC 0)] 1 [(0, 1, v3)] h3) fun v4 h4 =>
 bnd (aX 1 8 (env 8) v4 h4) fun v5 h5 =>
 bnd (aF .add (env 12) (aC 1) h5) fun v6 h6 =>
      kk5 (env 0) (env 1) (env 2) v5 (env 11) v6 h6) (
      gH r n (env 0) (env 1) (env 8) h1)) = (K6 (aTe r n kk5) 0 1 2 8 11 12) := by kernel_rfl
theorem cZg (kk5 : dA) : D43 r n sP (xs x0 0 (K3 (gH r n) 0 1 8)) (K6 kk5 0 1 2 8 11 12) = (K6 (aTe r n kk5) 0 1 2 8 11 12) :=
 (cTt r n kk5 (gH r n)).trans (cCs r n kk5)
theorem dBz (m : Nat) : aL (fun kk => D43 r n sP (xs x0 0 (K3 (gH r n) 0 1 8)) kk) m = (K6 (aEf r n m) 0 1 2 8 11 12) := by
 induction m with
 | zero => exact (by kernel_rfl : aL (fun kk => D43 r n sP (xs x0 0 (K3 (gH r n) 0 1 8)) kk) 0 = (K6 (aEf r n 0) 0 1 2 8 11 12))
 | succ m ih =>
  refine (by kernel_rfl : aL (fun kk => D43 r n sP (xs x0 0 (K3 (gH r n) 0 1 8)) kk) (m + 1) = D43 r n sP (xs x0 0 (K3 (gH r n) 0 1 8)) (aL (fun kk => D43 r n sP (xs x0 0 (K3 (gH r n) 0 1 8)) kk) m)).trans ?_
  rw [ih]
  exact (cZg r n (aEf r n m)).trans (by kernel_rfl)
theorem dXc : D43 r n bEi (xs x0 0 (K3 (gH r n) 0 1 8)) (K3 (gH r n) 0 1 8) = (K6 (dHe r n) 0 1 2 8 11 12) :=
 (by kernel_rfl : D43 r n bEi (xs x0 0 (K3 (gH r n) 0 1 8)) (K3 (gH r n) 0 1 8) = aL (fun kk => D43 r n sP (xs x0 0 (K3 (gH r n) 0 1 8)) kk) n).trans ((dBz r n n).trans (by kernel_rfl))
theorem dXd : D43 r n cJt x0 (K3 (gH r n) 0 1 8) = (K6 (cIn r n) 0 1 2 8 11 12) :=
 (by kernel_rfl : D43 r n cJt x0 (K3 (gH r n) 0 1 8) = D43 r n bEi (xs x0 0 (K3 (gH r n) 0 1 8)) (K3 (gH r n) 0 1 8)).trans
 ((dXc r n).trans (by kernel_rfl))
theorem dDu : D43 r n bHa x0 r43 = D43 r n aRi x0 (K3 (gH r n) 0 1 8) :=
 congrArg (fun k => D43 r n aRi x0 k) (dRh r n)
theorem cWj : D43 r n aRi x0 (K3 (gH r n) 0 1 8) = D43 r n dHq x0 (K6 (cIn r n) 0 1 2 8 11 12) :=
 congrArg (fun k => D43 r n dHq x0 k) (dXd r n)
theorem dNu : D43 r n bHa x0 r43 = (K4 (cCe r n) 0 1 2 8) :=
 (dDu r n).trans
 ((cWj r n).trans
 ((by kernel_rfl)))
theorem cRn : D43 r n bFc x0 r43 = D43 r n dHs x0 (K4 (cCe r n) 0 1 2 8) :=
 congrArg (fun k => D43 r n dHs x0 k) (dNu r n)
theorem dIt : D43 r n bFc x0 r43 = (K3 (bQy r n) 0 1 2) :=
 (cRn r n).trans
 ((by kernel_rfl))
theorem eIb : D43 r n c43 x0 r43 = D43 r n cEl x0 (K3 (bQy r n) 0 1 2) :=
 congrArg (fun k => D43 r n cEl x0 k) (dIt r n)
theorem eNy : D43 r n c43 x0 r43 = (K3 (s43 r n) 0 1 2) :=
 (eIb r n).trans
 ((by kernel_rfl))
theorem eGd : aE CF r n 43 args h = s43 r n (aP args 0) (aP args 1) (aP args 2) h :=
 (by kernel_rfl : aE CF r n 43 args h = D43 r n c43 x0 r43 (aJ args) h).trans ((congrFun (congrFun (eNy r n) (aJ args)) h).trans (by kernel_rfl))
noncomputable def s44 (r : RT) (n : Nat) (x0 : DV) (h0 : Hp) : aK :=
 bnd (aT [.p0, .l0] [(0, 1, x0)] h0) fun v1 h1 =>
 bnd (bM v1 h1) fun v2 h2 =>
 some (v2, h2)
noncomputable abbrev c44 : Code := cf Tryz.f44
noncomputable abbrev r44 : K := aR CF Tryz.f44
noncomputable def D44 (r : RT) (n : Nat) (c : Code) (X : Nat → K) (k : K) : K := aM CF r 6 n c X r44 k
theorem eMj : D44 r n c44 x0 r44 = (K1 (s44 r n) 0) :=
 (by kernel_rfl)
theorem eEo : aE CF r n 44 args h = s44 r n (aP args 0) h :=
 (by kernel_rfl : aE CF r n 44 args h = D44 r n c44 x0 r44 (aJ args) h).trans ((congrFun (congrFun (eMj r n) (aJ args)) h).trans (by kernel_rfl))
noncomputable def gG (r : RT) (n : Nat) (x0 x1 : DV) (h0 : Hp) : aK :=
 bnd (aO x0 h0) fun v1 h1 =>
 bnd (aB 7 v1 h1) fun v2 h2 =>
 bnd (aB 2 v2 h2) fun v3 h3 =>
 bnd (cK CF r x1 [v3] h3) fun v4 h4 =>
 some (.t [], h4)
noncomputable def sG (r : RT) (n : Nat) (kk8 : dB) (x0 x1 x47 x48 : DV) (h0 : Hp) : aK :=
 bnd (aF .lss x48 x47 h0) fun v1 h1 =>
 aU v1 (
 bnd (aO x0 h1) fun v2 h2 =>
 bnd (aB 6 v2 h2) fun v3 h3 =>
 bnd (aA v3 h3) fun v4 h4 =>
 bnd (aI 1 v4 x48 h4) fun v5 h5 =>
 bnd (cK CF r x1 [v5] h5) fun v6 h6 =>
 bnd (aF .add x48 (.i .i64 (Int.ofNat 1)) h6) fun v7 h7 =>
      kk8 x0 x1 x47 v7 h7) (
      gG r n x0 x1 h1)
noncomputable def nU (r : RT) (n : Nat) (m : Nat) : dB :=
 Nat.rec (motive := fun _ => dB) (fun _ _ _ _ _ => none) (fun _ ih => sG r n ih) m
noncomputable def dHg (r : RT) (n : Nat) : dB := nU r n n
noncomputable def bBl (r : RT) (n : Nat) (x0 x1 x47 x48 : DV) (h0 : Hp) : aK :=
 dHg r n x0 x1 x47 x48 h0
noncomputable def gF (r : RT) (n : Nat) (x0 x1 : DV) (h0 : Hp) : aK :=
 bnd (aO x0 h0) fun v1 h1 =>
 bnd (aB 6 v1 h1) fun v2 h2 =>
 bnd (aA v2 h2) fun v3 h3 =>
 bnd (bK v3 h3) fun v4 h4 =>
  bBl r n x0 x1 v4 (.i .i64 (Int.ofNat 0)) h4
noncomputable def pC (r : RT) (n : Nat) (kk10 : dB) (x0 x1 x30 x31 : DV) (h0 : Hp) : aK :=
 bnd (aF .lss x31 x30 h0) fun v1 h1 =>
 aU v1 (
 bnd (aO x0 h1) fun v2 h2 =>
 bnd (aB 5 v2 h2) fun v3 h3 =>
 bnd (aA v3 h3) fun v4 h4 =>
 bnd (aI 1 v4 x31 h4) fun v5 h5 =>
 bnd (cK CF r x1 [v5] h5) fun v6 h6 =>
 bnd (aF .add x31 (.i .i64 (Int.ofNat 1)) h6) fun v7 h7 =>
      kk10 x0 x1 x30 v7 h7) (
      gF r n x0 x1 h1)
noncomputable def pE (r : RT) (n : Nat) (m : Nat) : dB :=
 Nat.rec (motive := fun _ => dB) (fun _ _ _ _ _ => none) (fun _ ih => pC r n ih) m
noncomputable def cDf (r : RT) (n : Nat) : dB := pE r n n
noncomputable def bEo (r : RT) (n : Nat) (x0 x1 x30 x31 : DV) (h0 : Hp) : aK :=
 cDf r n x0 x1 x30 x31 h0
noncomputable def aPs (r : RT) (n : Nat) (x0 x1 : DV) (h0 : Hp) : aK :=
 bnd (aO x0 h0) fun v1 h1 =>
 bnd (aB 5 v1 h1) fun v2 h2 =>
 bnd (aA v2 h2) fun v3 h3 =>
 bnd (bK v3 h3) fun v4 h4 =>
  bEo r n x0 x1 v4 (.i .i64 (Int.ofNat 0)) h4
noncomputable def aQj (r : RT) (n : Nat) (x0 x1 : DV) (h0 : Hp) : aK :=
 bnd (aO x0 h0) fun v1 h1 =>
 bnd (aB 4 v1 h1) fun v2 h2 =>
 bnd (cK CF r x1 [v2] h2) fun v3 h3 =>
  aPs r n x0 x1 h3
noncomputable def aQf (r : RT) (n : Nat) (x0 x1 : DV) (h0 : Hp) : aK :=
 bnd (aO x0 h0) fun v1 h1 =>
 bnd (aB 2 v1 h1) fun v2 h2 =>
 bnd (cK CF r x1 [v2] h2) fun v3 h3 =>
  aQj r n x0 x1 h3
noncomputable def aRh (r : RT) (n : Nat) (x0 x1 : DV) (h0 : Hp) : aK :=
 bnd (aO x0 h0) fun v1 h1 =>
 bnd (aB 1 v1 h1) fun v2 h2 =>
 bnd (cK CF r x1 [v2] h2) fun v3 h3 =>
  aQf r n x0 x1 h3
noncomputable def s47 (r : RT) (n : Nat) (x0 x1 : DV) (h0 : Hp) : aK :=
 bnd (aO x0 h0) fun v1 h1 =>
 bnd (aB 0 v1 h1) fun v2 h2 =>
 bnd (cK CF r x1 [v2] h2) fun v3 h3 =>
  aRh r n x0 x1 h3
noncomputable abbrev c47 : Code := cf Tryz.f47
noncomputable abbrev bFd : Code := cR c47
noncomputable abbrev bIb : Code := cR bFd
noncomputable abbrev bJc : Code := cR bIb
noncomputable abbrev bHo : Code := cR bJc
noncomputable abbrev bIp : Code := cR bHo
noncomputable abbrev eCs : Code := cR bIp
noncomputable abbrev aQq : Code := cL bIp
noncomputable abbrev cHn : Code := cR aQq
noncomputable abbrev bAn : Code := cL cHn
noncomputable abbrev oY : Code := cL bAn
noncomputable abbrev bUv : Code := cL aQq
noncomputable abbrev yL : Code := cL bHo
noncomputable abbrev aXl : Code := cR yL
noncomputable abbrev aCz : Code := cL aXl
noncomputable abbrev oM : Code := cL aCz
noncomputable abbrev bRc : Code := cL yL
noncomputable abbrev bUz : Code := cL bJc
noncomputable abbrev bQk : Code := cL bIb
noncomputable abbrev bSf : Code := cL bFd
noncomputable abbrev cCp : Code := cL c47
noncomputable abbrev r47 : K := aR CF Tryz.f47
noncomputable def D47 (r : RT) (n : Nat) (c : Code) (X : Nat → K) (k : K) : K := aM CF r 66 n c X r47 k
theorem dPi : D47 r n eCs x0 r47 = (K2 (gG r n) 0 1) :=
 (by kernel_rfl)
theorem cPc (kk8 : dB) : D47 r n oY (xs x0 2 (K2 (gG r n) 0 1)) (K4 kk8 0 1 47 48) = (K4 (sG r n kk8) 0 1 47 48) :=
 (by kernel_rfl)
theorem cOm (m : Nat) : aL (fun kk => D47 r n oY (xs x0 2 (K2 (gG r n) 0 1)) kk) m = (K4 (nU r n m) 0 1 47 48) := by
 induction m with
 | zero => exact (by kernel_rfl : aL (fun kk => D47 r n oY (xs x0 2 (K2 (gG r n) 0 1)) kk) 0 = (K4 (nU r n 0) 0 1 47 48))
 | succ m ih =>
  refine (by kernel_rfl : aL (fun kk => D47 r n oY (xs x0 2 (K2 (gG r n) 0 1)) kk) (m + 1) = D47 r n oY (xs x0 2 (K2 (gG r n) 0 1)) (aL (fun kk => D47 r n oY (xs x0 2 (K2 (gG r n) 0 1)) kk) m)).trans ?_
  rw [ih]
  exact (cPc r n (nU r n m)).trans (by kernel_rfl)
theorem dLq : D47 r n bAn (xs x0 2 (K2 (gG r n) 0 1)) (K2 (gG r n) 0 1) = (K4 (dHg r n) 0 1 47 48) :=
 (by kernel_rfl : D47 r n bAn (xs x0 2 (K2 (gG r n) 0 1)) (K2 (gG r n) 0 1) = aL (fun kk => D47 r n oY (xs x0 2 (K2 (gG r n) 0 1)) kk) n).trans ((cOm r n n).trans (by kernel_rfl))
theorem dIh : D47 r n cHn x0 (K2 (gG r n) 0 1) = (K4 (bBl r n) 0 1 47 48) :=
 (by kernel_rfl : D47 r n cHn x0 (K2 (gG r n) 0 1) = D47 r n bAn (xs x0 2 (K2 (gG r n) 0 1)) (K2 (gG r n) 0 1)).trans
 ((dLq r n).trans (by kernel_rfl))
theorem cZf : D47 r n bIp x0 r47 = D47 r n aQq x0 (K2 (gG r n) 0 1) :=
 congrArg (fun k => D47 r n aQq x0 k) (dPi r n)
theorem cUd : D47 r n aQq x0 (K2 (gG r n) 0 1) = D47 r n bUv x0 (K4 (bBl r n) 0 1 47 48) :=
 congrArg (fun k => D47 r n bUv x0 k) (dIh r n)
theorem dWy : D47 r n bIp x0 r47 = (K2 (gF r n) 0 1) :=
 (cZf r n).trans
 ((cUd r n).trans
 ((by kernel_rfl)))
theorem bPk (kk10 : dB) : D47 r n oM (xs x0 0 (K2 (gF r n) 0 1)) (K4 kk10 0 1 30 31) = (K4 (pC r n kk10) 0 1 30 31) :=
 (by kernel_rfl)
theorem bYc (m : Nat) : aL (fun kk => D47 r n oM (xs x0 0 (K2 (gF r n) 0 1)) kk) m = (K4 (pE r n m) 0 1 30 31) := by
 induction m with
 | zero => exact (by kernel_rfl : aL (fun kk => D47 r n oM (xs x0 0 (K2 (gF r n) 0 1)) kk) 0 = (K4 (pE r n 0) 0 1 30 31))
 | succ m ih =>
  refine (by kernel_rfl : aL (fun kk => D47 r n oM (xs x0 0 (K2 (gF r n) 0 1)) kk) (m + 1) = D47 r n oM (xs x0 0 (K2 (gF r n) 0 1)) (aL (fun kk => D47 r n oM (xs x0 0 (K2 (gF r n) 0 1)) kk) m)).trans ?_
  rw [ih]
  exact (bPk r n (pE r n m)).trans (by kernel_rfl)
theorem cRr : D47 r n aCz (xs x0 0 (K2 (gF r n) 0 1)) (K2 (gF r n) 0 1) = (K4 (cDf r n) 0 1 30 31) :=
 (by kernel_rfl : D47 r n aCz (xs x0 0 (K2 (gF r n) 0 1)) (K2 (gF r n) 0 1) = aL (fun kk => D47 r n oM (xs x0 0 (K2 (gF r n) 0 1)) kk) n).trans ((bYc r n n).trans (by kernel_rfl))
theorem dLs : D47 r n aXl x0 (K2 (gF r n) 0 1) = (K4 (bEo r n) 0 1 30 31) :=
 (by kernel_rfl : D47 r n aXl x0 (K2 (gF r n) 0 1) = D47 r n aCz (xs x0 0 (K2 (gF r n) 0 1)) (K2 (gF r n) 0 1)).trans
 ((cRr r n).trans (by kernel_rfl))
theorem cOf : D47 r n bHo x0 r47 = D47 r n yL x0 (K2 (gF r n) 0 1) :=
 congrArg (fun k => D47 r n yL x0 k) (dWy r n)
theorem cOe : D47 r n yL x0 (K2 (gF r n) 0 1) = D47 r n bRc x0 (K4 (bEo r n) 0 1 30 31) :=
 congrArg (fun k => D47 r n bRc x0 k) (dLs r n)
theorem dRm : D47 r n bHo x0 r47 = (K2 (aPs r n) 0 1) :=
 (cOf r n).trans
 ((cOe r n).trans
 ((by kernel_rfl)))
theorem cUg : D47 r n bJc x0 r47 = D47 r n bUz x0 (K2 (aPs r n) 0 1) :=
 congrArg (fun k => D47 r n bUz x0 k) (dRm r n)
theorem dLt : D47 r n bJc x0 r47 = (K2 (aQj r n) 0 1) :=
 (cUg r n).trans
 ((by kernel_rfl))
theorem cWq : D47 r n bIb x0 r47 = D47 r n bQk x0 (K2 (aQj r n) 0 1) :=
 congrArg (fun k => D47 r n bQk x0 k) (dLt r n)
theorem dVu : D47 r n bIb x0 r47 = (K2 (aQf r n) 0 1) :=
 (cWq r n).trans
 ((by kernel_rfl))
theorem cZq : D47 r n bFd x0 r47 = D47 r n bSf x0 (K2 (aQf r n) 0 1) :=
 congrArg (fun k => D47 r n bSf x0 k) (dVu r n)
theorem dUh : D47 r n bFd x0 r47 = (K2 (aRh r n) 0 1) :=
 (cZq r n).trans
 ((by kernel_rfl))
theorem dYw : D47 r n c47 x0 r47 = D47 r n cCp x0 (K2 (aRh r n) 0 1) :=
 congrArg (fun k => D47 r n cCp x0 k) (dUh r n)
theorem eLj : D47 r n c47 x0 r47 = (K2 (s47 r n) 0 1) :=
 (dYw r n).trans
 ((by kernel_rfl))
theorem cHl : aE CF r n 47 args h = s47 r n (aP args 0) (aP args 1) h :=
 (by kernel_rfl : aE CF r n 47 args h = D47 r n c47 x0 r47 (aJ args) h).trans ((congrFun (congrFun (eLj r n) (aJ args)) h).trans (by kernel_rfl))
noncomputable def s48 (r : RT) (n : Nat) (x0 x1 x2 : DV) (h0 : Hp) : aK :=
 bnd (aA x1 h0) fun v1 h1 =>
 bnd (gD v1 true (aA x2 h1) h1) fun v2 h2 =>
 bnd (gD v1 true (aO v2 h2) h2) fun v3 h3 =>
 bnd (gD v1 true (aB 0 v3 h3) h3) fun v4 h4 =>
 bnd (gD v1 true (aA v4 h4) h4) fun v5 h5 =>
 bnd (gD v1 true (r 17 [v5] h5) h5) fun v6 h6 =>
 bnd (gD v1 true (some (x0, h6)) h6) fun v7 h7 =>
 bnd (gD v1 true (aO v7 h7) h7) fun v8 h8 =>
 bnd (gD v1 true (aA v8 h8) h8) fun v9 h9 =>
 cnd (aW (gD v1 true (aA v8 h0) h0) v9 && true) (
 bnd (gD v1 true (aBh [v6, v9] h9) h9) fun v10 h10 =>
 bnd (aQ v1 v10 (.b false) h10) fun v11 h11 =>
 bnd (aD 1 x1 v11 h11) fun v12 h12 =>
 some (.t [], h12))
noncomputable abbrev c48 : Code := cf Tryz.f48
noncomputable abbrev r48 : K := aR CF Tryz.f48
noncomputable def D48 (r : RT) (n : Nat) (c : Code) (X : Nat → K) (k : K) : K := aM CF r 16 n c X r48 k
theorem eMe : D48 r n c48 x0 r48 = (K3 (s48 r n) 0 1 2) :=
 (by kernel_rfl)
theorem dGx : aE CF r n 48 args h = s48 r n (aP args 0) (aP args 1) (aP args 2) h :=
 (by kernel_rfl : aE CF r n 48 args h = D48 r n c48 x0 r48 (aJ args) h).trans ((congrFun (congrFun (eMe r n) (aJ args)) h).trans (by kernel_rfl))
noncomputable def s49 (r : RT) (n : Nat) (x0 : DV) (h0 : Hp) : aK :=
 bnd (bM x0 h0) fun v1 h1 =>
 bnd (bA [(aC 0), (aC 0), (aC 0), (aC 0), (aC 0), .l0, .l0, (.b false), (aC 0), (aC 0)] h1) fun v2 h2 =>
 bnd (aB 5 v1 h2) fun v3 h3 =>
 bnd (aA v3 h3) fun v4 h4 =>
 bnd (r 79 [v4] h4) fun v5 h5 =>
 bnd (aB 6 v1 h5) fun v6 h6 =>
 bnd (aA v6 h6) fun v7 h7 =>
 cnd (aW (aA v6 h2) v7 && true) (
 bnd (r 79 [v7] h7) fun v8 h8 =>
 bnd (aB 5 v1 h8) fun v9 h9 =>
 bnd (aD 1 v9 v5 h9) fun v10 h10 =>
 bnd (aB 6 v1 h10) fun v11 h11 =>
 bnd (aD 1 v11 v8 h11) fun v12 h12 =>
 bnd (aH 10 v1 h12) fun v13 h13 =>
 bnd (aD 10 v2 v13 h13) fun _ h14 =>
 bnd (aH 10 v2 h14) fun v15 _ =>
 some (v15, h14))
noncomputable abbrev c49 : Code := cf Tryz.f49
noncomputable abbrev r49 : K := aR CF Tryz.f49
noncomputable def D49 (r : RT) (n : Nat) (c : Code) (X : Nat → K) (k : K) : K := aM CF r 12 n c X r49 k
theorem eJp : D49 r n c49 x0 r49 = (K1 (s49 r n) 0) :=
 (by kernel_rfl)
theorem dXv : aE CF r n 49 args h = s49 r n (aP args 0) h :=
 (by kernel_rfl : aE CF r n 49 args h = D49 r n c49 x0 r49 (aJ args) h).trans ((congrFun (congrFun (eJp r n) (aJ args)) h).trans (by kernel_rfl))
noncomputable def iA (r : RT) (n : Nat) (x6 x8 : DV) (h0 : Hp) : aK :=
 bnd (aO x6 h0) fun v1 h1 =>
 bnd (aB 4 v1 h1) fun v2 h2 =>
 bnd (aD 1 v2 x8 h2) fun _ h3 =>
 bnd (aO x6 h3) fun v4 h4 =>
 bnd (aB 5 v4 h4) fun v5 h5 =>
 bnd (aD 1 v5 .l0 h5) fun _ h6 =>
 some (.t [x8, (aC 0)], h6)
noncomputable def bEj (r : RT) (n : Nat) (kk10 : dA) (x6 x7 x8 x72 x73 x74 : DV) (h0 : Hp) : aK :=
 bnd (aF .lss x74 x73 h0) fun v1 h1 =>
 aU v1 (
 bnd (aI 1 x72 x74 h1) fun v2 h2 =>
 bnd (aA v2 h2) fun v3 h3 =>
 bnd (aBj [x7, x8, x74, v3] h3) fun v4 h4 =>
 bnd (aF .add x74 (aC 1) h4) fun v5 h5 =>
      kk10 x6 x7 x8 x72 x73 v5 h5) (
      iA r n x6 x8 h1)
noncomputable def tS (r : RT) (n : Nat) (m : Nat) : dA :=
 Nat.rec (motive := fun _ => dA) (fun _ _ _ _ _ _ _ => none) (fun _ ih => bEj r n ih) m
noncomputable def cFl (r : RT) (n : Nat) : dA := tS r n n
noncomputable def aQc (r : RT) (n : Nat) (x6 x7 x8 x72 x73 x74 : DV) (h0 : Hp) : aK :=
 cFl r n x6 x7 x8 x72 x73 x74 h0
noncomputable def bFu (r : RT) (n : Nat) (x6 x7 x8 : DV) (h0 : Hp) : aK :=
 bnd (aO x6 (resv 1 h0)) fun v1 h1 =>
 bnd (aB 0 v1 h1) fun v2 h2 =>
 bnd (aA v2 h2) fun v3 h3 =>
 bnd (aO x6 h3) fun v4 h4 =>
 bnd (aB 1 v4 h4) fun v5 h5 =>
 bnd (aA v5 h5) fun v6 h6 =>
 bnd (aO x6 h6) fun v7 h7 =>
 bnd (aB 2 v7 h7) fun v8 h8 =>
 bnd (aA v8 h8) fun v9 h9 =>
 bnd (aS (bD 0 h0.next) [(aC 0), (aC 0), (aC 0), (aC 0), (aC 0)] 5 [(0, 1, (aC 0)), (1, 1, (aC 0)), (2, 1, v3), (3, 1, v6), (4, 1, v9)] h9) fun v10 h10 =>
 bnd (aO x6 h10) fun v11 h11 =>
 bnd (aB 5 v11 h11) fun v12 h12 =>
 bnd (aA v12 h12) fun v13 h13 =>
 cnd (aW (aA v12 (resv 1 h0)) v13 && true) (
 bnd (aX 1 8 v10 v13 h13) fun v14 h14 =>
 bnd (bK v14 h14) fun v15 h15 =>
  aQc r n x6 x7 x8 v14 v15 (aC 0) h15)
noncomputable def cMv (r : RT) (n : Nat) (x6 x7 x8 x9 : DV) (h0 : Hp) : aK :=
 bnd (aF .neq x9 (aC 0) h0) fun v1 h1 =>
 aU v1 (
 some (.t [(aC 0), x9], h1)) (
  bFu r n x6 x7 x8 h1)
noncomputable def cEb (r : RT) (n : Nat) (x0 x6 x7 : DV) (h0 : Hp) : aK :=
 bnd (aO x0 h0) fun v1 h1 =>
 bnd (aB 0 v1 h1) fun v2 h2 =>
 bnd (aA v2 h2) fun v3 h3 =>
 bnd (r 34 [v3, (aC 13)] h3) fun v4 h4 =>
 bnd (aO x6 h4) fun v5 h5 =>
 bnd (aB 5 v5 h5) fun v6 h6 =>
 bnd (aA v6 h6) fun v7 h7 =>
 cnd (aW (aA v6 h0) v7 && true) (
 bnd (bK v7 h7) fun v8 h8 =>
 bnd (aF .add (aC 5) v8 h8) fun v9 h9 =>
 bnd (pK [x7, v4, (aC 0), v9] h9) fun v10 h10 =>
 bnd (aG 0 v10 h10) fun v11 h11 =>
 bnd (aG 1 v10 h11) fun v12 h12 =>
  cMv r n x6 x7 v11 v12 h12)
noncomputable def bQp (r : RT) (n : Nat) (x0 x6 : DV) (h0 : Hp) : aK :=
 bnd (aO x0 h0) fun v1 h1 =>
 bnd (aB 0 v1 h1) fun v2 h2 =>
 bnd (aA v2 h2) fun v3 h3 =>
 bnd (r 17 [v3] h3) fun v4 h4 =>
  cEb r n x0 x6 v4 h4
noncomputable def cAv (r : RT) (n : Nat) (x0 x6 : DV) (h0 : Hp) : aK :=
 bnd (aO x6 h0) fun v1 h1 =>
 bnd (aB 4 v1 h1) fun v2 h2 =>
 bnd (aA v2 h2) fun v3 h3 =>
 bnd (aF .neq v3 (aC 0) h3) fun v4 h4 =>
 aU v4 (
 bnd (aO x6 h4) fun v5 h5 =>
 bnd (aB 4 v5 h5) fun v6 h6 =>
 bnd (aA v6 h6) fun v7 h7 =>
 some (.t [v7, (aC 0)], h7)) (
  bQp r n x0 x6 h4)
noncomputable def cGk (r : RT) (n : Nat) (x0 x1 : DV) (h0 : Hp) : aK :=
 bnd (aO x0 h0) fun v1 h1 =>
 bnd (aB 1 v1 h1) fun v2 h2 =>
 bnd (aA v2 h2) fun v3 h3 =>
 bnd (aI 10 v3 x1 h3) fun v4 h4 =>
  cAv r n x0 v4 h4
noncomputable def bYr (r : RT) (n : Nat) (x0 x1 : DV) (h0 : Hp) : aK :=
 bnd (r 100 [x0, x1] h0) fun v1 h1 =>
 bnd (eO .not v1 h1) fun v2 h2 =>
 aU v2 (
 some (.t [(aC 0), (aC 1)], h2)) (
  cGk r n x0 x1 h2)
noncomputable def s50 (r : RT) (n : Nat) (x0 x1 : DV) (h0 : Hp) : aK :=
 bYr r n x0 x1 h0
noncomputable abbrev c50 : Code := cf Tryz.f50
noncomputable abbrev bAz : Code := cR c50
noncomputable abbrev bCs : Code := cR bAz
noncomputable abbrev bDg : Code := cR bCs
noncomputable abbrev bDv : Code := cR bDg
noncomputable abbrev bBd : Code := cR bDv
noncomputable abbrev bEd : Code := cR bBd
noncomputable abbrev bCa : Code := cR bEd
noncomputable abbrev eIr : Code := cR bCa
noncomputable abbrev aPf : Code := cL bCa
noncomputable abbrev aYy : Code := cR aPf
noncomputable abbrev aNm : Code := cL aYy
noncomputable abbrev oJ : Code := cL aNm
noncomputable abbrev aXf : Code := cL aPf
noncomputable abbrev cCa : Code := cL bEd
noncomputable abbrev bZh : Code := cL bBd
noncomputable abbrev cBn : Code := cL bDv
noncomputable abbrev bSt : Code := cL bDg
noncomputable abbrev bWl : Code := cL bCs
noncomputable abbrev bPy : Code := cL bAz
noncomputable abbrev cJc : Code := cL c50
noncomputable abbrev r50 : K := aR CF Tryz.f50
noncomputable def D50 (r : RT) (n : Nat) (c : Code) (X : Nat → K) (k : K) : K := aM CF r 93 n c X r50 k
theorem dWq : D50 r n eIr x0 r50 = (K2 (iA r n) 6 8) :=
 (by kernel_rfl)
theorem cHy (kk10 : dA) : D50 r n oJ (xs x0 0 (K2 (iA r n) 6 8)) (K6 kk10 6 7 8 72 73 74) = (K6 (bEj r n kk10) 6 7 8 72 73 74) :=
 (by kernel_rfl)
theorem bTm (m : Nat) : aL (fun kk => D50 r n oJ (xs x0 0 (K2 (iA r n) 6 8)) kk) m = (K6 (tS r n m) 6 7 8 72 73 74) := by
 induction m with
 | zero => exact (by kernel_rfl : aL (fun kk => D50 r n oJ (xs x0 0 (K2 (iA r n) 6 8)) kk) 0 = (K6 (tS r n 0) 6 7 8 72 73 74))
 | succ m ih =>
  refine (by kernel_rfl : aL (fun kk => D50 r n oJ (xs x0 0 (K2 (iA r n) 6 8)) kk) (m + 1) = D50 r n oJ (xs x0 0 (K2 (iA r n) 6 8)) (aL (fun kk => D50 r n oJ (xs x0 0 (K2 (iA r n) 6 8)) kk) m)).trans ?_
  rw [ih]
  exact (cHy r n (tS r n m)).trans (by kernel_rfl)
theorem dEn : D50 r n aNm (xs x0 0 (K2 (iA r n) 6 8)) (K2 (iA r n) 6 8) = (K6 (cFl r n) 6 7 8 72 73 74) :=
 (by kernel_rfl : D50 r n aNm (xs x0 0 (K2 (iA r n) 6 8)) (K2 (iA r n) 6 8) = aL (fun kk => D50 r n oJ (xs x0 0 (K2 (iA r n) 6 8)) kk) n).trans ((bTm r n n).trans (by kernel_rfl))
theorem dPt : D50 r n aYy x0 (K2 (iA r n) 6 8) = (K6 (aQc r n) 6 7 8 72 73 74) :=
 (by kernel_rfl : D50 r n aYy x0 (K2 (iA r n) 6 8) = D50 r n aNm (xs x0 0 (K2 (iA r n) 6 8)) (K2 (iA r n) 6 8)).trans
 ((dEn r n).trans (by kernel_rfl))
theorem cOq : D50 r n bCa x0 r50 = D50 r n aPf x0 (K2 (iA r n) 6 8) :=
 congrArg (fun k => D50 r n aPf x0 k) (dWq r n)
theorem dEo : D50 r n aPf x0 (K2 (iA r n) 6 8) = D50 r n aXf x0 (K6 (aQc r n) 6 7 8 72 73 74) :=
 congrArg (fun k => D50 r n aXf x0 k) (dPt r n)
theorem dFt (q0 : dA) : D50 r n aXf x0 (K6 q0 6 7 8 72 73 74) = fun (env : aV) (h : Hp) =>
 bnd (aO (env 6) (resv 1 h)) fun v1 h1 =>
 bnd (aB 0 v1 h1) fun v2 h2 =>
 bnd (aA v2 h2) fun v3 h3 =>
 bnd (aO (env 6) h3) fun v4 h4 =>
 bnd (aB 1 v4 h4) fun v5 h5 =>
 bnd (aA v5 h5) fun v6 h6 =>
 bnd (aO (env 6) h6) fun v7 h7 =>
 bnd (aB 2 v7 h7) fun v8 h8 =>
 bnd (aA v8 h8) fun v9 h9 =>
 bnd (aS (bD 0 h.next) [(aC 0), (aC 0), (aC 0), (aC 0), (aC 0)] 5 [(0, 1, (aC 0)), (1, 1, (aC 0)), (2, 1, v3), (3, 1, v6), (4, 1, v9)] h9) fun v10 h10 =>
 bnd (aO (env 6) h10) fun v11 h11 =>
 bnd (aB 5 v11 h11) fun v12 h12 =>
 bnd (aA v12 h12) fun v13 h13 =>
 cnd (aW (aA v12 (resv 1 h)) v13 && true) (
 bnd (aX 1 8 v10 v13 h13) fun v14 h14 =>
 bnd (bK v14 h14) fun v15 h15 =>
  q0 (env 6) (env 7) (env 8) v14 v15 (aC 0) h15) := by kernel_rfl
theorem bVk : (fun (env : aV) (h : Hp) =>
 bnd (aO (env 6) (resv 1 h)) fun v1 h1 =>
 bnd (aB 0 v1 h1) fun v2 h2 =>
 bnd (aA v2 h2) fun v3 h3 =>
 bnd (aO (env 6) h3) fun v4 h4 =>
 bnd (aB 1 v4 h4) fun v5 h5 =>
 bnd (aA v5 h5) fun v6 h6 =>
 bnd (aO (env 6) h6) fun v7 h7 =>
 bnd (aB 2 v7 h7) fun v8 h8 =>
 bnd (aA v8 h8) fun v9 h9 =>
 bnd (aS (bD 0 h.next) [(aC 0), (aC 0), (aC 0), (aC 0), (aC 0)] 5 [(0, 1, (aC 0)), (1, 1, (aC 0)), (2, 1, v3), (3, 1, v6), (4, 1, v9)] h9) fun v10 h10 =>
 bnd (aO (env 6) h10) fun v11 h11 =>
 bnd (aB 5 v11 h11) fun v12 h12 =>
 bnd (aA v12 h12) fun v13 h13 =>
 cnd (aW (aA v12 (resv 1 h)) v13 && true) (
 bnd (aX 1 8 v10 v13 h13) fun v14 h14 =>
 bnd (bK v14 h14) fun v15 h15 =>
  aQc r n (env 6) (env 7) (env 8) v14 v15 (aC 0) h15)) = (K3 (bFu r n) 6 7 8) := by kernel_rfl
theorem dIa : D50 r n bCa x0 r50 = (K3 (bFu r n) 6 7 8) :=
 (cOq r n).trans
 ((dEo r n).trans
 ((dFt r n (aQc r n)).trans (bVk r n)))
theorem cWt : D50 r n bEd x0 r50 = D50 r n cCa x0 (K3 (bFu r n) 6 7 8) :=
 congrArg (fun k => D50 r n cCa x0 k) (dIa r n)
theorem dLx : D50 r n bEd x0 r50 = (K4 (cMv r n) 6 7 8 9) :=
 (cWt r n).trans
 ((by kernel_rfl))
theorem cYx : D50 r n bBd x0 r50 = D50 r n bZh x0 (K4 (cMv r n) 6 7 8 9) :=
 congrArg (fun k => D50 r n bZh x0 k) (dLx r n)
theorem dRz : D50 r n bBd x0 r50 = (K3 (cEb r n) 0 6 7) :=
 (cYx r n).trans
 ((by kernel_rfl))
theorem dAr : D50 r n bDv x0 r50 = D50 r n cBn x0 (K3 (cEb r n) 0 6 7) :=
 congrArg (fun k => D50 r n cBn x0 k) (dRz r n)
theorem dNi : D50 r n bDv x0 r50 = (K2 (bQp r n) 0 6) :=
 (dAr r n).trans
 ((by kernel_rfl))
theorem cWc : D50 r n bDg x0 r50 = D50 r n bSt x0 (K2 (bQp r n) 0 6) :=
 congrArg (fun k => D50 r n bSt x0 k) (dNi r n)
theorem dSm : D50 r n bDg x0 r50 = (K2 (cAv r n) 0 6) :=
 (cWc r n).trans
 ((by kernel_rfl))
theorem cVz : D50 r n bCs x0 r50 = D50 r n bWl x0 (K2 (cAv r n) 0 6) :=
 congrArg (fun k => D50 r n bWl x0 k) (dSm r n)
theorem dUm : D50 r n bCs x0 r50 = (K2 (cGk r n) 0 1) :=
 (cVz r n).trans
 ((by kernel_rfl))
theorem cZp : D50 r n bAz x0 r50 = D50 r n bPy x0 (K2 (cGk r n) 0 1) :=
 congrArg (fun k => D50 r n bPy x0 k) (dUm r n)
theorem dLb : D50 r n bAz x0 r50 = (K2 (bYr r n) 0 1) :=
 (cZp r n).trans
 ((by kernel_rfl))
theorem dLe : D50 r n c50 x0 r50 = D50 r n cJc x0 (K2 (bYr r n) 0 1) :=
 congrArg (fun k => D50 r n cJc x0 k) (dLb r n)
theorem eIx : D50 r n c50 x0 r50 = (K2 (s50 r n) 0 1) :=
 (dLe r n).trans
 ((by kernel_rfl))
theorem dZi : aE CF r n 50 args h = s50 r n (aP args 0) (aP args 1) h :=
 (by kernel_rfl : aE CF r n 50 args h = D50 r n c50 x0 r50 (aJ args) h).trans ((congrFun (congrFun (eIx r n) (aJ args)) h).trans (by kernel_rfl))
noncomputable def s51 (r : RT) (n : Nat) (x0 x1 x2 x3 : DV) (h0 : Hp) : aK :=
 bnd (r 101 [x0, x1, x2] h0) fun v1 h1 =>
 bnd (aG 0 v1 h1) fun v2 h2 =>
 bnd (aG 1 v1 h2) fun v3 h3 =>
 bnd (aG 2 v1 h3) fun v4 h4 =>
 bnd (eO .not v4 h4) fun v5 h5 =>
 bnd (gD v5 false (some (x0, h5)) h5) fun v6 h6 =>
 bnd (gD v5 false (aO v6 h6) h6) fun v7 h7 =>
 bnd (gD v5 false (aB 0 v7 h7) h7) fun v8 h8 =>
 bnd (gD v5 false (aA v8 h8) h8) fun v9 h9 =>
 bnd (gD v5 false (r 17 [v9] h9) h9) fun v10 h10 =>
 bnd (gD v5 false (some (x3, h10)) h10) fun v11 h11 =>
 bnd (gD v5 false (aBh [v10, v11] h11) h11) fun v12 h12 =>
 bnd (gD v5 false (eO .not v12 h12) h12) fun v13 h13 =>
 bnd (aQ v5 (.b true) v13 h13) fun v14 h14 =>
 aU v14 (
 some ((.b false), h14)) (
 bnd (aF .eql v2 (aC 0) h14) fun v15 h15 =>
 aU v15 (
 bnd (aO x0 h15) fun v16 h16 =>
 bnd (aB 1 v16 h16) fun v17 h17 =>
 bnd (aA v17 h17) fun v18 h18 =>
 bnd (aI 10 v18 x1 h18) fun v19 h19 =>
 bnd (aB 5 v19 h19) fun v20 h20 =>
 bnd (aA v20 h20) fun v21 h21 =>
 bnd (aI 1 v21 v3 h21) fun v22 h22 =>
 bnd (aD 1 v22 x3 h22) fun _ h23 =>
 some ((.b true), h23)) (
 bnd (aO x0 h15) fun v24 h24 =>
 bnd (aB 0 v24 h24) fun v25 h25 =>
 bnd (aA v25 h25) fun v26 h26 =>
 bnd (r 17 [v26] h26) fun v27 h27 =>
 bnd (aBj [v27, v2, v3, x3] h27) fun v28 h28 =>
 bnd (aF .eql v28 (aC 0) h28) fun v29 h29 =>
 some (v29, h29)))
noncomputable abbrev c51 : Code := cf Tryz.f51
noncomputable abbrev r51 : K := aR CF Tryz.f51
noncomputable def D51 (r : RT) (n : Nat) (c : Code) (X : Nat → K) (k : K) : K := aM CF r 57 n c X r51 k
theorem eJc : D51 r n c51 x0 r51 = (K4 (s51 r n) 0 1 2 3) :=
 (by kernel_rfl)
theorem eAk : aE CF r n 51 args h = s51 r n (aP args 0) (aP args 1) (aP args 2) (aP args 3) h :=
 (by kernel_rfl : aE CF r n 51 args h = D51 r n c51 x0 r51 (aJ args) h).trans ((congrFun (congrFun (eJc r n) (aJ args)) h).trans (by kernel_rfl))
noncomputable def s53 (r : RT) (n : Nat) (x0 x1 x2 : DV) (h0 : Hp) : aK :=
 bnd (r 101 [x0, x1, x2] h0) fun v1 h1 =>
 bnd (aG 0 v1 h1) fun v2 h2 =>
 bnd (aG 1 v1 h2) fun v3 h3 =>
 bnd (aG 2 v1 h3) fun v4 h4 =>
 bnd (eO .not v4 h4) fun v5 h5 =>
 aU v5 (
 some ((aC 0), h5)) (
 bnd (aF .eql v2 (aC 0) h5) fun v6 h6 =>
 aU v6 (
 bnd (aO x0 h6) fun v7 h7 =>
 bnd (aB 1 v7 h7) fun v8 h8 =>
 bnd (aA v8 h8) fun v9 h9 =>
 bnd (aI 10 v9 x1 h9) fun v10 h10 =>
 bnd (aB 5 v10 h10) fun v11 h11 =>
 bnd (aA v11 h11) fun v12 h12 =>
 bnd (aI 1 v12 v3 h12) fun v13 h13 =>
 bnd (aA v13 h13) fun v14 h14 =>
 some (v14, h14)) (
 bnd (aO x0 h6) fun v15 h15 =>
 bnd (aB 0 v15 h15) fun v16 h16 =>
 bnd (aA v16 h16) fun v17 h17 =>
 bnd (r 17 [v17] h17) fun v18 h18 =>
 bnd (aQn [v18, v2, v3] h18) fun v19 h19 =>
 bnd (aG 0 v19 h19) fun v20 h20 =>
 bnd (aG 1 v19 h20) fun v21 h21 =>
 some (v20, h21)))
noncomputable abbrev c53 : Code := cf Tryz.f53
noncomputable abbrev r53 : K := aR CF Tryz.f53
noncomputable def D53 (r : RT) (n : Nat) (c : Code) (X : Nat → K) (k : K) : K := aM CF r 49 n c X r53 k
theorem eKy : D53 r n c53 x0 r53 = (K3 (s53 r n) 0 1 2) :=
 (by kernel_rfl)
theorem eGt : aE CF r n 53 args h = s53 r n (aP args 0) (aP args 1) (aP args 2) h :=
 (by kernel_rfl : aE CF r n 53 args h = D53 r n c53 x0 r53 (aJ args) h).trans ((congrFun (congrFun (eKy r n) (aJ args)) h).trans (by kernel_rfl))
noncomputable def s54 (r : RT) (n : Nat) (x0 x1 : DV) (h0 : Hp) : aK :=
 bnd (bM x1 h0) fun v1 h1 =>
 bnd (aO x0 h1) fun v2 h2 =>
 bnd (aB 1 v2 h2) fun v3 h3 =>
 bnd (aA v3 h3) fun v4 h4 =>
 bnd (r 102 [v4, (.f 103 [] [v1])] h4) fun v5 h5 =>
 some (v5, h5)
noncomputable abbrev c54 : Code := cf Tryz.f54
noncomputable abbrev r54 : K := aR CF Tryz.f54
noncomputable def D54 (r : RT) (n : Nat) (c : Code) (X : Nat → K) (k : K) : K := aM CF r 11 n c X r54 k
theorem eLb : D54 r n c54 x0 r54 = (K2 (s54 r n) 0 1) :=
 (by kernel_rfl)
theorem eBv : aE CF r n 54 args h = s54 r n (aP args 0) (aP args 1) h :=
 (by kernel_rfl : aE CF r n 54 args h = D54 r n c54 x0 r54 (aJ args) h).trans ((congrFun (congrFun (eLb r n) (aJ args)) h).trans (by kernel_rfl))
noncomputable def s55 (r : RT) (n : Nat) (x0 : DV) (h0 : Hp) : aK :=
 bnd (bA [(aC 0), (aC 0), (aC 0), (aC 0), (aC 0), .l0, .l0, (.b false), (aC 0), (aC 0)] h0) fun v1 h1 =>
 bnd (aO x0 h1) fun v2 h2 =>
 bnd (aB 1 v2 h2) fun v3 h3 =>
 bnd (aA v3 h3) fun v4 h4 =>
 bnd (bK v4 h4) fun v5 h5 =>
 bnd (aF .sub v5 (aC 1) h5) fun v6 h6 =>
 bnd (aF .lss v6 (aC 0) h6) fun v7 h7 =>
 aU v7 (
 bnd (aT [(aC 0), (aC 0), (aC 0), (aC 0), (aC 0), .l0, .l0, (.b false), (aC 0), (aC 0)] [] h7) fun v8 h8 =>
 bnd (aD 10 v1 v8 h8) fun _ h9 =>
 bnd (aH 10 v1 h9) fun v10 _ =>
 some (.t [v10, (.b false)], h9)) (
 bnd (aO x0 h7) fun v11 h11 =>
 bnd (aB 1 v11 h11) fun v12 h12 =>
 bnd (aA v12 h12) fun v13 h13 =>
 bnd (aI 10 v13 v6 h13) fun v14 h14 =>
 bnd (aH 10 v14 h14) fun v15 h15 =>
 bnd (bA [(aC 0), (aC 0), (aC 0), (aC 0), (aC 0), .l0, .l0, (.b false), (aC 0), (aC 0)] h15) fun v16 h16 =>
 bnd (aD 10 v16 v15 h16) fun _ h17 =>
 bnd (aO x0 h17) fun v18 h18 =>
 bnd (aB 1 v18 h18) fun v19 h19 =>
 bnd (aA v19 h19) fun v20 h20 =>
 bnd (cT 10 v20 none (some v6) h20) fun v21 h21 =>
 bnd (aO x0 h21) fun v22 h22 =>
 bnd (aB 1 v22 h22) fun v23 h23 =>
 bnd (aD 1 v23 v21 h23) fun _ h24 =>
 bnd (aH 10 v16 h24) fun v25 h25 =>
 bnd (aD 10 v1 v25 h25) fun _ h26 =>
 bnd (aH 10 v1 h26) fun v27 _ =>
 some (.t [v27, (.b true)], h26))
noncomputable abbrev c55 : Code := cf Tryz.f55
noncomputable abbrev r55 : K := aR CF Tryz.f55
noncomputable def D55 (r : RT) (n : Nat) (c : Code) (X : Nat → K) (k : K) : K := aM CF r 32 n c X r55 k
theorem eLt : D55 r n c55 x0 r55 = (K1 (s55 r n) 0) :=
 (by kernel_rfl)
theorem dYq : aE CF r n 55 args h = s55 r n (aP args 0) h :=
 (by kernel_rfl : aE CF r n 55 args h = D55 r n c55 x0 r55 (aJ args) h).trans ((congrFun (congrFun (eLt r n) (aJ args)) h).trans (by kernel_rfl))
noncomputable def s56 (r : RT) (n : Nat) (x0 x1 : DV) (h0 : Hp) : aK :=
 bnd (aO x0 h0) fun v1 h1 =>
 bnd (aB 0 v1 h1) fun v2 h2 =>
 bnd (aA v2 h2) fun v3 h3 =>
 bnd (isF [v3, x1] h3) fun v4 h4 =>
 aU v4 (
 bnd (aO x0 h4) fun v5 h5 =>
 bnd (aB 0 v5 h5) fun v6 h6 =>
 bnd (aA v6 h6) fun v7 h7 =>
 bnd (mR [v7, x1] h7) fun v8 h8 =>
 some (v8, h8)) (
 bnd (iT [x1] h4) fun v9 h9 =>
 aU v9 (
 bnd (r 34 [x0, (aC 7)] h9) fun v10 h10 =>
 some (v10, h10)) (
 bnd (aF .eql x1 (aC 0) h9) fun v11 h11 =>
 aU v11 (
 bnd (r 34 [x0, (aC 2)] h11) fun v12 h12 =>
 some (v12, h12)) (
 bnd (aF .eql x1 (aC 2) h11) fun v13 h13 =>
 aU v13 (
 bnd (r 34 [x0, (aC 4)] h13) fun v14 h14 =>
 some (v14, h14)) (
 bnd (aF .eql x1 (aC 4) h13) fun v15 h15 =>
 aU v15 (
 bnd (r 34 [x0, (aC 5)] h15) fun v16 h16 =>
 some (v16, h16)) (
 some ((aC 0), h15))))))
noncomputable abbrev c56 : Code := cf Tryz.f56
noncomputable abbrev r56 : K := aR CF Tryz.f56
noncomputable def D56 (r : RT) (n : Nat) (c : Code) (X : Nat → K) (k : K) : K := aM CF r 38 n c X r56 k
theorem eOn : D56 r n c56 x0 r56 = (K2 (s56 r n) 0 1) :=
 (by kernel_rfl)
theorem dYf : aE CF r n 56 args h = s56 r n (aP args 0) (aP args 1) h :=
 (by kernel_rfl : aE CF r n 56 args h = D56 r n c56 x0 r56 (aJ args) h).trans ((congrFun (congrFun (eOn r n) (aJ args)) h).trans (by kernel_rfl))
end Go.Dd

namespace Go.Dd
open Go.Proofs
variable (r : RT) (n : Nat) (args : List DV) (h : Hp)
noncomputable def bX (r : RT) (n : Nat) (x5 : DV) (h0 : Hp) : aK :=
 some (x5, h0)
noncomputable def cU (r : RT) (n : Nat) (kk5 : dB) (x0 x1 x5 x6 : DV) (h0 : Hp) : aK :=
 bnd (aF .sub x6 (aC 1) h0) fun v1 h1 =>
  kk5 x0 x1 x5 v1 h1
noncomputable def eC (r : RT) (n : Nat) (kk5 : dB) (x0 x1 x5 x6 x7 : DV) (h0 : Hp) : aK :=
 bnd (aX 1 16 x7 x5 h0) fun v1 h1 =>
 bnd (r 96 [x0, x1] h1) fun v2 h2 =>
  cU r n kk5 x0 v2 v1 x6 h2
noncomputable def aOt (r : RT) (n : Nat) (kk5 : dB) (kk12 : TT8) (x0 x1 x5 x6 x7 x8 x34 x35 : DV) (h0 : Hp) : aK :=
 bnd (aF .lss x35 x34 h0) fun v1 h1 =>
 aU v1 (
 bnd (r 111 [x0, x8, x35] h1) fun v2 h2 =>
 bnd (r 72 [x0, v2] h2) fun v3 h3 =>
 bnd (aG 0 v3 h3) fun v4 h4 =>
 bnd (aG 1 v3 h4) fun v5 h5 =>
 bnd (aN [(.s [])] 1 [(0, 1, v4)] h5) fun v6 h6 =>
 bnd (aX 1 16 x7 v6 h6) fun v7 h7 =>
 bnd (aF .add x35 (aC 1) h7) fun v8 h8 =>
      kk12 x0 x1 x5 x6 v7 x8 x34 v8 h8) (
      eC r n kk5 x0 x1 x5 x6 x7 h1)
noncomputable def vK (r : RT) (n : Nat) (kk5 : dB) (m : Nat) : TT8 :=
 Nat.rec (motive := fun _ => TT8) (fun _ _ _ _ _ _ _ _ _ => none) (fun _ ih => aOt r n kk5 ih) m
noncomputable def bQe (r : RT) (n : Nat) (kk5 : dB) : TT8 := vK r n kk5 n
noncomputable def aXt (r : RT) (n : Nat) (kk5 : dB) (x0 x1 x5 x6 x7 x8 x34 x35 : DV) (h0 : Hp) : aK :=
 bQe r n kk5 x0 x1 x5 x6 x7 x8 x34 x35 h0
noncomputable def cMy (r : RT) (n : Nat) (kk5 : dB) (x0 x1 x5 x6 x7 x8 : DV) (h0 : Hp) : aK :=
 bnd (aO x0 h0) fun v1 h1 =>
 bnd (aB 0 v1 h1) fun v2 h2 =>
 bnd (aA v2 h2) fun v3 h3 =>
 bnd (jS [v3, x8] h3) fun v4 h4 =>
  aXt r n kk5 x0 x1 x5 x6 x7 x8 v4 (aC 0) h4
noncomputable def cAt (r : RT) (n : Nat) (kk5 : dB) (x0 x1 x5 x6 x7 : DV) (h0 : Hp) : aK :=
 bnd (r 111 [x0, x1, (aC 3)] h0) fun v1 h1 =>
  cMy r n kk5 x0 x1 x5 x6 x7 v1 h1
noncomputable def bWy (r : RT) (n : Nat) (kk5 : dB) (x0 x1 x5 x6 : DV) (h0 : Hp) : aK :=
 cAt r n kk5 x0 x1 x5 x6 .l0 h0
noncomputable def bPw (r : RT) (n : Nat) (kk5 : dB) (x0 x1 x5 x6 : DV) (h0 : Hp) : aK :=
 bnd (aF .gtr x6 (aC 0) h0) fun v1 h1 =>
 bnd (gD v1 true (some (x0, h1)) h1) fun v2 h2 =>
 bnd (gD v1 true (some (x1, h2)) h2) fun v3 h3 =>
 bnd (gD v1 true (r 110 [v2, v3] h3) h3) fun v4 h4 =>
 bnd (aQ v1 v4 (.b false) h4) fun v5 h5 =>
 aU v5 (
   bWy r n kk5 x0 x1 x5 x6 h5) (
   bX r n x5 h5)
noncomputable def aFt (r : RT) (n : Nat) (m : Nat) : dB :=
 Nat.rec (motive := fun _ => dB) (fun _ _ _ _ _ => none) (fun _ ih => bPw r n ih) m
noncomputable def dGt (r : RT) (n : Nat) : dB := aFt r n n
noncomputable def bUj (r : RT) (n : Nat) (x0 x1 x5 x6 : DV) (h0 : Hp) : aK :=
 dGt r n x0 x1 x5 x6 h0
noncomputable def cMe (r : RT) (n : Nat) (x0 x1 x5 : DV) (h0 : Hp) : aK :=
 bnd (aO x0 h0) fun v1 h1 =>
 bnd (aB 0 v1 h1) fun v2 h2 =>
 bnd (aA v2 h2) fun v3 h3 =>
 bnd (aBw [v3] h3) fun v4 h4 =>
  bUj r n x0 x1 x5 v4 h4
noncomputable def cKv (r : RT) (n : Nat) (x0 x1 : DV) (h0 : Hp) : aK :=
 cMe r n x0 x1 .l0 h0
noncomputable def s58 (r : RT) (n : Nat) (x0 x1 : DV) (h0 : Hp) : aK :=
 cKv r n x0 x1 h0
noncomputable abbrev c58 : Code := cf Tryz.f58
noncomputable abbrev bFr : Code := cR c58
noncomputable abbrev bAj : Code := cR bFr
noncomputable abbrev eHf : Code := cR bAj
noncomputable abbrev aRt : Code := cL bAj
noncomputable abbrev cEj : Code := cR aRt
noncomputable abbrev bIu : Code := cL cEj
noncomputable abbrev nQ : Code := cL bIu
noncomputable abbrev bFt : Code := cR nQ
noncomputable abbrev dXs : Code := cR bFt
noncomputable abbrev aCg : Code := cL bFt
noncomputable abbrev aHy : Code := cL aCg
noncomputable abbrev aPa : Code := cR aHy
noncomputable abbrev aJi : Code := cR aPa
noncomputable abbrev dJo : Code := cR aJi
noncomputable abbrev xH : Code := cL aJi
noncomputable abbrev aTc : Code := cR xH
noncomputable abbrev aHp : Code := cL aTc
noncomputable abbrev mG : Code := cL aHp
noncomputable abbrev bWp : Code := cL xH
noncomputable abbrev bSh : Code := cL aPa
noncomputable abbrev bQn : Code := cL aHy
noncomputable abbrev bRo : Code := cL nQ
noncomputable abbrev cFp : Code := cL aRt
noncomputable abbrev bQu : Code := cL bFr
noncomputable abbrev cHj : Code := cL c58
noncomputable abbrev r58 : K := aR CF Tryz.f58
noncomputable def D58 (r : RT) (n : Nat) (c : Code) (X : Nat → K) (k : K) : K := aM CF r 59 n c X r58 k
theorem dKt : D58 r n eHf x0 r58 = (K1 (bX r n) 5) :=
 (by kernel_rfl)
theorem dWl (kk5 : dB) : D58 r n dXs (xs x0 0 (K1 (bX r n) 5)) (K4 kk5 0 1 5 6) = (K4 (cU r n kk5) 0 1 5 6) :=
 (by kernel_rfl)
theorem cXd (kk5 : dB) : D58 r n dJo (xs (xs x0 0 (K1 (bX r n) 5)) 1 (K4 (cU r n kk5) 0 1 5 6)) (K4 (cU r n kk5) 0 1 5 6) = (K5 (eC r n kk5) 0 1 5 6 7) :=
 (by kernel_rfl)
theorem cFd (kk5 : dB) (kk12 : TT8) (q0 : TT1) (q1 : dB) (q2 : cA) : D58 r n mG (xs (xs (xs x0 0 (K1 q0 5)) 1 (K4 q1 0 1 5 6)) 2 (K5 q2 0 1 5 6 7)) (K8 kk12 0 1 5 6 7 8 34 35) = fun (env : aV) (h : Hp) =>
 bnd (aF .lss (env 35) (env 34) h) fun v1 h1 =>
 aU v1 (
 bnd (r 111 [(env 0), (env 8), (env 35)] h1) fun v2 h2 =>
 bnd (r 72 [(env 0), v2] h2) fun v3 h3 =>
 bnd (aG 0 v3 h3) fun v4 h4 =>
 bnd (aG 1 v3 h4) fun v5 h5 =>
 bnd (aN [(.s [])] 1 [(0, 1, v4)] h5) fun v6 h6 =>
 bnd (aX 1 16 (env 7) v6 h6) fun v7 h7 =>
 bnd (aF .add (env 35) (aC 1) h7) fun v8 h8 =>
      kk12 (env 0) (env 1) (env 5) (env 6) v7 (env 8) (env 34) v8 h8) (
      q2 (env 0) (env 1) (env 5) (env 6) (env 7) h1) := by kernel_rfl
theorem bOj (kk5 : dB) (kk12 : TT8) : (fun (env : aV) (h : Hp) =>
 bnd (aF .lss (env 35) (env 34) h) fun v1 h1 =>
 aU v1 (
 bnd (r 111 [(env 0), (env 8), (env 35)] h1) fun v2 h2 =>
 bnd (r 72 [(env 0), v2] h2) fun v3 h3 =>
 bnd (aG 0 v3 h3) fun v4 h4 =>
 bnd (aG 1 v3 h4) fun v5 h5 =>
 bnd (aN [(.s [])] 1 [(0, 1, v4)] h5) fun v6 h6 =>
 bnd (aX 1 16 (env 7) v6 h6) fun v7 h7 =>
 bnd (aF .add (env 35) (aC 1) h7) fun v8 h8 =>
      kk12 (env 0) (env 1) (env 5) (env 6) v7 (env 8) (env 34) v8 h8) (
      eC r n kk5 (env 0) (env 1) (env 5) (env 6) (env 7) h1)) = (K8 (aOt r n kk5 kk12) 0 1 5 6 7 8 34 35) := by kernel_rfl
theorem cCz (kk5 : dB) (kk12 : TT8) : D58 r n mG (xs (xs (xs x0 0 (K1 (bX r n) 5)) 1 (K4 (cU r n kk5) 0 1 5 6)) 2 (K5 (eC r n kk5) 0 1 5 6 7)) (K8 kk12 0 1 5 6 7 8 34 35) = (K8 (aOt r n kk5 kk12) 0 1 5 6 7 8 34 35) :=
 (cFd r n kk5 kk12 (bX r n) (cU r n kk5) (eC r n kk5)).trans (bOj r n kk5 kk12)
theorem cMb (kk5 : dB) (m : Nat) : aL (fun kk => D58 r n mG (xs (xs (xs x0 0 (K1 (bX r n) 5)) 1 (K4 (cU r n kk5) 0 1 5 6)) 2 (K5 (eC r n kk5) 0 1 5 6 7)) kk) m = (K8 (vK r n kk5 m) 0 1 5 6 7 8 34 35) := by
 induction m with
 | zero => exact (by kernel_rfl : aL (fun kk => D58 r n mG (xs (xs (xs x0 0 (K1 (bX r n) 5)) 1 (K4 (cU r n kk5) 0 1 5 6)) 2 (K5 (eC r n kk5) 0 1 5 6 7)) kk) 0 = (K8 (vK r n kk5 0) 0 1 5 6 7 8 34 35))
 | succ m ih =>
  refine (by kernel_rfl : aL (fun kk => D58 r n mG (xs (xs (xs x0 0 (K1 (bX r n) 5)) 1 (K4 (cU r n kk5) 0 1 5 6)) 2 (K5 (eC r n kk5) 0 1 5 6 7)) kk) (m + 1) = D58 r n mG (xs (xs (xs x0 0 (K1 (bX r n) 5)) 1 (K4 (cU r n kk5) 0 1 5 6)) 2 (K5 (eC r n kk5) 0 1 5 6 7)) (aL (fun kk => D58 r n mG (xs (xs (xs x0 0 (K1 (bX r n) 5)) 1 (K4 (cU r n kk5) 0 1 5 6)) 2 (K5 (eC r n kk5) 0 1 5 6 7)) kk) m)).trans ?_
  rw [ih]
  exact (cCz r n kk5 (vK r n kk5 m)).trans (by kernel_rfl)
theorem cYc (kk5 : dB) : D58 r n aHp (xs (xs (xs x0 0 (K1 (bX r n) 5)) 1 (K4 (cU r n kk5) 0 1 5 6)) 2 (K5 (eC r n kk5) 0 1 5 6 7)) (K5 (eC r n kk5) 0 1 5 6 7) = (K8 (bQe r n kk5) 0 1 5 6 7 8 34 35) :=
 (by kernel_rfl : D58 r n aHp (xs (xs (xs x0 0 (K1 (bX r n) 5)) 1 (K4 (cU r n kk5) 0 1 5 6)) 2 (K5 (eC r n kk5) 0 1 5 6 7)) (K5 (eC r n kk5) 0 1 5 6 7) = aL (fun kk => D58 r n mG (xs (xs (xs x0 0 (K1 (bX r n) 5)) 1 (K4 (cU r n kk5) 0 1 5 6)) 2 (K5 (eC r n kk5) 0 1 5 6 7)) kk) n).trans ((cMb r n kk5 n).trans (by kernel_rfl))
theorem dCo (kk5 : dB) : D58 r n aTc (xs (xs x0 0 (K1 (bX r n) 5)) 1 (K4 (cU r n kk5) 0 1 5 6)) (K5 (eC r n kk5) 0 1 5 6 7) = (K8 (aXt r n kk5) 0 1 5 6 7 8 34 35) :=
 (by kernel_rfl : D58 r n aTc (xs (xs x0 0 (K1 (bX r n) 5)) 1 (K4 (cU r n kk5) 0 1 5 6)) (K5 (eC r n kk5) 0 1 5 6 7) = D58 r n aHp (xs (xs (xs x0 0 (K1 (bX r n) 5)) 1 (K4 (cU r n kk5) 0 1 5 6)) 2 (K5 (eC r n kk5) 0 1 5 6 7)) (K5 (eC r n kk5) 0 1 5 6 7)).trans
 ((cYc r n kk5).trans (by kernel_rfl))
theorem cQc (kk5 : dB) : D58 r n aJi (xs (xs x0 0 (K1 (bX r n) 5)) 1 (K4 (cU r n kk5) 0 1 5 6)) (K4 (cU r n kk5) 0 1 5 6) = D58 r n xH (xs (xs x0 0 (K1 (bX r n) 5)) 1 (K4 (cU r n kk5) 0 1 5 6)) (K5 (eC r n kk5) 0 1 5 6 7) :=
 congrArg (fun k => D58 r n xH (xs (xs x0 0 (K1 (bX r n) 5)) 1 (K4 (cU r n kk5) 0 1 5 6)) k) (cXd r n kk5)
theorem cSg (kk5 : dB) : D58 r n xH (xs (xs x0 0 (K1 (bX r n) 5)) 1 (K4 (cU r n kk5) 0 1 5 6)) (K5 (eC r n kk5) 0 1 5 6 7) = D58 r n bWp (xs (xs x0 0 (K1 (bX r n) 5)) 1 (K4 (cU r n kk5) 0 1 5 6)) (K8 (aXt r n kk5) 0 1 5 6 7 8 34 35) :=
 congrArg (fun k => D58 r n bWp (xs (xs x0 0 (K1 (bX r n) 5)) 1 (K4 (cU r n kk5) 0 1 5 6)) k) (dCo r n kk5)
theorem dRf (kk5 : dB) : D58 r n aJi (xs (xs x0 0 (K1 (bX r n) 5)) 1 (K4 (cU r n kk5) 0 1 5 6)) (K4 (cU r n kk5) 0 1 5 6) = (K6 (cMy r n kk5) 0 1 5 6 7 8) :=
 (cQc r n kk5).trans
 ((cSg r n kk5).trans
 ((by kernel_rfl)))
theorem cYw (kk5 : dB) : D58 r n aPa (xs (xs x0 0 (K1 (bX r n) 5)) 1 (K4 (cU r n kk5) 0 1 5 6)) (K4 (cU r n kk5) 0 1 5 6) = D58 r n bSh (xs (xs x0 0 (K1 (bX r n) 5)) 1 (K4 (cU r n kk5) 0 1 5 6)) (K6 (cMy r n kk5) 0 1 5 6 7 8) :=
 congrArg (fun k => D58 r n bSh (xs (xs x0 0 (K1 (bX r n) 5)) 1 (K4 (cU r n kk5) 0 1 5 6)) k) (dRf r n kk5)
theorem dWw (kk5 : dB) : D58 r n aPa (xs (xs x0 0 (K1 (bX r n) 5)) 1 (K4 (cU r n kk5) 0 1 5 6)) (K4 (cU r n kk5) 0 1 5 6) = (K5 (cAt r n kk5) 0 1 5 6 7) :=
 (cYw r n kk5).trans
 ((by kernel_rfl))
theorem cSo (kk5 : dB) : D58 r n bFt (xs x0 0 (K1 (bX r n) 5)) (K4 kk5 0 1 5 6) = D58 r n aCg (xs x0 0 (K1 (bX r n) 5)) (K4 (cU r n kk5) 0 1 5 6) :=
 congrArg (fun k => D58 r n aCg (xs x0 0 (K1 (bX r n) 5)) k) (dWl r n kk5)
theorem dAt (kk5 : dB) : D58 r n aHy (xs (xs x0 0 (K1 (bX r n) 5)) 1 (K4 (cU r n kk5) 0 1 5 6)) (K4 (cU r n kk5) 0 1 5 6) = D58 r n bQn (xs (xs x0 0 (K1 (bX r n) 5)) 1 (K4 (cU r n kk5) 0 1 5 6)) (K5 (cAt r n kk5) 0 1 5 6 7) :=
 congrArg (fun k => D58 r n bQn (xs (xs x0 0 (K1 (bX r n) 5)) 1 (K4 (cU r n kk5) 0 1 5 6)) k) (dWw r n kk5)
theorem dSc (kk5 : dB) : D58 r n bFt (xs x0 0 (K1 (bX r n) 5)) (K4 kk5 0 1 5 6) = (K4 (bWy r n kk5) 0 1 5 6) :=
 (cSo r n kk5).trans
 ((by kernel_rfl : D58 r n aCg (xs x0 0 (K1 (bX r n) 5)) (K4 (cU r n kk5) 0 1 5 6) = D58 r n aHy (xs (xs x0 0 (K1 (bX r n) 5)) 1 (K4 (cU r n kk5) 0 1 5 6)) (K4 (cU r n kk5) 0 1 5 6)).trans
 ((dAt r n kk5).trans
 ((by kernel_rfl))))
theorem cOp (kk5 : dB) : D58 r n nQ (xs x0 0 (K1 (bX r n) 5)) (K4 kk5 0 1 5 6) = D58 r n bRo (xs x0 0 (K1 (bX r n) 5)) (K4 (bWy r n kk5) 0 1 5 6) :=
 congrArg (fun k => D58 r n bRo (xs x0 0 (K1 (bX r n) 5)) k) (dSc r n kk5)
theorem dDy (kk5 : dB) : D58 r n nQ (xs x0 0 (K1 (bX r n) 5)) (K4 kk5 0 1 5 6) = (K4 (bPw r n kk5) 0 1 5 6) :=
 (cOp r n kk5).trans
 ((by kernel_rfl))
theorem dAy (m : Nat) : aL (fun kk => D58 r n nQ (xs x0 0 (K1 (bX r n) 5)) kk) m = (K4 (aFt r n m) 0 1 5 6) := by
 induction m with
 | zero => exact (by kernel_rfl : aL (fun kk => D58 r n nQ (xs x0 0 (K1 (bX r n) 5)) kk) 0 = (K4 (aFt r n 0) 0 1 5 6))
 | succ m ih =>
  refine (by kernel_rfl : aL (fun kk => D58 r n nQ (xs x0 0 (K1 (bX r n) 5)) kk) (m + 1) = D58 r n nQ (xs x0 0 (K1 (bX r n) 5)) (aL (fun kk => D58 r n nQ (xs x0 0 (K1 (bX r n) 5)) kk) m)).trans ?_
  rw [ih]
  exact (dDy r n (aFt r n m)).trans (by kernel_rfl)
theorem dTt : D58 r n bIu (xs x0 0 (K1 (bX r n) 5)) (K1 (bX r n) 5) = (K4 (dGt r n) 0 1 5 6) :=
 (by kernel_rfl : D58 r n bIu (xs x0 0 (K1 (bX r n) 5)) (K1 (bX r n) 5) = aL (fun kk => D58 r n nQ (xs x0 0 (K1 (bX r n) 5)) kk) n).trans ((dAy r n n).trans (by kernel_rfl))
theorem dQz : D58 r n cEj x0 (K1 (bX r n) 5) = (K4 (bUj r n) 0 1 5 6) :=
 (by kernel_rfl : D58 r n cEj x0 (K1 (bX r n) 5) = D58 r n bIu (xs x0 0 (K1 (bX r n) 5)) (K1 (bX r n) 5)).trans
 ((dTt r n).trans (by kernel_rfl))
theorem cTb : D58 r n bAj x0 r58 = D58 r n aRt x0 (K1 (bX r n) 5) :=
 congrArg (fun k => D58 r n aRt x0 k) (dKt r n)
theorem cXp : D58 r n aRt x0 (K1 (bX r n) 5) = D58 r n cFp x0 (K4 (bUj r n) 0 1 5 6) :=
 congrArg (fun k => D58 r n cFp x0 k) (dQz r n)
theorem dOc : D58 r n bAj x0 r58 = (K3 (cMe r n) 0 1 5) :=
 (cTb r n).trans
 ((cXp r n).trans
 ((by kernel_rfl)))
theorem cFs : D58 r n bFr x0 r58 = D58 r n bQu x0 (K3 (cMe r n) 0 1 5) :=
 congrArg (fun k => D58 r n bQu x0 k) (dOc r n)
theorem dJi : D58 r n bFr x0 r58 = (K2 (cKv r n) 0 1) :=
 (cFs r n).trans
 ((by kernel_rfl))
theorem dWm : D58 r n c58 x0 r58 = D58 r n cHj x0 (K2 (cKv r n) 0 1) :=
 congrArg (fun k => D58 r n cHj x0 k) (dJi r n)
theorem eJq : D58 r n c58 x0 r58 = (K2 (s58 r n) 0 1) :=
 (dWm r n).trans
 ((by kernel_rfl))
theorem eGa : aE CF r n 58 args h = s58 r n (aP args 0) (aP args 1) h :=
 (by kernel_rfl : aE CF r n 58 args h = D58 r n c58 x0 r58 (aJ args) h).trans ((congrFun (congrFun (eJq r n) (aJ args)) h).trans (by kernel_rfl))
noncomputable def s60 (r : RT) (n : Nat) (x0 x1 : DV) (h0 : Hp) : aK :=
 bnd (aF .lss x1 (.i .i64 (Int.negSucc 1152921504606846975)) h0) fun v1 h1 =>
 bnd (gD v1 false (some (x1, h1)) h1) fun v2 h2 =>
 bnd (gD v1 false (aF .gtr v2 (aC 1152921504606846976) h2) h2) fun v3 h3 =>
 bnd (aQ v1 (.b true) v3 h3) fun v4 h4 =>
 aU v4 (
 some (.t [(aC 0), (aC 2)], h4)) (
 bnd (lY [x1] h4) fun v5 h5 =>
 bnd (aG 0 v5 h5) fun v6 h6 =>
 bnd (aG 1 v5 h6) fun v7 h7 =>
 aU v7 (
 some (.t [v6, (aC 0)], h7)) (
 bnd (r 34 [x0, (aC 8)] h7) fun v8 h8 =>
 bnd (aN [(aC 0)] 1 [(0, 1, x1)] h8) fun v9 h9 =>
 bnd (r 87 [x0, v8, (aC 1), v9] h9) fun v10 h10 =>
 bnd (aG 0 v10 h10) fun v11 h11 =>
 bnd (aG 1 v10 h11) fun v12 h12 =>
 some (.t [v11, v12], h12)))
noncomputable abbrev c60 : Code := cf Tryz.f60
noncomputable abbrev r60 : K := aR CF Tryz.f60
noncomputable def D60 (r : RT) (n : Nat) (c : Code) (X : Nat → K) (k : K) : K := aM CF r 29 n c X r60 k
theorem eMw : D60 r n c60 x0 r60 = (K2 (s60 r n) 0 1) :=
 (by kernel_rfl)
theorem eBy : aE CF r n 60 args h = s60 r n (aP args 0) (aP args 1) h :=
 (by kernel_rfl : aE CF r n 60 args h = D60 r n c60 x0 r60 (aJ args) h).trans ((congrFun (congrFun (eMw r n) (aJ args)) h).trans (by kernel_rfl))
noncomputable def s63 (r : RT) (n : Nat) (x0 x1 : DV) (h0 : Hp) : aK :=
 bnd (bM x0 h0) fun v1 h1 =>
 bnd (aH 6 v1 h1) fun v2 h2 =>
 bnd (r 116 [v2, x1] h2) fun v3 h3 =>
 bnd (aG 0 v3 h3) fun v4 h4 =>
 bnd (aG 1 v3 h4) fun v5 h5 =>
 some (v5, h5)
noncomputable abbrev c63 : Code := cf Tryz.f63
noncomputable abbrev r63 : K := aR CF Tryz.f63
noncomputable def D63 (r : RT) (n : Nat) (c : Code) (X : Nat → K) (k : K) : K := aM CF r 14 n c X r63 k
theorem eJy : D63 r n c63 x0 r63 = (K2 (s63 r n) 0 1) :=
 (by kernel_rfl)
theorem dXw : aE CF r n 63 args h = s63 r n (aP args 0) (aP args 1) h :=
 (by kernel_rfl : aE CF r n 63 args h = D63 r n c63 x0 r63 (aJ args) h).trans ((congrFun (congrFun (eJy r n) (aJ args)) h).trans (by kernel_rfl))
noncomputable def gJ (r : RT) (n : Nat) (x0 x6 : DV) (h0 : Hp) : aK :=
 bnd (r 36 [x0, x6] h0) fun v1 h1 =>
 bnd (aG 0 v1 h1) fun v2 h2 =>
 bnd (aG 1 v1 h2) fun v3 h3 =>
 some (.t [v2, v3], h3)
noncomputable def bAf (r : RT) (n : Nat) (kk6 : cA) (x0 x6 x38 x39 x40 : DV) (h0 : Hp) : aK :=
 bnd (aF .lss x40 x39 h0) fun v1 h1 =>
 aU v1 (
 bnd (aI 4 x38 x40 h1) fun v2 h2 =>
 bnd (aH 4 v2 h2) fun v3 h3 =>
 bnd (bA [(aC 0), (.s []), (aC 0), .l0] h3) fun v4 h4 =>
 bnd (aD 4 v4 v3 h4) fun _ h5 =>
 bnd (aH 4 v4 h5) fun v6 h6 =>
 bnd (r 64 [x0, v6] h6) fun v7 h7 =>
 bnd (aG 0 v7 h7) fun v8 h8 =>
 bnd (aG 1 v7 h8) fun v9 h9 =>
 bnd (aF .neq v9 (aC 0) h9) fun v10 h10 =>
 aU v10 (
 some (.t [(aC 0), v9], h10)) (
 bnd (aN [(aC 0)] 1 [(0, 1, v8)] h10) fun v11 h11 =>
 bnd (aX 1 8 x6 v11 h11) fun v12 h12 =>
 bnd (aF .add x40 (aC 1) h12) fun v13 h13 =>
    kk6 x0 v12 x38 x39 v13 h13)) (
      gJ r n x0 x6 h1)
noncomputable def aDi (r : RT) (n : Nat) (m : Nat) : cA :=
 Nat.rec (motive := fun _ => cA) (fun _ _ _ _ _ _ => none) (fun _ ih => bAf r n ih) m
noncomputable def dGy (r : RT) (n : Nat) : cA := aDi r n n
noncomputable def bZj (r : RT) (n : Nat) (x0 x6 x38 x39 x40 : DV) (h0 : Hp) : aK :=
 dGy r n x0 x6 x38 x39 x40 h0
noncomputable def bYs (r : RT) (n : Nat) (x0 x3 x6 : DV) (h0 : Hp) : aK :=
 bnd (aB 3 x3 h0) fun v1 h1 =>
 bnd (aA v1 h1) fun v2 h2 =>
 bnd (bK v2 h2) fun v3 h3 =>
  bZj r n x0 x6 v2 v3 (aC 0) h3
noncomputable def bRe (r : RT) (n : Nat) (x0 x3 : DV) (h0 : Hp) : aK :=
 bYs r n x0 x3 .l0 h0
noncomputable def aQu (r : RT) (n : Nat) (x0 x3 : DV) (h0 : Hp) : aK :=
 bnd (aB 0 x3 h0) fun v1 h1 =>
 bnd (aA v1 h1) fun v2 h2 =>
 bnd (aF .eql v2 (aC 1) h2) fun v3 h3 =>
 aU v3 (
 bnd (aB 2 x3 h3) fun v4 h4 =>
 bnd (aA v4 h4) fun v5 h5 =>
 bnd (r 60 [x0, v5] h5) fun v6 h6 =>
 bnd (aG 0 v6 h6) fun v7 h7 =>
 bnd (aG 1 v6 h7) fun v8 h8 =>
 some (.t [v7, v8], h8)) (
 bnd (aF .eql v2 (aC 2) h3) fun v9 h9 =>
 aU v9 (
 bnd (aB 1 x3 h9) fun v10 h10 =>
 bnd (aA v10 h10) fun v11 h11 =>
 bnd (r 117 [x0, v11] h11) fun v12 h12 =>
 bnd (aG 0 v12 h12) fun v13 h13 =>
 bnd (aG 1 v12 h13) fun v14 h14 =>
 some (.t [v13, v14], h14)) (
 bnd (aF .eql v2 (aC 3) h9) fun v15 h15 =>
 aU v15 (
 bnd (aB 1 x3 h15) fun v16 h16 =>
 bnd (aA v16 h16) fun v17 h17 =>
 bnd (r 10 [x0, v17] h17) fun v18 h18 =>
 bnd (aG 0 v18 h18) fun v19 h19 =>
 bnd (aG 1 v18 h19) fun v20 h20 =>
 some (.t [v19, v20], h20)) (
    bRe r n x0 x3 h15)))
noncomputable def s64 (r : RT) (n : Nat) (x0 x1 : DV) (h0 : Hp) : aK :=
 bnd (bM x1 h0) fun v1 h1 =>
  aQu r n x0 v1 h1
noncomputable abbrev c64 : Code := cf Tryz.f64
noncomputable abbrev bDb : Code := cR c64
noncomputable abbrev bJg : Code := cR bDb
noncomputable abbrev bJm : Code := cR bJg
noncomputable abbrev eIv : Code := cR bJm
noncomputable abbrev aQg : Code := cL bJm
noncomputable abbrev cCn : Code := cR aQg
noncomputable abbrev bFz : Code := cL cCn
noncomputable abbrev sS : Code := cL bFz
noncomputable abbrev dGf : Code := cL aQg
noncomputable abbrev cKq : Code := cL bJg
noncomputable abbrev cGz : Code := cL bDb
noncomputable abbrev aYs : Code := cL c64
noncomputable abbrev r64 : K := aR CF Tryz.f64
noncomputable def D64 (r : RT) (n : Nat) (c : Code) (X : Nat → K) (k : K) : K := aM CF r 63 n c X r64 k
theorem dTa : D64 r n eIv x0 r64 = (K2 (gJ r n) 0 6) :=
 (by kernel_rfl)
theorem cYt (kk6 : cA) (q0 : eN) : D64 r n sS (xs x0 1 (K2 q0 0 6)) (K5 kk6 0 6 38 39 40) = fun (env : aV) (h : Hp) =>
 bnd (aF .lss (env 40) (env 39) h) fun v1 h1 =>
 aU v1 (
 bnd (aI 4 (env 38) (env 40) h1) fun v2 h2 =>
 bnd (aH 4 v2 h2) fun v3 h3 =>
 bnd (bA [(aC 0), (.s []), (aC 0), .l0] h3) fun v4 h4 =>
 bnd (aD 4 v4 v3 h4) fun _ h5 =>
 bnd (aH 4 v4 h5) fun v6 h6 =>
 bnd (r 64 [(env 0), v6] h6) fun v7 h7 =>
 bnd (aG 0 v7 h7) fun v8 h8 =>
 bnd (aG 1 v7 h8) fun v9 h9 =>
 bnd (aF .neq v9 (aC 0) h9) fun v10 h10 =>
 aU v10 (
 some (.t [(aC 0), v9], h10)) (
 bnd (aN [(aC 0)] 1 [(0, 1, v8)] h10) fun v11 h11 =>
 bnd (aX 1 8 (env 6) v11 h11) fun v12 h12 =>
 bnd (aF .add (env 40) (aC 1) h12) fun v13 h13 =>
    kk6 (env 0) v12 (env 38) (env 39) v13 h13)) (
      q0 (env 0) (env 6) h1) := by kernel_rfl
theorem bVv (kk6 : cA) : (fun (env : aV) (h : Hp) =>
 bnd (aF .lss (env 40) (env 39) h) fun v1 h1 =>
 aU v1 (
 bnd (aI 4 (env 38) (env 40) h1) fun v2 h2 =>
 bnd (aH 4 v2 h2) fun v3 h3 =>
 bnd (bA [(aC 0), (.s []), (aC 0), .l0] h3) fun v4 h4 =>
 bnd (aD 4 v4 v3 h4) fun _ h5 =>
 bnd (aH 4 v4 h5) fun v6 h6 =>
 bnd (r 64 [(env 0), v6] h6) fun v7 h7 =>
 bnd (aG 0 v7 h7) fun v8 h8 =>
 bnd (aG 1 v7 h8) fun v9 h9 =>
 bnd (aF .neq v9 (aC 0) h9) fun v10 h10 =>
 aU v10 (
 some (.t [(aC 0), v9], h10)) (
 bnd (aN [(aC 0)] 1 [(0, 1, v8)] h10) fun v11 h11 =>
 bnd (aX 1 8 (env 6) v11 h11) fun v12 h12 =>
 bnd (aF .add (env 40) (aC 1) h12) fun v13 h13 =>
    kk6 (env 0) v12 (env 38) (env 39) v13 h13)) (
      gJ r n (env 0) (env 6) h1)) = (K5 (bAf r n kk6) 0 6 38 39 40) := by kernel_rfl
theorem cXb (kk6 : cA) : D64 r n sS (xs x0 1 (K2 (gJ r n) 0 6)) (K5 kk6 0 6 38 39 40) = (K5 (bAf r n kk6) 0 6 38 39 40) :=
 (cYt r n kk6 (gJ r n)).trans (bVv r n kk6)
theorem cQn (m : Nat) : aL (fun kk => D64 r n sS (xs x0 1 (K2 (gJ r n) 0 6)) kk) m = (K5 (aDi r n m) 0 6 38 39 40) := by
 induction m with
 | zero => exact (by kernel_rfl : aL (fun kk => D64 r n sS (xs x0 1 (K2 (gJ r n) 0 6)) kk) 0 = (K5 (aDi r n 0) 0 6 38 39 40))
 | succ m ih =>
  refine (by kernel_rfl : aL (fun kk => D64 r n sS (xs x0 1 (K2 (gJ r n) 0 6)) kk) (m + 1) = D64 r n sS (xs x0 1 (K2 (gJ r n) 0 6)) (aL (fun kk => D64 r n sS (xs x0 1 (K2 (gJ r n) 0 6)) kk) m)).trans ?_
  rw [ih]
  exact (cXb r n (aDi r n m)).trans (by kernel_rfl)
theorem dPh : D64 r n bFz (xs x0 1 (K2 (gJ r n) 0 6)) (K2 (gJ r n) 0 6) = (K5 (dGy r n) 0 6 38 39 40) :=
 (by kernel_rfl : D64 r n bFz (xs x0 1 (K2 (gJ r n) 0 6)) (K2 (gJ r n) 0 6) = aL (fun kk => D64 r n sS (xs x0 1 (K2 (gJ r n) 0 6)) kk) n).trans ((cQn r n n).trans (by kernel_rfl))
theorem dQj : D64 r n cCn x0 (K2 (gJ r n) 0 6) = (K5 (bZj r n) 0 6 38 39 40) :=
 (by kernel_rfl : D64 r n cCn x0 (K2 (gJ r n) 0 6) = D64 r n bFz (xs x0 1 (K2 (gJ r n) 0 6)) (K2 (gJ r n) 0 6)).trans
 ((dPh r n).trans (by kernel_rfl))
theorem cNz : D64 r n bJm x0 r64 = D64 r n aQg x0 (K2 (gJ r n) 0 6) :=
 congrArg (fun k => D64 r n aQg x0 k) (dTa r n)
theorem cTn : D64 r n aQg x0 (K2 (gJ r n) 0 6) = D64 r n dGf x0 (K5 (bZj r n) 0 6 38 39 40) :=
 congrArg (fun k => D64 r n dGf x0 k) (dQj r n)
theorem dSv : D64 r n bJm x0 r64 = (K3 (bYs r n) 0 3 6) :=
 (cNz r n).trans
 ((cTn r n).trans
 ((by kernel_rfl)))
theorem dCy : D64 r n bJg x0 r64 = D64 r n cKq x0 (K3 (bYs r n) 0 3 6) :=
 congrArg (fun k => D64 r n cKq x0 k) (dSv r n)
theorem dNs : D64 r n bJg x0 r64 = (K2 (bRe r n) 0 3) :=
 (dCy r n).trans
 ((by kernel_rfl))
theorem cPr : D64 r n bDb x0 r64 = D64 r n cGz x0 (K2 (bRe r n) 0 3) :=
 congrArg (fun k => D64 r n cGz x0 k) (dNs r n)
theorem dQx : D64 r n bDb x0 r64 = (K2 (aQu r n) 0 3) :=
 (cPr r n).trans
 ((by kernel_rfl))
theorem eHb : D64 r n c64 x0 r64 = D64 r n aYs x0 (K2 (aQu r n) 0 3) :=
 congrArg (fun k => D64 r n aYs x0 k) (dQx r n)
theorem dZx (q0 : eN) : D64 r n aYs x0 (K2 q0 0 3) = fun (env : aV) (h : Hp) =>
 bnd (bM (env 1) h) fun v1 h1 =>
  q0 (env 0) v1 h1 := by kernel_rfl
theorem dLu : (fun (env : aV) (h : Hp) =>
 bnd (bM (env 1) h) fun v1 h1 =>
  aQu r n (env 0) v1 h1) = (K2 (s64 r n) 0 1) := by kernel_rfl
theorem eOl : D64 r n c64 x0 r64 = (K2 (s64 r n) 0 1) :=
 (eHb r n).trans
 ((dZx r n (aQu r n)).trans (dLu r n))
theorem eCq : aE CF r n 64 args h = s64 r n (aP args 0) (aP args 1) h :=
 (by kernel_rfl : aE CF r n 64 args h = D64 r n c64 x0 r64 (aJ args) h).trans ((congrFun (congrFun (eOl r n) (aJ args)) h).trans (by kernel_rfl))
end Go.Dd

namespace Go.Dd
open Go.Proofs
variable (r : RT) (n : Nat) (args : List DV) (h : Hp)
noncomputable def s71 (r : RT) (n : Nat) (x0 x1 : DV) (h0 : Hp) : aK :=
 bnd (iT [x1] h0) fun v1 h1 =>
 aU v1 (
 bnd (nB [x1] h1) fun v2 h2 =>
 some (.t [v2, (.b true)], h2)) (
 bnd (aO x0 h1) fun v3 h3 =>
 bnd (aB 0 v3 h3) fun v4 h4 =>
 bnd (aA v4 h4) fun v5 h5 =>
 bnd (isF [v5, x1] h5) fun v6 h6 =>
 bnd (gD v6 true (some (x0, h6)) h6) fun v7 h7 =>
 bnd (gD v6 true (aO v7 h7) h7) fun v8 h8 =>
 bnd (gD v6 true (aB 0 v8 h8) h8) fun v9 h9 =>
 bnd (gD v6 true (aA v9 h9) h9) fun v10 h10 =>
 bnd (gD v6 true (some (x1, h10)) h10) fun v11 h11 =>
 bnd (gD v6 true (mR [v10, v11] h11) h11) fun v12 h12 =>
 bnd (gD v6 true (some (x0, h12)) h12) fun v13 h13 =>
 bnd (gD v6 true (r 34 [v13, (aC 8)] h13) h13) fun v14 h14 =>
 bnd (gD v6 true (aF .eql v12 v14 h14) h14) fun v15 h15 =>
 bnd (aQ v6 v15 (.b false) h15) fun v16 h16 =>
 bnd (gD v16 true (some (x0, h16)) h16) fun v17 h17 =>
 bnd (gD v16 true (aO v17 h17) h17) fun v18 h18 =>
 bnd (gD v16 true (aB 0 v18 h18) h18) fun v19 h19 =>
 bnd (gD v16 true (aA v19 h19) h19) fun v20 h20 =>
 bnd (gD v16 true (some (x1, h20)) h20) fun v21 h21 =>
 bnd (gD v16 true (nG [v20, v21] h21) h21) fun v22 h22 =>
 bnd (gD v16 true (aF .eql v22 (aC 1) h22) h22) fun v23 h23 =>
 bnd (aQ v16 v23 (.b false) h23) fun v24 h24 =>
 aU v24 (
 bnd (r 111 [x0, x1, (aC 0)] h24) fun v25 h25 =>
 some (.t [v25, (.b true)], h25)) (
 some (.t [(aC 0), (.b false)], h24)))
noncomputable abbrev c71 : Code := cf Tryz.f71
noncomputable abbrev r71 : K := aR CF Tryz.f71
noncomputable def D71 (r : RT) (n : Nat) (c : Code) (X : Nat → K) (k : K) : K := aM CF r 41 n c X r71 k
theorem eOf : D71 r n c71 x0 r71 = (K2 (s71 r n) 0 1) :=
 (by kernel_rfl)
theorem eDr : aE CF r n 71 args h = s71 r n (aP args 0) (aP args 1) h :=
 (by kernel_rfl : aE CF r n 71 args h = D71 r n c71 x0 r71 (aJ args) h).trans ((congrFun (congrFun (eOf r n) (aJ args)) h).trans (by kernel_rfl))
noncomputable def gE (r : RT) (n : Nat) (x7 : DV) (h0 : Hp) : aK :=
 bnd (gY x7 h0) fun v1 h1 =>
 some (.t [v1, (.b true)], h1)
noncomputable def aZe (r : RT) (n : Nat) (kk7 : cA) (x0 x1 x7 x48 x49 : DV) (h0 : Hp) : aK :=
 bnd (aF .lss x49 x48 h0) fun v1 h1 =>
 aU v1 (
 bnd (r 111 [x0, x1, x49] h1) fun v2 h2 =>
 bnd (eM .u8 v2 h2) fun v3 h3 =>
 bnd (aN [(.i .u8 (Int.ofNat 0))] 1 [(0, 1, v3)] h3) fun v4 h4 =>
 bnd (aX 1 1 x7 v4 h4) fun v5 h5 =>
 bnd (aF .add x49 (aC 1) h5) fun v6 h6 =>
      kk7 x0 x1 v5 x48 v6 h6) (
      gE r n x7 h1)
noncomputable def aNp (r : RT) (n : Nat) (m : Nat) : cA :=
 Nat.rec (motive := fun _ => cA) (fun _ _ _ _ _ _ => none) (fun _ ih => aZe r n ih) m
noncomputable def dHi (r : RT) (n : Nat) : cA := aNp r n n
noncomputable def bRy (r : RT) (n : Nat) (x0 x1 x7 x48 x49 : DV) (h0 : Hp) : aK :=
 dHi r n x0 x1 x7 x48 x49 h0
noncomputable def bTs (r : RT) (n : Nat) (x0 x1 x7 : DV) (h0 : Hp) : aK :=
 bnd (aO x0 h0) fun v1 h1 =>
 bnd (aB 0 v1 h1) fun v2 h2 =>
 bnd (aA v2 h2) fun v3 h3 =>
 bnd (jS [v3, x1] h3) fun v4 h4 =>
  bRy r n x0 x1 x7 v4 (aC 0) h4
noncomputable def bVy (r : RT) (n : Nat) (x0 x1 : DV) (h0 : Hp) : aK :=
 bTs r n x0 x1 .l0 h0
noncomputable def cBb (r : RT) (n : Nat) (x0 x1 x6 : DV) (h0 : Hp) : aK :=
 bnd (aO x0 h0) fun v1 h1 =>
 bnd (aB 0 v1 h1) fun v2 h2 =>
 bnd (aA v2 h2) fun v3 h3 =>
 bnd (isF [v3, x1] h3) fun v4 h4 =>
 bnd (eO .not v4 h4) fun v5 h5 =>
 bnd (gD v5 false (some (x6, h5)) h5) fun v6 h6 =>
 bnd (gD v5 false (some (x0, h6)) h6) fun v7 h7 =>
 bnd (gD v5 false (r 34 [v7, (aC 10)] h7) h7) fun v8 h8 =>
 bnd (gD v5 false (aF .neq v6 v8 h8) h8) fun v9 h9 =>
 bnd (gD v5 false (some (v9, h9)) h9) fun v10 h10 =>
 bnd (gD v10 true (some (x6, h10)) h10) fun v11 h11 =>
 bnd (gD v10 true (some (x0, h11)) h11) fun v12 h12 =>
 bnd (gD v10 true (r 34 [v12, (aC 11)] h12) h12) fun v13 h13 =>
 bnd (gD v10 true (aF .neq v11 v13 h13) h13) fun v14 h14 =>
 bnd (gD v5 false (aQ v10 v14 (.b false) h14) h14) fun v15 h15 =>
 bnd (aQ v5 (.b true) v15 h15) fun v16 h16 =>
 bnd (gD v16 false (some (x0, h16)) h16) fun v17 h17 =>
 bnd (gD v16 false (aO v17 h17) h17) fun v18 h18 =>
 bnd (gD v16 false (aB 0 v18 h18) h18) fun v19 h19 =>
 bnd (gD v16 false (aA v19 h19) h19) fun v20 h20 =>
 bnd (gD v16 false (some (x1, h20)) h20) fun v21 h21 =>
 bnd (gD v16 false (nG [v20, v21] h21) h21) fun v22 h22 =>
 bnd (gD v16 false (aF .neq v22 (aC 2) h22) h22) fun v23 h23 =>
 bnd (aQ v16 (.b true) v23 h23) fun v24 h24 =>
 aU v24 (
 some (.t [(.s []), (.b false)], h24)) (
  bVy r n x0 x1 h24)
noncomputable def bTw (r : RT) (n : Nat) (x0 x1 : DV) (h0 : Hp) : aK :=
 bnd (aO x0 h0) fun v1 h1 =>
 bnd (aB 0 v1 h1) fun v2 h2 =>
 bnd (aA v2 h2) fun v3 h3 =>
 bnd (mR [v3, x1] h3) fun v4 h4 =>
  cBb r n x0 x1 v4 h4
noncomputable def s72 (r : RT) (n : Nat) (x0 x1 : DV) (h0 : Hp) : aK :=
 bTw r n x0 x1 h0
noncomputable abbrev c72 : Code := cf Tryz.f72
noncomputable abbrev bFv : Code := cR c72
noncomputable abbrev bEf : Code := cR bFv
noncomputable abbrev bBu : Code := cR bEf
noncomputable abbrev bIc : Code := cR bBu
noncomputable abbrev eAe : Code := cR bIc
noncomputable abbrev aQs : Code := cL bIc
noncomputable abbrev bVs : Code := cR aQs
noncomputable abbrev bEh : Code := cL bVs
noncomputable abbrev sT : Code := cL bEh
noncomputable abbrev bZr : Code := cL aQs
noncomputable abbrev bQw : Code := cL bBu
noncomputable abbrev cFn : Code := cL bEf
noncomputable abbrev bXw : Code := cL bFv
noncomputable abbrev cJl : Code := cL c72
noncomputable abbrev r72 : K := aR CF Tryz.f72
noncomputable def D72 (r : RT) (n : Nat) (c : Code) (X : Nat → K) (k : K) : K := aM CF r 63 n c X r72 k
theorem dVz : D72 r n eAe x0 r72 = (K1 (gE r n) 7) :=
 (by kernel_rfl)
theorem cVh (kk7 : cA) (q0 : TT1) : D72 r n sT (xs x0 0 (K1 q0 7)) (K5 kk7 0 1 7 48 49) = fun (env : aV) (h : Hp) =>
 bnd (aF .lss (env 49) (env 48) h) fun v1 h1 =>
 aU v1 (
 bnd (r 111 [(env 0), (env 1), (env 49)] h1) fun v2 h2 =>
 bnd (eM .u8 v2 h2) fun v3 h3 =>
 bnd (aN [(.i .u8 (Int.ofNat 0))] 1 [(0, 1, v3)] h3) fun v4 h4 =>
 bnd (aX 1 1 (env 7) v4 h4) fun v5 h5 =>
 bnd (aF .add (env 49) (aC 1) h5) fun v6 h6 =>
      kk7 (env 0) (env 1) v5 (env 48) v6 h6) (
      q0 (env 7) h1) := by kernel_rfl
theorem cBe (kk7 : cA) : (fun (env : aV) (h : Hp) =>
 bnd (aF .lss (env 49) (env 48) h) fun v1 h1 =>
 aU v1 (
 bnd (r 111 [(env 0), (env 1), (env 49)] h1) fun v2 h2 =>
 bnd (eM .u8 v2 h2) fun v3 h3 =>
 bnd (aN [(.i .u8 (Int.ofNat 0))] 1 [(0, 1, v3)] h3) fun v4 h4 =>
 bnd (aX 1 1 (env 7) v4 h4) fun v5 h5 =>
 bnd (aF .add (env 49) (aC 1) h5) fun v6 h6 =>
      kk7 (env 0) (env 1) v5 (env 48) v6 h6) (
      gE r n (env 7) h1)) = (K5 (aZe r n kk7) 0 1 7 48 49) := by kernel_rfl
theorem dAa (kk7 : cA) : D72 r n sT (xs x0 0 (K1 (gE r n) 7)) (K5 kk7 0 1 7 48 49) = (K5 (aZe r n kk7) 0 1 7 48 49) :=
 (cVh r n kk7 (gE r n)).trans (cBe r n kk7)
theorem dAp (m : Nat) : aL (fun kk => D72 r n sT (xs x0 0 (K1 (gE r n) 7)) kk) m = (K5 (aNp r n m) 0 1 7 48 49) := by
 induction m with
 | zero => exact (by kernel_rfl : aL (fun kk => D72 r n sT (xs x0 0 (K1 (gE r n) 7)) kk) 0 = (K5 (aNp r n 0) 0 1 7 48 49))
 | succ m ih =>
  refine (by kernel_rfl : aL (fun kk => D72 r n sT (xs x0 0 (K1 (gE r n) 7)) kk) (m + 1) = D72 r n sT (xs x0 0 (K1 (gE r n) 7)) (aL (fun kk => D72 r n sT (xs x0 0 (K1 (gE r n) 7)) kk) m)).trans ?_
  rw [ih]
  exact (dAa r n (aNp r n m)).trans (by kernel_rfl)
theorem dMx : D72 r n bEh (xs x0 0 (K1 (gE r n) 7)) (K1 (gE r n) 7) = (K5 (dHi r n) 0 1 7 48 49) :=
 (by kernel_rfl : D72 r n bEh (xs x0 0 (K1 (gE r n) 7)) (K1 (gE r n) 7) = aL (fun kk => D72 r n sT (xs x0 0 (K1 (gE r n) 7)) kk) n).trans ((dAp r n n).trans (by kernel_rfl))
theorem dWh : D72 r n bVs x0 (K1 (gE r n) 7) = (K5 (bRy r n) 0 1 7 48 49) :=
 (by kernel_rfl : D72 r n bVs x0 (K1 (gE r n) 7) = D72 r n bEh (xs x0 0 (K1 (gE r n) 7)) (K1 (gE r n) 7)).trans
 ((dMx r n).trans (by kernel_rfl))
theorem dEz : D72 r n bIc x0 r72 = D72 r n aQs x0 (K1 (gE r n) 7) :=
 congrArg (fun k => D72 r n aQs x0 k) (dVz r n)
theorem cUs : D72 r n aQs x0 (K1 (gE r n) 7) = D72 r n bZr x0 (K5 (bRy r n) 0 1 7 48 49) :=
 congrArg (fun k => D72 r n bZr x0 k) (dWh r n)
theorem dUl : D72 r n bIc x0 r72 = (K3 (bTs r n) 0 1 7) :=
 (dEz r n).trans
 ((cUs r n).trans
 ((by kernel_rfl)))
theorem dDq : D72 r n bBu x0 r72 = D72 r n bQw x0 (K3 (bTs r n) 0 1 7) :=
 congrArg (fun k => D72 r n bQw x0 k) (dUl r n)
theorem dMz : D72 r n bBu x0 r72 = (K2 (bVy r n) 0 1) :=
 (dDq r n).trans
 ((by kernel_rfl))
theorem cPu : D72 r n bEf x0 r72 = D72 r n cFn x0 (K2 (bVy r n) 0 1) :=
 congrArg (fun k => D72 r n cFn x0 k) (dMz r n)
theorem dVp : D72 r n bEf x0 r72 = (K3 (cBb r n) 0 1 6) :=
 (cPu r n).trans
 ((by kernel_rfl))
theorem cUx : D72 r n bFv x0 r72 = D72 r n bXw x0 (K3 (cBb r n) 0 1 6) :=
 congrArg (fun k => D72 r n bXw x0 k) (dVp r n)
theorem dOx : D72 r n bFv x0 r72 = (K2 (bTw r n) 0 1) :=
 (cUx r n).trans
 ((by kernel_rfl))
theorem eAg : D72 r n c72 x0 r72 = D72 r n cJl x0 (K2 (bTw r n) 0 1) :=
 congrArg (fun k => D72 r n cJl x0 k) (dOx r n)
theorem eJk : D72 r n c72 x0 r72 = (K2 (s72 r n) 0 1) :=
 (eAg r n).trans
 ((by kernel_rfl))
theorem eFz : aE CF r n 72 args h = s72 r n (aP args 0) (aP args 1) h :=
 (by kernel_rfl : aE CF r n 72 args h = D72 r n c72 x0 r72 (aJ args) h).trans ((congrFun (congrFun (eJk r n) (aJ args)) h).trans (by kernel_rfl))
noncomputable def s77 (r : RT) (n : Nat) (x0 x1 : DV) (h0 : Hp) : aK :=
 bnd (r 123 [x0, x1] h0) fun v1 h1 =>
 bnd (aF .geq v1 (aC 0) h1) fun v2 h2 =>
 some (v2, h2)
noncomputable abbrev c77 : Code := cf Tryz.f77
noncomputable abbrev r77 : K := aR CF Tryz.f77
noncomputable def D77 (r : RT) (n : Nat) (c : Code) (X : Nat → K) (k : K) : K := aM CF r 9 n c X r77 k
theorem eNk : D77 r n c77 x0 r77 = (K2 (s77 r n) 0 1) :=
 (by kernel_rfl)
theorem eBl : aE CF r n 77 args h = s77 r n (aP args 0) (aP args 1) h :=
 (by kernel_rfl : aE CF r n 77 args h = D77 r n c77 x0 r77 (aJ args) h).trans ((congrFun (congrFun (eNk r n) (aJ args)) h).trans (by kernel_rfl))
noncomputable def s79 (r : RT) (n : Nat) (x0 : DV) (h0 : Hp) : aK :=
 bnd (qR (.slice 3) true x0 .l0 h0) fun v1 h1 =>
 aU v1 (
 some (.l0, h1)) (
 bnd (aN [] 0 [] h1) fun v2 h2 =>
 bnd (aX 1 8 v2 x0 h2) fun v3 h3 =>
 some (v3, h3))
noncomputable abbrev c79 : Code := cf Tryz.f79
noncomputable abbrev r79 : K := aR CF Tryz.f79
noncomputable def D79 (r : RT) (n : Nat) (c : Code) (X : Nat → K) (k : K) : K := aM CF r 8 n c X r79 k
theorem eNn : D79 r n c79 x0 r79 = (K1 (s79 r n) 0) :=
 (by kernel_rfl)
theorem eCp : aE CF r n 79 args h = s79 r n (aP args 0) h :=
 (by kernel_rfl : aE CF r n 79 args h = D79 r n c79 x0 r79 (aJ args) h).trans ((congrFun (congrFun (eNn r n) (aJ args)) h).trans (by kernel_rfl))
noncomputable def s86 (r : RT) (n : Nat) (x0 x1 : DV) (h0 : Hp) : aK :=
 bnd (aA x1 h0) fun v1 h1 =>
 bnd (aO v1 h1) fun v2 h2 =>
 bnd (aB 0 v2 h2) fun v3 h3 =>
 bnd (aA v3 h3) fun v4 h4 =>
 bnd (aBh [v4, x0] h4) fun v5 h5 =>
 bnd (eO .not v5 h5) fun v6 h6 =>
 some (v6, h6)
noncomputable abbrev c86 : Code := cf Tryz.f86
noncomputable abbrev r86 : K := aR CF Tryz.f86
noncomputable def D86 (r : RT) (n : Nat) (c : Code) (X : Nat → K) (k : K) : K := aM CF r 11 n c X r86 k
theorem eMn : D86 r n c86 x0 r86 = (K2 (s86 r n) 0 1) :=
 (by kernel_rfl)
theorem eGc : aE CF r n 86 args h = s86 r n (aP args 0) (aP args 1) h :=
 (by kernel_rfl : aE CF r n 86 args h = D86 r n c86 x0 r86 (aJ args) h).trans ((congrFun (congrFun (eMn r n) (aJ args)) h).trans (by kernel_rfl))
noncomputable def gZ (r : RT) (n : Nat) (x10 : DV) (h0 : Hp) : aK :=
 some (.t [x10, (aC 0)], h0)
noncomputable def bZu (r : RT) (n : Nat) (kk6 : cA) (x0 x10 x29 x30 x31 : DV) (h0 : Hp) : aK :=
 bnd (aF .lss x31 x30 h0) fun v1 h1 =>
 aU v1 (
 bnd (aI 1 x29 x31 h1) fun v2 h2 =>
 bnd (aA v2 h2) fun v3 h3 =>
 bnd (aO x0 h3) fun v4 h4 =>
 bnd (aB 0 v4 h4) fun v5 h5 =>
 bnd (aA v5 h5) fun v6 h6 =>
 bnd (aBj [v6, x10, x31, v3] h6) fun v7 h7 =>
 bnd (aF .add x31 (aC 1) h7) fun v8 h8 =>
      kk6 x0 x10 x29 x30 v8 h8) (
      gZ r n x10 h1)
noncomputable def aCt (r : RT) (n : Nat) (m : Nat) : cA :=
 Nat.rec (motive := fun _ => cA) (fun _ _ _ _ _ _ => none) (fun _ ih => bZu r n ih) m
noncomputable def dGn (r : RT) (n : Nat) : cA := aCt r n n
noncomputable def cAr (r : RT) (n : Nat) (x0 x10 x29 x30 x31 : DV) (h0 : Hp) : aK :=
 dGn r n x0 x10 x29 x30 x31 h0
noncomputable def cHk (r : RT) (n : Nat) (x0 x3 x10 : DV) (h0 : Hp) : aK :=
 bnd (bK x3 h0) fun v1 h1 =>
  cAr r n x0 x10 x3 v1 (aC 0) h1
noncomputable def bVn (r : RT) (n : Nat) (x0 x3 x10 x11 : DV) (h0 : Hp) : aK :=
 bnd (aF .neq x11 (aC 0) h0) fun v1 h1 =>
 aU v1 (
 some (.t [(aC 0), x11], h1)) (
  cHk r n x0 x3 x10 h1)
noncomputable def bSa (r : RT) (n : Nat) (x0 x1 x2 x3 : DV) (h0 : Hp) : aK :=
 bnd (aO x0 h0) fun v1 h1 =>
 bnd (aB 0 v1 h1) fun v2 h2 =>
 bnd (aA v2 h2) fun v3 h3 =>
 bnd (bK x3 h3) fun v4 h4 =>
 bnd (pK [v3, x1, x2, v4] h4) fun v5 h5 =>
 bnd (aG 0 v5 h5) fun v6 h6 =>
 bnd (aG 1 v5 h6) fun v7 h7 =>
  bVn r n x0 x3 v6 v7 h7
noncomputable def s87 (r : RT) (n : Nat) (x0 x1 x2 x3 : DV) (h0 : Hp) : aK :=
 bSa r n x0 x1 x2 x3 h0
noncomputable abbrev c87 : Code := cf Tryz.f87
noncomputable abbrev bIf : Code := cR c87
noncomputable abbrev bIr : Code := cR bIf
noncomputable abbrev bHt : Code := cR bIr
noncomputable abbrev eBt : Code := cR bHt
noncomputable abbrev aPh : Code := cL bHt
noncomputable abbrev bTp : Code := cR aPh
noncomputable abbrev bBq : Code := cL bTp
noncomputable abbrev wU : Code := cL bBq
noncomputable abbrev dGl : Code := cL aPh
noncomputable abbrev bRq : Code := cL bIr
noncomputable abbrev cMt : Code := cL bIf
noncomputable abbrev cCk : Code := cL c87
noncomputable abbrev r87 : K := aR CF Tryz.f87
noncomputable def D87 (r : RT) (n : Nat) (c : Code) (X : Nat → K) (k : K) : K := aM CF r 46 n c X r87 k
theorem dRq : D87 r n eBt x0 r87 = (K1 (gZ r n) 10) :=
 (by kernel_rfl)
theorem cRt (kk6 : cA) : D87 r n wU (xs x0 0 (K1 (gZ r n) 10)) (K5 kk6 0 10 29 30 31) = (K5 (bZu r n kk6) 0 10 29 30 31) :=
 (by kernel_rfl)
theorem cXn (m : Nat) : aL (fun kk => D87 r n wU (xs x0 0 (K1 (gZ r n) 10)) kk) m = (K5 (aCt r n m) 0 10 29 30 31) := by
 induction m with
 | zero => exact (by kernel_rfl : aL (fun kk => D87 r n wU (xs x0 0 (K1 (gZ r n) 10)) kk) 0 = (K5 (aCt r n 0) 0 10 29 30 31))
 | succ m ih =>
  refine (by kernel_rfl : aL (fun kk => D87 r n wU (xs x0 0 (K1 (gZ r n) 10)) kk) (m + 1) = D87 r n wU (xs x0 0 (K1 (gZ r n) 10)) (aL (fun kk => D87 r n wU (xs x0 0 (K1 (gZ r n) 10)) kk) m)).trans ?_
  rw [ih]
  exact (cRt r n (aCt r n m)).trans (by kernel_rfl)
theorem dXk : D87 r n bBq (xs x0 0 (K1 (gZ r n) 10)) (K1 (gZ r n) 10) = (K5 (dGn r n) 0 10 29 30 31) :=
 (by kernel_rfl : D87 r n bBq (xs x0 0 (K1 (gZ r n) 10)) (K1 (gZ r n) 10) = aL (fun kk => D87 r n wU (xs x0 0 (K1 (gZ r n) 10)) kk) n).trans ((cXn r n n).trans (by kernel_rfl))
theorem dQr : D87 r n bTp x0 (K1 (gZ r n) 10) = (K5 (cAr r n) 0 10 29 30 31) :=
 (by kernel_rfl : D87 r n bTp x0 (K1 (gZ r n) 10) = D87 r n bBq (xs x0 0 (K1 (gZ r n) 10)) (K1 (gZ r n) 10)).trans
 ((dXk r n).trans (by kernel_rfl))
theorem cQo : D87 r n bHt x0 r87 = D87 r n aPh x0 (K1 (gZ r n) 10) :=
 congrArg (fun k => D87 r n aPh x0 k) (dRq r n)
theorem dAc : D87 r n aPh x0 (K1 (gZ r n) 10) = D87 r n dGl x0 (K5 (cAr r n) 0 10 29 30 31) :=
 congrArg (fun k => D87 r n dGl x0 k) (dQr r n)
theorem dRy : D87 r n bHt x0 r87 = (K3 (cHk r n) 0 3 10) :=
 (cQo r n).trans
 ((dAc r n).trans
 ((by kernel_rfl)))
theorem cPq : D87 r n bIr x0 r87 = D87 r n bRq x0 (K3 (cHk r n) 0 3 10) :=
 congrArg (fun k => D87 r n bRq x0 k) (dRy r n)
theorem dUw : D87 r n bIr x0 r87 = (K4 (bVn r n) 0 3 10 11) :=
 (cPq r n).trans
 ((by kernel_rfl))
theorem cNv : D87 r n bIf x0 r87 = D87 r n cMt x0 (K4 (bVn r n) 0 3 10 11) :=
 congrArg (fun k => D87 r n cMt x0 k) (dUw r n)
theorem dWv : D87 r n bIf x0 r87 = (K4 (bSa r n) 0 1 2 3) :=
 (cNv r n).trans
 ((by kernel_rfl))
theorem dYo : D87 r n c87 x0 r87 = D87 r n cCk x0 (K4 (bSa r n) 0 1 2 3) :=
 congrArg (fun k => D87 r n cCk x0 k) (dWv r n)
theorem eKn : D87 r n c87 x0 r87 = (K4 (s87 r n) 0 1 2 3) :=
 (dYo r n).trans
 ((by kernel_rfl))
theorem eAx : aE CF r n 87 args h = s87 r n (aP args 0) (aP args 1) (aP args 2) (aP args 3) h :=
 (by kernel_rfl : aE CF r n 87 args h = D87 r n c87 x0 r87 (aJ args) h).trans ((congrFun (congrFun (eKn r n) (aJ args)) h).trans (by kernel_rfl))
noncomputable def s91 (r : RT) (n : Nat) (x0 : DV) (h0 : Hp) : aK :=
 bnd (bA cQ h0) fun v1 h1 =>
 bnd (r 133 [x0, (.f 134 [] [])] h1) fun v2 h2 =>
 bnd (aG 0 v2 h2) fun v3 h3 =>
 bnd (aG 1 v2 h3) fun v4 h4 =>
 bnd (aG 2 v2 h4) fun v5 h5 =>
 bnd (aD 6 v1 v3 h5) fun _ h6 =>
 bnd (aH 6 v1 h6) fun v7 _ =>
 some (.t [v7, v4, v5], h6)
noncomputable abbrev c91 : Code := cf Tryz.f91
noncomputable abbrev r91 : K := aR CF Tryz.f91
noncomputable def D91 (r : RT) (n : Nat) (c : Code) (X : Nat → K) (k : K) : K := aM CF r 10 n c X r91 k
theorem eLn : D91 r n c91 x0 r91 = (K1 (s91 r n) 0) :=
 (by kernel_rfl)
theorem eDd : aE CF r n 91 args h = s91 r n (aP args 0) h :=
 (by kernel_rfl : aE CF r n 91 args h = D91 r n c91 x0 r91 (aJ args) h).trans ((congrFun (congrFun (eLn r n) (aJ args)) h).trans (by kernel_rfl))
noncomputable def s92 (r : RT) (n : Nat) (x0 x1 : DV) (h0 : Hp) : aK :=
 bnd (bM x0 h0) fun v1 h1 =>
 bnd (bA [(.s []), (aC 0), (aC 0), (aC 0), .l0, .l0] h1) fun v2 h2 =>
 bnd (aH 6 v1 h2) fun v3 h3 =>
 bnd (r 135 [v3, x1, (.b false)] h3) fun v4 h4 =>
 bnd (aG 0 v4 h4) fun v5 h5 =>
 bnd (aG 1 v4 h5) fun v6 h6 =>
 bnd (aG 2 v4 h6) fun v7 h7 =>
 bnd (aD 6 v2 v5 h7) fun _ h8 =>
 bnd (aH 6 v2 h8) fun v9 _ =>
 some (.t [v9, v6, v7], h8)
noncomputable abbrev c92 : Code := cf Tryz.f92
noncomputable abbrev r92 : K := aR CF Tryz.f92
noncomputable def D92 (r : RT) (n : Nat) (c : Code) (X : Nat → K) (k : K) : K := aM CF r 13 n c X r92 k
theorem eNu : D92 r n c92 x0 r92 = (K2 (s92 r n) 0 1) :=
 (by kernel_rfl)
theorem eIc : aE CF r n 92 args h = s92 r n (aP args 0) (aP args 1) h :=
 (by kernel_rfl : aE CF r n 92 args h = D92 r n c92 x0 r92 (aJ args) h).trans ((congrFun (congrFun (eNu r n) (aJ args)) h).trans (by kernel_rfl))
noncomputable def s93 (r : RT) (n : Nat) (x0 x1 x2 : DV) (h0 : Hp) : aK :=
 bnd (bM x2 h0) fun v1 h1 =>
 bnd (aH 6 v1 h1) fun v2 h2 =>
 bnd (r 136 [x0, x1, v2] h2) fun v3 h3 =>
 bnd (aG 0 v3 h3) fun v4 h4 =>
 bnd (aG 1 v3 h4) fun v5 h5 =>
 bnd (aF .neq v5 (aC 0) h5) fun v6 h6 =>
 aU v6 (
 some (.t [(aC 0), v5], h6)) (
 bnd (r 111 [x0, v4, (aC 0)] h6) fun v7 h7 =>
 bnd (r 137 [x0, x1, v7, v4] h7) fun v8 h8 =>
 bnd (aF .neq v8 (aC 0) h8) fun v9 h9 =>
 aU v9 (
 some (.t [(aC 0), v8], h9)) (
 some (.t [v4, (aC 0)], h9)))
noncomputable abbrev c93 : Code := cf Tryz.f93
noncomputable abbrev r93 : K := aR CF Tryz.f93
noncomputable def D93 (r : RT) (n : Nat) (c : Code) (X : Nat → K) (k : K) : K := aM CF r 32 n c X r93 k
theorem eKc : D93 r n c93 x0 r93 = (K3 (s93 r n) 0 1 2) :=
 (by kernel_rfl)
theorem eHn : aE CF r n 93 args h = s93 r n (aP args 0) (aP args 1) (aP args 2) h :=
 (by kernel_rfl : aE CF r n 93 args h = D93 r n c93 x0 r93 (aJ args) h).trans ((congrFun (congrFun (eKc r n) (aJ args)) h).trans (by kernel_rfl))
noncomputable def s96 (r : RT) (n : Nat) (x0 x1 : DV) (h0 : Hp) : aK :=
 bnd (r 110 [x0, x1] h0) fun v1 h1 =>
 bnd (eO .not v1 h1) fun v2 h2 =>
 aU v2 (
 some ((aC 0), h2)) (
 bnd (r 111 [x0, x1, (aC 1)] h2) fun v3 h3 =>
 some (v3, h3))
noncomputable abbrev c96 : Code := cf Tryz.f96
noncomputable abbrev r96 : K := aR CF Tryz.f96
noncomputable def D96 (r : RT) (n : Nat) (c : Code) (X : Nat → K) (k : K) : K := aM CF r 12 n c X r96 k
theorem eOq : D96 r n c96 x0 r96 = (K2 (s96 r n) 0 1) :=
 (by kernel_rfl)
theorem eDl : aE CF r n 96 args h = s96 r n (aP args 0) (aP args 1) h :=
 (by kernel_rfl : aE CF r n 96 args h = D96 r n c96 x0 r96 (aJ args) h).trans ((congrFun (congrFun (eOq r n) (aJ args)) h).trans (by kernel_rfl))
end Go.Dd

namespace Go.Dd
open Go.Proofs
variable (r : RT) (n : Nat) (args : List DV) (h : Hp)
noncomputable def s100 (r : RT) (n : Nat) (x0 x1 : DV) (h0 : Hp) : aK :=
 bnd (aF .geq x1 (aC 0) h0) fun v1 h1 =>
 bnd (gD v1 true (some (x1, h1)) h1) fun v2 h2 =>
 bnd (gD v1 true (some (x0, h2)) h2) fun v3 h3 =>
 bnd (gD v1 true (aO v3 h3) h3) fun v4 h4 =>
 bnd (gD v1 true (aB 1 v4 h4) h4) fun v5 h5 =>
 bnd (gD v1 true (aA v5 h5) h5) fun v6 h6 =>
 bnd (gD v1 true (bK v6 h6) h6) fun v7 h7 =>
 bnd (gD v1 true (aF .lss v2 v7 h7) h7) fun v8 h8 =>
 bnd (aQ v1 v8 (.b false) h8) fun v9 h9 =>
 some (v9, h9)
noncomputable abbrev c100 : Code := cf Tryz.f100
noncomputable abbrev r100 : K := aR CF Tryz.f100
noncomputable def D100 (r : RT) (n : Nat) (c : Code) (X : Nat → K) (k : K) : K := aM CF r 16 n c X r100 k
theorem eCg : D100 r n c100 x0 r100 = (K2 (s100 r n) 0 1) :=
 (by kernel_rfl)
theorem dKx : aE CF r n 100 args h = s100 r n (aP args 0) (aP args 1) h :=
 (by kernel_rfl : aE CF r n 100 args h = D100 r n c100 x0 r100 (aJ args) h).trans ((congrFun (congrFun (eCg r n) (aJ args)) h).trans (by kernel_rfl))
noncomputable def aGm (r : RT) (n : Nat) (x0 x2 x9 x10 : DV) (h0 : Hp) : aK :=
 bnd (aF .eql x10 (aC 0) h0) fun v1 h1 =>
 aU v1 (
 bnd (aB 5 x9 h1) fun v2 h2 =>
 bnd (aA v2 h2) fun v3 h3 =>
 bnd (bK v3 h3) fun v4 h4 =>
 bnd (aF .lss x2 v4 h4) fun v5 h5 =>
 some (.t [(aC 0), x2, v5], h5)) (
 bnd (aO x0 h1) fun v6 h6 =>
 bnd (aB 0 v6 h6) fun v7 h7 =>
 bnd (aA v7 h7) fun v8 h8 =>
 bnd (r 56 [v8, x10] h8) fun v9 h9 =>
 bnd (aO x0 h9) fun v10 h10 =>
 bnd (aB 0 v10 h10) fun v11 h11 =>
 bnd (aA v11 h11) fun v12 h12 =>
 cnd (aW (aA v11 h1) v12 && true) (
 bnd (r 34 [v12, (aC 13)] h12) fun v13 h13 =>
 bnd (aF .eql v9 v13 h13) fun v14 h14 =>
 bnd (gD v14 true (some (x2, h14)) h14) fun v15 h15 =>
 bnd (gD v14 true (aF .add (aC 5) v15 h15) h15) fun v16 h16 =>
 bnd (gD v14 true (some (x0, h16)) h16) fun v17 h17 =>
 bnd (gD v14 true (aO v17 h17) h17) fun v18 h18 =>
 bnd (gD v14 true (aB 0 v18 h18) h18) fun v19 h19 =>
 bnd (gD v14 true (aA v19 h19) h19) fun v20 h20 =>
 bnd (gD v14 true (r 17 [v20] h20) h20) fun v21 h21 =>
 bnd (gD v14 true (some (x10, h21)) h21) fun v22 h22 =>
 bnd (gD v14 true (jS [v21, v22] h22) h22) fun v23 h23 =>
 bnd (gD v14 true (aF .lss v16 v23 h23) h23) fun v24 h24 =>
 bnd (aQ v14 v24 (.b false) h24) fun v25 h25 =>
 bnd (aF .add (aC 5) x2 h25) fun v26 h26 =>
 some (.t [x10, v26, v25], h26)))
noncomputable def aSi (r : RT) (n : Nat) (x0 x2 x9 x10 : DV) (h0 : Hp) : aK :=
 bnd (aB 2 x9 h0) fun v1 h1 =>
 bnd (aA v1 h1) fun v2 h2 =>
 bnd (aF .neq v2 (aC 0) h2) fun v3 h3 =>
 aU v3 (
 bnd (aB 2 x9 h3) fun v4 h4 =>
 bnd (aA v4 h4) fun v5 h5 =>
  aGm r n x0 x2 x9 v5 h5) (
  aGm r n x0 x2 x9 x10 h3)
noncomputable def xN (r : RT) (n : Nat) (x0 x2 x9 : DV) (h0 : Hp) : aK :=
 bnd (aB 4 x9 h0) fun v1 h1 =>
 bnd (aA v1 h1) fun v2 h2 =>
  aSi r n x0 x2 x9 v2 h2
noncomputable def aLo (r : RT) (n : Nat) (x0 x1 x2 : DV) (h0 : Hp) : aK :=
 bnd (aO x0 h0) fun v1 h1 =>
 bnd (aB 1 v1 h1) fun v2 h2 =>
 bnd (aA v2 h2) fun v3 h3 =>
 bnd (aI 10 v3 x1 h3) fun v4 h4 =>
 bnd (aH 10 v4 h4) fun v5 h5 =>
 bnd (bA [(aC 0), (aC 0), (aC 0), (aC 0), (aC 0), .l0, .l0, (.b false), (aC 0), (aC 0)] h5) fun v6 h6 =>
 bnd (aD 10 v6 v5 h6) fun _ h7 =>
  xN r n x0 x2 v6 h7
noncomputable def aWl (r : RT) (n : Nat) (x0 x1 x2 : DV) (h0 : Hp) : aK :=
 bnd (r 100 [x0, x1] h0) fun v1 h1 =>
 bnd (eO .not v1 h1) fun v2 h2 =>
 bnd (gD v2 false (some (x2, h2)) h2) fun v3 h3 =>
 bnd (gD v2 false (aF .lss v3 (aC 0) h3) h3) fun v4 h4 =>
 bnd (aQ v2 (.b true) v4 h4) fun v5 h5 =>
 aU v5 (
 some (.t [(aC 0), (aC 0), (.b false)], h5)) (
  aLo r n x0 x1 x2 h5)
noncomputable def s101 (r : RT) (n : Nat) (x0 x1 x2 : DV) (h0 : Hp) : aK :=
 aWl r n x0 x1 x2 h0
noncomputable abbrev c101 : Code := cf Tryz.f101
noncomputable abbrev aIv : Code := cR c101
noncomputable abbrev aCf : Code := cR aIv
noncomputable abbrev aGu : Code := cR aCf
noncomputable abbrev aJc : Code := cR aGu
noncomputable abbrev dRd : Code := cR aJc
noncomputable abbrev bQx : Code := cL aJc
noncomputable abbrev bTb : Code := cL aGu
noncomputable abbrev aXp : Code := cL aCf
noncomputable abbrev cAa : Code := cL aIv
noncomputable abbrev bIl : Code := cL c101
noncomputable abbrev r101 : K := aR CF Tryz.f101
noncomputable def D101 (r : RT) (n : Nat) (c : Code) (X : Nat → K) (k : K) : K := aM CF r 70 n c X r101 k
theorem dCl : D101 r n dRd x0 r101 = (K4 (aGm r n) 0 2 9 10) :=
 (by kernel_rfl)
theorem cIk : D101 r n aJc x0 r101 = D101 r n bQx x0 (K4 (aGm r n) 0 2 9 10) :=
 congrArg (fun k => D101 r n bQx x0 k) (dCl r n)
theorem dFk : D101 r n aJc x0 r101 = (K4 (aSi r n) 0 2 9 10) :=
 (cIk r n).trans
 ((by kernel_rfl))
theorem cBa : D101 r n aGu x0 r101 = D101 r n bTb x0 (K4 (aSi r n) 0 2 9 10) :=
 congrArg (fun k => D101 r n bTb x0 k) (dFk r n)
theorem cTj : D101 r n aGu x0 r101 = (K3 (xN r n) 0 2 9) :=
 (cBa r n).trans
 ((by kernel_rfl))
theorem bYi : D101 r n aCf x0 r101 = D101 r n aXp x0 (K3 (xN r n) 0 2 9) :=
 congrArg (fun k => D101 r n aXp x0 k) (cTj r n)
theorem cAl (q0 : dH) : D101 r n aXp x0 (K3 q0 0 2 9) = fun (env : aV) (h : Hp) =>
 bnd (aO (env 0) h) fun v1 h1 =>
 bnd (aB 1 v1 h1) fun v2 h2 =>
 bnd (aA v2 h2) fun v3 h3 =>
 bnd (aI 10 v3 (env 1) h3) fun v4 h4 =>
 bnd (aH 10 v4 h4) fun v5 h5 =>
 bnd (bA [(aC 0), (aC 0), (aC 0), (aC 0), (aC 0), .l0, .l0, (.b false), (aC 0), (aC 0)] h5) fun v6 h6 =>
 bnd (aD 10 v6 v5 h6) fun _ h7 =>
  q0 (env 0) (env 2) v6 h7 := by kernel_rfl
theorem bKr : (fun (env : aV) (h : Hp) =>
 bnd (aO (env 0) h) fun v1 h1 =>
 bnd (aB 1 v1 h1) fun v2 h2 =>
 bnd (aA v2 h2) fun v3 h3 =>
 bnd (aI 10 v3 (env 1) h3) fun v4 h4 =>
 bnd (aH 10 v4 h4) fun v5 h5 =>
 bnd (bA [(aC 0), (aC 0), (aC 0), (aC 0), (aC 0), .l0, .l0, (.b false), (aC 0), (aC 0)] h5) fun v6 h6 =>
 bnd (aD 10 v6 v5 h6) fun _ h7 =>
  xN r n (env 0) (env 2) v6 h7) = (K3 (aLo r n) 0 1 2) := by kernel_rfl
theorem cSa : D101 r n aCf x0 r101 = (K3 (aLo r n) 0 1 2) :=
 (bYi r n).trans
 ((cAl r n (xN r n)).trans (bKr r n))
theorem cLd : D101 r n aIv x0 r101 = D101 r n cAa x0 (K3 (aLo r n) 0 1 2) :=
 congrArg (fun k => D101 r n cAa x0 k) (cSa r n)
theorem cWl : D101 r n aIv x0 r101 = (K3 (aWl r n) 0 1 2) :=
 (cLd r n).trans
 ((by kernel_rfl))
theorem dIl : D101 r n c101 x0 r101 = D101 r n bIl x0 (K3 (aWl r n) 0 1 2) :=
 congrArg (fun k => D101 r n bIl x0 k) (cWl r n)
theorem eAo : D101 r n c101 x0 r101 = (K3 (s101 r n) 0 1 2) :=
 (dIl r n).trans
 ((by kernel_rfl))
theorem dLl : aE CF r n 101 args h = s101 r n (aP args 0) (aP args 1) (aP args 2) h :=
 (by kernel_rfl : aE CF r n 101 args h = D101 r n c101 x0 r101 (aJ args) h).trans ((congrFun (congrFun (eAo r n) (aJ args)) h).trans (by kernel_rfl))
noncomputable def eV (r : RT) (n : Nat) (h0 : Hp) : aK :=
 some ((.i .i64 (Int.negSucc 0)), h0)
noncomputable def bAk (r : RT) (n : Nat) (kk4 : dB) (x0 x1 x7 x8 : DV) (h0 : Hp) : aK :=
 bnd (aF .lss x8 x7 h0) fun v1 h1 =>
 aU v1 (
 bnd (aI 10 x0 x8 h1) fun v2 h2 =>
 bnd (aH 10 v2 h2) fun v3 h3 =>
 bnd (cK CF r x1 [v3] h3) fun v4 h4 =>
 aU v4 (
 some (x8, h4)) (
 bnd (aF .add x8 (aC 1) h4) fun v5 h5 =>
    kk4 x0 x1 x7 v5 h5)) (
      eV r n h1)
noncomputable def tW (r : RT) (n : Nat) (m : Nat) : dB :=
 Nat.rec (motive := fun _ => dB) (fun _ _ _ _ _ => none) (fun _ ih => bAk r n ih) m
noncomputable def bWd (r : RT) (n : Nat) : dB := tW r n n
noncomputable def aWp (r : RT) (n : Nat) (x0 x1 x7 x8 : DV) (h0 : Hp) : aK :=
 bWd r n x0 x1 x7 x8 h0
noncomputable def aYc (r : RT) (n : Nat) (x0 x1 : DV) (h0 : Hp) : aK :=
 bnd (bK x0 h0) fun v1 h1 =>
  aWp r n x0 x1 v1 (aC 0) h1
noncomputable def s102 (r : RT) (n : Nat) (x0 x1 : DV) (h0 : Hp) : aK :=
 aYc r n x0 x1 h0
noncomputable abbrev c102 : Code := cf Tryz.f102
noncomputable abbrev aNy : Code := cR c102
noncomputable abbrev dSo : Code := cR aNy
noncomputable abbrev zI : Code := cL aNy
noncomputable abbrev aWo : Code := cR zI
noncomputable abbrev aLi : Code := cL aWo
noncomputable abbrev nV : Code := cL aLi
noncomputable abbrev cKx : Code := cL zI
noncomputable abbrev cGc : Code := cL c102
noncomputable abbrev r102 : K := aR CF Tryz.f102
noncomputable def D102 (r : RT) (n : Nat) (c : Code) (X : Nat → K) (k : K) : K := aM CF r 19 n c X r102 k
theorem cYk : D102 r n dSo x0 r102 = (K0 (eV r n)) :=
 (by kernel_rfl)
theorem bSs (kk4 : dB) : D102 r n nV (xs x0 0 (K0 (eV r n))) (K4 kk4 0 1 7 8) = (K4 (bAk r n kk4) 0 1 7 8) :=
 (by kernel_rfl)
theorem bXg (m : Nat) : aL (fun kk => D102 r n nV (xs x0 0 (K0 (eV r n))) kk) m = (K4 (tW r n m) 0 1 7 8) := by
 induction m with
 | zero => exact (by kernel_rfl : aL (fun kk => D102 r n nV (xs x0 0 (K0 (eV r n))) kk) 0 = (K4 (tW r n 0) 0 1 7 8))
 | succ m ih =>
  refine (by kernel_rfl : aL (fun kk => D102 r n nV (xs x0 0 (K0 (eV r n))) kk) (m + 1) = D102 r n nV (xs x0 0 (K0 (eV r n))) (aL (fun kk => D102 r n nV (xs x0 0 (K0 (eV r n))) kk) m)).trans ?_
  rw [ih]
  exact (bSs r n (tW r n m)).trans (by kernel_rfl)
theorem dAm : D102 r n aLi (xs x0 0 (K0 (eV r n))) (K0 (eV r n)) = (K4 (bWd r n) 0 1 7 8) :=
 (by kernel_rfl : D102 r n aLi (xs x0 0 (K0 (eV r n))) (K0 (eV r n)) = aL (fun kk => D102 r n nV (xs x0 0 (K0 (eV r n))) kk) n).trans ((bXg r n n).trans (by kernel_rfl))
theorem cWa : D102 r n aWo x0 (K0 (eV r n)) = (K4 (aWp r n) 0 1 7 8) :=
 (by kernel_rfl : D102 r n aWo x0 (K0 (eV r n)) = D102 r n aLi (xs x0 0 (K0 (eV r n))) (K0 (eV r n))).trans
 ((dAm r n).trans (by kernel_rfl))
theorem bWj : D102 r n aNy x0 r102 = D102 r n zI x0 (K0 (eV r n)) :=
 congrArg (fun k => D102 r n zI x0 k) (cYk r n)
theorem bVe : D102 r n zI x0 (K0 (eV r n)) = D102 r n cKx x0 (K4 (aWp r n) 0 1 7 8) :=
 congrArg (fun k => D102 r n cKx x0 k) (cWa r n)
theorem cWm : D102 r n aNy x0 r102 = (K2 (aYc r n) 0 1) :=
 (bWj r n).trans
 ((bVe r n).trans
 ((by kernel_rfl)))
theorem dRb : D102 r n c102 x0 r102 = D102 r n cGc x0 (K2 (aYc r n) 0 1) :=
 congrArg (fun k => D102 r n cGc x0 k) (cWm r n)
theorem eBn : D102 r n c102 x0 r102 = (K2 (s102 r n) 0 1) :=
 (dRb r n).trans
 ((by kernel_rfl))
theorem dLg : aE CF r n 102 args h = s102 r n (aP args 0) (aP args 1) h :=
 (by kernel_rfl : aE CF r n 102 args h = D102 r n c102 x0 r102 (aJ args) h).trans ((congrFun (congrFun (eBn r n) (aJ args)) h).trans (by kernel_rfl))
noncomputable def s103 (r : RT) (n : Nat) (x0 x1 : DV) (h0 : Hp) : aK :=
 bnd (bM x0 h0) fun v1 h1 =>
 bnd (aB 4 v1 h1) fun v2 h2 =>
 bnd (aA v2 h2) fun v3 h3 =>
 bnd (aA x1 h3) fun v4 h4 =>
 bnd (aF .eql v3 v4 h4) fun v5 h5 =>
 bnd (gD v5 true (aA x1 h5) h5) fun v6 h6 =>
 bnd (gD v5 true (aF .neq v6 (aC 0) h6) h6) fun v7 h7 =>
 bnd (aQ v5 v7 (.b false) h7) fun v8 h8 =>
 some (v8, h8)
noncomputable abbrev c103 : Code := cf Tryz.f103
noncomputable abbrev r103 : K := aR CF Tryz.f103
noncomputable def D103 (r : RT) (n : Nat) (c : Code) (X : Nat → K) (k : K) : K := aM CF r 12 n c X r103 k
theorem eDo : D103 r n c103 x0 r103 = (K2 (s103 r n) 0 1) :=
 (by kernel_rfl)
theorem dNz : aE CF r n 103 args h = s103 r n (aP args 0) (aP args 1) h :=
 (by kernel_rfl : aE CF r n 103 args h = D103 r n c103 x0 r103 (aJ args) h).trans ((congrFun (congrFun (eDo r n) (aJ args)) h).trans (by kernel_rfl))
noncomputable def s110 (r : RT) (n : Nat) (x0 x1 : DV) (h0 : Hp) : aK :=
 bnd (aO x0 h0) fun v1 h1 =>
 bnd (aB 0 v1 h1) fun v2 h2 =>
 bnd (aA v2 h2) fun v3 h3 =>
 bnd (isF [v3, x1] h3) fun v4 h4 =>
 bnd (gD v4 true (some (x0, h4)) h4) fun v5 h5 =>
 bnd (gD v4 true (aO v5 h5) h5) fun v6 h6 =>
 bnd (gD v4 true (aB 0 v6 h6) h6) fun v7 h7 =>
 bnd (gD v4 true (aA v7 h7) h7) fun v8 h8 =>
 bnd (gD v4 true (some (x1, h8)) h8) fun v9 h9 =>
 bnd (gD v4 true (mR [v8, v9] h9) h9) fun v10 h10 =>
 bnd (gD v4 true (some (x0, h10)) h10) fun v11 h11 =>
 bnd (gD v4 true (r 34 [v11, (aC 1)] h11) h11) fun v12 h12 =>
 bnd (gD v4 true (aF .eql v10 v12 h12) h12) fun v13 h13 =>
 bnd (aQ v4 v13 (.b false) h13) fun v14 h14 =>
 bnd (gD v14 true (some (x0, h14)) h14) fun v15 h15 =>
 bnd (gD v14 true (aO v15 h15) h15) fun v16 h16 =>
 bnd (gD v14 true (aB 0 v16 h16) h16) fun v17 h17 =>
 bnd (gD v14 true (aA v17 h17) h17) fun v18 h18 =>
 bnd (gD v14 true (some (x1, h18)) h18) fun v19 h19 =>
 bnd (gD v14 true (jS [v18, v19] h19) h19) fun v20 h20 =>
 bnd (gD v14 true (aF .eql v20 (aC 6) h20) h20) fun v21 h21 =>
 bnd (aQ v14 v21 (.b false) h21) fun v22 h22 =>
 some (v22, h22)
noncomputable abbrev c110 : Code := cf Tryz.f110
noncomputable abbrev r110 : K := aR CF Tryz.f110
noncomputable def D110 (r : RT) (n : Nat) (c : Code) (X : Nat → K) (k : K) : K := aM CF r 31 n c X r110 k
theorem eDt : D110 r n c110 x0 r110 = (K2 (s110 r n) 0 1) :=
 (by kernel_rfl)
theorem dWd : aE CF r n 110 args h = s110 r n (aP args 0) (aP args 1) h :=
 (by kernel_rfl : aE CF r n 110 args h = D110 r n c110 x0 r110 (aJ args) h).trans ((congrFun (congrFun (eDt r n) (aJ args)) h).trans (by kernel_rfl))
noncomputable def s111 (r : RT) (n : Nat) (x0 x1 x2 : DV) (h0 : Hp) : aK :=
 bnd (aO x0 h0) fun v1 h1 =>
 bnd (aB 0 v1 h1) fun v2 h2 =>
 bnd (aA v2 h2) fun v3 h3 =>
 bnd (aQn [v3, x1, x2] h3) fun v4 h4 =>
 bnd (aG 0 v4 h4) fun v5 h5 =>
 bnd (aG 1 v4 h5) fun v6 h6 =>
 some (v5, h6)
noncomputable abbrev c111 : Code := cf Tryz.f111
noncomputable abbrev r111 : K := aR CF Tryz.f111
noncomputable def D111 (r : RT) (n : Nat) (c : Code) (X : Nat → K) (k : K) : K := aM CF r 20 n c X r111 k
theorem dZp : D111 r n c111 x0 r111 = (K3 (s111 r n) 0 1 2) :=
 (by kernel_rfl)
theorem dSs : aE CF r n 111 args h = s111 r n (aP args 0) (aP args 1) (aP args 2) h :=
 (by kernel_rfl : aE CF r n 111 args h = D111 r n c111 x0 r111 (aJ args) h).trans ((congrFun (congrFun (dZp r n) (aJ args)) h).trans (by kernel_rfl))
end Go.Dd

namespace Go.Dd
open Go.Proofs
variable (r : RT) (n : Nat) (args : List DV) (h : Hp)
noncomputable def eD (r : RT) (n : Nat) (x2 : DV) (h0 : Hp) : aK :=
 bnd (aB 5 x2 h0) fun v1 h1 =>
 bnd (aA v1 h1) fun v2 h2 =>
 bnd (r 147 [v2] h2) fun v3 h3 =>
 bnd (aB 5 x2 h3) fun v4 h4 =>
 bnd (aA v4 h4) fun v5 h5 =>
 bnd (r 148 [v5, v3] h5) fun v6 h6 =>
 bnd (eO .not v6 h6) fun v7 h7 =>
 aU v7 (
 some (.t [.l0, (aC 19)], h7)) (
 bnd (aB 5 x2 h7) fun v8 h8 =>
 bnd (aA v8 h8) fun v9 h9 =>
 bnd (r 149 [v9, v3] h9) fun v10 h10 =>
 bnd (aG 0 v10 h10) fun v11 h11 =>
 bnd (aG 1 v10 h11) fun v12 h12 =>
 bnd (eO .not v12 h12) fun v13 h13 =>
 aU v13 (
 some (.t [.l0, (aC 19)], h13)) (
 some (.t [v11, (aC 0)], h13)))
noncomputable def aNr (r : RT) (n : Nat) (kk7 : cA) (x1 x2 x60 x61 x62 : DV) (h0 : Hp) : aK :=
 bnd (aF .lss x62 x61 h0) fun v1 h1 =>
 aU v1 (
 bnd (aI 3 x60 x62 h1) fun v2 h2 =>
 bnd (aH 3 v2 h2) fun v3 h3 =>
 bnd (bA [(aC 0), (aC 0), (aC 0)] h3) fun v4 h4 =>
 bnd (aD 3 v4 v3 h4) fun _ h5 =>
 bnd (aH 3 v4 h5) fun v6 h6 =>
 bnd (r 145 [v6] h6) fun v7 h7 =>
 bnd (eO .not v7 h7) fun v8 h8 =>
 bnd (gD v8 false (aH 6 x2 h8) h8) fun v9 h9 =>
 bnd (gD v8 false (aH 3 v4 h9) h9) fun v10 h10 =>
 bnd (gD v8 false (some (x1, h10)) h10) fun v11 h11 =>
 bnd (gD v8 false (r 146 [v9, v10, v11] h11) h11) fun v12 h12 =>
 bnd (gD v8 false (eO .not v12 h12) h12) fun v13 h13 =>
 bnd (aQ v8 (.b true) v13 h13) fun v14 h14 =>
 aU v14 (
 some (.t [.l0, (aC 19)], h14)) (
 bnd (aF .add x62 (aC 1) h14) fun v15 h15 =>
    kk7 x1 x2 x60 x61 v15 h15)) (
      eD r n x2 h1)
noncomputable def vV (r : RT) (n : Nat) (m : Nat) : cA :=
 Nat.rec (motive := fun _ => cA) (fun _ _ _ _ _ _ => none) (fun _ ih => aNr r n ih) m
noncomputable def cMp (r : RT) (n : Nat) : cA := vV r n n
noncomputable def aTo (r : RT) (n : Nat) (x1 x2 x60 x61 x62 : DV) (h0 : Hp) : aK :=
 cMp r n x1 x2 x60 x61 x62 h0
noncomputable def aYa (r : RT) (n : Nat) (x1 x2 : DV) (h0 : Hp) : aK :=
 bnd (aB 5 x2 h0) fun v1 h1 =>
 bnd (aA v1 h1) fun v2 h2 =>
 bnd (bK v2 h2) fun v3 h3 =>
  aTo r n x1 x2 v2 v3 (aC 0) h3
noncomputable def bAc (r : RT) (n : Nat) (x1 x2 x6 x7 : DV) (h0 : Hp) : aK :=
 bnd (eO .not x6 h0) fun v1 h1 =>
 bnd (gD v1 false (some (x7, h1)) h1) fun v2 h2 =>
 bnd (aQ v1 (.b true) v2 h2) fun v3 h3 =>
 bnd (gD v3 false (aB 4 x2 h3) h3) fun v4 h4 =>
 bnd (gD v3 false (aA v4 h4) h4) fun v5 h5 =>
 bnd (gD v3 false (bK v5 h5) h5) fun v6 h6 =>
 bnd (gD v3 false (aF .gtr v6 (aC 60) h6) h6) fun v7 h7 =>
 bnd (aQ v3 (.b true) v7 h7) fun v8 h8 =>
 bnd (gD v8 false (aB 5 x2 h8) h8) fun v9 h9 =>
 bnd (gD v8 false (aA v9 h9) h9) fun v10 h10 =>
 bnd (gD v8 false (bK v10 h10) h10) fun v11 h11 =>
 bnd (gD v8 false (r 141 [v11, (aC 1), (aC 400)] h11) h11) fun v12 h12 =>
 bnd (gD v8 false (eO .not v12 h12) h12) fun v13 h13 =>
 bnd (aQ v8 (.b true) v13 h13) fun v14 h14 =>
 aU v14 (
 some (.t [.l0, (aC 19)], h14)) (
  aYa r n x1 x2 h14)
noncomputable def aWy (r : RT) (n : Nat) (x1 x2 x6 : DV) (h0 : Hp) : aK :=
 bnd (aB 4 x2 h0) fun v1 h1 =>
 bnd (aA v1 h1) fun v2 h2 =>
 bnd (r 142 [v2, (.f 143 [] [])] h2) fun v3 h3 =>
  bAc r n x1 x2 x6 v3 h3
noncomputable def aAl (r : RT) (n : Nat) (x1 x2 : DV) (h0 : Hp) : aK :=
 bnd (r 141 [x1, (aC 0), (aC 8)] h0) fun v1 h1 =>
 bnd (gD v1 true (aB 0 x2 h1) h1) fun v2 h2 =>
 bnd (gD v1 true (aA v2 h2) h2) fun v3 h3 =>
 bnd (gD v1 true (gA v3 h3) h3) fun v4 h4 =>
 bnd (gD v1 true (r 141 [v4, (aC 1), (aC 60)] h4) h4) fun v5 h5 =>
 bnd (aQ v1 v5 (.b false) h5) fun v6 h6 =>
 bnd (gD v6 true (aB 1 x2 h6) h6) fun v7 h7 =>
 bnd (gD v6 true (aA v7 h7) h7) fun v8 h8 =>
 bnd (gD v6 true (r 141 [v8, (aC 0), (aC 4)] h8) h8) fun v9 h9 =>
 bnd (aQ v6 v9 (.b false) h9) fun v10 h10 =>
 bnd (gD v10 true (aB 2 x2 h10) h10) fun v11 h11 =>
 bnd (gD v10 true (aA v11 h11) h11) fun v12 h12 =>
 bnd (gD v10 true (aB 1 x2 h12) h12) fun v13 h13 =>
 bnd (gD v10 true (aA v13 h13) h13) fun v14 h14 =>
 bnd (gD v10 true (r 141 [v12, v14, (aC 24)] h14) h14) fun v15 h15 =>
 bnd (aQ v10 v15 (.b false) h15) fun v16 h16 =>
 bnd (gD v16 true (aB 3 x2 h16) h16) fun v17 h17 =>
 bnd (gD v16 true (aA v17 h17) h17) fun v18 h18 =>
 bnd (gD v16 true (r 141 [v18, (aC 0), (aC 255)] h18) h18) fun v19 h19 =>
 bnd (aQ v16 v19 (.b false) h19) fun v20 h20 =>
  aWy r n x1 x2 v20 h20
noncomputable def s116 (r : RT) (n : Nat) (x0 x1 : DV) (h0 : Hp) : aK :=
 bnd (bM x0 h0) fun v1 h1 =>
  aAl r n x1 v1 h1
noncomputable abbrev c116 : Code := cf Tryz.f116
noncomputable abbrev aMg : Code := cR c116
noncomputable abbrev aNh : Code := cR aMg
noncomputable abbrev aMv : Code := cR aNh
noncomputable abbrev aKb : Code := cR aMv
noncomputable abbrev dXf : Code := cR aKb
noncomputable abbrev xZ : Code := cL aKb
noncomputable abbrev aUa : Code := cR xZ
noncomputable abbrev aLj : Code := cL aUa
noncomputable abbrev mY : Code := cL aLj
noncomputable abbrev bFp : Code := cL xZ
noncomputable abbrev bCg : Code := cL aMv
noncomputable abbrev bHz : Code := cL aNh
noncomputable abbrev bCx : Code := cL aMg
noncomputable abbrev aIf : Code := cL c116
noncomputable abbrev r116 : K := aR CF Tryz.f116
noncomputable def D116 (r : RT) (n : Nat) (c : Code) (X : Nat → K) (k : K) : K := aM CF r 95 n c X r116 k
theorem dEc : D116 r n dXf x0 r116 = (K1 (eD r n) 2) :=
 (by kernel_rfl)
theorem cFj (kk7 : cA) (q0 : TT1) : D116 r n mY (xs x0 0 (K1 q0 2)) (K5 kk7 1 2 60 61 62) = fun (env : aV) (h : Hp) =>
 bnd (aF .lss (env 62) (env 61) h) fun v1 h1 =>
 aU v1 (
 bnd (aI 3 (env 60) (env 62) h1) fun v2 h2 =>
 bnd (aH 3 v2 h2) fun v3 h3 =>
 bnd (bA [(aC 0), (aC 0), (aC 0)] h3) fun v4 h4 =>
 bnd (aD 3 v4 v3 h4) fun _ h5 =>
 bnd (aH 3 v4 h5) fun v6 h6 =>
 bnd (r 145 [v6] h6) fun v7 h7 =>
 bnd (eO .not v7 h7) fun v8 h8 =>
 bnd (gD v8 false (aH 6 (env 2) h8) h8) fun v9 h9 =>
 bnd (gD v8 false (aH 3 v4 h9) h9) fun v10 h10 =>
 bnd (gD v8 false (some ((env 1), h10)) h10) fun v11 h11 =>
 bnd (gD v8 false (r 146 [v9, v10, v11] h11) h11) fun v12 h12 =>
 bnd (gD v8 false (eO .not v12 h12) h12) fun v13 h13 =>
 bnd (aQ v8 (.b true) v13 h13) fun v14 h14 =>
 aU v14 (
 some (.t [.l0, (aC 19)], h14)) (
 bnd (aF .add (env 62) (aC 1) h14) fun v15 h15 =>
    kk7 (env 1) (env 2) (env 60) (env 61) v15 h15)) (
      q0 (env 2) h1) := by kernel_rfl
theorem bLx (kk7 : cA) : (fun (env : aV) (h : Hp) =>
 bnd (aF .lss (env 62) (env 61) h) fun v1 h1 =>
 aU v1 (
 bnd (aI 3 (env 60) (env 62) h1) fun v2 h2 =>
 bnd (aH 3 v2 h2) fun v3 h3 =>
 bnd (bA [(aC 0), (aC 0), (aC 0)] h3) fun v4 h4 =>
 bnd (aD 3 v4 v3 h4) fun _ h5 =>
 bnd (aH 3 v4 h5) fun v6 h6 =>
 bnd (r 145 [v6] h6) fun v7 h7 =>
 bnd (eO .not v7 h7) fun v8 h8 =>
 bnd (gD v8 false (aH 6 (env 2) h8) h8) fun v9 h9 =>
 bnd (gD v8 false (aH 3 v4 h9) h9) fun v10 h10 =>
 bnd (gD v8 false (some ((env 1), h10)) h10) fun v11 h11 =>
 bnd (gD v8 false (r 146 [v9, v10, v11] h11) h11) fun v12 h12 =>
 bnd (gD v8 false (eO .not v12 h12) h12) fun v13 h13 =>
 bnd (aQ v8 (.b true) v13 h13) fun v14 h14 =>
 aU v14 (
 some (.t [.l0, (aC 19)], h14)) (
 bnd (aF .add (env 62) (aC 1) h14) fun v15 h15 =>
    kk7 (env 1) (env 2) (env 60) (env 61) v15 h15)) (
      eD r n (env 2) h1)) = (K5 (aNr r n kk7) 1 2 60 61 62) := by kernel_rfl
theorem cNe (kk7 : cA) : D116 r n mY (xs x0 0 (K1 (eD r n) 2)) (K5 kk7 1 2 60 61 62) = (K5 (aNr r n kk7) 1 2 60 61 62) :=
 (cFj r n kk7 (eD r n)).trans (bLx r n kk7)
theorem cHv (m : Nat) : aL (fun kk => D116 r n mY (xs x0 0 (K1 (eD r n) 2)) kk) m = (K5 (vV r n m) 1 2 60 61 62) := by
 induction m with
 | zero => exact (by kernel_rfl : aL (fun kk => D116 r n mY (xs x0 0 (K1 (eD r n) 2)) kk) 0 = (K5 (vV r n 0) 1 2 60 61 62))
 | succ m ih =>
  refine (by kernel_rfl : aL (fun kk => D116 r n mY (xs x0 0 (K1 (eD r n) 2)) kk) (m + 1) = D116 r n mY (xs x0 0 (K1 (eD r n) 2)) (aL (fun kk => D116 r n mY (xs x0 0 (K1 (eD r n) 2)) kk) m)).trans ?_
  rw [ih]
  exact (cNe r n (vV r n m)).trans (by kernel_rfl)
theorem cZe : D116 r n aLj (xs x0 0 (K1 (eD r n) 2)) (K1 (eD r n) 2) = (K5 (cMp r n) 1 2 60 61 62) :=
 (by kernel_rfl : D116 r n aLj (xs x0 0 (K1 (eD r n) 2)) (K1 (eD r n) 2) = aL (fun kk => D116 r n mY (xs x0 0 (K1 (eD r n) 2)) kk) n).trans ((cHv r n n).trans (by kernel_rfl))
theorem cUf : D116 r n aUa x0 (K1 (eD r n) 2) = (K5 (aTo r n) 1 2 60 61 62) :=
 (by kernel_rfl : D116 r n aUa x0 (K1 (eD r n) 2) = D116 r n aLj (xs x0 0 (K1 (eD r n) 2)) (K1 (eD r n) 2)).trans
 ((cZe r n).trans (by kernel_rfl))
theorem bZm : D116 r n aKb x0 r116 = D116 r n xZ x0 (K1 (eD r n) 2) :=
 congrArg (fun k => D116 r n xZ x0 k) (dEc r n)
theorem cEx : D116 r n xZ x0 (K1 (eD r n) 2) = D116 r n bFp x0 (K5 (aTo r n) 1 2 60 61 62) :=
 congrArg (fun k => D116 r n bFp x0 k) (cUf r n)
theorem dFj : D116 r n aKb x0 r116 = (K2 (aYa r n) 1 2) :=
 (bZm r n).trans
 ((cEx r n).trans
 ((by kernel_rfl)))
theorem cJi : D116 r n aMv x0 r116 = D116 r n bCg x0 (K2 (aYa r n) 1 2) :=
 congrArg (fun k => D116 r n bCg x0 k) (dFj r n)
theorem cZi : D116 r n aMv x0 r116 = (K4 (bAc r n) 1 2 6 7) :=
 (cJi r n).trans
 ((by kernel_rfl))
theorem cKo : D116 r n aNh x0 r116 = D116 r n bHz x0 (K4 (bAc r n) 1 2 6 7) :=
 congrArg (fun k => D116 r n bHz x0 k) (cZi r n)
theorem cSb : D116 r n aNh x0 r116 = (K3 (aWy r n) 1 2 6) :=
 (cKo r n).trans
 ((by kernel_rfl))
theorem cEv : D116 r n aMg x0 r116 = D116 r n bCx x0 (K3 (aWy r n) 1 2 6) :=
 congrArg (fun k => D116 r n bCx x0 k) (cSb r n)
theorem cRi : D116 r n aMg x0 r116 = (K2 (aAl r n) 1 2) :=
 (cEv r n).trans
 ((by kernel_rfl))
theorem dUk : D116 r n c116 x0 r116 = D116 r n aIf x0 (K2 (aAl r n) 1 2) :=
 congrArg (fun k => D116 r n aIf x0 k) (cRi r n)
theorem dNn (q0 : eN) : D116 r n aIf x0 (K2 q0 1 2) = fun (env : aV) (h : Hp) =>
 bnd (bM (env 0) h) fun v1 h1 =>
  q0 (env 1) v1 h1 := by kernel_rfl
theorem dBg : (fun (env : aV) (h : Hp) =>
 bnd (bM (env 0) h) fun v1 h1 =>
  aAl r n (env 1) v1 h1) = (K2 (s116 r n) 0 1) := by kernel_rfl
theorem eBd : D116 r n c116 x0 r116 = (K2 (s116 r n) 0 1) :=
 (dUk r n).trans
 ((dNn r n (aAl r n)).trans (dBg r n))
theorem dSj : aE CF r n 116 args h = s116 r n (aP args 0) (aP args 1) h :=
 (by kernel_rfl : aE CF r n 116 args h = D116 r n c116 x0 r116 (aJ args) h).trans ((congrFun (congrFun (eBd r n) (aJ args)) h).trans (by kernel_rfl))
noncomputable def fB (r : RT) (n : Nat) (h0 : Hp) : aK :=
 some ((.i .i64 (Int.negSucc 0)), h0)
noncomputable def bJe (r : RT) (n : Nat) (kk4 : dB) (x0 x1 x7 x8 : DV) (h0 : Hp) : aK :=
 bnd (aF .lss x8 x7 h0) fun v1 h1 =>
 aU v1 (
 bnd (aI 1 x0 x8 h1) fun v2 h2 =>
 bnd (aA v2 h2) fun v3 h3 =>
 bnd (cK CF r x1 [v3] h3) fun v4 h4 =>
 aU v4 (
 some (x8, h4)) (
 bnd (aF .add x8 (aC 1) h4) fun v5 h5 =>
    kk4 x0 x1 x7 v5 h5)) (
      fB r n h1)
noncomputable def uN (r : RT) (n : Nat) (m : Nat) : dB :=
 Nat.rec (motive := fun _ => dB) (fun _ _ _ _ _ => none) (fun _ ih => bJe r n ih) m
noncomputable def cEc (r : RT) (n : Nat) : dB := uN r n n
noncomputable def aZz (r : RT) (n : Nat) (x0 x1 x7 x8 : DV) (h0 : Hp) : aK :=
 cEc r n x0 x1 x7 x8 h0
noncomputable def aZn (r : RT) (n : Nat) (x0 x1 : DV) (h0 : Hp) : aK :=
 bnd (bK x0 h0) fun v1 h1 =>
  aZz r n x0 x1 v1 (aC 0) h1
noncomputable def s123 (r : RT) (n : Nat) (x0 x1 : DV) (h0 : Hp) : aK :=
 aZn r n x0 x1 h0
noncomputable abbrev c123 : Code := cf Tryz.f123
noncomputable abbrev aOc : Code := cR c123
noncomputable abbrev dQn : Code := cR aOc
noncomputable abbrev wV : Code := cL aOc
noncomputable abbrev aUs : Code := cR wV
noncomputable abbrev aDq : Code := cL aUs
noncomputable abbrev nS : Code := cL aDq
noncomputable abbrev cKr : Code := cL wV
noncomputable abbrev cGn : Code := cL c123
noncomputable abbrev r123 : K := aR CF Tryz.f123
noncomputable def D123 (r : RT) (n : Nat) (c : Code) (X : Nat → K) (k : K) : K := aM CF r 19 n c X r123 k
theorem cNx : D123 r n dQn x0 r123 = (K0 (fB r n)) :=
 (by kernel_rfl)
theorem bYx (kk4 : dB) : D123 r n nS (xs x0 0 (K0 (fB r n))) (K4 kk4 0 1 7 8) = (K4 (bJe r n kk4) 0 1 7 8) :=
 (by kernel_rfl)
theorem cIf (m : Nat) : aL (fun kk => D123 r n nS (xs x0 0 (K0 (fB r n))) kk) m = (K4 (uN r n m) 0 1 7 8) := by
 induction m with
 | zero => exact (by kernel_rfl : aL (fun kk => D123 r n nS (xs x0 0 (K0 (fB r n))) kk) 0 = (K4 (uN r n 0) 0 1 7 8))
 | succ m ih =>
  refine (by kernel_rfl : aL (fun kk => D123 r n nS (xs x0 0 (K0 (fB r n))) kk) (m + 1) = D123 r n nS (xs x0 0 (K0 (fB r n))) (aL (fun kk => D123 r n nS (xs x0 0 (K0 (fB r n))) kk) m)).trans ?_
  rw [ih]
  exact (bYx r n (uN r n m)).trans (by kernel_rfl)
theorem cPg : D123 r n aDq (xs x0 0 (K0 (fB r n))) (K0 (fB r n)) = (K4 (cEc r n) 0 1 7 8) :=
 (by kernel_rfl : D123 r n aDq (xs x0 0 (K0 (fB r n))) (K0 (fB r n)) = aL (fun kk => D123 r n nS (xs x0 0 (K0 (fB r n))) kk) n).trans ((cIf r n n).trans (by kernel_rfl))
theorem cWk : D123 r n aUs x0 (K0 (fB r n)) = (K4 (aZz r n) 0 1 7 8) :=
 (by kernel_rfl : D123 r n aUs x0 (K0 (fB r n)) = D123 r n aDq (xs x0 0 (K0 (fB r n))) (K0 (fB r n))).trans
 ((cPg r n).trans (by kernel_rfl))
theorem bWw : D123 r n aOc x0 r123 = D123 r n wV x0 (K0 (fB r n)) :=
 congrArg (fun k => D123 r n wV x0 k) (cNx r n)
theorem bUu : D123 r n wV x0 (K0 (fB r n)) = D123 r n cKr x0 (K4 (aZz r n) 0 1 7 8) :=
 congrArg (fun k => D123 r n cKr x0 k) (cWk r n)
theorem cUl : D123 r n aOc x0 r123 = (K2 (aZn r n) 0 1) :=
 (bWw r n).trans
 ((bUu r n).trans
 ((by kernel_rfl)))
theorem dOv : D123 r n c123 x0 r123 = D123 r n cGn x0 (K2 (aZn r n) 0 1) :=
 congrArg (fun k => D123 r n cGn x0 k) (cUl r n)
theorem eAp : D123 r n c123 x0 r123 = (K2 (s123 r n) 0 1) :=
 (dOv r n).trans
 ((by kernel_rfl))
theorem dJk : aE CF r n 123 args h = s123 r n (aP args 0) (aP args 1) h :=
 (by kernel_rfl : aE CF r n 123 args h = D123 r n c123 x0 r123 (aJ args) h).trans ((congrFun (congrFun (eAp r n) (aJ args)) h).trans (by kernel_rfl))
end Go.Dd

namespace Go.Dd
open Go.Proofs
variable (r : RT) (n : Nat) (args : List DV) (h : Hp)
noncomputable def s132 (r : RT) (n : Nat) (x0 x1 : DV) (h0 : Hp) : aK :=
 bnd (r 110 [x0, x1] h0) fun v1 h1 =>
 bnd (eO .not v1 h1) fun v2 h2 =>
 aU v2 (
 some ((aC 0), h2)) (
 bnd (r 111 [x0, x1, (aC 2)] h2) fun v3 h3 =>
 bnd (nB [v3] h3) fun v4 h4 =>
 some (v4, h4))
noncomputable abbrev c132 : Code := cf Tryz.f132
noncomputable abbrev r132 : K := aR CF Tryz.f132
noncomputable def D132 (r : RT) (n : Nat) (c : Code) (X : Nat → K) (k : K) : K := aM CF r 13 n c X r132 k
theorem eEl : D132 r n c132 x0 r132 = (K2 (s132 r n) 0 1) :=
 (by kernel_rfl)
theorem dMs : aE CF r n 132 args h = s132 r n (aP args 0) (aP args 1) h :=
 (by kernel_rfl : aE CF r n 132 args h = D132 r n c132 x0 r132 (aJ args) h).trans ((congrFun (congrFun (eEl r n) (aJ args)) h).trans (by kernel_rfl))
noncomputable def s133 (r : RT) (n : Nat) (x0 x1 : DV) (h0 : Hp) : aK :=
 bnd (bA cQ h0) fun v1 h1 =>
 bnd (r 153 [x0] h1) fun v2 h2 =>
 bnd (aG 0 v2 h2) fun v3 h3 =>
 bnd (aG 1 v2 h3) fun v4 h4 =>
 bnd (aG 2 v2 h4) fun v5 h5 =>
 bnd (aF .neq v5 (aC 0) h5) fun v6 h6 =>
 aU v6 (
 bnd (aT cQ [] h6) fun v7 h7 =>
 bnd (aD 6 v1 v7 h7) fun _ h8 =>
 bnd (aH 6 v1 h8) fun v9 _ =>
 some (.t [v9, v4, v5], h8)) (
 bnd (aT [.l0, (aC 0), (aC 0), (aC 0)] [(0, 1, v3)] h6) fun v10 h10 =>
 bnd (bM v10 h10) fun v11 h11 =>
 bnd (cK CF r x1 [v11] h11) fun v12 h12 =>
 bnd (bA cQ h12) fun v13 h13 =>
 bnd (aD 6 v13 v12 h13) fun _ h14 =>
 bnd (r 154 [v11] h14) fun v15 h15 =>
 bnd (aB 4 v13 h15) fun v16 h16 =>
 bnd (aD 1 v16 v15 h16) fun _ h17 =>
 bnd (r 155 [v11] h17) fun v18 h18 =>
 bnd (aB 5 v13 h18) fun v19 h19 =>
 bnd (aD 1 v19 v18 h19) fun _ h20 =>
 bnd (r 156 [v11, (aC 0), (.s [])] h20) fun v21 h21 =>
 bnd (aO v11 h21) fun v22 h22 =>
 bnd (aB 3 v22 h22) fun v23 h23 =>
 bnd (aA v23 h23) fun v24 h24 =>
 bnd (aF .neq v24 (aC 0) h24) fun v25 h25 =>
 aU v25 (
 bnd (aT cQ [] h25) fun v26 h26 =>
 bnd (aO v11 h26) fun v27 h27 =>
 bnd (aB 2 v27 h27) fun v28 h28 =>
 bnd (aA v28 h28) fun v29 h29 =>
 bnd (aO v11 h29) fun v30 h30 =>
 bnd (aB 3 v30 h30) fun v31 h31 =>
 bnd (aA v31 h31) fun v32 h32 =>
 bnd (aD 6 v1 v26 h32) fun v33 h33 =>
 cnd (aW (aA v31 h33) v32 && (aW (aA v28 h33) v29 && true)) (
 bnd (aH 6 v1 h33) fun v34 _ =>
 some (.t [v34, v29, v32], h33))) (
 bnd (aH 6 v13 h25) fun v35 h35 =>
 bnd (aD 6 v1 v35 h35) fun _ h36 =>
 bnd (aH 6 v1 h36) fun v37 _ =>
 some (.t [v37, (aC 0), (aC 0)], h36)))
noncomputable abbrev c133 : Code := cf Tryz.f133
noncomputable abbrev r133 : K := aR CF Tryz.f133
noncomputable def D133 (r : RT) (n : Nat) (c : Code) (X : Nat → K) (k : K) : K := aM CF r 52 n c X r133 k
theorem dZj : D133 r n c133 x0 r133 = (K2 (s133 r n) 0 1) :=
 (by kernel_rfl)
theorem dLa : aE CF r n 133 args h = s133 r n (aP args 0) (aP args 1) h :=
 (by kernel_rfl : aE CF r n 133 args h = D133 r n c133 x0 r133 (aJ args) h).trans ((congrFun (congrFun (dZj r n) (aJ args)) h).trans (by kernel_rfl))
noncomputable def s134 (r : RT) (n : Nat) (x0 : DV) (h0 : Hp) : aK :=
 bnd (bA cQ h0) fun v1 h1 =>
 bnd (aT cQ [(0, 1, (aC 11))] h1) fun v2 h2 =>
 bnd (bA cQ h2) fun v3 h3 =>
 bnd (aD 6 v3 v2 h3) fun _ h4 =>
 bnd (r 157 [x0, v3] h4) fun v5 h5 =>
 bnd (r 158 [x0] h5) fun v6 h6 =>
 bnd (aB 2 v3 h6) fun v7 h7 =>
 bnd (aD 1 v7 v6 h7) fun _ h8 =>
 bnd (aH 6 v3 h8) fun v9 h9 =>
 bnd (aD 6 v1 v9 h9) fun _ h10 =>
 bnd (aH 6 v1 h10) fun v11 _ =>
 some (v11, h10)
noncomputable abbrev c134 : Code := cf Tryz.f134
noncomputable abbrev r134 : K := aR CF Tryz.f134
noncomputable def D134 (r : RT) (n : Nat) (c : Code) (X : Nat → K) (k : K) : K := aM CF r 11 n c X r134 k
theorem eBa : D134 r n c134 x0 r134 = (K1 (s134 r n) 0) :=
 (by kernel_rfl)
theorem dVy : aE CF r n 134 args h = s134 r n (aP args 0) h :=
 (by kernel_rfl : aE CF r n 134 args h = D134 r n c134 x0 r134 (aJ args) h).trans ((congrFun (congrFun (eBa r n) (aJ args)) h).trans (by kernel_rfl))
noncomputable def dY (r : RT) (n : Nat) (x6 x9 : DV) (h0 : Hp) : aK :=
 bnd (aO x9 h0) fun v1 h1 =>
 bnd (aB 0 v1 h1) fun v2 h2 =>
 bnd (aH 6 v2 h2) fun v3 h3 =>
 bnd (aD 6 x6 v3 h3) fun _ h4 =>
 bnd (aH 6 x6 h4) fun v5 _ =>
 some (.t [v5, (.s []), (aC 0)], h4)
noncomputable def aOo (r : RT) (n : Nat) (kk9 : cA) (x6 x9 x94 x95 x96 : DV) (h0 : Hp) : aK :=
 bnd (aF .lss x96 x95 h0) fun v1 h1 =>
 aU v1 (
 bnd (aI 3 x94 x96 h1) fun v2 h2 =>
 bnd (aH 3 v2 h2) fun v3 h3 =>
 bnd (bA [(aC 0), (aC 0), (aC 0)] h3) fun v4 h4 =>
 bnd (aD 3 v4 v3 h4) fun _ h5 =>
 bnd (aH 3 v4 h5) fun v6 h6 =>
 bnd (r 145 [v6] h6) fun v7 h7 =>
 bnd (eO .not v7 h7) fun v8 h8 =>
 aU v8 (
 bnd (aT [(.s []), (aC 0), (aC 0), (aC 0), .l0, .l0] [] h8) fun v9 h9 =>
 bnd (aD 6 x6 v9 h9) fun _ h10 =>
 bnd (aH 6 x6 h10) fun v11 _ =>
 some (.t [v11, (.s []), (aC 12)], h10)) (
 bnd (aF .add x96 (aC 1) h8) fun v12 h12 =>
    kk9 x6 x9 x94 x95 v12 h12)) (
      dY r n x6 x9 h1)
noncomputable def uX (r : RT) (n : Nat) (m : Nat) : cA :=
 Nat.rec (motive := fun _ => cA) (fun _ _ _ _ _ _ => none) (fun _ ih => aOo r n ih) m
noncomputable def cBq (r : RT) (n : Nat) : cA := uX r n n
noncomputable def aXk (r : RT) (n : Nat) (x6 x9 x94 x95 x96 : DV) (h0 : Hp) : aK :=
 cBq r n x6 x9 x94 x95 x96 h0
noncomputable def aAn (r : RT) (n : Nat) (x6 x9 : DV) (h0 : Hp) : aK :=
 bnd (aO x9 h0) fun v1 h1 =>
 bnd (aB 0 v1 h1) fun v2 h2 =>
 bnd (aB 5 v2 h2) fun v3 h3 =>
 bnd (aA v3 h3) fun v4 h4 =>
 bnd (bK v4 h4) fun v5 h5 =>
  aXk r n x6 x9 v4 v5 (aC 0) h5
noncomputable def aEj (r : RT) (n : Nat) (x6 x9 : DV) (h0 : Hp) : aK :=
 bnd (aO x9 h0) fun v1 h1 =>
 bnd (aB 8 v1 h1) fun v2 h2 =>
 bnd (aA v2 h2) fun v3 h3 =>
 bnd (aF .neq v3 (aC 0) h3) fun v4 h4 =>
 aU v4 (
 bnd (aT [(.s []), (aC 0), (aC 0), (aC 0), .l0, .l0] [] h4) fun v5 h5 =>
 bnd (aO x9 h5) fun v6 h6 =>
 bnd (aB 7 v6 h6) fun v7 h7 =>
 bnd (aA v7 h7) fun v8 h8 =>
 bnd (aO x9 h8) fun v9 h9 =>
 bnd (aB 8 v9 h9) fun v10 h10 =>
 bnd (aA v10 h10) fun v11 h11 =>
 bnd (aD 6 x6 v5 h11) fun v12 h12 =>
 cnd (aW (aA v10 h12) v11 && (aW (aA v7 h12) v8 && true)) (
 bnd (aH 6 x6 h12) fun v13 _ =>
 some (.t [v13, v8, v11], h12))) (
 bnd (aO x9 h4) fun v14 h14 =>
 bnd (aB 0 v14 h14) fun v15 h15 =>
 bnd (aB 4 v15 h15) fun v16 h16 =>
 bnd (aA v16 h16) fun v17 h17 =>
 bnd (bK v17 h17) fun v18 h18 =>
 bnd (aF .gtr v18 (aC 60) h18) fun v19 h19 =>
 aU v19 (
 bnd (aT [(.s []), (aC 0), (aC 0), (aC 0), .l0, .l0] [] h19) fun v20 h20 =>
 bnd (aD 6 x6 v20 h20) fun _ h21 =>
 bnd (aH 6 x6 h21) fun v22 _ =>
 some (.t [v22, (.s []), (aC 18)], h21)) (
 bnd (aO x9 h19) fun v23 h23 =>
 bnd (aB 0 v23 h23) fun v24 h24 =>
 bnd (aB 5 v24 h24) fun v25 h25 =>
 bnd (aA v25 h25) fun v26 h26 =>
 bnd (bK v26 h26) fun v27 h27 =>
 bnd (aF .gtr v27 (aC 400) h27) fun v28 h28 =>
 aU v28 (
 bnd (aT [(.s []), (aC 0), (aC 0), (aC 0), .l0, .l0] [] h28) fun v29 h29 =>
 bnd (aD 6 x6 v29 h29) fun _ h30 =>
 bnd (aH 6 x6 h30) fun v31 _ =>
 some (.t [v31, (.s []), (aC 12)], h30)) (
    aAn r n x6 x9 h28)))
noncomputable def eB (r : RT) (n : Nat) (x2 x3 x6 x9 : DV) (h0 : Hp) : aK :=
 bnd (aH 6 x3 h0) fun v1 h1 =>
 bnd (r 159 [x9, v1, x2] h1) fun v2 h2 =>
  aEj r n x6 x9 h2
noncomputable def aAw (r : RT) (n : Nat) (kk11 : TT7) (x2 x3 x6 x9 x33 x34 x35 : DV) (h0 : Hp) : aK :=
 bnd (aF .lss x35 x34 h0) fun v1 h1 =>
 aU v1 (
 bnd (aI 1 x33 x35 h1) fun v2 h2 =>
 bnd (aA v2 h2) fun v3 h3 =>
 bnd (aO x9 h3) fun v4 h4 =>
 bnd (aB 6 v4 h4) fun v5 h5 =>
 bnd (aA v5 h5) fun v6 h6 =>
 bnd (aT [(.s []), (.b false), (.b false), (aC 0)] [(0, 1, v3), (1, 1, (.b true)), (2, 1, (.b false)), (3, 1, x35)] h6) fun v7 h7 =>
 bnd (aN [(.s []), (.b false), (.b false), (aC 0)] 1 [(0, 4, v7)] h7) fun v8 h8 =>
 bnd (aX 4 32 v6 v8 h8) fun v9 h9 =>
 bnd (aO x9 h9) fun v10 h10 =>
 bnd (aB 6 v10 h10) fun v11 h11 =>
 bnd (aD 1 v11 v9 h11) fun _ h12 =>
 bnd (aF .add x35 (aC 1) h12) fun v13 h13 =>
      kk11 x2 x3 x6 x9 x33 x34 v13 h13) (
      eB r n x2 x3 x6 x9 h1)
noncomputable def pI (r : RT) (n : Nat) (m : Nat) : TT7 :=
 Nat.rec (motive := fun _ => TT7) (fun _ _ _ _ _ _ _ _ => none) (fun _ ih => aAw r n ih) m
noncomputable def bIk (r : RT) (n : Nat) : TT7 := pI r n n
noncomputable def aJm (r : RT) (n : Nat) (x2 x3 x6 x9 x33 x34 x35 : DV) (h0 : Hp) : aK :=
 bIk r n x2 x3 x6 x9 x33 x34 x35 h0
noncomputable def zV (r : RT) (n : Nat) (x1 x2 x3 x6 x9 : DV) (h0 : Hp) : aK :=
 bnd (bK x1 h0) fun v1 h1 =>
  aJm r n x2 x3 x6 x9 x1 v1 (aC 0) h1
noncomputable def rW (r : RT) (n : Nat) (x1 x2 x3 x6 : DV) (h0 : Hp) : aK :=
 bnd (aB 1 x3 h0) fun v1 h1 =>
 bnd (aA v1 h1) fun v2 h2 =>
 bnd (aB 3 x3 h2) fun v3 h3 =>
 bnd (aA v3 h3) fun v4 h4 =>
 bnd (bK v4 h4) fun v5 h5 =>
 bnd (aB 2 x3 h5) fun v6 h6 =>
 bnd (aA v6 h6) fun v7 h7 =>
 bnd (aT [(.s []), (aC 0), (aC 0), (aC 0), .l0, .l0] [(0, 1, v2), (1, 1, v5), (3, 1, v7)] h7) fun v8 h8 =>
 bnd (aT [(.s []), (aC 0), (aC 0), (aC 0), .l0, .l0, .l0, (.s []), (aC 0)] [(0, 6, v8)] h8) fun v9 h9 =>
 bnd (bM v9 h9) fun v10 h10 =>
  zV r n x1 x2 x3 x6 v10 h10
noncomputable def sE (r : RT) (n : Nat) (x1 x2 x3 x6 : DV) (h0 : Hp) : aK :=
 bnd (aB 0 x3 h0) fun v1 h1 =>
 bnd (aA v1 h1) fun v2 h2 =>
 bnd (aF .neq v2 (aC 11) h2) fun v3 h3 =>
 bnd (gD v3 false (some (x1, h3)) h3) fun v4 h4 =>
 bnd (gD v3 false (bK v4 h4) h4) fun v5 h5 =>
 bnd (gD v3 false (aF .gtr v5 (aC 8) h5) h5) fun v6 h6 =>
 bnd (aQ v3 (.b true) v6 h6) fun v7 h7 =>
 aU v7 (
 bnd (aT [(.s []), (aC 0), (aC 0), (aC 0), .l0, .l0] [] h7) fun v8 h8 =>
 bnd (aD 6 x6 v8 h8) fun _ h9 =>
 bnd (aH 6 x6 h9) fun v10 _ =>
 some (.t [v10, (.s []), (aC 1)], h9)) (
  rW r n x1 x2 x3 x6 h7)
noncomputable def s135 (r : RT) (n : Nat) (x0 x1 x2 : DV) (h0 : Hp) : aK :=
 bnd (bM x0 h0) fun v1 h1 =>
 bnd (bA [(.s []), (aC 0), (aC 0), (aC 0), .l0, .l0] h1) fun v2 h2 =>
  sE r n x1 x2 v1 v2 h2
noncomputable abbrev c135 : Code := cf Tryz.f135
noncomputable abbrev aJy : Code := cR c135
noncomputable abbrev aIr : Code := cR aJy
noncomputable abbrev aFa : Code := cR aIr
noncomputable abbrev aHf : Code := cR aFa
noncomputable abbrev aPb : Code := cR aHf
noncomputable abbrev aIk : Code := cR aPb
noncomputable abbrev dNf : Code := cR aIk
noncomputable abbrev yC : Code := cL aIk
noncomputable abbrev aVs : Code := cR yC
noncomputable abbrev uA : Code := cL aVs
noncomputable abbrev jT : Code := cL uA
noncomputable abbrev bBo : Code := cL yC
noncomputable abbrev aEo : Code := cL aPb
noncomputable abbrev bBj : Code := cL aHf
noncomputable abbrev qN : Code := cL aFa
noncomputable abbrev aIa : Code := cR qN
noncomputable abbrev uK : Code := cL aIa
noncomputable abbrev kD : Code := cL uK
noncomputable abbrev bDm : Code := cL qN
noncomputable abbrev aFu : Code := cL aIr
noncomputable abbrev aGi : Code := cL aJy
noncomputable abbrev aFb : Code := cL c135
noncomputable abbrev r135 : K := aR CF Tryz.f135
noncomputable def D135 (r : RT) (n : Nat) (c : Code) (X : Nat → K) (k : K) : K := aM CF r 109 n c X r135 k
theorem cQk : D135 r n dNf x0 r135 = (K2 (dY r n) 6 9) :=
 (by kernel_rfl)
theorem cKp (kk9 : cA) (q0 : eN) : D135 r n jT (xs x0 3 (K2 q0 6 9)) (K5 kk9 6 9 94 95 96) = fun (env : aV) (h : Hp) =>
 bnd (aF .lss (env 96) (env 95) h) fun v1 h1 =>
 aU v1 (
 bnd (aI 3 (env 94) (env 96) h1) fun v2 h2 =>
 bnd (aH 3 v2 h2) fun v3 h3 =>
 bnd (bA [(aC 0), (aC 0), (aC 0)] h3) fun v4 h4 =>
 bnd (aD 3 v4 v3 h4) fun _ h5 =>
 bnd (aH 3 v4 h5) fun v6 h6 =>
 bnd (r 145 [v6] h6) fun v7 h7 =>
 bnd (eO .not v7 h7) fun v8 h8 =>
 aU v8 (
 bnd (aT [(.s []), (aC 0), (aC 0), (aC 0), .l0, .l0] [] h8) fun v9 h9 =>
 bnd (aD 6 (env 6) v9 h9) fun _ h10 =>
 bnd (aH 6 (env 6) h10) fun v11 _ =>
 some (.t [v11, (.s []), (aC 12)], h10)) (
 bnd (aF .add (env 96) (aC 1) h8) fun v12 h12 =>
    kk9 (env 6) (env 9) (env 94) (env 95) v12 h12)) (
      q0 (env 6) (env 9) h1) := by kernel_rfl
theorem bJp (kk9 : cA) : (fun (env : aV) (h : Hp) =>
 bnd (aF .lss (env 96) (env 95) h) fun v1 h1 =>
 aU v1 (
 bnd (aI 3 (env 94) (env 96) h1) fun v2 h2 =>
 bnd (aH 3 v2 h2) fun v3 h3 =>
 bnd (bA [(aC 0), (aC 0), (aC 0)] h3) fun v4 h4 =>
 bnd (aD 3 v4 v3 h4) fun _ h5 =>
 bnd (aH 3 v4 h5) fun v6 h6 =>
 bnd (r 145 [v6] h6) fun v7 h7 =>
 bnd (eO .not v7 h7) fun v8 h8 =>
 aU v8 (
 bnd (aT [(.s []), (aC 0), (aC 0), (aC 0), .l0, .l0] [] h8) fun v9 h9 =>
 bnd (aD 6 (env 6) v9 h9) fun _ h10 =>
 bnd (aH 6 (env 6) h10) fun v11 _ =>
 some (.t [v11, (.s []), (aC 12)], h10)) (
 bnd (aF .add (env 96) (aC 1) h8) fun v12 h12 =>
    kk9 (env 6) (env 9) (env 94) (env 95) v12 h12)) (
      dY r n (env 6) (env 9) h1)) = (K5 (aOo r n kk9) 6 9 94 95 96) := by kernel_rfl
theorem bQs (kk9 : cA) : D135 r n jT (xs x0 3 (K2 (dY r n) 6 9)) (K5 kk9 6 9 94 95 96) = (K5 (aOo r n kk9) 6 9 94 95 96) :=
 (cKp r n kk9 (dY r n)).trans (bJp r n kk9)
theorem cFw (m : Nat) : aL (fun kk => D135 r n jT (xs x0 3 (K2 (dY r n) 6 9)) kk) m = (K5 (uX r n m) 6 9 94 95 96) := by
 induction m with
 | zero => exact (by kernel_rfl : aL (fun kk => D135 r n jT (xs x0 3 (K2 (dY r n) 6 9)) kk) 0 = (K5 (uX r n 0) 6 9 94 95 96))
 | succ m ih =>
  refine (by kernel_rfl : aL (fun kk => D135 r n jT (xs x0 3 (K2 (dY r n) 6 9)) kk) (m + 1) = D135 r n jT (xs x0 3 (K2 (dY r n) 6 9)) (aL (fun kk => D135 r n jT (xs x0 3 (K2 (dY r n) 6 9)) kk) m)).trans ?_
  rw [ih]
  exact (bQs r n (uX r n m)).trans (by kernel_rfl)
theorem dCz : D135 r n uA (xs x0 3 (K2 (dY r n) 6 9)) (K2 (dY r n) 6 9) = (K5 (cBq r n) 6 9 94 95 96) :=
 (by kernel_rfl : D135 r n uA (xs x0 3 (K2 (dY r n) 6 9)) (K2 (dY r n) 6 9) = aL (fun kk => D135 r n jT (xs x0 3 (K2 (dY r n) 6 9)) kk) n).trans ((cFw r n n).trans (by kernel_rfl))
theorem cTd : D135 r n aVs x0 (K2 (dY r n) 6 9) = (K5 (aXk r n) 6 9 94 95 96) :=
 (by kernel_rfl : D135 r n aVs x0 (K2 (dY r n) 6 9) = D135 r n uA (xs x0 3 (K2 (dY r n) 6 9)) (K2 (dY r n) 6 9)).trans
 ((dCz r n).trans (by kernel_rfl))
theorem bOx : D135 r n aIk x0 r135 = D135 r n yC x0 (K2 (dY r n) 6 9) :=
 congrArg (fun k => D135 r n yC x0 k) (cQk r n)
theorem bRv : D135 r n yC x0 (K2 (dY r n) 6 9) = D135 r n bBo x0 (K5 (aXk r n) 6 9 94 95 96) :=
 congrArg (fun k => D135 r n bBo x0 k) (cTd r n)
theorem cUu : D135 r n aIk x0 r135 = (K2 (aAn r n) 6 9) :=
 (bOx r n).trans
 ((bRv r n).trans
 ((by kernel_rfl)))
theorem bVl : D135 r n aPb x0 r135 = D135 r n aEo x0 (K2 (aAn r n) 6 9) :=
 congrArg (fun k => D135 r n aEo x0 k) (cUu r n)
theorem cFb (q0 : eN) : D135 r n aEo x0 (K2 q0 6 9) = fun (env : aV) (h : Hp) =>
 bnd (aO (env 9) h) fun v1 h1 =>
 bnd (aB 8 v1 h1) fun v2 h2 =>
 bnd (aA v2 h2) fun v3 h3 =>
 bnd (aF .neq v3 (aC 0) h3) fun v4 h4 =>
 aU v4 (
 bnd (aT [(.s []), (aC 0), (aC 0), (aC 0), .l0, .l0] [] h4) fun v5 h5 =>
 bnd (aO (env 9) h5) fun v6 h6 =>
 bnd (aB 7 v6 h6) fun v7 h7 =>
 bnd (aA v7 h7) fun v8 h8 =>
 bnd (aO (env 9) h8) fun v9 h9 =>
 bnd (aB 8 v9 h9) fun v10 h10 =>
 bnd (aA v10 h10) fun v11 h11 =>
 bnd (aD 6 (env 6) v5 h11) fun v12 h12 =>
 cnd (aW (aA v10 h12) v11 && (aW (aA v7 h12) v8 && true)) (
 bnd (aH 6 (env 6) h12) fun v13 _ =>
 some (.t [v13, v8, v11], h12))) (
 bnd (aO (env 9) h4) fun v14 h14 =>
 bnd (aB 0 v14 h14) fun v15 h15 =>
 bnd (aB 4 v15 h15) fun v16 h16 =>
 bnd (aA v16 h16) fun v17 h17 =>
 bnd (bK v17 h17) fun v18 h18 =>
 bnd (aF .gtr v18 (aC 60) h18) fun v19 h19 =>
 aU v19 (
 bnd (aT [(.s []), (aC 0), (aC 0), (aC 0), .l0, .l0] [] h19) fun v20 h20 =>
 bnd (aD 6 (env 6) v20 h20) fun _ h21 =>
 bnd (aH 6 (env 6) h21) fun v22 _ =>
 some (.t [v22, (.s []), (aC 18)], h21)) (
 bnd (aO (env 9) h19) fun v23 h23 =>
 bnd (aB 0 v23 h23) fun v24 h24 =>
 bnd (aB 5 v24 h24) fun v25 h25 =>
 bnd (aA v25 h25) fun v26 h26 =>
 bnd (bK v26 h26) fun v27 h27 =>
 bnd (aF .gtr v27 (aC 400) h27) fun v28 h28 =>
 aU v28 (
 bnd (aT [(.s []), (aC 0), (aC 0), (aC 0), .l0, .l0] [] h28) fun v29 h29 =>
 bnd (aD 6 (env 6) v29 h29) fun _ h30 =>
 bnd (aH 6 (env 6) h30) fun v31 _ =>
 some (.t [v31, (.s []), (aC 12)], h30)) (
     q0 (env 6) (env 9) h28))) := by kernel_rfl
theorem bOg : (fun (env : aV) (h : Hp) =>
 bnd (aO (env 9) h) fun v1 h1 =>
 bnd (aB 8 v1 h1) fun v2 h2 =>
 bnd (aA v2 h2) fun v3 h3 =>
 bnd (aF .neq v3 (aC 0) h3) fun v4 h4 =>
 aU v4 (
 bnd (aT [(.s []), (aC 0), (aC 0), (aC 0), .l0, .l0] [] h4) fun v5 h5 =>
 bnd (aO (env 9) h5) fun v6 h6 =>
 bnd (aB 7 v6 h6) fun v7 h7 =>
 bnd (aA v7 h7) fun v8 h8 =>
 bnd (aO (env 9) h8) fun v9 h9 =>
 bnd (aB 8 v9 h9) fun v10 h10 =>
 bnd (aA v10 h10) fun v11 h11 =>
 bnd (aD 6 (env 6) v5 h11) fun v12 h12 =>
 cnd (aW (aA v10 h12) v11 && (aW (aA v7 h12) v8 && true)) (
 bnd (aH 6 (env 6) h12) fun v13 _ =>
 some (.t [v13, v8, v11], h12))) (
 bnd (aO (env 9) h4) fun v14 h14 =>
 bnd (aB 0 v14 h14) fun v15 h15 =>
 bnd (aB 4 v15 h15) fun v16 h16 =>
 bnd (aA v16 h16) fun v17 h17 =>
 bnd (bK v17 h17) fun v18 h18 =>
 bnd (aF .gtr v18 (aC 60) h18) fun v19 h19 =>
 aU v19 (
 bnd (aT [(.s []), (aC 0), (aC 0), (aC 0), .l0, .l0] [] h19) fun v20 h20 =>
 bnd (aD 6 (env 6) v20 h20) fun _ h21 =>
 bnd (aH 6 (env 6) h21) fun v22 _ =>
 some (.t [v22, (.s []), (aC 18)], h21)) (
 bnd (aO (env 9) h19) fun v23 h23 =>
 bnd (aB 0 v23 h23) fun v24 h24 =>
 bnd (aB 5 v24 h24) fun v25 h25 =>
 bnd (aA v25 h25) fun v26 h26 =>
 bnd (bK v26 h26) fun v27 h27 =>
 bnd (aF .gtr v27 (aC 400) h27) fun v28 h28 =>
 aU v28 (
 bnd (aT [(.s []), (aC 0), (aC 0), (aC 0), .l0, .l0] [] h28) fun v29 h29 =>
 bnd (aD 6 (env 6) v29 h29) fun _ h30 =>
 bnd (aH 6 (env 6) h30) fun v31 _ =>
 some (.t [v31, (.s []), (aC 12)], h30)) (
     aAn r n (env 6) (env 9) h28)))) = (K2 (aEj r n) 6 9) := by kernel_rfl
theorem cRg : D135 r n aPb x0 r135 = (K2 (aEj r n) 6 9) :=
 (bVl r n).trans
 ((cFb r n (aAn r n)).trans (bOg r n))
theorem bUt : D135 r n aHf x0 r135 = D135 r n bBj x0 (K2 (aEj r n) 6 9) :=
 congrArg (fun k => D135 r n bBj x0 k) (cRg r n)
theorem dAn : D135 r n aHf x0 r135 = (K4 (eB r n) 2 3 6 9) :=
 (bUt r n).trans
 ((by kernel_rfl))
theorem bNl (kk11 : TT7) (q0 : dB) : D135 r n kD (xs x0 0 (K4 q0 2 3 6 9)) (K7 kk11 2 3 6 9 33 34 35) = fun (env : aV) (h : Hp) =>
 bnd (aF .lss (env 35) (env 34) h) fun v1 h1 =>
 aU v1 (
 bnd (aI 1 (env 33) (env 35) h1) fun v2 h2 =>
 bnd (aA v2 h2) fun v3 h3 =>
 bnd (aO (env 9) h3) fun v4 h4 =>
 bnd (aB 6 v4 h4) fun v5 h5 =>
 bnd (aA v5 h5) fun v6 h6 =>
 bnd (aT [(.s []), (.b false), (.b false), (aC 0)] [(0, 1, v3), (1, 1, (.b true)), (2, 1, (.b false)), (3, 1, (env 35))] h6) fun v7 h7 =>
 bnd (aN [(.s []), (.b false), (.b false), (aC 0)] 1 [(0, 4, v7)] h7) fun v8 h8 =>
 bnd (aX 4 32 v6 v8 h8) fun v9 h9 =>
 bnd (aO (env 9) h9) fun v10 h10 =>
 bnd (aB 6 v10 h10) fun v11 h11 =>
 bnd (aD 1 v11 v9 h11) fun _ h12 =>
 bnd (aF .add (env 35) (aC 1) h12) fun v13 h13 =>
      kk11 (env 2) (env 3) (env 6) (env 9) (env 33) (env 34) v13 h13) (
      q0 (env 2) (env 3) (env 6) (env 9) h1) := by kernel_rfl
theorem aUm (kk11 : TT7) : (fun (env : aV) (h : Hp) =>
 bnd (aF .lss (env 35) (env 34) h) fun v1 h1 =>
 aU v1 (
 bnd (aI 1 (env 33) (env 35) h1) fun v2 h2 =>
 bnd (aA v2 h2) fun v3 h3 =>
 bnd (aO (env 9) h3) fun v4 h4 =>
 bnd (aB 6 v4 h4) fun v5 h5 =>
 bnd (aA v5 h5) fun v6 h6 =>
 bnd (aT [(.s []), (.b false), (.b false), (aC 0)] [(0, 1, v3), (1, 1, (.b true)), (2, 1, (.b false)), (3, 1, (env 35))] h6) fun v7 h7 =>
 bnd (aN [(.s []), (.b false), (.b false), (aC 0)] 1 [(0, 4, v7)] h7) fun v8 h8 =>
 bnd (aX 4 32 v6 v8 h8) fun v9 h9 =>
 bnd (aO (env 9) h9) fun v10 h10 =>
 bnd (aB 6 v10 h10) fun v11 h11 =>
 bnd (aD 1 v11 v9 h11) fun _ h12 =>
 bnd (aF .add (env 35) (aC 1) h12) fun v13 h13 =>
      kk11 (env 2) (env 3) (env 6) (env 9) (env 33) (env 34) v13 h13) (
      eB r n (env 2) (env 3) (env 6) (env 9) h1)) = (K7 (aAw r n kk11) 2 3 6 9 33 34 35) := by kernel_rfl
theorem bLd (kk11 : TT7) : D135 r n kD (xs x0 0 (K4 (eB r n) 2 3 6 9)) (K7 kk11 2 3 6 9 33 34 35) = (K7 (aAw r n kk11) 2 3 6 9 33 34 35) :=
 (bNl r n kk11 (eB r n)).trans (aUm r n kk11)
theorem bOb (m : Nat) : aL (fun kk => D135 r n kD (xs x0 0 (K4 (eB r n) 2 3 6 9)) kk) m = (K7 (pI r n m) 2 3 6 9 33 34 35) := by
 induction m with
 | zero => exact (by kernel_rfl : aL (fun kk => D135 r n kD (xs x0 0 (K4 (eB r n) 2 3 6 9)) kk) 0 = (K7 (pI r n 0) 2 3 6 9 33 34 35))
 | succ m ih =>
  refine (by kernel_rfl : aL (fun kk => D135 r n kD (xs x0 0 (K4 (eB r n) 2 3 6 9)) kk) (m + 1) = D135 r n kD (xs x0 0 (K4 (eB r n) 2 3 6 9)) (aL (fun kk => D135 r n kD (xs x0 0 (K4 (eB r n) 2 3 6 9)) kk) m)).trans ?_
  rw [ih]
  exact (bLd r n (pI r n m)).trans (by kernel_rfl)
theorem bTd : D135 r n uK (xs x0 0 (K4 (eB r n) 2 3 6 9)) (K4 (eB r n) 2 3 6 9) = (K7 (bIk r n) 2 3 6 9 33 34 35) :=
 (by kernel_rfl : D135 r n uK (xs x0 0 (K4 (eB r n) 2 3 6 9)) (K4 (eB r n) 2 3 6 9) = aL (fun kk => D135 r n kD (xs x0 0 (K4 (eB r n) 2 3 6 9)) kk) n).trans ((bOb r n n).trans (by kernel_rfl))
theorem cLx : D135 r n aIa x0 (K4 (eB r n) 2 3 6 9) = (K7 (aJm r n) 2 3 6 9 33 34 35) :=
 (by kernel_rfl : D135 r n aIa x0 (K4 (eB r n) 2 3 6 9) = D135 r n uK (xs x0 0 (K4 (eB r n) 2 3 6 9)) (K4 (eB r n) 2 3 6 9)).trans
 ((bTd r n).trans (by kernel_rfl))
theorem bRg : D135 r n aFa x0 r135 = D135 r n qN x0 (K4 (eB r n) 2 3 6 9) :=
 congrArg (fun k => D135 r n qN x0 k) (dAn r n)
theorem bSk : D135 r n qN x0 (K4 (eB r n) 2 3 6 9) = D135 r n bDm x0 (K7 (aJm r n) 2 3 6 9 33 34 35) :=
 congrArg (fun k => D135 r n bDm x0 k) (cLx r n)
theorem cOo : D135 r n aFa x0 r135 = (K5 (zV r n) 1 2 3 6 9) :=
 (bRg r n).trans
 ((bSk r n).trans
 ((by kernel_rfl)))
theorem bLv : D135 r n aIr x0 r135 = D135 r n aFu x0 (K5 (zV r n) 1 2 3 6 9) :=
 congrArg (fun k => D135 r n aFu x0 k) (cOo r n)
theorem bMt (q0 : cA) : D135 r n aFu x0 (K5 q0 1 2 3 6 9) = fun (env : aV) (h : Hp) =>
 bnd (aB 1 (env 3) h) fun v1 h1 =>
 bnd (aA v1 h1) fun v2 h2 =>
 bnd (aB 3 (env 3) h2) fun v3 h3 =>
 bnd (aA v3 h3) fun v4 h4 =>
 bnd (bK v4 h4) fun v5 h5 =>
 bnd (aB 2 (env 3) h5) fun v6 h6 =>
 bnd (aA v6 h6) fun v7 h7 =>
 bnd (aT [(.s []), (aC 0), (aC 0), (aC 0), .l0, .l0] [(0, 1, v2), (1, 1, v5), (3, 1, v7)] h7) fun v8 h8 =>
 bnd (aT [(.s []), (aC 0), (aC 0), (aC 0), .l0, .l0, .l0, (.s []), (aC 0)] [(0, 6, v8)] h8) fun v9 h9 =>
 bnd (bM v9 h9) fun v10 h10 =>
  q0 (env 1) (env 2) (env 3) (env 6) v10 h10 := by kernel_rfl
theorem aYr : (fun (env : aV) (h : Hp) =>
 bnd (aB 1 (env 3) h) fun v1 h1 =>
 bnd (aA v1 h1) fun v2 h2 =>
 bnd (aB 3 (env 3) h2) fun v3 h3 =>
 bnd (aA v3 h3) fun v4 h4 =>
 bnd (bK v4 h4) fun v5 h5 =>
 bnd (aB 2 (env 3) h5) fun v6 h6 =>
 bnd (aA v6 h6) fun v7 h7 =>
 bnd (aT [(.s []), (aC 0), (aC 0), (aC 0), .l0, .l0] [(0, 1, v2), (1, 1, v5), (3, 1, v7)] h7) fun v8 h8 =>
 bnd (aT [(.s []), (aC 0), (aC 0), (aC 0), .l0, .l0, .l0, (.s []), (aC 0)] [(0, 6, v8)] h8) fun v9 h9 =>
 bnd (bM v9 h9) fun v10 h10 =>
  zV r n (env 1) (env 2) (env 3) (env 6) v10 h10) = (K4 (rW r n) 1 2 3 6) := by kernel_rfl
theorem cRj : D135 r n aIr x0 r135 = (K4 (rW r n) 1 2 3 6) :=
 (bLv r n).trans
 ((bMt r n (zV r n)).trans (aYr r n))
theorem bKk : D135 r n aJy x0 r135 = D135 r n aGi x0 (K4 (rW r n) 1 2 3 6) :=
 congrArg (fun k => D135 r n aGi x0 k) (cRj r n)
theorem bLe (q0 : dB) : D135 r n aGi x0 (K4 q0 1 2 3 6) = fun (env : aV) (h : Hp) =>
 bnd (aB 0 (env 3) h) fun v1 h1 =>
 bnd (aA v1 h1) fun v2 h2 =>
 bnd (aF .neq v2 (aC 11) h2) fun v3 h3 =>
 bnd (gD v3 false (some ((env 1), h3)) h3) fun v4 h4 =>
 bnd (gD v3 false (bK v4 h4) h4) fun v5 h5 =>
 bnd (gD v3 false (aF .gtr v5 (aC 8) h5) h5) fun v6 h6 =>
 bnd (aQ v3 (.b true) v6 h6) fun v7 h7 =>
 aU v7 (
 bnd (aT [(.s []), (aC 0), (aC 0), (aC 0), .l0, .l0] [] h7) fun v8 h8 =>
 bnd (aD 6 (env 6) v8 h8) fun _ h9 =>
 bnd (aH 6 (env 6) h9) fun v10 _ =>
 some (.t [v10, (.s []), (aC 1)], h9)) (
   q0 (env 1) (env 2) (env 3) (env 6) h7) := by kernel_rfl
theorem aXw : (fun (env : aV) (h : Hp) =>
 bnd (aB 0 (env 3) h) fun v1 h1 =>
 bnd (aA v1 h1) fun v2 h2 =>
 bnd (aF .neq v2 (aC 11) h2) fun v3 h3 =>
 bnd (gD v3 false (some ((env 1), h3)) h3) fun v4 h4 =>
 bnd (gD v3 false (bK v4 h4) h4) fun v5 h5 =>
 bnd (gD v3 false (aF .gtr v5 (aC 8) h5) h5) fun v6 h6 =>
 bnd (aQ v3 (.b true) v6 h6) fun v7 h7 =>
 aU v7 (
 bnd (aT [(.s []), (aC 0), (aC 0), (aC 0), .l0, .l0] [] h7) fun v8 h8 =>
 bnd (aD 6 (env 6) v8 h8) fun _ h9 =>
 bnd (aH 6 (env 6) h9) fun v10 _ =>
 some (.t [v10, (.s []), (aC 1)], h9)) (
   rW r n (env 1) (env 2) (env 3) (env 6) h7)) = (K4 (sE r n) 1 2 3 6) := by kernel_rfl
theorem cRo : D135 r n aJy x0 r135 = (K4 (sE r n) 1 2 3 6) :=
 (bKk r n).trans
 ((bLe r n (rW r n)).trans (aXw r n))
theorem cYf : D135 r n c135 x0 r135 = D135 r n aFb x0 (K4 (sE r n) 1 2 3 6) :=
 congrArg (fun k => D135 r n aFb x0 k) (cRo r n)
theorem cZn (q0 : dB) : D135 r n aFb x0 (K4 q0 1 2 3 6) = fun (env : aV) (h : Hp) =>
 bnd (bM (env 0) h) fun v1 h1 =>
 bnd (bA [(.s []), (aC 0), (aC 0), (aC 0), .l0, .l0] h1) fun v2 h2 =>
  q0 (env 1) (env 2) v1 v2 h2 := by kernel_rfl
theorem bQr : (fun (env : aV) (h : Hp) =>
 bnd (bM (env 0) h) fun v1 h1 =>
 bnd (bA [(.s []), (aC 0), (aC 0), (aC 0), .l0, .l0] h1) fun v2 h2 =>
  sE r n (env 1) (env 2) v1 v2 h2) = (K3 (s135 r n) 0 1 2) := by kernel_rfl
theorem eId : D135 r n c135 x0 r135 = (K3 (s135 r n) 0 1 2) :=
 (cYf r n).trans
 ((cZn r n (sE r n)).trans (bQr r n))
theorem dOs : aE CF r n 135 args h = s135 r n (aP args 0) (aP args 1) (aP args 2) h :=
 (by kernel_rfl : aE CF r n 135 args h = D135 r n c135 x0 r135 (aJ args) h).trans ((congrFun (congrFun (eId r n) (aJ args)) h).trans (by kernel_rfl))
noncomputable def s136 (r : RT) (n : Nat) (x0 x1 x2 : DV) (h0 : Hp) : aK :=
 bnd (bM x2 h0) fun v1 h1 =>
 bnd (r 110 [x0, x1] h1) fun v2 h2 =>
 bnd (eO .not v2 h2) fun v3 h3 =>
 aU v3 (
 some (.t [(aC 0), (aC 24)], h3)) (
 bnd (aH 6 v1 h3) fun v4 h4 =>
 bnd (r 132 [x0, x1] h4) fun v5 h5 =>
 cnd (aW (aH 6 v1 h5) v4 && true) (
 bnd (r 63 [v4, v5] h5) fun v6 h6 =>
 bnd (aF .neq v6 (aC 0) h6) fun v7 h7 =>
 aU v7 (
 some (.t [(aC 0), v6], h7)) (
 bnd (aB 0 v1 h7) fun v8 h8 =>
 bnd (aA v8 h8) fun v9 h9 =>
 bnd (r 10 [x0, v9] h9) fun v10 h10 =>
 bnd (aG 0 v10 h10) fun v11 h11 =>
 bnd (aG 1 v10 h11) fun v12 h12 =>
 bnd (aF .neq v12 (aC 0) h12) fun v13 h13 =>
 aU v13 (
 some (.t [(aC 0), v12], h13)) (
 bnd (aB 4 v1 h13) fun v14 h14 =>
 bnd (aA v14 h14) fun v15 h15 =>
 bnd (aT [(aC 0), (.s []), (aC 0), .l0] [(0, 1, (aC 4)), (3, 1, v15)] h15) fun v16 h16 =>
 bnd (r 64 [x0, v16] h16) fun v17 h17 =>
 bnd (aG 0 v17 h17) fun v18 h18 =>
 bnd (aG 1 v17 h18) fun v19 h19 =>
 bnd (aF .neq v19 (aC 0) h19) fun v20 h20 =>
 aU v20 (
 some (.t [(aC 0), v19], h20)) (
 bnd (aB 5 v1 h20) fun v21 h21 =>
 bnd (aA v21 h21) fun v22 h22 =>
 bnd (r 160 [v22] h22) fun v23 h23 =>
 bnd (aG 0 v23 h23) fun v24 h24 =>
 bnd (aG 1 v23 h24) fun v25 h25 =>
 bnd (r 161 [x0, v24] h25) fun v26 h26 =>
 bnd (aG 0 v26 h26) fun v27 h27 =>
 bnd (aG 1 v26 h27) fun v28 h28 =>
 bnd (aF .neq v28 (aC 0) h28) fun v29 h29 =>
 aU v29 (
 some (.t [(aC 0), v28], h29)) (
 bnd (r 34 [x0, (aC 14)] (resv 1 h29)) fun v30 h30 =>
 bnd (aB 1 v1 h30) fun v31 h31 =>
 bnd (aA v31 h31) fun v32 h32 =>
 cnd (aW (aA v31 (resv 1 h29)) v32 && true) (
 bnd (r 37 [v32] h32) fun v33 h33 =>
 bnd (aB 2 v1 h33) fun v34 h34 =>
 bnd (aA v34 h34) fun v35 h35 =>
 cnd (aW (aA v34 h30) v35 && (aW (aA v34 (resv 1 h29)) v35 && true)) (
 bnd (r 37 [v35] h35) fun v36 h36 =>
 bnd (aB 3 v1 h36) fun v37 h37 =>
 bnd (aA v37 h37) fun v38 h38 =>
 cnd (aW (aA v37 h33) v38 && (aW (aA v37 h30) v38 && (aW (aA v37 (resv 1 h29)) v38 && true))) (
 bnd (r 37 [v38] h38) fun v39 h39 =>
 bnd (aS (bD 0 h29.next) [(aC 0), (aC 0), (aC 0), (aC 0), (aC 0), (aC 0), (aC 0)] 7 [(0, 1, v11), (1, 1, v33), (2, 1, v36), (3, 1, v39), (4, 1, v18), (5, 1, v27), (6, 1, x1)] h39) fun v40 h40 =>
 bnd (r 87 [x0, v30, (aC 0), v40] h40) fun v41 h41 =>
 bnd (aG 0 v41 h41) fun v42 h42 =>
 bnd (aG 1 v41 h42) fun v43 h43 =>
 some (.t [v42, v43], h43))))))))))
noncomputable abbrev c136 : Code := cf Tryz.f136
noncomputable abbrev r136 : K := aR CF Tryz.f136
noncomputable def D136 (r : RT) (n : Nat) (c : Code) (X : Nat → K) (k : K) : K := aM CF r 83 n c X r136 k
theorem eBr : D136 r n c136 x0 r136 = (K3 (s136 r n) 0 1 2) :=
 (by kernel_rfl)
theorem dQm : aE CF r n 136 args h = s136 r n (aP args 0) (aP args 1) (aP args 2) h :=
 (by kernel_rfl : aE CF r n 136 args h = D136 r n c136 x0 r136 (aJ args) h).trans ((congrFun (congrFun (eBr r n) (aJ args)) h).trans (by kernel_rfl))
noncomputable def fH (r : RT) (n : Nat) (x0 x1 x3 : DV) (h0 : Hp) : aK :=
 bnd (r 111 [x0, x1, (aC 4)] h0) fun v1 h1 =>
 bnd (r 39 [x0, x3, v1] h1) fun v2 h2 =>
 bnd (aG 0 v2 h2) fun v3 h3 =>
 bnd (aG 1 v2 h3) fun v4 h4 =>
 bnd (aF .neq v4 (aC 0) h4) fun v5 h5 =>
 aU v5 (
 some (v4, h5)) (
 bnd (aO x0 h5) fun v6 h6 =>
 bnd (aB 0 v6 h6) fun v7 h7 =>
 bnd (aA v7 h7) fun v8 h8 =>
 bnd (aBj [v8, x1, (aC 4), v3] h8) fun v9 h9 =>
 some (v9, h9))
noncomputable def bBz (r : RT) (n : Nat) (kk5 : dA) (x0 x1 x2 x3 x9 x10 : DV) (h0 : Hp) : aK :=
 bnd (aF .gtr x10 (aC 0) h0) fun v1 h1 =>
 bnd (gD v1 true (some (x0, h1)) h1) fun v2 h2 =>
 bnd (gD v1 true (aO v2 h2) h2) fun v3 h3 =>
 bnd (gD v1 true (aB 0 v3 h3) h3) fun v4 h4 =>
 bnd (gD v1 true (aA v4 h4) h4) fun v5 h5 =>
 bnd (gD v1 true (some (x9, h5)) h5) fun v6 h6 =>
 bnd (gD v1 true (isF [v5, v6] h6) h6) fun v7 h7 =>
 bnd (aQ v1 v7 (.b false) h7) fun v8 h8 =>
 aU v8 (
 bnd (r 111 [x0, x9, (aC 0)] h8) fun v9 h9 =>
 bnd (r 111 [x0, v9, (aC 0)] h9) fun v10 h10 =>
 bnd (aF .eql v10 x2 h10) fun v11 h11 =>
 aU v11 (
 bnd (aO x0 h11) fun v12 h12 =>
 bnd (aB 0 v12 h12) fun v13 h13 =>
 bnd (aA v13 h13) fun v14 h14 =>
 bnd (aBj [v14, x9, (aC 0), x3] h14) fun v15 h15 =>
 some (v15, h15)) (
 bnd (r 111 [x0, x9, (aC 1)] h11) fun v16 h16 =>
 bnd (aF .sub x10 (aC 1) h16) fun v17 h17 =>
    kk5 x0 x1 x2 x3 v16 v17 h17)) (
      fH r n x0 x1 x3 h8)
noncomputable def tQ (r : RT) (n : Nat) (m : Nat) : dA :=
 Nat.rec (motive := fun _ => dA) (fun _ _ _ _ _ _ _ => none) (fun _ ih => bBz r n ih) m
noncomputable def cFk (r : RT) (n : Nat) : dA := tQ r n n
noncomputable def aZf (r : RT) (n : Nat) (x0 x1 x2 x3 x9 x10 : DV) (h0 : Hp) : aK :=
 cFk r n x0 x1 x2 x3 x9 x10 h0
noncomputable def aXz (r : RT) (n : Nat) (x0 x1 x2 x3 x9 : DV) (h0 : Hp) : aK :=
 bnd (aO x0 h0) fun v1 h1 =>
 bnd (aB 0 v1 h1) fun v2 h2 =>
 bnd (aA v2 h2) fun v3 h3 =>
 bnd (aBw [v3] h3) fun v4 h4 =>
  aZf r n x0 x1 x2 x3 x9 v4 h4
noncomputable def aXr (r : RT) (n : Nat) (x0 x1 x2 x3 : DV) (h0 : Hp) : aK :=
 bnd (r 111 [x0, x1, (aC 4)] h0) fun v1 h1 =>
  aXz r n x0 x1 x2 x3 v1 h1
noncomputable def s137 (r : RT) (n : Nat) (x0 x1 x2 x3 : DV) (h0 : Hp) : aK :=
 aXr r n x0 x1 x2 x3 h0
noncomputable abbrev c137 : Code := cf Tryz.f137
noncomputable abbrev aNs : Code := cR c137
noncomputable abbrev aIe : Code := cR aNs
noncomputable abbrev dOa : Code := cR aIe
noncomputable abbrev zF : Code := cL aIe
noncomputable abbrev bAa : Code := cR zF
noncomputable abbrev aHk : Code := cL bAa
noncomputable abbrev oA : Code := cL aHk
noncomputable abbrev cLr : Code := cL zF
noncomputable abbrev bXe : Code := cL aNs
noncomputable abbrev bGj : Code := cL c137
noncomputable abbrev r137 : K := aR CF Tryz.f137
noncomputable def D137 (r : RT) (n : Nat) (c : Code) (X : Nat → K) (k : K) : K := aM CF r 69 n c X r137 k
theorem cVf : D137 r n dOa x0 r137 = (K3 (fH r n) 0 1 3) :=
 (by kernel_rfl)
theorem bPi (kk5 : dA) : D137 r n oA (xs x0 0 (K3 (fH r n) 0 1 3)) (K6 kk5 0 1 2 3 9 10) = (K6 (bBz r n kk5) 0 1 2 3 9 10) :=
 (by kernel_rfl)
theorem cMr (m : Nat) : aL (fun kk => D137 r n oA (xs x0 0 (K3 (fH r n) 0 1 3)) kk) m = (K6 (tQ r n m) 0 1 2 3 9 10) := by
 induction m with
 | zero => exact (by kernel_rfl : aL (fun kk => D137 r n oA (xs x0 0 (K3 (fH r n) 0 1 3)) kk) 0 = (K6 (tQ r n 0) 0 1 2 3 9 10))
 | succ m ih =>
  refine (by kernel_rfl : aL (fun kk => D137 r n oA (xs x0 0 (K3 (fH r n) 0 1 3)) kk) (m + 1) = D137 r n oA (xs x0 0 (K3 (fH r n) 0 1 3)) (aL (fun kk => D137 r n oA (xs x0 0 (K3 (fH r n) 0 1 3)) kk) m)).trans ?_
  rw [ih]
  exact (bPi r n (tQ r n m)).trans (by kernel_rfl)
theorem dDm : D137 r n aHk (xs x0 0 (K3 (fH r n) 0 1 3)) (K3 (fH r n) 0 1 3) = (K6 (cFk r n) 0 1 2 3 9 10) :=
 (by kernel_rfl : D137 r n aHk (xs x0 0 (K3 (fH r n) 0 1 3)) (K3 (fH r n) 0 1 3) = aL (fun kk => D137 r n oA (xs x0 0 (K3 (fH r n) 0 1 3)) kk) n).trans ((cMr r n n).trans (by kernel_rfl))
theorem dCq : D137 r n bAa x0 (K3 (fH r n) 0 1 3) = (K6 (aZf r n) 0 1 2 3 9 10) :=
 (by kernel_rfl : D137 r n bAa x0 (K3 (fH r n) 0 1 3) = D137 r n aHk (xs x0 0 (K3 (fH r n) 0 1 3)) (K3 (fH r n) 0 1 3)).trans
 ((dDm r n).trans (by kernel_rfl))
theorem cDr : D137 r n aIe x0 r137 = D137 r n zF x0 (K3 (fH r n) 0 1 3) :=
 congrArg (fun k => D137 r n zF x0 k) (cVf r n)
theorem cLs : D137 r n zF x0 (K3 (fH r n) 0 1 3) = D137 r n cLr x0 (K6 (aZf r n) 0 1 2 3 9 10) :=
 congrArg (fun k => D137 r n cLr x0 k) (dCq r n)
theorem dBn : D137 r n aIe x0 r137 = (K5 (aXz r n) 0 1 2 3 9) :=
 (cDr r n).trans
 ((cLs r n).trans
 ((by kernel_rfl)))
theorem bUm : D137 r n aNs x0 r137 = D137 r n bXe x0 (K5 (aXz r n) 0 1 2 3 9) :=
 congrArg (fun k => D137 r n bXe x0 k) (dBn r n)
theorem dDp : D137 r n aNs x0 r137 = (K4 (aXr r n) 0 1 2 3) :=
 (bUm r n).trans
 ((by kernel_rfl))
theorem dVf : D137 r n c137 x0 r137 = D137 r n bGj x0 (K4 (aXr r n) 0 1 2 3) :=
 congrArg (fun k => D137 r n bGj x0 k) (dDp r n)
theorem eHs : D137 r n c137 x0 r137 = (K4 (s137 r n) 0 1 2 3) :=
 (dVf r n).trans
 ((by kernel_rfl))
theorem dVd : aE CF r n 137 args h = s137 r n (aP args 0) (aP args 1) (aP args 2) (aP args 3) h :=
 (by kernel_rfl : aE CF r n 137 args h = D137 r n c137 x0 r137 (aJ args) h).trans ((congrFun (congrFun (eHs r n) (aJ args)) h).trans (by kernel_rfl))
noncomputable def s141 (r : RT) (n : Nat) (x0 x1 x2 : DV) (h0 : Hp) : aK :=
 bnd (aF .geq x0 x1 h0) fun v1 h1 =>
 bnd (gD v1 true (some (x0, h1)) h1) fun v2 h2 =>
 bnd (gD v1 true (some (x2, h2)) h2) fun v3 h3 =>
 bnd (gD v1 true (aF .leq v2 v3 h3) h3) fun v4 h4 =>
 bnd (aQ v1 v4 (.b false) h4) fun v5 h5 =>
 some (v5, h5)
noncomputable abbrev c141 : Code := cf Tryz.f141
noncomputable abbrev r141 : K := aR CF Tryz.f141
noncomputable def D141 (r : RT) (n : Nat) (c : Code) (X : Nat → K) (k : K) : K := aM CF r 15 n c X r141 k
theorem eEn : D141 r n c141 x0 r141 = (K3 (s141 r n) 0 1 2) :=
 (by kernel_rfl)
theorem dQh : aE CF r n 141 args h = s141 r n (aP args 0) (aP args 1) (aP args 2) h :=
 (by kernel_rfl : aE CF r n 141 args h = D141 r n c141 x0 r141 (aJ args) h).trans ((congrFun (congrFun (eEn r n) (aJ args)) h).trans (by kernel_rfl))
noncomputable def s142 (r : RT) (n : Nat) (x0 x1 : DV) (h0 : Hp) : aK :=
 bnd (r 163 [x0, x1] h0) fun v1 h1 =>
 bnd (aF .geq v1 (aC 0) h1) fun v2 h2 =>
 some (v2, h2)
noncomputable abbrev c142 : Code := cf Tryz.f142
noncomputable abbrev r142 : K := aR CF Tryz.f142
noncomputable def D142 (r : RT) (n : Nat) (c : Code) (X : Nat → K) (k : K) : K := aM CF r 9 n c X r142 k
theorem eFs : D142 r n c142 x0 r142 = (K2 (s142 r n) 0 1) :=
 (by kernel_rfl)
theorem dKy : aE CF r n 142 args h = s142 r n (aP args 0) (aP args 1) h :=
 (by kernel_rfl : aE CF r n 142 args h = D142 r n c142 x0 r142 (aJ args) h).trans ((congrFun (congrFun (eFs r n) (aJ args)) h).trans (by kernel_rfl))
noncomputable def s143 (r : RT) (n : Nat) (x0 : DV) (h0 : Hp) : aK :=
 bnd (bM x0 h0) fun v1 h1 =>
 bnd (aH 4 v1 h1) fun v2 h2 =>
 bnd (r 144 [v2, (aC 20)] h2) fun v3 h3 =>
 bnd (eO .not v3 h3) fun v4 h4 =>
 some (v4, h4)
noncomputable abbrev c143 : Code := cf Tryz.f143
noncomputable abbrev r143 : K := aR CF Tryz.f143
noncomputable def D143 (r : RT) (n : Nat) (c : Code) (X : Nat → K) (k : K) : K := aM CF r 6 n c X r143 k
theorem eHg : D143 r n c143 x0 r143 = (K1 (s143 r n) 0) :=
 (by kernel_rfl)
theorem dHz : aE CF r n 143 args h = s143 r n (aP args 0) h :=
 (by kernel_rfl : aE CF r n 143 args h = D143 r n c143 x0 r143 (aJ args) h).trans ((congrFun (congrFun (eHg r n) (aJ args)) h).trans (by kernel_rfl))
noncomputable def s144 (r : RT) (n : Nat) (x0 x1 : DV) (h0 : Hp) : aK :=
 bnd (bM x0 h0) fun v1 h1 =>
 bnd (bM x1 h1) fun v2 h2 =>
 bnd (aB 0 v1 h2) fun v3 h3 =>
 bnd (aA v3 h3) fun v4 h4 =>
 bnd (aF .eql v4 (aC 1) h4) fun v5 h5 =>
 aU v5 (
 bnd (aB 1 v1 h5) fun v6 h6 =>
 bnd (aA v6 h6) fun v7 h7 =>
 bnd (eG .eql v7 (.s []) h7) fun v8 h8 =>
 bnd (gD v8 true (aB 3 v1 h8) h8) fun v9 h9 =>
 bnd (gD v8 true (aA v9 h9) h9) fun v10 h10 =>
 bnd (gD v8 true (bK v10 h10) h10) fun v11 h11 =>
 bnd (gD v8 true (aF .eql v11 (aC 0) h11) h11) fun v12 h12 =>
 bnd (aQ v8 v12 (.b false) h12) fun v13 h13 =>
 bnd (gD v13 true (aB 2 v1 h13) h13) fun v14 h14 =>
 bnd (gD v13 true (aA v14 h14) h14) fun v15 h15 =>
 bnd (gD v13 true (r 141 [v15, (.i .i64 (Int.negSucc 1152921504606846975)), (aC 1152921504606846976)] h15) h15) fun v16 h16 =>
 bnd (aQ v13 v16 (.b false) h16) fun v17 h17 =>
 some (v17, h17)) (
 bnd (aF .eql v4 (aC 2) h5) fun v18 h18 =>
 aU v18 (
 bnd (aB 2 v1 h18) fun v19 h19 =>
 bnd (aA v19 h19) fun v20 h20 =>
 bnd (aF .eql v20 (aC 0) h20) fun v21 h21 =>
 bnd (gD v21 true (aB 3 v1 h21) h21) fun v22 h22 =>
 bnd (gD v21 true (aA v22 h22) h22) fun v23 h23 =>
 bnd (gD v21 true (bK v23 h23) h23) fun v24 h24 =>
 bnd (gD v21 true (aF .eql v24 (aC 0) h24) h24) fun v25 h25 =>
 bnd (aQ v21 v25 (.b false) h25) fun v26 h26 =>
 bnd (gD v26 true (aB 1 v1 h26) h26) fun v27 h27 =>
 bnd (gD v26 true (aA v27 h27) h27) fun v28 h28 =>
 bnd (gD v26 true (gA v28 h28) h28) fun v29 h29 =>
 bnd (gD v26 true (aF .leq v29 (aC 250) h29) h29) fun v30 h30 =>
 bnd (aQ v26 v30 (.b false) h30) fun v31 h31 =>
 some (v31, h31)) (
 bnd (aF .eql v4 (aC 3) h18) fun v32 h32 =>
 aU v32 (
 bnd (aB 2 v1 h32) fun v33 h33 =>
 bnd (aA v33 h33) fun v34 h34 =>
 bnd (aF .eql v34 (aC 0) h34) fun v35 h35 =>
 bnd (gD v35 true (aB 3 v1 h35) h35) fun v36 h36 =>
 bnd (gD v35 true (aA v36 h36) h36) fun v37 h37 =>
 bnd (gD v35 true (bK v37 h37) h37) fun v38 h38 =>
 bnd (gD v35 true (aF .eql v38 (aC 0) h38) h38) fun v39 h39 =>
 bnd (aQ v35 v39 (.b false) h39) fun v40 h40 =>
 bnd (gD v40 true (aB 1 v1 h40) h40) fun v41 h41 =>
 bnd (gD v40 true (aA v41 h41) h41) fun v42 h42 =>
 bnd (gD v40 true (gA v42 h42) h42) fun v43 h43 =>
 bnd (gD v40 true (r 141 [v43, (aC 1), (aC 60)] h43) h43) fun v44 h44 =>
 bnd (aQ v40 v44 (.b false) h44) fun v45 h45 =>
 some (v45, h45)) (
 bnd (aF .eql v4 (aC 4) h32) fun v46 h46 =>
 aU v46 (
 bnd (aB 3 v1 h46) fun v47 h47 =>
 bnd (aA v47 h47) fun v48 h48 =>
 bnd (r 142 [v48, (.f 164 [] [v2])] h48) fun v49 h49 =>
 bnd (aB 2 v1 h49) fun v50 h50 =>
 bnd (aA v50 h50) fun v51 h51 =>
 bnd (aF .eql v51 (aC 0) h51) fun v52 h52 =>
 bnd (gD v52 true (aB 1 v1 h52) h52) fun v53 h53 =>
 bnd (gD v52 true (aA v53 h53) h53) fun v54 h54 =>
 bnd (gD v52 true (eG .eql v54 (.s []) h54) h54) fun v55 h55 =>
 bnd (aQ v52 v55 (.b false) h55) fun v56 h56 =>
 bnd (gD v56 true (aA v2 h56) h56) fun v57 h57 =>
 bnd (gD v56 true (aF .gtr v57 (aC 0) h57) h57) fun v58 h58 =>
 bnd (aQ v56 v58 (.b false) h58) fun v59 h59 =>
 bnd (gD v59 true (aB 3 v1 h59) h59) fun v60 h60 =>
 bnd (gD v59 true (aA v60 h60) h60) fun v61 h61 =>
 bnd (gD v59 true (bK v61 h61) h61) fun v62 h62 =>
 bnd (gD v59 true (aF .leq v62 (aC 250) h62) h62) fun v63 h63 =>
 bnd (aQ v59 v63 (.b false) h63) fun v64 h64 =>
 bnd (gD v64 true (some (v49, h64)) h64) fun v65 h65 =>
 bnd (gD v64 true (eO .not v65 h65) h65) fun v66 h66 =>
 bnd (aQ v64 v66 (.b false) h66) fun v67 h67 =>
 some (v67, h67)) (
 some ((.b false), h46)))))
noncomputable abbrev c144 : Code := cf Tryz.f144
noncomputable abbrev r144 : K := aR CF Tryz.f144
noncomputable def D144 (r : RT) (n : Nat) (c : Code) (X : Nat → K) (k : K) : K := aM CF r 86 n c X r144 k
theorem eIo : D144 r n c144 x0 r144 = (K2 (s144 r n) 0 1) :=
 (by kernel_rfl)
theorem dXg : aE CF r n 144 args h = s144 r n (aP args 0) (aP args 1) h :=
 (by kernel_rfl : aE CF r n 144 args h = D144 r n c144 x0 r144 (aJ args) h).trans ((congrFun (congrFun (eIo r n) (aJ args)) h).trans (by kernel_rfl))
noncomputable def s145 (r : RT) (n : Nat) (x0 : DV) (h0 : Hp) : aK :=
 bnd (bM x0 h0) fun v1 h1 =>
 bnd (aB 0 v1 h1) fun v2 h2 =>
 bnd (aA v2 h2) fun v3 h3 =>
 bnd (r 165 [v3] h3) fun v4 h4 =>
 bnd (aG 0 v4 h4) fun v5 h5 =>
 bnd (aG 1 v4 h5) fun v6 h6 =>
 bnd (aB 0 v1 h6) fun v7 h7 =>
 bnd (aA v7 h7) fun v8 h8 =>
 bnd (aF .geq v8 (aC 1) h8) fun v9 h9 =>
 bnd (gD v9 true (aB 0 v1 h9) h9) fun v10 h10 =>
 bnd (gD v9 true (aA v10 h10) h10) fun v11 h11 =>
 bnd (gD v9 true (aF .leq v11 (aC 20) h11) h11) fun v12 h12 =>
 bnd (aQ v9 v12 (.b false) h12) fun v13 h13 =>
 bnd (gD v13 true (aB 1 v1 h13) h13) fun v14 h14 =>
 bnd (gD v13 true (aA v14 h14) h14) fun v15 h15 =>
 bnd (gD v13 true (some (v5, h15)) h15) fun v16 h16 =>
 bnd (gD v13 true (r 166 [v15, v16] h16) h16) fun v17 h17 =>
 bnd (aQ v13 v17 (.b false) h17) fun v18 h18 =>
 bnd (gD v18 true (aB 2 v1 h18) h18) fun v19 h19 =>
 bnd (gD v18 true (aA v19 h19) h19) fun v20 h20 =>
 bnd (gD v18 true (some (v6, h20)) h20) fun v21 h21 =>
 bnd (gD v18 true (r 166 [v20, v21] h21) h21) fun v22 h22 =>
 bnd (aQ v18 v22 (.b false) h22) fun v23 h23 =>
 some (v23, h23)
noncomputable abbrev c145 : Code := cf Tryz.f145
noncomputable abbrev r145 : K := aR CF Tryz.f145
noncomputable def D145 (r : RT) (n : Nat) (c : Code) (X : Nat → K) (k : K) : K := aM CF r 31 n c X r145 k
theorem dYr : D145 r n c145 x0 r145 = (K1 (s145 r n) 0) :=
 (by kernel_rfl)
theorem dPl : aE CF r n 145 args h = s145 r n (aP args 0) h :=
 (by kernel_rfl : aE CF r n 145 args h = D145 r n c145 x0 r145 (aJ args) h).trans ((congrFun (congrFun (dYr r n) (aJ args)) h).trans (by kernel_rfl))
noncomputable def bE (r : RT) (n : Nat) (h0 : Hp) : aK :=
 some ((.b true), h0)
noncomputable def uW (r : RT) (n : Nat) (x2 x3 x4 x27 x51 : DV) (h0 : Hp) : aK :=
 aU x51 (
 bnd (aB 1 x4 h0) fun v1 h1 =>
 bnd (aA v1 h1) fun v2 h2 =>
 bnd (aF .lss v2 x2 h2) fun v3 h3 =>
 some (v3, h3)) (
 bnd (aF .eql x27 (aC 18) h0) fun v4 h4 =>
 aU v4 (
 bnd (aB 2 x4 h4) fun v5 h5 =>
 bnd (aA v5 h5) fun v6 h6 =>
 bnd (aF .leq v6 (aC 4) h6) fun v7 h7 =>
 bnd (gD v7 true (aB 1 x4 h7) h7) fun v8 h8 =>
 bnd (gD v7 true (aA v8 h8) h8) fun v9 h9 =>
 bnd (gD v7 true (aB 2 x4 h9) h9) fun v10 h10 =>
 bnd (gD v7 true (aA v10 h10) h10) fun v11 h11 =>
 bnd (gD v7 true (aF .add v9 v11 h11) h11) fun v12 h12 =>
 bnd (gD v7 true (aB 2 x3 h12) h12) fun v13 h13 =>
 bnd (gD v7 true (aA v13 h13) h13) fun v14 h14 =>
 bnd (gD v7 true (aF .leq v12 v14 h14) h14) fun v15 h15 =>
 bnd (aQ v7 v15 (.b false) h15) fun v16 h16 =>
 some (v16, h16)) (
   bE r n h4))
noncomputable def bJd (r : RT) (n : Nat) (x2 x3 x4 x27 : DV) (h0 : Hp) : aK :=
 bnd (aF .eql x27 (aC 8) h0) fun v1 h1 =>
 aU v1 (
  uW r n x2 x3 x4 x27 v1 h1) (
 bnd (aF .eql x27 (aC 11) h1) fun v2 h2 =>
  uW r n x2 x3 x4 x27 v2 h2)
noncomputable def wO (r : RT) (n : Nat) (x2 x3 x4 x27 x43 : DV) (h0 : Hp) : aK :=
 aU x43 (
 bnd (aB 1 x4 h0) fun v1 h1 =>
 bnd (aA v1 h1) fun v2 h2 =>
 bnd (aB 2 x3 h2) fun v3 h3 =>
 bnd (aA v3 h3) fun v4 h4 =>
 bnd (aF .lss v2 v4 h4) fun v5 h5 =>
 some (v5, h5)) (
  bJd r n x2 x3 x4 x27 h0)
noncomputable def bHb (r : RT) (n : Nat) (x2 x3 x4 x27 : DV) (h0 : Hp) : aK :=
 bnd (aF .eql x27 (aC 7) h0) fun v1 h1 =>
 aU v1 (
  wO r n x2 x3 x4 x27 v1 h1) (
 bnd (aF .eql x27 (aC 10) h1) fun v2 h2 =>
  wO r n x2 x3 x4 x27 v2 h2)
noncomputable def vO (r : RT) (n : Nat) (x2 x3 x4 x8 x27 x34 : DV) (h0 : Hp) : aK :=
 aU x34 (
 bnd (gD x8 true (aB 2 x4 h0) h0) fun v1 h1 =>
 bnd (gD x8 true (aA v1 h1) h1) fun v2 h2 =>
 bnd (gD x8 true (aF .leq v2 (aC 4) h2) h2) fun v3 h3 =>
 bnd (aQ x8 v3 (.b false) h3) fun v4 h4 =>
 some (v4, h4)) (
  bHb r n x2 x3 x4 x27 h0)
noncomputable def bPp (r : RT) (n : Nat) (x2 x3 x4 x8 x27 : DV) (h0 : Hp) : aK :=
 bnd (aF .eql x27 (aC 14) h0) fun v1 h1 =>
 aU v1 (
  vO r n x2 x3 x4 x8 x27 v1 h1) (
 bnd (aF .eql x27 (aC 15) h1) fun v2 h2 =>
  vO r n x2 x3 x4 x8 x27 v2 h2)
noncomputable def aZu (r : RT) (n : Nat) (x2 x3 x4 x8 x27 x31 : DV) (h0 : Hp) : aK :=
 aU x31 (
 some (x8, h0)) (
  bPp r n x2 x3 x4 x8 x27 h0)
noncomputable def cDq (r : RT) (n : Nat) (x2 x3 x4 x8 x27 : DV) (h0 : Hp) : aK :=
 bnd (aF .eql x27 (aC 9) h0) fun v1 h1 =>
  aZu r n x2 x3 x4 x8 x27 v1 h1
noncomputable def aVf (r : RT) (n : Nat) (x2 x3 x4 x7 x8 x27 x28 : DV) (h0 : Hp) : aK :=
 aU x28 (
 some (x7, h0)) (
  cDq r n x2 x3 x4 x8 x27 h0)
noncomputable def aUf (r : RT) (n : Nat) (x2 x3 x4 x7 x8 x27 : DV) (h0 : Hp) : aK :=
 bnd (aF .eql x27 (aC 6) h0) fun v1 h1 =>
  aVf r n x2 x3 x4 x7 x8 x27 v1 h1
noncomputable def aYx (r : RT) (n : Nat) (x2 x3 x4 x7 x8 : DV) (h0 : Hp) : aK :=
 bnd (aB 0 x4 h0) fun v1 h1 =>
 bnd (aA v1 h1) fun v2 h2 =>
  aUf r n x2 x3 x4 x7 x8 v2 h2
noncomputable def aTq (r : RT) (n : Nat) (x2 x3 x4 x7 : DV) (h0 : Hp) : aK :=
 bnd (gD x7 true (aB 4 x3 h0) h0) fun v1 h1 =>
 bnd (gD x7 true (aA v1 h1) h1) fun v2 h2 =>
 bnd (gD x7 true (aB 1 x4 h2) h2) fun v3 h3 =>
 bnd (gD x7 true (aA v3 h3) h3) fun v4 h4 =>
 bnd (gD x7 true (aI 4 v2 v4 h4) h4) fun v5 h5 =>
 bnd (gD x7 true (aB 0 v5 h5) h5) fun v6 h6 =>
 bnd (gD x7 true (aA v6 h6) h6) fun v7 h7 =>
 bnd (gD x7 true (aF .eql v7 (aC 3) h7) h7) fun v8 h8 =>
 bnd (aQ x7 v8 (.b false) h8) fun v9 h9 =>
  aYx r n x2 x3 x4 x7 v9 h9
noncomputable def aAq (r : RT) (n : Nat) (x2 x3 x4 : DV) (h0 : Hp) : aK :=
 bnd (aB 1 x4 h0) fun v1 h1 =>
 bnd (aA v1 h1) fun v2 h2 =>
 bnd (aB 4 x3 h2) fun v3 h3 =>
 bnd (aA v3 h3) fun v4 h4 =>
 bnd (bK v4 h4) fun v5 h5 =>
 bnd (aF .lss v2 v5 h5) fun v6 h6 =>
  aTq r n x2 x3 x4 v6 h6
noncomputable def s146 (r : RT) (n : Nat) (x0 x1 x2 : DV) (h0 : Hp) : aK :=
 bnd (bM x0 h0) fun v1 h1 =>
 bnd (bM x1 h1) fun v2 h2 =>
  aAq r n x2 v1 v2 h2
noncomputable abbrev c146 : Code := cf Tryz.f146
noncomputable abbrev aDj : Code := cR c146
noncomputable abbrev aNo : Code := cR aDj
noncomputable abbrev aEt : Code := cR aNo
noncomputable abbrev dVl : Code := cR aEt
noncomputable abbrev zQ : Code := cL aEt
noncomputable abbrev aUp : Code := cR zQ
noncomputable abbrev aNt : Code := cL aUp
noncomputable abbrev aAy : Code := cR aNt
noncomputable abbrev zC : Code := cR aAy
noncomputable abbrev qK : Code := cR zC
noncomputable abbrev qH : Code := cR qK
noncomputable abbrev qD : Code := cR qH
noncomputable abbrev qF : Code := cR qD
noncomputable abbrev pG : Code := cR qF
noncomputable abbrev qG : Code := cR pG
noncomputable abbrev cVk : Code := cR qG
noncomputable abbrev bEg : Code := cL qG
noncomputable abbrev cXf : Code := cL pG
noncomputable abbrev bGs : Code := cL qF
noncomputable abbrev dFv : Code := cL qD
noncomputable abbrev bHm : Code := cL qH
noncomputable abbrev cUw : Code := cL qK
noncomputable abbrev bGi : Code := cL zC
noncomputable abbrev cTe : Code := cL aAy
noncomputable abbrev bBb : Code := cL aNt
noncomputable abbrev bBv : Code := cL zQ
noncomputable abbrev bCn : Code := cL aNo
noncomputable abbrev bGu : Code := cL aDj
noncomputable abbrev aGp : Code := cL c146
noncomputable abbrev r146 : K := aR CF Tryz.f146
noncomputable def D146 (r : RT) (n : Nat) (c : Code) (X : Nat → K) (k : K) : K := aM CF r 73 n c X r146 k
theorem dFz : D146 r n dVl x0 r146 = (K0 (bE r n)) :=
 (by kernel_rfl)
theorem cMf : D146 r n cVk (xs x0 0 (K0 (bE r n))) (K0 (bE r n)) = (K5 (uW r n) 2 3 4 27 51) :=
 (by kernel_rfl)
theorem bNc : D146 r n qG (xs x0 0 (K0 (bE r n))) (K0 (bE r n)) = D146 r n bEg (xs x0 0 (K0 (bE r n))) (K5 (uW r n) 2 3 4 27 51) :=
 congrArg (fun k => D146 r n bEg (xs x0 0 (K0 (bE r n))) k) (cMf r n)
theorem bUg : D146 r n qG (xs x0 0 (K0 (bE r n))) (K0 (bE r n)) = (K4 (bJd r n) 2 3 4 27) :=
 (bNc r n).trans
 ((by kernel_rfl))
theorem cDt : D146 r n pG (xs x0 0 (K0 (bE r n))) (K0 (bE r n)) = (K5 (wO r n) 2 3 4 27 43) :=
 (by kernel_rfl : D146 r n pG (xs x0 0 (K0 (bE r n))) (K0 (bE r n)) = (fun (env : aV) (h : Hp) => aU (opr env (cC pG)) (D146 r n cXf (xs x0 0 (K0 (bE r n))) (K0 (bE r n)) env h) (D146 r n qG (xs x0 0 (K0 (bE r n))) (K0 (bE r n)) env h))).trans (by rw [bUg r n]; kernel_rfl)
theorem bOt : D146 r n qF (xs x0 0 (K0 (bE r n))) (K0 (bE r n)) = D146 r n bGs (xs x0 0 (K0 (bE r n))) (K5 (wO r n) 2 3 4 27 43) :=
 congrArg (fun k => D146 r n bGs (xs x0 0 (K0 (bE r n))) k) (cDt r n)
theorem bZy : D146 r n qF (xs x0 0 (K0 (bE r n))) (K0 (bE r n)) = (K4 (bHb r n) 2 3 4 27) :=
 (bOt r n).trans
 ((by kernel_rfl))
theorem bSl : D146 r n qD (xs x0 0 (K0 (bE r n))) (K0 (bE r n)) = (K6 (vO r n) 2 3 4 8 27 34) :=
 (by kernel_rfl : D146 r n qD (xs x0 0 (K0 (bE r n))) (K0 (bE r n)) = (fun (env : aV) (h : Hp) => aU (opr env (cC qD)) (D146 r n dFv (xs x0 0 (K0 (bE r n))) (K0 (bE r n)) env h) (D146 r n qF (xs x0 0 (K0 (bE r n))) (K0 (bE r n)) env h))).trans (by rw [bZy r n]; kernel_rfl)
theorem bUd : D146 r n qH (xs x0 0 (K0 (bE r n))) (K0 (bE r n)) = D146 r n bHm (xs x0 0 (K0 (bE r n))) (K6 (vO r n) 2 3 4 8 27 34) :=
 congrArg (fun k => D146 r n bHm (xs x0 0 (K0 (bE r n))) k) (bSl r n)
theorem cWf : D146 r n qH (xs x0 0 (K0 (bE r n))) (K0 (bE r n)) = (K5 (bPp r n) 2 3 4 8 27) :=
 (bUd r n).trans
 ((by kernel_rfl))
theorem cZb : D146 r n qK (xs x0 0 (K0 (bE r n))) (K0 (bE r n)) = (K6 (aZu r n) 2 3 4 8 27 31) :=
 (by kernel_rfl : D146 r n qK (xs x0 0 (K0 (bE r n))) (K0 (bE r n)) = (fun (env : aV) (h : Hp) => aU (opr env (cC qK)) (D146 r n cUw (xs x0 0 (K0 (bE r n))) (K0 (bE r n)) env h) (D146 r n qH (xs x0 0 (K0 (bE r n))) (K0 (bE r n)) env h))).trans (by rw [cWf r n]; kernel_rfl)
theorem bRm : D146 r n zC (xs x0 0 (K0 (bE r n))) (K0 (bE r n)) = D146 r n bGi (xs x0 0 (K0 (bE r n))) (K6 (aZu r n) 2 3 4 8 27 31) :=
 congrArg (fun k => D146 r n bGi (xs x0 0 (K0 (bE r n))) k) (cZb r n)
theorem cTu : D146 r n zC (xs x0 0 (K0 (bE r n))) (K0 (bE r n)) = (K5 (cDq r n) 2 3 4 8 27) :=
 (bRm r n).trans
 ((by kernel_rfl))
theorem cQe : D146 r n aAy (xs x0 0 (K0 (bE r n))) (K0 (bE r n)) = (K7 (aVf r n) 2 3 4 7 8 27 28) :=
 (by kernel_rfl : D146 r n aAy (xs x0 0 (K0 (bE r n))) (K0 (bE r n)) = (fun (env : aV) (h : Hp) => aU (opr env (cC aAy)) (D146 r n cTe (xs x0 0 (K0 (bE r n))) (K0 (bE r n)) env h) (D146 r n zC (xs x0 0 (K0 (bE r n))) (K0 (bE r n)) env h))).trans (by rw [cTu r n]; kernel_rfl)
theorem cJa : D146 r n aNt (xs x0 0 (K0 (bE r n))) (K0 (bE r n)) = D146 r n bBb (xs x0 0 (K0 (bE r n))) (K7 (aVf r n) 2 3 4 7 8 27 28) :=
 congrArg (fun k => D146 r n bBb (xs x0 0 (K0 (bE r n))) k) (cQe r n)
theorem cQf : D146 r n aUp x0 (K0 (bE r n)) = (K6 (aUf r n) 2 3 4 7 8 27) :=
 (by kernel_rfl : D146 r n aUp x0 (K0 (bE r n)) = D146 r n aNt (xs x0 0 (K0 (bE r n))) (K0 (bE r n))).trans
 ((cJa r n).trans
 ((by kernel_rfl)))
theorem cLl : D146 r n aEt x0 r146 = D146 r n zQ x0 (K0 (bE r n)) :=
 congrArg (fun k => D146 r n zQ x0 k) (dFz r n)
theorem cMu : D146 r n zQ x0 (K0 (bE r n)) = D146 r n bBv x0 (K6 (aUf r n) 2 3 4 7 8 27) :=
 congrArg (fun k => D146 r n bBv x0 k) (cQf r n)
theorem cWs : D146 r n aEt x0 r146 = (K5 (aYx r n) 2 3 4 7 8) :=
 (cLl r n).trans
 ((cMu r n).trans
 ((by kernel_rfl)))
theorem bSb : D146 r n aNo x0 r146 = D146 r n bCn x0 (K5 (aYx r n) 2 3 4 7 8) :=
 congrArg (fun k => D146 r n bCn x0 k) (cWs r n)
theorem dDk : D146 r n aNo x0 r146 = (K4 (aTq r n) 2 3 4 7) :=
 (bSb r n).trans
 ((by kernel_rfl))
theorem bWe : D146 r n aDj x0 r146 = D146 r n bGu x0 (K4 (aTq r n) 2 3 4 7) :=
 congrArg (fun k => D146 r n bGu x0 k) (dDk r n)
theorem dDa : D146 r n aDj x0 r146 = (K3 (aAq r n) 2 3 4) :=
 (bWe r n).trans
 ((by kernel_rfl))
theorem cVs : D146 r n c146 x0 r146 = D146 r n aGp x0 (K3 (aAq r n) 2 3 4) :=
 congrArg (fun k => D146 r n aGp x0 k) (dDa r n)
theorem cRk (q0 : dH) : D146 r n aGp x0 (K3 q0 2 3 4) = fun (env : aV) (h : Hp) =>
 bnd (bM (env 0) h) fun v1 h1 =>
 bnd (bM (env 1) h1) fun v2 h2 =>
  q0 (env 2) v1 v2 h2 := by kernel_rfl
theorem bZg : (fun (env : aV) (h : Hp) =>
 bnd (bM (env 0) h) fun v1 h1 =>
 bnd (bM (env 1) h1) fun v2 h2 =>
  aAq r n (env 2) v1 v2 h2) = (K3 (s146 r n) 0 1 2) := by kernel_rfl
theorem eHe : D146 r n c146 x0 r146 = (K3 (s146 r n) 0 1 2) :=
 (cVs r n).trans
 ((cRk r n (aAq r n)).trans (bZg r n))
theorem dSa : aE CF r n 146 args h = s146 r n (aP args 0) (aP args 1) (aP args 2) h :=
 (by kernel_rfl : aE CF r n 146 args h = D146 r n c146 x0 r146 (aJ args) h).trans ((congrFun (congrFun (eHe r n) (aJ args)) h).trans (by kernel_rfl))
noncomputable def eX (r : RT) (n : Nat) (x3 : DV) (h0 : Hp) : aK :=
 some (x3, h0)
noncomputable def bIg (r : RT) (n : Nat) (kk6 : dB) (x3 x4 x11 x12 : DV) (h0 : Hp) : aK :=
 bnd (aF .lss x12 x11 h0) fun v1 h1 =>
 aU v1 (
 bnd (cK CF r x4 [x12] h1) fun v2 h2 =>
 bnd (aI 1 x3 x12 h2) fun v3 h3 =>
 bnd (aD 1 v3 v2 h3) fun _ h4 =>
 bnd (aF .add x12 (aC 1) h4) fun v5 h5 =>
      kk6 x3 x4 x11 v5 h5) (
      eX r n x3 h1)
noncomputable def uY (r : RT) (n : Nat) (m : Nat) : dB :=
 Nat.rec (motive := fun _ => dB) (fun _ _ _ _ _ => none) (fun _ ih => bIg r n ih) m
noncomputable def cKl (r : RT) (n : Nat) : dB := uY r n n
noncomputable def aZm (r : RT) (n : Nat) (x3 x4 x11 x12 : DV) (h0 : Hp) : aK :=
 cKl r n x3 x4 x11 x12 h0
noncomputable def aUx (r : RT) (n : Nat) (x1 x3 x4 : DV) (h0 : Hp) : aK :=
 bnd (aA x1 h0) fun v1 h1 =>
 bnd (bK v1 h1) fun v2 h2 =>
  aZm r n x3 x4 v2 (aC 0) h2
noncomputable def xL (r : RT) (n : Nat) (x1 x3 : DV) (h0 : Hp) : aK :=
 aUx r n x1 x3 (.f 167 [] [x1]) h0
noncomputable def qX (r : RT) (n : Nat) (x1 : DV) (h0 : Hp) : aK :=
 bnd (aA x1 h0) fun v1 h1 =>
 bnd (bK v1 h1) fun v2 h2 =>
 bnd (cI 1 8 [(aC 0)] v2 v2 h2) fun v3 h3 =>
  xL r n x1 v3 h3
noncomputable def s147 (r : RT) (n : Nat) (x0 : DV) (h0 : Hp) : aK :=
 bnd (bM x0 h0) fun v1 h1 =>
  qX r n v1 h1
noncomputable abbrev c147 : Code := cf Tryz.f147
noncomputable abbrev aKu : Code := cR c147
noncomputable abbrev aJu : Code := cR aKu
noncomputable abbrev aNw : Code := cR aJu
noncomputable abbrev dTn : Code := cR aNw
noncomputable abbrev zT : Code := cL aNw
noncomputable abbrev aVe : Code := cR zT
noncomputable abbrev aEl : Code := cL aVe
noncomputable abbrev oX : Code := cL aEl
noncomputable abbrev bVf : Code := cL zT
noncomputable abbrev bEn : Code := cL aJu
noncomputable abbrev aJp : Code := cL aKu
noncomputable abbrev aDa : Code := cL c147
noncomputable abbrev r147 : K := aR CF Tryz.f147
noncomputable def D147 (r : RT) (n : Nat) (c : Code) (X : Nat → K) (k : K) : K := aM CF r 23 n c X r147 k
theorem cXh : D147 r n dTn x0 r147 = (K1 (eX r n) 3) :=
 (by kernel_rfl)
theorem bUo (kk6 : dB) : D147 r n oX (xs x0 0 (K1 (eX r n) 3)) (K4 kk6 3 4 11 12) = (K4 (bIg r n kk6) 3 4 11 12) :=
 (by kernel_rfl)
theorem cAx (m : Nat) : aL (fun kk => D147 r n oX (xs x0 0 (K1 (eX r n) 3)) kk) m = (K4 (uY r n m) 3 4 11 12) := by
 induction m with
 | zero => exact (by kernel_rfl : aL (fun kk => D147 r n oX (xs x0 0 (K1 (eX r n) 3)) kk) 0 = (K4 (uY r n 0) 3 4 11 12))
 | succ m ih =>
  refine (by kernel_rfl : aL (fun kk => D147 r n oX (xs x0 0 (K1 (eX r n) 3)) kk) (m + 1) = D147 r n oX (xs x0 0 (K1 (eX r n) 3)) (aL (fun kk => D147 r n oX (xs x0 0 (K1 (eX r n) 3)) kk) m)).trans ?_
  rw [ih]
  exact (bUo r n (uY r n m)).trans (by kernel_rfl)
theorem cTo : D147 r n aEl (xs x0 0 (K1 (eX r n) 3)) (K1 (eX r n) 3) = (K4 (cKl r n) 3 4 11 12) :=
 (by kernel_rfl : D147 r n aEl (xs x0 0 (K1 (eX r n) 3)) (K1 (eX r n) 3) = aL (fun kk => D147 r n oX (xs x0 0 (K1 (eX r n) 3)) kk) n).trans ((cAx r n n).trans (by kernel_rfl))
theorem cPv : D147 r n aVe x0 (K1 (eX r n) 3) = (K4 (aZm r n) 3 4 11 12) :=
 (by kernel_rfl : D147 r n aVe x0 (K1 (eX r n) 3) = D147 r n aEl (xs x0 0 (K1 (eX r n) 3)) (K1 (eX r n) 3)).trans
 ((cTo r n).trans (by kernel_rfl))
theorem cCw : D147 r n aNw x0 r147 = D147 r n zT x0 (K1 (eX r n) 3) :=
 congrArg (fun k => D147 r n zT x0 k) (cXh r n)
theorem bYm : D147 r n zT x0 (K1 (eX r n) 3) = D147 r n bVf x0 (K4 (aZm r n) 3 4 11 12) :=
 congrArg (fun k => D147 r n bVf x0 k) (cPv r n)
theorem cQb : D147 r n aNw x0 r147 = (K3 (aUx r n) 1 3 4) :=
 (cCw r n).trans
 ((bYm r n).trans
 ((by kernel_rfl)))
theorem cKe : D147 r n aJu x0 r147 = D147 r n bEn x0 (K3 (aUx r n) 1 3 4) :=
 congrArg (fun k => D147 r n bEn x0 k) (cQb r n)
theorem cWz : D147 r n aJu x0 r147 = (K2 (xL r n) 1 3) :=
 (cKe r n).trans
 ((by kernel_rfl))
theorem cCc : D147 r n aKu x0 r147 = D147 r n aJp x0 (K2 (xL r n) 1 3) :=
 congrArg (fun k => D147 r n aJp x0 k) (cWz r n)
theorem bSj (q0 : eN) : D147 r n aJp x0 (K2 q0 1 3) = fun (env : aV) (h : Hp) =>
 bnd (aA (env 1) h) fun v1 h1 =>
 bnd (bK v1 h1) fun v2 h2 =>
 bnd (cI 1 8 [(aC 0)] v2 v2 h2) fun v3 h3 =>
  q0 (env 1) v3 h3 := by kernel_rfl
theorem bKx : (fun (env : aV) (h : Hp) =>
 bnd (aA (env 1) h) fun v1 h1 =>
 bnd (bK v1 h1) fun v2 h2 =>
 bnd (cI 1 8 [(aC 0)] v2 v2 h2) fun v3 h3 =>
  xL r n (env 1) v3 h3) = (K1 (qX r n) 1) := by kernel_rfl
theorem cRx : D147 r n aKu x0 r147 = (K1 (qX r n) 1) :=
 (cCc r n).trans
 ((bSj r n (xL r n)).trans (bKx r n))
theorem dPj : D147 r n c147 x0 r147 = D147 r n aDa x0 (K1 (qX r n) 1) :=
 congrArg (fun k => D147 r n aDa x0 k) (cRx r n)
theorem dRi (q0 : TT1) : D147 r n aDa x0 (K1 q0 1) = fun (env : aV) (h : Hp) =>
 bnd (bM (env 0) h) fun v1 h1 =>
  q0 v1 h1 := by kernel_rfl
theorem cWg : (fun (env : aV) (h : Hp) =>
 bnd (bM (env 0) h) fun v1 h1 =>
  qX r n v1 h1) = (K1 (s147 r n) 0) := by kernel_rfl
theorem eFx : D147 r n c147 x0 r147 = (K1 (s147 r n) 0) :=
 (dPj r n).trans
 ((dRi r n (qX r n)).trans (cWg r n))
theorem dMt : aE CF r n 147 args h = s147 r n (aP args 0) h :=
 (by kernel_rfl : aE CF r n 147 args h = D147 r n c147 x0 r147 (aJ args) h).trans ((congrFun (congrFun (eFx r n) (aJ args)) h).trans (by kernel_rfl))
end Go.Dd

namespace Go.Dd
open Go.Proofs
variable (r : RT) (n : Nat) (args : List DV) (h : Hp)
noncomputable def bH (r : RT) (n : Nat) (h0 : Hp) : aK :=
 some ((.b true), h0)
noncomputable def cG (r : RT) (n : Nat) (kk4 : cA) (x0 x1 x11 x12 x13 : DV) (h0 : Hp) : aK :=
 bnd (aF .add x13 (aC 1) h0) fun v1 h1 =>
  kk4 x0 x1 x11 x12 v1 h1
noncomputable def gB (r : RT) (n : Nat) (kk4 : cA) (x0 x1 x5 x6 x11 x12 x13 : DV) (h0 : Hp) : aK :=
 bnd (aH 3 x6 h0) fun v1 h1 =>
 bnd (r 169 [v1] h1) fun v2 h2 =>
 bnd (aF .geq v2 (aC 0) h2) fun v3 h3 =>
 bnd (gD v3 true (some (v2, h3)) h3) fun v4 h4 =>
 bnd (gD v3 true (some (x0, h4)) h4) fun v5 h5 =>
 bnd (gD v3 true (bK v5 h5) h5) fun v6 h6 =>
 bnd (gD v3 true (aF .geq v4 v6 h6) h6) fun v7 h7 =>
 bnd (gD v3 true (some (v7, h7)) h7) fun v8 h8 =>
 bnd (gD v8 false (some (x1, h8)) h8) fun v9 h9 =>
 bnd (gD v8 false (some (v2, h9)) h9) fun v10 h10 =>
 bnd (gD v8 false (aI 1 v9 v10 h10) h10) fun v11 h11 =>
 bnd (gD v8 false (aA v11 h11) h11) fun v12 h12 =>
 bnd (gD v8 false (some (x1, h12)) h12) fun v13 h13 =>
 bnd (gD v8 false (some (x5, h13)) h13) fun v14 h14 =>
 bnd (gD v8 false (aI 1 v13 v14 h14) h14) fun v15 h15 =>
 bnd (gD v8 false (aA v15 h15) h15) fun v16 h16 =>
 bnd (gD v8 false (aF .neq v12 v16 h16) h16) fun v17 h17 =>
 bnd (gD v3 true (aQ v8 (.b true) v17 h17) h17) fun v18 h18 =>
 bnd (aQ v3 v18 (.b false) h18) fun v19 h19 =>
 aU v19 (
 some ((.b false), h19)) (
  cG r n kk4 x0 x1 x11 x12 x13 h19)
noncomputable def tZ (r : RT) (n : Nat) (kk4 : cA) (x0 x1 x5 x6 x7 x8 x9 x11 x12 x13 : DV) (h0 : Hp) : aK :=
 bnd (eO .not x8 h0) fun v1 h1 =>
 bnd (gD v1 false (some (x7, h1)) h1) fun v2 h2 =>
 bnd (gD v1 false (some (x9, h2)) h2) fun v3 h3 =>
 bnd (gD v1 false (aF .gtr v2 v3 h3) h3) fun v4 h4 =>
 bnd (aQ v1 (.b true) v4 h4) fun v5 h5 =>
 aU v5 (
 some ((.b false), h5)) (
  gB r n kk4 x0 x1 x5 x6 x11 x12 x13 h5)
noncomputable def aCp (r : RT) (n : Nat) (kk4 : cA) (x0 x1 x5 x6 x7 x8 x9 x11 x12 x13 : DV) (h0 : Hp) : aK :=
 bnd (aI 1 x1 x5 h0) fun v1 h1 =>
 bnd (aA v1 h1) fun v2 h2 =>
 bnd (aF .geq v2 (aC 0) h2) fun v3 h3 =>
 aU v3 (
 bnd (aI 1 x1 x5 h3) fun v4 h4 =>
 bnd (aA v4 h4) fun v5 h5 =>
 bnd (r 168 [x0, v5] h5) fun v6 h6 =>
 bnd (aG 0 v6 h6) fun v7 h7 =>
 bnd (aG 1 v6 h7) fun v8 h8 =>
  tZ r n kk4 x0 x1 x5 x6 x7 x8 v7 x11 x12 x13 h8) (
  tZ r n kk4 x0 x1 x5 x6 x7 x8 x9 x11 x12 x13 h3)
noncomputable def aIs (r : RT) (n : Nat) (kk4 : cA) (x0 x1 x5 x6 x7 x8 x11 x12 x13 : DV) (h0 : Hp) : aK :=
 bnd (bK x0 h0) fun v1 h1 =>
  aCp r n kk4 x0 x1 x5 x6 x7 x8 v1 x11 x12 x13 h1
noncomputable def bHy (r : RT) (n : Nat) (kk4 : cA) (x0 x1 x5 x6 x11 x12 x13 : DV) (h0 : Hp) : aK :=
 bnd (r 168 [x0, x5] h0) fun v1 h1 =>
 bnd (aG 0 v1 h1) fun v2 h2 =>
 bnd (aG 1 v1 h2) fun v3 h3 =>
  aIs r n kk4 x0 x1 x5 x6 v2 v3 x11 x12 x13 h3
noncomputable def aMm (r : RT) (n : Nat) (kk4 : cA) (x0 x1 x5 x6 x11 x12 x13 x20 : DV) (h0 : Hp) : aK :=
 aU x20 (
  bHy r n kk4 x0 x1 x5 x6 x11 x12 x13 h0) (
  gB r n kk4 x0 x1 x5 x6 x11 x12 x13 h0)
noncomputable def zE (r : RT) (n : Nat) (kk4 : cA) (x0 x1 x5 x6 x11 x12 x13 : DV) (h0 : Hp) : aK :=
 bnd (aB 0 x6 h0) fun v1 h1 =>
 bnd (aA v1 h1) fun v2 h2 =>
 bnd (aF .eql v2 (aC 18) h2) fun v3 h3 =>
  aMm r n kk4 x0 x1 x5 x6 x11 x12 x13 v3 h3
noncomputable def aNz (r : RT) (n : Nat) (kk4 : cA) (x0 x1 x11 x12 x13 : DV) (h0 : Hp) : aK :=
 bnd (aI 3 x11 x13 h0) fun v1 h1 =>
 bnd (aH 3 v1 h1) fun v2 h2 =>
 bnd (bA [(aC 0), (aC 0), (aC 0)] h2) fun v3 h3 =>
 bnd (aD 3 v3 v2 h3) fun _ h4 =>
  zE r n kk4 x0 x1 x13 v3 x11 x12 x13 h4
noncomputable def aSz (r : RT) (n : Nat) (kk4 : cA) (x0 x1 x11 x12 x13 x14 : DV) (h0 : Hp) : aK :=
 aU x14 (
  aNz r n kk4 x0 x1 x11 x12 x13 h0) (
  bH r n h0)
noncomputable def bGp (r : RT) (n : Nat) (kk4 : cA) (x0 x1 x11 x12 x13 : DV) (h0 : Hp) : aK :=
 bnd (aF .lss x13 x12 h0) fun v1 h1 =>
  aSz r n kk4 x0 x1 x11 x12 x13 v1 h1
noncomputable def wC (r : RT) (n : Nat) (m : Nat) : cA :=
 Nat.rec (motive := fun _ => cA) (fun _ _ _ _ _ _ => none) (fun _ ih => bGp r n ih) m
noncomputable def cKk (r : RT) (n : Nat) : cA := wC r n n
noncomputable def aXq (r : RT) (n : Nat) (x0 x1 x11 x12 x13 : DV) (h0 : Hp) : aK :=
 cKk r n x0 x1 x11 x12 x13 h0
noncomputable def aTy (r : RT) (n : Nat) (x0 x1 : DV) (h0 : Hp) : aK :=
 bnd (bK x0 h0) fun v1 h1 =>
  aXq r n x0 x1 x0 v1 (aC 0) h1
noncomputable def s148 (r : RT) (n : Nat) (x0 x1 : DV) (h0 : Hp) : aK :=
 aTy r n x0 x1 h0
noncomputable abbrev c148 : Code := cf Tryz.f148
noncomputable abbrev aDg : Code := cR c148
noncomputable abbrev dUq : Code := cR aDg
noncomputable abbrev aAs : Code := cL aDg
noncomputable abbrev aVz : Code := cR aAs
noncomputable abbrev aDo : Code := cL aVz
noncomputable abbrev kL : Code := cL aDo
noncomputable abbrev aKc : Code := cR kL
noncomputable abbrev aIi : Code := cR aKc
noncomputable abbrev dLr : Code := cR aIi
noncomputable abbrev wM : Code := cL aIi
noncomputable abbrev wI : Code := cL wM
noncomputable abbrev uC : Code := cR wI
noncomputable abbrev cUt : Code := cR uC
noncomputable abbrev qS : Code := cL uC
noncomputable abbrev qP : Code := cR qS
noncomputable abbrev pD : Code := cL qP
noncomputable abbrev vT : Code := cR pD
noncomputable abbrev vF : Code := cR vT
noncomputable abbrev cXj : Code := cR vF
noncomputable abbrev bBs : Code := cL vF
noncomputable abbrev bHd : Code := cL vT
noncomputable abbrev bDd : Code := cL pD
noncomputable abbrev dEd : Code := cR qP
noncomputable abbrev bEp : Code := cL qS
noncomputable abbrev aMs : Code := cL wI
noncomputable abbrev bEa : Code := cL aKc
noncomputable abbrev bAi : Code := cL kL
noncomputable abbrev bCd : Code := cL aAs
noncomputable abbrev bEk : Code := cL c148
noncomputable abbrev r148 : K := aR CF Tryz.f148
noncomputable def D148 (r : RT) (n : Nat) (c : Code) (X : Nat → K) (k : K) : K := aM CF r 72 n c X r148 k
theorem cWr : D148 r n dUq x0 r148 = (K0 (bH r n)) :=
 (by kernel_rfl)
theorem cSe (kk4 : cA) : D148 r n dLr (xs x0 0 (K0 (bH r n))) (K5 kk4 0 1 11 12 13) = (K5 (cG r n kk4) 0 1 11 12 13) :=
 (by kernel_rfl)
theorem cPp (kk4 : cA) : D148 r n cUt (xs (xs x0 0 (K0 (bH r n))) 1 (K5 (cG r n kk4) 0 1 11 12 13)) (K5 (cG r n kk4) 0 1 11 12 13) = (K7 (gB r n kk4) 0 1 5 6 11 12 13) :=
 (by kernel_rfl)
theorem cIe (kk4 : cA) : D148 r n cXj (xs (xs x0 0 (K0 (bH r n))) 1 (K5 (cG r n kk4) 0 1 11 12 13)) (K7 (gB r n kk4) 0 1 5 6 11 12 13) = (K10 (tZ r n kk4) 0 1 5 6 7 8 9 11 12 13) :=
 (by kernel_rfl)
theorem bOe (kk4 : cA) : D148 r n vF (xs (xs x0 0 (K0 (bH r n))) 1 (K5 (cG r n kk4) 0 1 11 12 13)) (K7 (gB r n kk4) 0 1 5 6 11 12 13) = D148 r n bBs (xs (xs x0 0 (K0 (bH r n))) 1 (K5 (cG r n kk4) 0 1 11 12 13)) (K10 (tZ r n kk4) 0 1 5 6 7 8 9 11 12 13) :=
 congrArg (fun k => D148 r n bBs (xs (xs x0 0 (K0 (bH r n))) 1 (K5 (cG r n kk4) 0 1 11 12 13)) k) (cIe r n kk4)
theorem cKc (kk4 : cA) : D148 r n vF (xs (xs x0 0 (K0 (bH r n))) 1 (K5 (cG r n kk4) 0 1 11 12 13)) (K7 (gB r n kk4) 0 1 5 6 11 12 13) = (K10 (aCp r n kk4) 0 1 5 6 7 8 9 11 12 13) :=
 (bOe r n kk4).trans
 ((by kernel_rfl))
theorem bNx (kk4 : cA) : D148 r n vT (xs (xs x0 0 (K0 (bH r n))) 1 (K5 (cG r n kk4) 0 1 11 12 13)) (K7 (gB r n kk4) 0 1 5 6 11 12 13) = D148 r n bHd (xs (xs x0 0 (K0 (bH r n))) 1 (K5 (cG r n kk4) 0 1 11 12 13)) (K10 (aCp r n kk4) 0 1 5 6 7 8 9 11 12 13) :=
 congrArg (fun k => D148 r n bHd (xs (xs x0 0 (K0 (bH r n))) 1 (K5 (cG r n kk4) 0 1 11 12 13)) k) (cKc r n kk4)
theorem bRi (kk4 : cA) : D148 r n vT (xs (xs x0 0 (K0 (bH r n))) 1 (K5 (cG r n kk4) 0 1 11 12 13)) (K7 (gB r n kk4) 0 1 5 6 11 12 13) = (K9 (aIs r n kk4) 0 1 5 6 7 8 11 12 13) :=
 (bNx r n kk4).trans
 ((by kernel_rfl))
theorem bNv (kk4 : cA) : D148 r n pD (xs (xs x0 0 (K0 (bH r n))) 1 (K5 (cG r n kk4) 0 1 11 12 13)) (K7 (gB r n kk4) 0 1 5 6 11 12 13) = D148 r n bDd (xs (xs x0 0 (K0 (bH r n))) 1 (K5 (cG r n kk4) 0 1 11 12 13)) (K9 (aIs r n kk4) 0 1 5 6 7 8 11 12 13) :=
 congrArg (fun k => D148 r n bDd (xs (xs x0 0 (K0 (bH r n))) 1 (K5 (cG r n kk4) 0 1 11 12 13)) k) (bRi r n kk4)
theorem bYa (kk4 : cA) : D148 r n pD (xs (xs x0 0 (K0 (bH r n))) 1 (K5 (cG r n kk4) 0 1 11 12 13)) (K7 (gB r n kk4) 0 1 5 6 11 12 13) = (K7 (bHy r n kk4) 0 1 5 6 11 12 13) :=
 (bNv r n kk4).trans
 ((by kernel_rfl))
theorem bTh (kk4 : cA) : D148 r n qP (xs (xs x0 0 (K0 (bH r n))) 1 (K5 (cG r n kk4) 0 1 11 12 13)) (K7 (gB r n kk4) 0 1 5 6 11 12 13) = (K8 (aMm r n kk4) 0 1 5 6 11 12 13 20) :=
 (by kernel_rfl : D148 r n qP (xs (xs x0 0 (K0 (bH r n))) 1 (K5 (cG r n kk4) 0 1 11 12 13)) (K7 (gB r n kk4) 0 1 5 6 11 12 13) = (fun (env : aV) (h : Hp) => aU (opr env (cC qP)) (D148 r n pD (xs (xs x0 0 (K0 (bH r n))) 1 (K5 (cG r n kk4) 0 1 11 12 13)) (K7 (gB r n kk4) 0 1 5 6 11 12 13) env h) (D148 r n dEd (xs (xs x0 0 (K0 (bH r n))) 1 (K5 (cG r n kk4) 0 1 11 12 13)) (K7 (gB r n kk4) 0 1 5 6 11 12 13) env h))).trans (by rw [bYa r n kk4]; kernel_rfl)
theorem bPa (kk4 : cA) : D148 r n uC (xs (xs x0 0 (K0 (bH r n))) 1 (K5 (cG r n kk4) 0 1 11 12 13)) (K5 (cG r n kk4) 0 1 11 12 13) = D148 r n qS (xs (xs x0 0 (K0 (bH r n))) 1 (K5 (cG r n kk4) 0 1 11 12 13)) (K7 (gB r n kk4) 0 1 5 6 11 12 13) :=
 congrArg (fun k => D148 r n qS (xs (xs x0 0 (K0 (bH r n))) 1 (K5 (cG r n kk4) 0 1 11 12 13)) k) (cPp r n kk4)
theorem bSu (kk4 : cA) : D148 r n qS (xs (xs x0 0 (K0 (bH r n))) 1 (K5 (cG r n kk4) 0 1 11 12 13)) (K7 (gB r n kk4) 0 1 5 6 11 12 13) = D148 r n bEp (xs (xs x0 0 (K0 (bH r n))) 1 (K5 (cG r n kk4) 0 1 11 12 13)) (K8 (aMm r n kk4) 0 1 5 6 11 12 13 20) :=
 congrArg (fun k => D148 r n bEp (xs (xs x0 0 (K0 (bH r n))) 1 (K5 (cG r n kk4) 0 1 11 12 13)) k) (bTh r n kk4)
theorem cQd (kk4 : cA) : D148 r n uC (xs (xs x0 0 (K0 (bH r n))) 1 (K5 (cG r n kk4) 0 1 11 12 13)) (K5 (cG r n kk4) 0 1 11 12 13) = (K7 (zE r n kk4) 0 1 5 6 11 12 13) :=
 (bPa r n kk4).trans
 ((bSu r n kk4).trans
 ((by kernel_rfl)))
theorem cNl (kk4 : cA) : D148 r n aIi (xs x0 0 (K0 (bH r n))) (K5 kk4 0 1 11 12 13) = D148 r n wM (xs x0 0 (K0 (bH r n))) (K5 (cG r n kk4) 0 1 11 12 13) :=
 congrArg (fun k => D148 r n wM (xs x0 0 (K0 (bH r n))) k) (cSe r n kk4)
theorem bYj (kk4 : cA) : D148 r n wI (xs (xs x0 0 (K0 (bH r n))) 1 (K5 (cG r n kk4) 0 1 11 12 13)) (K5 (cG r n kk4) 0 1 11 12 13) = D148 r n aMs (xs (xs x0 0 (K0 (bH r n))) 1 (K5 (cG r n kk4) 0 1 11 12 13)) (K7 (zE r n kk4) 0 1 5 6 11 12 13) :=
 congrArg (fun k => D148 r n aMs (xs (xs x0 0 (K0 (bH r n))) 1 (K5 (cG r n kk4) 0 1 11 12 13)) k) (cQd r n kk4)
theorem cHo (kk4 : cA) (q0 : TT7) (q1 : Hp → aK) (q2 : cA) : D148 r n aMs (xs (xs x0 0 (K0 q1)) 1 (K5 q2 0 1 11 12 13)) (K7 q0 0 1 5 6 11 12 13) = fun (env : aV) (h : Hp) =>
 bnd (aI 3 (env 11) (env 13) h) fun v1 h1 =>
 bnd (aH 3 v1 h1) fun v2 h2 =>
 bnd (bA [(aC 0), (aC 0), (aC 0)] h2) fun v3 h3 =>
 bnd (aD 3 v3 v2 h3) fun _ h4 =>
  q0 (env 0) (env 1) (env 13) v3 (env 11) (env 12) (env 13) h4 := by kernel_rfl
theorem bMn (kk4 : cA) : (fun (env : aV) (h : Hp) =>
 bnd (aI 3 (env 11) (env 13) h) fun v1 h1 =>
 bnd (aH 3 v1 h1) fun v2 h2 =>
 bnd (bA [(aC 0), (aC 0), (aC 0)] h2) fun v3 h3 =>
 bnd (aD 3 v3 v2 h3) fun _ h4 =>
  zE r n kk4 (env 0) (env 1) (env 13) v3 (env 11) (env 12) (env 13) h4) = (K5 (aNz r n kk4) 0 1 11 12 13) := by kernel_rfl
theorem dFl (kk4 : cA) : D148 r n aIi (xs x0 0 (K0 (bH r n))) (K5 kk4 0 1 11 12 13) = (K5 (aNz r n kk4) 0 1 11 12 13) :=
 (cNl r n kk4).trans
 ((by kernel_rfl : D148 r n wM (xs x0 0 (K0 (bH r n))) (K5 (cG r n kk4) 0 1 11 12 13) = D148 r n wI (xs (xs x0 0 (K0 (bH r n))) 1 (K5 (cG r n kk4) 0 1 11 12 13)) (K5 (cG r n kk4) 0 1 11 12 13)).trans
 ((bYj r n kk4).trans
 ((cHo r n kk4 (zE r n kk4) (bH r n) (cG r n kk4)).trans (bMn r n kk4))))
theorem cKm (kk4 : cA) : D148 r n aKc (xs x0 0 (K0 (bH r n))) (K5 kk4 0 1 11 12 13) = D148 r n bEa (xs x0 0 (K0 (bH r n))) (K5 (aNz r n kk4) 0 1 11 12 13) :=
 congrArg (fun k => D148 r n bEa (xs x0 0 (K0 (bH r n))) k) (dFl r n kk4)
theorem cUv (kk4 : cA) : D148 r n aKc (xs x0 0 (K0 (bH r n))) (K5 kk4 0 1 11 12 13) = (K6 (aSz r n kk4) 0 1 11 12 13 14) :=
 (cKm r n kk4).trans
 ((by kernel_rfl))
theorem bOd (kk4 : cA) : D148 r n kL (xs x0 0 (K0 (bH r n))) (K5 kk4 0 1 11 12 13) = D148 r n bAi (xs x0 0 (K0 (bH r n))) (K6 (aSz r n kk4) 0 1 11 12 13 14) :=
 congrArg (fun k => D148 r n bAi (xs x0 0 (K0 (bH r n))) k) (cUv r n kk4)
theorem cGq (kk4 : cA) : D148 r n kL (xs x0 0 (K0 (bH r n))) (K5 kk4 0 1 11 12 13) = (K5 (bGp r n kk4) 0 1 11 12 13) :=
 (bOd r n kk4).trans
 ((by kernel_rfl))
theorem bSy (m : Nat) : aL (fun kk => D148 r n kL (xs x0 0 (K0 (bH r n))) kk) m = (K5 (wC r n m) 0 1 11 12 13) := by
 induction m with
 | zero => exact (by kernel_rfl : aL (fun kk => D148 r n kL (xs x0 0 (K0 (bH r n))) kk) 0 = (K5 (wC r n 0) 0 1 11 12 13))
 | succ m ih =>
  refine (by kernel_rfl : aL (fun kk => D148 r n kL (xs x0 0 (K0 (bH r n))) kk) (m + 1) = D148 r n kL (xs x0 0 (K0 (bH r n))) (aL (fun kk => D148 r n kL (xs x0 0 (K0 (bH r n))) kk) m)).trans ?_
  rw [ih]
  exact (cGq r n (wC r n m)).trans (by kernel_rfl)
theorem dFb : D148 r n aDo (xs x0 0 (K0 (bH r n))) (K0 (bH r n)) = (K5 (cKk r n) 0 1 11 12 13) :=
 (by kernel_rfl : D148 r n aDo (xs x0 0 (K0 (bH r n))) (K0 (bH r n)) = aL (fun kk => D148 r n kL (xs x0 0 (K0 (bH r n))) kk) n).trans ((bSy r n n).trans (by kernel_rfl))
theorem cXt : D148 r n aVz x0 (K0 (bH r n)) = (K5 (aXq r n) 0 1 11 12 13) :=
 (by kernel_rfl : D148 r n aVz x0 (K0 (bH r n)) = D148 r n aDo (xs x0 0 (K0 (bH r n))) (K0 (bH r n))).trans
 ((dFb r n).trans (by kernel_rfl))
theorem bLw : D148 r n aDg x0 r148 = D148 r n aAs x0 (K0 (bH r n)) :=
 congrArg (fun k => D148 r n aAs x0 k) (cWr r n)
theorem bNw : D148 r n aAs x0 (K0 (bH r n)) = D148 r n bCd x0 (K5 (aXq r n) 0 1 11 12 13) :=
 congrArg (fun k => D148 r n bCd x0 k) (cXt r n)
theorem dBi : D148 r n aDg x0 r148 = (K2 (aTy r n) 0 1) :=
 (bLw r n).trans
 ((bNw r n).trans
 ((by kernel_rfl)))
theorem cVu : D148 r n c148 x0 r148 = D148 r n bEk x0 (K2 (aTy r n) 0 1) :=
 congrArg (fun k => D148 r n bEk x0 k) (dBi r n)
theorem eEv : D148 r n c148 x0 r148 = (K2 (s148 r n) 0 1) :=
 (cVu r n).trans
 ((by kernel_rfl))
theorem dUg : aE CF r n 148 args h = s148 r n (aP args 0) (aP args 1) h :=
 (by kernel_rfl : aE CF r n 148 args h = D148 r n c148 x0 r148 (aJ args) h).trans ((congrFun (congrFun (eEv r n) (aJ args)) h).trans (by kernel_rfl))
noncomputable def bT (r : RT) (n : Nat) (x6 x9 : DV) (h0 : Hp) : aK :=
 bnd (aA x6 h0) fun v1 h1 =>
 bnd (aA x9 h1) fun v2 h2 =>
 some (.t [v1, v2], h2)
noncomputable def tJ (r : RT) (n : Nat) (kk9 : dA) (x2 x3 x6 x7 x9 x10 x11 x14 : DV) (h0 : Hp) : aK :=
 bnd (aF .add x11 (aC 1) h0) fun v1 h1 =>
 bnd (aA x3 h1) fun v2 h2 =>
 bnd (aI 1 v2 x11 h2) fun v3 h3 =>
 bnd (aA v3 h3) fun v4 h4 =>
 bnd (cK CF r x10 [v1, v4, x14] h4) fun v5 h5 =>
  kk9 x2 x3 x6 x7 x9 x10 h5
noncomputable def aJd (r : RT) (n : Nat) (kk9 : dA) (x2 x3 x6 x7 x9 x10 x11 x12 x13 x14 : DV) (h0 : Hp) : aK :=
 bnd (aB 0 x12 h0) fun v1 h1 =>
 bnd (aA v1 h1) fun v2 h2 =>
 bnd (aF .eql v2 (aC 19) h2) fun v3 h3 =>
 aU v3 (
 bnd (aF .neq x13 (aC 1) h3) fun v4 h4 =>
 bnd (gD v4 false (aA x3 h4) h4) fun v5 h5 =>
 bnd (gD v4 false (some (x11, h5)) h5) fun v6 h6 =>
 bnd (gD v4 false (aI 1 v5 v6 h6) h6) fun v7 h7 =>
 bnd (gD v4 false (aA v7 h7) h7) fun v8 h8 =>
 bnd (gD v4 false (aF .lss v8 (aC 0) h8) h8) fun v9 h9 =>
 bnd (aQ v4 (.b true) v9 h9) fun v10 h10 =>
 aU v10 (
 some (.t [.l0, (.b false)], h10)) (
   kk9 x2 x3 x6 x7 x9 x10 h10)) (
 bnd (aF .eql v2 (aC 20) h3) fun v11 h11 =>
 aU v11 (
   kk9 x2 x3 x6 x7 x9 x10 h11) (
 bnd (aF .eql v2 (aC 16) h11) fun v12 h12 =>
 aU v12 (
 bnd (aH 3 x12 h12) fun v13 h13 =>
 bnd (r 169 [v13] h13) fun v14 h14 =>
 bnd (aA x3 h14) fun v15 h15 =>
 cnd (aW (aA x3 h12) v15 && true) (
 bnd (aI 1 v15 x11 h15) fun v16 h16 =>
 bnd (aA v16 h16) fun v17 h17 =>
 cnd (aW (aA v16 h12) v17 && true) (
 bnd (cK CF r x10 [v14, v17, x14] h17) fun v18 h18 =>
    kk9 x2 x3 x6 x7 x9 x10 h18))) (
 bnd (aF .eql v2 (aC 17) h12) fun v19 h19 =>
 aU v19 (
 bnd (aH 3 x12 h19) fun v20 h20 =>
 bnd (r 169 [v20] h20) fun v21 h21 =>
 bnd (aA x3 h21) fun v22 h22 =>
 cnd (aW (aA x3 h19) v22 && true) (
 bnd (aI 1 v22 x11 h22) fun v23 h23 =>
 bnd (aA v23 h23) fun v24 h24 =>
 cnd (aW (aA v23 h19) v24 && true) (
 bnd (cK CF r x10 [v21, v24, x14] h24) fun v25 h25 =>
     tJ r n kk9 x2 x3 x6 x7 x9 x10 x11 x14 h25))) (
     tJ r n kk9 x2 x3 x6 x7 x9 x10 x11 x14 h19))))
noncomputable def aKh (r : RT) (n : Nat) (kk9 : dA) (x2 x3 x6 x7 x9 x10 x11 x12 x13 x14 : DV) (h0 : Hp) : aK :=
 bnd (aH 3 x12 h0) fun v1 h1 =>
 bnd (r 172 [v1] h1) fun v2 h2 =>
 bnd (aF .lss x13 v2 h2) fun v3 h3 =>
 bnd (gD v3 false (some (x14, h3)) h3) fun v4 h4 =>
 bnd (gD v3 false (aF .gtr v4 (aC 24) h4) h4) fun v5 h5 =>
 bnd (aQ v3 (.b true) v5 h5) fun v6 h6 =>
 aU v6 (
 some (.t [.l0, (.b false)], h6)) (
  aJd r n kk9 x2 x3 x6 x7 x9 x10 x11 x12 x13 x14 h6)
noncomputable def aFl (r : RT) (n : Nat) (kk9 : dA) (x2 x3 x6 x7 x9 x10 x11 x12 x13 : DV) (h0 : Hp) : aK :=
 bnd (aH 3 x12 h0) fun v1 h1 =>
 bnd (r 171 [v1] h1) fun v2 h2 =>
 bnd (aF .add x13 v2 h2) fun v3 h3 =>
  aKh r n kk9 x2 x3 x6 x7 x9 x10 x11 x12 x13 v3 h3
noncomputable def aOq (r : RT) (n : Nat) (kk9 : dA) (x2 x3 x6 x7 x9 x10 x11 : DV) (h0 : Hp) : aK :=
 bnd (aA x2 (resv 1 h0)) fun v1 h1 =>
 bnd (aI 3 v1 x11 h1) fun v2 h2 =>
 bnd (aH 3 v2 h2) fun v3 h3 =>
 bnd (aA x6 h3) fun v4 h4 =>
 bnd (aI 1 v4 x11 h4) fun v5 h5 =>
 bnd (aA v5 h5) fun v6 h6 =>
 bnd (iX (bD 0 h0.next) [(aC 0), (aC 0), (aC 0)] h6) fun v7 h7 =>
 bnd (aD 3 v7 v3 h7) fun v8 h8 =>
 cnd (aW (aA v5 h8) v6 && (aW (aA x6 h8) v4 && true)) (
  aFl r n kk9 x2 x3 x6 x7 x9 x10 x11 v7 v6 h8)
noncomputable def aEa (r : RT) (n : Nat) (kk9 : dA) (x2 x3 x6 x7 x9 x10 x11 : DV) (h0 : Hp) : aK :=
 bnd (aA x7 h0) fun v1 h1 =>
 bnd (aA x7 h1) fun v2 h2 =>
 bnd (bK v2 h2) fun v3 h3 =>
 bnd (aF .sub v3 (aC 1) h3) fun v4 h4 =>
 bnd (cT 1 v1 none (some v4) h4) fun v5 h5 =>
 bnd (aD 1 x7 v5 h5) fun _ h6 =>
  aOq r n kk9 x2 x3 x6 x7 x9 x10 x11 h6
noncomputable def aLm (r : RT) (n : Nat) (kk9 : dA) (x2 x3 x6 x7 x9 x10 : DV) (h0 : Hp) : aK :=
 bnd (aA x7 h0) fun v1 h1 =>
 bnd (aA x7 h1) fun v2 h2 =>
 bnd (bK v2 h2) fun v3 h3 =>
 bnd (aF .sub v3 (aC 1) h3) fun v4 h4 =>
 bnd (aI 1 v1 v4 h4) fun v5 h5 =>
 bnd (aA v5 h5) fun v6 h6 =>
  aEa r n kk9 x2 x3 x6 x7 x9 x10 v6 h6
noncomputable def bCp (r : RT) (n : Nat) (kk9 : dA) (x2 x3 x6 x7 x9 x10 : DV) (h0 : Hp) : aK :=
 bnd (aA x7 h0) fun v1 h1 =>
 bnd (bK v1 h1) fun v2 h2 =>
 bnd (aF .gtr v2 (aC 0) h2) fun v3 h3 =>
 bnd (gD v3 true (aA x9 h3) h3) fun v4 h4 =>
 bnd (aQ v3 v4 (.b false) h4) fun v5 h5 =>
 aU v5 (
   aLm r n kk9 x2 x3 x6 x7 x9 x10 h5) (
   bT r n x6 x9 h5)
noncomputable def tL (r : RT) (n : Nat) (m : Nat) : dA :=
 Nat.rec (motive := fun _ => dA) (fun _ _ _ _ _ _ _ => none) (fun _ ih => bCp r n ih) m
noncomputable def cEt (r : RT) (n : Nat) : dA := tL r n n
noncomputable def aTw (r : RT) (n : Nat) (x2 x3 x6 x7 x9 x10 : DV) (h0 : Hp) : aK :=
 cEt r n x2 x3 x6 x7 x9 x10 h0
noncomputable def aVu (r : RT) (n : Nat) (x2 x3 x6 x7 x9 x10 : DV) (h0 : Hp) : aK :=
 aTw r n x2 x3 x6 x7 x9 x10 h0
noncomputable def xO (r : RT) (n : Nat) (x2 x3 x6 x7 x9 : DV) (h0 : Hp) : aK :=
 aVu r n x2 x3 x6 x7 x9 (.f 170 [] [x2, x3, x6, x9, x7]) h0
noncomputable def cO (r : RT) (n : Nat) (x2 x3 x6 x7 : DV) (h0 : Hp) : aK :=
 bnd (bA [(.b false)] h0) fun v1 h1 =>
 bnd (aD 1 v1 (.b true) h1) fun _ h2 =>
  xO r n x2 x3 x6 x7 v1 h2
noncomputable def lK (r : RT) (n : Nat) (kk18 : dA) (x2 x3 x6 x7 x19 x20 : DV) (h0 : Hp) : aK :=
 bnd (aF .add x20 (aC 1) h0) fun v1 h1 =>
  kk18 x2 x3 x6 x7 x19 v1 h1
noncomputable def vY (r : RT) (n : Nat) (kk18 : dA) (x2 x3 x6 x7 x19 x20 : DV) (h0 : Hp) : aK :=
 bnd (aA x6 h0) fun v1 h1 =>
 bnd (aI 1 v1 x20 h1) fun v2 h2 =>
 bnd (aD 1 v2 (.i .i64 (Int.negSucc 0)) h2) fun _ h3 =>
 bnd (aF .eql x20 (aC 0) h3) fun v4 h4 =>
 bnd (gD v4 false (some (x20, h4)) h4) fun v5 h5 =>
 bnd (gD v4 false (aF .gtr v5 (aC 1) h5) h5) fun v6 h6 =>
 bnd (gD v4 false (some (v6, h6)) h6) fun v7 h7 =>
 bnd (gD v7 true (aA x2 h7) h7) fun v8 h8 =>
 bnd (gD v7 true (some (x20, h8)) h8) fun v9 h9 =>
 bnd (gD v7 true (aF .sub v9 (aC 2) h9) h9) fun v10 h10 =>
 bnd (gD v7 true (aI 3 v8 v10 h10) h10) fun v11 h11 =>
 bnd (gD v7 true (aB 0 v11 h11) h11) fun v12 h12 =>
 bnd (gD v7 true (aA v12 h12) h12) fun v13 h13 =>
 bnd (gD v7 true (aF .eql v13 (aC 18) h13) h13) fun v14 h14 =>
 bnd (gD v4 false (aQ v7 v14 (.b false) h14) h14) fun v15 h15 =>
 bnd (gD v4 false (some (v15, h15)) h15) fun v16 h16 =>
 bnd (gD v16 true (aA x3 h16) h16) fun v17 h17 =>
 bnd (gD v16 true (some (x20, h17)) h17) fun v18 h18 =>
 bnd (gD v16 true (aI 1 v17 v18 h18) h18) fun v19 h19 =>
 bnd (gD v16 true (aA v19 h19) h19) fun v20 h20 =>
 bnd (gD v16 true (some (x20, h20)) h20) fun v21 h21 =>
 bnd (gD v16 true (aF .sub v21 (aC 2) h21) h21) fun v22 h22 =>
 bnd (gD v16 true (aF .eql v20 v22 h22) h22) fun v23 h23 =>
 bnd (gD v4 false (aQ v16 v23 (.b false) h23) h23) fun v24 h24 =>
 bnd (aQ v4 (.b true) v24 h24) fun v25 h25 =>
 aU v25 (
 bnd (aA x6 h25) fun v26 h26 =>
 bnd (aI 1 v26 x20 h26) fun v27 h27 =>
 bnd (aD 1 v27 (aC 0) h27) fun _ h28 =>
 bnd (aA x7 h28) fun v29 h29 =>
 bnd (aN [(aC 0)] 1 [(0, 1, x20)] h29) fun v30 h30 =>
 bnd (aX 1 8 v29 v30 h30) fun v31 h31 =>
 bnd (aD 1 x7 v31 h31) fun _ h32 =>
  lK r n kk18 x2 x3 x6 x7 x19 x20 h32) (
  lK r n kk18 x2 x3 x6 x7 x19 x20 h25)
noncomputable def aOk (r : RT) (n : Nat) (kk18 : dA) (x2 x3 x6 x7 x19 x20 x21 : DV) (h0 : Hp) : aK :=
 aU x21 (
  vY r n kk18 x2 x3 x6 x7 x19 x20 h0) (
  cO r n x2 x3 x6 x7 h0)
noncomputable def aRv (r : RT) (n : Nat) (kk18 : dA) (x2 x3 x6 x7 x19 x20 : DV) (h0 : Hp) : aK :=
 bnd (aF .lss x20 x19 h0) fun v1 h1 =>
  aOk r n kk18 x2 x3 x6 x7 x19 x20 v1 h1
noncomputable def pL (r : RT) (n : Nat) (m : Nat) : dA :=
 Nat.rec (motive := fun _ => dA) (fun _ _ _ _ _ _ _ => none) (fun _ ih => aRv r n ih) m
noncomputable def bIa (r : RT) (n : Nat) : dA := pL r n n
noncomputable def aPc (r : RT) (n : Nat) (x2 x3 x6 x7 x19 x20 : DV) (h0 : Hp) : aK :=
 bIa r n x2 x3 x6 x7 x19 x20 h0
noncomputable def yX (r : RT) (n : Nat) (x2 x3 x6 x7 : DV) (h0 : Hp) : aK :=
 bnd (aA x6 h0) fun v1 h1 =>
 bnd (bK v1 h1) fun v2 h2 =>
  aPc r n x2 x3 x6 x7 v2 (aC 0) h2
noncomputable def rO (r : RT) (n : Nat) (x2 x3 x6 : DV) (h0 : Hp) : aK :=
 bnd (bA [.l0] h0) fun v1 h1 =>
  yX r n x2 x3 x6 v1 h1
noncomputable def rP (r : RT) (n : Nat) (x2 x3 : DV) (h0 : Hp) : aK :=
 bnd (aA x2 h0) fun v1 h1 =>
 bnd (bK v1 h1) fun v2 h2 =>
 bnd (cI 1 8 [(aC 0)] v2 v2 h2) fun v3 h3 =>
 bnd (bA [.l0] h3) fun v4 h4 =>
 bnd (aD 1 v4 v3 h4) fun _ h5 =>
  rO r n x2 x3 v4 h5
noncomputable def s149 (r : RT) (n : Nat) (x0 x1 : DV) (h0 : Hp) : aK :=
 bnd (bM x0 h0) fun v1 h1 =>
 bnd (bM x1 h1) fun v2 h2 =>
  rP r n v1 v2 h2
noncomputable abbrev c149 : Code := cf Tryz.f149
noncomputable abbrev aTt : Code := cR c149
noncomputable abbrev aDl : Code := cL aTt
noncomputable abbrev aKy : Code := cR aDl
noncomputable abbrev aOh : Code := cR aKy
noncomputable abbrev aIj : Code := cR aOh
noncomputable abbrev aLx : Code := cR aIj
noncomputable abbrev aFs : Code := cR aLx
noncomputable abbrev aKk : Code := cR aFs
noncomputable abbrev dPd : Code := cR aKk
noncomputable abbrev vH : Code := cL aKk
noncomputable abbrev uQ : Code := cL vH
noncomputable abbrev iN : Code := cL uQ
noncomputable abbrev aGs : Code := cR iN
noncomputable abbrev vW : Code := cL aGs
noncomputable abbrev wB : Code := cR vW
noncomputable abbrev tH : Code := cR wB
noncomputable abbrev uI : Code := cR tH
noncomputable abbrev uV : Code := cR uI
noncomputable abbrev tP : Code := cR uV
noncomputable abbrev cWy : Code := cR tP
noncomputable abbrev bDh : Code := cL tP
noncomputable abbrev bBe : Code := cL uV
noncomputable abbrev bEw : Code := cL uI
noncomputable abbrev bGr : Code := cL tH
noncomputable abbrev bBp : Code := cL wB
noncomputable abbrev bEb : Code := cL vW
noncomputable abbrev bGh : Code := cL iN
noncomputable abbrev bHg : Code := cL aFs
noncomputable abbrev bIj : Code := cL aLx
noncomputable abbrev aJe : Code := cL aIj
noncomputable abbrev pS : Code := cL aOh
noncomputable abbrev aOx : Code := cR pS
noncomputable abbrev uL : Code := cL aOx
noncomputable abbrev iM : Code := cL uL
noncomputable abbrev wG : Code := cR iM
noncomputable abbrev uP : Code := cR wG
noncomputable abbrev cXq : Code := cR uP
noncomputable abbrev aDe : Code := cL uP
noncomputable abbrev bFy : Code := cL wG
noncomputable abbrev bIy : Code := cL iM
noncomputable abbrev bBf : Code := cL pS
noncomputable abbrev aFw : Code := cL aKy
noncomputable abbrev aHm : Code := cL aDl
noncomputable abbrev aOl : Code := cL c149
noncomputable abbrev r149 : K := aR CF Tryz.f149
noncomputable def D149 (r : RT) (n : Nat) (c : Code) (X : Nat → K) (k : K) : K := aM CF r 144 n c X r149 k
theorem cVg : D149 r n dPd x0 r149 = (K2 (bT r n) 6 9) :=
 (by kernel_rfl)
theorem cHg (kk9 : dA) : D149 r n cWy (xs (xs x0 2 (K2 (bT r n) 6 9)) 3 (K6 kk9 2 3 6 7 9 10)) (K6 kk9 2 3 6 7 9 10) = (K8 (tJ r n kk9) 2 3 6 7 9 10 11 14) :=
 (by kernel_rfl)
theorem bKo (kk9 : dA) : D149 r n tP (xs (xs x0 2 (K2 (bT r n) 6 9)) 3 (K6 kk9 2 3 6 7 9 10)) (K6 kk9 2 3 6 7 9 10) = D149 r n bDh (xs (xs x0 2 (K2 (bT r n) 6 9)) 3 (K6 kk9 2 3 6 7 9 10)) (K8 (tJ r n kk9) 2 3 6 7 9 10 11 14) :=
 congrArg (fun k => D149 r n bDh (xs (xs x0 2 (K2 (bT r n) 6 9)) 3 (K6 kk9 2 3 6 7 9 10)) k) (cHg r n kk9)
theorem bZt (kk9 : dA) : D149 r n tP (xs (xs x0 2 (K2 (bT r n) 6 9)) 3 (K6 kk9 2 3 6 7 9 10)) (K6 kk9 2 3 6 7 9 10) = (K10 (aJd r n kk9) 2 3 6 7 9 10 11 12 13 14) :=
 (bKo r n kk9).trans
 ((by kernel_rfl))
theorem bOa (kk9 : dA) : D149 r n uV (xs (xs x0 2 (K2 (bT r n) 6 9)) 3 (K6 kk9 2 3 6 7 9 10)) (K6 kk9 2 3 6 7 9 10) = D149 r n bBe (xs (xs x0 2 (K2 (bT r n) 6 9)) 3 (K6 kk9 2 3 6 7 9 10)) (K10 (aJd r n kk9) 2 3 6 7 9 10 11 12 13 14) :=
 congrArg (fun k => D149 r n bBe (xs (xs x0 2 (K2 (bT r n) 6 9)) 3 (K6 kk9 2 3 6 7 9 10)) k) (bZt r n kk9)
theorem bTr (kk9 : dA) : D149 r n uV (xs (xs x0 2 (K2 (bT r n) 6 9)) 3 (K6 kk9 2 3 6 7 9 10)) (K6 kk9 2 3 6 7 9 10) = (K10 (aKh r n kk9) 2 3 6 7 9 10 11 12 13 14) :=
 (bOa r n kk9).trans
 ((by kernel_rfl))
theorem bLj (kk9 : dA) : D149 r n uI (xs (xs x0 2 (K2 (bT r n) 6 9)) 3 (K6 kk9 2 3 6 7 9 10)) (K6 kk9 2 3 6 7 9 10) = D149 r n bEw (xs (xs x0 2 (K2 (bT r n) 6 9)) 3 (K6 kk9 2 3 6 7 9 10)) (K10 (aKh r n kk9) 2 3 6 7 9 10 11 12 13 14) :=
 congrArg (fun k => D149 r n bEw (xs (xs x0 2 (K2 (bT r n) 6 9)) 3 (K6 kk9 2 3 6 7 9 10)) k) (bTr r n kk9)
theorem cEi (kk9 : dA) : D149 r n uI (xs (xs x0 2 (K2 (bT r n) 6 9)) 3 (K6 kk9 2 3 6 7 9 10)) (K6 kk9 2 3 6 7 9 10) = (K9 (aFl r n kk9) 2 3 6 7 9 10 11 12 13) :=
 (bLj r n kk9).trans
 ((by kernel_rfl))
theorem bNs (kk9 : dA) : D149 r n tH (xs (xs x0 2 (K2 (bT r n) 6 9)) 3 (K6 kk9 2 3 6 7 9 10)) (K6 kk9 2 3 6 7 9 10) = D149 r n bGr (xs (xs x0 2 (K2 (bT r n) 6 9)) 3 (K6 kk9 2 3 6 7 9 10)) (K9 (aFl r n kk9) 2 3 6 7 9 10 11 12 13) :=
 congrArg (fun k => D149 r n bGr (xs (xs x0 2 (K2 (bT r n) 6 9)) 3 (K6 kk9 2 3 6 7 9 10)) k) (cEi r n kk9)
theorem cDv (kk9 : dA) : D149 r n tH (xs (xs x0 2 (K2 (bT r n) 6 9)) 3 (K6 kk9 2 3 6 7 9 10)) (K6 kk9 2 3 6 7 9 10) = (K7 (aOq r n kk9) 2 3 6 7 9 10 11) :=
 (bNs r n kk9).trans
 ((by kernel_rfl))
theorem bOh (kk9 : dA) : D149 r n wB (xs (xs x0 2 (K2 (bT r n) 6 9)) 3 (K6 kk9 2 3 6 7 9 10)) (K6 kk9 2 3 6 7 9 10) = D149 r n bBp (xs (xs x0 2 (K2 (bT r n) 6 9)) 3 (K6 kk9 2 3 6 7 9 10)) (K7 (aOq r n kk9) 2 3 6 7 9 10 11) :=
 congrArg (fun k => D149 r n bBp (xs (xs x0 2 (K2 (bT r n) 6 9)) 3 (K6 kk9 2 3 6 7 9 10)) k) (cDv r n kk9)
theorem bVc (kk9 : dA) : D149 r n wB (xs (xs x0 2 (K2 (bT r n) 6 9)) 3 (K6 kk9 2 3 6 7 9 10)) (K6 kk9 2 3 6 7 9 10) = (K7 (aEa r n kk9) 2 3 6 7 9 10 11) :=
 (bOh r n kk9).trans
 ((by kernel_rfl))
theorem bLt (kk9 : dA) : D149 r n vW (xs (xs x0 2 (K2 (bT r n) 6 9)) 3 (K6 kk9 2 3 6 7 9 10)) (K6 kk9 2 3 6 7 9 10) = D149 r n bEb (xs (xs x0 2 (K2 (bT r n) 6 9)) 3 (K6 kk9 2 3 6 7 9 10)) (K7 (aEa r n kk9) 2 3 6 7 9 10 11) :=
 congrArg (fun k => D149 r n bEb (xs (xs x0 2 (K2 (bT r n) 6 9)) 3 (K6 kk9 2 3 6 7 9 10)) k) (bVc r n kk9)
theorem bVg (kk9 : dA) : D149 r n aGs (xs x0 2 (K2 (bT r n) 6 9)) (K6 kk9 2 3 6 7 9 10) = (K6 (aLm r n kk9) 2 3 6 7 9 10) :=
 (by kernel_rfl : D149 r n aGs (xs x0 2 (K2 (bT r n) 6 9)) (K6 kk9 2 3 6 7 9 10) = D149 r n vW (xs (xs x0 2 (K2 (bT r n) 6 9)) 3 (K6 kk9 2 3 6 7 9 10)) (K6 kk9 2 3 6 7 9 10)).trans
 ((bLt r n kk9).trans
 ((by kernel_rfl)))
theorem bXf (kk9 : dA) : D149 r n iN (xs x0 2 (K2 (bT r n) 6 9)) (K6 kk9 2 3 6 7 9 10) = D149 r n bGh (xs x0 2 (K2 (bT r n) 6 9)) (K6 (aLm r n kk9) 2 3 6 7 9 10) :=
 congrArg (fun k => D149 r n bGh (xs x0 2 (K2 (bT r n) 6 9)) k) (bVg r n kk9)
theorem bPo (kk9 : dA) : D149 r n iN (xs x0 2 (K2 (bT r n) 6 9)) (K6 kk9 2 3 6 7 9 10) = (K6 (bCp r n kk9) 2 3 6 7 9 10) :=
 (bXf r n kk9).trans
 ((by kernel_rfl))
theorem cIt (m : Nat) : aL (fun kk => D149 r n iN (xs x0 2 (K2 (bT r n) 6 9)) kk) m = (K6 (tL r n m) 2 3 6 7 9 10) := by
 induction m with
 | zero => exact (by kernel_rfl : aL (fun kk => D149 r n iN (xs x0 2 (K2 (bT r n) 6 9)) kk) 0 = (K6 (tL r n 0) 2 3 6 7 9 10))
 | succ m ih =>
  refine (by kernel_rfl : aL (fun kk => D149 r n iN (xs x0 2 (K2 (bT r n) 6 9)) kk) (m + 1) = D149 r n iN (xs x0 2 (K2 (bT r n) 6 9)) (aL (fun kk => D149 r n iN (xs x0 2 (K2 (bT r n) 6 9)) kk) m)).trans ?_
  rw [ih]
  exact (bPo r n (tL r n m)).trans (by kernel_rfl)
theorem cUp : D149 r n uQ (xs x0 2 (K2 (bT r n) 6 9)) (K2 (bT r n) 6 9) = (K6 (cEt r n) 2 3 6 7 9 10) :=
 (by kernel_rfl : D149 r n uQ (xs x0 2 (K2 (bT r n) 6 9)) (K2 (bT r n) 6 9) = aL (fun kk => D149 r n iN (xs x0 2 (K2 (bT r n) 6 9)) kk) n).trans ((cIt r n n).trans (by kernel_rfl))
theorem cGy : D149 r n aKk x0 r149 = D149 r n vH x0 (K2 (bT r n) 6 9) :=
 congrArg (fun k => D149 r n vH x0 k) (cVg r n)
theorem dAl : D149 r n aKk x0 r149 = (K6 (aTw r n) 2 3 6 7 9 10) :=
 (cGy r n).trans
 ((by kernel_rfl : D149 r n vH x0 (K2 (bT r n) 6 9) = D149 r n uQ (xs x0 2 (K2 (bT r n) 6 9)) (K2 (bT r n) 6 9)).trans
 ((cUp r n).trans (by kernel_rfl)))
theorem cNc : D149 r n aFs x0 r149 = D149 r n bHg x0 (K6 (aTw r n) 2 3 6 7 9 10) :=
 congrArg (fun k => D149 r n bHg x0 k) (dAl r n)
theorem cRq : D149 r n aFs x0 r149 = (K6 (aVu r n) 2 3 6 7 9 10) :=
 (cNc r n).trans
 ((by kernel_rfl))
theorem bNk : D149 r n aLx x0 r149 = D149 r n bIj x0 (K6 (aVu r n) 2 3 6 7 9 10) :=
 congrArg (fun k => D149 r n bIj x0 k) (cRq r n)
theorem cVy : D149 r n aLx x0 r149 = (K5 (xO r n) 2 3 6 7 9) :=
 (bNk r n).trans
 ((by kernel_rfl))
theorem bLh : D149 r n aIj x0 r149 = D149 r n aJe x0 (K5 (xO r n) 2 3 6 7 9) :=
 congrArg (fun k => D149 r n aJe x0 k) (cVy r n)
theorem bKc (q0 : cA) : D149 r n aJe x0 (K5 q0 2 3 6 7 9) = fun (env : aV) (h : Hp) =>
 bnd (bA [(.b false)] h) fun v1 h1 =>
 bnd (aD 1 v1 (.b true) h1) fun _ h2 =>
  q0 (env 2) (env 3) (env 6) (env 7) v1 h2 := by kernel_rfl
theorem aTj : (fun (env : aV) (h : Hp) =>
 bnd (bA [(.b false)] h) fun v1 h1 =>
 bnd (aD 1 v1 (.b true) h1) fun _ h2 =>
  xO r n (env 2) (env 3) (env 6) (env 7) v1 h2) = (K4 (cO r n) 2 3 6 7) := by kernel_rfl
theorem cTv : D149 r n aIj x0 r149 = (K4 (cO r n) 2 3 6 7) :=
 (bLh r n).trans
 ((bKc r n (xO r n)).trans (aTj r n))
theorem bSp (kk18 : dA) : D149 r n cXq (xs x0 0 (K4 (cO r n) 2 3 6 7)) (K6 kk18 2 3 6 7 19 20) = (K6 (lK r n kk18) 2 3 6 7 19 20) :=
 (by kernel_rfl)
theorem aXc (kk18 : dA) : D149 r n uP (xs x0 0 (K4 (cO r n) 2 3 6 7)) (K6 kk18 2 3 6 7 19 20) = D149 r n aDe (xs x0 0 (K4 (cO r n) 2 3 6 7)) (K6 (lK r n kk18) 2 3 6 7 19 20) :=
 congrArg (fun k => D149 r n aDe (xs x0 0 (K4 (cO r n) 2 3 6 7)) k) (bSp r n kk18)
theorem bAb (kk18 : dA) (q0 : dA) (q1 : dB) : D149 r n aDe (xs x0 0 (K4 q1 2 3 6 7)) (K6 q0 2 3 6 7 19 20) = fun (env : aV) (h : Hp) =>
 bnd (aA (env 6) h) fun v1 h1 =>
 bnd (aI 1 v1 (env 20) h1) fun v2 h2 =>
 bnd (aD 1 v2 (.i .i64 (Int.negSucc 0)) h2) fun _ h3 =>
 bnd (aF .eql (env 20) (aC 0) h3) fun v4 h4 =>
 bnd (gD v4 false (some ((env 20), h4)) h4) fun v5 h5 =>
 bnd (gD v4 false (aF .gtr v5 (aC 1) h5) h5) fun v6 h6 =>
 bnd (gD v4 false (some (v6, h6)) h6) fun v7 h7 =>
 bnd (gD v7 true (aA (env 2) h7) h7) fun v8 h8 =>
 bnd (gD v7 true (some ((env 20), h8)) h8) fun v9 h9 =>
 bnd (gD v7 true (aF .sub v9 (aC 2) h9) h9) fun v10 h10 =>
 bnd (gD v7 true (aI 3 v8 v10 h10) h10) fun v11 h11 =>
 bnd (gD v7 true (aB 0 v11 h11) h11) fun v12 h12 =>
 bnd (gD v7 true (aA v12 h12) h12) fun v13 h13 =>
 bnd (gD v7 true (aF .eql v13 (aC 18) h13) h13) fun v14 h14 =>
 bnd (gD v4 false (aQ v7 v14 (.b false) h14) h14) fun v15 h15 =>
 bnd (gD v4 false (some (v15, h15)) h15) fun v16 h16 =>
 bnd (gD v16 true (aA (env 3) h16) h16) fun v17 h17 =>
 bnd (gD v16 true (some ((env 20), h17)) h17) fun v18 h18 =>
 bnd (gD v16 true (aI 1 v17 v18 h18) h18) fun v19 h19 =>
 bnd (gD v16 true (aA v19 h19) h19) fun v20 h20 =>
 bnd (gD v16 true (some ((env 20), h20)) h20) fun v21 h21 =>
 bnd (gD v16 true (aF .sub v21 (aC 2) h21) h21) fun v22 h22 =>
 bnd (gD v16 true (aF .eql v20 v22 h22) h22) fun v23 h23 =>
 bnd (gD v4 false (aQ v16 v23 (.b false) h23) h23) fun v24 h24 =>
 bnd (aQ v4 (.b true) v24 h24) fun v25 h25 =>
 aU v25 (
 bnd (aA (env 6) h25) fun v26 h26 =>
 bnd (aI 1 v26 (env 20) h26) fun v27 h27 =>
 bnd (aD 1 v27 (aC 0) h27) fun _ h28 =>
 bnd (aA (env 7) h28) fun v29 h29 =>
 bnd (aN [(aC 0)] 1 [(0, 1, (env 20))] h29) fun v30 h30 =>
 bnd (aX 1 8 v29 v30 h30) fun v31 h31 =>
 bnd (aD 1 (env 7) v31 h31) fun _ h32 =>
      q0 (env 2) (env 3) (env 6) (env 7) (env 19) (env 20) h32) (
      q0 (env 2) (env 3) (env 6) (env 7) (env 19) (env 20) h25) := by kernel_rfl
theorem aRj (kk18 : dA) : (fun (env : aV) (h : Hp) =>
 bnd (aA (env 6) h) fun v1 h1 =>
 bnd (aI 1 v1 (env 20) h1) fun v2 h2 =>
 bnd (aD 1 v2 (.i .i64 (Int.negSucc 0)) h2) fun _ h3 =>
 bnd (aF .eql (env 20) (aC 0) h3) fun v4 h4 =>
 bnd (gD v4 false (some ((env 20), h4)) h4) fun v5 h5 =>
 bnd (gD v4 false (aF .gtr v5 (aC 1) h5) h5) fun v6 h6 =>
 bnd (gD v4 false (some (v6, h6)) h6) fun v7 h7 =>
 bnd (gD v7 true (aA (env 2) h7) h7) fun v8 h8 =>
 bnd (gD v7 true (some ((env 20), h8)) h8) fun v9 h9 =>
 bnd (gD v7 true (aF .sub v9 (aC 2) h9) h9) fun v10 h10 =>
 bnd (gD v7 true (aI 3 v8 v10 h10) h10) fun v11 h11 =>
 bnd (gD v7 true (aB 0 v11 h11) h11) fun v12 h12 =>
 bnd (gD v7 true (aA v12 h12) h12) fun v13 h13 =>
 bnd (gD v7 true (aF .eql v13 (aC 18) h13) h13) fun v14 h14 =>
 bnd (gD v4 false (aQ v7 v14 (.b false) h14) h14) fun v15 h15 =>
 bnd (gD v4 false (some (v15, h15)) h15) fun v16 h16 =>
 bnd (gD v16 true (aA (env 3) h16) h16) fun v17 h17 =>
 bnd (gD v16 true (some ((env 20), h17)) h17) fun v18 h18 =>
 bnd (gD v16 true (aI 1 v17 v18 h18) h18) fun v19 h19 =>
 bnd (gD v16 true (aA v19 h19) h19) fun v20 h20 =>
 bnd (gD v16 true (some ((env 20), h20)) h20) fun v21 h21 =>
 bnd (gD v16 true (aF .sub v21 (aC 2) h21) h21) fun v22 h22 =>
 bnd (gD v16 true (aF .eql v20 v22 h22) h22) fun v23 h23 =>
 bnd (gD v4 false (aQ v16 v23 (.b false) h23) h23) fun v24 h24 =>
 bnd (aQ v4 (.b true) v24 h24) fun v25 h25 =>
 aU v25 (
 bnd (aA (env 6) h25) fun v26 h26 =>
 bnd (aI 1 v26 (env 20) h26) fun v27 h27 =>
 bnd (aD 1 v27 (aC 0) h27) fun _ h28 =>
 bnd (aA (env 7) h28) fun v29 h29 =>
 bnd (aN [(aC 0)] 1 [(0, 1, (env 20))] h29) fun v30 h30 =>
 bnd (aX 1 8 v29 v30 h30) fun v31 h31 =>
 bnd (aD 1 (env 7) v31 h31) fun _ h32 =>
      lK r n kk18 (env 2) (env 3) (env 6) (env 7) (env 19) (env 20) h32) (
      lK r n kk18 (env 2) (env 3) (env 6) (env 7) (env 19) (env 20) h25)) = (K6 (vY r n kk18) 2 3 6 7 19 20) := by kernel_rfl
theorem cKu (kk18 : dA) : D149 r n uP (xs x0 0 (K4 (cO r n) 2 3 6 7)) (K6 kk18 2 3 6 7 19 20) = (K6 (vY r n kk18) 2 3 6 7 19 20) :=
 (aXc r n kk18).trans
 ((bAb r n kk18 (lK r n kk18) (cO r n)).trans (aRj r n kk18))
theorem aZr (kk18 : dA) : D149 r n wG (xs x0 0 (K4 (cO r n) 2 3 6 7)) (K6 kk18 2 3 6 7 19 20) = D149 r n bFy (xs x0 0 (K4 (cO r n) 2 3 6 7)) (K6 (vY r n kk18) 2 3 6 7 19 20) :=
 congrArg (fun k => D149 r n bFy (xs x0 0 (K4 (cO r n) 2 3 6 7)) k) (cKu r n kk18)
theorem cCq (kk18 : dA) : D149 r n wG (xs x0 0 (K4 (cO r n) 2 3 6 7)) (K6 kk18 2 3 6 7 19 20) = (K7 (aOk r n kk18) 2 3 6 7 19 20 21) :=
 (aZr r n kk18).trans
 ((by kernel_rfl))
theorem aSs (kk18 : dA) : D149 r n iM (xs x0 0 (K4 (cO r n) 2 3 6 7)) (K6 kk18 2 3 6 7 19 20) = D149 r n bIy (xs x0 0 (K4 (cO r n) 2 3 6 7)) (K7 (aOk r n kk18) 2 3 6 7 19 20 21) :=
 congrArg (fun k => D149 r n bIy (xs x0 0 (K4 (cO r n) 2 3 6 7)) k) (cCq r n kk18)
theorem bOr (kk18 : dA) : D149 r n iM (xs x0 0 (K4 (cO r n) 2 3 6 7)) (K6 kk18 2 3 6 7 19 20) = (K6 (aRv r n kk18) 2 3 6 7 19 20) :=
 (aSs r n kk18).trans
 ((by kernel_rfl))
theorem bKg (m : Nat) : aL (fun kk => D149 r n iM (xs x0 0 (K4 (cO r n) 2 3 6 7)) kk) m = (K6 (pL r n m) 2 3 6 7 19 20) := by
 induction m with
 | zero => exact (by kernel_rfl : aL (fun kk => D149 r n iM (xs x0 0 (K4 (cO r n) 2 3 6 7)) kk) 0 = (K6 (pL r n 0) 2 3 6 7 19 20))
 | succ m ih =>
  refine (by kernel_rfl : aL (fun kk => D149 r n iM (xs x0 0 (K4 (cO r n) 2 3 6 7)) kk) (m + 1) = D149 r n iM (xs x0 0 (K4 (cO r n) 2 3 6 7)) (aL (fun kk => D149 r n iM (xs x0 0 (K4 (cO r n) 2 3 6 7)) kk) m)).trans ?_
  rw [ih]
  exact (bOr r n (pL r n m)).trans (by kernel_rfl)
theorem bQb : D149 r n uL (xs x0 0 (K4 (cO r n) 2 3 6 7)) (K4 (cO r n) 2 3 6 7) = (K6 (bIa r n) 2 3 6 7 19 20) :=
 (by kernel_rfl : D149 r n uL (xs x0 0 (K4 (cO r n) 2 3 6 7)) (K4 (cO r n) 2 3 6 7) = aL (fun kk => D149 r n iM (xs x0 0 (K4 (cO r n) 2 3 6 7)) kk) n).trans ((bKg r n n).trans (by kernel_rfl))
theorem cAd : D149 r n aOx x0 (K4 (cO r n) 2 3 6 7) = (K6 (aPc r n) 2 3 6 7 19 20) :=
 (by kernel_rfl : D149 r n aOx x0 (K4 (cO r n) 2 3 6 7) = D149 r n uL (xs x0 0 (K4 (cO r n) 2 3 6 7)) (K4 (cO r n) 2 3 6 7)).trans
 ((bQb r n).trans (by kernel_rfl))
theorem bLy : D149 r n aOh x0 r149 = D149 r n pS x0 (K4 (cO r n) 2 3 6 7) :=
 congrArg (fun k => D149 r n pS x0 k) (cTv r n)
theorem bMv : D149 r n pS x0 (K4 (cO r n) 2 3 6 7) = D149 r n bBf x0 (K6 (aPc r n) 2 3 6 7 19 20) :=
 congrArg (fun k => D149 r n bBf x0 k) (cAd r n)
theorem cSu : D149 r n aOh x0 r149 = (K4 (yX r n) 2 3 6 7) :=
 (bLy r n).trans
 ((bMv r n).trans
 ((by kernel_rfl)))
theorem bKy : D149 r n aKy x0 r149 = D149 r n aFw x0 (K4 (yX r n) 2 3 6 7) :=
 congrArg (fun k => D149 r n aFw x0 k) (cSu r n)
theorem bJq (q0 : dB) : D149 r n aFw x0 (K4 q0 2 3 6 7) = fun (env : aV) (h : Hp) =>
 bnd (bA [.l0] h) fun v1 h1 =>
  q0 (env 2) (env 3) (env 6) v1 h1 := by kernel_rfl
theorem aXu : (fun (env : aV) (h : Hp) =>
 bnd (bA [.l0] h) fun v1 h1 =>
  yX r n (env 2) (env 3) (env 6) v1 h1) = (K3 (rO r n) 2 3 6) := by kernel_rfl
theorem cOl : D149 r n aKy x0 r149 = (K3 (rO r n) 2 3 6) :=
 (bKy r n).trans
 ((bJq r n (yX r n)).trans (aXu r n))
theorem bMo : D149 r n aDl x0 r149 = D149 r n aHm x0 (K3 (rO r n) 2 3 6) :=
 congrArg (fun k => D149 r n aHm x0 k) (cOl r n)
theorem bJz (q0 : dH) : D149 r n aHm x0 (K3 q0 2 3 6) = fun (env : aV) (h : Hp) =>
 bnd (aA (env 2) h) fun v1 h1 =>
 bnd (bK v1 h1) fun v2 h2 =>
 bnd (cI 1 8 [(aC 0)] v2 v2 h2) fun v3 h3 =>
 bnd (bA [.l0] h3) fun v4 h4 =>
 bnd (aD 1 v4 v3 h4) fun _ h5 =>
  q0 (env 2) (env 3) v4 h5 := by kernel_rfl
theorem aWz : (fun (env : aV) (h : Hp) =>
 bnd (aA (env 2) h) fun v1 h1 =>
 bnd (bK v1 h1) fun v2 h2 =>
 bnd (cI 1 8 [(aC 0)] v2 v2 h2) fun v3 h3 =>
 bnd (bA [.l0] h3) fun v4 h4 =>
 bnd (aD 1 v4 v3 h4) fun _ h5 =>
  rO r n (env 2) (env 3) v4 h5) = (K2 (rP r n) 2 3) := by kernel_rfl
theorem dDs : D149 r n aTt x0 r149 = (K2 (rP r n) 2 3) :=
 (by kernel_rfl : D149 r n aTt x0 r149 = D149 r n aDl x0 r149).trans
 ((bMo r n).trans
 ((bJz r n (rO r n)).trans (aWz r n)))
theorem cOd : D149 r n c149 x0 r149 = D149 r n aOl x0 (K2 (rP r n) 2 3) :=
 congrArg (fun k => D149 r n aOl x0 k) (dDs r n)
theorem dAj (q0 : eN) : D149 r n aOl x0 (K2 q0 2 3) = fun (env : aV) (h : Hp) =>
 bnd (bM (env 0) h) fun v1 h1 =>
 bnd (bM (env 1) h1) fun v2 h2 =>
  q0 v1 v2 h2 := by kernel_rfl
theorem cEn : (fun (env : aV) (h : Hp) =>
 bnd (bM (env 0) h) fun v1 h1 =>
 bnd (bM (env 1) h1) fun v2 h2 =>
  rP r n v1 v2 h2) = (K2 (s149 r n) 0 1) := by kernel_rfl
theorem eFq : D149 r n c149 x0 r149 = (K2 (s149 r n) 0 1) :=
 (cOd r n).trans
 ((dAj r n (rP r n)).trans (cEn r n))
theorem dIc : aE CF r n 149 args h = s149 r n (aP args 0) (aP args 1) h :=
 (by kernel_rfl : aE CF r n 149 args h = D149 r n c149 x0 r149 (aJ args) h).trans ((congrFun (congrFun (eFq r n) (aJ args)) h).trans (by kernel_rfl))
end Go.Dd

namespace Go.Dd
open Go.Proofs
variable (r : RT) (n : Nat) (args : List DV) (h : Hp)
noncomputable def eW (r : RT) (n : Nat) (x0 x6 : DV) (h0 : Hp) : aK :=
 bnd (gA x0 h0) fun v1 h1 =>
 bnd (aT [(aC 0), (.s []), (aC 0), (aC 0)] [(3, 1, v1)] h1) fun v2 h2 =>
 bnd (aN [(aC 0), (.s []), (aC 0), (aC 0)] 1 [(0, 4, v2)] h2) fun v3 h3 =>
 bnd (aX 4 40 x6 v3 h3) fun v4 h4 =>
 some (.t [v4, (aC 0), (aC 0)], h4)
noncomputable def aGz (r : RT) (n : Nat) (kk7 : dH) (x0 x5 x6 : DV) (h0 : Hp) : aK :=
 bnd (r 176 [(.s [9, 10, 13, 32])] h0) fun v1 h1 =>
 bnd (gA x0 h1) fun v2 h2 =>
 bnd (r 175 [x5, v1, v2] h2) fun v3 h3 =>
 bnd (aO x5 h3) fun v4 h4 =>
 bnd (aB 1 v4 h4) fun v5 h5 =>
 bnd (aA v5 h5) fun v6 h6 =>
 bnd (gA x0 h6) fun v7 h7 =>
 bnd (aF .geq v6 v7 h7) fun v8 h8 =>
 aU v8 (
   eW r n x0 x6 h8) (
 bnd (aO x5 h8) fun v9 h9 =>
 bnd (aB 1 v9 h9) fun v10 h10 =>
 bnd (aA v10 h10) fun v11 h11 =>
 bnd (fE x0 v11 h11) fun v12 h12 =>
 bnd (aF .eql v12 (.i .u8 (Int.ofNat 34)) h12) fun v13 h13 =>
 aU v13 (
 bnd (aO x5 h13) fun v14 h14 =>
 bnd (aB 1 v14 h14) fun v15 h15 =>
 bnd (aA v15 h15) fun v16 h16 =>
 bnd (aF .add v16 (aC 1) h16) fun v17 h17 =>
 bnd (jC x0 (some v17) none h17) fun v18 h18 =>
 bnd (r 177 [v18, (.i .u8 (Int.ofNat 34))] h18) fun v19 h19 =>
 bnd (aF .lss v19 (aC 0) h19) fun v20 h20 =>
 aU v20 (
 bnd (aO x5 h20) fun v21 h21 =>
 bnd (aB 1 v21 h21) fun v22 h22 =>
 bnd (aA v22 h22) fun v23 h23 =>
 some (.t [.l0, v23, (aC 11)], h23)) (
 bnd (aO x5 h20) fun v24 h24 =>
 bnd (aB 1 v24 h24) fun v25 h25 =>
 bnd (aA v25 h25) fun v26 h26 =>
 bnd (aF .add v19 (aC 2) h26) fun v27 h27 =>
 bnd (aF .add v26 v27 h27) fun v28 h28 =>
 bnd (aO x5 h28) fun v29 h29 =>
 bnd (aB 1 v29 h29) fun v30 h30 =>
 bnd (aD 1 v30 v28 h30) fun _ h31 =>
     kk7 x0 x5 x6 h31)) (
 bnd (r 178 [x5] h13) fun v32 h32 =>
 bnd (aG 0 v32 h32) fun v33 h33 =>
 bnd (aG 1 v32 h33) fun v34 h34 =>
 bnd (bA [(aC 0), (.s []), (aC 0), (aC 0)] h34) fun v35 h35 =>
 bnd (aD 4 v35 v33 h35) fun _ h36 =>
 bnd (aF .neq v34 (aC 0) h36) fun v37 h37 =>
 aU v37 (
 bnd (aB 3 v35 h37) fun v38 h38 =>
 bnd (aA v38 h38) fun v39 h39 =>
 some (.t [.l0, v39, v34], h39)) (
 bnd (aH 4 v35 h37) fun v40 h40 =>
 bnd (aN [(aC 0), (.s []), (aC 0), (aC 0)] 1 [(0, 4, v40)] h40) fun v41 h41 =>
 bnd (aX 4 40 x6 v41 h41) fun v42 h42 =>
     kk7 x0 x5 v42 h42)))
noncomputable def uR (r : RT) (n : Nat) (m : Nat) : dH :=
 Nat.rec (motive := fun _ => dH) (fun _ _ _ _ => none) (fun _ ih => aGz r n ih) m
noncomputable def cHh (r : RT) (n : Nat) : dH := uR r n n
noncomputable def aYl (r : RT) (n : Nat) (x0 x5 x6 : DV) (h0 : Hp) : aK :=
 cHh r n x0 x5 x6 h0
noncomputable def aUo (r : RT) (n : Nat) (x0 x5 x6 : DV) (h0 : Hp) : aK :=
 aYl r n x0 x5 x6 h0
noncomputable def aAi (r : RT) (n : Nat) (x0 x5 : DV) (h0 : Hp) : aK :=
 aUo r n x0 x5 .l0 h0
noncomputable def aNa (r : RT) (n : Nat) (x0 : DV) (h0 : Hp) : aK :=
 bnd (aT [(.s []), (aC 0)] [(0, 1, x0)] h0) fun v1 h1 =>
 bnd (bM v1 h1) fun v2 h2 =>
  aAi r n x0 v2 h2
noncomputable def aVl (r : RT) (n : Nat) (x0 : DV) (h0 : Hp) : aK :=
 bnd (gA x0 h0) fun v1 h1 =>
 bnd (aF .gtr v1 (aC 2000) h1) fun v2 h2 =>
 aU v2 (
 some (.t [.l0, (aC 0), (aC 12)], h2)) (
  aNa r n x0 h2)
noncomputable def s153 (r : RT) (n : Nat) (x0 : DV) (h0 : Hp) : aK :=
 aVl r n x0 h0
noncomputable abbrev c153 : Code := cf Tryz.f153
noncomputable abbrev aWt : Code := cR c153
noncomputable abbrev aFq : Code := cL aWt
noncomputable abbrev aKn : Code := cR aFq
noncomputable abbrev aHz : Code := cR aKn
noncomputable abbrev aOu : Code := cR aHz
noncomputable abbrev aLc : Code := cR aOu
noncomputable abbrev dOo : Code := cR aLc
noncomputable abbrev aLw : Code := cL aLc
noncomputable abbrev aDn : Code := cL aLw
noncomputable abbrev kA : Code := cL aDn
noncomputable abbrev bAx : Code := cL aOu
noncomputable abbrev bAv : Code := cL aHz
noncomputable abbrev aHd : Code := cL aKn
noncomputable abbrev bDw : Code := cL aFq
noncomputable abbrev bBt : Code := cL c153
noncomputable abbrev r153 : K := aR CF Tryz.f153
noncomputable def D153 (r : RT) (n : Nat) (c : Code) (X : Nat → K) (k : K) : K := aM CF r 80 n c X r153 k
theorem cYg : D153 r n dOo x0 r153 = (K2 (eW r n) 0 6) :=
 (by kernel_rfl)
theorem bVi (kk7 : dH) (q0 : eN) : D153 r n kA (xs x0 0 (K2 q0 0 6)) (K3 kk7 0 5 6) = fun (env : aV) (h : Hp) =>
 bnd (r 176 [(.s [9, 10, 13, 32])] h) fun v1 h1 =>
 bnd (gA (env 0) h1) fun v2 h2 =>
 bnd (r 175 [(env 5), v1, v2] h2) fun v3 h3 =>
 bnd (aO (env 5) h3) fun v4 h4 =>
 bnd (aB 1 v4 h4) fun v5 h5 =>
 bnd (aA v5 h5) fun v6 h6 =>
 bnd (gA (env 0) h6) fun v7 h7 =>
 bnd (aF .geq v6 v7 h7) fun v8 h8 =>
 aU v8 (
   q0 (env 0) (env 6) h8) (
 bnd (aO (env 5) h8) fun v9 h9 =>
 bnd (aB 1 v9 h9) fun v10 h10 =>
 bnd (aA v10 h10) fun v11 h11 =>
 bnd (fE (env 0) v11 h11) fun v12 h12 =>
 bnd (aF .eql v12 (.i .u8 (Int.ofNat 34)) h12) fun v13 h13 =>
 aU v13 (
 bnd (aO (env 5) h13) fun v14 h14 =>
 bnd (aB 1 v14 h14) fun v15 h15 =>
 bnd (aA v15 h15) fun v16 h16 =>
 bnd (aF .add v16 (aC 1) h16) fun v17 h17 =>
 bnd (jC (env 0) (some v17) none h17) fun v18 h18 =>
 bnd (r 177 [v18, (.i .u8 (Int.ofNat 34))] h18) fun v19 h19 =>
 bnd (aF .lss v19 (aC 0) h19) fun v20 h20 =>
 aU v20 (
 bnd (aO (env 5) h20) fun v21 h21 =>
 bnd (aB 1 v21 h21) fun v22 h22 =>
 bnd (aA v22 h22) fun v23 h23 =>
 some (.t [.l0, v23, (aC 11)], h23)) (
 bnd (aO (env 5) h20) fun v24 h24 =>
 bnd (aB 1 v24 h24) fun v25 h25 =>
 bnd (aA v25 h25) fun v26 h26 =>
 bnd (aF .add v19 (aC 2) h26) fun v27 h27 =>
 bnd (aF .add v26 v27 h27) fun v28 h28 =>
 bnd (aO (env 5) h28) fun v29 h29 =>
 bnd (aB 1 v29 h29) fun v30 h30 =>
 bnd (aD 1 v30 v28 h30) fun _ h31 =>
     kk7 (env 0) (env 5) (env 6) h31)) (
 bnd (r 178 [(env 5)] h13) fun v32 h32 =>
 bnd (aG 0 v32 h32) fun v33 h33 =>
 bnd (aG 1 v32 h33) fun v34 h34 =>
 bnd (bA [(aC 0), (.s []), (aC 0), (aC 0)] h34) fun v35 h35 =>
 bnd (aD 4 v35 v33 h35) fun _ h36 =>
 bnd (aF .neq v34 (aC 0) h36) fun v37 h37 =>
 aU v37 (
 bnd (aB 3 v35 h37) fun v38 h38 =>
 bnd (aA v38 h38) fun v39 h39 =>
 some (.t [.l0, v39, v34], h39)) (
 bnd (aH 4 v35 h37) fun v40 h40 =>
 bnd (aN [(aC 0), (.s []), (aC 0), (aC 0)] 1 [(0, 4, v40)] h40) fun v41 h41 =>
 bnd (aX 4 40 (env 6) v41 h41) fun v42 h42 =>
     kk7 (env 0) (env 5) v42 h42))) := by kernel_rfl
theorem bKe (kk7 : dH) : (fun (env : aV) (h : Hp) =>
 bnd (r 176 [(.s [9, 10, 13, 32])] h) fun v1 h1 =>
 bnd (gA (env 0) h1) fun v2 h2 =>
 bnd (r 175 [(env 5), v1, v2] h2) fun v3 h3 =>
 bnd (aO (env 5) h3) fun v4 h4 =>
 bnd (aB 1 v4 h4) fun v5 h5 =>
 bnd (aA v5 h5) fun v6 h6 =>
 bnd (gA (env 0) h6) fun v7 h7 =>
 bnd (aF .geq v6 v7 h7) fun v8 h8 =>
 aU v8 (
   eW r n (env 0) (env 6) h8) (
 bnd (aO (env 5) h8) fun v9 h9 =>
 bnd (aB 1 v9 h9) fun v10 h10 =>
 bnd (aA v10 h10) fun v11 h11 =>
 bnd (fE (env 0) v11 h11) fun v12 h12 =>
 bnd (aF .eql v12 (.i .u8 (Int.ofNat 34)) h12) fun v13 h13 =>
 aU v13 (
 bnd (aO (env 5) h13) fun v14 h14 =>
 bnd (aB 1 v14 h14) fun v15 h15 =>
 bnd (aA v15 h15) fun v16 h16 =>
 bnd (aF .add v16 (aC 1) h16) fun v17 h17 =>
 bnd (jC (env 0) (some v17) none h17) fun v18 h18 =>
 bnd (r 177 [v18, (.i .u8 (Int.ofNat 34))] h18) fun v19 h19 =>
 bnd (aF .lss v19 (aC 0) h19) fun v20 h20 =>
 aU v20 (
 bnd (aO (env 5) h20) fun v21 h21 =>
 bnd (aB 1 v21 h21) fun v22 h22 =>
 bnd (aA v22 h22) fun v23 h23 =>
 some (.t [.l0, v23, (aC 11)], h23)) (
 bnd (aO (env 5) h20) fun v24 h24 =>
 bnd (aB 1 v24 h24) fun v25 h25 =>
 bnd (aA v25 h25) fun v26 h26 =>
 bnd (aF .add v19 (aC 2) h26) fun v27 h27 =>
 bnd (aF .add v26 v27 h27) fun v28 h28 =>
 bnd (aO (env 5) h28) fun v29 h29 =>
 bnd (aB 1 v29 h29) fun v30 h30 =>
 bnd (aD 1 v30 v28 h30) fun _ h31 =>
     kk7 (env 0) (env 5) (env 6) h31)) (
 bnd (r 178 [(env 5)] h13) fun v32 h32 =>
 bnd (aG 0 v32 h32) fun v33 h33 =>
 bnd (aG 1 v32 h33) fun v34 h34 =>
 bnd (bA [(aC 0), (.s []), (aC 0), (aC 0)] h34) fun v35 h35 =>
 bnd (aD 4 v35 v33 h35) fun _ h36 =>
 bnd (aF .neq v34 (aC 0) h36) fun v37 h37 =>
 aU v37 (
 bnd (aB 3 v35 h37) fun v38 h38 =>
 bnd (aA v38 h38) fun v39 h39 =>
 some (.t [.l0, v39, v34], h39)) (
 bnd (aH 4 v35 h37) fun v40 h40 =>
 bnd (aN [(aC 0), (.s []), (aC 0), (aC 0)] 1 [(0, 4, v40)] h40) fun v41 h41 =>
 bnd (aX 4 40 (env 6) v41 h41) fun v42 h42 =>
     kk7 (env 0) (env 5) v42 h42)))) = (K3 (aGz r n kk7) 0 5 6) := by kernel_rfl
theorem cNb (kk7 : dH) : D153 r n kA (xs x0 0 (K2 (eW r n) 0 6)) (K3 kk7 0 5 6) = (K3 (aGz r n kk7) 0 5 6) :=
 (bVi r n kk7 (eW r n)).trans (bKe r n kk7)
theorem bPt (m : Nat) : aL (fun kk => D153 r n kA (xs x0 0 (K2 (eW r n) 0 6)) kk) m = (K3 (uR r n m) 0 5 6) := by
 induction m with
 | zero => exact (by kernel_rfl : aL (fun kk => D153 r n kA (xs x0 0 (K2 (eW r n) 0 6)) kk) 0 = (K3 (uR r n 0) 0 5 6))
 | succ m ih =>
  refine (by kernel_rfl : aL (fun kk => D153 r n kA (xs x0 0 (K2 (eW r n) 0 6)) kk) (m + 1) = D153 r n kA (xs x0 0 (K2 (eW r n) 0 6)) (aL (fun kk => D153 r n kA (xs x0 0 (K2 (eW r n) 0 6)) kk) m)).trans ?_
  rw [ih]
  exact (cNb r n (uR r n m)).trans (by kernel_rfl)
theorem dDc : D153 r n aDn (xs x0 0 (K2 (eW r n) 0 6)) (K2 (eW r n) 0 6) = (K3 (cHh r n) 0 5 6) :=
 (by kernel_rfl : D153 r n aDn (xs x0 0 (K2 (eW r n) 0 6)) (K2 (eW r n) 0 6) = aL (fun kk => D153 r n kA (xs x0 0 (K2 (eW r n) 0 6)) kk) n).trans ((bPt r n n).trans (by kernel_rfl))
theorem cHz : D153 r n aLc x0 r153 = D153 r n aLw x0 (K2 (eW r n) 0 6) :=
 congrArg (fun k => D153 r n aLw x0 k) (cYg r n)
theorem dCt : D153 r n aLc x0 r153 = (K3 (aYl r n) 0 5 6) :=
 (cHz r n).trans
 ((by kernel_rfl : D153 r n aLw x0 (K2 (eW r n) 0 6) = D153 r n aDn (xs x0 0 (K2 (eW r n) 0 6)) (K2 (eW r n) 0 6)).trans
 ((dDc r n).trans (by kernel_rfl)))
theorem bYp : D153 r n aOu x0 r153 = D153 r n bAx x0 (K3 (aYl r n) 0 5 6) :=
 congrArg (fun k => D153 r n bAx x0 k) (dCt r n)
theorem cXr : D153 r n aOu x0 r153 = (K3 (aUo r n) 0 5 6) :=
 (bYp r n).trans
 ((by kernel_rfl))
theorem cEa : D153 r n aHz x0 r153 = D153 r n bAv x0 (K3 (aUo r n) 0 5 6) :=
 congrArg (fun k => D153 r n bAv x0 k) (cXr r n)
theorem cQj : D153 r n aHz x0 r153 = (K2 (aAi r n) 0 5) :=
 (cEa r n).trans
 ((by kernel_rfl))
theorem cEf : D153 r n aKn x0 r153 = D153 r n aHd x0 (K2 (aAi r n) 0 5) :=
 congrArg (fun k => D153 r n aHd x0 k) (cQj r n)
theorem cHa (q0 : eN) : D153 r n aHd x0 (K2 q0 0 5) = fun (env : aV) (h : Hp) =>
 bnd (aT [(.s []), (aC 0)] [(0, 1, (env 0))] h) fun v1 h1 =>
 bnd (bM v1 h1) fun v2 h2 =>
  q0 (env 0) v2 h2 := by kernel_rfl
theorem bNi : (fun (env : aV) (h : Hp) =>
 bnd (aT [(.s []), (aC 0)] [(0, 1, (env 0))] h) fun v1 h1 =>
 bnd (bM v1 h1) fun v2 h2 =>
  aAi r n (env 0) v2 h2) = (K1 (aNa r n) 0) := by kernel_rfl
theorem cOc : D153 r n aKn x0 r153 = (K1 (aNa r n) 0) :=
 (cEf r n).trans
 ((cHa r n (aAi r n)).trans (bNi r n))
theorem cAe : D153 r n aFq x0 r153 = D153 r n bDw x0 (K1 (aNa r n) 0) :=
 congrArg (fun k => D153 r n bDw x0 k) (cOc r n)
theorem cSh : D153 r n aWt x0 r153 = (K1 (aVl r n) 0) :=
 (by kernel_rfl : D153 r n aWt x0 r153 = D153 r n aFq x0 r153).trans
 ((cAe r n).trans
 ((by kernel_rfl)))
theorem dUs : D153 r n c153 x0 r153 = D153 r n bBt x0 (K1 (aVl r n) 0) :=
 congrArg (fun k => D153 r n bBt x0 k) (cSh r n)
theorem eIn : D153 r n c153 x0 r153 = (K1 (s153 r n) 0) :=
 (dUs r n).trans
 ((by kernel_rfl))
theorem dTs : aE CF r n 153 args h = s153 r n (aP args 0) h :=
 (by kernel_rfl : aE CF r n 153 args h = D153 r n c153 x0 r153 (aJ args) h).trans ((congrFun (congrFun (eIn r n) (aJ args)) h).trans (by kernel_rfl))
noncomputable def eY (r : RT) (n : Nat) (x0 x3 : DV) (h0 : Hp) : aK :=
 bnd (r 156 [x0, (aC 10), (.s [124])] h0) fun v1 h1 =>
 some (x3, h1)
noncomputable def aNd (r : RT) (n : Nat) (kk6 : eN) (x0 x3 : DV) (h0 : Hp) : aK :=
 bnd (r 179 [x0, (aC 1), (.s [])] h0) fun v1 h1 =>
 aU v1 (
 bnd (r 180 [x0] h1) fun v2 h2 =>
 bnd (dD 1 v2 h2) fun v3 h3 =>
 bnd (aN [(.s [])] 1 [(0, 1, v3)] h3) fun v4 h4 =>
 bnd (aX 1 16 x3 v4 h4) fun v5 h5 =>
      kk6 x0 v5 h5) (
      eY r n x0 x3 h1)
noncomputable def vI (r : RT) (n : Nat) (m : Nat) : eN :=
 Nat.rec (motive := fun _ => eN) (fun _ _ _ => none) (fun _ ih => aNd r n ih) m
noncomputable def bSc (r : RT) (n : Nat) : eN := vI r n n
noncomputable def aZs (r : RT) (n : Nat) (x0 x3 : DV) (h0 : Hp) : aK :=
 bSc r n x0 x3 h0
noncomputable def aTv (r : RT) (n : Nat) (x0 x3 : DV) (h0 : Hp) : aK :=
 bnd (r 180 [x0] h0) fun v1 h1 =>
  aZs r n x0 x3 h1
noncomputable def aSc (r : RT) (n : Nat) (x0 x3 : DV) (h0 : Hp) : aK :=
 bnd (r 179 [x0, (aC 10), (.s [124])] h0) fun v1 h1 =>
 bnd (eO .not v1 h1) fun v2 h2 =>
 aU v2 (
 some (.l0, h2)) (
  aTv r n x0 x3 h2)
noncomputable def aYv (r : RT) (n : Nat) (x0 : DV) (h0 : Hp) : aK :=
 aSc r n x0 .l0 h0
noncomputable def s154 (r : RT) (n : Nat) (x0 : DV) (h0 : Hp) : aK :=
 aYv r n x0 h0
noncomputable abbrev c154 : Code := cf Tryz.f154
noncomputable abbrev aLr : Code := cR c154
noncomputable abbrev aEq : Code := cR aLr
noncomputable abbrev aEh : Code := cR aEq
noncomputable abbrev aKe : Code := cR aEh
noncomputable abbrev dXe : Code := cR aKe
noncomputable abbrev aHj : Code := cL aKe
noncomputable abbrev aDz : Code := cL aHj
noncomputable abbrev mJ : Code := cL aDz
noncomputable abbrev bRp : Code := cL aEh
noncomputable abbrev bGz : Code := cL aEq
noncomputable abbrev bAm : Code := cL aLr
noncomputable abbrev bFi : Code := cL c154
noncomputable abbrev r154 : K := aR CF Tryz.f154
noncomputable def D154 (r : RT) (n : Nat) (c : Code) (X : Nat → K) (k : K) : K := aM CF r 20 n c X r154 k
theorem cYo : D154 r n dXe x0 r154 = (K2 (eY r n) 0 3) :=
 (by kernel_rfl)
theorem cHw (kk6 : eN) (q0 : eN) : D154 r n mJ (xs x0 0 (K2 q0 0 3)) (K2 kk6 0 3) = fun (env : aV) (h : Hp) =>
 bnd (r 179 [(env 0), (aC 1), (.s [])] h) fun v1 h1 =>
 aU v1 (
 bnd (r 180 [(env 0)] h1) fun v2 h2 =>
 bnd (dD 1 v2 h2) fun v3 h3 =>
 bnd (aN [(.s [])] 1 [(0, 1, v3)] h3) fun v4 h4 =>
 bnd (aX 1 16 (env 3) v4 h4) fun v5 h5 =>
      kk6 (env 0) v5 h5) (
      q0 (env 0) (env 3) h1) := by kernel_rfl
theorem bKz (kk6 : eN) : (fun (env : aV) (h : Hp) =>
 bnd (r 179 [(env 0), (aC 1), (.s [])] h) fun v1 h1 =>
 aU v1 (
 bnd (r 180 [(env 0)] h1) fun v2 h2 =>
 bnd (dD 1 v2 h2) fun v3 h3 =>
 bnd (aN [(.s [])] 1 [(0, 1, v3)] h3) fun v4 h4 =>
 bnd (aX 1 16 (env 3) v4 h4) fun v5 h5 =>
      kk6 (env 0) v5 h5) (
      eY r n (env 0) (env 3) h1)) = (K2 (aNd r n kk6) 0 3) := by kernel_rfl
theorem bZz (kk6 : eN) : D154 r n mJ (xs x0 0 (K2 (eY r n) 0 3)) (K2 kk6 0 3) = (K2 (aNd r n kk6) 0 3) :=
 (cHw r n kk6 (eY r n)).trans (bKz r n kk6)
theorem cJx (m : Nat) : aL (fun kk => D154 r n mJ (xs x0 0 (K2 (eY r n) 0 3)) kk) m = (K2 (vI r n m) 0 3) := by
 induction m with
 | zero => exact (by kernel_rfl : aL (fun kk => D154 r n mJ (xs x0 0 (K2 (eY r n) 0 3)) kk) 0 = (K2 (vI r n 0) 0 3))
 | succ m ih =>
  refine (by kernel_rfl : aL (fun kk => D154 r n mJ (xs x0 0 (K2 (eY r n) 0 3)) kk) (m + 1) = D154 r n mJ (xs x0 0 (K2 (eY r n) 0 3)) (aL (fun kk => D154 r n mJ (xs x0 0 (K2 (eY r n) 0 3)) kk) m)).trans ?_
  rw [ih]
  exact (bZz r n (vI r n m)).trans (by kernel_rfl)
theorem cSd : D154 r n aDz (xs x0 0 (K2 (eY r n) 0 3)) (K2 (eY r n) 0 3) = (K2 (bSc r n) 0 3) :=
 (by kernel_rfl : D154 r n aDz (xs x0 0 (K2 (eY r n) 0 3)) (K2 (eY r n) 0 3) = aL (fun kk => D154 r n mJ (xs x0 0 (K2 (eY r n) 0 3)) kk) n).trans ((cJx r n n).trans (by kernel_rfl))
theorem cMm : D154 r n aKe x0 r154 = D154 r n aHj x0 (K2 (eY r n) 0 3) :=
 congrArg (fun k => D154 r n aHj x0 k) (cYo r n)
theorem dBq : D154 r n aKe x0 r154 = (K2 (aZs r n) 0 3) :=
 (cMm r n).trans
 ((by kernel_rfl : D154 r n aHj x0 (K2 (eY r n) 0 3) = D154 r n aDz (xs x0 0 (K2 (eY r n) 0 3)) (K2 (eY r n) 0 3)).trans
 ((cSd r n).trans (by kernel_rfl)))
theorem bUx : D154 r n aEh x0 r154 = D154 r n bRp x0 (K2 (aZs r n) 0 3) :=
 congrArg (fun k => D154 r n bRp x0 k) (dBq r n)
theorem cOn : D154 r n aEh x0 r154 = (K2 (aTv r n) 0 3) :=
 (bUx r n).trans
 ((by kernel_rfl))
theorem bSg : D154 r n aEq x0 r154 = D154 r n bGz x0 (K2 (aTv r n) 0 3) :=
 congrArg (fun k => D154 r n bGz x0 k) (cOn r n)
theorem cOg : D154 r n aEq x0 r154 = (K2 (aSc r n) 0 3) :=
 (bSg r n).trans
 ((by kernel_rfl))
theorem cKa : D154 r n aLr x0 r154 = D154 r n bAm x0 (K2 (aSc r n) 0 3) :=
 congrArg (fun k => D154 r n bAm x0 k) (cOg r n)
theorem dAq : D154 r n aLr x0 r154 = (K1 (aYv r n) 0) :=
 (cKa r n).trans
 ((by kernel_rfl))
theorem dNp : D154 r n c154 x0 r154 = D154 r n bFi x0 (K1 (aYv r n) 0) :=
 congrArg (fun k => D154 r n bFi x0 k) (dAq r n)
theorem eIj : D154 r n c154 x0 r154 = (K1 (s154 r n) 0) :=
 (dNp r n).trans
 ((by kernel_rfl))
theorem dQu : aE CF r n 154 args h = s154 r n (aP args 0) h :=
 (by kernel_rfl : aE CF r n 154 args h = D154 r n c154 x0 r154 (aJ args) h).trans ((congrFun (congrFun (eIj r n) (aJ args)) h).trans (by kernel_rfl))
noncomputable def bS (r : RT) (n : Nat) (x3 : DV) (h0 : Hp) : aK :=
 some (x3, h0)
noncomputable def gC (r : RT) (n : Nat) (kk4 : eN) (x0 x3 : DV) (h0 : Hp) : aK :=
 bnd (r 181 [x0] h0) fun v1 h1 =>
 bnd (aN cQ 1 [(0, 6, v1)] h1) fun v2 h2 =>
 bnd (aX 6 104 x3 v2 h2) fun v3 h3 =>
 bnd (r 179 [x0, (aC 10), (.s [46])] h3) fun v4 h4 =>
 bnd (eO .not v4 h4) fun v5 h5 =>
 aU v5 (
 some (v3, h5)) (
 bnd (r 180 [x0] h5) fun v6 h6 =>
  kk4 x0 v3 h6)
noncomputable def wH (r : RT) (n : Nat) (kk4 : eN) (x3 : DV) (h0 : Hp) : aK :=
 some (x3, h0)
noncomputable def pR (r : RT) (n : Nat) (kk4 : eN) (x0 x3 : DV) (h0 : Hp) : aK :=
 bnd (r 179 [x0, (aC 10), (.s [46])] h0) fun v1 h1 =>
 aU v1 (
 bnd (r 180 [x0] h1) fun v2 h2 =>
  wH r n kk4 x3 h2) (
  wH r n kk4 x3 h1)
noncomputable def aJa (r : RT) (n : Nat) (kk4 : eN) (x0 x3 : DV) (h0 : Hp) : aK :=
 bnd (r 181 [x0] h0) fun v1 h1 =>
 bnd (aN cQ 1 [(0, 6, v1)] h1) fun v2 h2 =>
 bnd (aT cQ [(0, 1, (aC 10)), (5, 1, v2)] h2) fun v3 h3 =>
 bnd (aN cQ 1 [(0, 6, v3)] h3) fun v4 h4 =>
 bnd (aX 6 104 x3 v4 h4) fun v5 h5 =>
  pR r n kk4 x0 v5 h5
noncomputable def cAm (r : RT) (n : Nat) (kk4 : eN) (x0 x3 : DV) (h0 : Hp) : aK :=
 bnd (r 180 [x0] h0) fun v1 h1 =>
  aJa r n kk4 x0 x3 h1
noncomputable def aWe (r : RT) (n : Nat) (kk4 : eN) (x0 x3 x20 : DV) (h0 : Hp) : aK :=
 aU x20 (
  cAm r n kk4 x0 x3 h0) (
  gC r n kk4 x0 x3 h0)
noncomputable def aVw (r : RT) (n : Nat) (kk4 : eN) (x0 x3 : DV) (h0 : Hp) : aK :=
 bnd (r 179 [x0, (aC 10), (.s [94])] h0) fun v1 h1 =>
  aWe r n kk4 x0 x3 v1 h1
noncomputable def bFa (r : RT) (n : Nat) (kk4 : eN) (x0 x3 : DV) (h0 : Hp) : aK :=
 bnd (aO x0 h0) fun v1 h1 =>
 bnd (aB 3 v1 h1) fun v2 h2 =>
 bnd (aA v2 h2) fun v3 h3 =>
 bnd (aF .eql v3 (aC 0) h3) fun v4 h4 =>
 bnd (gD v4 true (some (x0, h4)) h4) fun v5 h5 =>
 bnd (gD v4 true (r 179 [v5, (aC 0), (.s [])] h5) h5) fun v6 h6 =>
 bnd (gD v4 true (eO .not v6 h6) h6) fun v7 h7 =>
 bnd (aQ v4 v7 (.b false) h7) fun v8 h8 =>
 bnd (gD v8 true (some (x0, h8)) h8) fun v9 h9 =>
 bnd (gD v8 true (r 179 [v9, (aC 10), (.s [93])] h9) h9) fun v10 h10 =>
 bnd (gD v8 true (eO .not v10 h10) h10) fun v11 h11 =>
 bnd (aQ v8 v11 (.b false) h11) fun v12 h12 =>
 aU v12 (
   aVw r n kk4 x0 x3 h12) (
   bS r n x3 h12)
noncomputable def wL (r : RT) (n : Nat) (m : Nat) : eN :=
 Nat.rec (motive := fun _ => eN) (fun _ _ _ => none) (fun _ ih => bFa r n ih) m
noncomputable def cAq (r : RT) (n : Nat) : eN := wL r n n
noncomputable def aVq (r : RT) (n : Nat) (x0 x3 : DV) (h0 : Hp) : aK :=
 cAq r n x0 x3 h0
noncomputable def aVy (r : RT) (n : Nat) (x0 : DV) (h0 : Hp) : aK :=
 aVq r n x0 .l0 h0
noncomputable def s155 (r : RT) (n : Nat) (x0 : DV) (h0 : Hp) : aK :=
 aVy r n x0 h0
noncomputable abbrev c155 : Code := cf Tryz.f155
noncomputable abbrev aLa : Code := cR c155
noncomputable abbrev aNv : Code := cR aLa
noncomputable abbrev dLy : Code := cR aNv
noncomputable abbrev aJn : Code := cL aNv
noncomputable abbrev aCj : Code := cL aJn
noncomputable abbrev kG : Code := cL aCj
noncomputable abbrev aTa : Code := cR kG
noncomputable abbrev aFc : Code := cL aTa
noncomputable abbrev cAk : Code := cR aFc
noncomputable abbrev qB : Code := cL aFc
noncomputable abbrev qI : Code := cR qB
noncomputable abbrev qQ : Code := cL qI
noncomputable abbrev vJ : Code := cR qQ
noncomputable abbrev vM : Code := cR vJ
noncomputable abbrev cXz : Code := cR vM
noncomputable abbrev bBa : Code := cL vM
noncomputable abbrev aEv : Code := cL vJ
noncomputable abbrev bCr : Code := cL qQ
noncomputable abbrev dEu : Code := cR qI
noncomputable abbrev bCy : Code := cL qB
noncomputable abbrev bGt : Code := cL kG
noncomputable abbrev bGo : Code := cL aLa
noncomputable abbrev bHp : Code := cL c155
noncomputable abbrev r155 : K := aR CF Tryz.f155
noncomputable def D155 (r : RT) (n : Nat) (c : Code) (X : Nat → K) (k : K) : K := aM CF r 47 n c X r155 k
theorem cRy : D155 r n dLy x0 r155 = (K1 (bS r n) 3) :=
 (by kernel_rfl)
theorem bXo (kk4 : eN) (q0 : TT1) : D155 r n cAk (xs (xs x0 0 (K1 q0 3)) 1 (K2 kk4 0 3)) (K2 kk4 0 3) = fun (env : aV) (h : Hp) =>
 bnd (r 181 [(env 0)] h) fun v1 h1 =>
 bnd (aN cQ 1 [(0, 6, v1)] h1) fun v2 h2 =>
 bnd (aX 6 104 (env 3) v2 h2) fun v3 h3 =>
 bnd (r 179 [(env 0), (aC 10), (.s [46])] h3) fun v4 h4 =>
 bnd (eO .not v4 h4) fun v5 h5 =>
 aU v5 (
 some (v3, h5)) (
 bnd (r 180 [(env 0)] h5) fun v6 h6 =>
      kk4 (env 0) v3 h6) := by kernel_rfl
theorem bKn (kk4 : eN) : (fun (env : aV) (h : Hp) =>
 bnd (r 181 [(env 0)] h) fun v1 h1 =>
 bnd (aN cQ 1 [(0, 6, v1)] h1) fun v2 h2 =>
 bnd (aX 6 104 (env 3) v2 h2) fun v3 h3 =>
 bnd (r 179 [(env 0), (aC 10), (.s [46])] h3) fun v4 h4 =>
 bnd (eO .not v4 h4) fun v5 h5 =>
 aU v5 (
 some (v3, h5)) (
 bnd (r 180 [(env 0)] h5) fun v6 h6 =>
      kk4 (env 0) v3 h6)) = (K2 (gC r n kk4) 0 3) := by kernel_rfl
theorem cPw (kk4 : eN) : D155 r n cAk (xs (xs x0 0 (K1 (bS r n) 3)) 1 (K2 kk4 0 3)) (K2 kk4 0 3) = (K2 (gC r n kk4) 0 3) :=
 (bXo r n kk4 (bS r n)).trans (bKn r n kk4)
theorem bYt (kk4 : eN) : D155 r n cXz (xs (xs x0 0 (K1 (bS r n) 3)) 1 (K2 kk4 0 3)) (K2 (gC r n kk4) 0 3) = (K1 (wH r n kk4) 3) :=
 (by kernel_rfl)
theorem bKh (kk4 : eN) : D155 r n vM (xs (xs x0 0 (K1 (bS r n) 3)) 1 (K2 kk4 0 3)) (K2 (gC r n kk4) 0 3) = D155 r n bBa (xs (xs x0 0 (K1 (bS r n) 3)) 1 (K2 kk4 0 3)) (K1 (wH r n kk4) 3) :=
 congrArg (fun k => D155 r n bBa (xs (xs x0 0 (K1 (bS r n) 3)) 1 (K2 kk4 0 3)) k) (bYt r n kk4)
theorem bWg (kk4 : eN) : D155 r n vM (xs (xs x0 0 (K1 (bS r n) 3)) 1 (K2 kk4 0 3)) (K2 (gC r n kk4) 0 3) = (K2 (pR r n kk4) 0 3) :=
 (bKh r n kk4).trans
 ((by kernel_rfl))
theorem cDk (kk4 : eN) : D155 r n vJ (xs (xs x0 0 (K1 (bS r n) 3)) 1 (K2 kk4 0 3)) (K2 (gC r n kk4) 0 3) = D155 r n aEv (xs (xs x0 0 (K1 (bS r n) 3)) 1 (K2 kk4 0 3)) (K2 (pR r n kk4) 0 3) :=
 congrArg (fun k => D155 r n aEv (xs (xs x0 0 (K1 (bS r n) 3)) 1 (K2 kk4 0 3)) k) (bWg r n kk4)
theorem bTn (kk4 : eN) (q0 : eN) (q1 : TT1) : D155 r n aEv (xs (xs x0 0 (K1 q1 3)) 1 (K2 kk4 0 3)) (K2 q0 0 3) = fun (env : aV) (h : Hp) =>
 bnd (r 181 [(env 0)] h) fun v1 h1 =>
 bnd (aN cQ 1 [(0, 6, v1)] h1) fun v2 h2 =>
 bnd (aT cQ [(0, 1, (aC 10)), (5, 1, v2)] h2) fun v3 h3 =>
 bnd (aN cQ 1 [(0, 6, v3)] h3) fun v4 h4 =>
 bnd (aX 6 104 (env 3) v4 h4) fun v5 h5 =>
  q0 (env 0) v5 h5 := by kernel_rfl
theorem bKj (kk4 : eN) : (fun (env : aV) (h : Hp) =>
 bnd (r 181 [(env 0)] h) fun v1 h1 =>
 bnd (aN cQ 1 [(0, 6, v1)] h1) fun v2 h2 =>
 bnd (aT cQ [(0, 1, (aC 10)), (5, 1, v2)] h2) fun v3 h3 =>
 bnd (aN cQ 1 [(0, 6, v3)] h3) fun v4 h4 =>
 bnd (aX 6 104 (env 3) v4 h4) fun v5 h5 =>
  pR r n kk4 (env 0) v5 h5) = (K2 (aJa r n kk4) 0 3) := by kernel_rfl
theorem dBu (kk4 : eN) : D155 r n vJ (xs (xs x0 0 (K1 (bS r n) 3)) 1 (K2 kk4 0 3)) (K2 (gC r n kk4) 0 3) = (K2 (aJa r n kk4) 0 3) :=
 (cDk r n kk4).trans
 ((bTn r n kk4 (pR r n kk4) (bS r n)).trans (bKj r n kk4))
theorem cAn (kk4 : eN) : D155 r n qQ (xs (xs x0 0 (K1 (bS r n) 3)) 1 (K2 kk4 0 3)) (K2 (gC r n kk4) 0 3) = D155 r n bCr (xs (xs x0 0 (K1 (bS r n) 3)) 1 (K2 kk4 0 3)) (K2 (aJa r n kk4) 0 3) :=
 congrArg (fun k => D155 r n bCr (xs (xs x0 0 (K1 (bS r n) 3)) 1 (K2 kk4 0 3)) k) (dBu r n kk4)
theorem cWx (kk4 : eN) : D155 r n qQ (xs (xs x0 0 (K1 (bS r n) 3)) 1 (K2 kk4 0 3)) (K2 (gC r n kk4) 0 3) = (K2 (cAm r n kk4) 0 3) :=
 (cAn r n kk4).trans
 ((by kernel_rfl))
theorem dEe (kk4 : eN) : D155 r n qI (xs (xs x0 0 (K1 (bS r n) 3)) 1 (K2 kk4 0 3)) (K2 (gC r n kk4) 0 3) = (K3 (aWe r n kk4) 0 3 20) :=
 (by kernel_rfl : D155 r n qI (xs (xs x0 0 (K1 (bS r n) 3)) 1 (K2 kk4 0 3)) (K2 (gC r n kk4) 0 3) = (fun (env : aV) (h : Hp) => aU (opr env (cC qI)) (D155 r n qQ (xs (xs x0 0 (K1 (bS r n) 3)) 1 (K2 kk4 0 3)) (K2 (gC r n kk4) 0 3) env h) (D155 r n dEu (xs (xs x0 0 (K1 (bS r n) 3)) 1 (K2 kk4 0 3)) (K2 (gC r n kk4) 0 3) env h))).trans (by rw [cWx r n kk4]; kernel_rfl)
theorem cEw (kk4 : eN) : D155 r n aFc (xs (xs x0 0 (K1 (bS r n) 3)) 1 (K2 kk4 0 3)) (K2 kk4 0 3) = D155 r n qB (xs (xs x0 0 (K1 (bS r n) 3)) 1 (K2 kk4 0 3)) (K2 (gC r n kk4) 0 3) :=
 congrArg (fun k => D155 r n qB (xs (xs x0 0 (K1 (bS r n) 3)) 1 (K2 kk4 0 3)) k) (cPw r n kk4)
theorem cGj (kk4 : eN) : D155 r n qB (xs (xs x0 0 (K1 (bS r n) 3)) 1 (K2 kk4 0 3)) (K2 (gC r n kk4) 0 3) = D155 r n bCy (xs (xs x0 0 (K1 (bS r n) 3)) 1 (K2 kk4 0 3)) (K3 (aWe r n kk4) 0 3 20) :=
 congrArg (fun k => D155 r n bCy (xs (xs x0 0 (K1 (bS r n) 3)) 1 (K2 kk4 0 3)) k) (dEe r n kk4)
theorem cZc (kk4 : eN) : D155 r n aTa (xs x0 0 (K1 (bS r n) 3)) (K2 kk4 0 3) = (K2 (aVw r n kk4) 0 3) :=
 (by kernel_rfl : D155 r n aTa (xs x0 0 (K1 (bS r n) 3)) (K2 kk4 0 3) = D155 r n aFc (xs (xs x0 0 (K1 (bS r n) 3)) 1 (K2 kk4 0 3)) (K2 kk4 0 3)).trans
 ((cEw r n kk4).trans
 ((cGj r n kk4).trans
 ((by kernel_rfl))))
theorem cLy (kk4 : eN) : D155 r n kG (xs x0 0 (K1 (bS r n) 3)) (K2 kk4 0 3) = D155 r n bGt (xs x0 0 (K1 (bS r n) 3)) (K2 (aVw r n kk4) 0 3) :=
 congrArg (fun k => D155 r n bGt (xs x0 0 (K1 (bS r n) 3)) k) (cZc r n kk4)
theorem bQa (kk4 : eN) : D155 r n kG (xs x0 0 (K1 (bS r n) 3)) (K2 kk4 0 3) = (K2 (bFa r n kk4) 0 3) :=
 (cLy r n kk4).trans
 ((by kernel_rfl))
theorem cHq (m : Nat) : aL (fun kk => D155 r n kG (xs x0 0 (K1 (bS r n) 3)) kk) m = (K2 (wL r n m) 0 3) := by
 induction m with
 | zero => exact (by kernel_rfl : aL (fun kk => D155 r n kG (xs x0 0 (K1 (bS r n) 3)) kk) 0 = (K2 (wL r n 0) 0 3))
 | succ m ih =>
  refine (by kernel_rfl : aL (fun kk => D155 r n kG (xs x0 0 (K1 (bS r n) 3)) kk) (m + 1) = D155 r n kG (xs x0 0 (K1 (bS r n) 3)) (aL (fun kk => D155 r n kG (xs x0 0 (K1 (bS r n) 3)) kk) m)).trans ?_
  rw [ih]
  exact (bQa r n (wL r n m)).trans (by kernel_rfl)
theorem cQr : D155 r n aCj (xs x0 0 (K1 (bS r n) 3)) (K1 (bS r n) 3) = (K2 (cAq r n) 0 3) :=
 (by kernel_rfl : D155 r n aCj (xs x0 0 (K1 (bS r n) 3)) (K1 (bS r n) 3) = aL (fun kk => D155 r n kG (xs x0 0 (K1 (bS r n) 3)) kk) n).trans ((cHq r n n).trans (by kernel_rfl))
theorem cKt : D155 r n aNv x0 r155 = D155 r n aJn x0 (K1 (bS r n) 3) :=
 congrArg (fun k => D155 r n aJn x0 k) (cRy r n)
theorem cXv : D155 r n aNv x0 r155 = (K2 (aVq r n) 0 3) :=
 (cKt r n).trans
 ((by kernel_rfl : D155 r n aJn x0 (K1 (bS r n) 3) = D155 r n aCj (xs x0 0 (K1 (bS r n) 3)) (K1 (bS r n) 3)).trans
 ((cQr r n).trans (by kernel_rfl)))
theorem bKu : D155 r n aLa x0 r155 = D155 r n bGo x0 (K2 (aVq r n) 0 3) :=
 congrArg (fun k => D155 r n bGo x0 k) (cXv r n)
theorem cYp : D155 r n aLa x0 r155 = (K1 (aVy r n) 0) :=
 (bKu r n).trans
 ((by kernel_rfl))
theorem dCu : D155 r n c155 x0 r155 = D155 r n bHp x0 (K1 (aVy r n) 0) :=
 congrArg (fun k => D155 r n bHp x0 k) (cYp r n)
theorem eDj : D155 r n c155 x0 r155 = (K1 (s155 r n) 0) :=
 (dCu r n).trans
 ((by kernel_rfl))
theorem dJe : aE CF r n 155 args h = s155 r n (aP args 0) h :=
 (by kernel_rfl : aE CF r n 155 args h = D155 r n c155 x0 r155 (aJ args) h).trans ((congrFun (congrFun (eDj r n) (aJ args)) h).trans (by kernel_rfl))
noncomputable def s156 (r : RT) (n : Nat) (x0 x1 x2 : DV) (h0 : Hp) : aK :=
 bnd (bA [(aC 0), (.s []), (aC 0), (aC 0)] h0) fun v1 h1 =>
 bnd (r 179 [x0, x1, x2] h1) fun v2 h2 =>
 bnd (eO .not v2 h2) fun v3 h3 =>
 aU v3 (
 bnd (r 183 [x0, (aC 0)] h3) fun v4 h4 =>
 bnd (r 182 [x0, v4, (aC 13)] h4) fun v5 h5 =>
 bnd (aT [(aC 0), (.s []), (aC 0), (aC 0)] [] h5) fun v6 h6 =>
 bnd (aD 4 v1 v6 h6) fun _ h7 =>
 bnd (aH 4 v1 h7) fun v8 _ =>
 some (v8, h7)) (
 bnd (r 180 [x0] h3) fun v9 h9 =>
 bnd (aD 4 v1 v9 h9) fun _ h10 =>
 bnd (aH 4 v1 h10) fun v11 _ =>
 some (v11, h10))
noncomputable abbrev c156 : Code := cf Tryz.f156
noncomputable abbrev r156 : K := aR CF Tryz.f156
noncomputable def D156 (r : RT) (n : Nat) (c : Code) (X : Nat → K) (k : K) : K := aM CF r 19 n c X r156 k
theorem eCj : D156 r n c156 x0 r156 = (K3 (s156 r n) 0 1 2) :=
 (by kernel_rfl)
theorem dWa : aE CF r n 156 args h = s156 r n (aP args 0) (aP args 1) (aP args 2) h :=
 (by kernel_rfl : aE CF r n 156 args h = D156 r n c156 x0 r156 (aJ args) h).trans ((congrFun (congrFun (eCj r n) (aJ args)) h).trans (by kernel_rfl))
noncomputable def bGc (r : RT) (n : Nat) (kk6 : dH) (x0 x1 x4 : DV) (h0 : Hp) : aK :=
 bnd (gD x4 false (some (x0, h0)) h0) fun v1 h1 =>
 bnd (gD x4 false (r 179 [v1, (aC 2), (.s [])] h1) h1) fun v2 h2 =>
 bnd (aQ x4 (.b true) v2 h2) fun v3 h3 =>
 aU v3 (
 bnd (aO x1 h3) fun v4 h4 =>
 bnd (aB 1 v4 h4) fun v5 h5 =>
 bnd (aA v5 h5) fun v6 h6 =>
 bnd (r 156 [x0, (aC 2), (.s [])] h6) fun v7 h7 =>
 cnd (aW (aA v5 h7) v6 && true) (
 bnd (dD 1 v7 h7) fun v8 h8 =>
 bnd (eG .add v6 v8 h8) fun v9 h9 =>
 bnd (aO x1 h9) fun v10 h10 =>
 bnd (aB 1 v10 h10) fun v11 h11 =>
 bnd (aD 1 v11 v9 h11) fun v12 h12 =>
 bnd (aO x1 (resv 1 h12)) fun v13 h13 =>
 bnd (aB 3 v13 h13) fun v14 h14 =>
 bnd (aA v14 h14) fun v15 h15 =>
 bnd (aO x1 h15) fun v16 h16 =>
 bnd (aB 3 v16 h16) fun v17 h17 =>
 bnd (aA v17 h17) fun v18 h18 =>
 bnd (r 184 [x0, (aC 1), v18] h18) fun v19 h19 =>
 cnd (aW (aA v14 h19) v15 && true) (
 bnd (aS (bD 0 h12.next) [(.s [])] 1 [(0, 1, v19)] h19) fun v20 h20 =>
 bnd (aX 1 16 v15 v20 h20) fun v21 h21 =>
 bnd (aO x1 h21) fun v22 h22 =>
 bnd (aB 3 v22 h22) fun v23 h23 =>
 bnd (aD 1 v23 v21 h23) fun v24 h24 =>
      kk6 x0 x1 (.b false) h24))) (
 some (.t [], h3))
noncomputable def tN (r : RT) (n : Nat) (m : Nat) : dH :=
 Nat.rec (motive := fun _ => dH) (fun _ _ _ _ => none) (fun _ ih => bGc r n ih) m
noncomputable def cNn (r : RT) (n : Nat) : dH := tN r n n
noncomputable def aXh (r : RT) (n : Nat) (x0 x1 x4 : DV) (h0 : Hp) : aK :=
 cNn r n x0 x1 x4 h0
noncomputable def bPb (r : RT) (n : Nat) (x0 x1 : DV) (h0 : Hp) : aK :=
 aXh r n x0 x1 (.b true) h0
noncomputable def aZi (r : RT) (n : Nat) (x0 x1 x44 : DV) (h0 : Hp) : aK :=
 aU x44 (
 bnd (r 180 [x0] h0) fun v1 h1 =>
 bnd (dD 1 v1 h1) fun v2 h2 =>
 bnd (aO x1 h2) fun v3 h3 =>
 bnd (aB 1 v3 h3) fun v4 h4 =>
 bnd (aD 1 v4 v2 h4) fun _ h5 =>
 bnd (aO x1 (resv 1 h5)) fun v6 h6 =>
 bnd (aB 3 v6 h6) fun v7 h7 =>
 bnd (aA v7 h7) fun v8 h8 =>
 bnd (aO x1 h8) fun v9 h9 =>
 bnd (aB 3 v9 h9) fun v10 h10 =>
 bnd (aA v10 h10) fun v11 h11 =>
 bnd (r 184 [x0, (aC 1), v11] h11) fun v12 h12 =>
 cnd (aW (aA v7 h12) v8 && true) (
 bnd (aS (bD 0 h5.next) [(.s [])] 1 [(0, 1, v12)] h12) fun v13 h13 =>
 bnd (aX 1 16 v8 v13 h13) fun v14 h14 =>
 bnd (aO x1 h14) fun v15 h15 =>
 bnd (aB 3 v15 h15) fun v16 h16 =>
 bnd (aD 1 v16 v14 h16) fun v17 h17 =>
 some (.t [], h17))) (
  bPb r n x0 x1 h0)
noncomputable def bYb (r : RT) (n : Nat) (x0 x1 : DV) (h0 : Hp) : aK :=
 bnd (r 179 [x0, (aC 3), (.s [])] h0) fun v1 h1 =>
  aZi r n x0 x1 v1 h1
noncomputable def aSn (r : RT) (n : Nat) (x0 x1 x35 : DV) (h0 : Hp) : aK :=
 aU x35 (
 bnd (r 180 [x0] h0) fun v1 h1 =>
 bnd (dD 1 v1 h1) fun v2 h2 =>
 bnd (aO x1 h2) fun v3 h3 =>
 bnd (aB 1 v3 h3) fun v4 h4 =>
 bnd (aD 1 v4 v2 h4) fun _ h5 =>
 some (.t [], h5)) (
  bYb r n x0 x1 h0)
noncomputable def s157 (r : RT) (n : Nat) (x0 x1 : DV) (h0 : Hp) : aK :=
 bnd (r 179 [x0, (aC 1), (.s [])] h0) fun v1 h1 =>
  aSn r n x0 x1 v1 h1
noncomputable abbrev c157 : Code := cf Tryz.f157
noncomputable abbrev aDb : Code := cL c157
noncomputable abbrev aAh : Code := cR aDb
noncomputable abbrev xI : Code := cR aAh
noncomputable abbrev wZ : Code := cR xI
noncomputable abbrev zB : Code := cR wZ
noncomputable abbrev aWr : Code := cR zB
noncomputable abbrev aGv : Code := cL aWr
noncomputable abbrev oG : Code := cL aGv
noncomputable abbrev cLb : Code := cL zB
noncomputable abbrev cNs : Code := cL wZ
noncomputable abbrev bCv : Code := cL xI
noncomputable abbrev cUk : Code := cL aAh
noncomputable abbrev bFx : Code := cL aDb
noncomputable abbrev r157 : K := aR CF Tryz.f157
noncomputable def D157 (r : RT) (n : Nat) (c : Code) (X : Nat → K) (k : K) : K := aM CF r 68 n c X r157 k
theorem cBl (kk6 : dH) : D157 r n oG (xs (xs x0 0 r157) 1 r157) (K3 kk6 0 1 4) = (K3 (bGc r n kk6) 0 1 4) :=
 (by kernel_rfl)
theorem cFe (m : Nat) : aL (fun kk => D157 r n oG (xs (xs x0 0 r157) 1 r157) kk) m = (K3 (tN r n m) 0 1 4) := by
 induction m with
 | zero => exact (by kernel_rfl : aL (fun kk => D157 r n oG (xs (xs x0 0 r157) 1 r157) kk) 0 = (K3 (tN r n 0) 0 1 4))
 | succ m ih =>
  refine (by kernel_rfl : aL (fun kk => D157 r n oG (xs (xs x0 0 r157) 1 r157) kk) (m + 1) = D157 r n oG (xs (xs x0 0 r157) 1 r157) (aL (fun kk => D157 r n oG (xs (xs x0 0 r157) 1 r157) kk) m)).trans ?_
  rw [ih]
  exact (cBl r n (tN r n m)).trans (by kernel_rfl)
theorem cYl : D157 r n aGv (xs (xs x0 0 r157) 1 r157) r157 = (K3 (cNn r n) 0 1 4) :=
 (by kernel_rfl : D157 r n aGv (xs (xs x0 0 r157) 1 r157) r157 = aL (fun kk => D157 r n oG (xs (xs x0 0 r157) 1 r157) kk) n).trans ((cFe r n n).trans (by kernel_rfl))
theorem cZr : D157 r n aWr (xs x0 0 r157) r157 = (K3 (aXh r n) 0 1 4) :=
 (by kernel_rfl : D157 r n aWr (xs x0 0 r157) r157 = D157 r n aGv (xs (xs x0 0 r157) 1 r157) r157).trans
 ((cYl r n).trans (by kernel_rfl))
theorem cKz : D157 r n zB (xs x0 0 r157) r157 = D157 r n cLb (xs x0 0 r157) (K3 (aXh r n) 0 1 4) :=
 congrArg (fun k => D157 r n cLb (xs x0 0 r157) k) (cZr r n)
theorem cSv : D157 r n zB (xs x0 0 r157) r157 = (K2 (bPb r n) 0 1) :=
 (cKz r n).trans
 ((by kernel_rfl))
theorem dDi : D157 r n wZ (xs x0 0 r157) r157 = (K3 (aZi r n) 0 1 44) :=
 (by kernel_rfl : D157 r n wZ (xs x0 0 r157) r157 = (fun (env : aV) (h : Hp) => aU (opr env (cC wZ)) (D157 r n cNs (xs x0 0 r157) r157 env h) (D157 r n zB (xs x0 0 r157) r157 env h))).trans (by rw [cSv r n]; kernel_rfl)
theorem cIy : D157 r n xI (xs x0 0 r157) r157 = D157 r n bCv (xs x0 0 r157) (K3 (aZi r n) 0 1 44) :=
 congrArg (fun k => D157 r n bCv (xs x0 0 r157) k) (dDi r n)
theorem cXc : D157 r n xI (xs x0 0 r157) r157 = (K2 (bYb r n) 0 1) :=
 (cIy r n).trans
 ((by kernel_rfl))
theorem dDw : D157 r n aAh (xs x0 0 r157) r157 = (K3 (aSn r n) 0 1 35) :=
 (by kernel_rfl : D157 r n aAh (xs x0 0 r157) r157 = (fun (env : aV) (h : Hp) => aU (opr env (cC aAh)) (D157 r n cUk (xs x0 0 r157) r157 env h) (D157 r n xI (xs x0 0 r157) r157 env h))).trans (by rw [cXc r n]; kernel_rfl)
theorem dIm : D157 r n aDb (xs x0 0 r157) r157 = D157 r n bFx (xs x0 0 r157) (K3 (aSn r n) 0 1 35) :=
 congrArg (fun k => D157 r n bFx (xs x0 0 r157) k) (dDw r n)
theorem eFk : D157 r n c157 x0 r157 = (K2 (s157 r n) 0 1) :=
 (by kernel_rfl : D157 r n c157 x0 r157 = D157 r n aDb (xs x0 0 r157) r157).trans
 ((dIm r n).trans
 ((by kernel_rfl)))
theorem dRc : aE CF r n 157 args h = s157 r n (aP args 0) (aP args 1) h :=
 (by kernel_rfl : aE CF r n 157 args h = D157 r n c157 x0 r157 (aJ args) h).trans ((congrFun (congrFun (eFk r n) (aJ args)) h).trans (by kernel_rfl))
noncomputable def aJq (r : RT) (n : Nat) (x0 x3 : DV) (h0 : Hp) : aK :=
 bnd (r 156 [x0, (aC 3), (.s [62])] h0) fun v1 h1 =>
 bnd (aB 2 x3 h1) fun v2 h2 =>
 bnd (aA v2 h2) fun v3 h3 =>
 some (v3, h3)
noncomputable def xF (r : RT) (n : Nat) (x0 x3 : DV) (h0 : Hp) : aK :=
 bnd (aB 2 x3 h0) fun v1 h1 =>
 bnd (aA v1 h1) fun v2 h2 =>
 bnd (aF .gtr v2 (aC 255) h2) fun v3 h3 =>
 aU v3 (
 bnd (aH 4 x3 h3) fun v4 h4 =>
 bnd (r 182 [x0, v4, (aC 2)] h4) fun v5 h5 =>
  aJq r n x0 x3 h5) (
  aJq r n x0 x3 h3)
noncomputable def aJv (r : RT) (n : Nat) (x0 : DV) (h0 : Hp) : aK :=
 bnd (r 156 [x0, (aC 4), (.s [])] h0) fun v1 h1 =>
 bnd (bA [(aC 0), (.s []), (aC 0), (aC 0)] h1) fun v2 h2 =>
 bnd (aD 4 v2 v1 h2) fun _ h3 =>
  xF r n x0 v2 h3
noncomputable def aYf (r : RT) (n : Nat) (x0 : DV) (h0 : Hp) : aK :=
 bnd (r 156 [x0, (aC 2), (.s [112, 114, 105, 109, 105, 116, 105, 118, 101, 58])] h0) fun v1 h1 =>
  aJv r n x0 h1
noncomputable def aSa (r : RT) (n : Nat) (x0 : DV) (h0 : Hp) : aK :=
 bnd (r 180 [x0] h0) fun v1 h1 =>
  aYf r n x0 h1
noncomputable def aYe (r : RT) (n : Nat) (x0 : DV) (h0 : Hp) : aK :=
 bnd (r 179 [x0, (aC 3), (.s [60])] h0) fun v1 h1 =>
 bnd (eO .not v1 h1) fun v2 h2 =>
 aU v2 (
 some ((aC 0), h2)) (
  aSa r n x0 h2)
noncomputable def s158 (r : RT) (n : Nat) (x0 : DV) (h0 : Hp) : aK :=
 aYe r n x0 h0
noncomputable abbrev c158 : Code := cf Tryz.f158
noncomputable abbrev aKf : Code := cR c158
noncomputable abbrev aPd : Code := cR aKf
noncomputable abbrev aLt : Code := cR aPd
noncomputable abbrev aLq : Code := cR aLt
noncomputable abbrev aMf : Code := cR aLq
noncomputable abbrev dNb : Code := cR aMf
noncomputable abbrev cDs : Code := cL aMf
noncomputable abbrev aZg : Code := cL aLq
noncomputable abbrev cGd : Code := cL aLt
noncomputable abbrev bDe : Code := cL aPd
noncomputable abbrev bCz : Code := cL aKf
noncomputable abbrev bFm : Code := cL c158
noncomputable abbrev r158 : K := aR CF Tryz.f158
noncomputable def D158 (r : RT) (n : Nat) (c : Code) (X : Nat → K) (k : K) : K := aM CF r 23 n c X r158 k
theorem dDe : D158 r n dNb x0 r158 = (K2 (aJq r n) 0 3) :=
 (by kernel_rfl)
theorem bUe : D158 r n aMf x0 r158 = D158 r n cDs x0 (K2 (aJq r n) 0 3) :=
 congrArg (fun k => D158 r n cDs x0 k) (dDe r n)
theorem cVv : D158 r n aMf x0 r158 = (K2 (xF r n) 0 3) :=
 (bUe r n).trans
 ((by kernel_rfl))
theorem cJq : D158 r n aLq x0 r158 = D158 r n aZg x0 (K2 (xF r n) 0 3) :=
 congrArg (fun k => D158 r n aZg x0 k) (cVv r n)
theorem bPc (q0 : eN) : D158 r n aZg x0 (K2 q0 0 3) = fun (env : aV) (h : Hp) =>
 bnd (r 156 [(env 0), (aC 4), (.s [])] h) fun v1 h1 =>
 bnd (bA [(aC 0), (.s []), (aC 0), (aC 0)] h1) fun v2 h2 =>
 bnd (aD 4 v2 v1 h2) fun _ h3 =>
  q0 (env 0) v2 h3 := by kernel_rfl
theorem bJx : (fun (env : aV) (h : Hp) =>
 bnd (r 156 [(env 0), (aC 4), (.s [])] h) fun v1 h1 =>
 bnd (bA [(aC 0), (.s []), (aC 0), (aC 0)] h1) fun v2 h2 =>
 bnd (aD 4 v2 v1 h2) fun _ h3 =>
  xF r n (env 0) v2 h3) = (K1 (aJv r n) 0) := by kernel_rfl
theorem dDn : D158 r n aLq x0 r158 = (K1 (aJv r n) 0) :=
 (cJq r n).trans
 ((bPc r n (xF r n)).trans (bJx r n))
theorem cKj : D158 r n aLt x0 r158 = D158 r n cGd x0 (K1 (aJv r n) 0) :=
 congrArg (fun k => D158 r n cGd x0 k) (dDn r n)
theorem dDb : D158 r n aLt x0 r158 = (K1 (aYf r n) 0) :=
 (cKj r n).trans
 ((by kernel_rfl))
theorem cIg : D158 r n aPd x0 r158 = D158 r n bDe x0 (K1 (aYf r n) 0) :=
 congrArg (fun k => D158 r n bDe x0 k) (dDb r n)
theorem dEf : D158 r n aPd x0 r158 = (K1 (aSa r n) 0) :=
 (cIg r n).trans
 ((by kernel_rfl))
theorem bZx : D158 r n aKf x0 r158 = D158 r n bCz x0 (K1 (aSa r n) 0) :=
 congrArg (fun k => D158 r n bCz x0 k) (dEf r n)
theorem dDg : D158 r n aKf x0 r158 = (K1 (aYe r n) 0) :=
 (bZx r n).trans
 ((by kernel_rfl))
theorem dQd : D158 r n c158 x0 r158 = D158 r n bFm x0 (K1 (aYe r n) 0) :=
 congrArg (fun k => D158 r n bFm x0 k) (dDg r n)
theorem eAq : D158 r n c158 x0 r158 = (K1 (s158 r n) 0) :=
 (dQd r n).trans
 ((by kernel_rfl))
theorem dPz : aE CF r n 158 args h = s158 r n (aP args 0) h :=
 (by kernel_rfl : aE CF r n 158 args h = D158 r n c158 x0 r158 (aJ args) h).trans ((congrFun (congrFun (eAq r n) (aJ args)) h).trans (by kernel_rfl))
noncomputable def aIo (r : RT) (n : Nat) (x0 : DV) (h0 : Hp) : aK :=
 bnd (r 187 [x0, (aC 20), (aC 0), (aC 0)] h0) fun v1 h1 =>
 some (.t [], h1)
noncomputable def cP (r : RT) (n : Nat) (x0 x2 : DV) (h0 : Hp) : aK :=
 aU x2 (
 bnd (r 187 [x0, (aC 2), (aC 0), (aC 0)] h0) fun v1 h1 =>
  aIo r n x0 h1) (
 bnd (r 187 [x0, (aC 1), (aC 0), (aC 0)] h0) fun v2 h2 =>
  aIo r n x0 h2)
noncomputable def lM (r : RT) (n : Nat) (kk8 : dA) (x0 x2 x6 x22 x23 x24 : DV) (h0 : Hp) : aK :=
 bnd (aF .add x24 (aC 1) h0) fun v1 h1 =>
  kk8 x0 x2 x6 x22 x23 v1 h1
noncomputable def vP (r : RT) (n : Nat) (kk8 : dA) (x0 x2 x6 x22 x23 x24 : DV) (h0 : Hp) : aK :=
 bnd (aI 6 x22 x24 h0) fun v1 h1 =>
 bnd (aH 6 v1 h1) fun v2 h2 =>
 bnd (bA cQ h2) fun v3 h3 =>
 bnd (aD 6 v3 v2 h3) fun _ h4 =>
 bnd (aH 6 v3 h4) fun v5 h5 =>
 bnd (r 186 [x0, v5] h5) fun v6 h6 =>
 bnd (aF .eql x24 x6 h6) fun v7 h7 =>
 bnd (gD v7 true (aB 0 v3 h7) h7) fun v8 h8 =>
 bnd (gD v7 true (aA v8 h8) h8) fun v9 h9 =>
 bnd (gD v7 true (aF .eql v9 (aC 10) h9) h9) fun v10 h10 =>
 bnd (aQ v7 v10 (.b false) h10) fun v11 h11 =>
 aU v11 (
 some (.t [], h11)) (
 bnd (aF .eql x24 x6 h11) fun v12 h12 =>
 bnd (gD v12 true (some (x2, h12)) h12) fun v13 h13 =>
 bnd (aQ v12 v13 (.b false) h13) fun v14 h14 =>
 aU v14 (
 bnd (r 187 [x0, (aC 20), (aC 0), (aC 0)] h14) fun v15 h15 =>
 some (.t [], h15)) (
 bnd (aB 0 v3 h14) fun v16 h16 =>
 bnd (aA v16 h16) fun v17 h17 =>
 bnd (aF .eql v17 (aC 10) h17) fun v18 h18 =>
 aU v18 (
    lM r n kk8 x0 x2 x6 x22 x23 x24 h18) (
 bnd (r 187 [x0, (aC 12), (aC 0), (aC 0)] h18) fun v19 h19 =>
    lM r n kk8 x0 x2 x6 x22 x23 x24 h19)))
noncomputable def aUt (r : RT) (n : Nat) (kk8 : dA) (x0 x2 x6 x22 x23 x24 x25 : DV) (h0 : Hp) : aK :=
 aU x25 (
  vP r n kk8 x0 x2 x6 x22 x23 x24 h0) (
  cP r n x0 x2 h0)
noncomputable def bCe (r : RT) (n : Nat) (kk8 : dA) (x0 x2 x6 x22 x23 x24 : DV) (h0 : Hp) : aK :=
 bnd (aF .lss x24 x23 h0) fun v1 h1 =>
  aUt r n kk8 x0 x2 x6 x22 x23 x24 v1 h1
noncomputable def tI (r : RT) (n : Nat) (m : Nat) : dA :=
 Nat.rec (motive := fun _ => dA) (fun _ _ _ _ _ _ _ => none) (fun _ ih => bCe r n ih) m
noncomputable def bXy (r : RT) (n : Nat) : dA := tI r n n
noncomputable def aVa (r : RT) (n : Nat) (x0 x2 x6 x22 x23 x24 : DV) (h0 : Hp) : aK :=
 bXy r n x0 x2 x6 x22 x23 x24 h0
noncomputable def aUk (r : RT) (n : Nat) (x0 x2 x4 x6 : DV) (h0 : Hp) : aK :=
 bnd (aB 5 x4 h0) fun v1 h1 =>
 bnd (aA v1 h1) fun v2 h2 =>
 bnd (bK v2 h2) fun v3 h3 =>
  aVa r n x0 x2 x6 v2 v3 (aC 0) h3
noncomputable def aVr (r : RT) (n : Nat) (x0 x2 x4 : DV) (h0 : Hp) : aK :=
 bnd (aB 5 x4 h0) fun v1 h1 =>
 bnd (aA v1 h1) fun v2 h2 =>
 bnd (bK v2 h2) fun v3 h3 =>
 bnd (aF .sub v3 (aC 1) h3) fun v4 h4 =>
  aUk r n x0 x2 x4 v4 h4
noncomputable def aTb (r : RT) (n : Nat) (x0 x2 x4 : DV) (h0 : Hp) : aK :=
 bnd (aB 4 x4 h0) fun v1 h1 =>
 bnd (aA v1 h1) fun v2 h2 =>
 bnd (r 185 [x0, v2, (.b false)] h2) fun v3 h3 =>
  aVr r n x0 x2 x4 h3
noncomputable def zG (r : RT) (n : Nat) (x0 x2 x4 : DV) (h0 : Hp) : aK :=
 bnd (aB 3 x4 h0) fun v1 h1 =>
 bnd (aA v1 h1) fun v2 h2 =>
 bnd (r 185 [x0, v2, (.b true)] h2) fun v3 h3 =>
  aTb r n x0 x2 x4 h3
noncomputable def s159 (r : RT) (n : Nat) (x0 x1 x2 : DV) (h0 : Hp) : aK :=
 bnd (bM x1 h0) fun v1 h1 =>
  zG r n x0 x2 v1 h1
noncomputable abbrev c159 : Code := cf Tryz.f159
noncomputable abbrev aHo : Code := cR c159
noncomputable abbrev aCs : Code := cR aHo
noncomputable abbrev aOs : Code := cR aCs
noncomputable abbrev aFz : Code := cR aOs
noncomputable abbrev aOa : Code := cR aFz
noncomputable abbrev dJl : Code := cR aOa
noncomputable abbrev cFy : Code := cL aOa
noncomputable abbrev wT : Code := cL aFz
noncomputable abbrev aYw : Code := cR wT
noncomputable abbrev vG : Code := cL aYw
noncomputable abbrev iP : Code := cL vG
noncomputable abbrev uT : Code := cR iP
noncomputable abbrev wA : Code := cR uT
noncomputable abbrev dAv : Code := cR wA
noncomputable abbrev aDy : Code := cL wA
noncomputable abbrev bAl : Code := cL uT
noncomputable abbrev bEc : Code := cL iP
noncomputable abbrev bAo : Code := cL wT
noncomputable abbrev bHh : Code := cL aOs
noncomputable abbrev bCi : Code := cL aCs
noncomputable abbrev bGe : Code := cL aHo
noncomputable abbrev aDk : Code := cL c159
noncomputable abbrev r159 : K := aR CF Tryz.f159
noncomputable def D159 (r : RT) (n : Nat) (c : Code) (X : Nat → K) (k : K) : K := aM CF r 64 n c X r159 k
theorem cYh : D159 r n dJl x0 r159 = (K1 (aIo r n) 0) :=
 (by kernel_rfl)
theorem bPv : D159 r n aOa x0 r159 = D159 r n cFy x0 (K1 (aIo r n) 0) :=
 congrArg (fun k => D159 r n cFy x0 k) (cYh r n)
theorem dEa : D159 r n aOa x0 r159 = (K2 (cP r n) 0 2) :=
 (bPv r n).trans
 ((by kernel_rfl))
theorem bVr (kk8 : dA) : D159 r n dAv (xs x0 0 (K2 (cP r n) 0 2)) (K6 kk8 0 2 6 22 23 24) = (K6 (lM r n kk8) 0 2 6 22 23 24) :=
 (by kernel_rfl)
theorem bLf (kk8 : dA) : D159 r n wA (xs x0 0 (K2 (cP r n) 0 2)) (K6 kk8 0 2 6 22 23 24) = D159 r n aDy (xs x0 0 (K2 (cP r n) 0 2)) (K6 (lM r n kk8) 0 2 6 22 23 24) :=
 congrArg (fun k => D159 r n aDy (xs x0 0 (K2 (cP r n) 0 2)) k) (bVr r n kk8)
theorem bKb (kk8 : dA) (q0 : dA) (q1 : eN) : D159 r n aDy (xs x0 0 (K2 q1 0 2)) (K6 q0 0 2 6 22 23 24) = fun (env : aV) (h : Hp) =>
 bnd (aI 6 (env 22) (env 24) h) fun v1 h1 =>
 bnd (aH 6 v1 h1) fun v2 h2 =>
 bnd (bA cQ h2) fun v3 h3 =>
 bnd (aD 6 v3 v2 h3) fun _ h4 =>
 bnd (aH 6 v3 h4) fun v5 h5 =>
 bnd (r 186 [(env 0), v5] h5) fun v6 h6 =>
 bnd (aF .eql (env 24) (env 6) h6) fun v7 h7 =>
 bnd (gD v7 true (aB 0 v3 h7) h7) fun v8 h8 =>
 bnd (gD v7 true (aA v8 h8) h8) fun v9 h9 =>
 bnd (gD v7 true (aF .eql v9 (aC 10) h9) h9) fun v10 h10 =>
 bnd (aQ v7 v10 (.b false) h10) fun v11 h11 =>
 aU v11 (
 some (.t [], h11)) (
 bnd (aF .eql (env 24) (env 6) h11) fun v12 h12 =>
 bnd (gD v12 true (some ((env 2), h12)) h12) fun v13 h13 =>
 bnd (aQ v12 v13 (.b false) h13) fun v14 h14 =>
 aU v14 (
 bnd (r 187 [(env 0), (aC 20), (aC 0), (aC 0)] h14) fun v15 h15 =>
 some (.t [], h15)) (
 bnd (aB 0 v3 h14) fun v16 h16 =>
 bnd (aA v16 h16) fun v17 h17 =>
 bnd (aF .eql v17 (aC 10) h17) fun v18 h18 =>
 aU v18 (
     q0 (env 0) (env 2) (env 6) (env 22) (env 23) (env 24) h18) (
 bnd (r 187 [(env 0), (aC 12), (aC 0), (aC 0)] h18) fun v19 h19 =>
     q0 (env 0) (env 2) (env 6) (env 22) (env 23) (env 24) h19))) := by kernel_rfl
theorem aSw (kk8 : dA) : (fun (env : aV) (h : Hp) =>
 bnd (aI 6 (env 22) (env 24) h) fun v1 h1 =>
 bnd (aH 6 v1 h1) fun v2 h2 =>
 bnd (bA cQ h2) fun v3 h3 =>
 bnd (aD 6 v3 v2 h3) fun _ h4 =>
 bnd (aH 6 v3 h4) fun v5 h5 =>
 bnd (r 186 [(env 0), v5] h5) fun v6 h6 =>
 bnd (aF .eql (env 24) (env 6) h6) fun v7 h7 =>
 bnd (gD v7 true (aB 0 v3 h7) h7) fun v8 h8 =>
 bnd (gD v7 true (aA v8 h8) h8) fun v9 h9 =>
 bnd (gD v7 true (aF .eql v9 (aC 10) h9) h9) fun v10 h10 =>
 bnd (aQ v7 v10 (.b false) h10) fun v11 h11 =>
 aU v11 (
 some (.t [], h11)) (
 bnd (aF .eql (env 24) (env 6) h11) fun v12 h12 =>
 bnd (gD v12 true (some ((env 2), h12)) h12) fun v13 h13 =>
 bnd (aQ v12 v13 (.b false) h13) fun v14 h14 =>
 aU v14 (
 bnd (r 187 [(env 0), (aC 20), (aC 0), (aC 0)] h14) fun v15 h15 =>
 some (.t [], h15)) (
 bnd (aB 0 v3 h14) fun v16 h16 =>
 bnd (aA v16 h16) fun v17 h17 =>
 bnd (aF .eql v17 (aC 10) h17) fun v18 h18 =>
 aU v18 (
     lM r n kk8 (env 0) (env 2) (env 6) (env 22) (env 23) (env 24) h18) (
 bnd (r 187 [(env 0), (aC 12), (aC 0), (aC 0)] h18) fun v19 h19 =>
     lM r n kk8 (env 0) (env 2) (env 6) (env 22) (env 23) (env 24) h19)))) = (K6 (vP r n kk8) 0 2 6 22 23 24) := by kernel_rfl
theorem bZl (kk8 : dA) : D159 r n wA (xs x0 0 (K2 (cP r n) 0 2)) (K6 kk8 0 2 6 22 23 24) = (K6 (vP r n kk8) 0 2 6 22 23 24) :=
 (bLf r n kk8).trans
 ((bKb r n kk8 (lM r n kk8) (cP r n)).trans (aSw r n kk8))
theorem bXu (kk8 : dA) : D159 r n uT (xs x0 0 (K2 (cP r n) 0 2)) (K6 kk8 0 2 6 22 23 24) = D159 r n bAl (xs x0 0 (K2 (cP r n) 0 2)) (K6 (vP r n kk8) 0 2 6 22 23 24) :=
 congrArg (fun k => D159 r n bAl (xs x0 0 (K2 (cP r n) 0 2)) k) (bZl r n kk8)
theorem dCk (kk8 : dA) : D159 r n uT (xs x0 0 (K2 (cP r n) 0 2)) (K6 kk8 0 2 6 22 23 24) = (K7 (aUt r n kk8) 0 2 6 22 23 24 25) :=
 (bXu r n kk8).trans
 ((by kernel_rfl))
theorem cBx (kk8 : dA) : D159 r n iP (xs x0 0 (K2 (cP r n) 0 2)) (K6 kk8 0 2 6 22 23 24) = D159 r n bEc (xs x0 0 (K2 (cP r n) 0 2)) (K7 (aUt r n kk8) 0 2 6 22 23 24 25) :=
 congrArg (fun k => D159 r n bEc (xs x0 0 (K2 (cP r n) 0 2)) k) (dCk r n kk8)
theorem bVx (kk8 : dA) : D159 r n iP (xs x0 0 (K2 (cP r n) 0 2)) (K6 kk8 0 2 6 22 23 24) = (K6 (bCe r n kk8) 0 2 6 22 23 24) :=
 (cBx r n kk8).trans
 ((by kernel_rfl))
theorem cLt (m : Nat) : aL (fun kk => D159 r n iP (xs x0 0 (K2 (cP r n) 0 2)) kk) m = (K6 (tI r n m) 0 2 6 22 23 24) := by
 induction m with
 | zero => exact (by kernel_rfl : aL (fun kk => D159 r n iP (xs x0 0 (K2 (cP r n) 0 2)) kk) 0 = (K6 (tI r n 0) 0 2 6 22 23 24))
 | succ m ih =>
  refine (by kernel_rfl : aL (fun kk => D159 r n iP (xs x0 0 (K2 (cP r n) 0 2)) kk) (m + 1) = D159 r n iP (xs x0 0 (K2 (cP r n) 0 2)) (aL (fun kk => D159 r n iP (xs x0 0 (K2 (cP r n) 0 2)) kk) m)).trans ?_
  rw [ih]
  exact (bVx r n (tI r n m)).trans (by kernel_rfl)
theorem dCm : D159 r n vG (xs x0 0 (K2 (cP r n) 0 2)) (K2 (cP r n) 0 2) = (K6 (bXy r n) 0 2 6 22 23 24) :=
 (by kernel_rfl : D159 r n vG (xs x0 0 (K2 (cP r n) 0 2)) (K2 (cP r n) 0 2) = aL (fun kk => D159 r n iP (xs x0 0 (K2 (cP r n) 0 2)) kk) n).trans ((cLt r n n).trans (by kernel_rfl))
theorem dCi : D159 r n aYw x0 (K2 (cP r n) 0 2) = (K6 (aVa r n) 0 2 6 22 23 24) :=
 (by kernel_rfl : D159 r n aYw x0 (K2 (cP r n) 0 2) = D159 r n vG (xs x0 0 (K2 (cP r n) 0 2)) (K2 (cP r n) 0 2)).trans
 ((dCm r n).trans (by kernel_rfl))
theorem bTz : D159 r n aFz x0 r159 = D159 r n wT x0 (K2 (cP r n) 0 2) :=
 congrArg (fun k => D159 r n wT x0 k) (dEa r n)
theorem bVa : D159 r n wT x0 (K2 (cP r n) 0 2) = D159 r n bAo x0 (K6 (aVa r n) 0 2 6 22 23 24) :=
 congrArg (fun k => D159 r n bAo x0 k) (dCi r n)
theorem cPj : D159 r n aFz x0 r159 = (K4 (aUk r n) 0 2 4 6) :=
 (bTz r n).trans
 ((bVa r n).trans
 ((by kernel_rfl)))
theorem bVw : D159 r n aOs x0 r159 = D159 r n bHh x0 (K4 (aUk r n) 0 2 4 6) :=
 congrArg (fun k => D159 r n bHh x0 k) (cPj r n)
theorem cQx : D159 r n aOs x0 r159 = (K3 (aVr r n) 0 2 4) :=
 (bVw r n).trans
 ((by kernel_rfl))
theorem bTc : D159 r n aCs x0 r159 = D159 r n bCi x0 (K3 (aVr r n) 0 2 4) :=
 congrArg (fun k => D159 r n bCi x0 k) (cQx r n)
theorem cVj : D159 r n aCs x0 r159 = (K3 (aTb r n) 0 2 4) :=
 (bTc r n).trans
 ((by kernel_rfl))
theorem bJn : D159 r n aHo x0 r159 = D159 r n bGe x0 (K3 (aTb r n) 0 2 4) :=
 congrArg (fun k => D159 r n bGe x0 k) (cVj r n)
theorem cTc : D159 r n aHo x0 r159 = (K3 (zG r n) 0 2 4) :=
 (bJn r n).trans
 ((by kernel_rfl))
theorem dFh : D159 r n c159 x0 r159 = D159 r n aDk x0 (K3 (zG r n) 0 2 4) :=
 congrArg (fun k => D159 r n aDk x0 k) (cTc r n)
theorem cUe (q0 : dH) : D159 r n aDk x0 (K3 q0 0 2 4) = fun (env : aV) (h : Hp) =>
 bnd (bM (env 1) h) fun v1 h1 =>
  q0 (env 0) (env 2) v1 h1 := by kernel_rfl
theorem cJb : (fun (env : aV) (h : Hp) =>
 bnd (bM (env 1) h) fun v1 h1 =>
  zG r n (env 0) (env 2) v1 h1) = (K3 (s159 r n) 0 1 2) := by kernel_rfl
theorem eFm : D159 r n c159 x0 r159 = (K3 (s159 r n) 0 1 2) :=
 (dFh r n).trans
 ((cUe r n (zG r n)).trans (cJb r n))
theorem dUe : aE CF r n 159 args h = s159 r n (aP args 0) (aP args 1) (aP args 2) h :=
 (by kernel_rfl : aE CF r n 159 args h = D159 r n c159 x0 r159 (aJ args) h).trans ((congrFun (congrFun (eFm r n) (aJ args)) h).trans (by kernel_rfl))
noncomputable def dZ (r : RT) (n : Nat) (x4 : DV) (h0 : Hp) : aK :=
 some (.t [x4, (aC 0)], h0)
noncomputable def aGj (r : RT) (n : Nat) (kk6 : dB) (x4 x10 x11 x12 : DV) (h0 : Hp) : aK :=
 bnd (aF .lss x12 x11 h0) fun v1 h1 =>
 aU v1 (
 bnd (aI 3 x10 x12 h1) fun v2 h2 =>
 bnd (aH 3 v2 h2) fun v3 h3 =>
 bnd (bA [(aC 0), (aC 0), (aC 0)] h3) fun v4 h4 =>
 bnd (aD 3 v4 v3 h4) fun _ h5 =>
 bnd (aH 3 v4 h5) fun v6 h6 =>
 bnd (r 145 [v6] h6) fun v7 h7 =>
 bnd (eO .not v7 h7) fun v8 h8 =>
 aU v8 (
 some (.t [.l0, (aC 19)], h8)) (
 bnd (aB 0 v4 h8) fun v9 h9 =>
 bnd (aA v9 h9) fun v10 h10 =>
 bnd (eM .u8 v10 h10) fun v11 h11 =>
 bnd (aB 1 v4 h11) fun v12 h12 =>
 bnd (aA v12 h12) fun v13 h13 =>
 bnd (eM .u8 v13 h13) fun v14 h14 =>
 bnd (aB 2 v4 h14) fun v15 h15 =>
 bnd (aA v15 h15) fun v16 h16 =>
 bnd (eM .u8 v16 h16) fun v17 h17 =>
 bnd (aN [(.i .u8 (Int.ofNat 0)), (.i .u8 (Int.ofNat 0)), (.i .u8 (Int.ofNat 0))] 3 [(0, 1, v11), (1, 1, v14), (2, 1, v17)] h17) fun v18 h18 =>
 bnd (aX 1 1 x4 v18 h18) fun v19 h19 =>
 bnd (aF .add x12 (aC 1) h19) fun v20 h20 =>
    kk6 v19 x10 x11 v20 h20)) (
      dZ r n x4 h1)
noncomputable def tR (r : RT) (n : Nat) (m : Nat) : dB :=
 Nat.rec (motive := fun _ => dB) (fun _ _ _ _ _ => none) (fun _ ih => aGj r n ih) m
noncomputable def bQf (r : RT) (n : Nat) : dB := tR r n n
noncomputable def aZj (r : RT) (n : Nat) (x4 x10 x11 x12 : DV) (h0 : Hp) : aK :=
 bQf r n x4 x10 x11 x12 h0
noncomputable def aXa (r : RT) (n : Nat) (x0 x4 : DV) (h0 : Hp) : aK :=
 bnd (bK x0 h0) fun v1 h1 =>
  aZj r n x4 x0 v1 (aC 0) h1
noncomputable def aVk (r : RT) (n : Nat) (x0 : DV) (h0 : Hp) : aK :=
 aXa r n x0 .l0 h0
noncomputable def aXy (r : RT) (n : Nat) (x0 : DV) (h0 : Hp) : aK :=
 bnd (bK x0 h0) fun v1 h1 =>
 bnd (aF .gtr v1 (aC 400) h1) fun v2 h2 =>
 aU v2 (
 some (.t [.l0, (aC 19)], h2)) (
  aVk r n x0 h2)
noncomputable def s160 (r : RT) (n : Nat) (x0 : DV) (h0 : Hp) : aK :=
 aXy r n x0 h0
noncomputable abbrev c160 : Code := cf Tryz.f160
noncomputable abbrev aCm : Code := cR c160
noncomputable abbrev aMy : Code := cR aCm
noncomputable abbrev aHa : Code := cR aMy
noncomputable abbrev dVb : Code := cR aHa
noncomputable abbrev zN : Code := cL aHa
noncomputable abbrev aXs : Code := cR zN
noncomputable abbrev aNi : Code := cL aXs
noncomputable abbrev mS : Code := cL aNi
noncomputable abbrev bXn : Code := cL zN
noncomputable abbrev bDt : Code := cL aMy
noncomputable abbrev bEx : Code := cL aCm
noncomputable abbrev bIz : Code := cL c160
noncomputable abbrev r160 : K := aR CF Tryz.f160
noncomputable def D160 (r : RT) (n : Nat) (c : Code) (X : Nat → K) (k : K) : K := aM CF r 33 n c X r160 k
theorem cXg : D160 r n dVb x0 r160 = (K1 (dZ r n) 4) :=
 (by kernel_rfl)
theorem bYu (kk6 : dB) (q0 : TT1) : D160 r n mS (xs x0 0 (K1 q0 4)) (K4 kk6 4 10 11 12) = fun (env : aV) (h : Hp) =>
 bnd (aF .lss (env 12) (env 11) h) fun v1 h1 =>
 aU v1 (
 bnd (aI 3 (env 10) (env 12) h1) fun v2 h2 =>
 bnd (aH 3 v2 h2) fun v3 h3 =>
 bnd (bA [(aC 0), (aC 0), (aC 0)] h3) fun v4 h4 =>
 bnd (aD 3 v4 v3 h4) fun _ h5 =>
 bnd (aH 3 v4 h5) fun v6 h6 =>
 bnd (r 145 [v6] h6) fun v7 h7 =>
 bnd (eO .not v7 h7) fun v8 h8 =>
 aU v8 (
 some (.t [.l0, (aC 19)], h8)) (
 bnd (aB 0 v4 h8) fun v9 h9 =>
 bnd (aA v9 h9) fun v10 h10 =>
 bnd (eM .u8 v10 h10) fun v11 h11 =>
 bnd (aB 1 v4 h11) fun v12 h12 =>
 bnd (aA v12 h12) fun v13 h13 =>
 bnd (eM .u8 v13 h13) fun v14 h14 =>
 bnd (aB 2 v4 h14) fun v15 h15 =>
 bnd (aA v15 h15) fun v16 h16 =>
 bnd (eM .u8 v16 h16) fun v17 h17 =>
 bnd (aN [(.i .u8 (Int.ofNat 0)), (.i .u8 (Int.ofNat 0)), (.i .u8 (Int.ofNat 0))] 3 [(0, 1, v11), (1, 1, v14), (2, 1, v17)] h17) fun v18 h18 =>
 bnd (aX 1 1 (env 4) v18 h18) fun v19 h19 =>
 bnd (aF .add (env 12) (aC 1) h19) fun v20 h20 =>
    kk6 v19 (env 10) (env 11) v20 h20)) (
      q0 (env 4) h1) := by kernel_rfl
theorem bMk (kk6 : dB) : (fun (env : aV) (h : Hp) =>
 bnd (aF .lss (env 12) (env 11) h) fun v1 h1 =>
 aU v1 (
 bnd (aI 3 (env 10) (env 12) h1) fun v2 h2 =>
 bnd (aH 3 v2 h2) fun v3 h3 =>
 bnd (bA [(aC 0), (aC 0), (aC 0)] h3) fun v4 h4 =>
 bnd (aD 3 v4 v3 h4) fun _ h5 =>
 bnd (aH 3 v4 h5) fun v6 h6 =>
 bnd (r 145 [v6] h6) fun v7 h7 =>
 bnd (eO .not v7 h7) fun v8 h8 =>
 aU v8 (
 some (.t [.l0, (aC 19)], h8)) (
 bnd (aB 0 v4 h8) fun v9 h9 =>
 bnd (aA v9 h9) fun v10 h10 =>
 bnd (eM .u8 v10 h10) fun v11 h11 =>
 bnd (aB 1 v4 h11) fun v12 h12 =>
 bnd (aA v12 h12) fun v13 h13 =>
 bnd (eM .u8 v13 h13) fun v14 h14 =>
 bnd (aB 2 v4 h14) fun v15 h15 =>
 bnd (aA v15 h15) fun v16 h16 =>
 bnd (eM .u8 v16 h16) fun v17 h17 =>
 bnd (aN [(.i .u8 (Int.ofNat 0)), (.i .u8 (Int.ofNat 0)), (.i .u8 (Int.ofNat 0))] 3 [(0, 1, v11), (1, 1, v14), (2, 1, v17)] h17) fun v18 h18 =>
 bnd (aX 1 1 (env 4) v18 h18) fun v19 h19 =>
 bnd (aF .add (env 12) (aC 1) h19) fun v20 h20 =>
    kk6 v19 (env 10) (env 11) v20 h20)) (
      dZ r n (env 4) h1)) = (K4 (aGj r n kk6) 4 10 11 12) := by kernel_rfl
theorem cGx (kk6 : dB) : D160 r n mS (xs x0 0 (K1 (dZ r n) 4)) (K4 kk6 4 10 11 12) = (K4 (aGj r n kk6) 4 10 11 12) :=
 (bYu r n kk6 (dZ r n)).trans (bMk r n kk6)
theorem cDp (m : Nat) : aL (fun kk => D160 r n mS (xs x0 0 (K1 (dZ r n) 4)) kk) m = (K4 (tR r n m) 4 10 11 12) := by
 induction m with
 | zero => exact (by kernel_rfl : aL (fun kk => D160 r n mS (xs x0 0 (K1 (dZ r n) 4)) kk) 0 = (K4 (tR r n 0) 4 10 11 12))
 | succ m ih =>
  refine (by kernel_rfl : aL (fun kk => D160 r n mS (xs x0 0 (K1 (dZ r n) 4)) kk) (m + 1) = D160 r n mS (xs x0 0 (K1 (dZ r n) 4)) (aL (fun kk => D160 r n mS (xs x0 0 (K1 (dZ r n) 4)) kk) m)).trans ?_
  rw [ih]
  exact (cGx r n (tR r n m)).trans (by kernel_rfl)
theorem dCv : D160 r n aNi (xs x0 0 (K1 (dZ r n) 4)) (K1 (dZ r n) 4) = (K4 (bQf r n) 4 10 11 12) :=
 (by kernel_rfl : D160 r n aNi (xs x0 0 (K1 (dZ r n) 4)) (K1 (dZ r n) 4) = aL (fun kk => D160 r n mS (xs x0 0 (K1 (dZ r n) 4)) kk) n).trans ((cDp r n n).trans (by kernel_rfl))
theorem dEk : D160 r n aXs x0 (K1 (dZ r n) 4) = (K4 (aZj r n) 4 10 11 12) :=
 (by kernel_rfl : D160 r n aXs x0 (K1 (dZ r n) 4) = D160 r n aNi (xs x0 0 (K1 (dZ r n) 4)) (K1 (dZ r n) 4)).trans
 ((dCv r n).trans (by kernel_rfl))
theorem cHp : D160 r n aHa x0 r160 = D160 r n zN x0 (K1 (dZ r n) 4) :=
 congrArg (fun k => D160 r n zN x0 k) (cXg r n)
theorem bYy : D160 r n zN x0 (K1 (dZ r n) 4) = D160 r n bXn x0 (K4 (aZj r n) 4 10 11 12) :=
 congrArg (fun k => D160 r n bXn x0 k) (dEk r n)
theorem dEq : D160 r n aHa x0 r160 = (K2 (aXa r n) 0 4) :=
 (cHp r n).trans
 ((bYy r n).trans
 ((by kernel_rfl)))
theorem cFv : D160 r n aMy x0 r160 = D160 r n bDt x0 (K2 (aXa r n) 0 4) :=
 congrArg (fun k => D160 r n bDt x0 k) (dEq r n)
theorem dCd : D160 r n aMy x0 r160 = (K1 (aVk r n) 0) :=
 (cFv r n).trans
 ((by kernel_rfl))
theorem cMo : D160 r n aCm x0 r160 = D160 r n bEx x0 (K1 (aVk r n) 0) :=
 congrArg (fun k => D160 r n bEx x0 k) (dCd r n)
theorem cZl : D160 r n aCm x0 r160 = (K1 (aXy r n) 0) :=
 (cMo r n).trans
 ((by kernel_rfl))
theorem dRa : D160 r n c160 x0 r160 = D160 r n bIz x0 (K1 (aXy r n) 0) :=
 congrArg (fun k => D160 r n bIz x0 k) (cZl r n)
theorem eIt : D160 r n c160 x0 r160 = (K1 (s160 r n) 0) :=
 (dRa r n).trans
 ((by kernel_rfl))
theorem dPg : aE CF r n 160 args h = s160 r n (aP args 0) h :=
 (by kernel_rfl : aE CF r n 160 args h = D160 r n c160 x0 r160 (aJ args) h).trans ((congrFun (congrFun (eIt r n) (aJ args)) h).trans (by kernel_rfl))
noncomputable def fK (r : RT) (n : Nat) (x0 x6 : DV) (h0 : Hp) : aK :=
 bnd (r 36 [x0, x6] h0) fun v1 h1 =>
 bnd (aG 0 v1 h1) fun v2 h2 =>
 bnd (aG 1 v1 h2) fun v3 h3 =>
 some (.t [v2, v3], h3)
noncomputable def aIn (r : RT) (n : Nat) (kk4 : dH) (x0 x1 x6 : DV) (h0 : Hp) : aK :=
 bnd (bK x1 h0) fun v1 h1 =>
 bnd (aF .gtr v1 (aC 0) h1) fun v2 h2 =>
 aU v2 (
 bnd (bK x1 h2) fun v3 h3 =>
 bnd (aVp v3 (aC 240) h3) fun v4 h4 =>
 bnd (r 34 [x0, (aC 10)] h4) fun v5 h5 =>
 bnd (cT 1 x1 none (some v4) h5) fun v6 h6 =>
 cnd (aW (cT 1 x1 none (some v4) h4) v6 && true) (
 bnd (gY v6 h6) fun v7 h7 =>
 cnd (aW (gY v6 h4) v7 && true) (
 bnd (r 43 [x0, v5, v7] h7) fun v8 h8 =>
 bnd (aG 0 v8 h8) fun v9 h9 =>
 bnd (aG 1 v8 h9) fun v10 h10 =>
 bnd (aF .neq v10 (aC 0) h10) fun v11 h11 =>
 aU v11 (
 some (.t [(aC 0), v10], h11)) (
 bnd (aS (bD 0 h11.next) [(aC 0)] 1 [(0, 1, v9)] (resv 1 h11)) fun v12 h12 =>
 bnd (aX 1 8 x6 v12 h12) fun v13 h13 =>
 bnd (cT 1 x1 (some v4) none h13) fun v14 h14 =>
 cnd (aW (cT 1 x1 (some v4) none (resv 1 h11)) v14 && true) (
    kk4 x0 v14 v13 h14))))) (
      fK r n x0 x6 h2)
noncomputable def tT (r : RT) (n : Nat) (m : Nat) : dH :=
 Nat.rec (motive := fun _ => dH) (fun _ _ _ _ => none) (fun _ ih => aIn r n ih) m
noncomputable def bVp (r : RT) (n : Nat) : dH := tT r n n
noncomputable def aWc (r : RT) (n : Nat) (x0 x1 x6 : DV) (h0 : Hp) : aK :=
 bVp r n x0 x1 x6 h0
noncomputable def aZt (r : RT) (n : Nat) (x0 x1 : DV) (h0 : Hp) : aK :=
 aWc r n x0 x1 .l0 h0
noncomputable def s161 (r : RT) (n : Nat) (x0 x1 : DV) (h0 : Hp) : aK :=
 aZt r n x0 x1 h0
noncomputable abbrev c161 : Code := cf Tryz.f161
noncomputable abbrev aMp : Code := cR c161
noncomputable abbrev aJz : Code := cR aMp
noncomputable abbrev dNg : Code := cR aJz
noncomputable abbrev aLy : Code := cL aJz
noncomputable abbrev aIp : Code := cL aLy
noncomputable abbrev mH : Code := cL aIp
noncomputable abbrev bQh : Code := cL aMp
noncomputable abbrev bZn : Code := cL c161
noncomputable abbrev r161 : K := aR CF Tryz.f161
noncomputable def D161 (r : RT) (n : Nat) (c : Code) (X : Nat → K) (k : K) : K := aM CF r 42 n c X r161 k
theorem cYs : D161 r n dNg x0 r161 = (K2 (fK r n) 0 6) :=
 (by kernel_rfl)
theorem bQq (kk4 : dH) (q0 : eN) : D161 r n mH (xs x0 0 (K2 q0 0 6)) (K3 kk4 0 1 6) = fun (env : aV) (h : Hp) =>
 bnd (bK (env 1) h) fun v1 h1 =>
 bnd (aF .gtr v1 (aC 0) h1) fun v2 h2 =>
 aU v2 (
 bnd (bK (env 1) h2) fun v3 h3 =>
 bnd (aVp v3 (aC 240) h3) fun v4 h4 =>
 bnd (r 34 [(env 0), (aC 10)] h4) fun v5 h5 =>
 bnd (cT 1 (env 1) none (some v4) h5) fun v6 h6 =>
 cnd (aW (cT 1 (env 1) none (some v4) h4) v6 && true) (
 bnd (gY v6 h6) fun v7 h7 =>
 cnd (aW (gY v6 h4) v7 && true) (
 bnd (r 43 [(env 0), v5, v7] h7) fun v8 h8 =>
 bnd (aG 0 v8 h8) fun v9 h9 =>
 bnd (aG 1 v8 h9) fun v10 h10 =>
 bnd (aF .neq v10 (aC 0) h10) fun v11 h11 =>
 aU v11 (
 some (.t [(aC 0), v10], h11)) (
 bnd (aS (bD 0 h11.next) [(aC 0)] 1 [(0, 1, v9)] (resv 1 h11)) fun v12 h12 =>
 bnd (aX 1 8 (env 6) v12 h12) fun v13 h13 =>
 bnd (cT 1 (env 1) (some v4) none h13) fun v14 h14 =>
 cnd (aW (cT 1 (env 1) (some v4) none (resv 1 h11)) v14 && true) (
    kk4 (env 0) v14 v13 h14))))) (
      q0 (env 0) (env 6) h2) := by kernel_rfl
theorem bKl (kk4 : dH) : (fun (env : aV) (h : Hp) =>
 bnd (bK (env 1) h) fun v1 h1 =>
 bnd (aF .gtr v1 (aC 0) h1) fun v2 h2 =>
 aU v2 (
 bnd (bK (env 1) h2) fun v3 h3 =>
 bnd (aVp v3 (aC 240) h3) fun v4 h4 =>
 bnd (r 34 [(env 0), (aC 10)] h4) fun v5 h5 =>
 bnd (cT 1 (env 1) none (some v4) h5) fun v6 h6 =>
 cnd (aW (cT 1 (env 1) none (some v4) h4) v6 && true) (
 bnd (gY v6 h6) fun v7 h7 =>
 cnd (aW (gY v6 h4) v7 && true) (
 bnd (r 43 [(env 0), v5, v7] h7) fun v8 h8 =>
 bnd (aG 0 v8 h8) fun v9 h9 =>
 bnd (aG 1 v8 h9) fun v10 h10 =>
 bnd (aF .neq v10 (aC 0) h10) fun v11 h11 =>
 aU v11 (
 some (.t [(aC 0), v10], h11)) (
 bnd (aS (bD 0 h11.next) [(aC 0)] 1 [(0, 1, v9)] (resv 1 h11)) fun v12 h12 =>
 bnd (aX 1 8 (env 6) v12 h12) fun v13 h13 =>
 bnd (cT 1 (env 1) (some v4) none h13) fun v14 h14 =>
 cnd (aW (cT 1 (env 1) (some v4) none (resv 1 h11)) v14 && true) (
    kk4 (env 0) v14 v13 h14))))) (
      fK r n (env 0) (env 6) h2)) = (K3 (aIn r n kk4) 0 1 6) := by kernel_rfl
theorem cLw (kk4 : dH) : D161 r n mH (xs x0 0 (K2 (fK r n) 0 6)) (K3 kk4 0 1 6) = (K3 (aIn r n kk4) 0 1 6) :=
 (bQq r n kk4 (fK r n)).trans (bKl r n kk4)
theorem cBt (m : Nat) : aL (fun kk => D161 r n mH (xs x0 0 (K2 (fK r n) 0 6)) kk) m = (K3 (tT r n m) 0 1 6) := by
 induction m with
 | zero => exact (by kernel_rfl : aL (fun kk => D161 r n mH (xs x0 0 (K2 (fK r n) 0 6)) kk) 0 = (K3 (tT r n 0) 0 1 6))
 | succ m ih =>
  refine (by kernel_rfl : aL (fun kk => D161 r n mH (xs x0 0 (K2 (fK r n) 0 6)) kk) (m + 1) = D161 r n mH (xs x0 0 (K2 (fK r n) 0 6)) (aL (fun kk => D161 r n mH (xs x0 0 (K2 (fK r n) 0 6)) kk) m)).trans ?_
  rw [ih]
  exact (cLw r n (tT r n m)).trans (by kernel_rfl)
theorem cPt : D161 r n aIp (xs x0 0 (K2 (fK r n) 0 6)) (K2 (fK r n) 0 6) = (K3 (bVp r n) 0 1 6) :=
 (by kernel_rfl : D161 r n aIp (xs x0 0 (K2 (fK r n) 0 6)) (K2 (fK r n) 0 6) = aL (fun kk => D161 r n mH (xs x0 0 (K2 (fK r n) 0 6)) kk) n).trans ((cBt r n n).trans (by kernel_rfl))
theorem cGr : D161 r n aJz x0 r161 = D161 r n aLy x0 (K2 (fK r n) 0 6) :=
 congrArg (fun k => D161 r n aLy x0 k) (cYs r n)
theorem cPe : D161 r n aJz x0 r161 = (K3 (aWc r n) 0 1 6) :=
 (cGr r n).trans
 ((by kernel_rfl : D161 r n aLy x0 (K2 (fK r n) 0 6) = D161 r n aIp (xs x0 0 (K2 (fK r n) 0 6)) (K2 (fK r n) 0 6)).trans
 ((cPt r n).trans (by kernel_rfl)))
theorem cNf : D161 r n aMp x0 r161 = D161 r n bQh x0 (K3 (aWc r n) 0 1 6) :=
 congrArg (fun k => D161 r n bQh x0 k) (cPe r n)
theorem dFm : D161 r n aMp x0 r161 = (K2 (aZt r n) 0 1) :=
 (cNf r n).trans
 ((by kernel_rfl))
theorem dVi : D161 r n c161 x0 r161 = D161 r n bZn x0 (K2 (aZt r n) 0 1) :=
 congrArg (fun k => D161 r n bZn x0 k) (dFm r n)
theorem dYl : D161 r n c161 x0 r161 = (K2 (s161 r n) 0 1) :=
 (dVi r n).trans
 ((by kernel_rfl))
theorem dVs : aE CF r n 161 args h = s161 r n (aP args 0) (aP args 1) h :=
 (by kernel_rfl : aE CF r n 161 args h = D161 r n c161 x0 r161 (aJ args) h).trans ((congrFun (congrFun (dYl r n) (aJ args)) h).trans (by kernel_rfl))
end Go.Dd

