/- A part of the proof: Q11 Q12 Q13 Q14 Qt HK: each text has a comment of its own. -/
import Derived.Test.YtjfmbeinhhdapaaGreatDoorPE2
set_option linter.unusedVariables false
set_option linter.unusedSimpArgs false
set_option linter.constructorNameAsVariable false
set_option maxRecDepth 100000
noncomputable section
namespace Go.Dd
open Go.Proofs
variable (r : RT) (n : Nat) (args : List DV) (h : Hp)
def bS (r : RT) (n : Nat) (x6 x9 : DV) (h0 : Hp) : aH :=
 bnd (aA x6 h0) fun v1 h1 =>
 bnd (aA x9 h1) fun v2 h2 =>
 some (.t [v1,v2],h2)
def xA (r : RT) (n : Nat) (kk9 : gU) (x2 x3 x6 x7 x9 x10 x11 x14 : DV) (h0 : Hp) : aH :=
 bnd (aD .add x11 (aN 1) h0) fun v1 h1 =>
 bnd (aA x3 h1) fun v2 h2 =>
 bnd (aE 1 v2 x11 h2) fun v3 h3 =>
 bnd (aA v3 h3) fun v4 h4 =>
 bnd (jY CF r x10 [v1,v4,x14] h4) fun v5 h5 =>
  kk9 x2 x3 x6 x7 x9 x10 h5
def aEx (r : RT) (n : Nat) (kk9 : gU) (x2 x3 x6 x7 x9 x10 x11 x12 x13 x14 : DV) (h0 : Hp) : aH :=
 bnd (aB 0 x12 h0) fun v1 h1 =>
 bnd (aA v1 h1) fun v2 h2 =>
 bnd (aD .eql v2 (aN 19) h2) fun v3 h3 =>
 aT v3 (
 bnd (aD .neq x13 (aN 1) h3) fun v4 h4 =>
 bnd (gD v4 false (aA x3 h4) h4) fun v5 h5 =>
 bnd (gD v4 false (some (x11,h5)) h5) fun v6 h6 =>
 bnd (gD v4 false (aE 1 v5 v6 h6) h6) fun v7 h7 =>
 bnd (gD v4 false (aA v7 h7) h7) fun v8 h8 =>
 bnd (gD v4 false (aD .lss v8 (aN 0) h8) h8) fun v9 h9 =>
 bnd (aP v4 (.b true) v9 h9) fun v10 h10 =>
 aT v10 (
 some (.t [.l0,(.b false)],h10)) (
   kk9 x2 x3 x6 x7 x9 x10 h10)) (
 bnd (aD .eql v2 (aN 20) h3) fun v11 h11 =>
 aT v11 (
   kk9 x2 x3 x6 x7 x9 x10 h11) (
 bnd (aD .eql v2 (aN 16) h11) fun v12 h12 =>
 aT v12 (
 bnd (aK 3 x12 h12) fun v13 h13 =>
 bnd (r 384 [v13] h13) fun v14 h14 =>
 bnd (aA x3 h14) fun v15 h15 =>
 cnd (bJ (aA x3 h12) v15 && true) (
 bnd (aE 1 v15 x11 h15) fun v16 h16 =>
 bnd (aA v16 h16) fun v17 h17 =>
 cnd (bJ (aA v16 h12) v17 && true) (
 bnd (jY CF r x10 [v14,v17,x14] h17) fun v18 h18 =>
    kk9 x2 x3 x6 x7 x9 x10 h18))) (
 bnd (aD .eql v2 (aN 17) h12) fun v19 h19 =>
 aT v19 (
 bnd (aK 3 x12 h19) fun v20 h20 =>
 bnd (r 384 [v20] h20) fun v21 h21 =>
 bnd (aA x3 h21) fun v22 h22 =>
 cnd (bJ (aA x3 h19) v22 && true) (
 bnd (aE 1 v22 x11 h22) fun v23 h23 =>
 bnd (aA v23 h23) fun v24 h24 =>
 cnd (bJ (aA v23 h19) v24 && true) (
 bnd (jY CF r x10 [v21,v24,x14] h24) fun v25 h25 =>
     xA r n kk9 x2 x3 x6 x7 x9 x10 x11 x14 h25))) (
     xA r n kk9 x2 x3 x6 x7 x9 x10 x11 x14 h19))))
def aEy (r : RT) (n : Nat) (kk9 : gU) (x2 x3 x6 x7 x9 x10 x11 x12 x13 x14 : DV) (h0 : Hp) : aH :=
 bnd (aK 3 x12 h0) fun v1 h1 =>
 bnd (r 442 [v1] h1) fun v2 h2 =>
 bnd (aD .lss x13 v2 h2) fun v3 h3 =>
 bnd (gD v3 false (some (x14,h3)) h3) fun v4 h4 =>
 bnd (gD v3 false (aD .gtr v4 (aN 24) h4) h4) fun v5 h5 =>
 bnd (aP v3 (.b true) v5 h5) fun v6 h6 =>
 aT v6 (
 some (.t [.l0,(.b false)],h6)) (
  aEx r n kk9 x2 x3 x6 x7 x9 x10 x11 x12 x13 x14 h6)
def aLa (r : RT) (n : Nat) (kk9 : gU) (x2 x3 x6 x7 x9 x10 x11 x12 x13 : DV) (h0 : Hp) : aH :=
 bnd (aK 3 x12 h0) fun v1 h1 =>
 bnd (r 441 [v1] h1) fun v2 h2 =>
 bnd (aD .add x13 v2 h2) fun v3 h3 =>
  aEy r n kk9 x2 x3 x6 x7 x9 x10 x11 x12 x13 v3 h3
def aHa (r : RT) (n : Nat) (kk9 : gU) (x2 x3 x6 x7 x9 x10 x11 : DV) (h0 : Hp) : aH :=
 bnd (aA x2 (resv 1 h0)) fun v1 h1 =>
 bnd (aE 3 v1 x11 h1) fun v2 h2 =>
 bnd (aK 3 v2 h2) fun v3 h3 =>
 bnd (aA x6 h3) fun v4 h4 =>
 bnd (aE 1 v4 x11 h4) fun v5 h5 =>
 bnd (aA v5 h5) fun v6 h6 =>
 bnd (mW (cW 0 h0.next) [(aN 0),(aN 0),(aN 0)] h6) fun v7 h7 =>
 bnd (aG 3 v7 v3 h7) fun v8 h8 =>
 cnd (bJ (aA v5 h8) v6 && (bJ (aA x6 h8) v4 && true)) (
  aLa r n kk9 x2 x3 x6 x7 x9 x10 x11 v7 v6 h8)
def aLm (r : RT) (n : Nat) (kk9 : gU) (x2 x3 x6 x7 x9 x10 x11 : DV) (h0 : Hp) : aH :=
 bnd (aA x7 h0) fun v1 h1 =>
 bnd (aA x7 h1) fun v2 h2 =>
 bnd (cB v2 h2) fun v3 h3 =>
 bnd (aD .sub v3 (aN 1) h3) fun v4 h4 =>
 bnd (dF 1 v1 none (some v4) h4) fun v5 h5 =>
 bnd (aG 1 x7 v5 h5) fun _ h6 =>
  aHa r n kk9 x2 x3 x6 x7 x9 x10 x11 h6
def aKu (r : RT) (n : Nat) (kk9 : gU) (x2 x3 x6 x7 x9 x10 : DV) (h0 : Hp) : aH :=
 bnd (aA x7 h0) fun v1 h1 =>
 bnd (aA x7 h1) fun v2 h2 =>
 bnd (cB v2 h2) fun v3 h3 =>
 bnd (aD .sub v3 (aN 1) h3) fun v4 h4 =>
 bnd (aE 1 v1 v4 h4) fun v5 h5 =>
 bnd (aA v5 h5) fun v6 h6 =>
  aLm r n kk9 x2 x3 x6 x7 x9 x10 v6 h6
def bAt (r : RT) (n : Nat) (kk9 : gU) (x2 x3 x6 x7 x9 x10 : DV) (h0 : Hp) : aH :=
 bnd (aA x7 h0) fun v1 h1 =>
 bnd (cB v1 h1) fun v2 h2 =>
 bnd (aD .gtr v2 (aN 0) h2) fun v3 h3 =>
 bnd (gD v3 true (aA x9 h3) h3) fun v4 h4 =>
 bnd (aP v3 v4 (.b false) h4) fun v5 h5 =>
 aT v5 (
   aKu r n kk9 x2 x3 x6 x7 x9 x10 h5) (
   bS r n x6 x9 h5)
def xI (r : RT) (n : Nat) (m : Nat) : gU :=
 Nat.rec (motive:=fun _=>gU) (fun _ _ _ _ _ _ _=>none) (fun _ ih=>bAt r n ih) m
def cAj (r : RT) (n : Nat) : gU:=xI r n n
def aQl (r : RT) (n : Nat) (x2 x3 x6 x7 x9 x10 : DV) (h0 : Hp) : aH :=
 cAj r n x2 x3 x6 x7 x9 x10 h0
def aQh (r : RT) (n : Nat) (x2 x3 x6 x7 x9 x10 : DV) (h0 : Hp) : aH :=
 aQl r n x2 x3 x6 x7 x9 x10 h0
def aAk (r : RT) (n : Nat) (x2 x3 x6 x7 x9 : DV) (h0 : Hp) : aH :=
 aQh r n x2 x3 x6 x7 x9 (.f 440 [] [x2,x3,x6,x9,x7]) h0
def dC (r : RT) (n : Nat) (x2 x3 x6 x7 : DV) (h0 : Hp) : aH :=
 bnd (bY [(.b false)] h0) fun v1 h1 =>
 bnd (aG 1 v1 (.b true) h1) fun _ h2 =>
  aAk r n x2 x3 x6 x7 v1 h2
def mQ (r : RT) (n : Nat) (kk18 : gU) (x2 x3 x6 x7 x19 x20 : DV) (h0 : Hp) : aH :=
 bnd (aD .add x20 (aN 1) h0) fun v1 h1 =>
  kk18 x2 x3 x6 x7 x19 v1 h1
def wB (r : RT) (n : Nat) (kk18 : gU) (x2 x3 x6 x7 x19 x20 : DV) (h0 : Hp) : aH :=
 bnd (aA x6 h0) fun v1 h1 =>
 bnd (aE 1 v1 x20 h1) fun v2 h2 =>
 bnd (aG 1 v2 (.i .i64 (Int.negSucc 0)) h2) fun _ h3 =>
 bnd (aD .eql x20 (aN 0) h3) fun v4 h4 =>
 bnd (gD v4 false (some (x20,h4)) h4) fun v5 h5 =>
 bnd (gD v4 false (aD .gtr v5 (aN 1) h5) h5) fun v6 h6 =>
 bnd (gD v4 false (some (v6,h6)) h6) fun v7 h7 =>
 bnd (gD v7 true (aA x2 h7) h7) fun v8 h8 =>
 bnd (gD v7 true (some (x20,h8)) h8) fun v9 h9 =>
 bnd (gD v7 true (aD .sub v9 (aN 2) h9) h9) fun v10 h10 =>
 bnd (gD v7 true (aE 3 v8 v10 h10) h10) fun v11 h11 =>
 bnd (gD v7 true (aB 0 v11 h11) h11) fun v12 h12 =>
 bnd (gD v7 true (aA v12 h12) h12) fun v13 h13 =>
 bnd (gD v7 true (aD .eql v13 (aN 18) h13) h13) fun v14 h14 =>
 bnd (gD v4 false (aP v7 v14 (.b false) h14) h14) fun v15 h15 =>
 bnd (gD v4 false (some (v15,h15)) h15) fun v16 h16 =>
 bnd (gD v16 true (aA x3 h16) h16) fun v17 h17 =>
 bnd (gD v16 true (some (x20,h17)) h17) fun v18 h18 =>
 bnd (gD v16 true (aE 1 v17 v18 h18) h18) fun v19 h19 =>
 bnd (gD v16 true (aA v19 h19) h19) fun v20 h20 =>
 bnd (gD v16 true (some (x20,h20)) h20) fun v21 h21 =>
 bnd (gD v16 true (aD .sub v21 (aN 2) h21) h21) fun v22 h22 =>
 bnd (gD v16 true (aD .eql v20 v22 h22) h22) fun v23 h23 =>
 bnd (gD v4 false (aP v16 v23 (.b false) h23) h23) fun v24 h24 =>
 bnd (aP v4 (.b true) v24 h24) fun v25 h25 =>
 aT v25 (
 bnd (aA x6 h25) fun v26 h26 =>
 bnd (aE 1 v26 x20 h26) fun v27 h27 =>
 bnd (aG 1 v27 (aN 0) h27) fun _ h28 =>
 bnd (aA x7 h28) fun v29 h29 =>
 bnd (aO [(aN 0)] 1 [(0,1,x20)] h29) fun v30 h30 =>
 bnd (bB 1 8 v29 v30 h30) fun v31 h31 =>
 bnd (aG 1 x7 v31 h31) fun _ h32 =>
  mQ r n kk18 x2 x3 x6 x7 x19 x20 h32) (
  mQ r n kk18 x2 x3 x6 x7 x19 x20 h25)
def aGy (r : RT) (n : Nat) (kk18 : gU) (x2 x3 x6 x7 x19 x20 x21 : DV) (h0 : Hp) : aH :=
 aT x21 (
  wB r n kk18 x2 x3 x6 x7 x19 x20 h0) (
  dC r n x2 x3 x6 x7 h0)
def aNg (r : RT) (n : Nat) (kk18 : gU) (x2 x3 x6 x7 x19 x20 : DV) (h0 : Hp) : aH :=
 bnd (aD .lss x20 x19 h0) fun v1 h1 =>
  aGy r n kk18 x2 x3 x6 x7 x19 x20 v1 h1
def sG (r : RT) (n : Nat) (m : Nat) : gU :=
 Nat.rec (motive:=fun _=>gU) (fun _ _ _ _ _ _ _=>none) (fun _ ih=>aNg r n ih) m
def bCu (r : RT) (n : Nat) : gU:=sG r n n
def aJw (r : RT) (n : Nat) (x2 x3 x6 x7 x19 x20 : DV) (h0 : Hp) : aH :=
 bCu r n x2 x3 x6 x7 x19 x20 h0
def yT (r : RT) (n : Nat) (x2 x3 x6 x7 : DV) (h0 : Hp) : aH :=
 bnd (aA x6 h0) fun v1 h1 =>
 bnd (cB v1 h1) fun v2 h2 =>
  aJw r n x2 x3 x6 x7 v2 (aN 0) h2
def tE (r : RT) (n : Nat) (x2 x3 x6 : DV) (h0 : Hp) : aH :=
 bnd (bY [.l0] h0) fun v1 h1 =>
  yT r n x2 x3 x6 v1 h1
def tV (r : RT) (n : Nat) (x2 x3 : DV) (h0 : Hp) : aH :=
 bnd (aA x2 h0) fun v1 h1 =>
 bnd (cB v1 h1) fun v2 h2 =>
 bnd (bU 1 8 [(aN 0)] v2 v2 h2) fun v3 h3 =>
 bnd (bY [.l0] h3) fun v4 h4 =>
 bnd (aG 1 v4 v3 h4) fun _ h5 =>
  tE r n x2 x3 v4 h5
def s367 (r : RT) (n : Nat) (x0 x1 : DV) (h0 : Hp) : aH :=
 bnd (dA x0 h0) fun v1 h1 =>
 bnd (dA x1 h1) fun v2 h2 =>
  tV r n v1 v2 h2
abbrev c367 : Code:=cf Tryz.f367
abbrev aUv : Code:=cR c367
abbrev aHw : Code:=cL aUv
abbrev aKt : Code:=cR aHw
abbrev aFb : Code:=cR aKt
abbrev aFv : Code:=cR aFb
abbrev aJf : Code:=cR aFv
abbrev aIf : Code:=cR aJf
abbrev aHg : Code:=cR aIf
abbrev dEa : Code:=cR aHg
abbrev wY : Code:=cL aHg
abbrev wJ : Code:=cL wY
abbrev jE : Code:=cL wJ
abbrev aFl : Code:=cR jE
abbrev xG : Code:=cL aFl
abbrev xP : Code:=cR xG
abbrev vU : Code:=cR xP
abbrev vY : Code:=cR vU
abbrev wT : Code:=cR vY
abbrev wF : Code:=cR wT
abbrev cEx : Code:=cR wF
abbrev bDj : Code:=cL wF
abbrev bBg : Code:=cL wT
abbrev bDo : Code:=cL vY
abbrev aYp : Code:=cL vU
abbrev bDp : Code:=cL xP
abbrev bAr : Code:=cL xG
abbrev aXl : Code:=cL jE
abbrev bBf : Code:=cL aIf
abbrev aWp : Code:=cL aJf
abbrev aJc : Code:=cL aFv
abbrev sC : Code:=cL aFb
abbrev aGd : Code:=cR sC
abbrev xC : Code:=cL aGd
abbrev jG : Code:=cL xC
abbrev wA : Code:=cR jG
abbrev wX : Code:=cR wA
abbrev cIf : Code:=cR wX
abbrev aFi : Code:=cL wX
abbrev bCe : Code:=cL wA
abbrev aVz : Code:=cL jG
abbrev aXn : Code:=cL sC
abbrev aKw : Code:=cL aKt
abbrev aIz : Code:=cL aHw
abbrev aKh : Code:=cL c367
abbrev r367 : K:=aR CF Tryz.f367
def D367 (r : RT) (n : Nat) (c : Code) (X : Nat → K) (k : K) : K:=aM CF r 144 n c X r367 k
theorem cOg : D367 r n dEa x0 r367 = (K2 (bS r n) 6 9) :=
 (by kernel_rfl)
theorem bOy (kk9 : gU) : D367 r n cEx (xs (xs x0 2 (K2 (bS r n) 6 9)) 3 (K6 kk9 2 3 6 7 9 10)) (K6 kk9 2 3 6 7 9 10) = (K8 (xA r n kk9) 2 3 6 7 9 10 11 14) :=
 (by kernel_rfl)
theorem bHs (kk9 : gU) : D367 r n wF (xs (xs x0 2 (K2 (bS r n) 6 9)) 3 (K6 kk9 2 3 6 7 9 10)) (K6 kk9 2 3 6 7 9 10) = D367 r n bDj (xs (xs x0 2 (K2 (bS r n) 6 9)) 3 (K6 kk9 2 3 6 7 9 10)) (K8 (xA r n kk9) 2 3 6 7 9 10 11 14) :=
 congrArg (fun k=>D367 r n bDj (xs (xs x0 2 (K2 (bS r n) 6 9)) 3 (K6 kk9 2 3 6 7 9 10)) k) (bOy r n kk9)
theorem bNp (kk9 : gU) : D367 r n wF (xs (xs x0 2 (K2 (bS r n) 6 9)) 3 (K6 kk9 2 3 6 7 9 10)) (K6 kk9 2 3 6 7 9 10) = (K10 (aEx r n kk9) 2 3 6 7 9 10 11 12 13 14) :=
 (bHs r n kk9).trans
 ((by kernel_rfl))
theorem bEn (kk9 : gU) : D367 r n wT (xs (xs x0 2 (K2 (bS r n) 6 9)) 3 (K6 kk9 2 3 6 7 9 10)) (K6 kk9 2 3 6 7 9 10) = D367 r n bBg (xs (xs x0 2 (K2 (bS r n) 6 9)) 3 (K6 kk9 2 3 6 7 9 10)) (K10 (aEx r n kk9) 2 3 6 7 9 10 11 12 13 14) :=
 congrArg (fun k=>D367 r n bBg (xs (xs x0 2 (K2 (bS r n) 6 9)) 3 (K6 kk9 2 3 6 7 9 10)) k) (bNp r n kk9)
theorem bYd (kk9 : gU) : D367 r n wT (xs (xs x0 2 (K2 (bS r n) 6 9)) 3 (K6 kk9 2 3 6 7 9 10)) (K6 kk9 2 3 6 7 9 10) = (K10 (aEy r n kk9) 2 3 6 7 9 10 11 12 13 14) :=
 (bEn r n kk9).trans
 ((by kernel_rfl))
theorem bIn (kk9 : gU) : D367 r n vY (xs (xs x0 2 (K2 (bS r n) 6 9)) 3 (K6 kk9 2 3 6 7 9 10)) (K6 kk9 2 3 6 7 9 10) = D367 r n bDo (xs (xs x0 2 (K2 (bS r n) 6 9)) 3 (K6 kk9 2 3 6 7 9 10)) (K10 (aEy r n kk9) 2 3 6 7 9 10 11 12 13 14) :=
 congrArg (fun k=>D367 r n bDo (xs (xs x0 2 (K2 (bS r n) 6 9)) 3 (K6 kk9 2 3 6 7 9 10)) k) (bYd r n kk9)
theorem bUn (kk9 : gU) : D367 r n vY (xs (xs x0 2 (K2 (bS r n) 6 9)) 3 (K6 kk9 2 3 6 7 9 10)) (K6 kk9 2 3 6 7 9 10) = (K9 (aLa r n kk9) 2 3 6 7 9 10 11 12 13) :=
 (bIn r n kk9).trans
 ((by kernel_rfl))
theorem bGk (kk9 : gU) : D367 r n vU (xs (xs x0 2 (K2 (bS r n) 6 9)) 3 (K6 kk9 2 3 6 7 9 10)) (K6 kk9 2 3 6 7 9 10) = D367 r n aYp (xs (xs x0 2 (K2 (bS r n) 6 9)) 3 (K6 kk9 2 3 6 7 9 10)) (K9 (aLa r n kk9) 2 3 6 7 9 10 11 12 13) :=
 congrArg (fun k=>D367 r n aYp (xs (xs x0 2 (K2 (bS r n) 6 9)) 3 (K6 kk9 2 3 6 7 9 10)) k) (bUn r n kk9)
theorem bKj (kk9 : gU) : D367 r n vU (xs (xs x0 2 (K2 (bS r n) 6 9)) 3 (K6 kk9 2 3 6 7 9 10)) (K6 kk9 2 3 6 7 9 10) = (K7 (aHa r n kk9) 2 3 6 7 9 10 11) :=
 (bGk r n kk9).trans
 ((by kernel_rfl))
theorem bHq (kk9 : gU) : D367 r n xP (xs (xs x0 2 (K2 (bS r n) 6 9)) 3 (K6 kk9 2 3 6 7 9 10)) (K6 kk9 2 3 6 7 9 10) = D367 r n bDp (xs (xs x0 2 (K2 (bS r n) 6 9)) 3 (K6 kk9 2 3 6 7 9 10)) (K7 (aHa r n kk9) 2 3 6 7 9 10 11) :=
 congrArg (fun k=>D367 r n bDp (xs (xs x0 2 (K2 (bS r n) 6 9)) 3 (K6 kk9 2 3 6 7 9 10)) k) (bKj r n kk9)
theorem bXv (kk9 : gU) : D367 r n xP (xs (xs x0 2 (K2 (bS r n) 6 9)) 3 (K6 kk9 2 3 6 7 9 10)) (K6 kk9 2 3 6 7 9 10) = (K7 (aLm r n kk9) 2 3 6 7 9 10 11) :=
 (bHq r n kk9).trans
 ((by kernel_rfl))
theorem bFb (kk9 : gU) : D367 r n xG (xs (xs x0 2 (K2 (bS r n) 6 9)) 3 (K6 kk9 2 3 6 7 9 10)) (K6 kk9 2 3 6 7 9 10) = D367 r n bAr (xs (xs x0 2 (K2 (bS r n) 6 9)) 3 (K6 kk9 2 3 6 7 9 10)) (K7 (aLm r n kk9) 2 3 6 7 9 10 11) :=
 congrArg (fun k=>D367 r n bAr (xs (xs x0 2 (K2 (bS r n) 6 9)) 3 (K6 kk9 2 3 6 7 9 10)) k) (bXv r n kk9)
theorem bUw (kk9 : gU) : D367 r n aFl (xs x0 2 (K2 (bS r n) 6 9)) (K6 kk9 2 3 6 7 9 10) = (K6 (aKu r n kk9) 2 3 6 7 9 10) :=
 (by kernel_rfl : D367 r n aFl (xs x0 2 (K2 (bS r n) 6 9)) (K6 kk9 2 3 6 7 9 10) = D367 r n xG (xs (xs x0 2 (K2 (bS r n) 6 9)) 3 (K6 kk9 2 3 6 7 9 10)) (K6 kk9 2 3 6 7 9 10)).trans
 ((bFb r n kk9).trans
 ((by kernel_rfl)))
theorem cAy (kk9 : gU) : D367 r n jE (xs x0 2 (K2 (bS r n) 6 9)) (K6 kk9 2 3 6 7 9 10) = D367 r n aXl (xs x0 2 (K2 (bS r n) 6 9)) (K6 (aKu r n kk9) 2 3 6 7 9 10) :=
 congrArg (fun k=>D367 r n aXl (xs x0 2 (K2 (bS r n) 6 9)) k) (bUw r n kk9)
theorem bWw (kk9 : gU) : D367 r n jE (xs x0 2 (K2 (bS r n) 6 9)) (K6 kk9 2 3 6 7 9 10) = (K6 (bAt r n kk9) 2 3 6 7 9 10) :=
 (cAy r n kk9).trans
 ((by kernel_rfl))
theorem bOc (m : Nat) : aL (fun kk=>D367 r n jE (xs x0 2 (K2 (bS r n) 6 9)) kk) m = (K6 (xI r n m) 2 3 6 7 9 10):=by
 induction m with
 | zero=>exact (by kernel_rfl : aL (fun kk=>D367 r n jE (xs x0 2 (K2 (bS r n) 6 9)) kk) 0 = (K6 (xI r n 0) 2 3 6 7 9 10))
 | succ m ih =>
  refine (by kernel_rfl : aL (fun kk=>D367 r n jE (xs x0 2 (K2 (bS r n) 6 9)) kk) (m + 1) = D367 r n jE (xs x0 2 (K2 (bS r n) 6 9)) (aL (fun kk=>D367 r n jE (xs x0 2 (K2 (bS r n) 6 9)) kk) m)).trans ?_
  rw [ih]
  exact (bWw r n (xI r n m)).trans (by kernel_rfl)
theorem cGf : D367 r n wJ (xs x0 2 (K2 (bS r n) 6 9)) (K2 (bS r n) 6 9) = (K6 (cAj r n) 2 3 6 7 9 10) :=
 (by kernel_rfl : D367 r n wJ (xs x0 2 (K2 (bS r n) 6 9)) (K2 (bS r n) 6 9) = aL (fun kk=>D367 r n jE (xs x0 2 (K2 (bS r n) 6 9)) kk) n).trans ((bOc r n n).trans (by kernel_rfl))
theorem bQc : D367 r n aHg x0 r367 = D367 r n wY x0 (K2 (bS r n) 6 9) :=
 congrArg (fun k=>D367 r n wY x0 k) (cOg r n)
theorem cEz : D367 r n aHg x0 r367 = (K6 (aQl r n) 2 3 6 7 9 10) :=
 (bQc r n).trans
 ((by kernel_rfl : D367 r n wY x0 (K2 (bS r n) 6 9) = D367 r n wJ (xs x0 2 (K2 (bS r n) 6 9)) (K2 (bS r n) 6 9)).trans
 ((cGf r n).trans (by kernel_rfl)))
theorem bNs : D367 r n aIf x0 r367 = D367 r n bBf x0 (K6 (aQl r n) 2 3 6 7 9 10) :=
 congrArg (fun k=>D367 r n bBf x0 k) (cEz r n)
theorem cNf : D367 r n aIf x0 r367 = (K6 (aQh r n) 2 3 6 7 9 10) :=
 (bNs r n).trans
 ((by kernel_rfl))
theorem bGe : D367 r n aJf x0 r367 = D367 r n aWp x0 (K6 (aQh r n) 2 3 6 7 9 10) :=
 congrArg (fun k=>D367 r n aWp x0 k) (cNf r n)
theorem cCv : D367 r n aJf x0 r367 = (K5 (aAk r n) 2 3 6 7 9) :=
 (bGe r n).trans
 ((by kernel_rfl))
theorem bHp : D367 r n aFv x0 r367 = D367 r n aJc x0 (K5 (aAk r n) 2 3 6 7 9) :=
 congrArg (fun k=>D367 r n aJc x0 k) (cCv r n)
theorem bEv (q0 : dJ) : D367 r n aJc x0 (K5 q0 2 3 6 7 9) = fun (env : bA) (h : Hp) =>
 bnd (bY [(.b false)] h) fun v1 h1 =>
 bnd (aG 1 v1 (.b true) h1) fun _ h2 =>
  q0 (env 2) (env 3) (env 6) (env 7) v1 h2:=by kernel_rfl
theorem aRv : (fun (env : bA) (h : Hp) =>
 bnd (bY [(.b false)] h) fun v1 h1 =>
 bnd (aG 1 v1 (.b true) h1) fun _ h2 =>
  aAk r n (env 2) (env 3) (env 6) (env 7) v1 h2) = (K4 (dC r n) 2 3 6 7):=by kernel_rfl
theorem cQc : D367 r n aFv x0 r367 = (K4 (dC r n) 2 3 6 7) :=
 (bHp r n).trans
 ((bEv r n (aAk r n)).trans (aRv r n))
theorem bYg (kk18 : gU) : D367 r n cIf (xs x0 0 (K4 (dC r n) 2 3 6 7)) (K6 kk18 2 3 6 7 19 20) = (K6 (mQ r n kk18) 2 3 6 7 19 20) :=
 (by kernel_rfl)
theorem aQb (kk18 : gU) : D367 r n wX (xs x0 0 (K4 (dC r n) 2 3 6 7)) (K6 kk18 2 3 6 7 19 20) = D367 r n aFi (xs x0 0 (K4 (dC r n) 2 3 6 7)) (K6 (mQ r n kk18) 2 3 6 7 19 20) :=
 congrArg (fun k=>D367 r n aFi (xs x0 0 (K4 (dC r n) 2 3 6 7)) k) (bYg r n kk18)
theorem aQj (kk18 : gU) (q0 : gU) (q1 : eJ) : D367 r n aFi (xs x0 0 (K4 q1 2 3 6 7)) (K6 q0 2 3 6 7 19 20) = fun (env : bA) (h : Hp) =>
 bnd (aA (env 6) h) fun v1 h1 =>
 bnd (aE 1 v1 (env 20) h1) fun v2 h2 =>
 bnd (aG 1 v2 (.i .i64 (Int.negSucc 0)) h2) fun _ h3 =>
 bnd (aD .eql (env 20) (aN 0) h3) fun v4 h4 =>
 bnd (gD v4 false (some ((env 20),h4)) h4) fun v5 h5 =>
 bnd (gD v4 false (aD .gtr v5 (aN 1) h5) h5) fun v6 h6 =>
 bnd (gD v4 false (some (v6,h6)) h6) fun v7 h7 =>
 bnd (gD v7 true (aA (env 2) h7) h7) fun v8 h8 =>
 bnd (gD v7 true (some ((env 20),h8)) h8) fun v9 h9 =>
 bnd (gD v7 true (aD .sub v9 (aN 2) h9) h9) fun v10 h10 =>
 bnd (gD v7 true (aE 3 v8 v10 h10) h10) fun v11 h11 =>
 bnd (gD v7 true (aB 0 v11 h11) h11) fun v12 h12 =>
 bnd (gD v7 true (aA v12 h12) h12) fun v13 h13 =>
 bnd (gD v7 true (aD .eql v13 (aN 18) h13) h13) fun v14 h14 =>
 bnd (gD v4 false (aP v7 v14 (.b false) h14) h14) fun v15 h15 =>
 bnd (gD v4 false (some (v15,h15)) h15) fun v16 h16 =>
 bnd (gD v16 true (aA (env 3) h16) h16) fun v17 h17 =>
 bnd (gD v16 true (some ((env 20),h17)) h17) fun v18 h18 =>
 bnd (gD v16 true (aE 1 v17 v18 h18) h18) fun v19 h19 =>
 bnd (gD v16 true (aA v19 h19) h19) fun v20 h20 =>
 bnd (gD v16 true (some ((env 20),h20)) h20) fun v21 h21 =>
 bnd (gD v16 true (aD .sub v21 (aN 2) h21) h21) fun v22 h22 =>
 bnd (gD v16 true (aD .eql v20 v22 h22) h22) fun v23 h23 =>
 bnd (gD v4 false (aP v16 v23 (.b false) h23) h23) fun v24 h24 =>
 bnd (aP v4 (.b true) v24 h24) fun v25 h25 =>
 aT v25 (
 bnd (aA (env 6) h25) fun v26 h26 =>
 bnd (aE 1 v26 (env 20) h26) fun v27 h27 =>
 bnd (aG 1 v27 (aN 0) h27) fun _ h28 =>
 bnd (aA (env 7) h28) fun v29 h29 =>
 bnd (aO [(aN 0)] 1 [(0,1,(env 20))] h29) fun v30 h30 =>
 bnd (bB 1 8 v29 v30 h30) fun v31 h31 =>
 bnd (aG 1 (env 7) v31 h31) fun _ h32 =>
      q0 (env 2) (env 3) (env 6) (env 7) (env 19) (env 20) h32) (
      q0 (env 2) (env 3) (env 6) (env 7) (env 19) (env 20) h25):=by kernel_rfl
theorem aMa (kk18 : gU) : (fun (env : bA) (h : Hp) =>
 bnd (aA (env 6) h) fun v1 h1 =>
 bnd (aE 1 v1 (env 20) h1) fun v2 h2 =>
 bnd (aG 1 v2 (.i .i64 (Int.negSucc 0)) h2) fun _ h3 =>
 bnd (aD .eql (env 20) (aN 0) h3) fun v4 h4 =>
 bnd (gD v4 false (some ((env 20),h4)) h4) fun v5 h5 =>
 bnd (gD v4 false (aD .gtr v5 (aN 1) h5) h5) fun v6 h6 =>
 bnd (gD v4 false (some (v6,h6)) h6) fun v7 h7 =>
 bnd (gD v7 true (aA (env 2) h7) h7) fun v8 h8 =>
 bnd (gD v7 true (some ((env 20),h8)) h8) fun v9 h9 =>
 bnd (gD v7 true (aD .sub v9 (aN 2) h9) h9) fun v10 h10 =>
 bnd (gD v7 true (aE 3 v8 v10 h10) h10) fun v11 h11 =>
 bnd (gD v7 true (aB 0 v11 h11) h11) fun v12 h12 =>
 bnd (gD v7 true (aA v12 h12) h12) fun v13 h13 =>
 bnd (gD v7 true (aD .eql v13 (aN 18) h13) h13) fun v14 h14 =>
 bnd (gD v4 false (aP v7 v14 (.b false) h14) h14) fun v15 h15 =>
 bnd (gD v4 false (some (v15,h15)) h15) fun v16 h16 =>
 bnd (gD v16 true (aA (env 3) h16) h16) fun v17 h17 =>
 bnd (gD v16 true (some ((env 20),h17)) h17) fun v18 h18 =>
 bnd (gD v16 true (aE 1 v17 v18 h18) h18) fun v19 h19 =>
 bnd (gD v16 true (aA v19 h19) h19) fun v20 h20 =>
 bnd (gD v16 true (some ((env 20),h20)) h20) fun v21 h21 =>
 bnd (gD v16 true (aD .sub v21 (aN 2) h21) h21) fun v22 h22 =>
 bnd (gD v16 true (aD .eql v20 v22 h22) h22) fun v23 h23 =>
 bnd (gD v4 false (aP v16 v23 (.b false) h23) h23) fun v24 h24 =>
 bnd (aP v4 (.b true) v24 h24) fun v25 h25 =>
 aT v25 (
 bnd (aA (env 6) h25) fun v26 h26 =>
 bnd (aE 1 v26 (env 20) h26) fun v27 h27 =>
 bnd (aG 1 v27 (aN 0) h27) fun _ h28 =>
 bnd (aA (env 7) h28) fun v29 h29 =>
 bnd (aO [(aN 0)] 1 [(0,1,(env 20))] h29) fun v30 h30 =>
 bnd (bB 1 8 v29 v30 h30) fun v31 h31 =>
 bnd (aG 1 (env 7) v31 h31) fun _ h32 =>
      mQ r n kk18 (env 2) (env 3) (env 6) (env 7) (env 19) (env 20) h32) (
      mQ r n kk18 (env 2) (env 3) (env 6) (env 7) (env 19) (env 20) h25)) = (K6 (wB r n kk18) 2 3 6 7 19 20):=by kernel_rfl
theorem bUp (kk18 : gU) : D367 r n wX (xs x0 0 (K4 (dC r n) 2 3 6 7)) (K6 kk18 2 3 6 7 19 20) = (K6 (wB r n kk18) 2 3 6 7 19 20) :=
 (aQb r n kk18).trans
 ((aQj r n kk18 (mQ r n kk18) (dC r n)).trans (aMa r n kk18))
theorem aUd (kk18 : gU) : D367 r n wA (xs x0 0 (K4 (dC r n) 2 3 6 7)) (K6 kk18 2 3 6 7 19 20) = D367 r n bCe (xs x0 0 (K4 (dC r n) 2 3 6 7)) (K6 (wB r n kk18) 2 3 6 7 19 20) :=
 congrArg (fun k=>D367 r n bCe (xs x0 0 (K4 (dC r n) 2 3 6 7)) k) (bUp r n kk18)
theorem bJr (kk18 : gU) : D367 r n wA (xs x0 0 (K4 (dC r n) 2 3 6 7)) (K6 kk18 2 3 6 7 19 20) = (K7 (aGy r n kk18) 2 3 6 7 19 20 21) :=
 (aUd r n kk18).trans
 ((by kernel_rfl))
theorem aVk (kk18 : gU) : D367 r n jG (xs x0 0 (K4 (dC r n) 2 3 6 7)) (K6 kk18 2 3 6 7 19 20) = D367 r n aVz (xs x0 0 (K4 (dC r n) 2 3 6 7)) (K7 (aGy r n kk18) 2 3 6 7 19 20 21) :=
 congrArg (fun k=>D367 r n aVz (xs x0 0 (K4 (dC r n) 2 3 6 7)) k) (bJr r n kk18)
theorem bHj (kk18 : gU) : D367 r n jG (xs x0 0 (K4 (dC r n) 2 3 6 7)) (K6 kk18 2 3 6 7 19 20) = (K6 (aNg r n kk18) 2 3 6 7 19 20) :=
 (aVk r n kk18).trans
 ((by kernel_rfl))
theorem bFv (m : Nat) : aL (fun kk=>D367 r n jG (xs x0 0 (K4 (dC r n) 2 3 6 7)) kk) m = (K6 (sG r n m) 2 3 6 7 19 20):=by
 induction m with
 | zero=>exact (by kernel_rfl : aL (fun kk=>D367 r n jG (xs x0 0 (K4 (dC r n) 2 3 6 7)) kk) 0 = (K6 (sG r n 0) 2 3 6 7 19 20))
 | succ m ih =>
  refine (by kernel_rfl : aL (fun kk=>D367 r n jG (xs x0 0 (K4 (dC r n) 2 3 6 7)) kk) (m + 1) = D367 r n jG (xs x0 0 (K4 (dC r n) 2 3 6 7)) (aL (fun kk=>D367 r n jG (xs x0 0 (K4 (dC r n) 2 3 6 7)) kk) m)).trans ?_
  rw [ih]
  exact (bHj r n (sG r n m)).trans (by kernel_rfl)
theorem cAs : D367 r n xC (xs x0 0 (K4 (dC r n) 2 3 6 7)) (K4 (dC r n) 2 3 6 7) = (K6 (bCu r n) 2 3 6 7 19 20) :=
 (by kernel_rfl : D367 r n xC (xs x0 0 (K4 (dC r n) 2 3 6 7)) (K4 (dC r n) 2 3 6 7) = aL (fun kk=>D367 r n jG (xs x0 0 (K4 (dC r n) 2 3 6 7)) kk) n).trans ((bFv r n n).trans (by kernel_rfl))
theorem bYw : D367 r n aGd x0 (K4 (dC r n) 2 3 6 7) = (K6 (aJw r n) 2 3 6 7 19 20) :=
 (by kernel_rfl : D367 r n aGd x0 (K4 (dC r n) 2 3 6 7) = D367 r n xC (xs x0 0 (K4 (dC r n) 2 3 6 7)) (K4 (dC r n) 2 3 6 7)).trans
 ((cAs r n).trans (by kernel_rfl))
theorem bGv : D367 r n aFb x0 r367 = D367 r n sC x0 (K4 (dC r n) 2 3 6 7) :=
 congrArg (fun k=>D367 r n sC x0 k) (cQc r n)
theorem bFi : D367 r n sC x0 (K4 (dC r n) 2 3 6 7) = D367 r n aXn x0 (K6 (aJw r n) 2 3 6 7 19 20) :=
 congrArg (fun k=>D367 r n aXn x0 k) (bYw r n)
theorem cCs : D367 r n aFb x0 r367 = (K4 (yT r n) 2 3 6 7) :=
 (bGv r n).trans
 ((bFi r n).trans
 ((by kernel_rfl)))
theorem bFn : D367 r n aKt x0 r367 = D367 r n aKw x0 (K4 (yT r n) 2 3 6 7) :=
 congrArg (fun k=>D367 r n aKw x0 k) (cCs r n)
theorem bEl (q0 : eJ) : D367 r n aKw x0 (K4 q0 2 3 6 7) = fun (env : bA) (h : Hp) =>
 bnd (bY [.l0] h) fun v1 h1 =>
  q0 (env 2) (env 3) (env 6) v1 h1:=by kernel_rfl
theorem aQp : (fun (env : bA) (h : Hp) =>
 bnd (bY [.l0] h) fun v1 h1 =>
  yT r n (env 2) (env 3) (env 6) v1 h1) = (K3 (tE r n) 2 3 6):=by kernel_rfl
theorem cLo : D367 r n aKt x0 r367 = (K3 (tE r n) 2 3 6) :=
 (bFn r n).trans
 ((bEl r n (yT r n)).trans (aQp r n))
theorem bGg : D367 r n aHw x0 r367 = D367 r n aIz x0 (K3 (tE r n) 2 3 6) :=
 congrArg (fun k=>D367 r n aIz x0 k) (cLo r n)
theorem bFt (q0 : dP) : D367 r n aIz x0 (K3 q0 2 3 6) = fun (env : bA) (h : Hp) =>
 bnd (aA (env 2) h) fun v1 h1 =>
 bnd (cB v1 h1) fun v2 h2 =>
 bnd (bU 1 8 [(aN 0)] v2 v2 h2) fun v3 h3 =>
 bnd (bY [.l0] h3) fun v4 h4 =>
 bnd (aG 1 v4 v3 h4) fun _ h5 =>
  q0 (env 2) (env 3) v4 h5:=by kernel_rfl
theorem aRy : (fun (env : bA) (h : Hp) =>
 bnd (aA (env 2) h) fun v1 h1 =>
 bnd (cB v1 h1) fun v2 h2 =>
 bnd (bU 1 8 [(aN 0)] v2 v2 h2) fun v3 h3 =>
 bnd (bY [.l0] h3) fun v4 h4 =>
 bnd (aG 1 v4 v3 h4) fun _ h5 =>
  tE r n (env 2) (env 3) v4 h5) = (K2 (tV r n) 2 3):=by kernel_rfl
theorem cIv : D367 r n aUv x0 r367 = (K2 (tV r n) 2 3) :=
 (by kernel_rfl : D367 r n aUv x0 r367 = D367 r n aHw x0 r367).trans
 ((bGg r n).trans
 ((bFt r n (tE r n)).trans (aRy r n)))
theorem cHe : D367 r n c367 x0 r367 = D367 r n aKh x0 (K2 (tV r n) 2 3) :=
 congrArg (fun k=>D367 r n aKh x0 k) (cIv r n)
theorem cNi (q0 : TT2) : D367 r n aKh x0 (K2 q0 2 3) = fun (env : bA) (h : Hp) =>
 bnd (dA (env 0) h) fun v1 h1 =>
 bnd (dA (env 1) h1) fun v2 h2 =>
  q0 v1 v2 h2:=by kernel_rfl
theorem bMl : (fun (env : bA) (h : Hp) =>
 bnd (dA (env 0) h) fun v1 h1 =>
 bnd (dA (env 1) h1) fun v2 h2 =>
  tV r n v1 v2 h2) = (K2 (s367 r n) 0 1):=by kernel_rfl
theorem dLp : D367 r n c367 x0 r367 = (K2 (s367 r n) 0 1) :=
 (cHe r n).trans
 ((cNi r n (tV r n)).trans (bMl r n))
theorem dHt : aF CF r n 367 args h = s367 r n (aV args 0) (aV args 1) h :=
 (by kernel_rfl : aF CF r n 367 args h = D367 r n c367 x0 r367 (aJ args) h).trans ((congrFun (congrFun (dLp r n) (aJ args)) h).trans (by kernel_rfl))
def s384 (r : RT) (n : Nat) (x0 : DV) (h0 : Hp) : aH :=
 bnd (dA x0 h0) fun v1 h1 =>
 bnd (aB 0 v1 h1) fun v2 h2 =>
 bnd (aA v2 h2) fun v3 h3 =>
 bnd (r 454 [v3] h3) fun v4 h4 =>
 bnd (gQ .not v4 h4) fun v5 h5 =>
 aT v5 (
 some ((.i .i64 (Int.negSucc 0)),h5)) (
 bnd (aB 1 v1 h5) fun v6 h6 =>
 bnd (aA v6 h6) fun v7 h7 =>
 bnd (aB 2 v1 h7) fun v8 h8 =>
 bnd (aA v8 h8) fun v9 h9 =>
 bnd (dZ .shl v9 (.i .u64 (Int.ofNat 8)) h9) fun v10 h10 =>
 bnd (aD .add v7 v10 h10) fun v11 h11 =>
 some (v11,h11))
abbrev c384 : Code:=cf Tryz.f384
abbrev r384 : K:=aR CF Tryz.f384
def D384 (r : RT) (n : Nat) (c : Code) (X : Nat → K) (k : K) : K:=aM CF r 13 n c X r384 k
theorem dNu : D384 r n c384 x0 r384 = (K1 (s384 r n) 0) :=
 (by kernel_rfl)
theorem dHd : aF CF r n 384 args h = s384 r n (aV args 0) h :=
 (by kernel_rfl : aF CF r n 384 args h = D384 r n c384 x0 r384 (aJ args) h).trans ((congrFun (congrFun (dNu r n) (aJ args)) h).trans (by kernel_rfl))
end Go.Dd

namespace Go.Dd
open Go.Proofs
variable (r : RT) (n : Nat) (args : List DV) (h : Hp)
def s415 (r : RT) (n : Nat) (x0 : DV) (h0 : Hp) : aH :=
 bnd (r 340 [x0] h0) fun v1 h1 =>
 bnd (gD v1 false (some (x0,h1)) h1) fun v2 h2 =>
 bnd (gD v1 false (r 343 [v2] h2) h2) fun v3 h3 =>
 bnd (aP v1 (.b true) v3 h3) fun v4 h4 =>
 some (v4,h4)
abbrev c415 : Code:=cf Tryz.f415
abbrev r415 : K:=aR CF Tryz.f415
def D415 (r : RT) (n : Nat) (c : Code) (X : Nat → K) (k : K) : K:=aM CF r 9 n c X r415 k
theorem dOd : D415 r n c415 x0 r415 = (K1 (s415 r n) 0) :=
 (by kernel_rfl)
theorem cVy : aF CF r n 415 args h = s415 r n (aV args 0) h :=
 (by kernel_rfl : aF CF r n 415 args h = D415 r n c415 x0 r415 (aJ args) h).trans ((congrFun (congrFun (dOd r n) (aJ args)) h).trans (by kernel_rfl))
end Go.Dd

namespace Go.Dd
open Go.Proofs
variable (r : RT) (n : Nat) (args : List DV) (h : Hp)
def dQ (r : RT) (n : Nat) (x4 : DV) (h0 : Hp) : aH :=
 some (x4,h0)
def aIh (r : RT) (n : Nat) (kk5 : eJ) (x0 x1 x4 x5 : DV) (h0 : Hp) : aH :=
 bnd (aD .add x5 (aN 1) h0) fun v1 h1 =>
  kk5 x0 x1 x4 v1 h1
def aTg (r : RT) (n : Nat) (kk5 : eJ) (x0 x1 x4 x5 : DV) (h0 : Hp) : aH :=
 bnd (aA x1 h0) fun v1 h1 =>
 bnd (r 439 [v1,x5] h1) fun v2 h2 =>
 bnd (aC 0 v2 h2) fun v3 h3 =>
 bnd (aC 1 v2 h3) fun v4 h4 =>
 bnd (gD v4 true (some (x0,h4)) h4) fun v5 h5 =>
 bnd (gD v4 true (some (v3,h5)) h5) fun v6 h6 =>
 bnd (gD v4 true (aD .lss v5 v6 h6) h6) fun v7 h7 =>
 bnd (aP v4 v7 (.b false) h7) fun v8 h8 =>
 aT v8 (
  aIh r n kk5 x0 x1 x5 x5 h8) (
  aIh r n kk5 x0 x1 x4 x5 h8)
def aZq (r : RT) (n : Nat) (kk5 : eJ) (x0 x1 x4 x5 : DV) (h0 : Hp) : aH :=
 bnd (aD .add x5 (aN 2) h0) fun v1 h1 =>
 bnd (aD .leq v1 x0 h1) fun v2 h2 =>
 aT v2 (
   aTg r n kk5 x0 x1 x4 x5 h2) (
   dQ r n x4 h2)
def wM (r : RT) (n : Nat) (m : Nat) : eJ :=
 Nat.rec (motive:=fun _=>eJ) (fun _ _ _ _ _=>none) (fun _ ih=>aZq r n ih) m
def bXj (r : RT) (n : Nat) : eJ:=wM r n n
def aTd (r : RT) (n : Nat) (x0 x1 x4 x5 : DV) (h0 : Hp) : aH :=
 bXj r n x0 x1 x4 x5 h0
def aSc (r : RT) (n : Nat) (x0 x1 x4 : DV) (h0 : Hp) : aH :=
 aTd r n x0 x1 x4 (aN 0) h0
def aQz (r : RT) (n : Nat) (x0 x1 : DV) (h0 : Hp) : aH :=
 aSc r n x0 x1 (.i .i64 (Int.negSucc 0)) h0
def s438 (r : RT) (n : Nat) (x0 x1 : DV) (h0 : Hp) : aH :=
 aQz r n x0 x1 h0
abbrev c438 : Code:=cf Tryz.f438
abbrev aLn : Code:=cR c438
abbrev aIy : Code:=cR aLn
abbrev cXa : Code:=cR aIy
abbrev yF : Code:=cL aIy
abbrev aSi : Code:=cR yF
abbrev aHt : Code:=cL aSi
abbrev lE : Code:=cL aHt
abbrev aGb : Code:=cR lE
abbrev dBr : Code:=cR aGb
abbrev bCj : Code:=cL aGb
abbrev bAu : Code:=cL lE
abbrev aYc : Code:=cL yF
abbrev bEa : Code:=cL aLn
abbrev aZu : Code:=cL c438
abbrev r438 : K:=aR CF Tryz.f438
def D438 (r : RT) (n : Nat) (c : Code) (X : Nat → K) (k : K) : K:=aM CF r 28 n c X r438 k
theorem cHd : D438 r n cXa x0 r438 = (K1 (dQ r n) 4) :=
 (by kernel_rfl)
theorem cIp (kk5 : eJ) : D438 r n dBr (xs x0 0 (K1 (dQ r n) 4)) (K4 kk5 0 1 4 5) = (K4 (aIh r n kk5) 0 1 4 5) :=
 (by kernel_rfl)
theorem bNk (kk5 : eJ) : D438 r n aGb (xs x0 0 (K1 (dQ r n) 4)) (K4 kk5 0 1 4 5) = D438 r n bCj (xs x0 0 (K1 (dQ r n) 4)) (K4 (aIh r n kk5) 0 1 4 5) :=
 congrArg (fun k=>D438 r n bCj (xs x0 0 (K1 (dQ r n) 4)) k) (cIp r n kk5)
theorem cHo (kk5 : eJ) : D438 r n aGb (xs x0 0 (K1 (dQ r n) 4)) (K4 kk5 0 1 4 5) = (K4 (aTg r n kk5) 0 1 4 5) :=
 (bNk r n kk5).trans
 ((by kernel_rfl))
theorem bRl (kk5 : eJ) : D438 r n lE (xs x0 0 (K1 (dQ r n) 4)) (K4 kk5 0 1 4 5) = D438 r n bAu (xs x0 0 (K1 (dQ r n) 4)) (K4 (aTg r n kk5) 0 1 4 5) :=
 congrArg (fun k=>D438 r n bAu (xs x0 0 (K1 (dQ r n) 4)) k) (cHo r n kk5)
theorem bSl (kk5 : eJ) : D438 r n lE (xs x0 0 (K1 (dQ r n) 4)) (K4 kk5 0 1 4 5) = (K4 (aZq r n kk5) 0 1 4 5) :=
 (bRl r n kk5).trans
 ((by kernel_rfl))
theorem bZn (m : Nat) : aL (fun kk=>D438 r n lE (xs x0 0 (K1 (dQ r n) 4)) kk) m = (K4 (wM r n m) 0 1 4 5):=by
 induction m with
 | zero=>exact (by kernel_rfl : aL (fun kk=>D438 r n lE (xs x0 0 (K1 (dQ r n) 4)) kk) 0 = (K4 (wM r n 0) 0 1 4 5))
 | succ m ih =>
  refine (by kernel_rfl : aL (fun kk=>D438 r n lE (xs x0 0 (K1 (dQ r n) 4)) kk) (m + 1) = D438 r n lE (xs x0 0 (K1 (dQ r n) 4)) (aL (fun kk=>D438 r n lE (xs x0 0 (K1 (dQ r n) 4)) kk) m)).trans ?_
  rw [ih]
  exact (bSl r n (wM r n m)).trans (by kernel_rfl)
theorem cFr : D438 r n aHt (xs x0 0 (K1 (dQ r n) 4)) (K1 (dQ r n) 4) = (K4 (bXj r n) 0 1 4 5) :=
 (by kernel_rfl : D438 r n aHt (xs x0 0 (K1 (dQ r n) 4)) (K1 (dQ r n) 4) = aL (fun kk=>D438 r n lE (xs x0 0 (K1 (dQ r n) 4)) kk) n).trans ((bZn r n n).trans (by kernel_rfl))
theorem cEr : D438 r n aSi x0 (K1 (dQ r n) 4) = (K4 (aTd r n) 0 1 4 5) :=
 (by kernel_rfl : D438 r n aSi x0 (K1 (dQ r n) 4) = D438 r n aHt (xs x0 0 (K1 (dQ r n) 4)) (K1 (dQ r n) 4)).trans
 ((cFr r n).trans (by kernel_rfl))
theorem bXg : D438 r n aIy x0 r438 = D438 r n yF x0 (K1 (dQ r n) 4) :=
 congrArg (fun k=>D438 r n yF x0 k) (cHd r n)
theorem bSq : D438 r n yF x0 (K1 (dQ r n) 4) = D438 r n aYc x0 (K4 (aTd r n) 0 1 4 5) :=
 congrArg (fun k=>D438 r n aYc x0 k) (cEr r n)
theorem cMl : D438 r n aIy x0 r438 = (K3 (aSc r n) 0 1 4) :=
 (bXg r n).trans
 ((bSq r n).trans
 ((by kernel_rfl)))
theorem bNc : D438 r n aLn x0 r438 = D438 r n bEa x0 (K3 (aSc r n) 0 1 4) :=
 congrArg (fun k=>D438 r n bEa x0 k) (cMl r n)
theorem cLf : D438 r n aLn x0 r438 = (K2 (aQz r n) 0 1) :=
 (bNc r n).trans
 ((by kernel_rfl))
theorem cYo : D438 r n c438 x0 r438 = D438 r n aZu x0 (K2 (aQz r n) 0 1) :=
 congrArg (fun k=>D438 r n aZu x0 k) (cLf r n)
theorem dHy : D438 r n c438 x0 r438 = (K2 (s438 r n) 0 1) :=
 (cYo r n).trans
 ((by kernel_rfl))
theorem dEo : aF CF r n 438 args h = s438 r n (aV args 0) (aV args 1) h :=
 (by kernel_rfl : aF CF r n 438 args h = D438 r n c438 x0 r438 (aJ args) h).trans ((congrFun (congrFun (dHy r n) (aJ args)) h).trans (by kernel_rfl))
def s439 (r : RT) (n : Nat) (x0 x1 : DV) (h0 : Hp) : aH :=
 bnd (aE 3 x0 x1 h0) fun v1 h1 =>
 bnd (aB 0 v1 h1) fun v2 h2 =>
 bnd (aA v2 h2) fun v3 h3 =>
 bnd (aD .neq v3 (aN 18) h3) fun v4 h4 =>
 bnd (gD v4 false (some (x1,h4)) h4) fun v5 h5 =>
 bnd (gD v4 false (aD .add v5 (aN 1) h5) h5) fun v6 h6 =>
 bnd (gD v4 false (some (x0,h6)) h6) fun v7 h7 =>
 bnd (gD v4 false (cB v7 h7) h7) fun v8 h8 =>
 bnd (gD v4 false (aD .geq v6 v8 h8) h8) fun v9 h9 =>
 bnd (aP v4 (.b true) v9 h9) fun v10 h10 =>
 bnd (gD v10 false (some (x0,h10)) h10) fun v11 h11 =>
 bnd (gD v10 false (some (x1,h11)) h11) fun v12 h12 =>
 bnd (gD v10 false (aD .add v12 (aN 1) h12) h12) fun v13 h13 =>
 bnd (gD v10 false (aE 3 v11 v13 h13) h13) fun v14 h14 =>
 bnd (gD v10 false (aB 0 v14 h14) h14) fun v15 h15 =>
 bnd (gD v10 false (aA v15 h15) h15) fun v16 h16 =>
 bnd (gD v10 false (aD .neq v16 (aN 16) h16) h16) fun v17 h17 =>
 bnd (aP v10 (.b true) v17 h17) fun v18 h18 =>
 aT v18 (
 some (.t [(aN 0),(.b false)],h18)) (
 bnd (aD .add x1 (aN 1) h18) fun v19 h19 =>
 bnd (aE 3 x0 v19 h19) fun v20 h20 =>
 bnd (aK 3 v20 h20) fun v21 h21 =>
 bnd (r 384 [v21] h21) fun v22 h22 =>
 bnd (aD .add x1 (aN 2) h22) fun v23 h23 =>
 bnd (aD .gtr v22 v23 h23) fun v24 h24 =>
 some (.t [v22,v24],h24))
abbrev c439 : Code:=cf Tryz.f439
abbrev r439 : K:=aR CF Tryz.f439
def D439 (r : RT) (n : Nat) (c : Code) (X : Nat → K) (k : K) : K:=aM CF r 40 n c X r439 k
theorem dKk : D439 r n c439 x0 r439 = (K2 (s439 r n) 0 1) :=
 (by kernel_rfl)
theorem dBn : aF CF r n 439 args h = s439 r n (aV args 0) (aV args 1) h :=
 (by kernel_rfl : aF CF r n 439 args h = D439 r n c439 x0 r439 (aJ args) h).trans ((congrFun (congrFun (dKk r n) (aJ args)) h).trans (by kernel_rfl))
def s440 (r : RT) (n : Nat) (x0 x1 x2 x3 x4 x5 x6 x7 : DV) (h0 : Hp) : aH :=
 bnd (aA x3 h0) fun v1 h1 =>
 bnd (cB v1 h1) fun v2 h2 =>
 bnd (aD .geq x0 v2 h2) fun v3 h3 =>
 bnd (gD v3 false (aA x4 h3) h3) fun v4 h4 =>
 bnd (gD v3 false (some (x0,h4)) h4) fun v5 h5 =>
 bnd (gD v3 false (aE 1 v4 v5 h5) h5) fun v6 h6 =>
 bnd (gD v3 false (aA v6 h6) h6) fun v7 h7 =>
 bnd (gD v3 false (some (x1,h7)) h7) fun v8 h8 =>
 bnd (gD v3 false (aD .neq v7 v8 h8) h8) fun v9 h9 =>
 bnd (aP v3 (.b true) v9 h9) fun v10 h10 =>
 bnd (gD v10 false (aA x5 h10) h10) fun v11 h11 =>
 bnd (gD v10 false (some (x0,h11)) h11) fun v12 h12 =>
 bnd (gD v10 false (aE 1 v11 v12 h12) h12) fun v13 h13 =>
 bnd (gD v10 false (aA v13 h13) h13) fun v14 h14 =>
 bnd (gD v10 false (aD .geq v14 (aN 0) h14) h14) fun v15 h15 =>
 bnd (gD v10 false (some (v15,h15)) h15) fun v16 h16 =>
 bnd (gD v16 true (aA x5 h16) h16) fun v17 h17 =>
 bnd (gD v16 true (some (x0,h17)) h17) fun v18 h18 =>
 bnd (gD v16 true (aE 1 v17 v18 h18) h18) fun v19 h19 =>
 bnd (gD v16 true (aA v19 h19) h19) fun v20 h20 =>
 bnd (gD v16 true (some (x2,h20)) h20) fun v21 h21 =>
 bnd (gD v16 true (aD .neq v20 v21 h21) h21) fun v22 h22 =>
 bnd (gD v10 false (aP v16 v22 (.b false) h22) h22) fun v23 h23 =>
 bnd (aP v10 (.b true) v23 h23) fun v24 h24 =>
 aT v24 (
 bnd (aG 1 x6 (.b false) h24) fun _ h25 =>
 some (.t [],h25)) (
 bnd (aA x5 h24) fun v26 h26 =>
 bnd (aE 1 v26 x0 h26) fun v27 h27 =>
 bnd (aA v27 h27) fun v28 h28 =>
 bnd (aD .lss v28 (aN 0) h28) fun v29 h29 =>
 aT v29 (
 bnd (aA x5 h29) fun v30 h30 =>
 bnd (aE 1 v30 x0 h30) fun v31 h31 =>
 bnd (aG 1 v31 x2 h31) fun _ h32 =>
 bnd (aA x7 h32) fun v33 h33 =>
 bnd (aO [(aN 0)] 1 [(0,1,x0)] h33) fun v34 h34 =>
 bnd (bB 1 8 v33 v34 h34) fun v35 h35 =>
 bnd (aG 1 x7 v35 h35) fun _ h36 =>
 some (.t [],h36)) (
 some (.t [],h29)))
abbrev c440 : Code:=cf Tryz.f440
abbrev r440 : K:=aR CF Tryz.f440
def D440 (r : RT) (n : Nat) (c : Code) (X : Nat → K) (k : K) : K:=aM CF r 53 n c X r440 k
theorem dNy : D440 r n c440 x0 r440 = (K8 (s440 r n) 0 1 2 3 4 5 6 7) :=
 (by kernel_rfl)
theorem cXp : aF CF r n 440 args h = s440 r n (aV args 0) (aV args 1) (aV args 2) (aV args 3) (aV args 4) (aV args 5) (aV args 6) (aV args 7) h :=
 (by kernel_rfl : aF CF r n 440 args h = D440 r n c440 x0 r440 (aJ args) h).trans ((congrFun (congrFun (dNy r n) (aJ args)) h).trans (by kernel_rfl))
def cF (r : RT) (n : Nat) (h0 : Hp) : aH :=
 some ((aN 0),h0)
def aKc (r : RT) (n : Nat) (x1 x22 : DV) (h0 : Hp) : aH :=
 aT x22 (
 bnd (aB 2 x1 h0) fun v1 h1 =>
 bnd (aA v1 h1) fun v2 h2 =>
 bnd (gQ .neg v2 h2) fun v3 h3 =>
 some (v3,h3)) (
  cF r n h0)
def cAw (r : RT) (n : Nat) (x1 x4 : DV) (h0 : Hp) : aH :=
 bnd (aD .eql x4 (aN 14) h0) fun v1 h1 =>
 aT v1 (
  aKc r n x1 v1 h1) (
 bnd (aD .eql x4 (aN 15) h1) fun v2 h2 =>
  aKc r n x1 v2 h2)
def tX (r : RT) (n : Nat) (x1 x4 x17 : DV) (h0 : Hp) : aH :=
 aT x17 (
 some ((.i .i64 (Int.negSucc 0)),h0)) (
  cAw r n x1 x4 h0)
def bUq (r : RT) (n : Nat) (x1 x4 : DV) (h0 : Hp) : aH :=
 bnd (aD .eql x4 (aN 12) h0) fun v1 h1 =>
 aT v1 (
  tX r n x1 x4 v1 h1) (
 bnd (aD .eql x4 (aN 17) h1) fun v2 h2 =>
 aT v2 (
   tX r n x1 x4 v2 h2) (
 bnd (aD .eql x4 (aN 19) h2) fun v3 h3 =>
 aT v3 (
    tX r n x1 x4 v3 h3) (
 bnd (aD .eql x4 (aN 20) h3) fun v4 h4 =>
    tX r n x1 x4 v4 h4)))
def jB (r : RT) (n : Nat) (x1 x4 x5 : DV) (h0 : Hp) : aH :=
 aT x5 (
 some ((aN 1),h0)) (
  bUq r n x1 x4 h0)
def aTw (r : RT) (n : Nat) (x1 x4 : DV) (h0 : Hp) : aH :=
 bnd (aD .eql x4 (aN 1) h0) fun v1 h1 =>
 aT v1 (
  jB r n x1 x4 v1 h1) (
 bnd (aD .eql x4 (aN 2) h1) fun v2 h2 =>
 aT v2 (
   jB r n x1 x4 v2 h2) (
 bnd (aD .eql x4 (aN 3) h2) fun v3 h3 =>
 aT v3 (
    jB r n x1 x4 v3 h3) (
 bnd (aD .eql x4 (aN 4) h3) fun v4 h4 =>
 aT v4 (
     jB r n x1 x4 v4 h4) (
 bnd (aD .eql x4 (aN 5) h4) fun v5 h5 =>
 aT v5 (
      jB r n x1 x4 v5 h5) (
 bnd (aD .eql x4 (aN 6) h5) fun v6 h6 =>
 aT v6 (
       jB r n x1 x4 v6 h6) (
 bnd (aD .eql x4 (aN 7) h6) fun v7 h7 =>
 aT v7 (
        jB r n x1 x4 v7 h7) (
 bnd (aD .eql x4 (aN 8) h7) fun v8 h8 =>
 aT v8 (
         jB r n x1 x4 v8 h8) (
 bnd (aD .eql x4 (aN 9) h8) fun v9 h9 =>
 aT v9 (
          jB r n x1 x4 v9 h9) (
 bnd (aD .eql x4 (aN 13) h9) fun v10 h10 =>
 aT v10 (
           jB r n x1 x4 v10 h10) (
 bnd (aD .eql x4 (aN 18) h10) fun v11 h11 =>
           jB r n x1 x4 v11 h11))))))))))
def yE (r : RT) (n : Nat) (x1 : DV) (h0 : Hp) : aH :=
 bnd (aB 0 x1 h0) fun v1 h1 =>
 bnd (aA v1 h1) fun v2 h2 =>
  aTw r n x1 v2 h2
def s441 (r : RT) (n : Nat) (x0 : DV) (h0 : Hp) : aH :=
 bnd (dA x0 h0) fun v1 h1 =>
  yE r n v1 h1
abbrev c441 : Code:=cf Tryz.f441
abbrev aFs : Code:=cR c441
abbrev dDv : Code:=cR aFs
abbrev zI : Code:=cL aFs
abbrev aUz : Code:=cR zI
abbrev aHm : Code:=cL aUz
abbrev aBm : Code:=cR aHm
abbrev aBf : Code:=cR aBm
abbrev zR : Code:=cR aBf
abbrev aBi : Code:=cR zR
abbrev cKl : Code:=cR aBi
abbrev aYx : Code:=cL aBi
abbrev cDf : Code:=cL zR
abbrev aXw : Code:=cL aBf
abbrev cOj : Code:=cL aBm
abbrev aZl : Code:=cL aHm
abbrev aVs : Code:=cL zI
abbrev aJy : Code:=cL c441
abbrev r441 : K:=aR CF Tryz.f441
def D441 (r : RT) (n : Nat) (c : Code) (X : Nat → K) (k : K) : K:=aM CF r 28 n c X r441 k
theorem cLw : D441 r n dDv x0 r441 = (K0 (cF r n)) :=
 (by kernel_rfl)
theorem cDr : D441 r n cKl (xs x0 0 (K0 (cF r n))) (K0 (cF r n)) = (K2 (aKc r n) 1 22) :=
 (by kernel_rfl)
theorem bRj : D441 r n aBi (xs x0 0 (K0 (cF r n))) (K0 (cF r n)) = D441 r n aYx (xs x0 0 (K0 (cF r n))) (K2 (aKc r n) 1 22) :=
 congrArg (fun k=>D441 r n aYx (xs x0 0 (K0 (cF r n))) k) (cDr r n)
theorem cPq : D441 r n aBi (xs x0 0 (K0 (cF r n))) (K0 (cF r n)) = (K2 (cAw r n) 1 4) :=
 (bRj r n).trans
 ((by kernel_rfl))
theorem cOd : D441 r n zR (xs x0 0 (K0 (cF r n))) (K0 (cF r n)) = (K3 (tX r n) 1 4 17) :=
 (by kernel_rfl : D441 r n zR (xs x0 0 (K0 (cF r n))) (K0 (cF r n)) = (fun (env : bA) (h : Hp)=>aT (opr env (cC zR)) (D441 r n cDf (xs x0 0 (K0 (cF r n))) (K0 (cF r n)) env h) (D441 r n aBi (xs x0 0 (K0 (cF r n))) (K0 (cF r n)) env h))).trans (by rw [cPq r n]; kernel_rfl)
theorem cBi : D441 r n aBf (xs x0 0 (K0 (cF r n))) (K0 (cF r n)) = D441 r n aXw (xs x0 0 (K0 (cF r n))) (K3 (tX r n) 1 4 17) :=
 congrArg (fun k=>D441 r n aXw (xs x0 0 (K0 (cF r n))) k) (cOd r n)
theorem cCt : D441 r n aBf (xs x0 0 (K0 (cF r n))) (K0 (cF r n)) = (K2 (bUq r n) 1 4) :=
 (cBi r n).trans
 ((by kernel_rfl))
theorem cLv : D441 r n aBm (xs x0 0 (K0 (cF r n))) (K0 (cF r n)) = (K3 (jB r n) 1 4 5) :=
 (by kernel_rfl : D441 r n aBm (xs x0 0 (K0 (cF r n))) (K0 (cF r n)) = (fun (env : bA) (h : Hp)=>aT (opr env (cC aBm)) (D441 r n cOj (xs x0 0 (K0 (cF r n))) (K0 (cF r n)) env h) (D441 r n aBf (xs x0 0 (K0 (cF r n))) (K0 (cF r n)) env h))).trans (by rw [cCt r n]; kernel_rfl)
theorem bQx : D441 r n aHm (xs x0 0 (K0 (cF r n))) (K0 (cF r n)) = D441 r n aZl (xs x0 0 (K0 (cF r n))) (K3 (jB r n) 1 4 5) :=
 congrArg (fun k=>D441 r n aZl (xs x0 0 (K0 (cF r n))) k) (cLv r n)
theorem cOx : D441 r n aUz x0 (K0 (cF r n)) = (K2 (aTw r n) 1 4) :=
 (by kernel_rfl : D441 r n aUz x0 (K0 (cF r n)) = D441 r n aHm (xs x0 0 (K0 (cF r n))) (K0 (cF r n))).trans
 ((bQx r n).trans
 ((by kernel_rfl)))
theorem bOu : D441 r n aFs x0 r441 = D441 r n zI x0 (K0 (cF r n)) :=
 congrArg (fun k=>D441 r n zI x0 k) (cLw r n)
theorem bTq : D441 r n zI x0 (K0 (cF r n)) = D441 r n aVs x0 (K2 (aTw r n) 1 4) :=
 congrArg (fun k=>D441 r n aVs x0 k) (cOx r n)
theorem cFw : D441 r n aFs x0 r441 = (K1 (yE r n) 1) :=
 (bOu r n).trans
 ((bTq r n).trans
 ((by kernel_rfl)))
theorem cWm : D441 r n c441 x0 r441 = D441 r n aJy x0 (K1 (yE r n) 1) :=
 congrArg (fun k=>D441 r n aJy x0 k) (cFw r n)
theorem cZy (q0 : TT1) : D441 r n aJy x0 (K1 q0 1) = fun (env : bA) (h : Hp) =>
 bnd (dA (env 0) h) fun v1 h1 =>
  q0 v1 h1:=by kernel_rfl
theorem cMh : (fun (env : bA) (h : Hp) =>
 bnd (dA (env 0) h) fun v1 h1 =>
  yE r n v1 h1) = (K1 (s441 r n) 0):=by kernel_rfl
theorem dLy : D441 r n c441 x0 r441 = (K1 (s441 r n) 0) :=
 (cWm r n).trans
 ((cZy r n (yE r n)).trans (cMh r n))
theorem dCw : aF CF r n 441 args h = s441 r n (aV args 0) h :=
 (by kernel_rfl : aF CF r n 441 args h = D441 r n c441 x0 r441 (aJ args) h).trans ((congrFun (congrFun (dLy r n) (aJ args)) h).trans (by kernel_rfl))
def dM (r : RT) (n : Nat) (h0 : Hp) : aH :=
 some ((aN 0),h0)
def aLk (r : RT) (n : Nat) (x1 x13 : DV) (h0 : Hp) : aH :=
 aT x13 (
 bnd (aB 2 x1 h0) fun v1 h1 =>
 bnd (aA v1 h1) fun v2 h2 =>
 bnd (aD .add v2 (aN 1) h2) fun v3 h3 =>
 some (v3,h3)) (
  dM r n h0)
def bTt (r : RT) (n : Nat) (x1 x4 : DV) (h0 : Hp) : aH :=
 bnd (aD .eql x4 (aN 14) h0) fun v1 h1 =>
 aT v1 (
  aLk r n x1 v1 h1) (
 bnd (aD .eql x4 (aN 15) h1) fun v2 h2 =>
  aLk r n x1 v2 h2)
def mR (r : RT) (n : Nat) (x1 x4 x5 : DV) (h0 : Hp) : aH :=
 aT x5 (
 some ((aN 1),h0)) (
  bTt r n x1 x4 h0)
def aPv (r : RT) (n : Nat) (x1 x4 : DV) (h0 : Hp) : aH :=
 bnd (aD .eql x4 (aN 12) h0) fun v1 h1 =>
 aT v1 (
  mR r n x1 x4 v1 h1) (
 bnd (aD .eql x4 (aN 13) h1) fun v2 h2 =>
 aT v2 (
   mR r n x1 x4 v2 h2) (
 bnd (aD .eql x4 (aN 10) h2) fun v3 h3 =>
 aT v3 (
    mR r n x1 x4 v3 h3) (
 bnd (aD .eql x4 (aN 11) h3) fun v4 h4 =>
 aT v4 (
     mR r n x1 x4 v4 h4) (
 bnd (aD .eql x4 (aN 17) h4) fun v5 h5 =>
 aT v5 (
      mR r n x1 x4 v5 h5) (
 bnd (aD .eql x4 (aN 20) h5) fun v6 h6 =>
 aT v6 (
       mR r n x1 x4 v6 h6) (
 bnd (aD .eql x4 (aN 19) h6) fun v7 h7 =>
       mR r n x1 x4 v7 h7))))))
def aCa (r : RT) (n : Nat) (x1 : DV) (h0 : Hp) : aH :=
 bnd (aB 0 x1 h0) fun v1 h1 =>
 bnd (aA v1 h1) fun v2 h2 =>
  aPv r n x1 v2 h2
def s442 (r : RT) (n : Nat) (x0 : DV) (h0 : Hp) : aH :=
 bnd (dA x0 h0) fun v1 h1 =>
  aCa r n v1 h1
abbrev c442 : Code:=cf Tryz.f442
abbrev aKm : Code:=cR c442
abbrev dGn : Code:=cR aKm
abbrev aBu : Code:=cL aKm
abbrev aQc : Code:=cR aBu
abbrev aFt : Code:=cL aQc
abbrev aAv : Code:=cR aFt
abbrev zJ : Code:=cR aAv
abbrev cVk : Code:=cR zJ
abbrev bVh : Code:=cL zJ
abbrev cJh : Code:=cL aAv
abbrev bDt : Code:=cL aFt
abbrev aYo : Code:=cL aBu
abbrev aEb : Code:=cL c442
abbrev r442 : K:=aR CF Tryz.f442
def D442 (r : RT) (n : Nat) (c : Code) (X : Nat → K) (k : K) : K:=aM CF r 19 n c X r442 k
theorem cNp : D442 r n dGn x0 r442 = (K0 (dM r n)) :=
 (by kernel_rfl)
theorem cKd : D442 r n cVk (xs x0 0 (K0 (dM r n))) (K0 (dM r n)) = (K2 (aLk r n) 1 13) :=
 (by kernel_rfl)
theorem bWv : D442 r n zJ (xs x0 0 (K0 (dM r n))) (K0 (dM r n)) = D442 r n bVh (xs x0 0 (K0 (dM r n))) (K2 (aLk r n) 1 13) :=
 congrArg (fun k=>D442 r n bVh (xs x0 0 (K0 (dM r n))) k) (cKd r n)
theorem cHk : D442 r n zJ (xs x0 0 (K0 (dM r n))) (K0 (dM r n)) = (K2 (bTt r n) 1 4) :=
 (bWv r n).trans
 ((by kernel_rfl))
theorem cCc : D442 r n aAv (xs x0 0 (K0 (dM r n))) (K0 (dM r n)) = (K3 (mR r n) 1 4 5) :=
 (by kernel_rfl : D442 r n aAv (xs x0 0 (K0 (dM r n))) (K0 (dM r n)) = (fun (env : bA) (h : Hp)=>aT (opr env (cC aAv)) (D442 r n cJh (xs x0 0 (K0 (dM r n))) (K0 (dM r n)) env h) (D442 r n zJ (xs x0 0 (K0 (dM r n))) (K0 (dM r n)) env h))).trans (by rw [cHk r n]; kernel_rfl)
theorem bLo : D442 r n aFt (xs x0 0 (K0 (dM r n))) (K0 (dM r n)) = D442 r n bDt (xs x0 0 (K0 (dM r n))) (K3 (mR r n) 1 4 5) :=
 congrArg (fun k=>D442 r n bDt (xs x0 0 (K0 (dM r n))) k) (cCc r n)
theorem cOb : D442 r n aQc x0 (K0 (dM r n)) = (K2 (aPv r n) 1 4) :=
 (by kernel_rfl : D442 r n aQc x0 (K0 (dM r n)) = D442 r n aFt (xs x0 0 (K0 (dM r n))) (K0 (dM r n))).trans
 ((bLo r n).trans
 ((by kernel_rfl)))
theorem bZz : D442 r n aKm x0 r442 = D442 r n aBu x0 (K0 (dM r n)) :=
 congrArg (fun k=>D442 r n aBu x0 k) (cNp r n)
theorem bNy : D442 r n aBu x0 (K0 (dM r n)) = D442 r n aYo x0 (K2 (aPv r n) 1 4) :=
 congrArg (fun k=>D442 r n aYo x0 k) (cOb r n)
theorem cJc : D442 r n aKm x0 r442 = (K1 (aCa r n) 1) :=
 (bZz r n).trans
 ((bNy r n).trans
 ((by kernel_rfl)))
theorem dDs : D442 r n c442 x0 r442 = D442 r n aEb x0 (K1 (aCa r n) 1) :=
 congrArg (fun k=>D442 r n aEb x0 k) (cJc r n)
theorem dFe (q0 : TT1) : D442 r n aEb x0 (K1 q0 1) = fun (env : bA) (h : Hp) =>
 bnd (dA (env 0) h) fun v1 h1 =>
  q0 v1 h1:=by kernel_rfl
theorem cOf : (fun (env : bA) (h : Hp) =>
 bnd (dA (env 0) h) fun v1 h1 =>
  aCa r n v1 h1) = (K1 (s442 r n) 0):=by kernel_rfl
theorem dQn : D442 r n c442 x0 r442 = (K1 (s442 r n) 0) :=
 (dDs r n).trans
 ((dFe r n (aCa r n)).trans (cOf r n))
theorem dEv : aF CF r n 442 args h = s442 r n (aV args 0) h :=
 (by kernel_rfl : aF CF r n 442 args h = D442 r n c442 x0 r442 (aJ args) h).trans ((congrFun (congrFun (dQn r n) (aJ args)) h).trans (by kernel_rfl))
def s454 (r : RT) (n : Nat) (x0 : DV) (h0 : Hp) : aH :=
 bnd (aD .eql x0 (aN 16) h0) fun v1 h1 =>
 bnd (gD v1 false (some (x0,h1)) h1) fun v2 h2 =>
 bnd (gD v1 false (aD .eql v2 (aN 17) h2) h2) fun v3 h3 =>
 bnd (aP v1 (.b true) v3 h3) fun v4 h4 =>
 some (v4,h4)
abbrev c454 : Code:=cf Tryz.f454
abbrev r454 : K:=aR CF Tryz.f454
def D454 (r : RT) (n : Nat) (c : Code) (X : Nat → K) (k : K) : K:=aM CF r 9 n c X r454 k
theorem dOp : D454 r n c454 x0 r454 = (K1 (s454 r n) 0) :=
 (by kernel_rfl)
theorem cUo : aF CF r n 454 args h = s454 r n (aV args 0) h :=
 (by kernel_rfl : aF CF r n 454 args h = D454 r n c454 x0 r454 (aJ args) h).trans ((congrFun (congrFun (dOp r n) (aJ args)) h).trans (by kernel_rfl))
end Go.Dd

namespace Go.Dd
open Go.Proofs
variable (r : RT) (n : Nat) (args : List DV) (h : Hp)
def s505 (r : RT) (n : Nat) (x0 : DV) (h0 : Hp) : aH :=
 bnd (r 293 [x0,(aN 1)] h0) fun v1 h1 =>
 bnd (bY [(aN 0),(.s []),(aN 0),(aN 0)] h1) fun v2 h2 =>
 bnd (aG 4 v2 v1 h2) fun _ h3 =>
 bnd (r 289 [x0,(aN 3),(.s [45])] h3) fun v4 h4 =>
 bnd (gD v4 true (aB 0 v2 h4) h4) fun v5 h5 =>
 bnd (gD v4 true (aA v5 h5) h5) fun v6 h6 =>
 bnd (gD v4 true (aD .eql v6 (aN 4) h6) h6) fun v7 h7 =>
 bnd (aP v4 v7 (.b false) h7) fun v8 h8 =>
 bnd (gD v8 true (aB 3 v2 h8) h8) fun v9 h9 =>
 bnd (gD v8 true (aA v9 h9) h9) fun v10 h10 =>
 bnd (gD v8 true (some (x0,h10)) h10) fun v11 h11 =>
 bnd (gD v8 true (r 293 [v11,(aN 0)] h11) h11) fun v12 h12 =>
 cnd (bJ (gD v8 true (aA v9 h12) h12) v10 && true) (
 bnd (gD v8 true (uF 3 v12 h12) h12) fun v13 h13 =>
 bnd (gD v8 true (aD .add v13 (aN 1) h13) h13) fun v14 h14 =>
 bnd (gD v8 true (aD .eql v10 v14 h14) h14) fun v15 h15 =>
 bnd (aP v8 v15 (.b false) h15) fun v16 h16 =>
 some (v16,h16))
abbrev c505 : Code:=cf Tryz.f505
abbrev r505 : K:=aR CF Tryz.f505
def D505 (r : RT) (n : Nat) (c : Code) (X : Nat → K) (k : K) : K:=aM CF r 22 n c X r505 k
theorem dLg : D505 r n c505 x0 r505 = (K1 (s505 r n) 0) :=
 (by kernel_rfl)
theorem cVr : aF CF r n 505 args h = s505 r n (aV args 0) h :=
 (by kernel_rfl : aF CF r n 505 args h = D505 r n c505 x0 r505 (aJ args) h).trans ((congrFun (congrFun (dLg r n) (aJ args)) h).trans (by kernel_rfl))
end Go.Dd

namespace Go.Dd
open Go.Proofs
section
variable (ih : RT) (m : Nat) (f : FuncId) (args : List DV) (h : Hp)
theorem eG {i : Nat} {s r : aH} (e1 : s = aF CF ih m i args h) (e2 : r = aF CF ih m f args h) : (bif Nat.beq f i then s else r) = aF CF ih m f args h:=by
 cases e : Nat.beq f i with
 | false=>exact e2
 | true=>cases Nat.eq_of_beq_eq_true e; exact e1
theorem ndC {i : Nat} {a b : aH} (e1 : a = aF CF ih m f args h) (e2 : b = aF CF ih m f args h) : (bif Nat.blt f i then a else b) = aF CF ih m f args h:=by
 cases Nat.blt f i with
 | false=>exact e2
 | true=>exact e1
def qg0 : aH:=bif Nat.beq f 3 then s3 ih m (aV args 0) h else bif Nat.beq f 4 then s4 ih m (aV args 0) (aV args 1) h else bif Nat.beq f 5 then s5 ih m (aV args 0) h else bif Nat.beq f 6 then s6 ih m (aV args 0) (aV args 1) h else bif Nat.beq f 7 then s7 ih m (aV args 0) h else bif Nat.beq f 8 then s8 ih m (aV args 0) h else bif Nat.beq f 9 then s9 ih m (aV args 0) h else bif Nat.beq f 10 then s10 ih m (aV args 0) (aV args 1) h else aF CF ih m f args h
theorem dVy : qg0 ih m f args h = aF CF ih m f args h:=eG ih m f args h (dXm ih m args h).symm (eG ih m f args h (dTj ih m args h).symm (eG ih m f args h (dXg ih m args h).symm (eG ih m f args h (dVf ih m args h).symm (eG ih m f args h (dIj ih m args h).symm (eG ih m f args h (dWr ih m args h).symm (eG ih m f args h (dUu ih m args h).symm (eG ih m f args h (dIg ih m args h).symm rfl)))))))
def qg1 : aH:=bif Nat.beq f 11 then s11 ih m h else bif Nat.beq f 12 then s12 ih m (aV args 0) h else bif Nat.beq f 13 then s13 ih m (aV args 0) h else bif Nat.beq f 14 then s14 ih m (aV args 0) h else bif Nat.beq f 15 then s15 ih m (aV args 0) h else bif Nat.beq f 16 then s16 ih m (aV args 0) h else bif Nat.beq f 17 then s17 ih m (aV args 0) (aV args 1) h else bif Nat.beq f 18 then s18 ih m (aV args 0) h else aF CF ih m f args h
theorem dSj : qg1 ih m f args h = aF CF ih m f args h:=eG ih m f args h (cTb ih m args h).symm (eG ih m f args h (dMh ih m args h).symm (eG ih m f args h (dMk ih m args h).symm (eG ih m f args h (cTa ih m args h).symm (eG ih m f args h (cTj ih m args h).symm (eG ih m f args h (cTs ih m args h).symm (eG ih m f args h (cTr ih m args h).symm (eG ih m f args h (cSn ih m args h).symm rfl)))))))
def qg2 : aH:=bif Nat.beq f 19 then s19 ih m (aV args 0) (aV args 1) h else bif Nat.beq f 20 then s20 ih m (aV args 0) h else bif Nat.beq f 21 then s21 ih m (aV args 0) (aV args 1) h else bif Nat.beq f 22 then s22 ih m (aV args 0) (aV args 1) h else bif Nat.beq f 26 then s26 ih m (aV args 0) h else bif Nat.beq f 27 then s27 ih m (aV args 0) h else bif Nat.beq f 28 then s28 ih m (aV args 0) h else bif Nat.beq f 29 then s29 ih m (aV args 0) (aV args 1) h else aF CF ih m f args h
theorem dSl : qg2 ih m f args h = aF CF ih m f args h:=eG ih m f args h (cTp ih m args h).symm (eG ih m f args h (cUe ih m args h).symm (eG ih m f args h (cSz ih m args h).symm (eG ih m f args h (cRy ih m args h).symm (eG ih m f args h (cRm ih m args h).symm (eG ih m f args h (dJh ih m args h).symm (eG ih m f args h (cSc ih m args h).symm (eG ih m f args h (cSx ih m args h).symm rfl)))))))
def qg3 : aH:=bif Nat.beq f 30 then s30 ih m (aV args 0) (aV args 1) h else bif Nat.beq f 31 then s31 ih m (aV args 0) h else bif Nat.beq f 34 then s34 ih m h else bif Nat.beq f 35 then s35 ih m (aV args 0) h else bif Nat.beq f 36 then s36 ih m (aV args 0) h else bif Nat.beq f 44 then s44 ih m (aV args 0) (aV args 1) h else bif Nat.beq f 45 then s45 ih m (aV args 0) (aV args 1) h else bif Nat.beq f 50 then s50 ih m (aV args 0) h else aF CF ih m f args h
theorem dWu : qg3 ih m f args h = aF CF ih m f args h:=eG ih m f args h (cRi ih m args h).symm (eG ih m f args h (cSv ih m args h).symm (eG ih m f args h (cTn ih m args h).symm (eG ih m f args h (cSj ih m args h).symm (eG ih m f args h (cTx ih m args h).symm (eG ih m f args h (cSq ih m args h).symm (eG ih m f args h (cTw ih m args h).symm (eG ih m f args h (cTd ih m args h).symm rfl)))))))
def qg4 : aH:=bif Nat.beq f 51 then s51 ih m (aV args 0) h else bif Nat.beq f 52 then s52 ih m (aV args 0) h else bif Nat.beq f 53 then s53 ih m (aV args 0) h else bif Nat.beq f 54 then s54 ih m (aV args 0) h else bif Nat.beq f 55 then s55 ih m (aV args 0) h else bif Nat.beq f 73 then s73 ih m (aV args 0) h else bif Nat.beq f 75 then s75 ih m (aV args 0) (aV args 1) h else bif Nat.beq f 79 then s79 ih m (aV args 0) (aV args 1) h else aF CF ih m f args h
theorem dVc : qg4 ih m f args h = aF CF ih m f args h:=eG ih m f args h (cRp ih m args h).symm (eG ih m f args h (cTh ih m args h).symm (eG ih m f args h (cUh ih m args h).symm (eG ih m f args h (cTe ih m args h).symm (eG ih m f args h (dIi ih m args h).symm (eG ih m f args h (cSe ih m args h).symm (eG ih m f args h (cTi ih m args h).symm (eG ih m f args h (dKn ih m args h).symm rfl)))))))
def qg5 : aH:=bif Nat.beq f 81 then s81 ih m (aV args 0) (aV args 1) h else bif Nat.beq f 82 then s82 ih m (aV args 0) (aV args 1) h else bif Nat.beq f 83 then s83 ih m (aV args 0) h else bif Nat.beq f 85 then s85 ih m (aV args 0) (aV args 1) (aV args 2) h else bif Nat.beq f 87 then s87 ih m (aV args 0) (aV args 1) (aV args 2) h else bif Nat.beq f 123 then s123 ih m (aV args 0) (aV args 1) h else bif Nat.beq f 129 then s129 ih m (aV args 0) (aV args 1) (aV args 2) h else bif Nat.beq f 130 then s130 ih m (aV args 0) (aV args 1) h else aF CF ih m f args h
theorem dVa : qg5 ih m f args h = aF CF ih m f args h:=eG ih m f args h (dKc ih m args h).symm (eG ih m f args h (dLq ih m args h).symm (eG ih m f args h (dMm ih m args h).symm (eG ih m f args h (dMe ih m args h).symm (eG ih m f args h (dIf ih m args h).symm (eG ih m f args h (bOo ih m args h).symm (eG ih m f args h (dHg ih m args h).symm (eG ih m f args h (dBt ih m args h).symm rfl)))))))
def qg6 : aH:=bif Nat.beq f 131 then s131 ih m (aV args 0) (aV args 1) h else bif Nat.beq f 133 then s133 ih m (aV args 0) (aV args 1) (aV args 2) (aV args 3) h else bif Nat.beq f 139 then s139 ih m (aV args 0) (aV args 1) h else bif Nat.beq f 141 then s141 ih m (aV args 0) (aV args 1) (aV args 2) h else bif Nat.beq f 153 then s153 ih m (aV args 0) (aV args 1) h else bif Nat.beq f 158 then s158 ih m (aV args 0) (aV args 1) (aV args 2) h else bif Nat.beq f 193 then s193 ih m (aV args 0) (aV args 1) h else bif Nat.beq f 203 then s203 ih m (aV args 0) (aV args 1) h else aF CF ih m f args h
theorem dWb : qg6 ih m f args h = aF CF ih m f args h:=eG ih m f args h (dBm ih m args h).symm (eG ih m f args h (dAt ih m args h).symm (eG ih m f args h (cXj ih m args h).symm (eG ih m f args h (dGp ih m args h).symm (eG ih m f args h (dCe ih m args h).symm (eG ih m f args h (cVi ih m args h).symm (eG ih m f args h (bSc ih m args h).symm (eG ih m f args h (dBj ih m args h).symm rfl)))))))
def qg7 : aH:=bif Nat.beq f 204 then s204 ih m (aV args 0) (aV args 1) (aV args 2) h else bif Nat.beq f 206 then s206 ih m (aV args 0) (aV args 1) h else bif Nat.beq f 207 then s207 ih m (aV args 0) (aV args 1) (aV args 2) (aV args 3) h else bif Nat.beq f 218 then s218 ih m (aV args 0) h else bif Nat.beq f 221 then s221 ih m (aV args 0) (aV args 1) (aV args 2) h else bif Nat.beq f 223 then s223 ih m (aV args 0) h else bif Nat.beq f 224 then s224 ih m (aV args 0) (aV args 1) h else bif Nat.beq f 226 then s226 ih m (aV args 0) h else aF CF ih m f args h
theorem dWs : qg7 ih m f args h = aF CF ih m f args h:=eG ih m f args h (cWn ih m args h).symm (eG ih m f args h (dDd ih m args h).symm (eG ih m f args h (cUq ih m args h).symm (eG ih m f args h (dEp ih m args h).symm (eG ih m f args h (dGs ih m args h).symm (eG ih m f args h (dEy ih m args h).symm (eG ih m f args h (cVe ih m args h).symm (eG ih m f args h (dBk ih m args h).symm rfl)))))))
def qg8 : aH:=bif Nat.beq f 234 then s234 ih m (aV args 0) (aV args 1) h else bif Nat.beq f 286 then s286 ih m (aV args 0) (aV args 1) (aV args 2) h else bif Nat.beq f 287 then s287 ih m (aV args 0) h else bif Nat.beq f 288 then s288 ih m (aV args 0) h else bif Nat.beq f 289 then s289 ih m (aV args 0) (aV args 1) (aV args 2) h else bif Nat.beq f 290 then s290 ih m (aV args 0) h else bif Nat.beq f 293 then s293 ih m (aV args 0) (aV args 1) h else bif Nat.beq f 296 then s296 ih m (aV args 0) (aV args 1) (aV args 2) (aV args 3) h else aF CF ih m f args h
theorem dSu : qg8 ih m f args h = aF CF ih m f args h:=eG ih m f args h (cWj ih m args h).symm (eG ih m f args h (cVu ih m args h).symm (eG ih m f args h (dGi ih m args h).symm (eG ih m f args h (cXe ih m args h).symm (eG ih m f args h (dCt ih m args h).symm (eG ih m f args h (dBg ih m args h).symm (eG ih m f args h (cVa ih m args h).symm (eG ih m f args h (dHn ih m args h).symm rfl)))))))
def qg9 : aH:=bif Nat.beq f 297 then s297 ih m (aV args 0) h else bif Nat.beq f 298 then s298 ih m (aV args 0) (aV args 1) h else bif Nat.beq f 299 then s299 ih m (aV args 0) (aV args 1) h else bif Nat.beq f 338 then s338 ih m (aV args 0) (aV args 1) h else bif Nat.beq f 339 then s339 ih m (aV args 0) (aV args 1) h else bif Nat.beq f 340 then s340 ih m (aV args 0) h else bif Nat.beq f 341 then s341 ih m (aV args 0) h else bif Nat.beq f 342 then s342 ih m (aV args 0) h else aF CF ih m f args h
theorem dTf : qg9 ih m f args h = aF CF ih m f args h:=eG ih m f args h (dHl ih m args h).symm (eG ih m f args h (cYq ih m args h).symm (eG ih m f args h (cZn ih m args h).symm (eG ih m f args h (cVv ih m args h).symm (eG ih m f args h (dDt ih m args h).symm (eG ih m f args h (dBv ih m args h).symm (eG ih m f args h (dHr ih m args h).symm (eG ih m f args h (dBf ih m args h).symm rfl)))))))
def dNv : aH:=bif Nat.beq f 343 then s343 ih m (aV args 0) h else bif Nat.beq f 348 then s348 ih m (aV args 0) (aV args 1) h else bif Nat.beq f 360 then s360 ih m (aV args 0) (aV args 1) (aV args 2) h else bif Nat.beq f 364 then s364 ih m (aV args 0) (aV args 1) (aV args 2) h else bif Nat.beq f 367 then s367 ih m (aV args 0) (aV args 1) h else bif Nat.beq f 384 then s384 ih m (aV args 0) h else bif Nat.beq f 415 then s415 ih m (aV args 0) h else bif Nat.beq f 438 then s438 ih m (aV args 0) (aV args 1) h else aF CF ih m f args h
theorem dOs : dNv ih m f args h = aF CF ih m f args h:=eG ih m f args h (cYd ih m args h).symm (eG ih m f args h (dCq ih m args h).symm (eG ih m f args h (cXl ih m args h).symm (eG ih m f args h (cUr ih m args h).symm (eG ih m f args h (dHt ih m args h).symm (eG ih m f args h (dHd ih m args h).symm (eG ih m f args h (cVy ih m args h).symm (eG ih m f args h (dEo ih m args h).symm rfl)))))))
def dMv : aH:=bif Nat.beq f 439 then s439 ih m (aV args 0) (aV args 1) h else bif Nat.beq f 440 then s440 ih m (aV args 0) (aV args 1) (aV args 2) (aV args 3) (aV args 4) (aV args 5) (aV args 6) (aV args 7) h else bif Nat.beq f 441 then s441 ih m (aV args 0) h else bif Nat.beq f 442 then s442 ih m (aV args 0) h else bif Nat.beq f 454 then s454 ih m (aV args 0) h else bif Nat.beq f 505 then s505 ih m (aV args 0) h else aF CF ih m f args h
theorem dKu : dMv ih m f args h = aF CF ih m f args h:=eG ih m f args h (dBn ih m args h).symm (eG ih m f args h (cXp ih m args h).symm (eG ih m f args h (dCw ih m args h).symm (eG ih m f args h (dEv ih m args h).symm (eG ih m f args h (cUo ih m args h).symm (eG ih m f args h (cVr ih m args h).symm rfl)))))
def qd0 : aH:=bif Nat.blt f 19 then qg1 ih m f args h else qg2 ih m f args h
theorem dTr : qd0 ih m f args h = aF CF ih m f args h:=ndC ih m f args h (dSj ih m f args h) (dSl ih m f args h)
def qd1 : aH:=bif Nat.blt f 11 then qg0 ih m f args h else qd0 ih m f args h
theorem dTs : qd1 ih m f args h = aF CF ih m f args h:=ndC ih m f args h (dVy ih m f args h) (dTr ih m f args h)
def qd2 : aH:=bif Nat.blt f 81 then qg4 ih m f args h else qg5 ih m f args h
theorem dUr : qd2 ih m f args h = aF CF ih m f args h:=ndC ih m f args h (dVc ih m f args h) (dVa ih m f args h)
def qd3 : aH:=bif Nat.blt f 51 then qg3 ih m f args h else qd2 ih m f args h
theorem dUt : qd3 ih m f args h = aF CF ih m f args h:=ndC ih m f args h (dWu ih m f args h) (dUr ih m f args h)
def qd4 : aH:=bif Nat.blt f 30 then qd1 ih m f args h else qd3 ih m f args h
theorem dSb : qd4 ih m f args h = aF CF ih m f args h:=ndC ih m f args h (dTs ih m f args h) (dUt ih m f args h)
def qd5 : aH:=bif Nat.blt f 234 then qg7 ih m f args h else qg8 ih m f args h
theorem dXd : qd5 ih m f args h = aF CF ih m f args h:=ndC ih m f args h (dWs ih m f args h) (dSu ih m f args h)
def qd6 : aH:=bif Nat.blt f 204 then qg6 ih m f args h else qd5 ih m f args h
theorem dRc : qd6 ih m f args h = aF CF ih m f args h:=ndC ih m f args h (dWb ih m f args h) (dXd ih m f args h)
def qd7 : aH:=bif Nat.blt f 439 then dNv ih m f args h else dMv ih m f args h
theorem dUc : qd7 ih m f args h = aF CF ih m f args h:=ndC ih m f args h (dOs ih m f args h) (dKu ih m f args h)
def qd8 : aH:=bif Nat.blt f 343 then qg9 ih m f args h else qd7 ih m f args h
theorem dTq : qd8 ih m f args h = aF CF ih m f args h:=ndC ih m f args h (dTf ih m f args h) (dUc ih m f args h)
def qd9 : aH:=bif Nat.blt f 297 then qd6 ih m f args h else qd8 ih m f args h
theorem dWv : qd9 ih m f args h = aF CF ih m f args h:=ndC ih m f args h (dRc ih m f args h) (dTq ih m f args h)
def dQf : aH:=bif Nat.blt f 131 then qd4 ih m f args h else qd9 ih m f args h
theorem dKy : dQf ih m f args h = aF CF ih m f args h:=ndC ih m f args h (dSb ih m f args h) (dWv ih m f args h)
end
def shB (ih : RT) (m : Nat) (f : FuncId) (args : List DV) (h : Hp) : aH:=dQf ih m f args h
theorem bUy (ih : RT) (m : Nat) (f : FuncId) (args : List DV) (h : Hp) : shB ih m f args h = aF CF ih m f args h:=dKy ih m f args h
def dB (n : Nat) : FuncId → List DV → Hp → aH :=
 Nat.rec (motive:=fun _=>FuncId → List DV → Hp → aH) (fun _ _ _=>none) (fun m ih=>fun f args h=>bif rgB f then jU CF ih m itm f args h else shB ih m f args h) n
theorem cH (f : FuncId) (hf : rgB f = false) (n : Nat) (args : List DV) (h : Hp) : dB (n + 1) f args h = aF CF (dB n) n f args h:=by
 show (bif rgB f then jU CF (dB n) n itm f args h else shB (dB n) n f args h) = _
 rw [hf,cond_false,bUy]
theorem yU : ∀ n,dB n = fT CF n
 | 0=>rfl
 | n + 1=>by
  funext f args h
  show (bif rgB f then jU CF (dB n) n itm f args h else shB (dB n) n f args h) = (bif rgB f then jU CF (fT CF n) n itm f else aF CF (fT CF n) n f) args h
  rw [← yU n]
  cases rgB f with
  | true=>rfl
  | false=>exact bUy _ _ _ _ _
end Go.Dd

namespace Go.Dd
noncomputable section
def mkW (l : List Nat) : Nat → WT → WT:=List.rec (motive:=fun _=>Nat → WT → WT) (fun _ t=>t) (fun x _ ih i t=>ih (Nat.add i 1) (t.set i (.ofNat x))) l
def dCz (l : List (Nat × Nat)) : WT → WT:=List.rec (motive:=fun _=>WT → WT) (fun t=>t) (fun x _ ih t=>ih (t.set x.1 (.ofNat x.2))) l
def mkP (l : List Nat) : WT → WT:=List.rec (motive:=fun _=>WT → WT) (fun t=>t) (fun x _ ih t=>ih (t.set x (.ofNat 1))) l
def cQo (l : List Nat) : Nat → List Nat:=List.rec (motive:=fun _=>Nat → List Nat) (fun _=>[]) (fun x _ ih n=>bif Nat.beq n 0 then [] else x :: ih (Nat.sub n 1)) l
def cUv (f : Nat) : Nat → Pos:=Nat.rec (motive:=fun _=>Nat → Pos) (fun _=>.h) (fun _ ih n=>bif Nat.beq n 1 then .h else bif Nat.beq (Nat.mod n 2) 0 then .o (ih (Nat.div n 2)) else .i (ih (Nat.div n 2))) f
def cT (n : Nat) : Pos:=cUv 24 (Nat.add 1023 n)
def eX : List Nat:=[79,98,106,101,99,116]
def aIc : List Nat:=[67,108,97,115,115]
def aAi : List Nat:=[84,114,117,101]
def rC : List Nat:=[70,97,108,115,101]
def eD : List Nat:=[73,110,116,101,103,101,114]
def aHe : List Nat:=[65,114,114,97,121]
def rX : List Nat:=[83,116,114,105,110,103]
def cFa : List Nat:=[83,121,109,98,111,108]
def tU : List Nat:=[66,108,111,99,107]
def jO : List Nat:=[67,111,110,116,101,120,116]
def aMr : List Nat:=[77,101,115,115,97,103,101]
def dJv : List (List Nat × List Nat):=[
 (eX,[61,32,111,116,104,101,114,32,94,115,101,108,102,32,61,61,32,111,116,104,101,114]),
 (eX,[61,61,32,111,116,104,101,114,32,60,112,114,105,109,105,116,105,118,101,58,32,49,48,62]),
 (eX,[99,108,97,115,115,32,60,112,114,105,109,105,116,105,118,101,58,32,49,49,62]),
 (eX,[105,115,78,105,108,32,94,115,101,108,102,32,61,61,32,110,105,108]),
 (eX,[110,111,116,78,105,108,32,94,40,115,101,108,102,32,61,61,32,110,105,108,41,32,61,61,32,102,97,108,115,101]),
 (eX,[126,61,32,111,116,104,101,114,32,94,40,115,101,108,102,32,61,32,111,116,104,101,114,41,32,61,61,32,102,97,108,115,101]),
 (eX,[121,111,117,114,115,101,108,102,32,94,115,101,108,102]),
 (eX,[105,110,115,116,86,97,114,65,116,58,32,105,32,60,112,114,105,109,105,116,105,118,101,58,32,53,48,62]),
 (eX,[105,110,115,116,86,97,114,65,116,58,32,105,32,112,117,116,58,32,120,32,60,112,114,105,109,105,116,105,118,101,58,32,53,49,62]),
 (eX,[98,101,99,111,109,101,58,32,111,116,104,101,114,32,60,112,114,105,109,105,116,105,118,101,58,32,54,48,62]),
 (eX,[112,101,114,102,111,114,109,58,32,115,32,60,112,114,105,109,105,116,105,118,101,58,32,51,49,62]),
 (eX,[112,101,114,102,111,114,109,58,32,115,32,119,105,116,104,58,32,97,32,60,112,114,105,109,105,116,105,118,101,58,32,51,50,62]),
 (eX,[115,104,111,119,32,60,112,114,105,109,105,116,105,118,101,58,32,55,48,62]),
 (eX,[101,114,114,111,114,58,32,115,32,60,112,114,105,109,105,116,105,118,101,58,32,55,49,62]),
 (eX,[100,111,101,115,78,111,116,85,110,100,101,114,115,116,97,110,100,58,32,109,32,60,112,114,105,109,105,116,105,118,101,58,32,55,50,62]),
 (eX,[109,117,115,116,66,101,66,111,111,108,101,97,110,32,60,112,114,105,109,105,116,105,118,101,58,32,55,51,62]),
 (aIc,[110,101,119,32,60,112,114,105,109,105,116,105,118,101,58,32,50,51,62]),
 (aIc,[110,101,119,58,32,110,32,60,112,114,105,109,105,116,105,118,101,58,32,50,52,62]),
 (aIc,[110,97,109,101,32,60,112,114,105,109,105,116,105,118,101,58,32,52,48,62]),
 (aIc,[115,117,112,101,114,99,108,97,115,115,32,60,112,114,105,109,105,116,105,118,101,58,32,52,49,62]),
 (aAi,[105,102,84,114,117,101,58,32,98,32,94,98,32,118,97,108,117,101]),
 (aAi,[105,102,70,97,108,115,101,58,32,98,32,94,110,105,108]),
 (aAi,[105,102,84,114,117,101,58,32,97,32,105,102,70,97,108,115,101,58,32,98,32,94,97,32,118,97,108,117,101]),
 (aAi,[105,102,70,97,108,115,101,58,32,97,32,105,102,84,114,117,101,58,32,98,32,94,98,32,118,97,108,117,101]),
 (aAi,[97,110,100,58,32,98,32,94,98,32,118,97,108,117,101]),
 (aAi,[111,114,58,32,98,32,94,115,101,108,102]),
 (aAi,[110,111,116,32,94,102,97,108,115,101]),
 (rC,[105,102,84,114,117,101,58,32,98,32,94,110,105,108]),
 (rC,[105,102,70,97,108,115,101,58,32,98,32,94,98,32,118,97,108,117,101]),
 (rC,[105,102,84,114,117,101,58,32,97,32,105,102,70,97,108,115,101,58,32,98,32,94,98,32,118,97,108,117,101]),
 (rC,[105,102,70,97,108,115,101,58,32,97,32,105,102,84,114,117,101,58,32,98,32,94,97,32,118,97,108,117,101]),
 (rC,[97,110,100,58,32,98,32,94,115,101,108,102]),
 (rC,[111,114,58,32,98,32,94,98,32,118,97,108,117,101]),
 (rC,[110,111,116,32,94,116,114,117,101]),
 (eD,[43,32,110,32,60,112,114,105,109,105,116,105,118,101,58,32,49,62,32,94,115,101,108,102,32,101,114,114,111,114,58,32,35,110,117,109,98,101,114]),
 (eD,[45,32,110,32,60,112,114,105,109,105,116,105,118,101,58,32,50,62,32,94,115,101,108,102,32,101,114,114,111,114,58,32,35,110,117,109,98,101,114]),
 (eD,[42,32,110,32,60,112,114,105,109,105,116,105,118,101,58,32,51,62,32,94,115,101,108,102,32,101,114,114,111,114,58,32,35,110,117,109,98,101,114]),
 (eD,[47,47,32,110,32,60,112,114,105,109,105,116,105,118,101,58,32,52,62,32,94,115,101,108,102,32,101,114,114,111,114,58,32,35,110,117,109,98,101,114]),
 (eD,[37,32,110,32,60,112,114,105,109,105,116,105,118,101,58,32,53,62,32,94,115,101,108,102,32,101,114,114,111,114,58,32,35,110,117,109,98,101,114]),
 (eD,[60,32,110,32,60,112,114,105,109,105,116,105,118,101,58,32,54,62,32,94,115,101,108,102,32,101,114,114,111,114,58,32,35,110,117,109,98,101,114]),
 (eD,[61,32,110,32,60,112,114,105,109,105,116,105,118,101,58,32,55,62,32,94,102,97,108,115,101]),
 (eD,[62,32,110,32,94,110,32,60,32,115,101,108,102]),
 (eD,[60,61,32,110,32,94,40,110,32,60,32,115,101,108,102,41,32,110,111,116]),
 (eD,[62,61,32,110,32,94,40,115,101,108,102,32,60,32,110,41,32,110,111,116]),
 (eD,[110,101,103,97,116,101,100,32,94,48,32,45,32,115,101,108,102]),
 (eD,[97,98,115,32,115,101,108,102,32,60,32,48,32,105,102,84,114,117,101,58,32,91,94,115,101,108,102,32,110,101,103,97,116,101,100,93]),
 (eD,[109,97,120,58,32,110,32,115,101,108,102,32,60,32,110,32,105,102,84,114,117,101,58,32,91,94,110,93]),
 (eD,[116,105,109,101,115,82,101,112,101,97,116,58,32,98,32,124,32,105,32,124,32,105,32,58,61,32,48,46,32,91,105,32,60,32,115,101,108,102,93,32,119,104,105,108,101,84,114,117,101,58,32,91,98,32,118,97,108,117,101,46,32,105,32,58,61,32,105,32,43,32,49,93]),
 (eD,[116,111,58,32,110,32,100,111,58,32,98,32,124,32,105,32,124,32,105,32,58,61,32,115,101,108,102,46,32,91,105,32,60,61,32,110,93,32,119,104,105,108,101,84,114,117,101,58,32,91,98,32,118,97,108,117,101,58,32,105,46,32,105,32,58,61,32,105,32,43,32,49,93]),
 (aHe,[97,116,58,32,105,32,60,112,114,105,109,105,116,105,118,101,58,32,50,48,62,32,94,115,101,108,102,32,101,114,114,111,114,58,32,35,105,110,100,101,120]),
 (aHe,[97,116,58,32,105,32,112,117,116,58,32,120,32,60,112,114,105,109,105,116,105,118,101,58,32,50,49,62,32,94,115,101,108,102,32,101,114,114,111,114,58,32,35,105,110,100,101,120]),
 (aHe,[115,105,122,101,32,60,112,114,105,109,105,116,105,118,101,58,32,50,50,62]),
 (aHe,[100,111,58,32,98,32,49,32,116,111,58,32,115,101,108,102,32,115,105,122,101,32,100,111,58,32,91,58,105,32,124,32,98,32,118,97,108,117,101,58,32,40,115,101,108,102,32,97,116,58,32,105,41,93]),
 (rX,[97,116,58,32,105,32,60,112,114,105,109,105,116,105,118,101,58,32,50,48,62,32,94,115,101,108,102,32,101,114,114,111,114,58,32,35,105,110,100,101,120]),
 (rX,[97,116,58,32,105,32,112,117,116,58,32,120,32,60,112,114,105,109,105,116,105,118,101,58,32,50,49,62,32,94,115,101,108,102,32,101,114,114,111,114,58,32,35,105,110,100,101,120]),
 (rX,[115,105,122,101,32,60,112,114,105,109,105,116,105,118,101,58,32,50,50,62]),
 (rX,[44,32,115,32,60,112,114,105,109,105,116,105,118,101,58,32,50,53,62,32,94,115,101,108,102,32,101,114,114,111,114,58,32,35,115,116,114,105,110,103]),
 (rX,[61,32,115,32,60,112,114,105,109,105,116,105,118,101,58,32,50,54,62]),
 (cFa,[61,32,115,32,94,115,101,108,102,32,61,61,32,115]),
 (tU,[118,97,108,117,101,32,60,112,114,105,109,105,116,105,118,101,58,32,51,51,62,32,94,115,101,108,102,32,101,114,114,111,114,58,32,35,97,114,103,117,109,101,110,116,115]),
 (tU,[118,97,108,117,101,58,32,97,32,60,112,114,105,109,105,116,105,118,101,58,32,51,52,62,32,94,115,101,108,102,32,101,114,114,111,114,58,32,35,97,114,103,117,109,101,110,116,115]),
 (tU,[118,97,108,117,101,58,32,97,32,118,97,108,117,101,58,32,98,32,60,112,114,105,109,105,116,105,118,101,58,32,51,53,62,32,94,115,101,108,102,32,101,114,114,111,114,58,32,35,97,114,103,117,109,101,110,116,115]),
 (tU,[119,104,105,108,101,84,114,117,101,58,32,98,32,91,115,101,108,102,32,118,97,108,117,101,93,32,119,104,105,108,101,84,114,117,101,58,32,91,98,32,118,97,108,117,101,93]),
 (tU,[101,110,115,117,114,101,58,32,98,32,60,112,114,105,109,105,116,105,118,101,58,32,57,48,62,32,124,32,118,32,100,111,110,101,32,124,32,118,32,58,61,32,115,101,108,102,32,118,97,108,117,101,46,32,100,111,110,101,32,58,61,32,116,114,117,101,46,32,98,32,118,97,108,117,101,46,32,94,118]),
 (tU,[105,102,67,117,114,116,97,105,108,101,100,58,32,98,32,60,112,114,105,109,105,116,105,118,101,58,32,57,49,62,32,124,32,118,32,100,111,110,101,32,124,32,118,32,58,61,32,115,101,108,102,32,118,97,108,117,101,46,32,100,111,110,101,32,58,61,32,116,114,117,101,46,32,94,118]),
 (jO,[115,101,110,100,101,114,32,60,112,114,105,109,105,116,105,118,101,58,32,56,48,62]),
 (jO,[114,101,99,101,105,118,101,114,32,60,112,114,105,109,105,116,105,118,101,58,32,56,49,62]),
 (jO,[115,101,108,101,99,116,111,114,32,60,112,114,105,109,105,116,105,118,101,58,32,56,50,62]),
 (jO,[112,99,32,60,112,114,105,109,105,116,105,118,101,58,32,56,51,62]),
 (jO,[116,101,109,112,65,116,58,32,105,32,60,112,114,105,109,105,116,105,118,101,58,32,56,52,62,32,94,115,101,108,102,32,101,114,114,111,114,58,32,35,105,110,100,101,120]),
 (jO,[116,101,109,112,65,116,58,32,105,32,112,117,116,58,32,120,32,60,112,114,105,109,105,116,105,118,101,58,32,56,53,62,32,94,115,101,108,102,32,101,114,114,111,114,58,32,35,105,110,100,101,120]),
 (jO,[114,101,116,117,114,110,58,32,120,32,60,112,114,105,109,105,116,105,118,101,58,32,56,54,62,32,94,115,101,108,102,32,99,97,110,110,111,116,82,101,116,117,114,110,58,32,120]),
 (jO,[99,97,110,110,111,116,82,101,116,117,114,110,58,32,120,32,60,112,114,105,109,105,116,105,118,101,58,32,55,52,62]),
 (aMr,[115,101,108,101,99,116,111,114,32,94,115,101,108,101,99,116,111,114]),
 (aMr,[97,114,103,117,109,101,110,116,115,32,94,97,114,103,117,109,101,110,116,115])]
def dXr (l : List (List Nat × List Nat)) : Nat → List DV:=List.rec (motive:=fun _=>Nat → List DV) (fun _=>[]) (fun _ _ ih p=>.l (cT p) 0 2 2 :: ih (Nat.add p 1)) l
def dMl (l : List (List Nat × Nat)) : List (DV × DV):=List.rec (motive:=fun _=>List (DV × DV)) [] (fun x _ ih=>(.s x.1,.i .i64 (.ofNat x.2)) :: ih) l
def dWg (l : List Nat) : List DV:=List.rec (motive:=fun _=>List DV) [] (fun x _ ih=>.i .i64 (.ofNat x) :: ih) l
def wsF : List Nat:=[0,0,0,24,24,1,294,0,1,322,2670,1,24,24,2,338,6,1,364,3024,7,24,24,3,380,6,1,426,0,7,24,24,4,442,6,1,472,0,7,24,24,5,488,60,1,512,3738,7,24,24,6,528,60,1,554,4204,7,24,24,7,570,6,1,600,6046,7,24,24,8,616,114,1,656,0,7,24,24,9,672,114,1,712,0,7,24,24,10,728,6,1,754,6538,3,24,24,11,770,6,1,798,6942,5,24,24,12,814,186,1,842,7018,5,24,24,13,858,6,1,884,7746,7,24,24,14,900,6,1,930,8508,7,24,24,15,946,6,1,974,0,7,24,24,16,990,6,5,1086,8632,1,26,204,17,79,98,106,101,99,116,8,168,18,294,0,0,168,19,8,168,20,6,0,22,204,21,67,108,97,115,115,8,168,22,338,312,0,168,23,8,168,24,24,328,62,204,25,85,110,100,101,102,105,110,101,100,79,98,106,101,99,116,8,168,26,380,354,0,168,27,8,168,28,42,370,30,204,29,66,111,111,108,101,97,110,8,168,30,442,416,0,168,31,8,168,32,60,432,18,204,33,84,114,117,101,8,168,34,488,462,0,168,35,8,168,36,78,478,22,204,37,70,97,108,115,101,8,168,38,528,502,0,168,39,8,168,40,96,518,30,204,41,73,110,116,101,103,101,114,8,168,42,570,544,0,168,43,8,168,44,114,560,50,204,45,83,109,97,108,108,73,110,116,101,103,101,114,8,168,46,616,590,0,168,47,8,168,48,132,606,50,204,49,76,97,114,103,101,73,110,116,101,103,101,114,8,168,50,672,646,0,168,51,8,168,52,150,662,22,204,53,65,114,114,97,121,8,168,54,728,702,0,168,55,8,168,56,168,718,26,204,57,83,116,114,105,110,103,8,168,58,770,744,0,168,59,8,168,60,186,760,26,204,61,83,121,109,98,111,108,8,168,62,814,788,0,168,63,8,168,64,204,804,22,204,65,66,108,111,99,107,8,168,66,858,832,0,168,67,8,168,68,222,848,30,204,69,67,111,110,116,101,120,116,8,168,70,900,874,0,168,71,8,168,72,240,890,26,204,73,77,101,116,104,111,100,8,168,74,946,920,0,168,75,8,168,76,258,936,30,204,77,77,101,115,115,97,103,101,8,168,78,990,964,34,204,79,115,101,108,101,99,116,111,114,8,168,80,1020,1010,38,204,81,97,114,103,117,109,101,110,116,115,8,168,82,1052,1042,8,168,83,1020,1052,8,168,84,276,980,6,204,85,61,8,168,86,1106,1076,10,204,87,61,61,8,168,88,1124,1114,4,168,89,1124,50,186,90,1,0,0,7,0,0,14,0,1,20,0,0,4,168,91,1152,28,258,92,1106,3,3,1,1144,1182,6,8,168,93,1190,0,0,168,94,26,186,95,1,0,0,20,0,0,4,168,96,1226,28,258,97,1124,3,3,21,1220,1244,6,8,168,98,1252,1210,22,204,99,99,108,97,115,115,8,168,100,1282,1134,0,168,101,26,186,102,1,0,0,20,0,0,4,168,103,1314,28,258,104,1282,1,1,23,1308,1332,6,8,168,105,1340,1272,22,204,106,105,115,78,105,108,8,168,107,1370,1298,4,168,108,1124,50,186,109,1,0,0,2,0,0,14,0,1,20,0,0,4,168,110,1404,28,258,111,1370,1,1,1,1396,1434,6,8,168,112,1442,1360,26,204,113,110,111,116,78,105,108,8,168,114,1472,1386,4,168,115,1124,74,186,116,1,0,0,2,0,0,14,0,1,4,0,0,14,0,1,20,0,0,4,168,117,1508,28,258,118,1472,1,1,1,1500,1550,6,8,168,119,1558,1462,10,204,120,126,61,8,168,121,1588,1490,8,168,122,1106,1124,74,186,123,1,0,0,7,0,0,14,0,1,4,0,0,14,1,1,20,0,0,4,168,124,1618,28,258,125,1588,3,3,1,1608,1660,6,8,168,126,1668,1578,34,204,127,121,111,117,114,115,101,108,102,8,168,128,1698,1598,0,168,129,26,186,130,1,0,0,20,0,0,4,168,131,1736,28,258,132,1698,1,1,1,1730,1754,6,8,168,133,1762,1688,42,204,134,105,110,115,116,86,97,114,65,116,58,8,168,135,1792,1720,0,168,136,26,186,137,1,0,0,20,0,0,4,168,138,1834,28,258,139,1792,3,3,101,1828,1852,6,8,168,140,1860,1782,58,204,141,105,110,115,116,86,97,114,65,116,58,112,117,116,58,8,168,142,1890,1818,0,168,143,26,186,144,1,0,0,20,0,0,4,168,145,1940,28,258,146,1890,5,5,103,1934,1958,6,8,168,147,1966,1880,30,204,148,98,101,99,111,109,101,58,8,168,149,1996,1924,0,168,150,26,186,151,1,0,0,20,0,0,4,168,152,2032,28,258,153,1996,3,3,121,2026,2050,6,8,168,154,2058,1986,34,204,155,112,101,114,102,111,114,109,58,8,168,156,2088,2016,0,168,157,26,186,158,1,0,0,20,0,0,4,168,159,2126,28,258,160,2088,3,3,63,2120,2144,6,8,168,161,2152,2078,54,204,162,112,101,114,102,111,114,109,58,119,105,116,104,58,8,168,163,2182,2110,0,168,164,26,186,165,1,0,0,20,0,0,4,168,166,2230,28,258,167,2182,5,5,65,2224,2248,6,8,168,168,2256,2172,18,204,169,115,104,111,119,8,168,170,2286,2214,0,168,171,26,186,172,1,0,0,20,0,0,4,168,173,2316,28,258,174,2286,1,1,141,2310,2334,6,8,168,175,2342,2276,26,204,176,101,114,114,111,114,58,8,168,177,2372,2300,0,168,178,26,186,179,1,0,0,20,0,0,4,168,180,2406,28,258,181,2372,3,3,143,2400,2424,6,8,168,182,2432,2362,74,204,183,100,111,101,115,78,111,116,85,110,100,101,114,115,116,97,110,100,58,8,168,184,2462,2390,0,168,185,26,186,186,1,0,0,20,0,0,4,168,187,2520,28,258,188,2462,3,3,145,2514,2538,6,8,168,189,2546,2452,54,204,190,109,117,115,116,66,101,66,111,111,108,101,97,110,8,168,191,2576,2504,0,168,192,26,186,193,1,0,0,20,0,0,4,168,194,2624,28,258,195,2576,1,1,147,2618,2642,6,8,168,196,2650,2566,14,204,197,110,101,119,8,168,198,2680,2608,0,168,199,26,186,200,1,0,0,20,0,0,4,168,201,2708,28,258,202,2680,1,1,47,2702,2726,24,8,168,203,2734,0,18,204,204,110,101,119,58,8,168,205,2764,2692,0,168,206,26,186,207,1,0,0,20,0,0,4,168,208,2794,28,258,209,2764,3,3,49,2788,2812,24,8,168,210,2820,2754,18,204,211,110,97,109,101,8,168,212,2850,2778,0,168,213,26,186,214,1,0,0,20,0,0,4,168,215,2880,28,258,216,2850,1,1,81,2874,2898,24,8,168,217,2906,2840,42,204,218,115,117,112,101,114,99,108,97,115,115,8,168,219,2936,2864,0,168,220,26,186,221,1,0,0,20,0,0,4,168,222,2978,28,258,223,2936,1,1,83,2972,2996,24,8,168,224,3004,2926,30,204,225,105,102,84,114,117,101,58,8,168,226,3034,2962,22,204,227,118,97,108,117,101,8,168,228,3064,3054,4,168,229,3064,38,186,230,7,0,0,14,0,0,20,0,0,4,168,231,3098,28,258,232,3034,3,3,1,3090,3122,78,8,168,233,3130,0,34,204,234,105,102,70,97,108,115,101,58,8,168,235,3160,3080,0,168,236,26,186,237,2,0,0,20,0,0,4,168,238,3198,28,258,239,3160,3,3,1,3192,3216,78,8,168,240,3224,3150,62,204,241,105,102,84,114,117,101,58,105,102,70,97,108,115,101,58,8,168,242,3254,3182,4,168,243,3064,38,186,244,7,0,0,14,0,0,20,0,0,4,168,245,3308,28,258,246,3254,5,5,1,3300,3332,78,8,168,247,3340,3244,62,204,248,105,102,70,97,108,115,101,58,105,102,84,114,117,101,58,8,168,249,3370,3290,4,168,250,3064,38,186,251,7,1,0,14,0,0,20,0,0,4,168,252,3424,28,258,253,3370,5,5,1,3416,3448,78,8,168,254,3456,3360,18,204,255,97,110,100,58,8,168,256,3486,3406,4,168,257,3064,38,186,258,7,0,0,14,0,0,20,0,0,4,168,259,3518,28,258,260,3486,3,3,1,3510,3542,78,8,168,261,3550,3476,14,204,262,111,114,58,8,168,263,3580,3500,0,168,264,26,186,265,1,0,0,20,0,0,4,168,266,3608,28,258,267,3580,3,3,1,3602,3626,78,8,168,268,3634,3570,14,204,269,110,111,116,8,168,270,3664,3592,0,168,271,26,186,272,4,0,0,20,0,0,4,168,273,3692,28,258,274,3664,1,1,1,3686,3710,78,8,168,275,3718,3654,0,168,276,26,186,277,2,0,0,20,0,0,4,168,278,3754,28,258,279,3034,3,3,1,3748,3772,96,8,168,280,3780,0,4,168,281,3064,38,186,282,7,0,0,14,0,0,20,0,0,4,168,283,3818,28,258,284,3160,3,3,1,3810,3842,96,8,168,285,3850,3800,4,168,286,3064,38,186,287,7,1,0,14,0,0,20,0,0,4,168,288,3888,28,258,289,3254,5,5,1,3880,3912,96,8,168,290,3920,3870,4,168,291,3064,38,186,292,7,0,0,14,0,0,20,0,0,4,168,293,3958,28,258,294,3370,5,5,1,3950,3982,96,8,168,295,3990,3940,0,168,296,26,186,297,1,0,0,20,0,0,4,168,298,4026,28,258,299,3486,3,3,1,4020,4044,96,8,168,300,4052,4010,4,168,301,3064,38,186,302,7,0,0,14,0,0,20,0,0,4,168,303,4090,28,258,304,3580,3,3,1,4082,4114,96,8,168,305,4122,4072,0,168,306,26,186,307,3,0,0,20,0,0,4,168,308,4158,28,258,309,3664,1,1,1,4152,4176,96,8,168,310,4184,4142,6,204,311,43,8,168,312,4214,3676,26,204,313,110,117,109,98,101,114,8,168,314,4232,4222,8,168,315,4232,2372,50,186,316,1,0,0,6,0,0,14,1,1,20,0,0,4,168,317,4270,28,258,318,4214,3,3,3,4260,4300,114,8,168,319,4308,0,6,204,320,45,8,168,321,4338,4250,8,168,322,4232,2372,50,186,323,1,0,0,6,0,0,14,1,1,20,0,0,4,168,324,4366,28,258,325,4338,3,3,5,4356,4396,114,8,168,326,4404,4328,6,204,327,42,8,168,328,4434,4346,8,168,329,4232,2372,50,186,330,1,0,0,6,0,0,14,1,1,20,0,0,4,168,331,4462,28,258,332,4434,3,3,7,4452,4492,114,8,168,333,4500,4424,10,204,334,47,47,8,168,335,4530,4442,8,168,336,4232,2372,50,186,337,1,0,0,6,0,0,14,1,1,20,0,0,4,168,338,4560,28,258,339,4530,3,3,9,4550,4590,114,8,168,340,4598,4520,6,204,341,37,8,168,342,4628,4540,8,168,343,4232,2372,50,186,344,1,0,0,6,0,0,14,1,1,20,0,0,4,168,345,4656,28,258,346,4628,3,3,11,4646,4686,114,8,168,347,4694,4618,6,204,348,60,8,168,349,4724,4636,8,168,350,4232,2372,50,186,351,1,0,0,6,0,0,14,1,1,20,0,0,4,168,352,4752,28,258,353,4724,3,3,13,4742,4782,114,8,168,354,4790,4714,0,168,355,26,186,356,4,0,0,20,0,0,4,168,357,4826,28,258,358,1106,3,3,15,4820,4844,114,8,168,359,4852,4810,6,204,360,62,8,168,361,4882,4732,4,168,362,4724,50,186,363,7,0,0,1,0,0,14,0,1,20,0,0,4,168,364,4908,28,258,365,4882,3,3,1,4900,4938,114,8,168,366,4946,4872,10,204,367,60,61,8,168,368,4976,4890,8,168,369,4724,3664,62,186,370,7,0,0,1,0,0,14,0,1,14,1,0,20,0,0,4,168,371,5006,28,258,372,4976,3,3,1,4996,5042,114,8,168,373,5050,4966,10,204,374,62,61,8,168,375,5080,4986,8,168,376,4724,3664,62,186,377,1,0,0,7,0,0,14,0,1,14,1,0,20,0,0,4,168,378,5110,28,258,379,5080,3,3,1,5100,5146,114,8,168,380,5154,5070,30,204,381,110,101,103,97,116,101,100,8,168,382,5184,5090,8,168,383,1,4338,50,186,384,6,0,0,1,0,0,14,1,1,20,0,0,4,168,385,5224,28,258,386,5184,1,1,1,5214,5254,114,8,168,387,5262,5174,14,204,388,97,98,115,8,168,389,5292,5204,12,168,390,1,4724,5184,158,186,391,1,0,0,6,0,0,14,1,1,17,9,0,1,0,0,14,2,0,20,0,0,2,0,0,16,10,0,2,0,0,12,0,0,1,0,0,20,0,0,4,168,392,5326,28,258,393,5292,1,1,1,5314,5410,114,8,168,394,5418,5282,18,204,395,109,97,120,58,8,168,396,5448,5304,4,168,397,4724,146,186,398,1,0,0,7,0,0,14,0,1,17,8,0,7,0,0,20,0,0,2,0,0,16,9,0,2,0,0,12,0,0,1,0,0,20,0,0,4,168,399,5480,28,258,400,5448,3,3,1,5472,5558,114,8,168,401,5566,5438,50,204,402,116,105,109,101,115,82,101,112,101,97,116,58,8,168,403,5596,5462,20,168,404,1,4724,3064,3,4214,242,186,405,6,0,0,10,1,0,12,0,0,7,1,0,1,0,0,14,1,1,17,16,0,7,0,0,14,2,0,12,0,0,7,1,0,6,3,0,14,4,1,10,1,0,12,0,0,16,3,0,2,0,0,12,0,0,1,0,0,20,0,0,4,168,406,5652,28,258,407,5596,3,5,1,5636,5778,114,8,168,408,5786,5586,26,204,409,116,111,58,100,111,58,8,168,410,5816,5626,26,204,411,118,97,108,117,101,58,8,168,412,5844,5834,16,168,413,4976,5844,3,4214,254,186,414,1,0,0,10,2,0,12,0,0,7,2,0,7,0,0,14,0,1,17,17,0,7,1,0,7,2,0,14,1,1,12,0,0,7,2,0,6,2,0,14,3,1,10,2,0,12,0,0,16,3,0,2,0,0,12,0,0,1,0,0,20,0,0,4,168,415,5886,28,258,416,5816,5,7,1,5872,6018,114,8,168,417,6026,5806,14,204,418,97,116,58,8,168,419,6056,5862,22,204,420,105,110,100,101,120,8,168,421,6078,6068,8,168,422,6078,2372,50,186,423,1,0,0,6,0,0,14,1,1,20,0,0,4,168,424,6114,28,258,425,6056,3,3,41,6104,6144,168,8,168,426,6152,0,30,204,427,97,116,58,112,117,116,58,8,168,428,6182,6094,8,168,429,6078,2372,50,186,430,1,0,0,6,0,0,14,1,1,20,0,0,4,168,431,6222,28,258,432,6182,5,5,43,6212,6252,168,8,168,433,6260,6172,18,204,434,115,105,122,101,8,168,435,6290,6202,0,168,436,26,186,437,1,0,0,20,0,0,4,168,438,6320,28,258,439,6290,1,1,45,6314,6338,168,8,168,440,6346,6280,14,204,441,100,111,58,8,168,442,6376,6304,20,168,443,3,6290,6056,5844,5816,182,186,444,6,0,0,1,0,0,14,1,0,18,1,1,16,11,0,7,0,0,1,0,0,7,1,0,14,2,1,14,3,1,19,0,0,14,4,2,12,0,0,1,0,0,20,0,0,4,168,445,6414,28,258,446,6376,3,5,1,6398,6510,168,8,168,447,6518,6366,8,168,448,6078,2372,50,186,449,1,0,0,6,0,0,14,1,1,20,0,0,4,168,450,6558,28,258,451,6056,3,3,41,6548,6588,186,8,168,452,6596,0,8,168,453,6078,2372,50,186,454,1,0,0,6,0,0,14,1,1,20,0,0,4,168,455,6636,28,258,456,6182,5,5,43,6626,6666,186,8,168,457,6674,6616,0,168,458,26,186,459,1,0,0,20,0,0,4,168,460,6710,28,258,461,6290,1,1,45,6704,6728,186,8,168,462,6736,6694,6,204,463,44,8,168,464,6766,6388,26,204,465,115,116,114,105,110,103,8,168,466,6784,6774,8,168,467,6784,2372,50,186,468,1,0,0,6,0,0,14,1,1,20,0,0,4,168,469,6822,28,258,470,6766,3,3,51,6812,6852,186,8,168,471,6860,6756,0,168,472,26,186,473,1,0,0,20,0,0,4,168,474,6896,28,258,475,1106,3,3,53,6890,6914,186,8,168,476,6922,6880,4,168,477,1124,50,186,478,1,0,0,7,0,0,14,0,1,20,0,0,4,168,479,6960,28,258,480,1106,3,3,1,6952,6990,204,8,168,481,6998,0,8,168,482,1052,2372,50,186,483,1,0,0,6,0,0,14,1,1,20,0,0,4,168,484,7038,28,258,485,3064,1,1,67,7028,7068,222,8,168,486,7076,0,8,168,487,1052,2372,50,186,488,1,0,0,6,0,0,14,1,1,20,0,0,4,168,489,7116,28,258,490,5844,3,3,69,7106,7146,222,8,168,491,7154,7096,50,204,492,118,97,108,117,101,58,118,97,108,117,101,58,8,168,493,7184,6802,8,168,494,1052,2372,50,186,495,1,0,0,6,0,0,14,1,1,20,0,0,4,168,496,7234,28,258,497,7184,5,5,71,7224,7264,222,8,168,498,7272,7174,42,204,499,119,104,105,108,101,84,114,117,101,58,8,168,500,7302,7214,4,168,501,3064,134,186,502,1,0,0,14,0,0,17,7,0,7,0,0,14,0,0,12,0,0,16,0,0,2,0,0,12,0,0,1,0,0,20,0,0,4,168,503,7346,28,258,504,7302,3,3,1,7338,7418,222,8,168,505,7426,7292,30,204,506,101,110,115,117,114,101,58,8,168,507,7456,7328,4,168,508,3064,146,186,509,1,0,0,14,0,0,10,1,0,12,0,0,3,0,0,10,2,0,12,0,0,7,0,0,14,0,0,12,0,0,7,1,0,20,0,0,4,168,510,7494,28,258,511,7456,3,7,181,7486,7572,222,8,168,512,7580,7446,50,204,513,105,102,67,117,114,116,97,105,108,101,100,58,8,168,514,7610,7476,4,168,515,3064,110,186,516,1,0,0,14,0,0,10,1,0,12,0,0,3,0,0,10,2,0,12,0,0,7,1,0,20,0,0,4,168,517,7658,28,258,518,7610,3,7,183,7650,7718,222,8,168,519,7726,7600,26,204,520,115,101,110,100,101,114,8,168,521,7756,7640,0,168,522,26,186,523,1,0,0,20,0,0,4,168,524,7790,28,258,525,7756,1,1,161,7784,7808,240,8,168,526,7816,0,34,204,527,114,101,99,101,105,118,101,114,8,168,528,7846,7774,0,168,529,26,186,530,1,0,0,20,0,0,4,168,531,7884,28,258,532,7846,1,1,163,7878,7902,240,8,168,533,7910,7836,0,168,534,26,186,535,1,0,0,20,0,0,4,168,536,7946,28,258,537,1020,1,1,165,7940,7964,240,8,168,538,7972,7930,10,204,539,112,99,8,168,540,8002,7868,0,168,541,26,186,542,1,0,0,20,0,0,4,168,543,8028,28,258,544,8002,1,1,167,8022,8046,240,8,168,545,8054,7992,30,204,546,116,101,109,112,65,116,58,8,168,547,8084,8012,8,168,548,6078,2372,50,186,549,1,0,0,6,0,0,14,1,1,20,0,0,4,168,550,8124,28,258,551,8084,3,3,169,8114,8154,240,8,168,552,8162,8074,46,204,553,116,101,109,112,65,116,58,112,117,116,58,8,168,554,8192,8104,8,168,555,6078,2372,50,186,556,1,0,0,6,0,0,14,1,1,20,0,0,4,168,557,8240,28,258,558,8192,5,5,171,8230,8270,240,8,168,559,8278,8182,30,204,560,114,101,116,117,114,110,58,8,168,561,8308,8220,54,204,562,99,97,110,110,111,116,82,101,116,117,114,110,58,8,168,563,8338,8328,4,168,564,8338,50,186,565,1,0,0,7,0,0,14,0,1,20,0,0,4,168,566,8388,28,258,567,8308,3,3,173,8380,8418,240,8,168,568,8426,8298,0,168,569,26,186,570,1,0,0,20,0,0,4,168,571,8462,28,258,572,8338,3,3,149,8456,8480,240,8,168,573,8488,8446,0,168,574,26,186,575,8,0,0,20,0,0,4,168,576,8524,28,258,577,1020,1,1,1,8518,8542,276,8,168,578,8550,0,0,168,579,26,186,580,8,1,0,20,0,0,4,168,581,8586,28,258,582,1052,1,1,1,8580,8604,276,8,168,583,8612,8570]
def plF : List Nat:=[3,12,21,30,39,48,57,66,75,84,93,102,111,120,129,138,147,156,161,164,169,177,182,185,190,208,213,216,221,231,236,239,244,251,256,259,264,272,277,280,285,295,300,303,308,323,328,331,336,351,356,359,364,372,377,380,385,394,399,402,407,416,421,424,429,437,442,445,450,460,465,468,473,482,487,490,495,505,510,521,526,538,543,548,553,557,562,567,572,576,591,595,605,610,613,622,626,636,641,649,654,657,666,670,680,685,693,698,702,717,721,731,736,745,750,754,775,779,789,794,799,804,809,830,834,844,849,860,865,868,877,881,891,896,909,914,917,926,930,940,945,962,967,970,979,983,993,998,1008,1013,1016,1025,1029,1039,1044,1055,1060,1063,1072,1076,1086,1091,1107,1112,1115,1124,1128,1138,1143,1150,1155,1158,1167,1171,1181,1186,1195,1200,1203,1212,1216,1226,1231,1252,1257,1260,1269,1273,1283,1288,1304,1309,1312,1321,1325,1335,1340,1346,1351,1354,1363,1367,1377,1382,1389,1394,1397,1406,1410,1420,1425,1432,1437,1440,1449,1453,1463,1468,1481,1486,1489,1498,1502,1512,1517,1527,1532,1540,1545,1549,1561,1565,1575,1580,1591,1596,1599,1608,1612,1622,1627,1645,1650,1654,1666,1670,1680,1685,1703,1708,1712,1724,1728,1738,1743,1750,1755,1759,1771,1775,1785,1790,1796,1801,1804,1813,1817,1827,1832,1838,1843,1846,1855,1859,1869,1874,1877,1886,1890,1900,1905,1909,1921,1925,1935,1940,1944,1956,1960,1970,1975,1979,1991,1995,2005,2010,2013,2022,2026,2036,2041,2045,2057,2061,2071,2076,2079,2088,2092,2102,2107,2111,2116,2125,2130,2135,2150,2154,2164,2169,2173,2178,2183,2198,2202,2212,2217,2221,2226,2231,2246,2250,2260,2265,2270,2275,2280,2295,2299,2309,2314,2318,2323,2328,2343,2347,2357,2362,2366,2371,2376,2391,2395,2405,2410,2413,2422,2426,2436,2441,2445,2450,2454,2469,2473,2483,2488,2493,2498,2503,2521,2525,2535,2540,2545,2550,2555,2573,2577,2587,2592,2602,2607,2612,2627,2631,2641,2646,2652,2657,2663,2705,2709,2719,2724,2731,2736,2740,2779,2783,2793,2798,2813,2818,2826,2889,2893,2903,2908,2917,2922,2931,2936,2943,3009,3013,3023,3028,3034,3039,3047,3052,3057,3072,3076,3086,3091,3101,3106,3111,3126,3130,3140,3145,3152,3157,3160,3169,3173,3183,3188,3194,3199,3207,3255,3259,3269,3274,3279,3294,3298,3308,3313,3318,3333,3337,3347,3352,3355,3364,3368,3378,3383,3387,3392,3401,3406,3411,3426,3430,3440,3445,3448,3457,3461,3471,3476,3480,3495,3499,3509,3514,3519,3534,3538,3548,3553,3558,3573,3577,3587,3592,3607,3612,3617,3632,3636,3646,3651,3664,3669,3673,3709,3713,3723,3728,3738,3743,3747,3786,3790,3800,3805,3820,3825,3829,3859,3863,3873,3878,3887,3892,3895,3904,3908,3918,3923,3934,3939,3942,3951,3955,3965,3970,3973,3982,3986,3996,4001,4006,4011,4014,4023,4027,4037,4042,4052,4057,4062,4077,4081,4091,4096,4110,4115,4120,4135,4139,4149,4154,4164,4169,4185,4190,4194,4209,4213,4223,4228,4231,4240,4244,4254,4259,4262,4271,4275,4285,4290,4293,4302,4306,4316]
def syF : List (List Nat × Nat):=[([79,98,106,101,99,116],294),([67,108,97,115,115],338),([85,110,100,101,102,105,110,101,100,79,98,106,101,99,116],380),([66,111,111,108,101,97,110],442),([84,114,117,101],488),([70,97,108,115,101],528),([73,110,116,101,103,101,114],570),([83,109,97,108,108,73,110,116,101,103,101,114],616),([76,97,114,103,101,73,110,116,101,103,101,114],672),([65,114,114,97,121],728),([83,116,114,105,110,103],770),([83,121,109,98,111,108],814),([66,108,111,99,107],858),([67,111,110,116,101,120,116],900),([77,101,116,104,111,100],946),([77,101,115,115,97,103,101],990),([115,101,108,101,99,116,111,114],1020),([97,114,103,117,109,101,110,116,115],1052),([61],1106),([61,61],1124),([99,108,97,115,115],1282),([105,115,78,105,108],1370),([110,111,116,78,105,108],1472),([126,61],1588),([121,111,117,114,115,101,108,102],1698),([105,110,115,116,86,97,114,65,116,58],1792),([105,110,115,116,86,97,114,65,116,58,112,117,116,58],1890),([98,101,99,111,109,101,58],1996),([112,101,114,102,111,114,109,58],2088),([112,101,114,102,111,114,109,58,119,105,116,104,58],2182),([115,104,111,119],2286),([101,114,114,111,114,58],2372),([100,111,101,115,78,111,116,85,110,100,101,114,115,116,97,110,100,58],2462),([109,117,115,116,66,101,66,111,111,108,101,97,110],2576),([110,101,119],2680),([110,101,119,58],2764),([110,97,109,101],2850),([115,117,112,101,114,99,108,97,115,115],2936),([105,102,84,114,117,101,58],3034),([118,97,108,117,101],3064),([105,102,70,97,108,115,101,58],3160),([105,102,84,114,117,101,58,105,102,70,97,108,115,101,58],3254),([105,102,70,97,108,115,101,58,105,102,84,114,117,101,58],3370),([97,110,100,58],3486),([111,114,58],3580),([110,111,116],3664),([43],4214),([110,117,109,98,101,114],4232),([45],4338),([42],4434),([47,47],4530),([37],4628),([60],4724),([62],4882),([60,61],4976),([62,61],5080),([110,101,103,97,116,101,100],5184),([97,98,115],5292),([109,97,120,58],5448),([116,105,109,101,115,82,101,112,101,97,116,58],5596),([116,111,58,100,111,58],5816),([118,97,108,117,101,58],5844),([97,116,58],6056),([105,110,100,101,120],6078),([97,116,58,112,117,116,58],6182),([115,105,122,101],6290),([100,111,58],6376),([44],6766),([115,116,114,105,110,103],6784),([118,97,108,117,101,58,118,97,108,117,101,58],7184),([119,104,105,108,101,84,114,117,101,58],7302),([101,110,115,117,114,101,58],7456),([105,102,67,117,114,116,97,105,108,101,100,58],7610),([115,101,110,100,101,114],7756),([114,101,99,101,105,118,101,114],7846),([112,99],8002),([116,101,109,112,65,116,58],8084),([116,101,109,112,65,116,58,112,117,116,58],8192),([114,101,116,117,114,110,58],8308),([99,97,110,110,111,116,82,101,116,117,114,110,58],8338)]
def clF : List (List Nat × Nat):=[([79,98,106,101,99,116],6),([67,108,97,115,115],24),([85,110,100,101,102,105,110,101,100,79,98,106,101,99,116],42),([66,111,111,108,101,97,110],60),([84,114,117,101],78),([70,97,108,115,101],96),([73,110,116,101,103,101,114],114),([83,109,97,108,108,73,110,116,101,103,101,114],132),([76,97,114,103,101,73,110,116,101,103,101,114],150),([65,114,114,97,121],168),([83,116,114,105,110,103],186),([83,121,109,98,111,108],204),([66,108,111,99,107],222),([67,111,110,116,101,120,116],240),([77,101,116,104,111,100],258),([77,101,115,115,97,103,101],276)]
def dOh (l : List (List Nat × Nat)) : Nat → List (List Nat × Nat):=List.rec (motive:=fun _=>Nat → List (List Nat × Nat)) (fun _=>[]) (fun x _ ih n=>bif Nat.beq n 0 then [] else x :: ih (Nat.sub n 1)) l
def dLi (l : List (List Nat × List Nat)) : Nat → List (Pos × Ob):=List.rec (motive:=fun _=>Nat → List (Pos × Ob)) (fun _=>[]) (fun x _ ih p=>(cT p,.row .ex [.s x.1,.s x.2]) :: ih (Nat.add p 1)) l
def dOf (l : List (List Nat × List Nat)) : Nat → List (List Nat × List Nat):=List.rec (motive:=fun _=>Nat → List (List Nat × List Nat)) (fun _=>[]) (fun x l ih n=>bif Nat.beq n 0 then x :: l else ih (Nat.sub n 1)) l
def pC (N fin made ns : Nat) (roots : List Nat) (pt : List (Nat × Nat)) (k : Nat) : List (Pos × Ob) :=
 (cT 7,.row .ex [.p (cT 3) 0,.l (cT 4) 0 18 18,.m (cT 5),.m (cT 6)]) ::
 (cT 6,.mp (dMl clF)) :: (cT 5,.mp (dMl (dOh syF ns))) :: (cT 4,.row .ex (dWg roots)) ::
 (cT 3,.row .ex [.l (cT 1) 0 N N,.i .i64 (.ofNat fin),.i .i64 (.ofNat made),.m (cT 2)]) ::
 (cT 2,.mi (mkP (cQo plF made) .e)) :: (cT 1,.big N (dCz pt (mkW (cQo wsF fin) 0 .e))) ::
 (cT 431,.row .ex (dXr dJv 356)) :: dLi (dOf dJv k) (Nat.add 356 k)
def cXt (l : List (Pos × Ob)) : Tr Ob:=List.rec (motive:=fun _=>Tr Ob) .e (fun x _ ih=>Tr.set x.2 x.1 ih) l
def jI (nx : Nat) (l : List (Pos × Ob)) : Hp:=⟨cT nx,cXt l⟩
def bYb (x y : Int) : Bool:=match x,y with
 | .ofNat a,.ofNat b=>Nat.beq a b
 | .negSucc a,.negSucc b=>Nat.beq a b
 | _,_=>false
def wtE (t : WT) : WT → Bool:=WT.rec (motive:=fun _=>WT → Bool) (fun u=>WT.rec (motive:=fun _=>Bool) true (fun _ _ _ _ _=>false) u)
 (fun _ v _ ihl ihr u=>WT.rec (motive:=fun _=>Bool) false (fun l' v' r' _ _=>bYb v v' && (ihl l' && ihr r')) u) t
def dvE (x y : DV) : Bool:=match x,y with
 | .i .i64 a,.i .i64 b=>bYb a b
 | .s a,.s b=>uL a b
 | .p a o,.p b q=>nS a b && Nat.beq o q
 | .l a o n c,.l b q m d=>nS a b && (Nat.beq o q && (Nat.beq n m && Nat.beq c d))
 | .m a,.m b=>nS a b
 | .b a,.b b=>a == b
 | .l0,.l0=>true
 | .p0,.p0=>true
 | .m0,.m0=>true
 | _,_=>false
def cDi (l : List DV) : List DV → Bool:=List.rec (motive:=fun _=>List DV → Bool) (fun m=>List.rec (motive:=fun _=>Bool) true (fun _ _ _=>false) m)
 (fun x _ ih m=>List.rec (motive:=fun _=>Bool) false (fun y m _=>dvE x y && ih m) m) l
def dBi (l : List (DV × DV)) : List (DV × DV) → Bool:=List.rec (motive:=fun _=>List (DV × DV) → Bool) (fun m=>List.rec (motive:=fun _=>Bool) true (fun _ _ _=>false) m)
 (fun x _ ih m=>List.rec (motive:=fun _=>Bool) false (fun y m _=>dvE x.1 y.1 && (dvE x.2 y.2 && ih m)) m) l
def obE (o p : Ob) : Bool:=match o,p with
 | .row .ex l,.row .ex m=>cDi l m
 | .mp l,.mp m=>dBi l m
 | .big n t,.big m u=>Nat.beq n m && wtE t u
 | .mi t,.mi u=>wtE t u
 | _,_=>false
def bRm (g : Tr Ob) (l : List (Pos × Ob)) : Bool:=List.rec (motive:=fun _=>Bool) true (fun x _ ih=>(match g.get x.1 with
 | some o=>obE o x.2
 | none=>false) && ih) l
def nE (r : aH) (vs : List DV) (nx : Nat) (l : List (Pos × Ob)) : Bool:=match r with
 | some (.t us,g)=>cDi us vs && (nS g.next (cT nx) && bRm g.bl l)
 | _=>false
def itN (n : Nat) (K : DV → DV → DV → DV → Hp → aH) : DV → DV → DV → DV → Hp → aH :=
 Nat.rec (motive:=fun _=>DV → DV → DV → DV → Hp → aH) K (fun _ ih=>lK (dB 899) 899 ih) n
def cAe : DV → DV → DV → DV → Hp → aH:=fun a b c d h=>some (.t [a,b,c,d],h)
def lU (k : Nat) : List DV:=[.p (cT 7) 0,.l (cT 431) 0 75 75,.i .i64 (.ofNat 75),.i .i64 (.ofNat k)]
def pF (k n : Nat) (h : Hp) : aH:=itN n cAe (.p (cT 7) 0) (.l (cT 431) 0 75 75) (.i .i64 (.ofNat 75)) (.i .i64 (.ofNat k)) h
end
end Go.Dd

end
