/- A part of the proof: Q9 Q10 Q11 Q12 Q13 Q14 Qt HK: each text has a comment of its own. -/
import Derived.Test.YtjfmbeinhhdapaaGreatDoorPB2
set_option linter.unusedVariables false
set_option linter.unusedSimpArgs false
set_option linter.constructorNameAsVariable false
set_option maxRecDepth 100000
namespace Go.Dd
open Go.Proofs
variable (r : RT) (n : Nat) (args : List DV) (h : Hp)
noncomputable def s338 (r : RT) (n : Nat) (x0 x1 : DV) (h0 : Hp) : aG :=
 bnd (aA x1 h0) fun v1 h1 =>
 bnd (r 30 [v1, x0] h1) fun v2 h2 =>
 bnd (aD .geq v2 (aO 0) h2) fun v3 h3 =>
 some (v3, h3)
noncomputable abbrev c338 : Code := cf Tryz.f338
noncomputable abbrev r338 : K := aQ CF Tryz.f338
noncomputable def D338 (r : RT) (n : Nat) (c : Code) (X : Nat → K) (k : K) : K := aM CF r 8 n c X r338 k
theorem dEm : D338 r n c338 x0 r338 = (K2 (s338 r n) 0 1) :=
 (by kernel_rfl)
theorem cRs : aF CF r n 338 args h = s338 r n (aW args 0) (aW args 1) h :=
 (by kernel_rfl : aF CF r n 338 args h = D338 r n c338 x0 r338 (aI args) h).trans ((congrFun (congrFun (dEm r n) (aI args)) h).trans (by kernel_rfl))
noncomputable def s339 (r : RT) (n : Nat) (x0 x1 : DV) (h0 : Hp) : aG :=
 bnd (aY x0 h0) fun v1 h1 =>
 bnd (aB 1 v1 h1) fun v2 h2 =>
 bnd (aA v2 h2) fun v3 h3 =>
 bnd (aD .add v3 x1 h3) fun v4 h4 =>
 bnd (aY x0 h4) fun v5 h5 =>
 bnd (aB 0 v5 h5) fun v6 h6 =>
 bnd (aA v6 h6) fun v7 h7 =>
 bnd (cO v7 h7) fun v8 h8 =>
 bnd (aD .geq v4 v8 h8) fun v9 h9 =>
 aX v9 (
 some ((.i .u8 (Int.ofNat 0)), h9)) (
 bnd (aY x0 h9) fun v10 h10 =>
 bnd (aB 0 v10 h10) fun v11 h11 =>
 bnd (aA v11 h11) fun v12 h12 =>
 bnd (aY x0 h12) fun v13 h13 =>
 bnd (aB 1 v13 h13) fun v14 h14 =>
 bnd (aA v14 h14) fun v15 h15 =>
 bnd (aD .add v15 x1 h15) fun v16 h16 =>
 bnd (bY v12 v16 h16) fun v17 h17 =>
 some (v17, h17))
noncomputable abbrev c339 : Code := cf Tryz.f339
noncomputable abbrev r339 : K := aQ CF Tryz.f339
noncomputable def D339 (r : RT) (n : Nat) (c : Code) (X : Nat → K) (k : K) : K := aM CF r 28 n c X r339 k
theorem dEt : D339 r n c339 x0 r339 = (K2 (s339 r n) 0 1) :=
 (by kernel_rfl)
theorem cRd : aF CF r n 339 args h = s339 r n (aW args 0) (aW args 1) h :=
 (by kernel_rfl : aF CF r n 339 args h = D339 r n c339 x0 r339 (aI args) h).trans ((congrFun (congrFun (dEt r n) (aI args)) h).trans (by kernel_rfl))
noncomputable def s340 (r : RT) (n : Nat) (x0 : DV) (h0 : Hp) : aG :=
 bnd (aD .geq x0 (.i .u8 (Int.ofNat 97)) h0) fun v1 h1 =>
 bnd (gD v1 true (some (x0, h1)) h1) fun v2 h2 =>
 bnd (gD v1 true (aD .leq v2 (.i .u8 (Int.ofNat 122)) h2) h2) fun v3 h3 =>
 bnd (aP v1 v3 (.b false) h3) fun v4 h4 =>
 bnd (gD v4 false (some (x0, h4)) h4) fun v5 h5 =>
 bnd (gD v4 false (aD .geq v5 (.i .u8 (Int.ofNat 65)) h5) h5) fun v6 h6 =>
 bnd (gD v4 false (some (v6, h6)) h6) fun v7 h7 =>
 bnd (gD v7 true (some (x0, h7)) h7) fun v8 h8 =>
 bnd (gD v7 true (aD .leq v8 (.i .u8 (Int.ofNat 90)) h8) h8) fun v9 h9 =>
 bnd (gD v4 false (aP v7 v9 (.b false) h9) h9) fun v10 h10 =>
 bnd (aP v4 (.b true) v10 h10) fun v11 h11 =>
 some (v11, h11)
noncomputable abbrev c340 : Code := cf Tryz.f340
noncomputable abbrev r340 : K := aQ CF Tryz.f340
noncomputable def D340 (r : RT) (n : Nat) (c : Code) (X : Nat → K) (k : K) : K := aM CF r 17 n c X r340 k
theorem dIe : D340 r n c340 x0 r340 = (K1 (s340 r n) 0) :=
 (by kernel_rfl)
theorem cSl : aF CF r n 340 args h = s340 r n (aW args 0) h :=
 (by kernel_rfl : aF CF r n 340 args h = D340 r n c340 x0 r340 (aI args) h).trans ((congrFun (congrFun (dIe r n) (aI args)) h).trans (by kernel_rfl))
noncomputable def s341 (r : RT) (n : Nat) (x0 : DV) (h0 : Hp) : aG :=
 bnd (aY x0 h0) fun v1 h1 =>
 bnd (aB 0 v1 h1) fun v2 h2 =>
 bnd (aA v2 h2) fun v3 h3 =>
 bnd (cO v3 h3) fun v4 h4 =>
 bnd (r 286 [x0, (.f 415 [] []), v4] h4) fun v5 h5 =>
 bnd (cO v5 h5) fun v6 h6 =>
 bnd (aD .gtr v6 (aO 24) h6) fun v7 h7 =>
 aX v7 (
 some (.t [(.s []), (aO 12)], h7)) (
 some (.t [v5, (aO 0)], h7))
noncomputable abbrev c341 : Code := cf Tryz.f341
noncomputable abbrev r341 : K := aQ CF Tryz.f341
noncomputable def D341 (r : RT) (n : Nat) (c : Code) (X : Nat → K) (k : K) : K := aM CF r 16 n c X r341 k
theorem dDt : D341 r n c341 x0 r341 = (K1 (s341 r n) 0) :=
 (by kernel_rfl)
theorem cVj : aF CF r n 341 args h = s341 r n (aW args 0) h :=
 (by kernel_rfl : aF CF r n 341 args h = D341 r n c341 x0 r341 (aI args) h).trans ((congrFun (congrFun (dDt r n) (aI args)) h).trans (by kernel_rfl))
noncomputable def s342 (r : RT) (n : Nat) (x0 : DV) (h0 : Hp) : aG :=
 bnd (r 339 [x0, (aO 0)] h0) fun v1 h1 =>
 bnd (aD .neq v1 (.i .u8 (Int.ofNat 58)) h1) fun v2 h2 =>
 bnd (gD v2 false (some (x0, h2)) h2) fun v3 h3 =>
 bnd (gD v2 false (r 339 [v3, (aO 1)] h3) h3) fun v4 h4 =>
 bnd (gD v2 false (aD .eql v4 (.i .u8 (Int.ofNat 61)) h4) h4) fun v5 h5 =>
 bnd (aP v2 (.b true) v5 h5) fun v6 h6 =>
 aX v6 (
 some ((.b false), h6)) (
 bnd (aY x0 h6) fun v7 h7 =>
 bnd (aB 1 v7 h7) fun v8 h8 =>
 bnd (aA v8 h8) fun v9 h9 =>
 bnd (aD .add v9 (aO 1) h9) fun v10 h10 =>
 bnd (aY x0 h10) fun v11 h11 =>
 bnd (aB 1 v11 h11) fun v12 h12 =>
 bnd (aH 1 v12 v10 h12) fun _ h13 =>
 some ((.b true), h13))
noncomputable abbrev c342 : Code := cf Tryz.f342
noncomputable abbrev r342 : K := aQ CF Tryz.f342
noncomputable def D342 (r : RT) (n : Nat) (c : Code) (X : Nat → K) (k : K) : K := aM CF r 18 n c X r342 k
theorem dIa : D342 r n c342 x0 r342 = (K1 (s342 r n) 0) :=
 (by kernel_rfl)
theorem cUd : aF CF r n 342 args h = s342 r n (aW args 0) h :=
 (by kernel_rfl : aF CF r n 342 args h = D342 r n c342 x0 r342 (aI args) h).trans ((congrFun (congrFun (dIa r n) (aI args)) h).trans (by kernel_rfl))
noncomputable def s343 (r : RT) (n : Nat) (x0 : DV) (h0 : Hp) : aG :=
 bnd (aD .geq x0 (.i .u8 (Int.ofNat 48)) h0) fun v1 h1 =>
 bnd (gD v1 true (some (x0, h1)) h1) fun v2 h2 =>
 bnd (gD v1 true (aD .leq v2 (.i .u8 (Int.ofNat 57)) h2) h2) fun v3 h3 =>
 bnd (aP v1 v3 (.b false) h3) fun v4 h4 =>
 some (v4, h4)
noncomputable abbrev c343 : Code := cf Tryz.f343
noncomputable abbrev r343 : K := aQ CF Tryz.f343
noncomputable def D343 (r : RT) (n : Nat) (c : Code) (X : Nat → K) (k : K) : K := aM CF r 9 n c X r343 k
theorem dEy : D343 r n c343 x0 r343 = (K1 (s343 r n) 0) :=
 (by kernel_rfl)
theorem cWt : aF CF r n 343 args h = s343 r n (aW args 0) h :=
 (by kernel_rfl : aF CF r n 343 args h = D343 r n c343 x0 r343 (aI args) h).trans ((congrFun (congrFun (dEy r n) (aI args)) h).trans (by kernel_rfl))
noncomputable def s348 (r : RT) (n : Nat) (x0 x1 : DV) (h0 : Hp) : aG :=
 bnd (dB x1 h0) fun v1 h1 =>
 bnd (cJ [(.s []), (.b false), (.b false), (aO 0)] h1) fun v2 h2 =>
 bnd (aY x0 h2) fun v3 h3 =>
 bnd (aB 6 v3 h3) fun v4 h4 =>
 bnd (aA v4 h4) fun v5 h5 =>
 bnd (r 423 [v5, (.f 424 [] [v1])] h5) fun v6 h6 =>
 bnd (aD .lss v6 (aO 0) h6) fun v7 h7 =>
 aX v7 (
 bnd (bL [(.s []), (.b false), (.b false), (aO 0)] [] h7) fun v8 h8 =>
 bnd (aH 4 v2 v8 h8) fun _ h9 =>
 bnd (aK 4 v2 h9) fun v10 _ =>
 some (.t [v10, (.b false)], h9)) (
 bnd (aY x0 h7) fun v11 h11 =>
 bnd (aB 6 v11 h11) fun v12 h12 =>
 bnd (aA v12 h12) fun v13 h13 =>
 bnd (aE 4 v13 v6 h13) fun v14 h14 =>
 bnd (aK 4 v14 h14) fun v15 h15 =>
 bnd (aH 4 v2 v15 h15) fun _ h16 =>
 bnd (aK 4 v2 h16) fun v17 _ =>
 some (.t [v17, (.b true)], h16))
noncomputable abbrev c348 : Code := cf Tryz.f348
noncomputable abbrev r348 : K := aQ CF Tryz.f348
noncomputable def D348 (r : RT) (n : Nat) (c : Code) (X : Nat → K) (k : K) : K := aM CF r 23 n c X r348 k
theorem dGe : D348 r n c348 x0 r348 = (K2 (s348 r n) 0 1) :=
 (by kernel_rfl)
theorem cVa : aF CF r n 348 args h = s348 r n (aW args 0) (aW args 1) h :=
 (by kernel_rfl : aF CF r n 348 args h = D348 r n c348 x0 r348 (aI args) h).trans ((congrFun (congrFun (dGe r n) (aI args)) h).trans (by kernel_rfl))
end Go.Dd

namespace Go.Dd
open Go.Proofs
variable (r : RT) (n : Nat) (args : List DV) (h : Hp)
noncomputable def s360 (r : RT) (n : Nat) (x0 x1 x2 : DV) (h0 : Hp) : aG :=
 bnd (aD .geq x0 x1 h0) fun v1 h1 =>
 bnd (gD v1 true (some (x0, h1)) h1) fun v2 h2 =>
 bnd (gD v1 true (some (x2, h2)) h2) fun v3 h3 =>
 bnd (gD v1 true (aD .leq v2 v3 h3) h3) fun v4 h4 =>
 bnd (aP v1 v4 (.b false) h4) fun v5 h5 =>
 some (v5, h5)
noncomputable abbrev c360 : Code := cf Tryz.f360
noncomputable abbrev r360 : K := aQ CF Tryz.f360
noncomputable def D360 (r : RT) (n : Nat) (c : Code) (X : Nat → K) (k : K) : K := aM CF r 15 n c X r360 k
theorem dCn : D360 r n c360 x0 r360 = (K3 (s360 r n) 0 1 2) :=
 (by kernel_rfl)
theorem cTu : aF CF r n 360 args h = s360 r n (aW args 0) (aW args 1) (aW args 2) h :=
 (by kernel_rfl : aF CF r n 360 args h = D360 r n c360 x0 r360 (aI args) h).trans ((congrFun (congrFun (dCn r n) (aI args)) h).trans (by kernel_rfl))
noncomputable def bA (r : RT) (n : Nat) (h0 : Hp) : aG :=
 some ((.b true), h0)
noncomputable def vX (r : RT) (n : Nat) (x2 x3 x4 x27 x51 : DV) (h0 : Hp) : aG :=
 aX x51 (
 bnd (aB 1 x4 h0) fun v1 h1 =>
 bnd (aA v1 h1) fun v2 h2 =>
 bnd (aD .lss v2 x2 h2) fun v3 h3 =>
 some (v3, h3)) (
 bnd (aD .eql x27 (aO 18) h0) fun v4 h4 =>
 aX v4 (
 bnd (aB 2 x4 h4) fun v5 h5 =>
 bnd (aA v5 h5) fun v6 h6 =>
 bnd (aD .leq v6 (aO 4) h6) fun v7 h7 =>
 bnd (gD v7 true (aB 1 x4 h7) h7) fun v8 h8 =>
 bnd (gD v7 true (aA v8 h8) h8) fun v9 h9 =>
 bnd (gD v7 true (aB 2 x4 h9) h9) fun v10 h10 =>
 bnd (gD v7 true (aA v10 h10) h10) fun v11 h11 =>
 bnd (gD v7 true (aD .add v9 v11 h11) h11) fun v12 h12 =>
 bnd (gD v7 true (aB 2 x3 h12) h12) fun v13 h13 =>
 bnd (gD v7 true (aA v13 h13) h13) fun v14 h14 =>
 bnd (gD v7 true (aD .leq v12 v14 h14) h14) fun v15 h15 =>
 bnd (aP v7 v15 (.b false) h15) fun v16 h16 =>
 some (v16, h16)) (
   bA r n h4))
noncomputable def aWm (r : RT) (n : Nat) (x2 x3 x4 x27 : DV) (h0 : Hp) : aG :=
 bnd (aD .eql x27 (aO 8) h0) fun v1 h1 =>
 aX v1 (
  vX r n x2 x3 x4 x27 v1 h1) (
 bnd (aD .eql x27 (aO 11) h1) fun v2 h2 =>
  vX r n x2 x3 x4 x27 v2 h2)
noncomputable def xG (r : RT) (n : Nat) (x2 x3 x4 x27 x43 : DV) (h0 : Hp) : aG :=
 aX x43 (
 bnd (aB 1 x4 h0) fun v1 h1 =>
 bnd (aA v1 h1) fun v2 h2 =>
 bnd (aB 2 x3 h2) fun v3 h3 =>
 bnd (aA v3 h3) fun v4 h4 =>
 bnd (aD .lss v2 v4 h4) fun v5 h5 =>
 some (v5, h5)) (
  aWm r n x2 x3 x4 x27 h0)
noncomputable def bBx (r : RT) (n : Nat) (x2 x3 x4 x27 : DV) (h0 : Hp) : aG :=
 bnd (aD .eql x27 (aO 7) h0) fun v1 h1 =>
 aX v1 (
  xG r n x2 x3 x4 x27 v1 h1) (
 bnd (aD .eql x27 (aO 10) h1) fun v2 h2 =>
  xG r n x2 x3 x4 x27 v2 h2)
noncomputable def xE (r : RT) (n : Nat) (x2 x3 x4 x8 x27 x34 : DV) (h0 : Hp) : aG :=
 aX x34 (
 bnd (gD x8 true (aB 2 x4 h0) h0) fun v1 h1 =>
 bnd (gD x8 true (aA v1 h1) h1) fun v2 h2 =>
 bnd (gD x8 true (aD .leq v2 (aO 4) h2) h2) fun v3 h3 =>
 bnd (aP x8 v3 (.b false) h3) fun v4 h4 =>
 some (v4, h4)) (
  bBx r n x2 x3 x4 x27 h0)
noncomputable def bNn (r : RT) (n : Nat) (x2 x3 x4 x8 x27 : DV) (h0 : Hp) : aG :=
 bnd (aD .eql x27 (aO 14) h0) fun v1 h1 =>
 aX v1 (
  xE r n x2 x3 x4 x8 x27 v1 h1) (
 bnd (aD .eql x27 (aO 15) h1) fun v2 h2 =>
  xE r n x2 x3 x4 x8 x27 v2 h2)
noncomputable def aUa (r : RT) (n : Nat) (x2 x3 x4 x8 x27 x31 : DV) (h0 : Hp) : aG :=
 aX x31 (
 some (x8, h0)) (
  bNn r n x2 x3 x4 x8 x27 h0)
noncomputable def bLh (r : RT) (n : Nat) (x2 x3 x4 x8 x27 : DV) (h0 : Hp) : aG :=
 bnd (aD .eql x27 (aO 9) h0) fun v1 h1 =>
  aUa r n x2 x3 x4 x8 x27 v1 h1
noncomputable def aQn (r : RT) (n : Nat) (x2 x3 x4 x7 x8 x27 x28 : DV) (h0 : Hp) : aG :=
 aX x28 (
 some (x7, h0)) (
  bLh r n x2 x3 x4 x8 x27 h0)
noncomputable def aUw (r : RT) (n : Nat) (x2 x3 x4 x7 x8 x27 : DV) (h0 : Hp) : aG :=
 bnd (aD .eql x27 (aO 6) h0) fun v1 h1 =>
  aQn r n x2 x3 x4 x7 x8 x27 v1 h1
noncomputable def aRu (r : RT) (n : Nat) (x2 x3 x4 x7 x8 : DV) (h0 : Hp) : aG :=
 bnd (aB 0 x4 h0) fun v1 h1 =>
 bnd (aA v1 h1) fun v2 h2 =>
  aUw r n x2 x3 x4 x7 x8 v2 h2
noncomputable def aTa (r : RT) (n : Nat) (x2 x3 x4 x7 : DV) (h0 : Hp) : aG :=
 bnd (gD x7 true (aB 4 x3 h0) h0) fun v1 h1 =>
 bnd (gD x7 true (aA v1 h1) h1) fun v2 h2 =>
 bnd (gD x7 true (aB 1 x4 h2) h2) fun v3 h3 =>
 bnd (gD x7 true (aA v3 h3) h3) fun v4 h4 =>
 bnd (gD x7 true (aE 4 v2 v4 h4) h4) fun v5 h5 =>
 bnd (gD x7 true (aB 0 v5 h5) h5) fun v6 h6 =>
 bnd (gD x7 true (aA v6 h6) h6) fun v7 h7 =>
 bnd (gD x7 true (aD .eql v7 (aO 3) h7) h7) fun v8 h8 =>
 bnd (aP x7 v8 (.b false) h8) fun v9 h9 =>
  aRu r n x2 x3 x4 x7 v9 h9
noncomputable def zY (r : RT) (n : Nat) (x2 x3 x4 : DV) (h0 : Hp) : aG :=
 bnd (aB 1 x4 h0) fun v1 h1 =>
 bnd (aA v1 h1) fun v2 h2 =>
 bnd (aB 4 x3 h2) fun v3 h3 =>
 bnd (aA v3 h3) fun v4 h4 =>
 bnd (cQ v4 h4) fun v5 h5 =>
 bnd (aD .lss v2 v5 h5) fun v6 h6 =>
  aTa r n x2 x3 x4 v6 h6
noncomputable def s364 (r : RT) (n : Nat) (x0 x1 x2 : DV) (h0 : Hp) : aG :=
 bnd (dB x0 h0) fun v1 h1 =>
 bnd (dB x1 h1) fun v2 h2 =>
  zY r n x2 v1 v2 h2
noncomputable abbrev c364 : Code := cf Tryz.f364
noncomputable abbrev aHc : Code := cR c364
noncomputable abbrev aFu : Code := cR aHc
noncomputable abbrev aLg : Code := cR aFu
noncomputable abbrev cSz : Code := cR aLg
noncomputable abbrev aAo : Code := cL aLg
noncomputable abbrev aSt : Code := cR aAo
noncomputable abbrev aFv : Code := cL aSt
noncomputable abbrev xV : Code := cR aFv
noncomputable abbrev aAp : Code := cR xV
noncomputable abbrev rG : Code := cR aAp
noncomputable abbrev rD : Code := cR rG
noncomputable abbrev sN : Code := cR rD
noncomputable abbrev sA : Code := cR sN
noncomputable abbrev rV : Code := cR sA
noncomputable abbrev rK : Code := cR rV
noncomputable abbrev cBv : Code := cR rK
noncomputable abbrev aYt : Code := cL rK
noncomputable abbrev cFg : Code := cL rV
noncomputable abbrev aXz : Code := cL sA
noncomputable abbrev cDo : Code := cL sN
noncomputable abbrev aXk : Code := cL rD
noncomputable abbrev cCs : Code := cL rG
noncomputable abbrev aZx : Code := cL aAp
noncomputable abbrev cDx : Code := cL xV
noncomputable abbrev aYx : Code := cL aFv
noncomputable abbrev bCn : Code := cL aAo
noncomputable abbrev aWz : Code := cL aFu
noncomputable abbrev aWs : Code := cL aHc
noncomputable abbrev aJa : Code := cL c364
noncomputable abbrev r364 : K := aQ CF Tryz.f364
noncomputable def D364 (r : RT) (n : Nat) (c : Code) (X : Nat → K) (k : K) : K := aM CF r 73 n c X r364 k
theorem cHj : D364 r n cSz x0 r364 = (K0 (bA r n)) :=
 (by kernel_rfl)
theorem bTh : D364 r n cBv (xs x0 0 (K0 (bA r n))) (K0 (bA r n)) = (K5 (vX r n) 2 3 4 27 51) :=
 (by kernel_rfl)
theorem bDv : D364 r n rK (xs x0 0 (K0 (bA r n))) (K0 (bA r n)) = D364 r n aYt (xs x0 0 (K0 (bA r n))) (K5 (vX r n) 2 3 4 27 51) :=
 congrArg (fun k => D364 r n aYt (xs x0 0 (K0 (bA r n))) k) (bTh r n)
theorem bVd : D364 r n rK (xs x0 0 (K0 (bA r n))) (K0 (bA r n)) = (K4 (aWm r n) 2 3 4 27) :=
 (bDv r n).trans
 ((by kernel_rfl))
theorem bRk : D364 r n rV (xs x0 0 (K0 (bA r n))) (K0 (bA r n)) = (K5 (xG r n) 2 3 4 27 43) :=
 (by kernel_rfl : D364 r n rV (xs x0 0 (K0 (bA r n))) (K0 (bA r n)) = (fun (env : bC) (h : Hp) => aX (opr env (cC rV)) (D364 r n cFg (xs x0 0 (K0 (bA r n))) (K0 (bA r n)) env h) (D364 r n rK (xs x0 0 (K0 (bA r n))) (K0 (bA r n)) env h))).trans (by rw [bVd r n]; kernel_rfl)
theorem bCv : D364 r n sA (xs x0 0 (K0 (bA r n))) (K0 (bA r n)) = D364 r n aXz (xs x0 0 (K0 (bA r n))) (K5 (xG r n) 2 3 4 27 43) :=
 congrArg (fun k => D364 r n aXz (xs x0 0 (K0 (bA r n))) k) (bRk r n)
theorem bSf : D364 r n sA (xs x0 0 (K0 (bA r n))) (K0 (bA r n)) = (K4 (bBx r n) 2 3 4 27) :=
 (bCv r n).trans
 ((by kernel_rfl))
theorem bUp : D364 r n sN (xs x0 0 (K0 (bA r n))) (K0 (bA r n)) = (K6 (xE r n) 2 3 4 8 27 34) :=
 (by kernel_rfl : D364 r n sN (xs x0 0 (K0 (bA r n))) (K0 (bA r n)) = (fun (env : bC) (h : Hp) => aX (opr env (cC sN)) (D364 r n cDo (xs x0 0 (K0 (bA r n))) (K0 (bA r n)) env h) (D364 r n sA (xs x0 0 (K0 (bA r n))) (K0 (bA r n)) env h))).trans (by rw [bSf r n]; kernel_rfl)
theorem bWw : D364 r n rD (xs x0 0 (K0 (bA r n))) (K0 (bA r n)) = D364 r n aXk (xs x0 0 (K0 (bA r n))) (K6 (xE r n) 2 3 4 8 27 34) :=
 congrArg (fun k => D364 r n aXk (xs x0 0 (K0 (bA r n))) k) (bUp r n)
theorem cBy : D364 r n rD (xs x0 0 (K0 (bA r n))) (K0 (bA r n)) = (K5 (bNn r n) 2 3 4 8 27) :=
 (bWw r n).trans
 ((by kernel_rfl))
theorem cEc : D364 r n rG (xs x0 0 (K0 (bA r n))) (K0 (bA r n)) = (K6 (aUa r n) 2 3 4 8 27 31) :=
 (by kernel_rfl : D364 r n rG (xs x0 0 (K0 (bA r n))) (K0 (bA r n)) = (fun (env : bC) (h : Hp) => aX (opr env (cC rG)) (D364 r n cCs (xs x0 0 (K0 (bA r n))) (K0 (bA r n)) env h) (D364 r n rD (xs x0 0 (K0 (bA r n))) (K0 (bA r n)) env h))).trans (by rw [cBy r n]; kernel_rfl)
theorem bJy : D364 r n aAp (xs x0 0 (K0 (bA r n))) (K0 (bA r n)) = D364 r n aZx (xs x0 0 (K0 (bA r n))) (K6 (aUa r n) 2 3 4 8 27 31) :=
 congrArg (fun k => D364 r n aZx (xs x0 0 (K0 (bA r n))) k) (cEc r n)
theorem cAi : D364 r n aAp (xs x0 0 (K0 (bA r n))) (K0 (bA r n)) = (K5 (bLh r n) 2 3 4 8 27) :=
 (bJy r n).trans
 ((by kernel_rfl))
theorem bZg : D364 r n xV (xs x0 0 (K0 (bA r n))) (K0 (bA r n)) = (K7 (aQn r n) 2 3 4 7 8 27 28) :=
 (by kernel_rfl : D364 r n xV (xs x0 0 (K0 (bA r n))) (K0 (bA r n)) = (fun (env : bC) (h : Hp) => aX (opr env (cC xV)) (D364 r n cDx (xs x0 0 (K0 (bA r n))) (K0 (bA r n)) env h) (D364 r n aAp (xs x0 0 (K0 (bA r n))) (K0 (bA r n)) env h))).trans (by rw [cAi r n]; kernel_rfl)
theorem bMp : D364 r n aFv (xs x0 0 (K0 (bA r n))) (K0 (bA r n)) = D364 r n aYx (xs x0 0 (K0 (bA r n))) (K7 (aQn r n) 2 3 4 7 8 27 28) :=
 congrArg (fun k => D364 r n aYx (xs x0 0 (K0 (bA r n))) k) (bZg r n)
theorem cBb : D364 r n aSt x0 (K0 (bA r n)) = (K6 (aUw r n) 2 3 4 7 8 27) :=
 (by kernel_rfl : D364 r n aSt x0 (K0 (bA r n)) = D364 r n aFv (xs x0 0 (K0 (bA r n))) (K0 (bA r n))).trans
 ((bMp r n).trans
 ((by kernel_rfl)))
theorem bLc : D364 r n aLg x0 r364 = D364 r n aAo x0 (K0 (bA r n)) :=
 congrArg (fun k => D364 r n aAo x0 k) (cHj r n)
theorem bQo : D364 r n aAo x0 (K0 (bA r n)) = D364 r n bCn x0 (K6 (aUw r n) 2 3 4 7 8 27) :=
 congrArg (fun k => D364 r n bCn x0 k) (cBb r n)
theorem cFy : D364 r n aLg x0 r364 = (K5 (aRu r n) 2 3 4 7 8) :=
 (bLc r n).trans
 ((bQo r n).trans
 ((by kernel_rfl)))
theorem bXg : D364 r n aFu x0 r364 = D364 r n aWz x0 (K5 (aRu r n) 2 3 4 7 8) :=
 congrArg (fun k => D364 r n aWz x0 k) (cFy r n)
theorem cFc : D364 r n aFu x0 r364 = (K4 (aTa r n) 2 3 4 7) :=
 (bXg r n).trans
 ((by kernel_rfl))
theorem bNq : D364 r n aHc x0 r364 = D364 r n aWs x0 (K4 (aTa r n) 2 3 4 7) :=
 congrArg (fun k => D364 r n aWs x0 k) (cFc r n)
theorem cLj : D364 r n aHc x0 r364 = (K3 (zY r n) 2 3 4) :=
 (bNq r n).trans
 ((by kernel_rfl))
theorem cIc : D364 r n c364 x0 r364 = D364 r n aJa x0 (K3 (zY r n) 2 3 4) :=
 congrArg (fun k => D364 r n aJa x0 k) (cLj r n)
theorem cHi (q0 : gE) : D364 r n aJa x0 (K3 q0 2 3 4) = fun (env : bC) (h : Hp) =>
 bnd (dB (env 0) h) fun v1 h1 =>
 bnd (dB (env 1) h1) fun v2 h2 =>
  q0 (env 2) v1 v2 h2 := by kernel_rfl
theorem bUu : (fun (env : bC) (h : Hp) =>
 bnd (dB (env 0) h) fun v1 h1 =>
 bnd (dB (env 1) h1) fun v2 h2 =>
  zY r n (env 2) v1 v2 h2) = (K3 (s364 r n) 0 1 2) := by kernel_rfl
theorem dHx : D364 r n c364 x0 r364 = (K3 (s364 r n) 0 1 2) :=
 (cIc r n).trans
 ((cHi r n (zY r n)).trans (bUu r n))
theorem dBc : aF CF r n 364 args h = s364 r n (aW args 0) (aW args 1) (aW args 2) h :=
 (by kernel_rfl : aF CF r n 364 args h = D364 r n c364 x0 r364 (aI args) h).trans ((congrFun (congrFun (dHx r n) (aI args)) h).trans (by kernel_rfl))
end Go.Dd

namespace Go.Dd
open Go.Proofs
variable (r : RT) (n : Nat) (args : List DV) (h : Hp)
noncomputable def bW (r : RT) (n : Nat) (x6 x9 : DV) (h0 : Hp) : aG :=
 bnd (aA x6 h0) fun v1 h1 =>
 bnd (aA x9 h1) fun v2 h2 =>
 some (.t [v1, v2], h2)
noncomputable def xF (r : RT) (n : Nat) (kk9 : gU) (x2 x3 x6 x7 x9 x10 x11 x14 : DV) (h0 : Hp) : aG :=
 bnd (aD .add x11 (aO 1) h0) fun v1 h1 =>
 bnd (aA x3 h1) fun v2 h2 =>
 bnd (aE 1 v2 x11 h2) fun v3 h3 =>
 bnd (aA v3 h3) fun v4 h4 =>
 bnd (jF CF r x10 [v1, v4, x14] h4) fun v5 h5 =>
  kk9 x2 x3 x6 x7 x9 x10 h5
noncomputable def aJy (r : RT) (n : Nat) (kk9 : gU) (x2 x3 x6 x7 x9 x10 x11 x12 x13 x14 : DV) (h0 : Hp) : aG :=
 bnd (aB 0 x12 h0) fun v1 h1 =>
 bnd (aA v1 h1) fun v2 h2 =>
 bnd (aD .eql v2 (aO 19) h2) fun v3 h3 =>
 aX v3 (
 bnd (aD .neq x13 (aO 1) h3) fun v4 h4 =>
 bnd (gD v4 false (aA x3 h4) h4) fun v5 h5 =>
 bnd (gD v4 false (some (x11, h5)) h5) fun v6 h6 =>
 bnd (gD v4 false (aE 1 v5 v6 h6) h6) fun v7 h7 =>
 bnd (gD v4 false (aA v7 h7) h7) fun v8 h8 =>
 bnd (gD v4 false (aD .lss v8 (aO 0) h8) h8) fun v9 h9 =>
 bnd (aP v4 (.b true) v9 h9) fun v10 h10 =>
 aX v10 (
 some (.t [.l0, (.b false)], h10)) (
   kk9 x2 x3 x6 x7 x9 x10 h10)) (
 bnd (aD .eql v2 (aO 20) h3) fun v11 h11 =>
 aX v11 (
   kk9 x2 x3 x6 x7 x9 x10 h11) (
 bnd (aD .eql v2 (aO 16) h11) fun v12 h12 =>
 aX v12 (
 bnd (aK 3 x12 h12) fun v13 h13 =>
 bnd (r 384 [v13] h13) fun v14 h14 =>
 bnd (aA x3 h14) fun v15 h15 =>
 cnd (bI (aA x3 h12) v15 && true) (
 bnd (aE 1 v15 x11 h15) fun v16 h16 =>
 bnd (aA v16 h16) fun v17 h17 =>
 cnd (bI (aA v16 h12) v17 && true) (
 bnd (jF CF r x10 [v14, v17, x14] h17) fun v18 h18 =>
    kk9 x2 x3 x6 x7 x9 x10 h18))) (
 bnd (aD .eql v2 (aO 17) h12) fun v19 h19 =>
 aX v19 (
 bnd (aK 3 x12 h19) fun v20 h20 =>
 bnd (r 384 [v20] h20) fun v21 h21 =>
 bnd (aA x3 h21) fun v22 h22 =>
 cnd (bI (aA x3 h19) v22 && true) (
 bnd (aE 1 v22 x11 h22) fun v23 h23 =>
 bnd (aA v23 h23) fun v24 h24 =>
 cnd (bI (aA v23 h19) v24 && true) (
 bnd (jF CF r x10 [v21, v24, x14] h24) fun v25 h25 =>
     xF r n kk9 x2 x3 x6 x7 x9 x10 x11 x14 h25))) (
     xF r n kk9 x2 x3 x6 x7 x9 x10 x11 x14 h19))))
noncomputable def aHx (r : RT) (n : Nat) (kk9 : gU) (x2 x3 x6 x7 x9 x10 x11 x12 x13 x14 : DV) (h0 : Hp) : aG :=
 bnd (aK 3 x12 h0) fun v1 h1 =>
 bnd (r 442 [v1] h1) fun v2 h2 =>
 bnd (aD .lss x13 v2 h2) fun v3 h3 =>
 bnd (gD v3 false (some (x14, h3)) h3) fun v4 h4 =>
 bnd (gD v3 false (aD .gtr v4 (aO 24) h4) h4) fun v5 h5 =>
 bnd (aP v3 (.b true) v5 h5) fun v6 h6 =>
 aX v6 (
 some (.t [.l0, (.b false)], h6)) (
  aJy r n kk9 x2 x3 x6 x7 x9 x10 x11 x12 x13 x14 h6)
noncomputable def aFg (r : RT) (n : Nat) (kk9 : gU) (x2 x3 x6 x7 x9 x10 x11 x12 x13 : DV) (h0 : Hp) : aG :=
 bnd (aK 3 x12 h0) fun v1 h1 =>
 bnd (r 441 [v1] h1) fun v2 h2 =>
 bnd (aD .add x13 v2 h2) fun v3 h3 =>
  aHx r n kk9 x2 x3 x6 x7 x9 x10 x11 x12 x13 v3 h3
noncomputable def aGd (r : RT) (n : Nat) (kk9 : gU) (x2 x3 x6 x7 x9 x10 x11 : DV) (h0 : Hp) : aG :=
 bnd (aA x2 (resv 1 h0)) fun v1 h1 =>
 bnd (aE 3 v1 x11 h1) fun v2 h2 =>
 bnd (aK 3 v2 h2) fun v3 h3 =>
 bnd (aA x6 h3) fun v4 h4 =>
 bnd (aE 1 v4 x11 h4) fun v5 h5 =>
 bnd (aA v5 h5) fun v6 h6 =>
 bnd (nA (cK 0 h0.next) [(aO 0), (aO 0), (aO 0)] h6) fun v7 h7 =>
 bnd (aH 3 v7 v3 h7) fun v8 h8 =>
 cnd (bI (aA v5 h8) v6 && (bI (aA x6 h8) v4 && true)) (
  aFg r n kk9 x2 x3 x6 x7 x9 x10 x11 v7 v6 h8)
noncomputable def aEy (r : RT) (n : Nat) (kk9 : gU) (x2 x3 x6 x7 x9 x10 x11 : DV) (h0 : Hp) : aG :=
 bnd (aA x7 h0) fun v1 h1 =>
 bnd (aA x7 h1) fun v2 h2 =>
 bnd (cQ v2 h2) fun v3 h3 =>
 bnd (aD .sub v3 (aO 1) h3) fun v4 h4 =>
 bnd (dN 1 v1 none (some v4) h4) fun v5 h5 =>
 bnd (aH 1 x7 v5 h5) fun _ h6 =>
  aGd r n kk9 x2 x3 x6 x7 x9 x10 x11 h6
noncomputable def aJb (r : RT) (n : Nat) (kk9 : gU) (x2 x3 x6 x7 x9 x10 : DV) (h0 : Hp) : aG :=
 bnd (aA x7 h0) fun v1 h1 =>
 bnd (aA x7 h1) fun v2 h2 =>
 bnd (cQ v2 h2) fun v3 h3 =>
 bnd (aD .sub v3 (aO 1) h3) fun v4 h4 =>
 bnd (aE 1 v1 v4 h4) fun v5 h5 =>
 bnd (aA v5 h5) fun v6 h6 =>
  aEy r n kk9 x2 x3 x6 x7 x9 x10 v6 h6
noncomputable def aVz (r : RT) (n : Nat) (kk9 : gU) (x2 x3 x6 x7 x9 x10 : DV) (h0 : Hp) : aG :=
 bnd (aA x7 h0) fun v1 h1 =>
 bnd (cQ v1 h1) fun v2 h2 =>
 bnd (aD .gtr v2 (aO 0) h2) fun v3 h3 =>
 bnd (gD v3 true (aA x9 h3) h3) fun v4 h4 =>
 bnd (aP v3 v4 (.b false) h4) fun v5 h5 =>
 aX v5 (
   aJb r n kk9 x2 x3 x6 x7 x9 x10 h5) (
   bW r n x6 x9 h5)
noncomputable def vU (r : RT) (n : Nat) (m : Nat) : gU :=
 Nat.rec (motive := fun _ => gU) (fun _ _ _ _ _ _ _ => none) (fun _ ih => aVz r n ih) m
noncomputable def bUk (r : RT) (n : Nat) : gU := vU r n n
noncomputable def aUo (r : RT) (n : Nat) (x2 x3 x6 x7 x9 x10 : DV) (h0 : Hp) : aG :=
 bUk r n x2 x3 x6 x7 x9 x10 h0
noncomputable def aTt (r : RT) (n : Nat) (x2 x3 x6 x7 x9 x10 : DV) (h0 : Hp) : aG :=
 aUo r n x2 x3 x6 x7 x9 x10 h0
noncomputable def zT (r : RT) (n : Nat) (x2 x3 x6 x7 x9 : DV) (h0 : Hp) : aG :=
 aTt r n x2 x3 x6 x7 x9 (.f 440 [] [x2, x3, x6, x9, x7]) h0
noncomputable def dC (r : RT) (n : Nat) (x2 x3 x6 x7 : DV) (h0 : Hp) : aG :=
 bnd (cJ [(.b false)] h0) fun v1 h1 =>
 bnd (aH 1 v1 (.b true) h1) fun _ h2 =>
  zT r n x2 x3 x6 x7 v1 h2
noncomputable def mN (r : RT) (n : Nat) (kk18 : gU) (x2 x3 x6 x7 x19 x20 : DV) (h0 : Hp) : aG :=
 bnd (aD .add x20 (aO 1) h0) fun v1 h1 =>
  kk18 x2 x3 x6 x7 x19 v1 h1
noncomputable def vV (r : RT) (n : Nat) (kk18 : gU) (x2 x3 x6 x7 x19 x20 : DV) (h0 : Hp) : aG :=
 bnd (aA x6 h0) fun v1 h1 =>
 bnd (aE 1 v1 x20 h1) fun v2 h2 =>
 bnd (aH 1 v2 (.i .i64 (Int.negSucc 0)) h2) fun _ h3 =>
 bnd (aD .eql x20 (aO 0) h3) fun v4 h4 =>
 bnd (gD v4 false (some (x20, h4)) h4) fun v5 h5 =>
 bnd (gD v4 false (aD .gtr v5 (aO 1) h5) h5) fun v6 h6 =>
 bnd (gD v4 false (some (v6, h6)) h6) fun v7 h7 =>
 bnd (gD v7 true (aA x2 h7) h7) fun v8 h8 =>
 bnd (gD v7 true (some (x20, h8)) h8) fun v9 h9 =>
 bnd (gD v7 true (aD .sub v9 (aO 2) h9) h9) fun v10 h10 =>
 bnd (gD v7 true (aE 3 v8 v10 h10) h10) fun v11 h11 =>
 bnd (gD v7 true (aB 0 v11 h11) h11) fun v12 h12 =>
 bnd (gD v7 true (aA v12 h12) h12) fun v13 h13 =>
 bnd (gD v7 true (aD .eql v13 (aO 18) h13) h13) fun v14 h14 =>
 bnd (gD v4 false (aP v7 v14 (.b false) h14) h14) fun v15 h15 =>
 bnd (gD v4 false (some (v15, h15)) h15) fun v16 h16 =>
 bnd (gD v16 true (aA x3 h16) h16) fun v17 h17 =>
 bnd (gD v16 true (some (x20, h17)) h17) fun v18 h18 =>
 bnd (gD v16 true (aE 1 v17 v18 h18) h18) fun v19 h19 =>
 bnd (gD v16 true (aA v19 h19) h19) fun v20 h20 =>
 bnd (gD v16 true (some (x20, h20)) h20) fun v21 h21 =>
 bnd (gD v16 true (aD .sub v21 (aO 2) h21) h21) fun v22 h22 =>
 bnd (gD v16 true (aD .eql v20 v22 h22) h22) fun v23 h23 =>
 bnd (gD v4 false (aP v16 v23 (.b false) h23) h23) fun v24 h24 =>
 bnd (aP v4 (.b true) v24 h24) fun v25 h25 =>
 aX v25 (
 bnd (aA x6 h25) fun v26 h26 =>
 bnd (aE 1 v26 x20 h26) fun v27 h27 =>
 bnd (aH 1 v27 (aO 0) h27) fun _ h28 =>
 bnd (aA x7 h28) fun v29 h29 =>
 bnd (aN [(aO 0)] 1 [(0, 1, x20)] h29) fun v30 h30 =>
 bnd (bK 1 8 v29 v30 h30) fun v31 h31 =>
 bnd (aH 1 x7 v31 h31) fun _ h32 =>
  mN r n kk18 x2 x3 x6 x7 x19 x20 h32) (
  mN r n kk18 x2 x3 x6 x7 x19 x20 h25)
noncomputable def aFh (r : RT) (n : Nat) (kk18 : gU) (x2 x3 x6 x7 x19 x20 x21 : DV) (h0 : Hp) : aG :=
 aX x21 (
  vV r n kk18 x2 x3 x6 x7 x19 x20 h0) (
  dC r n x2 x3 x6 x7 h0)
noncomputable def aMx (r : RT) (n : Nat) (kk18 : gU) (x2 x3 x6 x7 x19 x20 : DV) (h0 : Hp) : aG :=
 bnd (aD .lss x20 x19 h0) fun v1 h1 =>
  aFh r n kk18 x2 x3 x6 x7 x19 x20 v1 h1
noncomputable def rR (r : RT) (n : Nat) (m : Nat) : gU :=
 Nat.rec (motive := fun _ => gU) (fun _ _ _ _ _ _ _ => none) (fun _ ih => aMx r n ih) m
noncomputable def bCi (r : RT) (n : Nat) : gU := rR r n n
noncomputable def aKz (r : RT) (n : Nat) (x2 x3 x6 x7 x19 x20 : DV) (h0 : Hp) : aG :=
 bCi r n x2 x3 x6 x7 x19 x20 h0
noncomputable def aAb (r : RT) (n : Nat) (x2 x3 x6 x7 : DV) (h0 : Hp) : aG :=
 bnd (aA x6 h0) fun v1 h1 =>
 bnd (cQ v1 h1) fun v2 h2 =>
  aKz r n x2 x3 x6 x7 v2 (aO 0) h2
noncomputable def uF (r : RT) (n : Nat) (x2 x3 x6 : DV) (h0 : Hp) : aG :=
 bnd (cJ [.l0] h0) fun v1 h1 =>
  aAb r n x2 x3 x6 v1 h1
noncomputable def tG (r : RT) (n : Nat) (x2 x3 : DV) (h0 : Hp) : aG :=
 bnd (aA x2 h0) fun v1 h1 =>
 bnd (cQ v1 h1) fun v2 h2 =>
 bnd (bR 1 8 [(aO 0)] v2 v2 h2) fun v3 h3 =>
 bnd (cJ [.l0] h3) fun v4 h4 =>
 bnd (aH 1 v4 v3 h4) fun _ h5 =>
  uF r n x2 x3 v4 h5
noncomputable def s367 (r : RT) (n : Nat) (x0 x1 : DV) (h0 : Hp) : aG :=
 bnd (dB x0 h0) fun v1 h1 =>
 bnd (dB x1 h1) fun v2 h2 =>
  tG r n v1 v2 h2
noncomputable abbrev c367 : Code := cf Tryz.f367
noncomputable abbrev aPi : Code := cR c367
noncomputable abbrev aIm : Code := cL aPi
noncomputable abbrev aId : Code := cR aIm
noncomputable abbrev aHj : Code := cR aId
noncomputable abbrev aDy : Code := cR aHj
noncomputable abbrev aIy : Code := cR aDy
noncomputable abbrev aFk : Code := cR aIy
noncomputable abbrev aJj : Code := cR aFk
noncomputable abbrev dAt : Code := cR aJj
noncomputable abbrev wJ : Code := cL aJj
noncomputable abbrev wO : Code := cL wJ
noncomputable abbrev iW : Code := cL wO
noncomputable abbrev aGk : Code := cR iW
noncomputable abbrev vW : Code := cL aGk
noncomputable abbrev xO : Code := cR vW
noncomputable abbrev wA : Code := cR xO
noncomputable abbrev wI : Code := cR wA
noncomputable abbrev wH : Code := cR wI
noncomputable abbrev wF : Code := cR wH
noncomputable abbrev cMc : Code := cR wF
noncomputable abbrev aWc : Code := cL wF
noncomputable abbrev aYy : Code := cL wH
noncomputable abbrev aVb : Code := cL wI
noncomputable abbrev aZc : Code := cL wA
noncomputable abbrev aZw : Code := cL xO
noncomputable abbrev aWk : Code := cL vW
noncomputable abbrev bBl : Code := cL iW
noncomputable abbrev bCg : Code := cL aFk
noncomputable abbrev bCl : Code := cL aIy
noncomputable abbrev aHp : Code := cL aDy
noncomputable abbrev sH : Code := cL aHj
noncomputable abbrev aKd : Code := cR sH
noncomputable abbrev wE : Code := cL aKd
noncomputable abbrev iY : Code := cL wE
noncomputable abbrev xL : Code := cR iY
noncomputable abbrev vQ : Code := cR xL
noncomputable abbrev cFd : Code := cR vQ
noncomputable abbrev aJr : Code := cL vQ
noncomputable abbrev aZr : Code := cL xL
noncomputable abbrev aWt : Code := cL iY
noncomputable abbrev aZj : Code := cL sH
noncomputable abbrev aHi : Code := cL aId
noncomputable abbrev aLe : Code := cL aIm
noncomputable abbrev aFb : Code := cL c367
noncomputable abbrev r367 : K := aQ CF Tryz.f367
noncomputable def D367 (r : RT) (n : Nat) (c : Code) (X : Nat → K) (k : K) : K := aM CF r 144 n c X r367 k
theorem cLs : D367 r n dAt x0 r367 = (K2 (bW r n) 6 9) :=
 (by kernel_rfl)
theorem bJq (kk9 : gU) : D367 r n cMc (xs (xs x0 2 (K2 (bW r n) 6 9)) 3 (K6 kk9 2 3 6 7 9 10)) (K6 kk9 2 3 6 7 9 10) = (K8 (xF r n kk9) 2 3 6 7 9 10 11 14) :=
 (by kernel_rfl)
theorem bCr (kk9 : gU) : D367 r n wF (xs (xs x0 2 (K2 (bW r n) 6 9)) 3 (K6 kk9 2 3 6 7 9 10)) (K6 kk9 2 3 6 7 9 10) = D367 r n aWc (xs (xs x0 2 (K2 (bW r n) 6 9)) 3 (K6 kk9 2 3 6 7 9 10)) (K8 (xF r n kk9) 2 3 6 7 9 10 11 14) :=
 congrArg (fun k => D367 r n aWc (xs (xs x0 2 (K2 (bW r n) 6 9)) 3 (K6 kk9 2 3 6 7 9 10)) k) (bJq r n kk9)
theorem bMd (kk9 : gU) : D367 r n wF (xs (xs x0 2 (K2 (bW r n) 6 9)) 3 (K6 kk9 2 3 6 7 9 10)) (K6 kk9 2 3 6 7 9 10) = (K10 (aJy r n kk9) 2 3 6 7 9 10 11 12 13 14) :=
 (bCr r n kk9).trans
 ((by kernel_rfl))
theorem bEs (kk9 : gU) : D367 r n wH (xs (xs x0 2 (K2 (bW r n) 6 9)) 3 (K6 kk9 2 3 6 7 9 10)) (K6 kk9 2 3 6 7 9 10) = D367 r n aYy (xs (xs x0 2 (K2 (bW r n) 6 9)) 3 (K6 kk9 2 3 6 7 9 10)) (K10 (aJy r n kk9) 2 3 6 7 9 10 11 12 13 14) :=
 congrArg (fun k => D367 r n aYy (xs (xs x0 2 (K2 (bW r n) 6 9)) 3 (K6 kk9 2 3 6 7 9 10)) k) (bMd r n kk9)
theorem bKk (kk9 : gU) : D367 r n wH (xs (xs x0 2 (K2 (bW r n) 6 9)) 3 (K6 kk9 2 3 6 7 9 10)) (K6 kk9 2 3 6 7 9 10) = (K10 (aHx r n kk9) 2 3 6 7 9 10 11 12 13 14) :=
 (bEs r n kk9).trans
 ((by kernel_rfl))
theorem bGm (kk9 : gU) : D367 r n wI (xs (xs x0 2 (K2 (bW r n) 6 9)) 3 (K6 kk9 2 3 6 7 9 10)) (K6 kk9 2 3 6 7 9 10) = D367 r n aVb (xs (xs x0 2 (K2 (bW r n) 6 9)) 3 (K6 kk9 2 3 6 7 9 10)) (K10 (aHx r n kk9) 2 3 6 7 9 10 11 12 13 14) :=
 congrArg (fun k => D367 r n aVb (xs (xs x0 2 (K2 (bW r n) 6 9)) 3 (K6 kk9 2 3 6 7 9 10)) k) (bKk r n kk9)
theorem bJa (kk9 : gU) : D367 r n wI (xs (xs x0 2 (K2 (bW r n) 6 9)) 3 (K6 kk9 2 3 6 7 9 10)) (K6 kk9 2 3 6 7 9 10) = (K9 (aFg r n kk9) 2 3 6 7 9 10 11 12 13) :=
 (bGm r n kk9).trans
 ((by kernel_rfl))
theorem bDl (kk9 : gU) : D367 r n wA (xs (xs x0 2 (K2 (bW r n) 6 9)) 3 (K6 kk9 2 3 6 7 9 10)) (K6 kk9 2 3 6 7 9 10) = D367 r n aZc (xs (xs x0 2 (K2 (bW r n) 6 9)) 3 (K6 kk9 2 3 6 7 9 10)) (K9 (aFg r n kk9) 2 3 6 7 9 10 11 12 13) :=
 congrArg (fun k => D367 r n aZc (xs (xs x0 2 (K2 (bW r n) 6 9)) 3 (K6 kk9 2 3 6 7 9 10)) k) (bJa r n kk9)
theorem bHw (kk9 : gU) : D367 r n wA (xs (xs x0 2 (K2 (bW r n) 6 9)) 3 (K6 kk9 2 3 6 7 9 10)) (K6 kk9 2 3 6 7 9 10) = (K7 (aGd r n kk9) 2 3 6 7 9 10 11) :=
 (bDl r n kk9).trans
 ((by kernel_rfl))
theorem bGt (kk9 : gU) : D367 r n xO (xs (xs x0 2 (K2 (bW r n) 6 9)) 3 (K6 kk9 2 3 6 7 9 10)) (K6 kk9 2 3 6 7 9 10) = D367 r n aZw (xs (xs x0 2 (K2 (bW r n) 6 9)) 3 (K6 kk9 2 3 6 7 9 10)) (K7 (aGd r n kk9) 2 3 6 7 9 10 11) :=
 congrArg (fun k => D367 r n aZw (xs (xs x0 2 (K2 (bW r n) 6 9)) 3 (K6 kk9 2 3 6 7 9 10)) k) (bHw r n kk9)
theorem bTf (kk9 : gU) : D367 r n xO (xs (xs x0 2 (K2 (bW r n) 6 9)) 3 (K6 kk9 2 3 6 7 9 10)) (K6 kk9 2 3 6 7 9 10) = (K7 (aEy r n kk9) 2 3 6 7 9 10 11) :=
 (bGt r n kk9).trans
 ((by kernel_rfl))
theorem bEm (kk9 : gU) : D367 r n vW (xs (xs x0 2 (K2 (bW r n) 6 9)) 3 (K6 kk9 2 3 6 7 9 10)) (K6 kk9 2 3 6 7 9 10) = D367 r n aWk (xs (xs x0 2 (K2 (bW r n) 6 9)) 3 (K6 kk9 2 3 6 7 9 10)) (K7 (aEy r n kk9) 2 3 6 7 9 10 11) :=
 congrArg (fun k => D367 r n aWk (xs (xs x0 2 (K2 (bW r n) 6 9)) 3 (K6 kk9 2 3 6 7 9 10)) k) (bTf r n kk9)
theorem bSo (kk9 : gU) : D367 r n aGk (xs x0 2 (K2 (bW r n) 6 9)) (K6 kk9 2 3 6 7 9 10) = (K6 (aJb r n kk9) 2 3 6 7 9 10) :=
 (by kernel_rfl : D367 r n aGk (xs x0 2 (K2 (bW r n) 6 9)) (K6 kk9 2 3 6 7 9 10) = D367 r n vW (xs (xs x0 2 (K2 (bW r n) 6 9)) 3 (K6 kk9 2 3 6 7 9 10)) (K6 kk9 2 3 6 7 9 10)).trans
 ((bEm r n kk9).trans
 ((by kernel_rfl)))
theorem bXh (kk9 : gU) : D367 r n iW (xs x0 2 (K2 (bW r n) 6 9)) (K6 kk9 2 3 6 7 9 10) = D367 r n bBl (xs x0 2 (K2 (bW r n) 6 9)) (K6 (aJb r n kk9) 2 3 6 7 9 10) :=
 congrArg (fun k => D367 r n bBl (xs x0 2 (K2 (bW r n) 6 9)) k) (bSo r n kk9)
theorem bLe (kk9 : gU) : D367 r n iW (xs x0 2 (K2 (bW r n) 6 9)) (K6 kk9 2 3 6 7 9 10) = (K6 (aVz r n kk9) 2 3 6 7 9 10) :=
 (bXh r n kk9).trans
 ((by kernel_rfl))
theorem bVe (m : Nat) : aL (fun kk => D367 r n iW (xs x0 2 (K2 (bW r n) 6 9)) kk) m = (K6 (vU r n m) 2 3 6 7 9 10) := by
 induction m with
 | zero => exact (by kernel_rfl : aL (fun kk => D367 r n iW (xs x0 2 (K2 (bW r n) 6 9)) kk) 0 = (K6 (vU r n 0) 2 3 6 7 9 10))
 | succ m ih =>
  refine (by kernel_rfl : aL (fun kk => D367 r n iW (xs x0 2 (K2 (bW r n) 6 9)) kk) (m + 1) = D367 r n iW (xs x0 2 (K2 (bW r n) 6 9)) (aL (fun kk => D367 r n iW (xs x0 2 (K2 (bW r n) 6 9)) kk) m)).trans ?_
  rw [ih]
  exact (bLe r n (vU r n m)).trans (by kernel_rfl)
theorem cDs : D367 r n wO (xs x0 2 (K2 (bW r n) 6 9)) (K2 (bW r n) 6 9) = (K6 (bUk r n) 2 3 6 7 9 10) :=
 (by kernel_rfl : D367 r n wO (xs x0 2 (K2 (bW r n) 6 9)) (K2 (bW r n) 6 9) = aL (fun kk => D367 r n iW (xs x0 2 (K2 (bW r n) 6 9)) kk) n).trans ((bVe r n n).trans (by kernel_rfl))
theorem bWq : D367 r n aJj x0 r367 = D367 r n wJ x0 (K2 (bW r n) 6 9) :=
 congrArg (fun k => D367 r n wJ x0 k) (cLs r n)
theorem cGi : D367 r n aJj x0 r367 = (K6 (aUo r n) 2 3 6 7 9 10) :=
 (bWq r n).trans
 ((by kernel_rfl : D367 r n wJ x0 (K2 (bW r n) 6 9) = D367 r n wO (xs x0 2 (K2 (bW r n) 6 9)) (K2 (bW r n) 6 9)).trans
 ((cDs r n).trans (by kernel_rfl)))
theorem bNj : D367 r n aFk x0 r367 = D367 r n bCg x0 (K6 (aUo r n) 2 3 6 7 9 10) :=
 congrArg (fun k => D367 r n bCg x0 k) (cGi r n)
theorem cIq : D367 r n aFk x0 r367 = (K6 (aTt r n) 2 3 6 7 9 10) :=
 (bNj r n).trans
 ((by kernel_rfl))
theorem bFk : D367 r n aIy x0 r367 = D367 r n bCl x0 (K6 (aTt r n) 2 3 6 7 9 10) :=
 congrArg (fun k => D367 r n bCl x0 k) (cIq r n)
theorem cAo : D367 r n aIy x0 r367 = (K5 (zT r n) 2 3 6 7 9) :=
 (bFk r n).trans
 ((by kernel_rfl))
theorem bGs : D367 r n aDy x0 r367 = D367 r n aHp x0 (K5 (zT r n) 2 3 6 7 9) :=
 congrArg (fun k => D367 r n aHp x0 k) (cAo r n)
theorem bHg (q0 : dJ) : D367 r n aHp x0 (K5 q0 2 3 6 7 9) = fun (env : bC) (h : Hp) =>
 bnd (cJ [(.b false)] h) fun v1 h1 =>
 bnd (aH 1 v1 (.b true) h1) fun _ h2 =>
  q0 (env 2) (env 3) (env 6) (env 7) v1 h2 := by kernel_rfl
theorem aPs : (fun (env : bC) (h : Hp) =>
 bnd (cJ [(.b false)] h) fun v1 h1 =>
 bnd (aH 1 v1 (.b true) h1) fun _ h2 =>
  zT r n (env 2) (env 3) (env 6) (env 7) v1 h2) = (K4 (dC r n) 2 3 6 7) := by kernel_rfl
theorem cFf : D367 r n aDy x0 r367 = (K4 (dC r n) 2 3 6 7) :=
 (bGs r n).trans
 ((bHg r n (zT r n)).trans (aPs r n))
theorem bXi (kk18 : gU) : D367 r n cFd (xs x0 0 (K4 (dC r n) 2 3 6 7)) (K6 kk18 2 3 6 7 19 20) = (K6 (mN r n kk18) 2 3 6 7 19 20) :=
 (by kernel_rfl)
theorem aPz (kk18 : gU) : D367 r n vQ (xs x0 0 (K4 (dC r n) 2 3 6 7)) (K6 kk18 2 3 6 7 19 20) = D367 r n aJr (xs x0 0 (K4 (dC r n) 2 3 6 7)) (K6 (mN r n kk18) 2 3 6 7 19 20) :=
 congrArg (fun k => D367 r n aJr (xs x0 0 (K4 (dC r n) 2 3 6 7)) k) (bXi r n kk18)
theorem aRx (kk18 : gU) (q0 : gU) (q1 : fB) : D367 r n aJr (xs x0 0 (K4 q1 2 3 6 7)) (K6 q0 2 3 6 7 19 20) = fun (env : bC) (h : Hp) =>
 bnd (aA (env 6) h) fun v1 h1 =>
 bnd (aE 1 v1 (env 20) h1) fun v2 h2 =>
 bnd (aH 1 v2 (.i .i64 (Int.negSucc 0)) h2) fun _ h3 =>
 bnd (aD .eql (env 20) (aO 0) h3) fun v4 h4 =>
 bnd (gD v4 false (some ((env 20), h4)) h4) fun v5 h5 =>
 bnd (gD v4 false (aD .gtr v5 (aO 1) h5) h5) fun v6 h6 =>
 bnd (gD v4 false (some (v6, h6)) h6) fun v7 h7 =>
 bnd (gD v7 true (aA (env 2) h7) h7) fun v8 h8 =>
 bnd (gD v7 true (some ((env 20), h8)) h8) fun v9 h9 =>
 bnd (gD v7 true (aD .sub v9 (aO 2) h9) h9) fun v10 h10 =>
 bnd (gD v7 true (aE 3 v8 v10 h10) h10) fun v11 h11 =>
 bnd (gD v7 true (aB 0 v11 h11) h11) fun v12 h12 =>
 bnd (gD v7 true (aA v12 h12) h12) fun v13 h13 =>
 bnd (gD v7 true (aD .eql v13 (aO 18) h13) h13) fun v14 h14 =>
 bnd (gD v4 false (aP v7 v14 (.b false) h14) h14) fun v15 h15 =>
 bnd (gD v4 false (some (v15, h15)) h15) fun v16 h16 =>
 bnd (gD v16 true (aA (env 3) h16) h16) fun v17 h17 =>
 bnd (gD v16 true (some ((env 20), h17)) h17) fun v18 h18 =>
 bnd (gD v16 true (aE 1 v17 v18 h18) h18) fun v19 h19 =>
 bnd (gD v16 true (aA v19 h19) h19) fun v20 h20 =>
 bnd (gD v16 true (some ((env 20), h20)) h20) fun v21 h21 =>
 bnd (gD v16 true (aD .sub v21 (aO 2) h21) h21) fun v22 h22 =>
 bnd (gD v16 true (aD .eql v20 v22 h22) h22) fun v23 h23 =>
 bnd (gD v4 false (aP v16 v23 (.b false) h23) h23) fun v24 h24 =>
 bnd (aP v4 (.b true) v24 h24) fun v25 h25 =>
 aX v25 (
 bnd (aA (env 6) h25) fun v26 h26 =>
 bnd (aE 1 v26 (env 20) h26) fun v27 h27 =>
 bnd (aH 1 v27 (aO 0) h27) fun _ h28 =>
 bnd (aA (env 7) h28) fun v29 h29 =>
 bnd (aN [(aO 0)] 1 [(0, 1, (env 20))] h29) fun v30 h30 =>
 bnd (bK 1 8 v29 v30 h30) fun v31 h31 =>
 bnd (aH 1 (env 7) v31 h31) fun _ h32 =>
      q0 (env 2) (env 3) (env 6) (env 7) (env 19) (env 20) h32) (
      q0 (env 2) (env 3) (env 6) (env 7) (env 19) (env 20) h25) := by kernel_rfl
theorem aNi (kk18 : gU) : (fun (env : bC) (h : Hp) =>
 bnd (aA (env 6) h) fun v1 h1 =>
 bnd (aE 1 v1 (env 20) h1) fun v2 h2 =>
 bnd (aH 1 v2 (.i .i64 (Int.negSucc 0)) h2) fun _ h3 =>
 bnd (aD .eql (env 20) (aO 0) h3) fun v4 h4 =>
 bnd (gD v4 false (some ((env 20), h4)) h4) fun v5 h5 =>
 bnd (gD v4 false (aD .gtr v5 (aO 1) h5) h5) fun v6 h6 =>
 bnd (gD v4 false (some (v6, h6)) h6) fun v7 h7 =>
 bnd (gD v7 true (aA (env 2) h7) h7) fun v8 h8 =>
 bnd (gD v7 true (some ((env 20), h8)) h8) fun v9 h9 =>
 bnd (gD v7 true (aD .sub v9 (aO 2) h9) h9) fun v10 h10 =>
 bnd (gD v7 true (aE 3 v8 v10 h10) h10) fun v11 h11 =>
 bnd (gD v7 true (aB 0 v11 h11) h11) fun v12 h12 =>
 bnd (gD v7 true (aA v12 h12) h12) fun v13 h13 =>
 bnd (gD v7 true (aD .eql v13 (aO 18) h13) h13) fun v14 h14 =>
 bnd (gD v4 false (aP v7 v14 (.b false) h14) h14) fun v15 h15 =>
 bnd (gD v4 false (some (v15, h15)) h15) fun v16 h16 =>
 bnd (gD v16 true (aA (env 3) h16) h16) fun v17 h17 =>
 bnd (gD v16 true (some ((env 20), h17)) h17) fun v18 h18 =>
 bnd (gD v16 true (aE 1 v17 v18 h18) h18) fun v19 h19 =>
 bnd (gD v16 true (aA v19 h19) h19) fun v20 h20 =>
 bnd (gD v16 true (some ((env 20), h20)) h20) fun v21 h21 =>
 bnd (gD v16 true (aD .sub v21 (aO 2) h21) h21) fun v22 h22 =>
 bnd (gD v16 true (aD .eql v20 v22 h22) h22) fun v23 h23 =>
 bnd (gD v4 false (aP v16 v23 (.b false) h23) h23) fun v24 h24 =>
 bnd (aP v4 (.b true) v24 h24) fun v25 h25 =>
 aX v25 (
 bnd (aA (env 6) h25) fun v26 h26 =>
 bnd (aE 1 v26 (env 20) h26) fun v27 h27 =>
 bnd (aH 1 v27 (aO 0) h27) fun _ h28 =>
 bnd (aA (env 7) h28) fun v29 h29 =>
 bnd (aN [(aO 0)] 1 [(0, 1, (env 20))] h29) fun v30 h30 =>
 bnd (bK 1 8 v29 v30 h30) fun v31 h31 =>
 bnd (aH 1 (env 7) v31 h31) fun _ h32 =>
      mN r n kk18 (env 2) (env 3) (env 6) (env 7) (env 19) (env 20) h32) (
      mN r n kk18 (env 2) (env 3) (env 6) (env 7) (env 19) (env 20) h25)) = (K6 (vV r n kk18) 2 3 6 7 19 20) := by kernel_rfl
theorem bQg (kk18 : gU) : D367 r n vQ (xs x0 0 (K4 (dC r n) 2 3 6 7)) (K6 kk18 2 3 6 7 19 20) = (K6 (vV r n kk18) 2 3 6 7 19 20) :=
 (aPz r n kk18).trans
 ((aRx r n kk18 (mN r n kk18) (dC r n)).trans (aNi r n kk18))
theorem aRe (kk18 : gU) : D367 r n xL (xs x0 0 (K4 (dC r n) 2 3 6 7)) (K6 kk18 2 3 6 7 19 20) = D367 r n aZr (xs x0 0 (K4 (dC r n) 2 3 6 7)) (K6 (vV r n kk18) 2 3 6 7 19 20) :=
 congrArg (fun k => D367 r n aZr (xs x0 0 (K4 (dC r n) 2 3 6 7)) k) (bQg r n kk18)
theorem bRa (kk18 : gU) : D367 r n xL (xs x0 0 (K4 (dC r n) 2 3 6 7)) (K6 kk18 2 3 6 7 19 20) = (K7 (aFh r n kk18) 2 3 6 7 19 20 21) :=
 (aRe r n kk18).trans
 ((by kernel_rfl))
theorem aSk (kk18 : gU) : D367 r n iY (xs x0 0 (K4 (dC r n) 2 3 6 7)) (K6 kk18 2 3 6 7 19 20) = D367 r n aWt (xs x0 0 (K4 (dC r n) 2 3 6 7)) (K7 (aFh r n kk18) 2 3 6 7 19 20 21) :=
 congrArg (fun k => D367 r n aWt (xs x0 0 (K4 (dC r n) 2 3 6 7)) k) (bRa r n kk18)
theorem bGk (kk18 : gU) : D367 r n iY (xs x0 0 (K4 (dC r n) 2 3 6 7)) (K6 kk18 2 3 6 7 19 20) = (K6 (aMx r n kk18) 2 3 6 7 19 20) :=
 (aSk r n kk18).trans
 ((by kernel_rfl))
theorem bEq (m : Nat) : aL (fun kk => D367 r n iY (xs x0 0 (K4 (dC r n) 2 3 6 7)) kk) m = (K6 (rR r n m) 2 3 6 7 19 20) := by
 induction m with
 | zero => exact (by kernel_rfl : aL (fun kk => D367 r n iY (xs x0 0 (K4 (dC r n) 2 3 6 7)) kk) 0 = (K6 (rR r n 0) 2 3 6 7 19 20))
 | succ m ih =>
  refine (by kernel_rfl : aL (fun kk => D367 r n iY (xs x0 0 (K4 (dC r n) 2 3 6 7)) kk) (m + 1) = D367 r n iY (xs x0 0 (K4 (dC r n) 2 3 6 7)) (aL (fun kk => D367 r n iY (xs x0 0 (K4 (dC r n) 2 3 6 7)) kk) m)).trans ?_
  rw [ih]
  exact (bGk r n (rR r n m)).trans (by kernel_rfl)
theorem bJl : D367 r n wE (xs x0 0 (K4 (dC r n) 2 3 6 7)) (K4 (dC r n) 2 3 6 7) = (K6 (bCi r n) 2 3 6 7 19 20) :=
 (by kernel_rfl : D367 r n wE (xs x0 0 (K4 (dC r n) 2 3 6 7)) (K4 (dC r n) 2 3 6 7) = aL (fun kk => D367 r n iY (xs x0 0 (K4 (dC r n) 2 3 6 7)) kk) n).trans ((bEq r n n).trans (by kernel_rfl))
theorem bMk : D367 r n aKd x0 (K4 (dC r n) 2 3 6 7) = (K6 (aKz r n) 2 3 6 7 19 20) :=
 (by kernel_rfl : D367 r n aKd x0 (K4 (dC r n) 2 3 6 7) = D367 r n wE (xs x0 0 (K4 (dC r n) 2 3 6 7)) (K4 (dC r n) 2 3 6 7)).trans
 ((bJl r n).trans (by kernel_rfl))
theorem bEy : D367 r n aHj x0 r367 = D367 r n sH x0 (K4 (dC r n) 2 3 6 7) :=
 congrArg (fun k => D367 r n sH x0 k) (cFf r n)
theorem bEa : D367 r n sH x0 (K4 (dC r n) 2 3 6 7) = D367 r n aZj x0 (K6 (aKz r n) 2 3 6 7 19 20) :=
 congrArg (fun k => D367 r n aZj x0 k) (bMk r n)
theorem cEd : D367 r n aHj x0 r367 = (K4 (aAb r n) 2 3 6 7) :=
 (bEy r n).trans
 ((bEa r n).trans
 ((by kernel_rfl)))
theorem bFs : D367 r n aId x0 r367 = D367 r n aHi x0 (K4 (aAb r n) 2 3 6 7) :=
 congrArg (fun k => D367 r n aHi x0 k) (cEd r n)
theorem bDh (q0 : fB) : D367 r n aHi x0 (K4 q0 2 3 6 7) = fun (env : bC) (h : Hp) =>
 bnd (cJ [.l0] h) fun v1 h1 =>
  q0 (env 2) (env 3) (env 6) v1 h1 := by kernel_rfl
theorem aUc : (fun (env : bC) (h : Hp) =>
 bnd (cJ [.l0] h) fun v1 h1 =>
  aAb r n (env 2) (env 3) (env 6) v1 h1) = (K3 (uF r n) 2 3 6) := by kernel_rfl
theorem cEy : D367 r n aId x0 r367 = (K3 (uF r n) 2 3 6) :=
 (bFs r n).trans
 ((bDh r n (aAb r n)).trans (aUc r n))
theorem bEu : D367 r n aIm x0 r367 = D367 r n aLe x0 (K3 (uF r n) 2 3 6) :=
 congrArg (fun k => D367 r n aLe x0 k) (cEy r n)
theorem bHd (q0 : gE) : D367 r n aLe x0 (K3 q0 2 3 6) = fun (env : bC) (h : Hp) =>
 bnd (aA (env 2) h) fun v1 h1 =>
 bnd (cQ v1 h1) fun v2 h2 =>
 bnd (bR 1 8 [(aO 0)] v2 v2 h2) fun v3 h3 =>
 bnd (cJ [.l0] h3) fun v4 h4 =>
 bnd (aH 1 v4 v3 h4) fun _ h5 =>
  q0 (env 2) (env 3) v4 h5 := by kernel_rfl
theorem aTd : (fun (env : bC) (h : Hp) =>
 bnd (aA (env 2) h) fun v1 h1 =>
 bnd (cQ v1 h1) fun v2 h2 =>
 bnd (bR 1 8 [(aO 0)] v2 v2 h2) fun v3 h3 =>
 bnd (cJ [.l0] h3) fun v4 h4 =>
 bnd (aH 1 v4 v3 h4) fun _ h5 =>
  uF r n (env 2) (env 3) v4 h5) = (K2 (tG r n) 2 3) := by kernel_rfl
theorem cGx : D367 r n aPi x0 r367 = (K2 (tG r n) 2 3) :=
 (by kernel_rfl : D367 r n aPi x0 r367 = D367 r n aIm x0 r367).trans
 ((bEu r n).trans
 ((bHd r n (uF r n)).trans (aTd r n)))
theorem cEo : D367 r n c367 x0 r367 = D367 r n aFb x0 (K2 (tG r n) 2 3) :=
 congrArg (fun k => D367 r n aFb x0 k) (cGx r n)
theorem cKq (q0 : TT2) : D367 r n aFb x0 (K2 q0 2 3) = fun (env : bC) (h : Hp) =>
 bnd (dB (env 0) h) fun v1 h1 =>
 bnd (dB (env 1) h1) fun v2 h2 =>
  q0 v1 v2 h2 := by kernel_rfl
theorem bLj : (fun (env : bC) (h : Hp) =>
 bnd (dB (env 0) h) fun v1 h1 =>
 bnd (dB (env 1) h1) fun v2 h2 =>
  tG r n v1 v2 h2) = (K2 (s367 r n) 0 1) := by kernel_rfl
theorem dIx : D367 r n c367 x0 r367 = (K2 (s367 r n) 0 1) :=
 (cEo r n).trans
 ((cKq r n (tG r n)).trans (bLj r n))
theorem dAo : aF CF r n 367 args h = s367 r n (aW args 0) (aW args 1) h :=
 (by kernel_rfl : aF CF r n 367 args h = D367 r n c367 x0 r367 (aI args) h).trans ((congrFun (congrFun (dIx r n) (aI args)) h).trans (by kernel_rfl))
noncomputable def s384 (r : RT) (n : Nat) (x0 : DV) (h0 : Hp) : aG :=
 bnd (dB x0 h0) fun v1 h1 =>
 bnd (aB 0 v1 h1) fun v2 h2 =>
 bnd (aA v2 h2) fun v3 h3 =>
 bnd (r 454 [v3] h3) fun v4 h4 =>
 bnd (jK .not v4 h4) fun v5 h5 =>
 aX v5 (
 some ((.i .i64 (Int.negSucc 0)), h5)) (
 bnd (aB 1 v1 h5) fun v6 h6 =>
 bnd (aA v6 h6) fun v7 h7 =>
 bnd (aB 2 v1 h7) fun v8 h8 =>
 bnd (aA v8 h8) fun v9 h9 =>
 bnd (dV .shl v9 (.i .u64 (Int.ofNat 8)) h9) fun v10 h10 =>
 bnd (aD .add v7 v10 h10) fun v11 h11 =>
 some (v11, h11))
noncomputable abbrev c384 : Code := cf Tryz.f384
noncomputable abbrev r384 : K := aQ CF Tryz.f384
noncomputable def D384 (r : RT) (n : Nat) (c : Code) (X : Nat → K) (k : K) : K := aM CF r 13 n c X r384 k
theorem dGk : D384 r n c384 x0 r384 = (K1 (s384 r n) 0) :=
 (by kernel_rfl)
theorem cYo : aF CF r n 384 args h = s384 r n (aW args 0) h :=
 (by kernel_rfl : aF CF r n 384 args h = D384 r n c384 x0 r384 (aI args) h).trans ((congrFun (congrFun (dGk r n) (aI args)) h).trans (by kernel_rfl))
end Go.Dd

namespace Go.Dd
open Go.Proofs
variable (r : RT) (n : Nat) (args : List DV) (h : Hp)
noncomputable def s415 (r : RT) (n : Nat) (x0 : DV) (h0 : Hp) : aG :=
 bnd (r 340 [x0] h0) fun v1 h1 =>
 bnd (gD v1 false (some (x0, h1)) h1) fun v2 h2 =>
 bnd (gD v1 false (r 343 [v2] h2) h2) fun v3 h3 =>
 bnd (aP v1 (.b true) v3 h3) fun v4 h4 =>
 some (v4, h4)
noncomputable abbrev c415 : Code := cf Tryz.f415
noncomputable abbrev r415 : K := aQ CF Tryz.f415
noncomputable def D415 (r : RT) (n : Nat) (c : Code) (X : Nat → K) (k : K) : K := aM CF r 9 n c X r415 k
theorem dGn : D415 r n c415 x0 r415 = (K1 (s415 r n) 0) :=
 (by kernel_rfl)
theorem cSw : aF CF r n 415 args h = s415 r n (aW args 0) h :=
 (by kernel_rfl : aF CF r n 415 args h = D415 r n c415 x0 r415 (aI args) h).trans ((congrFun (congrFun (dGn r n) (aI args)) h).trans (by kernel_rfl))
end Go.Dd

namespace Go.Dd
open Go.Proofs
variable (r : RT) (n : Nat) (args : List DV) (h : Hp)
noncomputable def dM (r : RT) (n : Nat) (x4 : DV) (h0 : Hp) : aG :=
 some (x4, h0)
noncomputable def aFr (r : RT) (n : Nat) (kk5 : fB) (x0 x1 x4 x5 : DV) (h0 : Hp) : aG :=
 bnd (aD .add x5 (aO 1) h0) fun v1 h1 =>
  kk5 x0 x1 x4 v1 h1
noncomputable def aQt (r : RT) (n : Nat) (kk5 : fB) (x0 x1 x4 x5 : DV) (h0 : Hp) : aG :=
 bnd (aA x1 h0) fun v1 h1 =>
 bnd (r 439 [v1, x5] h1) fun v2 h2 =>
 bnd (aC 0 v2 h2) fun v3 h3 =>
 bnd (aC 1 v2 h3) fun v4 h4 =>
 bnd (gD v4 true (some (x0, h4)) h4) fun v5 h5 =>
 bnd (gD v4 true (some (v3, h5)) h5) fun v6 h6 =>
 bnd (gD v4 true (aD .lss v5 v6 h6) h6) fun v7 h7 =>
 bnd (aP v4 v7 (.b false) h7) fun v8 h8 =>
 aX v8 (
  aFr r n kk5 x0 x1 x5 x5 h8) (
  aFr r n kk5 x0 x1 x4 x5 h8)
noncomputable def bAh (r : RT) (n : Nat) (kk5 : fB) (x0 x1 x4 x5 : DV) (h0 : Hp) : aG :=
 bnd (aD .add x5 (aO 2) h0) fun v1 h1 =>
 bnd (aD .leq v1 x0 h1) fun v2 h2 =>
 aX v2 (
   aQt r n kk5 x0 x1 x4 x5 h2) (
   dM r n x4 h2)
noncomputable def vT (r : RT) (n : Nat) (m : Nat) : fB :=
 Nat.rec (motive := fun _ => fB) (fun _ _ _ _ _ => none) (fun _ ih => bAh r n ih) m
noncomputable def bVv (r : RT) (n : Nat) : fB := vT r n n
noncomputable def aQe (r : RT) (n : Nat) (x0 x1 x4 x5 : DV) (h0 : Hp) : aG :=
 bVv r n x0 x1 x4 x5 h0
noncomputable def aPt (r : RT) (n : Nat) (x0 x1 x4 : DV) (h0 : Hp) : aG :=
 aQe r n x0 x1 x4 (aO 0) h0
noncomputable def aTx (r : RT) (n : Nat) (x0 x1 : DV) (h0 : Hp) : aG :=
 aPt r n x0 x1 (.i .i64 (Int.negSucc 0)) h0
noncomputable def s438 (r : RT) (n : Nat) (x0 x1 : DV) (h0 : Hp) : aG :=
 aTx r n x0 x1 h0
noncomputable abbrev c438 : Code := cf Tryz.f438
noncomputable abbrev aLf : Code := cR c438
noncomputable abbrev aGr : Code := cR aLf
noncomputable abbrev cXv : Code := cR aGr
noncomputable abbrev zQ : Code := cL aGr
noncomputable abbrev aOw : Code := cR zQ
noncomputable abbrev aDz : Code := cL aOw
noncomputable abbrev lD : Code := cL aDz
noncomputable abbrev aHl : Code := cR lD
noncomputable abbrev dAc : Code := cR aHl
noncomputable abbrev aVa : Code := cL aHl
noncomputable abbrev aZy : Code := cL lD
noncomputable abbrev aYk : Code := cL zQ
noncomputable abbrev bBc : Code := cL aLf
noncomputable abbrev aXi : Code := cL c438
noncomputable abbrev r438 : K := aQ CF Tryz.f438
noncomputable def D438 (r : RT) (n : Nat) (c : Code) (X : Nat → K) (k : K) : K := aM CF r 28 n c X r438 k
theorem bYs : D438 r n cXv x0 r438 = (K1 (dM r n) 4) :=
 (by kernel_rfl)
theorem cBz (kk5 : fB) : D438 r n dAc (xs x0 0 (K1 (dM r n) 4)) (K4 kk5 0 1 4 5) = (K4 (aFr r n kk5) 0 1 4 5) :=
 (by kernel_rfl)
theorem bMl (kk5 : fB) : D438 r n aHl (xs x0 0 (K1 (dM r n) 4)) (K4 kk5 0 1 4 5) = D438 r n aVa (xs x0 0 (K1 (dM r n) 4)) (K4 (aFr r n kk5) 0 1 4 5) :=
 congrArg (fun k => D438 r n aVa (xs x0 0 (K1 (dM r n) 4)) k) (cBz r n kk5)
theorem cKe (kk5 : fB) : D438 r n aHl (xs x0 0 (K1 (dM r n) 4)) (K4 kk5 0 1 4 5) = (K4 (aQt r n kk5) 0 1 4 5) :=
 (bMl r n kk5).trans
 ((by kernel_rfl))
theorem bJx (kk5 : fB) : D438 r n lD (xs x0 0 (K1 (dM r n) 4)) (K4 kk5 0 1 4 5) = D438 r n aZy (xs x0 0 (K1 (dM r n) 4)) (K4 (aQt r n kk5) 0 1 4 5) :=
 congrArg (fun k => D438 r n aZy (xs x0 0 (K1 (dM r n) 4)) k) (cKe r n kk5)
theorem bRp (kk5 : fB) : D438 r n lD (xs x0 0 (K1 (dM r n) 4)) (K4 kk5 0 1 4 5) = (K4 (bAh r n kk5) 0 1 4 5) :=
 (bJx r n kk5).trans
 ((by kernel_rfl))
theorem bWz (m : Nat) : aL (fun kk => D438 r n lD (xs x0 0 (K1 (dM r n) 4)) kk) m = (K4 (vT r n m) 0 1 4 5) := by
 induction m with
 | zero => exact (by kernel_rfl : aL (fun kk => D438 r n lD (xs x0 0 (K1 (dM r n) 4)) kk) 0 = (K4 (vT r n 0) 0 1 4 5))
 | succ m ih =>
  refine (by kernel_rfl : aL (fun kk => D438 r n lD (xs x0 0 (K1 (dM r n) 4)) kk) (m + 1) = D438 r n lD (xs x0 0 (K1 (dM r n) 4)) (aL (fun kk => D438 r n lD (xs x0 0 (K1 (dM r n) 4)) kk) m)).trans ?_
  rw [ih]
  exact (bRp r n (vT r n m)).trans (by kernel_rfl)
theorem cFh : D438 r n aDz (xs x0 0 (K1 (dM r n) 4)) (K1 (dM r n) 4) = (K4 (bVv r n) 0 1 4 5) :=
 (by kernel_rfl : D438 r n aDz (xs x0 0 (K1 (dM r n) 4)) (K1 (dM r n) 4) = aL (fun kk => D438 r n lD (xs x0 0 (K1 (dM r n) 4)) kk) n).trans ((bWz r n n).trans (by kernel_rfl))
theorem cDa : D438 r n aOw x0 (K1 (dM r n) 4) = (K4 (aQe r n) 0 1 4 5) :=
 (by kernel_rfl : D438 r n aOw x0 (K1 (dM r n) 4) = D438 r n aDz (xs x0 0 (K1 (dM r n) 4)) (K1 (dM r n) 4)).trans
 ((cFh r n).trans (by kernel_rfl))
theorem bUe : D438 r n aGr x0 r438 = D438 r n zQ x0 (K1 (dM r n) 4) :=
 congrArg (fun k => D438 r n zQ x0 k) (bYs r n)
theorem bSc : D438 r n zQ x0 (K1 (dM r n) 4) = D438 r n aYk x0 (K4 (aQe r n) 0 1 4 5) :=
 congrArg (fun k => D438 r n aYk x0 k) (cDa r n)
theorem cKk : D438 r n aGr x0 r438 = (K3 (aPt r n) 0 1 4) :=
 (bUe r n).trans
 ((bSc r n).trans
 ((by kernel_rfl)))
theorem bNo : D438 r n aLf x0 r438 = D438 r n bBc x0 (K3 (aPt r n) 0 1 4) :=
 congrArg (fun k => D438 r n bBc x0 k) (cKk r n)
theorem cLg : D438 r n aLf x0 r438 = (K2 (aTx r n) 0 1) :=
 (bNo r n).trans
 ((by kernel_rfl))
theorem cVs : D438 r n c438 x0 r438 = D438 r n aXi x0 (K2 (aTx r n) 0 1) :=
 congrArg (fun k => D438 r n aXi x0 k) (cLg r n)
theorem dCb : D438 r n c438 x0 r438 = (K2 (s438 r n) 0 1) :=
 (cVs r n).trans
 ((by kernel_rfl))
theorem dAr : aF CF r n 438 args h = s438 r n (aW args 0) (aW args 1) h :=
 (by kernel_rfl : aF CF r n 438 args h = D438 r n c438 x0 r438 (aI args) h).trans ((congrFun (congrFun (dCb r n) (aI args)) h).trans (by kernel_rfl))
noncomputable def s439 (r : RT) (n : Nat) (x0 x1 : DV) (h0 : Hp) : aG :=
 bnd (aE 3 x0 x1 h0) fun v1 h1 =>
 bnd (aB 0 v1 h1) fun v2 h2 =>
 bnd (aA v2 h2) fun v3 h3 =>
 bnd (aD .neq v3 (aO 18) h3) fun v4 h4 =>
 bnd (gD v4 false (some (x1, h4)) h4) fun v5 h5 =>
 bnd (gD v4 false (aD .add v5 (aO 1) h5) h5) fun v6 h6 =>
 bnd (gD v4 false (some (x0, h6)) h6) fun v7 h7 =>
 bnd (gD v4 false (cQ v7 h7) h7) fun v8 h8 =>
 bnd (gD v4 false (aD .geq v6 v8 h8) h8) fun v9 h9 =>
 bnd (aP v4 (.b true) v9 h9) fun v10 h10 =>
 bnd (gD v10 false (some (x0, h10)) h10) fun v11 h11 =>
 bnd (gD v10 false (some (x1, h11)) h11) fun v12 h12 =>
 bnd (gD v10 false (aD .add v12 (aO 1) h12) h12) fun v13 h13 =>
 bnd (gD v10 false (aE 3 v11 v13 h13) h13) fun v14 h14 =>
 bnd (gD v10 false (aB 0 v14 h14) h14) fun v15 h15 =>
 bnd (gD v10 false (aA v15 h15) h15) fun v16 h16 =>
 bnd (gD v10 false (aD .neq v16 (aO 16) h16) h16) fun v17 h17 =>
 bnd (aP v10 (.b true) v17 h17) fun v18 h18 =>
 aX v18 (
 some (.t [(aO 0), (.b false)], h18)) (
 bnd (aD .add x1 (aO 1) h18) fun v19 h19 =>
 bnd (aE 3 x0 v19 h19) fun v20 h20 =>
 bnd (aK 3 v20 h20) fun v21 h21 =>
 bnd (r 384 [v21] h21) fun v22 h22 =>
 bnd (aD .add x1 (aO 2) h22) fun v23 h23 =>
 bnd (aD .gtr v22 v23 h23) fun v24 h24 =>
 some (.t [v22, v24], h24))
noncomputable abbrev c439 : Code := cf Tryz.f439
noncomputable abbrev r439 : K := aQ CF Tryz.f439
noncomputable def D439 (r : RT) (n : Nat) (c : Code) (X : Nat → K) (k : K) : K := aM CF r 40 n c X r439 k
theorem dGs : D439 r n c439 x0 r439 = (K2 (s439 r n) 0 1) :=
 (by kernel_rfl)
theorem dAn : aF CF r n 439 args h = s439 r n (aW args 0) (aW args 1) h :=
 (by kernel_rfl : aF CF r n 439 args h = D439 r n c439 x0 r439 (aI args) h).trans ((congrFun (congrFun (dGs r n) (aI args)) h).trans (by kernel_rfl))
noncomputable def s440 (r : RT) (n : Nat) (x0 x1 x2 x3 x4 x5 x6 x7 : DV) (h0 : Hp) : aG :=
 bnd (aA x3 h0) fun v1 h1 =>
 bnd (cQ v1 h1) fun v2 h2 =>
 bnd (aD .geq x0 v2 h2) fun v3 h3 =>
 bnd (gD v3 false (aA x4 h3) h3) fun v4 h4 =>
 bnd (gD v3 false (some (x0, h4)) h4) fun v5 h5 =>
 bnd (gD v3 false (aE 1 v4 v5 h5) h5) fun v6 h6 =>
 bnd (gD v3 false (aA v6 h6) h6) fun v7 h7 =>
 bnd (gD v3 false (some (x1, h7)) h7) fun v8 h8 =>
 bnd (gD v3 false (aD .neq v7 v8 h8) h8) fun v9 h9 =>
 bnd (aP v3 (.b true) v9 h9) fun v10 h10 =>
 bnd (gD v10 false (aA x5 h10) h10) fun v11 h11 =>
 bnd (gD v10 false (some (x0, h11)) h11) fun v12 h12 =>
 bnd (gD v10 false (aE 1 v11 v12 h12) h12) fun v13 h13 =>
 bnd (gD v10 false (aA v13 h13) h13) fun v14 h14 =>
 bnd (gD v10 false (aD .geq v14 (aO 0) h14) h14) fun v15 h15 =>
 bnd (gD v10 false (some (v15, h15)) h15) fun v16 h16 =>
 bnd (gD v16 true (aA x5 h16) h16) fun v17 h17 =>
 bnd (gD v16 true (some (x0, h17)) h17) fun v18 h18 =>
 bnd (gD v16 true (aE 1 v17 v18 h18) h18) fun v19 h19 =>
 bnd (gD v16 true (aA v19 h19) h19) fun v20 h20 =>
 bnd (gD v16 true (some (x2, h20)) h20) fun v21 h21 =>
 bnd (gD v16 true (aD .neq v20 v21 h21) h21) fun v22 h22 =>
 bnd (gD v10 false (aP v16 v22 (.b false) h22) h22) fun v23 h23 =>
 bnd (aP v10 (.b true) v23 h23) fun v24 h24 =>
 aX v24 (
 bnd (aH 1 x6 (.b false) h24) fun _ h25 =>
 some (.t [], h25)) (
 bnd (aA x5 h24) fun v26 h26 =>
 bnd (aE 1 v26 x0 h26) fun v27 h27 =>
 bnd (aA v27 h27) fun v28 h28 =>
 bnd (aD .lss v28 (aO 0) h28) fun v29 h29 =>
 aX v29 (
 bnd (aA x5 h29) fun v30 h30 =>
 bnd (aE 1 v30 x0 h30) fun v31 h31 =>
 bnd (aH 1 v31 x2 h31) fun _ h32 =>
 bnd (aA x7 h32) fun v33 h33 =>
 bnd (aN [(aO 0)] 1 [(0, 1, x0)] h33) fun v34 h34 =>
 bnd (bK 1 8 v33 v34 h34) fun v35 h35 =>
 bnd (aH 1 x7 v35 h35) fun _ h36 =>
 some (.t [], h36)) (
 some (.t [], h29)))
noncomputable abbrev c440 : Code := cf Tryz.f440
noncomputable abbrev r440 : K := aQ CF Tryz.f440
noncomputable def D440 (r : RT) (n : Nat) (c : Code) (X : Nat → K) (k : K) : K := aM CF r 53 n c X r440 k
theorem dJr : D440 r n c440 x0 r440 = (K8 (s440 r n) 0 1 2 3 4 5 6 7) :=
 (by kernel_rfl)
theorem cVo : aF CF r n 440 args h = s440 r n (aW args 0) (aW args 1) (aW args 2) (aW args 3) (aW args 4) (aW args 5) (aW args 6) (aW args 7) h :=
 (by kernel_rfl : aF CF r n 440 args h = D440 r n c440 x0 r440 (aI args) h).trans ((congrFun (congrFun (dJr r n) (aI args)) h).trans (by kernel_rfl))
noncomputable def cB (r : RT) (n : Nat) (h0 : Hp) : aG :=
 some ((aO 0), h0)
noncomputable def aKl (r : RT) (n : Nat) (x1 x22 : DV) (h0 : Hp) : aG :=
 aX x22 (
 bnd (aB 2 x1 h0) fun v1 h1 =>
 bnd (aA v1 h1) fun v2 h2 =>
 bnd (jK .neg v2 h2) fun v3 h3 =>
 some (v3, h3)) (
  cB r n h0)
noncomputable def bNf (r : RT) (n : Nat) (x1 x4 : DV) (h0 : Hp) : aG :=
 bnd (aD .eql x4 (aO 14) h0) fun v1 h1 =>
 aX v1 (
  aKl r n x1 v1 h1) (
 bnd (aD .eql x4 (aO 15) h1) fun v2 h2 =>
  aKl r n x1 v2 h2)
noncomputable def tE (r : RT) (n : Nat) (x1 x4 x17 : DV) (h0 : Hp) : aG :=
 aX x17 (
 some ((.i .i64 (Int.negSucc 0)), h0)) (
  bNf r n x1 x4 h0)
noncomputable def bJf (r : RT) (n : Nat) (x1 x4 : DV) (h0 : Hp) : aG :=
 bnd (aD .eql x4 (aO 12) h0) fun v1 h1 =>
 aX v1 (
  tE r n x1 x4 v1 h1) (
 bnd (aD .eql x4 (aO 17) h1) fun v2 h2 =>
 aX v2 (
   tE r n x1 x4 v2 h2) (
 bnd (aD .eql x4 (aO 19) h2) fun v3 h3 =>
 aX v3 (
    tE r n x1 x4 v3 h3) (
 bnd (aD .eql x4 (aO 20) h3) fun v4 h4 =>
    tE r n x1 x4 v4 h4)))
noncomputable def iT (r : RT) (n : Nat) (x1 x4 x5 : DV) (h0 : Hp) : aG :=
 aX x5 (
 some ((aO 1), h0)) (
  bJf r n x1 x4 h0)
noncomputable def aSl (r : RT) (n : Nat) (x1 x4 : DV) (h0 : Hp) : aG :=
 bnd (aD .eql x4 (aO 1) h0) fun v1 h1 =>
 aX v1 (
  iT r n x1 x4 v1 h1) (
 bnd (aD .eql x4 (aO 2) h1) fun v2 h2 =>
 aX v2 (
   iT r n x1 x4 v2 h2) (
 bnd (aD .eql x4 (aO 3) h2) fun v3 h3 =>
 aX v3 (
    iT r n x1 x4 v3 h3) (
 bnd (aD .eql x4 (aO 4) h3) fun v4 h4 =>
 aX v4 (
     iT r n x1 x4 v4 h4) (
 bnd (aD .eql x4 (aO 5) h4) fun v5 h5 =>
 aX v5 (
      iT r n x1 x4 v5 h5) (
 bnd (aD .eql x4 (aO 6) h5) fun v6 h6 =>
 aX v6 (
       iT r n x1 x4 v6 h6) (
 bnd (aD .eql x4 (aO 7) h6) fun v7 h7 =>
 aX v7 (
        iT r n x1 x4 v7 h7) (
 bnd (aD .eql x4 (aO 8) h7) fun v8 h8 =>
 aX v8 (
         iT r n x1 x4 v8 h8) (
 bnd (aD .eql x4 (aO 9) h8) fun v9 h9 =>
 aX v9 (
          iT r n x1 x4 v9 h9) (
 bnd (aD .eql x4 (aO 13) h9) fun v10 h10 =>
 aX v10 (
           iT r n x1 x4 v10 h10) (
 bnd (aD .eql x4 (aO 18) h10) fun v11 h11 =>
           iT r n x1 x4 v11 h11))))))))))
noncomputable def aBb (r : RT) (n : Nat) (x1 : DV) (h0 : Hp) : aG :=
 bnd (aB 0 x1 h0) fun v1 h1 =>
 bnd (aA v1 h1) fun v2 h2 =>
  aSl r n x1 v2 h2
noncomputable def s441 (r : RT) (n : Nat) (x0 : DV) (h0 : Hp) : aG :=
 bnd (dB x0 h0) fun v1 h1 =>
  aBb r n v1 h1
noncomputable abbrev c441 : Code := cf Tryz.f441
noncomputable abbrev aIu : Code := cR c441
noncomputable abbrev cQs : Code := cR aIu
noncomputable abbrev xU : Code := cL aIu
noncomputable abbrev aQo : Code := cR xU
noncomputable abbrev aHh : Code := cL aQo
noncomputable abbrev zG : Code := cR aHh
noncomputable abbrev aAe : Code := cR zG
noncomputable abbrev yF : Code := cR aAe
noncomputable abbrev yT : Code := cR yF
noncomputable abbrev cIh : Code := cR yT
noncomputable abbrev aZm : Code := cL yT
noncomputable abbrev cLn : Code := cL yF
noncomputable abbrev aYw : Code := cL aAe
noncomputable abbrev cAy : Code := cL zG
noncomputable abbrev aXg : Code := cL aHh
noncomputable abbrev aZt : Code := cL xU
noncomputable abbrev aIw : Code := cL c441
noncomputable abbrev r441 : K := aQ CF Tryz.f441
noncomputable def D441 (r : RT) (n : Nat) (c : Code) (X : Nat → K) (k : K) : K := aM CF r 28 n c X r441 k
theorem cHv : D441 r n cQs x0 r441 = (K0 (cB r n)) :=
 (by kernel_rfl)
theorem cKj : D441 r n cIh (xs x0 0 (K0 (cB r n))) (K0 (cB r n)) = (K2 (aKl r n) 1 22) :=
 (by kernel_rfl)
theorem bTk : D441 r n yT (xs x0 0 (K0 (cB r n))) (K0 (cB r n)) = D441 r n aZm (xs x0 0 (K0 (cB r n))) (K2 (aKl r n) 1 22) :=
 congrArg (fun k => D441 r n aZm (xs x0 0 (K0 (cB r n))) k) (cKj r n)
theorem cAg : D441 r n yT (xs x0 0 (K0 (cB r n))) (K0 (cB r n)) = (K2 (bNf r n) 1 4) :=
 (bTk r n).trans
 ((by kernel_rfl))
theorem cGc : D441 r n yF (xs x0 0 (K0 (cB r n))) (K0 (cB r n)) = (K3 (tE r n) 1 4 17) :=
 (by kernel_rfl : D441 r n yF (xs x0 0 (K0 (cB r n))) (K0 (cB r n)) = (fun (env : bC) (h : Hp) => aX (opr env (cC yF)) (D441 r n cLn (xs x0 0 (K0 (cB r n))) (K0 (cB r n)) env h) (D441 r n yT (xs x0 0 (K0 (cB r n))) (K0 (cB r n)) env h))).trans (by rw [cAg r n]; kernel_rfl)
theorem bJr : D441 r n aAe (xs x0 0 (K0 (cB r n))) (K0 (cB r n)) = D441 r n aYw (xs x0 0 (K0 (cB r n))) (K3 (tE r n) 1 4 17) :=
 congrArg (fun k => D441 r n aYw (xs x0 0 (K0 (cB r n))) k) (cGc r n)
theorem cJi : D441 r n aAe (xs x0 0 (K0 (cB r n))) (K0 (cB r n)) = (K2 (bJf r n) 1 4) :=
 (bJr r n).trans
 ((by kernel_rfl))
theorem cHu : D441 r n zG (xs x0 0 (K0 (cB r n))) (K0 (cB r n)) = (K3 (iT r n) 1 4 5) :=
 (by kernel_rfl : D441 r n zG (xs x0 0 (K0 (cB r n))) (K0 (cB r n)) = (fun (env : bC) (h : Hp) => aX (opr env (cC zG)) (D441 r n cAy (xs x0 0 (K0 (cB r n))) (K0 (cB r n)) env h) (D441 r n aAe (xs x0 0 (K0 (cB r n))) (K0 (cB r n)) env h))).trans (by rw [cJi r n]; kernel_rfl)
theorem bUl : D441 r n aHh (xs x0 0 (K0 (cB r n))) (K0 (cB r n)) = D441 r n aXg (xs x0 0 (K0 (cB r n))) (K3 (iT r n) 1 4 5) :=
 congrArg (fun k => D441 r n aXg (xs x0 0 (K0 (cB r n))) k) (cHu r n)
theorem cCd : D441 r n aQo x0 (K0 (cB r n)) = (K2 (aSl r n) 1 4) :=
 (by kernel_rfl : D441 r n aQo x0 (K0 (cB r n)) = D441 r n aHh (xs x0 0 (K0 (cB r n))) (K0 (cB r n))).trans
 ((bUl r n).trans
 ((by kernel_rfl)))
theorem bOk : D441 r n aIu x0 r441 = D441 r n xU x0 (K0 (cB r n)) :=
 congrArg (fun k => D441 r n xU x0 k) (cHv r n)
theorem bPu : D441 r n xU x0 (K0 (cB r n)) = D441 r n aZt x0 (K2 (aSl r n) 1 4) :=
 congrArg (fun k => D441 r n aZt x0 k) (cCd r n)
theorem cMl : D441 r n aIu x0 r441 = (K1 (aBb r n) 1) :=
 (bOk r n).trans
 ((bPu r n).trans
 ((by kernel_rfl)))
theorem cYc : D441 r n c441 x0 r441 = D441 r n aIw x0 (K1 (aBb r n) 1) :=
 congrArg (fun k => D441 r n aIw x0 k) (cMl r n)
theorem cSb (q0 : TT1) : D441 r n aIw x0 (K1 q0 1) = fun (env : bC) (h : Hp) =>
 bnd (dB (env 0) h) fun v1 h1 =>
  q0 v1 h1 := by kernel_rfl
theorem cGv : (fun (env : bC) (h : Hp) =>
 bnd (dB (env 0) h) fun v1 h1 =>
  aBb r n v1 h1) = (K1 (s441 r n) 0) := by kernel_rfl
theorem dBp : D441 r n c441 x0 r441 = (K1 (s441 r n) 0) :=
 (cYc r n).trans
 ((cSb r n (aBb r n)).trans (cGv r n))
theorem cSs : aF CF r n 441 args h = s441 r n (aW args 0) h :=
 (by kernel_rfl : aF CF r n 441 args h = D441 r n c441 x0 r441 (aI args) h).trans ((congrFun (congrFun (dBp r n) (aI args)) h).trans (by kernel_rfl))
noncomputable def dL (r : RT) (n : Nat) (h0 : Hp) : aG :=
 some ((aO 0), h0)
noncomputable def aGj (r : RT) (n : Nat) (x1 x13 : DV) (h0 : Hp) : aG :=
 aX x13 (
 bnd (aB 2 x1 h0) fun v1 h1 =>
 bnd (aA v1 h1) fun v2 h2 =>
 bnd (aD .add v2 (aO 1) h2) fun v3 h3 =>
 some (v3, h3)) (
  dL r n h0)
noncomputable def bKs (r : RT) (n : Nat) (x1 x4 : DV) (h0 : Hp) : aG :=
 bnd (aD .eql x4 (aO 14) h0) fun v1 h1 =>
 aX v1 (
  aGj r n x1 v1 h1) (
 bnd (aD .eql x4 (aO 15) h1) fun v2 h2 =>
  aGj r n x1 v2 h2)
noncomputable def mO (r : RT) (n : Nat) (x1 x4 x5 : DV) (h0 : Hp) : aG :=
 aX x5 (
 some ((aO 1), h0)) (
  bKs r n x1 x4 h0)
noncomputable def aQp (r : RT) (n : Nat) (x1 x4 : DV) (h0 : Hp) : aG :=
 bnd (aD .eql x4 (aO 12) h0) fun v1 h1 =>
 aX v1 (
  mO r n x1 x4 v1 h1) (
 bnd (aD .eql x4 (aO 13) h1) fun v2 h2 =>
 aX v2 (
   mO r n x1 x4 v2 h2) (
 bnd (aD .eql x4 (aO 10) h2) fun v3 h3 =>
 aX v3 (
    mO r n x1 x4 v3 h3) (
 bnd (aD .eql x4 (aO 11) h3) fun v4 h4 =>
 aX v4 (
     mO r n x1 x4 v4 h4) (
 bnd (aD .eql x4 (aO 17) h4) fun v5 h5 =>
 aX v5 (
      mO r n x1 x4 v5 h5) (
 bnd (aD .eql x4 (aO 20) h5) fun v6 h6 =>
 aX v6 (
       mO r n x1 x4 v6 h6) (
 bnd (aD .eql x4 (aO 19) h6) fun v7 h7 =>
       mO r n x1 x4 v7 h7))))))
noncomputable def zE (r : RT) (n : Nat) (x1 : DV) (h0 : Hp) : aG :=
 bnd (aB 0 x1 h0) fun v1 h1 =>
 bnd (aA v1 h1) fun v2 h2 =>
  aQp r n x1 v2 h2
noncomputable def s442 (r : RT) (n : Nat) (x0 : DV) (h0 : Hp) : aG :=
 bnd (dB x0 h0) fun v1 h1 =>
  zE r n v1 h1
noncomputable abbrev c442 : Code := cf Tryz.f442
noncomputable abbrev aGv : Code := cR c442
noncomputable abbrev cRo : Code := cR aGv
noncomputable abbrev aAu : Code := cL aGv
noncomputable abbrev aQd : Code := cR aAu
noncomputable abbrev aLb : Code := cL aQd
noncomputable abbrev zR : Code := cR aLb
noncomputable abbrev aBa : Code := cR zR
noncomputable abbrev cVy : Code := cR aBa
noncomputable abbrev bXd : Code := cL aBa
noncomputable abbrev cKd : Code := cL zR
noncomputable abbrev bBq : Code := cL aLb
noncomputable abbrev bBp : Code := cL aAu
noncomputable abbrev aKp : Code := cL c442
noncomputable abbrev r442 : K := aQ CF Tryz.f442
noncomputable def D442 (r : RT) (n : Nat) (c : Code) (X : Nat → K) (k : K) : K := aM CF r 19 n c X r442 k
theorem cBa : D442 r n cRo x0 r442 = (K0 (dL r n)) :=
 (by kernel_rfl)
theorem cAj : D442 r n cVy (xs x0 0 (K0 (dL r n))) (K0 (dL r n)) = (K2 (aGj r n) 1 13) :=
 (by kernel_rfl)
theorem bIk : D442 r n aBa (xs x0 0 (K0 (dL r n))) (K0 (dL r n)) = D442 r n bXd (xs x0 0 (K0 (dL r n))) (K2 (aGj r n) 1 13) :=
 congrArg (fun k => D442 r n bXd (xs x0 0 (K0 (dL r n))) k) (cAj r n)
theorem cAp : D442 r n aBa (xs x0 0 (K0 (dL r n))) (K0 (dL r n)) = (K2 (bKs r n) 1 4) :=
 (bIk r n).trans
 ((by kernel_rfl))
theorem bZt : D442 r n zR (xs x0 0 (K0 (dL r n))) (K0 (dL r n)) = (K3 (mO r n) 1 4 5) :=
 (by kernel_rfl : D442 r n zR (xs x0 0 (K0 (dL r n))) (K0 (dL r n)) = (fun (env : bC) (h : Hp) => aX (opr env (cC zR)) (D442 r n cKd (xs x0 0 (K0 (dL r n))) (K0 (dL r n)) env h) (D442 r n aBa (xs x0 0 (K0 (dL r n))) (K0 (dL r n)) env h))).trans (by rw [cAp r n]; kernel_rfl)
theorem bIu : D442 r n aLb (xs x0 0 (K0 (dL r n))) (K0 (dL r n)) = D442 r n bBq (xs x0 0 (K0 (dL r n))) (K3 (mO r n) 1 4 5) :=
 congrArg (fun k => D442 r n bBq (xs x0 0 (K0 (dL r n))) k) (bZt r n)
theorem cGe : D442 r n aQd x0 (K0 (dL r n)) = (K2 (aQp r n) 1 4) :=
 (by kernel_rfl : D442 r n aQd x0 (K0 (dL r n)) = D442 r n aLb (xs x0 0 (K0 (dL r n))) (K0 (dL r n))).trans
 ((bIu r n).trans
 ((by kernel_rfl)))
theorem bNc : D442 r n aGv x0 r442 = D442 r n aAu x0 (K0 (dL r n)) :=
 congrArg (fun k => D442 r n aAu x0 k) (cBa r n)
theorem bSj : D442 r n aAu x0 (K0 (dL r n)) = D442 r n bBp x0 (K2 (aQp r n) 1 4) :=
 congrArg (fun k => D442 r n bBp x0 k) (cGe r n)
theorem cJg : D442 r n aGv x0 r442 = (K1 (zE r n) 1) :=
 (bNc r n).trans
 ((bSj r n).trans
 ((by kernel_rfl)))
theorem cUt : D442 r n c442 x0 r442 = D442 r n aKp x0 (K1 (zE r n) 1) :=
 congrArg (fun k => D442 r n aKp x0 k) (cJg r n)
theorem cUp (q0 : TT1) : D442 r n aKp x0 (K1 q0 1) = fun (env : bC) (h : Hp) =>
 bnd (dB (env 0) h) fun v1 h1 =>
  q0 v1 h1 := by kernel_rfl
theorem cAr : (fun (env : bC) (h : Hp) =>
 bnd (dB (env 0) h) fun v1 h1 =>
  zE r n v1 h1) = (K1 (s442 r n) 0) := by kernel_rfl
theorem dDc : D442 r n c442 x0 r442 = (K1 (s442 r n) 0) :=
 (cUt r n).trans
 ((cUp r n (zE r n)).trans (cAr r n))
theorem cRm : aF CF r n 442 args h = s442 r n (aW args 0) h :=
 (by kernel_rfl : aF CF r n 442 args h = D442 r n c442 x0 r442 (aI args) h).trans ((congrFun (congrFun (dDc r n) (aI args)) h).trans (by kernel_rfl))
noncomputable def s454 (r : RT) (n : Nat) (x0 : DV) (h0 : Hp) : aG :=
 bnd (aD .eql x0 (aO 16) h0) fun v1 h1 =>
 bnd (gD v1 false (some (x0, h1)) h1) fun v2 h2 =>
 bnd (gD v1 false (aD .eql v2 (aO 17) h2) h2) fun v3 h3 =>
 bnd (aP v1 (.b true) v3 h3) fun v4 h4 =>
 some (v4, h4)
noncomputable abbrev c454 : Code := cf Tryz.f454
noncomputable abbrev r454 : K := aQ CF Tryz.f454
noncomputable def D454 (r : RT) (n : Nat) (c : Code) (X : Nat → K) (k : K) : K := aM CF r 9 n c X r454 k
theorem dHc : D454 r n c454 x0 r454 = (K1 (s454 r n) 0) :=
 (by kernel_rfl)
theorem cUm : aF CF r n 454 args h = s454 r n (aW args 0) h :=
 (by kernel_rfl : aF CF r n 454 args h = D454 r n c454 x0 r454 (aI args) h).trans ((congrFun (congrFun (dHc r n) (aI args)) h).trans (by kernel_rfl))
end Go.Dd

namespace Go.Dd
open Go.Proofs
variable (r : RT) (n : Nat) (args : List DV) (h : Hp)
noncomputable def s505 (r : RT) (n : Nat) (x0 : DV) (h0 : Hp) : aG :=
 bnd (r 293 [x0, (aO 1)] h0) fun v1 h1 =>
 bnd (cJ [(aO 0), (.s []), (aO 0), (aO 0)] h1) fun v2 h2 =>
 bnd (aH 4 v2 v1 h2) fun _ h3 =>
 bnd (r 289 [x0, (aO 3), (.s [45])] h3) fun v4 h4 =>
 bnd (gD v4 true (aB 0 v2 h4) h4) fun v5 h5 =>
 bnd (gD v4 true (aA v5 h5) h5) fun v6 h6 =>
 bnd (gD v4 true (aD .eql v6 (aO 4) h6) h6) fun v7 h7 =>
 bnd (aP v4 v7 (.b false) h7) fun v8 h8 =>
 bnd (gD v8 true (aB 3 v2 h8) h8) fun v9 h9 =>
 bnd (gD v8 true (aA v9 h9) h9) fun v10 h10 =>
 bnd (gD v8 true (some (x0, h10)) h10) fun v11 h11 =>
 bnd (gD v8 true (r 293 [v11, (aO 0)] h11) h11) fun v12 h12 =>
 cnd (bI (gD v8 true (aA v9 h12) h12) v10 && true) (
 bnd (gD v8 true (tX 3 v12 h12) h12) fun v13 h13 =>
 bnd (gD v8 true (aD .add v13 (aO 1) h13) h13) fun v14 h14 =>
 bnd (gD v8 true (aD .eql v10 v14 h14) h14) fun v15 h15 =>
 bnd (aP v8 v15 (.b false) h15) fun v16 h16 =>
 some (v16, h16))
noncomputable abbrev c505 : Code := cf Tryz.f505
noncomputable abbrev r505 : K := aQ CF Tryz.f505
noncomputable def D505 (r : RT) (n : Nat) (c : Code) (X : Nat → K) (k : K) : K := aM CF r 22 n c X r505 k
theorem dBk : D505 r n c505 x0 r505 = (K1 (s505 r n) 0) :=
 (by kernel_rfl)
theorem cYi : aF CF r n 505 args h = s505 r n (aW args 0) h :=
 (by kernel_rfl : aF CF r n 505 args h = D505 r n c505 x0 r505 (aI args) h).trans ((congrFun (congrFun (dBk r n) (aI args)) h).trans (by kernel_rfl))
end Go.Dd

namespace Go.Dd
open Go.Proofs
section
variable (ih : RT) (m : Nat) (f : FuncId) (args : List DV) (h : Hp)
theorem eK {i : Nat} {s r : aG} (e1 : s = aF CF ih m i args h) (e2 : r = aF CF ih m f args h) : (bif Nat.beq f i then s else r) = aF CF ih m f args h := by
 cases e : Nat.beq f i with
 | false => exact e2
 | true => cases Nat.eq_of_beq_eq_true e; exact e1
theorem ndC {i : Nat} {a b : aG} (e1 : a = aF CF ih m f args h) (e2 : b = aF CF ih m f args h) : (bif Nat.blt f i then a else b) = aF CF ih m f args h := by
 cases Nat.blt f i with
 | false => exact e2
 | true => exact e1
noncomputable def qg0 : aG := bif Nat.beq f 3 then s3 ih m (aW args 0) h else bif Nat.beq f 4 then s4 ih m (aW args 0) (aW args 1) h else bif Nat.beq f 5 then s5 ih m (aW args 0) h else bif Nat.beq f 6 then s6 ih m (aW args 0) (aW args 1) h else bif Nat.beq f 7 then s7 ih m (aW args 0) h else bif Nat.beq f 8 then s8 ih m (aW args 0) h else bif Nat.beq f 9 then s9 ih m (aW args 0) h else bif Nat.beq f 10 then s10 ih m (aW args 0) (aW args 1) h else aF CF ih m f args h
theorem dNe : qg0 ih m f args h = aF CF ih m f args h := eK ih m f args h (dHq ih m args h).symm (eK ih m f args h (dEe ih m args h).symm (eK ih m f args h (dHy ih m args h).symm (eK ih m f args h (dEb ih m args h).symm (eK ih m f args h (dNy ih m args h).symm (eK ih m f args h (dHb ih m args h).symm (eK ih m f args h (dFi ih m args h).symm (eK ih m f args h (cPn ih m args h).symm rfl)))))))
noncomputable def qg1 : aG := bif Nat.beq f 11 then s11 ih m h else bif Nat.beq f 12 then s12 ih m (aW args 0) h else bif Nat.beq f 13 then s13 ih m (aW args 0) h else bif Nat.beq f 17 then s17 ih m (aW args 0) (aW args 1) h else bif Nat.beq f 18 then s18 ih m (aW args 0) h else bif Nat.beq f 19 then s19 ih m (aW args 0) (aW args 1) h else bif Nat.beq f 20 then s20 ih m (aW args 0) h else bif Nat.beq f 21 then s21 ih m (aW args 0) (aW args 1) h else aF CF ih m f args h
theorem dPd : qg1 ih m f args h = aF CF ih m f args h := eK ih m f args h (cNk ih m args h).symm (eK ih m f args h (cOh ih m args h).symm (eK ih m f args h (cOb ih m args h).symm (eK ih m f args h (cPe ih m args h).symm (eK ih m f args h (cOe ih m args h).symm (eK ih m f args h (cMt ih m args h).symm (eK ih m f args h (cOw ih m args h).symm (eK ih m f args h (cMw ih m args h).symm rfl)))))))
noncomputable def qg2 : aG := bif Nat.beq f 22 then s22 ih m (aW args 0) (aW args 1) h else bif Nat.beq f 26 then s26 ih m (aW args 0) h else bif Nat.beq f 27 then s27 ih m (aW args 0) h else bif Nat.beq f 30 then s30 ih m (aW args 0) (aW args 1) h else bif Nat.beq f 34 then s34 ih m h else bif Nat.beq f 35 then s35 ih m (aW args 0) h else bif Nat.beq f 36 then s36 ih m (aW args 0) h else bif Nat.beq f 45 then s45 ih m (aW args 0) (aW args 1) h else aF CF ih m f args h
theorem dMn : qg2 ih m f args h = aF CF ih m f args h := eK ih m f args h (cPj ih m args h).symm (eK ih m f args h (cNy ih m args h).symm (eK ih m f args h (cNm ih m args h).symm (eK ih m f args h (dGm ih m args h).symm (eK ih m f args h (cOu ih m args h).symm (eK ih m f args h (cNw ih m args h).symm (eK ih m f args h (cMu ih m args h).symm (eK ih m f args h (dEh ih m args h).symm rfl)))))))
noncomputable def qg3 : aG := bif Nat.beq f 50 then s50 ih m (aW args 0) h else bif Nat.beq f 51 then s51 ih m (aW args 0) h else bif Nat.beq f 52 then s52 ih m (aW args 0) h else bif Nat.beq f 53 then s53 ih m (aW args 0) h else bif Nat.beq f 54 then s54 ih m (aW args 0) h else bif Nat.beq f 55 then s55 ih m (aW args 0) h else bif Nat.beq f 73 then s73 ih m (aW args 0) h else bif Nat.beq f 75 then s75 ih m (aW args 0) (aW args 1) h else aF CF ih m f args h
theorem dLh : qg3 ih m f args h = aF CF ih m f args h := eK ih m f args h (cPi ih m args h).symm (eK ih m f args h (cNb ih m args h).symm (eK ih m f args h (cOf ih m args h).symm (eK ih m f args h (cOj ih m args h).symm (eK ih m f args h (cPr ih m args h).symm (eK ih m f args h (dGw ih m args h).symm (eK ih m f args h (cNe ih m args h).symm (eK ih m f args h (cOp ih m args h).symm rfl)))))))
noncomputable def qg4 : aG := bif Nat.beq f 79 then s79 ih m (aW args 0) (aW args 1) h else bif Nat.beq f 81 then s81 ih m (aW args 0) (aW args 1) h else bif Nat.beq f 82 then s82 ih m (aW args 0) (aW args 1) h else bif Nat.beq f 83 then s83 ih m (aW args 0) h else bif Nat.beq f 85 then s85 ih m (aW args 0) (aW args 1) (aW args 2) h else bif Nat.beq f 87 then s87 ih m (aW args 0) (aW args 1) (aW args 2) h else bif Nat.beq f 123 then s123 ih m (aW args 0) (aW args 1) h else bif Nat.beq f 129 then s129 ih m (aW args 0) (aW args 1) (aW args 2) h else aF CF ih m f args h
theorem dLt : qg4 ih m f args h = aF CF ih m f args h := eK ih m f args h (dEd ih m args h).symm (eK ih m f args h (dGu ih m args h).symm (eK ih m f args h (dIu ih m args h).symm (eK ih m f args h (dEx ih m args h).symm (eK ih m f args h (dHw ih m args h).symm (eK ih m f args h (dCv ih m args h).symm (eK ih m f args h (bKy ih m args h).symm (eK ih m f args h (cQm ih m args h).symm rfl)))))))
noncomputable def qg5 : aG := bif Nat.beq f 130 then s130 ih m (aW args 0) (aW args 1) h else bif Nat.beq f 131 then s131 ih m (aW args 0) (aW args 1) h else bif Nat.beq f 133 then s133 ih m (aW args 0) (aW args 1) (aW args 2) (aW args 3) h else bif Nat.beq f 139 then s139 ih m (aW args 0) (aW args 1) h else bif Nat.beq f 141 then s141 ih m (aW args 0) (aW args 1) (aW args 2) h else bif Nat.beq f 153 then s153 ih m (aW args 0) (aW args 1) h else bif Nat.beq f 158 then s158 ih m (aW args 0) (aW args 1) (aW args 2) h else bif Nat.beq f 193 then s193 ih m (aW args 0) (aW args 1) h else aF CF ih m f args h
theorem dOz : qg5 ih m f args h = aF CF ih m f args h := eK ih m f args h (cWb ih m args h).symm (eK ih m f args h (dAs ih m args h).symm (eK ih m f args h (cXe ih m args h).symm (eK ih m f args h (cWh ih m args h).symm (eK ih m f args h (cWm ih m args h).symm (eK ih m f args h (cXa ih m args h).symm (eK ih m f args h (cUq ih m args h).symm (eK ih m f args h (bQx ih m args h).symm rfl)))))))
noncomputable def qg6 : aG := bif Nat.beq f 203 then s203 ih m (aW args 0) (aW args 1) h else bif Nat.beq f 204 then s204 ih m (aW args 0) (aW args 1) (aW args 2) h else bif Nat.beq f 206 then s206 ih m (aW args 0) (aW args 1) h else bif Nat.beq f 207 then s207 ih m (aW args 0) (aW args 1) (aW args 2) (aW args 3) h else bif Nat.beq f 218 then s218 ih m (aW args 0) h else bif Nat.beq f 221 then s221 ih m (aW args 0) (aW args 1) (aW args 2) h else bif Nat.beq f 223 then s223 ih m (aW args 0) h else bif Nat.beq f 224 then s224 ih m (aW args 0) (aW args 1) h else aF CF ih m f args h
theorem dNn : qg6 ih m f args h = aF CF ih m f args h := eK ih m f args h (cTr ih m args h).symm (eK ih m f args h (cVf ih m args h).symm (eK ih m f args h (cRv ih m args h).symm (eK ih m f args h (cWe ih m args h).symm (eK ih m f args h (cSc ih m args h).symm (eK ih m f args h (cVx ih m args h).symm (eK ih m f args h (cZs ih m args h).symm (eK ih m f args h (cXs ih m args h).symm rfl)))))))
noncomputable def qg7 : aG := bif Nat.beq f 226 then s226 ih m (aW args 0) h else bif Nat.beq f 234 then s234 ih m (aW args 0) (aW args 1) h else bif Nat.beq f 286 then s286 ih m (aW args 0) (aW args 1) (aW args 2) h else bif Nat.beq f 287 then s287 ih m (aW args 0) h else bif Nat.beq f 288 then s288 ih m (aW args 0) h else bif Nat.beq f 289 then s289 ih m (aW args 0) (aW args 1) (aW args 2) h else bif Nat.beq f 290 then s290 ih m (aW args 0) h else bif Nat.beq f 293 then s293 ih m (aW args 0) (aW args 1) h else aF CF ih m f args h
theorem dKv : qg7 ih m f args h = aF CF ih m f args h := eK ih m f args h (cVe ih m args h).symm (eK ih m f args h (dAb ih m args h).symm (eK ih m f args h (dAq ih m args h).symm (eK ih m f args h (cXj ih m args h).symm (eK ih m f args h (cZt ih m args h).symm (eK ih m f args h (cQp ih m args h).symm (eK ih m f args h (cYh ih m args h).symm (eK ih m f args h (cVc ih m args h).symm rfl)))))))
noncomputable def qg8 : aG := bif Nat.beq f 295 then s295 ih m (aW args 0) (aW args 1) h else bif Nat.beq f 296 then s296 ih m (aW args 0) (aW args 1) (aW args 2) (aW args 3) h else bif Nat.beq f 297 then s297 ih m (aW args 0) h else bif Nat.beq f 298 then s298 ih m (aW args 0) (aW args 1) h else bif Nat.beq f 299 then s299 ih m (aW args 0) (aW args 1) h else bif Nat.beq f 338 then s338 ih m (aW args 0) (aW args 1) h else bif Nat.beq f 339 then s339 ih m (aW args 0) (aW args 1) h else bif Nat.beq f 340 then s340 ih m (aW args 0) h else aF CF ih m f args h
theorem dLl : qg8 ih m f args h = aF CF ih m f args h := eK ih m f args h (cSf ih m args h).symm (eK ih m f args h (cXc ih m args h).symm (eK ih m f args h (cZw ih m args h).symm (eK ih m f args h (cVh ih m args h).symm (eK ih m f args h (cUv ih m args h).symm (eK ih m f args h (cRs ih m args h).symm (eK ih m f args h (cRd ih m args h).symm (eK ih m f args h (cSl ih m args h).symm rfl)))))))
noncomputable def qg9 : aG := bif Nat.beq f 341 then s341 ih m (aW args 0) h else bif Nat.beq f 342 then s342 ih m (aW args 0) h else bif Nat.beq f 343 then s343 ih m (aW args 0) h else bif Nat.beq f 348 then s348 ih m (aW args 0) (aW args 1) h else bif Nat.beq f 360 then s360 ih m (aW args 0) (aW args 1) (aW args 2) h else bif Nat.beq f 364 then s364 ih m (aW args 0) (aW args 1) (aW args 2) h else bif Nat.beq f 367 then s367 ih m (aW args 0) (aW args 1) h else bif Nat.beq f 384 then s384 ih m (aW args 0) h else aF CF ih m f args h
theorem dJx : qg9 ih m f args h = aF CF ih m f args h := eK ih m f args h (cVj ih m args h).symm (eK ih m f args h (cUd ih m args h).symm (eK ih m f args h (cWt ih m args h).symm (eK ih m f args h (cVa ih m args h).symm (eK ih m f args h (cTu ih m args h).symm (eK ih m f args h (dBc ih m args h).symm (eK ih m f args h (dAo ih m args h).symm (eK ih m f args h (cYo ih m args h).symm rfl)))))))
noncomputable def dHp : aG := bif Nat.beq f 415 then s415 ih m (aW args 0) h else bif Nat.beq f 438 then s438 ih m (aW args 0) (aW args 1) h else bif Nat.beq f 439 then s439 ih m (aW args 0) (aW args 1) h else bif Nat.beq f 440 then s440 ih m (aW args 0) (aW args 1) (aW args 2) (aW args 3) (aW args 4) (aW args 5) (aW args 6) (aW args 7) h else bif Nat.beq f 441 then s441 ih m (aW args 0) h else bif Nat.beq f 442 then s442 ih m (aW args 0) h else bif Nat.beq f 454 then s454 ih m (aW args 0) h else bif Nat.beq f 505 then s505 ih m (aW args 0) h else aF CF ih m f args h
theorem dDa : dHp ih m f args h = aF CF ih m f args h := eK ih m f args h (cSw ih m args h).symm (eK ih m f args h (dAr ih m args h).symm (eK ih m f args h (dAn ih m args h).symm (eK ih m f args h (cVo ih m args h).symm (eK ih m f args h (cSs ih m args h).symm (eK ih m f args h (cRm ih m args h).symm (eK ih m f args h (cUm ih m args h).symm (eK ih m f args h (cYi ih m args h).symm rfl)))))))
noncomputable def qd0 : aG := bif Nat.blt f 11 then qg0 ih m f args h else qg1 ih m f args h
theorem dOs : qd0 ih m f args h = aF CF ih m f args h := ndC ih m f args h (dNe ih m f args h) (dPd ih m f args h)
noncomputable def qd1 : aG := bif Nat.blt f 79 then qg3 ih m f args h else qg4 ih m f args h
theorem dKs : qd1 ih m f args h = aF CF ih m f args h := ndC ih m f args h (dLh ih m f args h) (dLt ih m f args h)
noncomputable def qd2 : aG := bif Nat.blt f 50 then qg2 ih m f args h else qd1 ih m f args h
theorem dMg : qd2 ih m f args h = aF CF ih m f args h := ndC ih m f args h (dMn ih m f args h) (dKs ih m f args h)
noncomputable def qd3 : aG := bif Nat.blt f 22 then qd0 ih m f args h else qd2 ih m f args h
theorem dPi : qd3 ih m f args h = aF CF ih m f args h := ndC ih m f args h (dOs ih m f args h) (dMg ih m f args h)
noncomputable def qd4 : aG := bif Nat.blt f 226 then qg6 ih m f args h else qg7 ih m f args h
theorem dMd : qd4 ih m f args h = aF CF ih m f args h := ndC ih m f args h (dNn ih m f args h) (dKv ih m f args h)
noncomputable def qd5 : aG := bif Nat.blt f 203 then qg5 ih m f args h else qd4 ih m f args h
theorem dLm : qd5 ih m f args h = aF CF ih m f args h := ndC ih m f args h (dOz ih m f args h) (dMd ih m f args h)
noncomputable def qd6 : aG := bif Nat.blt f 415 then qg9 ih m f args h else dHp ih m f args h
theorem dNw : qd6 ih m f args h = aF CF ih m f args h := ndC ih m f args h (dJx ih m f args h) (dDa ih m f args h)
noncomputable def qd7 : aG := bif Nat.blt f 341 then qg8 ih m f args h else qd6 ih m f args h
theorem dKu : qd7 ih m f args h = aF CF ih m f args h := ndC ih m f args h (dLl ih m f args h) (dNw ih m f args h)
noncomputable def qd8 : aG := bif Nat.blt f 295 then qd5 ih m f args h else qd7 ih m f args h
theorem dMs : qd8 ih m f args h = aF CF ih m f args h := ndC ih m f args h (dLm ih m f args h) (dKu ih m f args h)
noncomputable def qd9 : aG := bif Nat.blt f 130 then qd3 ih m f args h else qd8 ih m f args h
theorem dOy : qd9 ih m f args h = aF CF ih m f args h := ndC ih m f args h (dPi ih m f args h) (dMs ih m f args h)
end
noncomputable def shB (ih : RT) (m : Nat) (f : FuncId) (args : List DV) (h : Hp) : aG := qd9 ih m f args h
theorem bNg (ih : RT) (m : Nat) (f : FuncId) (args : List DV) (h : Hp) : shB ih m f args h = aF CF ih m f args h := dOy ih m f args h
noncomputable def dA (n : Nat) : FuncId → List DV → Hp → aG :=
 Nat.rec (motive := fun _ => FuncId → List DV → Hp → aG) (fun _ _ _ => none) (fun m ih => fun f args h => bif rgB f then jS CF ih m itm f args h else shB ih m f args h) n
theorem cS (f : FuncId) (hf : rgB f = false) (n : Nat) (args : List DV) (h : Hp) : dA (n + 1) f args h = aF CF (dA n) n f args h := by
 show (bif rgB f then jS CF (dA n) n itm f args h else shB (dA n) n f args h) = _
 rw [hf, cond_false, bNg]
theorem aAm : ∀ n, dA n = fP CF n
 | 0 => rfl
 | n + 1 => by
  funext f args h
  show (bif rgB f then jS CF (dA n) n itm f args h else shB (dA n) n f args h) = (bif rgB f then jS CF (fP CF n) n itm f else aF CF (fP CF n) n f) args h
  rw [← aAm n]
  cases rgB f with
  | true => rfl
  | false => exact bNg _ _ _ _ _
end Go.Dd

namespace Go.Dd
noncomputable section
def mkW (l : List Nat) : Nat → WT → WT := List.rec (motive := fun _ => Nat → WT → WT) (fun _ t => t) (fun x _ ih i t => ih (Nat.add i 1) (t.set i (.ofNat x))) l
def cWl (l : List (Nat × Nat)) : WT → WT := List.rec (motive := fun _ => WT → WT) (fun t => t) (fun x _ ih t => ih (t.set x.1 (.ofNat x.2))) l
def mkP (l : List Nat) : WT → WT := List.rec (motive := fun _ => WT → WT) (fun t => t) (fun x _ ih t => ih (t.set x (.ofNat 1))) l
def cNd (l : List Nat) : Nat → List Nat := List.rec (motive := fun _ => Nat → List Nat) (fun _ => []) (fun x _ ih n => bif Nat.beq n 0 then [] else x :: ih (Nat.sub n 1)) l
def cWj (f : Nat) : Nat → Pos := Nat.rec (motive := fun _ => Nat → Pos) (fun _ => .h) (fun _ ih n => bif Nat.beq n 1 then .h else bif Nat.beq (Nat.mod n 2) 0 then .o (ih (Nat.div n 2)) else .i (ih (Nat.div n 2))) f
def cV (n : Nat) : Pos := cWj 24 (Nat.add 1023 n)
def eR : List Nat := [79, 98, 106, 101, 99, 116]
def aEf : List Nat := [67, 108, 97, 115, 115]
def yD : List Nat := [84, 114, 117, 101]
def pP : List Nat := [70, 97, 108, 115, 101]
def eB : List Nat := [73, 110, 116, 101, 103, 101, 114]
def aHe : List Nat := [65, 114, 114, 97, 121]
def sF : List Nat := [83, 116, 114, 105, 110, 103]
def cIe : List Nat := [83, 121, 109, 98, 111, 108]
def tQ : List Nat := [66, 108, 111, 99, 107]
def jD : List Nat := [67, 111, 110, 116, 101, 120, 116]
def aMi : List Nat := [77, 101, 115, 115, 97, 103, 101]
def dCe : List (List Nat × List Nat) := [
 (eR, [61, 32, 111, 116, 104, 101, 114, 32, 94, 115, 101, 108, 102, 32, 61, 61, 32, 111, 116, 104, 101, 114]),
 (eR, [61, 61, 32, 111, 116, 104, 101, 114, 32, 60, 112, 114, 105, 109, 105, 116, 105, 118, 101, 58, 32, 49, 48, 62]),
 (eR, [99, 108, 97, 115, 115, 32, 60, 112, 114, 105, 109, 105, 116, 105, 118, 101, 58, 32, 49, 49, 62]),
 (eR, [105, 115, 78, 105, 108, 32, 94, 115, 101, 108, 102, 32, 61, 61, 32, 110, 105, 108]),
 (eR, [110, 111, 116, 78, 105, 108, 32, 94, 40, 115, 101, 108, 102, 32, 61, 61, 32, 110, 105, 108, 41, 32, 61, 61, 32, 102, 97, 108, 115, 101]),
 (eR, [126, 61, 32, 111, 116, 104, 101, 114, 32, 94, 40, 115, 101, 108, 102, 32, 61, 32, 111, 116, 104, 101, 114, 41, 32, 61, 61, 32, 102, 97, 108, 115, 101]),
 (eR, [121, 111, 117, 114, 115, 101, 108, 102, 32, 94, 115, 101, 108, 102]),
 (eR, [105, 110, 115, 116, 86, 97, 114, 65, 116, 58, 32, 105, 32, 60, 112, 114, 105, 109, 105, 116, 105, 118, 101, 58, 32, 53, 48, 62]),
 (eR, [105, 110, 115, 116, 86, 97, 114, 65, 116, 58, 32, 105, 32, 112, 117, 116, 58, 32, 120, 32, 60, 112, 114, 105, 109, 105, 116, 105, 118, 101, 58, 32, 53, 49, 62]),
 (eR, [98, 101, 99, 111, 109, 101, 58, 32, 111, 116, 104, 101, 114, 32, 60, 112, 114, 105, 109, 105, 116, 105, 118, 101, 58, 32, 54, 48, 62]),
 (eR, [112, 101, 114, 102, 111, 114, 109, 58, 32, 115, 32, 60, 112, 114, 105, 109, 105, 116, 105, 118, 101, 58, 32, 51, 49, 62]),
 (eR, [112, 101, 114, 102, 111, 114, 109, 58, 32, 115, 32, 119, 105, 116, 104, 58, 32, 97, 32, 60, 112, 114, 105, 109, 105, 116, 105, 118, 101, 58, 32, 51, 50, 62]),
 (eR, [115, 104, 111, 119, 32, 60, 112, 114, 105, 109, 105, 116, 105, 118, 101, 58, 32, 55, 48, 62]),
 (eR, [101, 114, 114, 111, 114, 58, 32, 115, 32, 60, 112, 114, 105, 109, 105, 116, 105, 118, 101, 58, 32, 55, 49, 62]),
 (eR, [100, 111, 101, 115, 78, 111, 116, 85, 110, 100, 101, 114, 115, 116, 97, 110, 100, 58, 32, 109, 32, 60, 112, 114, 105, 109, 105, 116, 105, 118, 101, 58, 32, 55, 50, 62]),
 (eR, [109, 117, 115, 116, 66, 101, 66, 111, 111, 108, 101, 97, 110, 32, 60, 112, 114, 105, 109, 105, 116, 105, 118, 101, 58, 32, 55, 51, 62]),
 (aEf, [110, 101, 119, 32, 60, 112, 114, 105, 109, 105, 116, 105, 118, 101, 58, 32, 50, 51, 62]),
 (aEf, [110, 101, 119, 58, 32, 110, 32, 60, 112, 114, 105, 109, 105, 116, 105, 118, 101, 58, 32, 50, 52, 62]),
 (aEf, [110, 97, 109, 101, 32, 60, 112, 114, 105, 109, 105, 116, 105, 118, 101, 58, 32, 52, 48, 62]),
 (aEf, [115, 117, 112, 101, 114, 99, 108, 97, 115, 115, 32, 60, 112, 114, 105, 109, 105, 116, 105, 118, 101, 58, 32, 52, 49, 62]),
 (yD, [105, 102, 84, 114, 117, 101, 58, 32, 98, 32, 94, 98, 32, 118, 97, 108, 117, 101]),
 (yD, [105, 102, 70, 97, 108, 115, 101, 58, 32, 98, 32, 94, 110, 105, 108]),
 (yD, [105, 102, 84, 114, 117, 101, 58, 32, 97, 32, 105, 102, 70, 97, 108, 115, 101, 58, 32, 98, 32, 94, 97, 32, 118, 97, 108, 117, 101]),
 (yD, [105, 102, 70, 97, 108, 115, 101, 58, 32, 97, 32, 105, 102, 84, 114, 117, 101, 58, 32, 98, 32, 94, 98, 32, 118, 97, 108, 117, 101]),
 (yD, [97, 110, 100, 58, 32, 98, 32, 94, 98, 32, 118, 97, 108, 117, 101]),
 (yD, [111, 114, 58, 32, 98, 32, 94, 115, 101, 108, 102]),
 (yD, [110, 111, 116, 32, 94, 102, 97, 108, 115, 101]),
 (pP, [105, 102, 84, 114, 117, 101, 58, 32, 98, 32, 94, 110, 105, 108]),
 (pP, [105, 102, 70, 97, 108, 115, 101, 58, 32, 98, 32, 94, 98, 32, 118, 97, 108, 117, 101]),
 (pP, [105, 102, 84, 114, 117, 101, 58, 32, 97, 32, 105, 102, 70, 97, 108, 115, 101, 58, 32, 98, 32, 94, 98, 32, 118, 97, 108, 117, 101]),
 (pP, [105, 102, 70, 97, 108, 115, 101, 58, 32, 97, 32, 105, 102, 84, 114, 117, 101, 58, 32, 98, 32, 94, 97, 32, 118, 97, 108, 117, 101]),
 (pP, [97, 110, 100, 58, 32, 98, 32, 94, 115, 101, 108, 102]),
 (pP, [111, 114, 58, 32, 98, 32, 94, 98, 32, 118, 97, 108, 117, 101]),
 (pP, [110, 111, 116, 32, 94, 116, 114, 117, 101]),
 (eB, [43, 32, 110, 32, 60, 112, 114, 105, 109, 105, 116, 105, 118, 101, 58, 32, 49, 62, 32, 94, 115, 101, 108, 102, 32, 101, 114, 114, 111, 114, 58, 32, 35, 110, 117, 109, 98, 101, 114]),
 (eB, [45, 32, 110, 32, 60, 112, 114, 105, 109, 105, 116, 105, 118, 101, 58, 32, 50, 62, 32, 94, 115, 101, 108, 102, 32, 101, 114, 114, 111, 114, 58, 32, 35, 110, 117, 109, 98, 101, 114]),
 (eB, [42, 32, 110, 32, 60, 112, 114, 105, 109, 105, 116, 105, 118, 101, 58, 32, 51, 62, 32, 94, 115, 101, 108, 102, 32, 101, 114, 114, 111, 114, 58, 32, 35, 110, 117, 109, 98, 101, 114]),
 (eB, [47, 47, 32, 110, 32, 60, 112, 114, 105, 109, 105, 116, 105, 118, 101, 58, 32, 52, 62, 32, 94, 115, 101, 108, 102, 32, 101, 114, 114, 111, 114, 58, 32, 35, 110, 117, 109, 98, 101, 114]),
 (eB, [37, 32, 110, 32, 60, 112, 114, 105, 109, 105, 116, 105, 118, 101, 58, 32, 53, 62, 32, 94, 115, 101, 108, 102, 32, 101, 114, 114, 111, 114, 58, 32, 35, 110, 117, 109, 98, 101, 114]),
 (eB, [60, 32, 110, 32, 60, 112, 114, 105, 109, 105, 116, 105, 118, 101, 58, 32, 54, 62, 32, 94, 115, 101, 108, 102, 32, 101, 114, 114, 111, 114, 58, 32, 35, 110, 117, 109, 98, 101, 114]),
 (eB, [61, 32, 110, 32, 60, 112, 114, 105, 109, 105, 116, 105, 118, 101, 58, 32, 55, 62, 32, 94, 102, 97, 108, 115, 101]),
 (eB, [62, 32, 110, 32, 94, 110, 32, 60, 32, 115, 101, 108, 102]),
 (eB, [60, 61, 32, 110, 32, 94, 40, 110, 32, 60, 32, 115, 101, 108, 102, 41, 32, 110, 111, 116]),
 (eB, [62, 61, 32, 110, 32, 94, 40, 115, 101, 108, 102, 32, 60, 32, 110, 41, 32, 110, 111, 116]),
 (eB, [110, 101, 103, 97, 116, 101, 100, 32, 94, 48, 32, 45, 32, 115, 101, 108, 102]),
 (eB, [97, 98, 115, 32, 115, 101, 108, 102, 32, 60, 32, 48, 32, 105, 102, 84, 114, 117, 101, 58, 32, 91, 94, 115, 101, 108, 102, 32, 110, 101, 103, 97, 116, 101, 100, 93]),
 (eB, [109, 97, 120, 58, 32, 110, 32, 115, 101, 108, 102, 32, 60, 32, 110, 32, 105, 102, 84, 114, 117, 101, 58, 32, 91, 94, 110, 93]),
 (eB, [116, 105, 109, 101, 115, 82, 101, 112, 101, 97, 116, 58, 32, 98, 32, 124, 32, 105, 32, 124, 32, 105, 32, 58, 61, 32, 48, 46, 32, 91, 105, 32, 60, 32, 115, 101, 108, 102, 93, 32, 119, 104, 105, 108, 101, 84, 114, 117, 101, 58, 32, 91, 98, 32, 118, 97, 108, 117, 101, 46, 32, 105, 32, 58, 61, 32, 105, 32, 43, 32, 49, 93]),
 (eB, [116, 111, 58, 32, 110, 32, 100, 111, 58, 32, 98, 32, 124, 32, 105, 32, 124, 32, 105, 32, 58, 61, 32, 115, 101, 108, 102, 46, 32, 91, 105, 32, 60, 61, 32, 110, 93, 32, 119, 104, 105, 108, 101, 84, 114, 117, 101, 58, 32, 91, 98, 32, 118, 97, 108, 117, 101, 58, 32, 105, 46, 32, 105, 32, 58, 61, 32, 105, 32, 43, 32, 49, 93]),
 (aHe, [97, 116, 58, 32, 105, 32, 60, 112, 114, 105, 109, 105, 116, 105, 118, 101, 58, 32, 50, 48, 62, 32, 94, 115, 101, 108, 102, 32, 101, 114, 114, 111, 114, 58, 32, 35, 105, 110, 100, 101, 120]),
 (aHe, [97, 116, 58, 32, 105, 32, 112, 117, 116, 58, 32, 120, 32, 60, 112, 114, 105, 109, 105, 116, 105, 118, 101, 58, 32, 50, 49, 62, 32, 94, 115, 101, 108, 102, 32, 101, 114, 114, 111, 114, 58, 32, 35, 105, 110, 100, 101, 120]),
 (aHe, [115, 105, 122, 101, 32, 60, 112, 114, 105, 109, 105, 116, 105, 118, 101, 58, 32, 50, 50, 62]),
 (aHe, [100, 111, 58, 32, 98, 32, 49, 32, 116, 111, 58, 32, 115, 101, 108, 102, 32, 115, 105, 122, 101, 32, 100, 111, 58, 32, 91, 58, 105, 32, 124, 32, 98, 32, 118, 97, 108, 117, 101, 58, 32, 40, 115, 101, 108, 102, 32, 97, 116, 58, 32, 105, 41, 93]),
 (sF, [97, 116, 58, 32, 105, 32, 60, 112, 114, 105, 109, 105, 116, 105, 118, 101, 58, 32, 50, 48, 62, 32, 94, 115, 101, 108, 102, 32, 101, 114, 114, 111, 114, 58, 32, 35, 105, 110, 100, 101, 120]),
 (sF, [97, 116, 58, 32, 105, 32, 112, 117, 116, 58, 32, 120, 32, 60, 112, 114, 105, 109, 105, 116, 105, 118, 101, 58, 32, 50, 49, 62, 32, 94, 115, 101, 108, 102, 32, 101, 114, 114, 111, 114, 58, 32, 35, 105, 110, 100, 101, 120]),
 (sF, [115, 105, 122, 101, 32, 60, 112, 114, 105, 109, 105, 116, 105, 118, 101, 58, 32, 50, 50, 62]),
 (sF, [44, 32, 115, 32, 60, 112, 114, 105, 109, 105, 116, 105, 118, 101, 58, 32, 50, 53, 62, 32, 94, 115, 101, 108, 102, 32, 101, 114, 114, 111, 114, 58, 32, 35, 115, 116, 114, 105, 110, 103]),
 (sF, [61, 32, 115, 32, 60, 112, 114, 105, 109, 105, 116, 105, 118, 101, 58, 32, 50, 54, 62]),
 (cIe, [61, 32, 115, 32, 94, 115, 101, 108, 102, 32, 61, 61, 32, 115]),
 (tQ, [118, 97, 108, 117, 101, 32, 60, 112, 114, 105, 109, 105, 116, 105, 118, 101, 58, 32, 51, 51, 62, 32, 94, 115, 101, 108, 102, 32, 101, 114, 114, 111, 114, 58, 32, 35, 97, 114, 103, 117, 109, 101, 110, 116, 115]),
 (tQ, [118, 97, 108, 117, 101, 58, 32, 97, 32, 60, 112, 114, 105, 109, 105, 116, 105, 118, 101, 58, 32, 51, 52, 62, 32, 94, 115, 101, 108, 102, 32, 101, 114, 114, 111, 114, 58, 32, 35, 97, 114, 103, 117, 109, 101, 110, 116, 115]),
 (tQ, [118, 97, 108, 117, 101, 58, 32, 97, 32, 118, 97, 108, 117, 101, 58, 32, 98, 32, 60, 112, 114, 105, 109, 105, 116, 105, 118, 101, 58, 32, 51, 53, 62, 32, 94, 115, 101, 108, 102, 32, 101, 114, 114, 111, 114, 58, 32, 35, 97, 114, 103, 117, 109, 101, 110, 116, 115]),
 (tQ, [119, 104, 105, 108, 101, 84, 114, 117, 101, 58, 32, 98, 32, 91, 115, 101, 108, 102, 32, 118, 97, 108, 117, 101, 93, 32, 119, 104, 105, 108, 101, 84, 114, 117, 101, 58, 32, 91, 98, 32, 118, 97, 108, 117, 101, 93]),
 (tQ, [101, 110, 115, 117, 114, 101, 58, 32, 98, 32, 60, 112, 114, 105, 109, 105, 116, 105, 118, 101, 58, 32, 57, 48, 62, 32, 124, 32, 118, 32, 100, 111, 110, 101, 32, 124, 32, 118, 32, 58, 61, 32, 115, 101, 108, 102, 32, 118, 97, 108, 117, 101, 46, 32, 100, 111, 110, 101, 32, 58, 61, 32, 116, 114, 117, 101, 46, 32, 98, 32, 118, 97, 108, 117, 101, 46, 32, 94, 118]),
 (tQ, [105, 102, 67, 117, 114, 116, 97, 105, 108, 101, 100, 58, 32, 98, 32, 60, 112, 114, 105, 109, 105, 116, 105, 118, 101, 58, 32, 57, 49, 62, 32, 124, 32, 118, 32, 100, 111, 110, 101, 32, 124, 32, 118, 32, 58, 61, 32, 115, 101, 108, 102, 32, 118, 97, 108, 117, 101, 46, 32, 100, 111, 110, 101, 32, 58, 61, 32, 116, 114, 117, 101, 46, 32, 94, 118]),
 (jD, [115, 101, 110, 100, 101, 114, 32, 60, 112, 114, 105, 109, 105, 116, 105, 118, 101, 58, 32, 56, 48, 62]),
 (jD, [114, 101, 99, 101, 105, 118, 101, 114, 32, 60, 112, 114, 105, 109, 105, 116, 105, 118, 101, 58, 32, 56, 49, 62]),
 (jD, [115, 101, 108, 101, 99, 116, 111, 114, 32, 60, 112, 114, 105, 109, 105, 116, 105, 118, 101, 58, 32, 56, 50, 62]),
 (jD, [112, 99, 32, 60, 112, 114, 105, 109, 105, 116, 105, 118, 101, 58, 32, 56, 51, 62]),
 (jD, [116, 101, 109, 112, 65, 116, 58, 32, 105, 32, 60, 112, 114, 105, 109, 105, 116, 105, 118, 101, 58, 32, 56, 52, 62, 32, 94, 115, 101, 108, 102, 32, 101, 114, 114, 111, 114, 58, 32, 35, 105, 110, 100, 101, 120]),
 (jD, [116, 101, 109, 112, 65, 116, 58, 32, 105, 32, 112, 117, 116, 58, 32, 120, 32, 60, 112, 114, 105, 109, 105, 116, 105, 118, 101, 58, 32, 56, 53, 62, 32, 94, 115, 101, 108, 102, 32, 101, 114, 114, 111, 114, 58, 32, 35, 105, 110, 100, 101, 120]),
 (jD, [114, 101, 116, 117, 114, 110, 58, 32, 120, 32, 60, 112, 114, 105, 109, 105, 116, 105, 118, 101, 58, 32, 56, 54, 62, 32, 94, 115, 101, 108, 102, 32, 99, 97, 110, 110, 111, 116, 82, 101, 116, 117, 114, 110, 58, 32, 120]),
 (jD, [99, 97, 110, 110, 111, 116, 82, 101, 116, 117, 114, 110, 58, 32, 120, 32, 60, 112, 114, 105, 109, 105, 116, 105, 118, 101, 58, 32, 55, 52, 62]),
 (aMi, [115, 101, 108, 101, 99, 116, 111, 114, 32, 94, 115, 101, 108, 101, 99, 116, 111, 114]),
 (aMi, [97, 114, 103, 117, 109, 101, 110, 116, 115, 32, 94, 97, 114, 103, 117, 109, 101, 110, 116, 115])]
def dPp (l : List (List Nat × List Nat)) : Nat → List DV := List.rec (motive := fun _ => Nat → List DV) (fun _ => []) (fun _ _ ih p => .l (cV p) 0 2 2 :: ih (Nat.add p 1)) l
def dCo (l : List (List Nat × Nat)) : List (DV × DV) := List.rec (motive := fun _ => List (DV × DV)) [] (fun x _ ih => (.s x.1, .i .i64 (.ofNat x.2)) :: ih) l
def dKz (l : List Nat) : List DV := List.rec (motive := fun _ => List DV) [] (fun x _ ih => .i .i64 (.ofNat x) :: ih) l
def wsF : List Nat := [0, 0, 0, 24, 24, 1, 294, 0, 1, 322, 2670, 1, 24, 24, 2, 338, 6, 1, 364, 3024, 7, 24, 24, 3, 380, 6, 1, 426, 0, 7, 24, 24, 4, 442, 6, 1, 472, 0, 7, 24, 24, 5, 488, 60, 1, 512, 3738, 7, 24, 24, 6, 528, 60, 1, 554, 4204, 7, 24, 24, 7, 570, 6, 1, 600, 6046, 7, 24, 24, 8, 616, 114, 1, 656, 0, 7, 24, 24, 9, 672, 114, 1, 712, 0, 7, 24, 24, 10, 728, 6, 1, 754, 6538, 3, 24, 24, 11, 770, 6, 1, 798, 6942, 5, 24, 24, 12, 814, 186, 1, 842, 7018, 5, 24, 24, 13, 858, 6, 1, 884, 7746, 7, 24, 24, 14, 900, 6, 1, 930, 8508, 7, 24, 24, 15, 946, 6, 1, 974, 0, 7, 24, 24, 16, 990, 6, 5, 1086, 8632, 1, 26, 204, 17, 79, 98, 106, 101, 99, 116, 8, 168, 18, 294, 0, 0, 168, 19, 8, 168, 20, 6, 0, 22, 204, 21, 67, 108, 97, 115, 115, 8, 168, 22, 338, 312, 0, 168, 23, 8, 168, 24, 24, 328, 62, 204, 25, 85, 110, 100, 101, 102, 105, 110, 101, 100, 79, 98, 106, 101, 99, 116, 8, 168, 26, 380, 354, 0, 168, 27, 8, 168, 28, 42, 370, 30, 204, 29, 66, 111, 111, 108, 101, 97, 110, 8, 168, 30, 442, 416, 0, 168, 31, 8, 168, 32, 60, 432, 18, 204, 33, 84, 114, 117, 101, 8, 168, 34, 488, 462, 0, 168, 35, 8, 168, 36, 78, 478, 22, 204, 37, 70, 97, 108, 115, 101, 8, 168, 38, 528, 502, 0, 168, 39, 8, 168, 40, 96, 518, 30, 204, 41, 73, 110, 116, 101, 103, 101, 114, 8, 168, 42, 570, 544, 0, 168, 43, 8, 168, 44, 114, 560, 50, 204, 45, 83, 109, 97, 108, 108, 73, 110, 116, 101, 103, 101, 114, 8, 168, 46, 616, 590, 0, 168, 47, 8, 168, 48, 132, 606, 50, 204, 49, 76, 97, 114, 103, 101, 73, 110, 116, 101, 103, 101, 114, 8, 168, 50, 672, 646, 0, 168, 51, 8, 168, 52, 150, 662, 22, 204, 53, 65, 114, 114, 97, 121, 8, 168, 54, 728, 702, 0, 168, 55, 8, 168, 56, 168, 718, 26, 204, 57, 83, 116, 114, 105, 110, 103, 8, 168, 58, 770, 744, 0, 168, 59, 8, 168, 60, 186, 760, 26, 204, 61, 83, 121, 109, 98, 111, 108, 8, 168, 62, 814, 788, 0, 168, 63, 8, 168, 64, 204, 804, 22, 204, 65, 66, 108, 111, 99, 107, 8, 168, 66, 858, 832, 0, 168, 67, 8, 168, 68, 222, 848, 30, 204, 69, 67, 111, 110, 116, 101, 120, 116, 8, 168, 70, 900, 874, 0, 168, 71, 8, 168, 72, 240, 890, 26, 204, 73, 77, 101, 116, 104, 111, 100, 8, 168, 74, 946, 920, 0, 168, 75, 8, 168, 76, 258, 936, 30, 204, 77, 77, 101, 115, 115, 97, 103, 101, 8, 168, 78, 990, 964, 34, 204, 79, 115, 101, 108, 101, 99, 116, 111, 114, 8, 168, 80, 1020, 1010, 38, 204, 81, 97, 114, 103, 117, 109, 101, 110, 116, 115, 8, 168, 82, 1052, 1042, 8, 168, 83, 1020, 1052, 8, 168, 84, 276, 980, 6, 204, 85, 61, 8, 168, 86, 1106, 1076, 10, 204, 87, 61, 61, 8, 168, 88, 1124, 1114, 4, 168, 89, 1124, 50, 186, 90, 1, 0, 0, 7, 0, 0, 14, 0, 1, 20, 0, 0, 4, 168, 91, 1152, 28, 258, 92, 1106, 3, 3, 1, 1144, 1182, 6, 8, 168, 93, 1190, 0, 0, 168, 94, 26, 186, 95, 1, 0, 0, 20, 0, 0, 4, 168, 96, 1226, 28, 258, 97, 1124, 3, 3, 21, 1220, 1244, 6, 8, 168, 98, 1252, 1210, 22, 204, 99, 99, 108, 97, 115, 115, 8, 168, 100, 1282, 1134, 0, 168, 101, 26, 186, 102, 1, 0, 0, 20, 0, 0, 4, 168, 103, 1314, 28, 258, 104, 1282, 1, 1, 23, 1308, 1332, 6, 8, 168, 105, 1340, 1272, 22, 204, 106, 105, 115, 78, 105, 108, 8, 168, 107, 1370, 1298, 4, 168, 108, 1124, 50, 186, 109, 1, 0, 0, 2, 0, 0, 14, 0, 1, 20, 0, 0, 4, 168, 110, 1404, 28, 258, 111, 1370, 1, 1, 1, 1396, 1434, 6, 8, 168, 112, 1442, 1360, 26, 204, 113, 110, 111, 116, 78, 105, 108, 8, 168, 114, 1472, 1386, 4, 168, 115, 1124, 74, 186, 116, 1, 0, 0, 2, 0, 0, 14, 0, 1, 4, 0, 0, 14, 0, 1, 20, 0, 0, 4, 168, 117, 1508, 28, 258, 118, 1472, 1, 1, 1, 1500, 1550, 6, 8, 168, 119, 1558, 1462, 10, 204, 120, 126, 61, 8, 168, 121, 1588, 1490, 8, 168, 122, 1106, 1124, 74, 186, 123, 1, 0, 0, 7, 0, 0, 14, 0, 1, 4, 0, 0, 14, 1, 1, 20, 0, 0, 4, 168, 124, 1618, 28, 258, 125, 1588, 3, 3, 1, 1608, 1660, 6, 8, 168, 126, 1668, 1578, 34, 204, 127, 121, 111, 117, 114, 115, 101, 108, 102, 8, 168, 128, 1698, 1598, 0, 168, 129, 26, 186, 130, 1, 0, 0, 20, 0, 0, 4, 168, 131, 1736, 28, 258, 132, 1698, 1, 1, 1, 1730, 1754, 6, 8, 168, 133, 1762, 1688, 42, 204, 134, 105, 110, 115, 116, 86, 97, 114, 65, 116, 58, 8, 168, 135, 1792, 1720, 0, 168, 136, 26, 186, 137, 1, 0, 0, 20, 0, 0, 4, 168, 138, 1834, 28, 258, 139, 1792, 3, 3, 101, 1828, 1852, 6, 8, 168, 140, 1860, 1782, 58, 204, 141, 105, 110, 115, 116, 86, 97, 114, 65, 116, 58, 112, 117, 116, 58, 8, 168, 142, 1890, 1818, 0, 168, 143, 26, 186, 144, 1, 0, 0, 20, 0, 0, 4, 168, 145, 1940, 28, 258, 146, 1890, 5, 5, 103, 1934, 1958, 6, 8, 168, 147, 1966, 1880, 30, 204, 148, 98, 101, 99, 111, 109, 101, 58, 8, 168, 149, 1996, 1924, 0, 168, 150, 26, 186, 151, 1, 0, 0, 20, 0, 0, 4, 168, 152, 2032, 28, 258, 153, 1996, 3, 3, 121, 2026, 2050, 6, 8, 168, 154, 2058, 1986, 34, 204, 155, 112, 101, 114, 102, 111, 114, 109, 58, 8, 168, 156, 2088, 2016, 0, 168, 157, 26, 186, 158, 1, 0, 0, 20, 0, 0, 4, 168, 159, 2126, 28, 258, 160, 2088, 3, 3, 63, 2120, 2144, 6, 8, 168, 161, 2152, 2078, 54, 204, 162, 112, 101, 114, 102, 111, 114, 109, 58, 119, 105, 116, 104, 58, 8, 168, 163, 2182, 2110, 0, 168, 164, 26, 186, 165, 1, 0, 0, 20, 0, 0, 4, 168, 166, 2230, 28, 258, 167, 2182, 5, 5, 65, 2224, 2248, 6, 8, 168, 168, 2256, 2172, 18, 204, 169, 115, 104, 111, 119, 8, 168, 170, 2286, 2214, 0, 168, 171, 26, 186, 172, 1, 0, 0, 20, 0, 0, 4, 168, 173, 2316, 28, 258, 174, 2286, 1, 1, 141, 2310, 2334, 6, 8, 168, 175, 2342, 2276, 26, 204, 176, 101, 114, 114, 111, 114, 58, 8, 168, 177, 2372, 2300, 0, 168, 178, 26, 186, 179, 1, 0, 0, 20, 0, 0, 4, 168, 180, 2406, 28, 258, 181, 2372, 3, 3, 143, 2400, 2424, 6, 8, 168, 182, 2432, 2362, 74, 204, 183, 100, 111, 101, 115, 78, 111, 116, 85, 110, 100, 101, 114, 115, 116, 97, 110, 100, 58, 8, 168, 184, 2462, 2390, 0, 168, 185, 26, 186, 186, 1, 0, 0, 20, 0, 0, 4, 168, 187, 2520, 28, 258, 188, 2462, 3, 3, 145, 2514, 2538, 6, 8, 168, 189, 2546, 2452, 54, 204, 190, 109, 117, 115, 116, 66, 101, 66, 111, 111, 108, 101, 97, 110, 8, 168, 191, 2576, 2504, 0, 168, 192, 26, 186, 193, 1, 0, 0, 20, 0, 0, 4, 168, 194, 2624, 28, 258, 195, 2576, 1, 1, 147, 2618, 2642, 6, 8, 168, 196, 2650, 2566, 14, 204, 197, 110, 101, 119, 8, 168, 198, 2680, 2608, 0, 168, 199, 26, 186, 200, 1, 0, 0, 20, 0, 0, 4, 168, 201, 2708, 28, 258, 202, 2680, 1, 1, 47, 2702, 2726, 24, 8, 168, 203, 2734, 0, 18, 204, 204, 110, 101, 119, 58, 8, 168, 205, 2764, 2692, 0, 168, 206, 26, 186, 207, 1, 0, 0, 20, 0, 0, 4, 168, 208, 2794, 28, 258, 209, 2764, 3, 3, 49, 2788, 2812, 24, 8, 168, 210, 2820, 2754, 18, 204, 211, 110, 97, 109, 101, 8, 168, 212, 2850, 2778, 0, 168, 213, 26, 186, 214, 1, 0, 0, 20, 0, 0, 4, 168, 215, 2880, 28, 258, 216, 2850, 1, 1, 81, 2874, 2898, 24, 8, 168, 217, 2906, 2840, 42, 204, 218, 115, 117, 112, 101, 114, 99, 108, 97, 115, 115, 8, 168, 219, 2936, 2864, 0, 168, 220, 26, 186, 221, 1, 0, 0, 20, 0, 0, 4, 168, 222, 2978, 28, 258, 223, 2936, 1, 1, 83, 2972, 2996, 24, 8, 168, 224, 3004, 2926, 30, 204, 225, 105, 102, 84, 114, 117, 101, 58, 8, 168, 226, 3034, 2962, 22, 204, 227, 118, 97, 108, 117, 101, 8, 168, 228, 3064, 3054, 4, 168, 229, 3064, 38, 186, 230, 7, 0, 0, 14, 0, 0, 20, 0, 0, 4, 168, 231, 3098, 28, 258, 232, 3034, 3, 3, 1, 3090, 3122, 78, 8, 168, 233, 3130, 0, 34, 204, 234, 105, 102, 70, 97, 108, 115, 101, 58, 8, 168, 235, 3160, 3080, 0, 168, 236, 26, 186, 237, 2, 0, 0, 20, 0, 0, 4, 168, 238, 3198, 28, 258, 239, 3160, 3, 3, 1, 3192, 3216, 78, 8, 168, 240, 3224, 3150, 62, 204, 241, 105, 102, 84, 114, 117, 101, 58, 105, 102, 70, 97, 108, 115, 101, 58, 8, 168, 242, 3254, 3182, 4, 168, 243, 3064, 38, 186, 244, 7, 0, 0, 14, 0, 0, 20, 0, 0, 4, 168, 245, 3308, 28, 258, 246, 3254, 5, 5, 1, 3300, 3332, 78, 8, 168, 247, 3340, 3244, 62, 204, 248, 105, 102, 70, 97, 108, 115, 101, 58, 105, 102, 84, 114, 117, 101, 58, 8, 168, 249, 3370, 3290, 4, 168, 250, 3064, 38, 186, 251, 7, 1, 0, 14, 0, 0, 20, 0, 0, 4, 168, 252, 3424, 28, 258, 253, 3370, 5, 5, 1, 3416, 3448, 78, 8, 168, 254, 3456, 3360, 18, 204, 255, 97, 110, 100, 58, 8, 168, 256, 3486, 3406, 4, 168, 257, 3064, 38, 186, 258, 7, 0, 0, 14, 0, 0, 20, 0, 0, 4, 168, 259, 3518, 28, 258, 260, 3486, 3, 3, 1, 3510, 3542, 78, 8, 168, 261, 3550, 3476, 14, 204, 262, 111, 114, 58, 8, 168, 263, 3580, 3500, 0, 168, 264, 26, 186, 265, 1, 0, 0, 20, 0, 0, 4, 168, 266, 3608, 28, 258, 267, 3580, 3, 3, 1, 3602, 3626, 78, 8, 168, 268, 3634, 3570, 14, 204, 269, 110, 111, 116, 8, 168, 270, 3664, 3592, 0, 168, 271, 26, 186, 272, 4, 0, 0, 20, 0, 0, 4, 168, 273, 3692, 28, 258, 274, 3664, 1, 1, 1, 3686, 3710, 78, 8, 168, 275, 3718, 3654, 0, 168, 276, 26, 186, 277, 2, 0, 0, 20, 0, 0, 4, 168, 278, 3754, 28, 258, 279, 3034, 3, 3, 1, 3748, 3772, 96, 8, 168, 280, 3780, 0, 4, 168, 281, 3064, 38, 186, 282, 7, 0, 0, 14, 0, 0, 20, 0, 0, 4, 168, 283, 3818, 28, 258, 284, 3160, 3, 3, 1, 3810, 3842, 96, 8, 168, 285, 3850, 3800, 4, 168, 286, 3064, 38, 186, 287, 7, 1, 0, 14, 0, 0, 20, 0, 0, 4, 168, 288, 3888, 28, 258, 289, 3254, 5, 5, 1, 3880, 3912, 96, 8, 168, 290, 3920, 3870, 4, 168, 291, 3064, 38, 186, 292, 7, 0, 0, 14, 0, 0, 20, 0, 0, 4, 168, 293, 3958, 28, 258, 294, 3370, 5, 5, 1, 3950, 3982, 96, 8, 168, 295, 3990, 3940, 0, 168, 296, 26, 186, 297, 1, 0, 0, 20, 0, 0, 4, 168, 298, 4026, 28, 258, 299, 3486, 3, 3, 1, 4020, 4044, 96, 8, 168, 300, 4052, 4010, 4, 168, 301, 3064, 38, 186, 302, 7, 0, 0, 14, 0, 0, 20, 0, 0, 4, 168, 303, 4090, 28, 258, 304, 3580, 3, 3, 1, 4082, 4114, 96, 8, 168, 305, 4122, 4072, 0, 168, 306, 26, 186, 307, 3, 0, 0, 20, 0, 0, 4, 168, 308, 4158, 28, 258, 309, 3664, 1, 1, 1, 4152, 4176, 96, 8, 168, 310, 4184, 4142, 6, 204, 311, 43, 8, 168, 312, 4214, 3676, 26, 204, 313, 110, 117, 109, 98, 101, 114, 8, 168, 314, 4232, 4222, 8, 168, 315, 4232, 2372, 50, 186, 316, 1, 0, 0, 6, 0, 0, 14, 1, 1, 20, 0, 0, 4, 168, 317, 4270, 28, 258, 318, 4214, 3, 3, 3, 4260, 4300, 114, 8, 168, 319, 4308, 0, 6, 204, 320, 45, 8, 168, 321, 4338, 4250, 8, 168, 322, 4232, 2372, 50, 186, 323, 1, 0, 0, 6, 0, 0, 14, 1, 1, 20, 0, 0, 4, 168, 324, 4366, 28, 258, 325, 4338, 3, 3, 5, 4356, 4396, 114, 8, 168, 326, 4404, 4328, 6, 204, 327, 42, 8, 168, 328, 4434, 4346, 8, 168, 329, 4232, 2372, 50, 186, 330, 1, 0, 0, 6, 0, 0, 14, 1, 1, 20, 0, 0, 4, 168, 331, 4462, 28, 258, 332, 4434, 3, 3, 7, 4452, 4492, 114, 8, 168, 333, 4500, 4424, 10, 204, 334, 47, 47, 8, 168, 335, 4530, 4442, 8, 168, 336, 4232, 2372, 50, 186, 337, 1, 0, 0, 6, 0, 0, 14, 1, 1, 20, 0, 0, 4, 168, 338, 4560, 28, 258, 339, 4530, 3, 3, 9, 4550, 4590, 114, 8, 168, 340, 4598, 4520, 6, 204, 341, 37, 8, 168, 342, 4628, 4540, 8, 168, 343, 4232, 2372, 50, 186, 344, 1, 0, 0, 6, 0, 0, 14, 1, 1, 20, 0, 0, 4, 168, 345, 4656, 28, 258, 346, 4628, 3, 3, 11, 4646, 4686, 114, 8, 168, 347, 4694, 4618, 6, 204, 348, 60, 8, 168, 349, 4724, 4636, 8, 168, 350, 4232, 2372, 50, 186, 351, 1, 0, 0, 6, 0, 0, 14, 1, 1, 20, 0, 0, 4, 168, 352, 4752, 28, 258, 353, 4724, 3, 3, 13, 4742, 4782, 114, 8, 168, 354, 4790, 4714, 0, 168, 355, 26, 186, 356, 4, 0, 0, 20, 0, 0, 4, 168, 357, 4826, 28, 258, 358, 1106, 3, 3, 15, 4820, 4844, 114, 8, 168, 359, 4852, 4810, 6, 204, 360, 62, 8, 168, 361, 4882, 4732, 4, 168, 362, 4724, 50, 186, 363, 7, 0, 0, 1, 0, 0, 14, 0, 1, 20, 0, 0, 4, 168, 364, 4908, 28, 258, 365, 4882, 3, 3, 1, 4900, 4938, 114, 8, 168, 366, 4946, 4872, 10, 204, 367, 60, 61, 8, 168, 368, 4976, 4890, 8, 168, 369, 4724, 3664, 62, 186, 370, 7, 0, 0, 1, 0, 0, 14, 0, 1, 14, 1, 0, 20, 0, 0, 4, 168, 371, 5006, 28, 258, 372, 4976, 3, 3, 1, 4996, 5042, 114, 8, 168, 373, 5050, 4966, 10, 204, 374, 62, 61, 8, 168, 375, 5080, 4986, 8, 168, 376, 4724, 3664, 62, 186, 377, 1, 0, 0, 7, 0, 0, 14, 0, 1, 14, 1, 0, 20, 0, 0, 4, 168, 378, 5110, 28, 258, 379, 5080, 3, 3, 1, 5100, 5146, 114, 8, 168, 380, 5154, 5070, 30, 204, 381, 110, 101, 103, 97, 116, 101, 100, 8, 168, 382, 5184, 5090, 8, 168, 383, 1, 4338, 50, 186, 384, 6, 0, 0, 1, 0, 0, 14, 1, 1, 20, 0, 0, 4, 168, 385, 5224, 28, 258, 386, 5184, 1, 1, 1, 5214, 5254, 114, 8, 168, 387, 5262, 5174, 14, 204, 388, 97, 98, 115, 8, 168, 389, 5292, 5204, 12, 168, 390, 1, 4724, 5184, 158, 186, 391, 1, 0, 0, 6, 0, 0, 14, 1, 1, 17, 9, 0, 1, 0, 0, 14, 2, 0, 20, 0, 0, 2, 0, 0, 16, 10, 0, 2, 0, 0, 12, 0, 0, 1, 0, 0, 20, 0, 0, 4, 168, 392, 5326, 28, 258, 393, 5292, 1, 1, 1, 5314, 5410, 114, 8, 168, 394, 5418, 5282, 18, 204, 395, 109, 97, 120, 58, 8, 168, 396, 5448, 5304, 4, 168, 397, 4724, 146, 186, 398, 1, 0, 0, 7, 0, 0, 14, 0, 1, 17, 8, 0, 7, 0, 0, 20, 0, 0, 2, 0, 0, 16, 9, 0, 2, 0, 0, 12, 0, 0, 1, 0, 0, 20, 0, 0, 4, 168, 399, 5480, 28, 258, 400, 5448, 3, 3, 1, 5472, 5558, 114, 8, 168, 401, 5566, 5438, 50, 204, 402, 116, 105, 109, 101, 115, 82, 101, 112, 101, 97, 116, 58, 8, 168, 403, 5596, 5462, 20, 168, 404, 1, 4724, 3064, 3, 4214, 242, 186, 405, 6, 0, 0, 10, 1, 0, 12, 0, 0, 7, 1, 0, 1, 0, 0, 14, 1, 1, 17, 16, 0, 7, 0, 0, 14, 2, 0, 12, 0, 0, 7, 1, 0, 6, 3, 0, 14, 4, 1, 10, 1, 0, 12, 0, 0, 16, 3, 0, 2, 0, 0, 12, 0, 0, 1, 0, 0, 20, 0, 0, 4, 168, 406, 5652, 28, 258, 407, 5596, 3, 5, 1, 5636, 5778, 114, 8, 168, 408, 5786, 5586, 26, 204, 409, 116, 111, 58, 100, 111, 58, 8, 168, 410, 5816, 5626, 26, 204, 411, 118, 97, 108, 117, 101, 58, 8, 168, 412, 5844, 5834, 16, 168, 413, 4976, 5844, 3, 4214, 254, 186, 414, 1, 0, 0, 10, 2, 0, 12, 0, 0, 7, 2, 0, 7, 0, 0, 14, 0, 1, 17, 17, 0, 7, 1, 0, 7, 2, 0, 14, 1, 1, 12, 0, 0, 7, 2, 0, 6, 2, 0, 14, 3, 1, 10, 2, 0, 12, 0, 0, 16, 3, 0, 2, 0, 0, 12, 0, 0, 1, 0, 0, 20, 0, 0, 4, 168, 415, 5886, 28, 258, 416, 5816, 5, 7, 1, 5872, 6018, 114, 8, 168, 417, 6026, 5806, 14, 204, 418, 97, 116, 58, 8, 168, 419, 6056, 5862, 22, 204, 420, 105, 110, 100, 101, 120, 8, 168, 421, 6078, 6068, 8, 168, 422, 6078, 2372, 50, 186, 423, 1, 0, 0, 6, 0, 0, 14, 1, 1, 20, 0, 0, 4, 168, 424, 6114, 28, 258, 425, 6056, 3, 3, 41, 6104, 6144, 168, 8, 168, 426, 6152, 0, 30, 204, 427, 97, 116, 58, 112, 117, 116, 58, 8, 168, 428, 6182, 6094, 8, 168, 429, 6078, 2372, 50, 186, 430, 1, 0, 0, 6, 0, 0, 14, 1, 1, 20, 0, 0, 4, 168, 431, 6222, 28, 258, 432, 6182, 5, 5, 43, 6212, 6252, 168, 8, 168, 433, 6260, 6172, 18, 204, 434, 115, 105, 122, 101, 8, 168, 435, 6290, 6202, 0, 168, 436, 26, 186, 437, 1, 0, 0, 20, 0, 0, 4, 168, 438, 6320, 28, 258, 439, 6290, 1, 1, 45, 6314, 6338, 168, 8, 168, 440, 6346, 6280, 14, 204, 441, 100, 111, 58, 8, 168, 442, 6376, 6304, 20, 168, 443, 3, 6290, 6056, 5844, 5816, 182, 186, 444, 6, 0, 0, 1, 0, 0, 14, 1, 0, 18, 1, 1, 16, 11, 0, 7, 0, 0, 1, 0, 0, 7, 1, 0, 14, 2, 1, 14, 3, 1, 19, 0, 0, 14, 4, 2, 12, 0, 0, 1, 0, 0, 20, 0, 0, 4, 168, 445, 6414, 28, 258, 446, 6376, 3, 5, 1, 6398, 6510, 168, 8, 168, 447, 6518, 6366, 8, 168, 448, 6078, 2372, 50, 186, 449, 1, 0, 0, 6, 0, 0, 14, 1, 1, 20, 0, 0, 4, 168, 450, 6558, 28, 258, 451, 6056, 3, 3, 41, 6548, 6588, 186, 8, 168, 452, 6596, 0, 8, 168, 453, 6078, 2372, 50, 186, 454, 1, 0, 0, 6, 0, 0, 14, 1, 1, 20, 0, 0, 4, 168, 455, 6636, 28, 258, 456, 6182, 5, 5, 43, 6626, 6666, 186, 8, 168, 457, 6674, 6616, 0, 168, 458, 26, 186, 459, 1, 0, 0, 20, 0, 0, 4, 168, 460, 6710, 28, 258, 461, 6290, 1, 1, 45, 6704, 6728, 186, 8, 168, 462, 6736, 6694, 6, 204, 463, 44, 8, 168, 464, 6766, 6388, 26, 204, 465, 115, 116, 114, 105, 110, 103, 8, 168, 466, 6784, 6774, 8, 168, 467, 6784, 2372, 50, 186, 468, 1, 0, 0, 6, 0, 0, 14, 1, 1, 20, 0, 0, 4, 168, 469, 6822, 28, 258, 470, 6766, 3, 3, 51, 6812, 6852, 186, 8, 168, 471, 6860, 6756, 0, 168, 472, 26, 186, 473, 1, 0, 0, 20, 0, 0, 4, 168, 474, 6896, 28, 258, 475, 1106, 3, 3, 53, 6890, 6914, 186, 8, 168, 476, 6922, 6880, 4, 168, 477, 1124, 50, 186, 478, 1, 0, 0, 7, 0, 0, 14, 0, 1, 20, 0, 0, 4, 168, 479, 6960, 28, 258, 480, 1106, 3, 3, 1, 6952, 6990, 204, 8, 168, 481, 6998, 0, 8, 168, 482, 1052, 2372, 50, 186, 483, 1, 0, 0, 6, 0, 0, 14, 1, 1, 20, 0, 0, 4, 168, 484, 7038, 28, 258, 485, 3064, 1, 1, 67, 7028, 7068, 222, 8, 168, 486, 7076, 0, 8, 168, 487, 1052, 2372, 50, 186, 488, 1, 0, 0, 6, 0, 0, 14, 1, 1, 20, 0, 0, 4, 168, 489, 7116, 28, 258, 490, 5844, 3, 3, 69, 7106, 7146, 222, 8, 168, 491, 7154, 7096, 50, 204, 492, 118, 97, 108, 117, 101, 58, 118, 97, 108, 117, 101, 58, 8, 168, 493, 7184, 6802, 8, 168, 494, 1052, 2372, 50, 186, 495, 1, 0, 0, 6, 0, 0, 14, 1, 1, 20, 0, 0, 4, 168, 496, 7234, 28, 258, 497, 7184, 5, 5, 71, 7224, 7264, 222, 8, 168, 498, 7272, 7174, 42, 204, 499, 119, 104, 105, 108, 101, 84, 114, 117, 101, 58, 8, 168, 500, 7302, 7214, 4, 168, 501, 3064, 134, 186, 502, 1, 0, 0, 14, 0, 0, 17, 7, 0, 7, 0, 0, 14, 0, 0, 12, 0, 0, 16, 0, 0, 2, 0, 0, 12, 0, 0, 1, 0, 0, 20, 0, 0, 4, 168, 503, 7346, 28, 258, 504, 7302, 3, 3, 1, 7338, 7418, 222, 8, 168, 505, 7426, 7292, 30, 204, 506, 101, 110, 115, 117, 114, 101, 58, 8, 168, 507, 7456, 7328, 4, 168, 508, 3064, 146, 186, 509, 1, 0, 0, 14, 0, 0, 10, 1, 0, 12, 0, 0, 3, 0, 0, 10, 2, 0, 12, 0, 0, 7, 0, 0, 14, 0, 0, 12, 0, 0, 7, 1, 0, 20, 0, 0, 4, 168, 510, 7494, 28, 258, 511, 7456, 3, 7, 181, 7486, 7572, 222, 8, 168, 512, 7580, 7446, 50, 204, 513, 105, 102, 67, 117, 114, 116, 97, 105, 108, 101, 100, 58, 8, 168, 514, 7610, 7476, 4, 168, 515, 3064, 110, 186, 516, 1, 0, 0, 14, 0, 0, 10, 1, 0, 12, 0, 0, 3, 0, 0, 10, 2, 0, 12, 0, 0, 7, 1, 0, 20, 0, 0, 4, 168, 517, 7658, 28, 258, 518, 7610, 3, 7, 183, 7650, 7718, 222, 8, 168, 519, 7726, 7600, 26, 204, 520, 115, 101, 110, 100, 101, 114, 8, 168, 521, 7756, 7640, 0, 168, 522, 26, 186, 523, 1, 0, 0, 20, 0, 0, 4, 168, 524, 7790, 28, 258, 525, 7756, 1, 1, 161, 7784, 7808, 240, 8, 168, 526, 7816, 0, 34, 204, 527, 114, 101, 99, 101, 105, 118, 101, 114, 8, 168, 528, 7846, 7774, 0, 168, 529, 26, 186, 530, 1, 0, 0, 20, 0, 0, 4, 168, 531, 7884, 28, 258, 532, 7846, 1, 1, 163, 7878, 7902, 240, 8, 168, 533, 7910, 7836, 0, 168, 534, 26, 186, 535, 1, 0, 0, 20, 0, 0, 4, 168, 536, 7946, 28, 258, 537, 1020, 1, 1, 165, 7940, 7964, 240, 8, 168, 538, 7972, 7930, 10, 204, 539, 112, 99, 8, 168, 540, 8002, 7868, 0, 168, 541, 26, 186, 542, 1, 0, 0, 20, 0, 0, 4, 168, 543, 8028, 28, 258, 544, 8002, 1, 1, 167, 8022, 8046, 240, 8, 168, 545, 8054, 7992, 30, 204, 546, 116, 101, 109, 112, 65, 116, 58, 8, 168, 547, 8084, 8012, 8, 168, 548, 6078, 2372, 50, 186, 549, 1, 0, 0, 6, 0, 0, 14, 1, 1, 20, 0, 0, 4, 168, 550, 8124, 28, 258, 551, 8084, 3, 3, 169, 8114, 8154, 240, 8, 168, 552, 8162, 8074, 46, 204, 553, 116, 101, 109, 112, 65, 116, 58, 112, 117, 116, 58, 8, 168, 554, 8192, 8104, 8, 168, 555, 6078, 2372, 50, 186, 556, 1, 0, 0, 6, 0, 0, 14, 1, 1, 20, 0, 0, 4, 168, 557, 8240, 28, 258, 558, 8192, 5, 5, 171, 8230, 8270, 240, 8, 168, 559, 8278, 8182, 30, 204, 560, 114, 101, 116, 117, 114, 110, 58, 8, 168, 561, 8308, 8220, 54, 204, 562, 99, 97, 110, 110, 111, 116, 82, 101, 116, 117, 114, 110, 58, 8, 168, 563, 8338, 8328, 4, 168, 564, 8338, 50, 186, 565, 1, 0, 0, 7, 0, 0, 14, 0, 1, 20, 0, 0, 4, 168, 566, 8388, 28, 258, 567, 8308, 3, 3, 173, 8380, 8418, 240, 8, 168, 568, 8426, 8298, 0, 168, 569, 26, 186, 570, 1, 0, 0, 20, 0, 0, 4, 168, 571, 8462, 28, 258, 572, 8338, 3, 3, 149, 8456, 8480, 240, 8, 168, 573, 8488, 8446, 0, 168, 574, 26, 186, 575, 8, 0, 0, 20, 0, 0, 4, 168, 576, 8524, 28, 258, 577, 1020, 1, 1, 1, 8518, 8542, 276, 8, 168, 578, 8550, 0, 0, 168, 579, 26, 186, 580, 8, 1, 0, 20, 0, 0, 4, 168, 581, 8586, 28, 258, 582, 1052, 1, 1, 1, 8580, 8604, 276, 8, 168, 583, 8612, 8570]
def plF : List Nat := [3, 12, 21, 30, 39, 48, 57, 66, 75, 84, 93, 102, 111, 120, 129, 138, 147, 156, 161, 164, 169, 177, 182, 185, 190, 208, 213, 216, 221, 231, 236, 239, 244, 251, 256, 259, 264, 272, 277, 280, 285, 295, 300, 303, 308, 323, 328, 331, 336, 351, 356, 359, 364, 372, 377, 380, 385, 394, 399, 402, 407, 416, 421, 424, 429, 437, 442, 445, 450, 460, 465, 468, 473, 482, 487, 490, 495, 505, 510, 521, 526, 538, 543, 548, 553, 557, 562, 567, 572, 576, 591, 595, 605, 610, 613, 622, 626, 636, 641, 649, 654, 657, 666, 670, 680, 685, 693, 698, 702, 717, 721, 731, 736, 745, 750, 754, 775, 779, 789, 794, 799, 804, 809, 830, 834, 844, 849, 860, 865, 868, 877, 881, 891, 896, 909, 914, 917, 926, 930, 940, 945, 962, 967, 970, 979, 983, 993, 998, 1008, 1013, 1016, 1025, 1029, 1039, 1044, 1055, 1060, 1063, 1072, 1076, 1086, 1091, 1107, 1112, 1115, 1124, 1128, 1138, 1143, 1150, 1155, 1158, 1167, 1171, 1181, 1186, 1195, 1200, 1203, 1212, 1216, 1226, 1231, 1252, 1257, 1260, 1269, 1273, 1283, 1288, 1304, 1309, 1312, 1321, 1325, 1335, 1340, 1346, 1351, 1354, 1363, 1367, 1377, 1382, 1389, 1394, 1397, 1406, 1410, 1420, 1425, 1432, 1437, 1440, 1449, 1453, 1463, 1468, 1481, 1486, 1489, 1498, 1502, 1512, 1517, 1527, 1532, 1540, 1545, 1549, 1561, 1565, 1575, 1580, 1591, 1596, 1599, 1608, 1612, 1622, 1627, 1645, 1650, 1654, 1666, 1670, 1680, 1685, 1703, 1708, 1712, 1724, 1728, 1738, 1743, 1750, 1755, 1759, 1771, 1775, 1785, 1790, 1796, 1801, 1804, 1813, 1817, 1827, 1832, 1838, 1843, 1846, 1855, 1859, 1869, 1874, 1877, 1886, 1890, 1900, 1905, 1909, 1921, 1925, 1935, 1940, 1944, 1956, 1960, 1970, 1975, 1979, 1991, 1995, 2005, 2010, 2013, 2022, 2026, 2036, 2041, 2045, 2057, 2061, 2071, 2076, 2079, 2088, 2092, 2102, 2107, 2111, 2116, 2125, 2130, 2135, 2150, 2154, 2164, 2169, 2173, 2178, 2183, 2198, 2202, 2212, 2217, 2221, 2226, 2231, 2246, 2250, 2260, 2265, 2270, 2275, 2280, 2295, 2299, 2309, 2314, 2318, 2323, 2328, 2343, 2347, 2357, 2362, 2366, 2371, 2376, 2391, 2395, 2405, 2410, 2413, 2422, 2426, 2436, 2441, 2445, 2450, 2454, 2469, 2473, 2483, 2488, 2493, 2498, 2503, 2521, 2525, 2535, 2540, 2545, 2550, 2555, 2573, 2577, 2587, 2592, 2602, 2607, 2612, 2627, 2631, 2641, 2646, 2652, 2657, 2663, 2705, 2709, 2719, 2724, 2731, 2736, 2740, 2779, 2783, 2793, 2798, 2813, 2818, 2826, 2889, 2893, 2903, 2908, 2917, 2922, 2931, 2936, 2943, 3009, 3013, 3023, 3028, 3034, 3039, 3047, 3052, 3057, 3072, 3076, 3086, 3091, 3101, 3106, 3111, 3126, 3130, 3140, 3145, 3152, 3157, 3160, 3169, 3173, 3183, 3188, 3194, 3199, 3207, 3255, 3259, 3269, 3274, 3279, 3294, 3298, 3308, 3313, 3318, 3333, 3337, 3347, 3352, 3355, 3364, 3368, 3378, 3383, 3387, 3392, 3401, 3406, 3411, 3426, 3430, 3440, 3445, 3448, 3457, 3461, 3471, 3476, 3480, 3495, 3499, 3509, 3514, 3519, 3534, 3538, 3548, 3553, 3558, 3573, 3577, 3587, 3592, 3607, 3612, 3617, 3632, 3636, 3646, 3651, 3664, 3669, 3673, 3709, 3713, 3723, 3728, 3738, 3743, 3747, 3786, 3790, 3800, 3805, 3820, 3825, 3829, 3859, 3863, 3873, 3878, 3887, 3892, 3895, 3904, 3908, 3918, 3923, 3934, 3939, 3942, 3951, 3955, 3965, 3970, 3973, 3982, 3986, 3996, 4001, 4006, 4011, 4014, 4023, 4027, 4037, 4042, 4052, 4057, 4062, 4077, 4081, 4091, 4096, 4110, 4115, 4120, 4135, 4139, 4149, 4154, 4164, 4169, 4185, 4190, 4194, 4209, 4213, 4223, 4228, 4231, 4240, 4244, 4254, 4259, 4262, 4271, 4275, 4285, 4290, 4293, 4302, 4306, 4316]
def syF : List (List Nat × Nat) := [([79, 98, 106, 101, 99, 116], 294), ([67, 108, 97, 115, 115], 338), ([85, 110, 100, 101, 102, 105, 110, 101, 100, 79, 98, 106, 101, 99, 116], 380), ([66, 111, 111, 108, 101, 97, 110], 442), ([84, 114, 117, 101], 488), ([70, 97, 108, 115, 101], 528), ([73, 110, 116, 101, 103, 101, 114], 570), ([83, 109, 97, 108, 108, 73, 110, 116, 101, 103, 101, 114], 616), ([76, 97, 114, 103, 101, 73, 110, 116, 101, 103, 101, 114], 672), ([65, 114, 114, 97, 121], 728), ([83, 116, 114, 105, 110, 103], 770), ([83, 121, 109, 98, 111, 108], 814), ([66, 108, 111, 99, 107], 858), ([67, 111, 110, 116, 101, 120, 116], 900), ([77, 101, 116, 104, 111, 100], 946), ([77, 101, 115, 115, 97, 103, 101], 990), ([115, 101, 108, 101, 99, 116, 111, 114], 1020), ([97, 114, 103, 117, 109, 101, 110, 116, 115], 1052), ([61], 1106), ([61, 61], 1124), ([99, 108, 97, 115, 115], 1282), ([105, 115, 78, 105, 108], 1370), ([110, 111, 116, 78, 105, 108], 1472), ([126, 61], 1588), ([121, 111, 117, 114, 115, 101, 108, 102], 1698), ([105, 110, 115, 116, 86, 97, 114, 65, 116, 58], 1792), ([105, 110, 115, 116, 86, 97, 114, 65, 116, 58, 112, 117, 116, 58], 1890), ([98, 101, 99, 111, 109, 101, 58], 1996), ([112, 101, 114, 102, 111, 114, 109, 58], 2088), ([112, 101, 114, 102, 111, 114, 109, 58, 119, 105, 116, 104, 58], 2182), ([115, 104, 111, 119], 2286), ([101, 114, 114, 111, 114, 58], 2372), ([100, 111, 101, 115, 78, 111, 116, 85, 110, 100, 101, 114, 115, 116, 97, 110, 100, 58], 2462), ([109, 117, 115, 116, 66, 101, 66, 111, 111, 108, 101, 97, 110], 2576), ([110, 101, 119], 2680), ([110, 101, 119, 58], 2764), ([110, 97, 109, 101], 2850), ([115, 117, 112, 101, 114, 99, 108, 97, 115, 115], 2936), ([105, 102, 84, 114, 117, 101, 58], 3034), ([118, 97, 108, 117, 101], 3064), ([105, 102, 70, 97, 108, 115, 101, 58], 3160), ([105, 102, 84, 114, 117, 101, 58, 105, 102, 70, 97, 108, 115, 101, 58], 3254), ([105, 102, 70, 97, 108, 115, 101, 58, 105, 102, 84, 114, 117, 101, 58], 3370), ([97, 110, 100, 58], 3486), ([111, 114, 58], 3580), ([110, 111, 116], 3664), ([43], 4214), ([110, 117, 109, 98, 101, 114], 4232), ([45], 4338), ([42], 4434), ([47, 47], 4530), ([37], 4628), ([60], 4724), ([62], 4882), ([60, 61], 4976), ([62, 61], 5080), ([110, 101, 103, 97, 116, 101, 100], 5184), ([97, 98, 115], 5292), ([109, 97, 120, 58], 5448), ([116, 105, 109, 101, 115, 82, 101, 112, 101, 97, 116, 58], 5596), ([116, 111, 58, 100, 111, 58], 5816), ([118, 97, 108, 117, 101, 58], 5844), ([97, 116, 58], 6056), ([105, 110, 100, 101, 120], 6078), ([97, 116, 58, 112, 117, 116, 58], 6182), ([115, 105, 122, 101], 6290), ([100, 111, 58], 6376), ([44], 6766), ([115, 116, 114, 105, 110, 103], 6784), ([118, 97, 108, 117, 101, 58, 118, 97, 108, 117, 101, 58], 7184), ([119, 104, 105, 108, 101, 84, 114, 117, 101, 58], 7302), ([101, 110, 115, 117, 114, 101, 58], 7456), ([105, 102, 67, 117, 114, 116, 97, 105, 108, 101, 100, 58], 7610), ([115, 101, 110, 100, 101, 114], 7756), ([114, 101, 99, 101, 105, 118, 101, 114], 7846), ([112, 99], 8002), ([116, 101, 109, 112, 65, 116, 58], 8084), ([116, 101, 109, 112, 65, 116, 58, 112, 117, 116, 58], 8192), ([114, 101, 116, 117, 114, 110, 58], 8308), ([99, 97, 110, 110, 111, 116, 82, 101, 116, 117, 114, 110, 58], 8338)]
def clF : List (List Nat × Nat) := [([79, 98, 106, 101, 99, 116], 6), ([67, 108, 97, 115, 115], 24), ([85, 110, 100, 101, 102, 105, 110, 101, 100, 79, 98, 106, 101, 99, 116], 42), ([66, 111, 111, 108, 101, 97, 110], 60), ([84, 114, 117, 101], 78), ([70, 97, 108, 115, 101], 96), ([73, 110, 116, 101, 103, 101, 114], 114), ([83, 109, 97, 108, 108, 73, 110, 116, 101, 103, 101, 114], 132), ([76, 97, 114, 103, 101, 73, 110, 116, 101, 103, 101, 114], 150), ([65, 114, 114, 97, 121], 168), ([83, 116, 114, 105, 110, 103], 186), ([83, 121, 109, 98, 111, 108], 204), ([66, 108, 111, 99, 107], 222), ([67, 111, 110, 116, 101, 120, 116], 240), ([77, 101, 116, 104, 111, 100], 258), ([77, 101, 115, 115, 97, 103, 101], 276)]
def dIj (l : List (List Nat × Nat)) : Nat → List (List Nat × Nat) := List.rec (motive := fun _ => Nat → List (List Nat × Nat)) (fun _ => []) (fun x _ ih n => bif Nat.beq n 0 then [] else x :: ih (Nat.sub n 1)) l
def dJb (l : List (List Nat × List Nat)) : Nat → List (Pos × Ob) := List.rec (motive := fun _ => Nat → List (Pos × Ob)) (fun _ => []) (fun x _ ih p => (cV p, .row .ex [.s x.1, .s x.2]) :: ih (Nat.add p 1)) l
def dCs (l : List (List Nat × List Nat)) : Nat → List (List Nat × List Nat) := List.rec (motive := fun _ => Nat → List (List Nat × List Nat)) (fun _ => []) (fun x l ih n => bif Nat.beq n 0 then x :: l else ih (Nat.sub n 1)) l
def oK (N fin made ns : Nat) (roots : List Nat) (pt : List (Nat × Nat)) (k : Nat) : List (Pos × Ob) :=
 (cV 7, .row .ex [.p (cV 3) 0, .l (cV 4) 0 18 18, .m (cV 5), .m (cV 6)]) ::
 (cV 6, .mp (dCo clF)) :: (cV 5, .mp (dCo (dIj syF ns))) :: (cV 4, .row .ex (dKz roots)) ::
 (cV 3, .row .ex [.l (cV 1) 0 N N, .i .i64 (.ofNat fin), .i .i64 (.ofNat made), .m (cV 2)]) ::
 (cV 2, .mi (mkP (cNd plF made) .e)) :: (cV 1, .big N (cWl pt (mkW (cNd wsF fin) 0 .e))) ::
 (cV 431, .row .ex (dPp dCe 356)) :: dJb (dCs dCe k) (Nat.add 356 k)
def cQl (l : List (Pos × Ob)) : Tr Ob := List.rec (motive := fun _ => Tr Ob) .e (fun x _ ih => Tr.set x.2 x.1 ih) l
def jH (nx : Nat) (l : List (Pos × Ob)) : Hp := ⟨cV nx, cQl l⟩
def bQi (x y : Int) : Bool := match x, y with
 | .ofNat a, .ofNat b => Nat.beq a b
 | .negSucc a, .negSucc b => Nat.beq a b
 | _, _ => false
def wtE (t : WT) : WT → Bool := WT.rec (motive := fun _ => WT → Bool) (fun u => WT.rec (motive := fun _ => Bool) true (fun _ _ _ _ _ => false) u)
 (fun _ v _ ihl ihr u => WT.rec (motive := fun _ => Bool) false (fun l' v' r' _ _ => bQi v v' && (ihl l' && ihr r')) u) t
def dvE (x y : DV) : Bool := match x, y with
 | .i .i64 a, .i .i64 b => bQi a b
 | .s a, .s b => tD a b
 | .p a o, .p b q => nY a b && Nat.beq o q
 | .l a o n c, .l b q m d => nY a b && (Nat.beq o q && (Nat.beq n m && Nat.beq c d))
 | .m a, .m b => nY a b
 | .b a, .b b => a == b
 | .l0, .l0 => true
 | .p0, .p0 => true
 | .m0, .m0 => true
 | _, _ => false
def bYw (l : List DV) : List DV → Bool := List.rec (motive := fun _ => List DV → Bool) (fun m => List.rec (motive := fun _ => Bool) true (fun _ _ _ => false) m)
 (fun x _ ih m => List.rec (motive := fun _ => Bool) false (fun y m _ => dvE x y && ih m) m) l
def cUs (l : List (DV × DV)) : List (DV × DV) → Bool := List.rec (motive := fun _ => List (DV × DV) → Bool) (fun m => List.rec (motive := fun _ => Bool) true (fun _ _ _ => false) m)
 (fun x _ ih m => List.rec (motive := fun _ => Bool) false (fun y m _ => dvE x.1 y.1 && (dvE x.2 y.2 && ih m)) m) l
def obE (o p : Ob) : Bool := match o, p with
 | .row .ex l, .row .ex m => bYw l m
 | .mp l, .mp m => cUs l m
 | .big n t, .big m u => Nat.beq n m && wtE t u
 | .mi t, .mi u => wtE t u
 | _, _ => false
def bPm (g : Tr Ob) (l : List (Pos × Ob)) : Bool := List.rec (motive := fun _ => Bool) true (fun x _ ih => (match g.get x.1 with
 | some o => obE o x.2
 | none => false) && ih) l
def mJ (r : aG) (vs : List DV) (nx : Nat) (l : List (Pos × Ob)) : Bool := match r with
 | some (.t us, g) => bYw us vs && (nY g.next (cV nx) && bPm g.bl l)
 | _ => false
def itN (n : Nat) (K : DV → DV → DV → DV → Hp → aG) : DV → DV → DV → DV → Hp → aG :=
 Nat.rec (motive := fun _ => DV → DV → DV → DV → Hp → aG) K (fun _ ih => lI (dA 899) 899 ih) n
def bOa : DV → DV → DV → DV → Hp → aG := fun a b c d h => some (.t [a, b, c, d], h)
def mC (k : Nat) : List DV := [.p (cV 7) 0, .l (cV 431) 0 75 75, .i .i64 (.ofNat 75), .i .i64 (.ofNat k)]
def oX (k n : Nat) (h : Hp) : aG := itN n bOa (.p (cV 7) 0) (.l (cV 431) 0 75 75) (.i .i64 (.ofNat 75)) (.i .i64 (.ofNat k)) h
end
end Go.Dd

