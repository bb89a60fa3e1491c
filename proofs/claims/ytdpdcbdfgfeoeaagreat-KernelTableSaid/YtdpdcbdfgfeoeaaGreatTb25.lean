/- A part of the proof: TB2 TB3 TB6 XLT TB7: each text has a comment of its own. -/
import Derived.Test.YtdpdcbdfgfeoeaaGreatTb11
import Derived.Test.YtdpdcbdfgfeoeaaGreatTb12
import Derived.Test.YtdpdcbdfgfeoeaaGreatTb13
import Derived.Test.YtdpdcbdfgfeoeaaGreatTb14
import Derived.Test.YtdpdcbdfgfeoeaaGreatTb15
import Derived.Test.YtdpdcbdfgfeoeaaGreatTb16
import Derived.Test.YtdpdcbdfgfeoeaaGreatTb17
import Derived.Test.YtdpdcbdfgfeoeaaGreatTb18
import Derived.Test.YtdpdcbdfgfeoeaaGreatTb19
import Derived.Test.YtdpdcbdfgfeoeaaGreatTb20
import Derived.Test.YtdpdcbdfgfeoeaaGreatTb21
import Derived.Test.YtdpdcbdfgfeoeaaGreatTb22
import Derived.Test.YtdpdcbdfgfeoeaaGreatTb23
import Derived.Test.YtdpdcbdfgfeoeaaGreatTb24
set_option linter.unusedVariables false
set_option linter.unusedSimpArgs false
set_option linter.constructorNameAsVariable false
set_option maxRecDepth 100000
namespace Go.Dd
open Go.Proofs
noncomputable section
def pT0 : Code := cf Tryz.f28
def pT1 : Code := cR pT0
def pT2 : Code := cR pT1
def pT3 : Code := cR pT2
def pT4 : Code := cR pT3
def pT5 : Code := cR pT4
def pT6 : Code := cR pT5
def pT7 : Code := cR pT6
def aTm : Code := .seq (cL pT0) (.seq (cL pT1) (.seq (cL pT2) (.seq (cL pT3) (.seq (cL pT4) (.seq (cL pT5) (.seq (cL pT6) (cL (cL pT7))))))))
def dGh : Code := cR (cL pT7)
def eFz : Code := cR pT7
def aBi : K := fun e h => some (.t [e 1, e 7, e 8], h)
def cYm (b : Nat) : aH := aP CF (eD 899) 67 899 aTm (fun _ _ _ => none) (fun _ _ => none) aBi (aI []) (dB b HLN)
def krT : K := aQ CF Tryz.f28
def aWe (b : Nat) : DV := .t [.p (aM b) 0, .l (aM (b+128)) 0 75 75, iD 0]
end
theorem aYh (k : K) : aP CF (eD 899) 67 899 (cf Tryz.f28) x0 krT k = aP CF (eD 899) 67 899 aTm x0 krT (aP CF (eD 899) 67 899 dGh x0 krT (aP CF (eD 899) 67 899 eFz x0 krT k)) := by kernel_rfl
theorem dBa : aP CF (eD 899) 67 899 eFz x0 krT krT = fun env h => eO (eD 899) 899 (env 1) h := cMp (eD 899) 899
theorem cNl : aP CF (eD 899) 67 899 dGh x0 krT (fun env h => eO (eD 899) 899 (env 1) h) = fun env h => bGa (eD 899) 899 (env 1) (env 7) (env 8) h := cGz (eD 899) 899
theorem dVb (h : Hp) : aG CF (eD 899) 899 28 [] h = aP CF (eD 899) 67 899 (cf Tryz.f28) x0 krT krT (aI []) h := by kernel_rfl
theorem cNr : ∀ h h', Sim true h h' → SimR true (aP CF (eD 899) 67 899 aTm (fun _ _ _ => none) (fun _ _ => none) aBi (aI []) h) (aP CF (eD 899) 67 899 aTm (fun _ _ _ => none) (fun _ _ => none) aBi (aI []) h') :=
 dP (gg := true) (P := Tryz.prog) (I2 := CF.I) (I1 := CF.I) (rec2 := eD 899) (rec1 := eD 899) (fun g args => lJ 899 g args) 67 899 0 aTm (fun _ _ _ => none) (fun _ _ _ => none) (fun _ _ => none) (fun _ _ => none) aBi aBi
  (fun _ _ h h' S => SimR.none _) (fun _ h h' S => SimR.none _) (fun e h h' S => SimR.some S _) (aI [])
theorem bZc {b : Nat} (hc : dA (cYm b) (aWe b) (b+129) (hR cR0 b) = true) {h : Hp} (S : Sim true (dB b HLN) h) :
  ∃ e h', Sim true (dB (b+129) (hR cR0 b)) h' ∧ e 1 = .p (aM b) 0 ∧ e 7 = .l (aM (b+128)) 0 75 75 ∧ e 8 = iD 0 ∧
  ∀ X kr k, aP CF (eD 899) 67 899 aTm X kr k (aI []) h = k e h' := by
 obtain ⟨O, hO⟩ := zT (C := CF) (rec := eD 899) (nt := 67) 899 aTm
 obtain ⟨g, e1, e2⟩ := mX hc
 obtain ⟨g', f1, f2⟩ := cNr _ _ S _ _ e1
 have e1' : Out.go (O (aI []) h) (fun _ _ _ => none) (fun _ _ => none) aBi = some (aWe b, g') := (hO _ _ _ _ _).symm.trans f1
 cases ho : O (aI []) h with
 | none => rw [ho] at e1'; cases e1'
 | some o =>
  rw [ho] at e1'
  cases o with
  | x i e h' => cases e1'
  | r e h' => cases e1'
  | n e h' =>
   have q : (some (.t [e 1, e 7, e 8], h') : aH) = some (aWe b, g') := e1'
   simp only [aWe, bD, bM, DV.t.injEq, List.cons.injEq, and_true] at q
   obtain ⟨⟨q1, q2, q3⟩, q4⟩ := q
   exact ⟨e, h', by rw [q4]; exact e2.trans f2, q1, q2, q3, fun X kr k => by rw [hO, ho]; rfl⟩
theorem dGl {b : Nat} {v : DV} {nx : Nat} {L : List (Pos × Ob)} (hc : dA (cYm b) (aWe b) (b+129) (hR cR0 b) = true)
  (hl : ∀ h, Sim true (dB (b+129) (hR cR0 b)) h → ∃ h', Sim true (dB nx L) h' ∧ pS (b28 (.p (aM b) 0) (.l (aM (b+128)) 0 75 75)) 899 sL (iD 0) h = some (v, h'))
  {h : Hp} (S : Sim true (dB b HLN) h) : ∃ h', Sim true (dB nx L) h' ∧ eD 900 28 [] h = some (v, h') := by
 obtain ⟨e, h0, S0, p1, p2, p3, hpre⟩ := bZc hc S
 obtain ⟨h', S', e'⟩ := hl h0 S0
 refine ⟨h', S', ?_⟩
 have e0 : eD 900 28 [] h = aG CF (eD 899) 899 28 [] h := yM 28 rfl 899 _ _
 rw [e0, dVb, aYh, dBa, cNl, hpre]
 show kH (eD 899) 899 899 (e 1) (e 7) (e 8) h0 = _
 rw [p1, p2, p3, l28]
 exact e'
theorem pA : dA (cYm 26855) (aWe 26855) (26855+129) (hR cR0 26855) = true := by kernel_rfl
theorem pB' : dA (cYm 50555) (aWe 50555) (50555+129) (hR cR0 50555) = true := by kernel_rfl
end Go.Dd

namespace Go.Dd
open Go.Proofs
theorem eEq : dA (pS (b28 (.p (aM 26855) 0) (.l (aM (26855+128)) 0 75 75)) 824 sL (iD 75) (dB (26855+22255) (hR iG 26855))) (.p (aM 26855) 0) (26855+22255) (hR iG 26855) = true := by kernel_rfl
theorem eLw {h : Hp} (S : Sim true (dB 26855 HLN) h) : ∃ h', Sim true (dB (26855+22255) (hR iG 26855)) h' ∧ eD 900 28 [] h = some (.p (aM 26855) 0, h') := by
 have R := eDw (.p (aM 26855) 0) (.l (aM (26855+128)) 0 75 75) (fun c e => by cases e)
 refine dGl pA (fun h0 S0 => ?_) S
 obtain ⟨h1, S1, c1⟩ := R.chunk 5 eJy 894 S0
 obtain ⟨h2, S2, c2⟩ := R.chunk 5 eMa 889 S1
 obtain ⟨h3, S3, c3⟩ := R.chunk 5 eBs 884 S2
 obtain ⟨h4, S4, c4⟩ := R.chunk 5 eAv 879 S3
 obtain ⟨h5, S5, c5⟩ := R.chunk 5 eBt 874 S4
 obtain ⟨h6, S6, c6⟩ := R.chunk 5 eCm 869 S5
 obtain ⟨h7, S7, c7⟩ := R.chunk 5 eFv 864 S6
 obtain ⟨h8, S8, c8⟩ := R.chunk 5 eBd 859 S7
 obtain ⟨h9, S9, c9⟩ := R.chunk 5 eAm 854 S8
 obtain ⟨h10, S10, c10⟩ := R.chunk 5 eEs 849 S9
 obtain ⟨h11, S11, c11⟩ := R.chunk 5 eBx 844 S10
 obtain ⟨h12, S12, c12⟩ := R.chunk 5 dYq 839 S11
 obtain ⟨h13, S13, c13⟩ := R.chunk 5 dVu 834 S12
 obtain ⟨h14, S14, c14⟩ := R.chunk 5 eBz 829 S13
 obtain ⟨h15, S15, c15⟩ := R.chunk 5 eCz 824 S14
 obtain ⟨h16, S16, c16⟩ := R.last 824 eEq S15
 exact ⟨h16, S16, c1.trans (c2.trans (c3.trans (c4.trans (c5.trans (c6.trans (c7.trans (c8.trans (c9.trans (c10.trans (c11.trans (c12.trans (c13.trans (c14.trans (c15.trans c16))))))))))))))⟩
theorem dXd : dA (pS (b28 (.p (aM 50555) 0) (.l (aM (50555+128)) 0 75 75)) 824 sL (iD 75) (dB (50555+22255) (hR iG 50555))) (.p (aM 50555) 0) (50555+22255) (hR iG 50555) = true := by kernel_rfl
theorem eJx {h : Hp} (S : Sim true (dB 50555 HLN) h) : ∃ h', Sim true (dB (50555+22255) (hR iG 50555)) h' ∧ eD 900 28 [] h = some (.p (aM 50555) 0, h') := by
 have R := eDw (.p (aM 50555) 0) (.l (aM (50555+128)) 0 75 75) (fun c e => by cases e)
 refine dGl pB' (fun h0 S0 => ?_) S
 obtain ⟨h1, S1, c1⟩ := R.chunk 5 eHm 894 S0
 obtain ⟨h2, S2, c2⟩ := R.chunk 5 eIo 889 S1
 obtain ⟨h3, S3, c3⟩ := R.chunk 5 dWu 884 S2
 obtain ⟨h4, S4, c4⟩ := R.chunk 5 dWp 879 S3
 obtain ⟨h5, S5, c5⟩ := R.chunk 5 dZu 874 S4
 obtain ⟨h6, S6, c6⟩ := R.chunk 5 eAy 869 S5
 obtain ⟨h7, S7, c7⟩ := R.chunk 5 eCs 864 S6
 obtain ⟨h8, S8, c8⟩ := R.chunk 5 eCg 859 S7
 obtain ⟨h9, S9, c9⟩ := R.chunk 5 eEi 854 S8
 obtain ⟨h10, S10, c10⟩ := R.chunk 5 dZt 849 S9
 obtain ⟨h11, S11, c11⟩ := R.chunk 5 dWv 844 S10
 obtain ⟨h12, S12, c12⟩ := R.chunk 5 eDc 839 S11
 obtain ⟨h13, S13, c13⟩ := R.chunk 5 eGn 834 S12
 obtain ⟨h14, S14, c14⟩ := R.chunk 5 dWx 829 S13
 obtain ⟨h15, S15, c15⟩ := R.chunk 5 eDi 824 S14
 obtain ⟨h16, S16, c16⟩ := R.last 824 dXd S15
 exact ⟨h16, S16, c1.trans (c2.trans (c3.trans (c4.trans (c5.trans (c6.trans (c7.trans (c8.trans (c9.trans (c10.trans (c11.trans (c12.trans (c13.trans (c14.trans (c15.trans c16))))))))))))))⟩
end Go.Dd

namespace Go.Dd
open Go.Proofs
theorem aVj {h : Hp} (S : Sim true (dB (50555+22255) (hR iG 50555)) h) : ∃ h', eD 900 40 [.p (aM 7) 0, .p (aM 50555) 0, .i .i64 (.ofNat 0)] h = some (.b true, h') := by
 have R := eJh (.p (aM 7) 0) (.p (aM 50555) 0)
 have S0 := S
 obtain ⟨h1, S1, c1⟩ := R.chunk 1 tm0 898 S0
 obtain ⟨h2, S2, c2⟩ := R.chunk 1 tm1 897 S1
 obtain ⟨h3, S3, c3⟩ := R.chunk 1 tm2 896 S2
 obtain ⟨h4, S4, c4⟩ := R.chunk 1 tm3 895 S3
 obtain ⟨h5, S5, c5⟩ := R.chunk 1 tm4 894 S4
 obtain ⟨h6, S6, c6⟩ := R.chunk 1 tm5 893 S5
 obtain ⟨h7, S7, c7⟩ := R.chunk 1 tm6 892 S6
 obtain ⟨h8, S8, c8⟩ := R.chunk 1 tm7 891 S7
 obtain ⟨h9, S9, c9⟩ := R.chunk 1 tm8 890 S8
 obtain ⟨h10, S10, c10⟩ := R.chunk 1 tm9 889 S9
 obtain ⟨h11, S11, c11⟩ := R.chunk 1 eHb 888 S10
 obtain ⟨h12, S12, c12⟩ := R.chunk 1 eMd 887 S11
 obtain ⟨h13, S13, c13⟩ := R.chunk 1 eId 886 S12
 obtain ⟨h14, S14, c14⟩ := R.chunk 1 eJi 885 S13
 obtain ⟨h15, S15, c15⟩ := R.chunk 1 eHt 884 S14
 obtain ⟨h16, S16, c16⟩ := R.chunk 1 eGu 883 S15
 obtain ⟨h17, _, c17⟩ := R.last 883 eGq S16
 refine ⟨h17, ?_⟩
 have e0 : eD 900 40 [.p (aM 7) 0, .p (aM 50555) 0, .i .i64 (.ofNat 0)] h = aG CF (eD 899) 899 40 [.p (aM 7) 0, .p (aM 50555) 0, .i .i64 (.ofNat 0)] h := yM 40 rfl 899 _ _
 rw [e0, dFe]
 show nE (eD 899) 899 899 (.p (aM 7) 0) (.p (aM 50555) 0) (iD 0) h = _
 rw [l40]
 exact c1.trans (c2.trans (c3.trans (c4.trans (c5.trans (c6.trans (c7.trans (c8.trans (c9.trans (c10.trans (c11.trans (c12.trans (c13.trans (c14.trans (c15.trans (c16.trans c17)))))))))))))))
end Go.Dd

namespace Go.Dd
open Go.Proofs
noncomputable def aSw (rec : FuncId → List DV → Hp → aH) (n : Nat) (x0 x3 x4 : DV) (h0 : Hp) : aH :=
 bnd (bJ x4 h0) fun v1 h1 =>
 bnd (aD .rem x0 v1 h1) fun v2 h2 =>
 bnd (aC 1 x3 v2 h2) fun v3 h3 =>
 bnd (aA v3 h3) fun v4 h4 =>
 bnd (aC 1 x4 v2 h4) fun v5 h5 =>
 bnd (aA v5 h5) fun v6 h6 =>
 bnd (rec 39 [v4, v6] h6) fun v7 h7 =>
 bnd (rec 10 [(.i .i64 (Int.ofNat 20000))] h7) fun v8 h8 =>
 bnd (aE 0 v8 h8) fun v9 h9 =>
 bnd (aE 1 v8 h9) fun v10 h10 =>
 bnd (pEq (.pointer 83) true v9 .p0 h10) fun v11 h11 =>
 bnd (gD v11 false (some (v10, h11)) h11) fun v12 h12 =>
 bnd (gD v11 false (aD .neq v12 (.i .i64 (Int.ofNat 0)) h12) h12) fun v13 h13 =>
 bnd (aN v11 (.b true) v13 h13) fun v14 h14 =>
 aU v14 (
  some ((.b false), h14)) (
  bnd (rec 28 [] h14) fun v15 h15 =>
  bnd (rec 36 [v9, v15] h15) fun v16 h16 =>
  bnd (rec 28 [] h16) fun v17 h17 =>
  bnd (rec 40 [v9, v17, (.i .i64 (Int.ofNat 0))] h17) fun v18 h18 =>
  bnd (gD v7 true (some (v16, h18)) h18) fun v19 h19 =>
  bnd (aN v7 v19 (.b false) h19) fun v20 h20 =>
  bnd (gD v20 true (some (v18, h20)) h20) fun v21 h21 =>
  bnd (aN v20 v21 (.b false) h21) fun v22 h22 =>
  bnd (gD v22 true (rec 16 [] h22) h22) fun v23 h23 =>
  bnd (aN v22 v23 (.b false) h23) fun v24 h24 =>
  some (v24, h24))
noncomputable def cPg (rec : FuncId → List DV → Hp → aH) (n : Nat) (x0 x3 x4 : DV) (h0 : Hp) : aH :=
 bnd (aD .lss x0 (.i .i64 (Int.ofNat 0)) h0) fun v49 h49 =>
 aU v49 (
  bnd (aD .add x0 (.i .i64 (Int.ofNat 1)) h49) fun v50 h50 =>
  bnd (gP .neg v50 h50) fun v51 h51 =>
  aSw rec n v51 x3 x4 h51) (
  aSw rec n x0 x3 x4 h49)
noncomputable def cEk (rec : FuncId → List DV → Hp → aH) (n : Nat) (x0 x3 x4 : DV) (h0 : Hp) : aH :=
 bnd (bJ x3 h0) fun v55 h55 =>
 bnd (bJ x4 h55) fun v56 h56 =>
 bnd (aD .neq v55 v56 h56) fun v57 h57 =>
 aU v57 (
  some ((.b false), h57)) (
  cPg rec n x0 x3 x4 h57)
noncomputable def dVc (rec : FuncId → List DV → Hp → aH) (n : Nat) (x0 x3 : DV) (h0 : Hp) : aH :=
 bnd (rec 38 [] h0) fun v61 h61 =>
 cEk rec n x0 x3 v61 h61
noncomputable def dLj (rec : FuncId → List DV → Hp → aH) (n : Nat) (x0 : DV) (h0 : Hp) : aH :=
 bnd (rec 37 [] h0) fun v63 h63 =>
 dVc rec n x0 v63 h63
noncomputable def s8 (rec : FuncId → List DV → Hp → aH) (n : Nat) (x0 : DV) (h0 : Hp) : aH :=
 dLj rec n x0 h0
noncomputable def D8 (rec : FuncId → List DV → Hp → aH) (n : Nat) (c : Code) (X : Nat → K) (k : K) : K := aP CF rec 62 n c X (aQ CF Tryz.f8) k
theorem dZc (rec : FuncId → List DV → Hp → aH) (n : Nat) : D8 rec n (cR (cR (cR (cR (cR (cf Tryz.f8)))))) x0 (aQ CF Tryz.f8) = (fun (env : aZ) (h : Hp) => aSw rec n (env 0) (env 3) (env 4) h) :=
 (by kernel_rfl)
theorem dUj (rec : FuncId → List DV → Hp → aH) (n : Nat) : D8 rec n (cR (cR (cR (cR (cf Tryz.f8))))) x0 (aQ CF Tryz.f8) = D8 rec n (cL (cR (cR (cR (cR (cf Tryz.f8)))))) x0 (fun (env : aZ) (h : Hp) => aSw rec n (env 0) (env 3) (env 4) h) :=
 congrArg (fun k => D8 rec n (cL (cR (cR (cR (cR (cf Tryz.f8)))))) x0 k) (dZc rec n)
theorem eCq (rec : FuncId → List DV → Hp → aH) (n : Nat) : D8 rec n (cR (cR (cR (cR (cf Tryz.f8))))) x0 (aQ CF Tryz.f8) = (fun (env : aZ) (h : Hp) => cPg rec n (env 0) (env 3) (env 4) h) :=
 (dUj rec n).trans
 ((by kernel_rfl))
theorem dNk (rec : FuncId → List DV → Hp → aH) (n : Nat) : D8 rec n (cR (cR (cR (cf Tryz.f8)))) x0 (aQ CF Tryz.f8) = D8 rec n (cL (cR (cR (cR (cf Tryz.f8))))) x0 (fun (env : aZ) (h : Hp) => cPg rec n (env 0) (env 3) (env 4) h) :=
 congrArg (fun k => D8 rec n (cL (cR (cR (cR (cf Tryz.f8))))) x0 k) (eCq rec n)
theorem eCk (rec : FuncId → List DV → Hp → aH) (n : Nat) : D8 rec n (cR (cR (cR (cf Tryz.f8)))) x0 (aQ CF Tryz.f8) = (fun (env : aZ) (h : Hp) => cEk rec n (env 0) (env 3) (env 4) h) :=
 (dNk rec n).trans
 ((by kernel_rfl))
theorem dSf (rec : FuncId → List DV → Hp → aH) (n : Nat) : D8 rec n (cR (cR (cf Tryz.f8))) x0 (aQ CF Tryz.f8) = D8 rec n (cL (cR (cR (cf Tryz.f8)))) x0 (fun (env : aZ) (h : Hp) => cEk rec n (env 0) (env 3) (env 4) h) :=
 congrArg (fun k => D8 rec n (cL (cR (cR (cf Tryz.f8)))) x0 k) (eCk rec n)
theorem eDd (rec : FuncId → List DV → Hp → aH) (n : Nat) : D8 rec n (cR (cR (cf Tryz.f8))) x0 (aQ CF Tryz.f8) = (fun (env : aZ) (h : Hp) => dVc rec n (env 0) (env 3) h) :=
 (dSf rec n).trans
 ((by kernel_rfl))
theorem dKc (rec : FuncId → List DV → Hp → aH) (n : Nat) : D8 rec n (cR (cf Tryz.f8)) x0 (aQ CF Tryz.f8) = D8 rec n (cL (cR (cf Tryz.f8))) x0 (fun (env : aZ) (h : Hp) => dVc rec n (env 0) (env 3) h) :=
 congrArg (fun k => D8 rec n (cL (cR (cf Tryz.f8))) x0 k) (eDd rec n)
theorem dXs (rec : FuncId → List DV → Hp → aH) (n : Nat) : D8 rec n (cR (cf Tryz.f8)) x0 (aQ CF Tryz.f8) = (fun (env : aZ) (h : Hp) => dLj rec n (env 0) h) :=
 (dKc rec n).trans
 ((by kernel_rfl))
theorem eMi (rec : FuncId → List DV → Hp → aH) (n : Nat) : D8 rec n (cf Tryz.f8) x0 (aQ CF Tryz.f8) = D8 rec n (cL (cf Tryz.f8)) x0 (fun (env : aZ) (h : Hp) => dLj rec n (env 0) h) :=
 congrArg (fun k => D8 rec n (cL (cf Tryz.f8)) x0 k) (dXs rec n)
theorem s8m (rec : FuncId → List DV → Hp → aH) (n : Nat) : D8 rec n (cf Tryz.f8) x0 (aQ CF Tryz.f8) = (fun (env : aZ) (h : Hp) => s8 rec n (env 0) h) :=
 (eMi rec n).trans
 ((by kernel_rfl))
theorem eJr (rec : FuncId → List DV → Hp → aH) (n : Nat) (args : List DV) (h : Hp) : aG CF rec n 8 args h = s8 rec n (args.getD 0 aY) h :=
 (by kernel_rfl : aG CF rec n 8 args h = D8 rec n (cf Tryz.f8) x0 (aQ CF Tryz.f8) (aI args) h).trans ((congrFun (congrFun (s8m rec n) (aI args)) h).trans (by kernel_rfl))
end Go.Dd

namespace Go.Dd
open Go.Proofs
noncomputable section
def eKj : Pos := cSe 24 872
def cQm : Hp := ⟨eKj, .e⟩
def bRi : DV := .l (cSe 24 947) 0 75 75
def cDr : DV := .l (cSe 24 1023) 0 75 75
def bPk (r : aH) : Hp := match r with | some (_, h) => h | none => cQm
def hTb : Hp := bPk (eD 900 38 [] (bPk (eD 900 37 [] cQm)))
def bIl (x3 x4 v2 : DV) (h2 : Hp) : aH :=
 bnd (aC 1 x3 v2 h2) fun v3 h3 =>
 bnd (aA v3 h3) fun v4 h4 =>
 bnd (aC 1 x4 v2 h4) fun v5 h5 =>
 bnd (aA v5 h5) fun v6 h6 =>
 lV 39 [v4, v6] h6
def cCp (v7 : DV) (h7 : Hp) : aH :=
 bnd (lV 10 [(.i .i64 (Int.ofNat 20000))] h7) fun v8 h8 =>
 bnd (aE 0 v8 h8) fun v9 h9 =>
 bnd (aE 1 v8 h9) fun v10 h10 =>
 bnd (pEq (.pointer 83) true v9 .p0 h10) fun v11 h11 =>
 bnd (gD v11 false (some (v10, h11)) h11) fun v12 h12 =>
 bnd (gD v11 false (aD .neq v12 (.i .i64 (Int.ofNat 0)) h12) h12) fun v13 h13 =>
 bnd (aN v11 (.b true) v13 h13) fun v14 h14 =>
 aU v14 (
  some ((.b false), h14)) (
  bnd (lV 28 [] h14) fun v15 h15 =>
  bnd (lV 36 [v9, v15] h15) fun v16 h16 =>
  bnd (lV 28 [] h16) fun v17 h17 =>
  bnd (lV 40 [v9, v17, (.i .i64 (Int.ofNat 0))] h17) fun v18 h18 =>
  bnd (gD v7 true (some (v16, h18)) h18) fun v19 h19 =>
  bnd (aN v7 v19 (.b false) h19) fun v20 h20 =>
  bnd (gD v20 true (some (v18, h20)) h20) fun v21 h21 =>
  bnd (aN v20 v21 (.b false) h21) fun v22 h22 =>
  bnd (gD v22 true (lV 16 [] h22) h22) fun v23 h23 =>
  bnd (aN v22 v23 (.b false) h23) fun v24 h24 =>
  some (v24, h24))
def eDa (k : Nat) : Bool := dA (bIl bRi cDr (.i .i64 (.ofNat k)) hTb) (.b true) 1 []
def upN (n : Nat) : List Nat := Nat.rec (motive := fun _ => List Nat) [] (fun k ih => k :: ih) n
end
theorem px0 (a b : DV) (h : Hp) : aE 0 (.t [a, b]) h = some (a, h) := Eq.trans rfl rfl
theorem px1 (a b : DV) (h : Hp) : aE 1 (.t [a, b]) h = some (b, h) := Eq.trans rfl rfl
theorem cZc (r : aH) (f g : DV → Hp → aH) : bnd (bnd r f) g = bnd r fun v h => bnd (f v h) g := by
 cases r with
 | none => rfl
 | some p => obtain ⟨v, h⟩ := p; rfl
theorem eJj (x0 x3 x4 : DV) (h0 : Hp) : aSw lV 900 x0 x3 x4 h0 = bnd (bJ x4 h0) fun v1 h1 => bnd (aD .rem x0 v1 h1) fun v2 h2 => bnd (bIl x3 x4 v2 h2) cCp := by
 unfold aSw bIl
 simp only [cZc]
 rfl
theorem dPi (x : DV) : s8 lV 900 x cQm = cEk lV 900 x bRi cDr hTb := by kernel_rfl
theorem dLi : dLw eDa (upN 75) = true := by kernel_rfl
theorem bGc : ∀ n k, k < n → k ∈ upN n
 | n + 1, k, h => by
  show k ∈ n :: upN n
  by_cases e : k = n
  ·rw [e]; exact List.mem_cons_self
  ·exact List.mem_cons_of_mem _ (bGc n k (by omega))
theorem aSa {g : FuncId} (h1 : Nat.beq g 16 = false) (h2 : Nat.beq g 10 = false) (args : List DV) (h : Hp) : lV g args h = eD 900 g args h := by
 unfold lV
 rw [h1, cond_false, bEo, h2, cond_false]
theorem cYh (h : Hp) : lV 16 [] h = some (.b true, h) := rfl
theorem eHu {h : Hp} (hn : h.next = aM 1) : ∃ g, lV 10 [.i .i64 (Int.ofNat 20000)] h = some (.t [.p (aM 7) 0, .i .i64 (.ofNat 0)], g) ∧ Sim true (dB 26855 HLN) g := by
 refine ⟨⟨aM 26855, gB HLN h.bl⟩, ?_, rfl, fun b o hb => ⟨o, ?_, iV o⟩⟩
 ·show cDe [.i .i64 (Int.ofNat 20000)] h = _
  unfold cDe aFe
  have e1 : aOr [.i .i64 (Int.ofNat 20000)] = true := by kernel_rfl
  have e2 : kY (aM 1) (aM 1) = true := by kernel_rfl
  rw [hn, e1, e2]
  rfl
 ·change (gB HLN .e).get b = some o at hb
  show (gB HLN h.bl).get b = some o
  rw [xX, hb]
theorem cTb {h7 : Hp} (hn : h7.next = aM 1) : ∃ k, cCp (.b true) h7 = some (.b true, k) := by
 obtain ⟨g, e1, S1⟩ := eHu hn
 obtain ⟨g2, S2, e2⟩ := eLw S1
 obtain ⟨g3, S3, e3⟩ := cAu (n := 900) (g := 36) rfl eFh S2
 obtain ⟨g4, S4, e4⟩ := eJx S3
 obtain ⟨g5, e5⟩ := aVj S4
 refine ⟨g5, ?_⟩
 have eq : ∀ h, pEq (.pointer 83) true (.p (aM 7) 0) .p0 h = some (.b false, h) := fun h => rfl
 unfold cCp
 simp only [e1, bO, px0, px1, eq, nW, jH, sD, show ((Int.ofNat 0 : Int) != Int.ofNat 0) = false from rfl, eP, fP, aSa (g := 28) rfl rfl, aSa (g := 36) rfl rfl, aSa (g := 40) rfl rfl, e2, e3, e4, e5, bZe, eM, cYh]
theorem cRb {k : Nat} (hk : k < 75) : ∃ g, bIl bRi cDr (.i .i64 (.ofNat k)) hTb = some (.b true, g) ∧ g.next = aM 1 := by
 have h := aPi dLi k (bGc 75 k hk)
 obtain ⟨g, e1, e2⟩ := mX h
 exact ⟨g, e1, e2.next⟩
theorem bRf {N : Int} (hN : -9223372036854775808 ≤ N ∧ N ≤ 9223372036854775807) : ∃ k, aG CF lV 900 8 [.i .i64 N] cQm = some (.b true, k) := by
 rw [eJr, g0, dPi]
 have lA : ∀ h, bJ bRi h = some (.i .i64 (.ofNat 75), h) := fun h => rfl
 have lB : ∀ h, bJ cDr h = some (.i .i64 (.ofNat 75), h) := fun h => rfl
 have key : ∀ N : Int, 0 ≤ N → ∃ k, aSw lV 900 (.i .i64 N) bRi cDr hTb = some (.b true, k) := by
  intro N hN
  obtain ⟨g, e1, e2⟩ := cRb (k := N.toNat % 75) (Nat.mod_lt _ (by decide))
  obtain ⟨k, e3⟩ := cTb e2
  refine ⟨k, ?_⟩
  have rm : ∀ k, aD .rem (.i .i64 N) (.i .i64 (Int.ofNat 75)) k = some (.i .i64 (Int.ofNat (N.toNat % 75)), k) := fun k => by
   have : aD .rem (.i .i64 N) (.i .i64 (Int.ofNat 75)) k = some (.i .i64 (N.tmod (Int.ofNat 75)), k) := by
    simp only [aD, if_true, gK, if_neg (show (Int.ofNat 75 : Int) ≠ 0 by decide)]
   rw [this]
   obtain ⟨a, rfl⟩ := Int.eq_ofNat_of_zero_le hN
   rfl
  rw [eJj, lB, bO, rm, bO, e1, bO]
  exact e3
 unfold cEk cPg
 simp only [lA, lB, bO, sD, show ((Int.ofNat 75 : Int) != Int.ofNat 75) = false from rfl, fP, jM]
 by_cases c : N < 0
 ·have d : decide (N < Int.ofNat 0) = true := decide_eq_true c
  have ng : ∀ k, gP .neg (.i .i64 (N + Int.ofNat 1)) k = some (.i .i64 (-(N + 1)), k) := fun k => by
   show some (DV.i .i64 (IntKind.i64.wrap (0 - (N + Int.ofNat 1))), k) = _
   rw [kI _ (show -9223372036854775808 ≤ 0 - (N + Int.ofNat 1) ∧ 0 - (N + Int.ofNat 1) ≤ 9223372036854775807 by rw [show (Int.ofNat 1 : Int) = 1 from rfl]; omega)]
   rw [show (0 - (N + Int.ofNat 1) : Int) = -(N + 1) by simp]
  simp only [d, fM, sC N _ _ (show -9223372036854775808 ≤ N + Int.ofNat 1 ∧ N + Int.ofNat 1 ≤ 9223372036854775807 by rw [show (Int.ofNat 1 : Int) = 1 from rfl]; omega), bO, ng]
  exact key _ (by omega)
 ·have d : decide (N < Int.ofNat 0) = false := decide_eq_false c
  simp only [d, fP]
  exact key _ (by omega)
end Go.Dd

