/- A part of the proof: HG HI LT0 LT1 LT2 LT3 RH R12 NJ W6 WL XLR RM: each text has a comment of its own. -/
import Derived.Test.YtdpdcbdfgfeoeaaGreatRm5
import Derived.Test.YtdpdcbdfgfeoeaaGreatRm6
import Derived.Test.YtdpdcbdfgfeoeaaGreatRm7
import Derived.Test.YtdpdcbdfgfeoeaaGreatRm8
import Derived.Test.YtdpdcbdfgfeoeaaGreatRm9
import Derived.Lib.Bytealg
set_option linter.unusedVariables false
set_option linter.unusedSimpArgs false
set_option linter.constructorNameAsVariable false
set_option maxRecDepth 100000
namespace Go.Dd
open Go.Proofs
abbrev K4T := DV → DV → DV → DV → Hp → aH
noncomputable abbrev R9 : RT := qO 899
noncomputable def XL : Nat → K := xs x0 7 (fun env h => eN R9 899 (env 5) h)
noncomputable def krN : K := aQ CF Tryz.f10
noncomputable def bHb : Code := cL (cL (cR (cL (cR (cR (cR (cR (cR (cR (cf Tryz.f10))))))))))
noncomputable def kb (kk : K4T) : K := fun env h => kk (env 5) (env 155) (env 156) (env 157) h
noncomputable def aAg (a b c d : DV) : aO := fun t => bif Nat.beq t 5 then a else bif Nat.beq t 155 then b else bif Nat.beq t 156 then c else bif Nat.beq t 157 then d else .u
theorem bCy (kk : K4T) (a b c d : DV) (h : Hp) : hZ R9 899 kk a b c d h = aM CF R9 179 899 bHb XL krN (kb kk) (aAg a b c d) h :=
 (congrFun (congrFun (aNf R9 899 kk) (aAg a b c d)) h).symm
theorem aXc (e : aO) (h : Hp) : krN e h = some (.t [e 2, e 3], h) := by kernel_rfl
def eAg (r : aH) : Prop := ∃ a b c d h, r = some (.t [a, b, c, d], h)
theorem bSi (a b c d : DV) (h : Hp) : (∃ a' b' c' d' h', ∀ kk : K4T, hZ R9 899 kk a b c d h = kk a' b' c' d' h') ∨ (∃ r, ¬ eAg r ∧ ∀ kk : K4T, hZ R9 899 kk a b c d h = r) := by
 obtain ⟨O, hO⟩ := aQg (C := CF) (rec := R9) (nt := 179) 899 bHb
 have key : ∀ kk : K4T, hZ R9 899 kk a b c d h = eEv (O (aAg a b c d) h) XL krN (kb kk) := fun kk => (bCy kk a b c d h).trans (hO _ _ _ _ _)
 cases ho : O (aAg a b c d) h with
 | none => exact .inr ⟨none, (by rintro ⟨_, _, _, _, _, e⟩; cases e), fun kk => by rw [key kk, ho]; rfl⟩
 | some o =>
  cases o with
  | n e h' => exact .inl ⟨e 5, e 155, e 156, e 157, h', fun kk => by rw [key kk, ho]; rfl⟩
  | r e h' => exact .inr ⟨some (.t [e 2, e 3], h'), (by rintro ⟨_, _, _, _, _, q⟩; cases q), fun kk => by rw [key kk, ho]; exact aXc e h'⟩
  | x i e h' =>
   refine .inr ⟨XL i e h', ?_, fun kk => by rw [key kk, ho]; rfl⟩
   rintro ⟨_, _, _, _, _, q⟩
   unfold XL xs at q
   cases hi : Nat.beq i 7 with
   | true => rw [hi] at q; cases q
   | false => rw [hi] at q; cases q
theorem aQk (n : Nat) (kk : K4T) : itN (n + 1) kk = hZ R9 899 (itN n kk) := rfl
theorem bZl : ∀ (n : Nat) (a b c d : DV) (h : Hp) (a' b' c' d' : DV) (h' : Hp), itN n nO a b c d h = some (.t [a', b', c', d'], h') → ∀ kk : K4T, itN n kk a b c d h = kk a' b' c' d' h'
 | 0, a, b, c, d, h, a', b', c', d', h', e, kk => by
  have e' : (some (.t [a, b, c, d], h) : aH) = some (.t [a', b', c', d'], h') := e
  simp only [bE, bM, DV.t.injEq, List.cons.injEq, and_true] at e'
  obtain ⟨⟨rfl, rfl, rfl, rfl⟩, rfl⟩ := e'
  rfl
 | n + 1, a, b, c, d, h, a', b', c', d', h', e, kk => by
  rw [aQk] at e ⊢
  rcases bSi a b c d h with ⟨a1, b1, c1, d1, h1, hs⟩ | ⟨r, hr, hs⟩
  ·rw [hs] at e ⊢
   exact bZl n a1 b1 c1 d1 h1 a' b' c' d' h' e kk
  ·rw [hs] at e
   exact absurd ⟨_, _, _, _, _, e⟩ hr
theorem zL (m : Nat) : ∀ n, kA R9 899 (m + n) = itN n (kA R9 899 m)
 | 0 => rfl
 | n + 1 => by
  rw [aQk, ← zL m n]
  rfl
theorem dIm : aM CF R9 179 899 dYd x0 krN krN = fun env h => eN R9 899 (env 5) h := bSn R9 899
theorem dCv : aM CF R9 179 899 cJn x0 krN (fun env h => eN R9 899 (env 5) h) = fun env h => bAq R9 899 (env 5) (env 155) (env 156) (env 157) h :=
 (by kernel_rfl : aM CF R9 179 899 cJn x0 krN (fun env h => eN R9 899 (env 5) h) = D10 R9 899 (cL (cR (cL (cR (cR (cR (cR (cR (cR (cf Tryz.f10)))))))))) (xs x0 7 (fun (env : aO) (h : Hp) => eN R9 899 (env 5) h)) (fun (env : aO) (h : Hp) => eN R9 899 (env 5) h)).trans (cJm R9 899)
theorem Sim.trans1 {g : Nat} {a b c : Hp} (h : Sim 1 a b) (k : Sim g b c) : Sim g a c := ⟨k.next.trans h.next, fun p o hp => by
 obtain ⟨o', h1, h2⟩ := h.get p o hp
 rw [iW h2] at h1
 exact k.get p o h1⟩
noncomputable abbrev RV : RT := shV 899
noncomputable def XLV : Nat → K := xs x0 7 (fun env h => eN RV 899 (env 5) h)
theorem cAd (kk : K4T) (a b c d : DV) (h : Hp) : hZ RV 899 kk a b c d h = aM CF RV 179 899 bHb XLV krN (kb kk) (aAg a b c d) h :=
 (congrFun (congrFun (aNf RV 899 kk) (aAg a b c d)) h).symm
section
variable {S : Nat} (hS : 16384 ≤ S + 2) (hS2 : S + 2 < 1000000)
include hS hS2
theorem dDy (g : FuncId) (args : List DV) : SimP (S + 2) (bU CF RV g args) (bU CF R9 g args) := by
 unfold bU
 cases hg : CF.I g with
 | none => exact dWw hS hS2 899 (by omega) g args
 | some F => exact dDm (.inr ⟨S, rfl, hS, hS2⟩) g F hg args
theorem bHn : ∀ (n : Nat) (a b c d : DV), SimP (S + 2) (itV n nO a b c d) (itN n nO a b c d)
 | 0, a, b, c, d => fun h h' Sm => SimR.some Sm _
 | n + 1, a, b, c, d => by
  have ih := bHn n
  show SimP (S + 2) (hZ RV 899 (itV n nO) a b c d) (hZ R9 899 (itN n nO) a b c d)
  have hX : ∀ j, SimK (S + 2) (XLV j) (XL j) := by
   intro j env h h' Sm
   unfold XLV XL xs
   cases Nat.beq j 7 with
   | true => exact SimR.some Sm _
   | false => exact SimR.none _
  have hR : SimK (S + 2) krN krN := fun env h h' Sm => by rw [aXc, aXc]; exact SimR.some Sm _
  have hK : SimK (S + 2) (kb (itV n nO)) (kb (itN n nO)) := fun env => ih _ _ _ _
  have hc := fR (gg := S + 2) (P := Tryz.prog) (I2 := CF.I) (I1 := CF.I) (rec2 := RV) (rec1 := R9) (fun g args => dDy hS hS2 g args) 179 899 0 bHb XLV XL krN krN (kb (itV n nO)) (kb (itN n nO)) hX hR hK (aAg a b c d)
  intro h h' Sm
  rw [cAd, bCy]
  exact hc h h' Sm
theorem gO {k n nx nx' : Nat} {L L' : List (Pos × Ob)} (hc : lK (nK k n (eH nx L)) (kL (k + n)) nx' L' = true) (m : Nat) {h : Hp} (Sm : Sim (S + 2) (eH nx L) h) :
  ∃ h', Sim (S + 2) (eH nx' L') h' ∧ kA R9 899 (m + n) (.p (bH 7) 0) (.l (bH 431) 0 75 75) (.i .i64 (.ofNat 75)) (.i .i64 (.ofNat k)) h =
   kA R9 899 m (.p (bH 7) 0) (.l (bH 431) 0 75 75) (.i .i64 (.ofNat 75)) (.i .i64 (.ofNat (k + n))) h' := by
 obtain ⟨g, e1, e2⟩ := bCu hc
 obtain ⟨g', f1, f2⟩ := bHn hS hS2 n _ _ _ _ (eH nx L) h Sm _ _ e1
 refine ⟨g', e2.trans1 f2, ?_⟩
 rw [zL]
 exact bZl n _ _ _ _ _ _ _ _ _ _ f1 _
theorem cAk {h1 : Hp} (Sm : Sim (S + 2) (eH 4 HB0) h1) : ∃ e h', Sim (S + 2) (eH 432 (gA 553 84 18 [1076, 1096, 6, 24, 42, 60, 78, 96, 114, 132, 150, 168, 186, 204, 222, 240, 258, 276] [(10, 0), (19, 0), (46, 0), (55, 0), (64, 0), (91, 0), (100, 0), (109, 0), (118, 0), (127, 0), (145, 0)] 0)) h' ∧ e 5 = .p (bH 7) 0 ∧ e 155 = .l (bH 431) 0 75 75 ∧ e 156 = .i .i64 (.ofNat 75) ∧ e 157 = .i .i64 (.ofNat 0) ∧
  ∀ X kr k, aM CF R9 179 899 cAh X kr k aVj h1 = k e h' := by
 obtain ⟨O, hO⟩ := aQg (C := CF) (rec := R9) (nt := 179) 899 cAh
 obtain ⟨g, e1, e2⟩ := bCu heB
 have hc := fR (gg := S + 2) (P := Tryz.prog) (I2 := CF.I) (I1 := CF.I) (rec2 := RV) (rec1 := R9) (fun g args => dDy hS hS2 g args) 179 899 0 cAh (fun _ _ _ => none) (fun _ _ _ => none) (fun _ _ => none) (fun _ _ => none) cXn cXn (fun j env h h' _ v k e => by cases e) (fun env h h' _ v k e => by cases e) (fun env h h' T => SimR.some T _) aVj
 obtain ⟨g', f1, f2⟩ := hc _ h1 Sm _ _ e1
 have e2 := e2.trans1 f2
 have e1' : eEv (O aVj h1) (fun _ _ _ => none) (fun _ _ => none) cXn = some (.t (kL 0), g') := (hO _ _ _ _ _).symm.trans f1
 cases ho : O aVj h1 with
 | none => rw [ho] at e1'; cases e1'
 | some o =>
  rw [ho] at e1'
  cases o with
  | x i e h' => cases e1'
  | r e h' => cases e1'
  | n e h' =>
   have q : (some (.t [e 5, e 155, e 156, e 157], h') : aH) = some (.t (kL 0), g') := e1'
   simp only [kL, bE, bM, DV.t.injEq, List.cons.injEq, and_true] at q
   obtain ⟨⟨q1, q2, q3, q4⟩, q5⟩ := q
   exact ⟨e, h', by rw [q5]; exact e2, q1, q2, q3, q4, fun X kr k => by rw [hO, ho]; rfl⟩
end
theorem bYz : bH 1 = fU := by kernel_rfl
theorem cGr : bH 2 = oP := by kernel_rfl
theorem eAp : bB 2 (bH 1) = bH 3 := by kernel_rfl
theorem eCw : bB 1 (bH 1) = bH 2 := by kernel_rfl
theorem dZl : bB 3 (bH 1) = bH 4 := by kernel_rfl
noncomputable def hM0 (N : Nat) : Hp := ⟨bH 4, Tr.set (.row .ex [.l (bH 1) 0 N N, .i .i64 (.ofNat 3), .i .i64 (.ofNat 0), .m (bH 2)]) (bH 3) (Tr.set (.mi .e) (bH 2) (Tr.set (.big N .e) (bH 1) .e))⟩
theorem cZm {S : Nat} : Sim (S + 2) (eH 4 HB0) (hM0 (S + 2)) := by
 have h0 : Sim (S + 2) ⟨bH 4, .e⟩ ⟨bH 4, .e⟩ := ⟨rfl, fun b o hb => by cases b <;> cases hb⟩
 have h1 := h0.set (o := .big 1 .e) (o' := .big (S + 2) .e) rfl (bH 1) (bH 4)
 have h2 := h1.set (o := .mi .e) (o' := .mi .e) rfl (bH 2) (bH 4)
 have h3 := h2.set (o := .big 0 ((WT.e.set 0 (.ofNat 3)).set 1 (.ofNat 0))) (o' := .row .ex [.l (bH 1) 0 (S + 2) (S + 2), .i .i64 (.ofNat 3), .i .i64 (.ofNat 0), .m (bH 2)]) (by rw [bYz, cGr]; exact rfl) (bH 3) (bH 4)
 exact h3
theorem aUk (k : K) : aM CF R9 179 899 pN3 x0 krN k = aM CF R9 179 899 cAh x0 krN (aM CF R9 179 899 cJn x0 krN (aM CF R9 179 899 dYd x0 krN k)) := by kernel_rfl
theorem dXa (h : Hp) : aQe R9 899 (.p (bH 3) 0) h = aM CF R9 179 899 pN3 x0 krN krN aVj h := (congrFun (congrFun (cFg R9 899) aVj) h).symm
noncomputable def HLB : List (Pos × Ob) := gA 4321 583 80 [8370, 1096, 6, 24, 42, 60, 78, 96, 114, 132, 150, 168, 186, 204, 222, 240, 258, 276] [] 75
theorem dTb {S : Nat} (hS : 16384 ≤ S + 2) (hS2 : S + 2 ≤ 131072) : ∃ g, qO 900 10 [.i .i64 (.ofNat (S + 2))] Go.Dd.hS = some (.t [.p (bH 7) 0, .i .i64 (.ofNat 0)], g) ∧ Sim (S + 2) (eH 26855 HLB) g := by
 obtain ⟨e, h0, S0, p1, p2, p3, p4, hpre⟩ := cAk hS (by omega) (cZm (S := S))
 obtain ⟨h1, S1, c1⟩ := gO hS (by omega) hb0 894 S0
 obtain ⟨h2, S2, c2⟩ := gO hS (by omega) hb5 889 S1
 obtain ⟨h3, S3, c3⟩ := gO hS (by omega) eBm 884 S2
 obtain ⟨h4, S4, c4⟩ := gO hS (by omega) dZd 879 S3
 obtain ⟨h5, S5, c5⟩ := gO hS (by omega) eAx 874 S4
 obtain ⟨h6, S6, c6⟩ := gO hS (by omega) eBx 869 S5
 obtain ⟨h7, S7, c7⟩ := gO hS (by omega) dZx 864 S6
 obtain ⟨h8, S8, c8⟩ := gO hS (by omega) eBb 859 S7
 obtain ⟨h9, S9, c9⟩ := gO hS (by omega) dYz 854 S8
 obtain ⟨h10, S10, c10⟩ := gO hS (by omega) eCr 849 S9
 obtain ⟨h11, S11, c11⟩ := gO hS (by omega) eDf 844 S10
 obtain ⟨h12, S12, c12⟩ := gO hS (by omega) dZw 839 S11
 obtain ⟨h13, S13, c13⟩ := gO hS (by omega) eBw 834 S12
 obtain ⟨h14, S14, c14⟩ := gO hS (by omega) eCz 829 S13
 obtain ⟨h15, S15, c15⟩ := gO hS (by omega) eCk 824 S14
 refine ⟨h15, ?_, S15⟩
 have e0 : qO 900 10 [.i .i64 (.ofNat (S + 2))] Go.Dd.hS = aG CF R9 899 10 [.i .i64 (.ofNat (S + 2))] Go.Dd.hS := qH 10 rfl 899 _ _
 have nw : rX [.i .i64 (.ofNat (S + 2))] Go.Dd.hS = some (.p (bH 3) 0, hM0 (S + 2)) := by
  have b1 : Nat.blt (S + 2) 16 = false := by rw [iI, decide_eq_false_iff_not]; omega
  have b2 : Nat.blt 131072 (S + 2) = false := by rw [iI, decide_eq_false_iff_not]; omega
  unfold rX
  dsimp only
  rw [b1, b2]
  show some (DV.p (bB 2 (bH 1)) 0, (⟨bB 3 (bH 1), Tr.set (.row .ex [.l (bH 1) 0 (S + 2) (S + 2), .i .i64 (.ofNat 3), .i .i64 (.ofNat 0), .m (bB 1 (bH 1))]) (bB 2 (bH 1)) (Tr.set (.mi .e) (bB 1 (bH 1)) (Tr.set (.big (S + 2) .e) (bH 1) .e))⟩ : Hp)) = _
  rw [eCw, eAp, dZl]
  rfl
 have pe : ∀ t h, pEq (.pointer t) true (.p (bH 3) 0) .p0 h = some (.b false, h) := fun t h => rfl
 have dl : decide ((.ofNat (S + 2) : Int) < Int.ofNat 16384) = false := decide_eq_false (by show ¬ (((S + 2 : Nat) : Int) < 16384); omega)
 rw [e0, bEm]
 show s10 R9 899 (.i .i64 (.ofNat (S + 2))) Go.Dd.hS = _
 unfold s10 aCc
 rw [nw, bK]
 unfold aBo
 rw [pe, bK, fI, gE, bK, dl, fI, dXa, aUk, dIm, dCv, hpre]
 show bAq R9 899 (e 5) (e 155) (e 156) (e 157) h0 = _
 rw [p1, p2, p3, p4]
 show kA R9 899 899 _ _ _ _ h0 = _
 refine c1.trans ?_
 refine c2.trans ?_
 refine c3.trans ?_
 refine c4.trans ?_
 refine c5.trans ?_
 refine c6.trans ?_
 refine c7.trans ?_
 refine c8.trans ?_
 refine c9.trans ?_
 refine c10.trans ?_
 refine c11.trans ?_
 refine c12.trans ?_
 refine c13.trans ?_
 refine c14.trans ?_
 refine c15.trans ?_
 rw [show (824 : Nat) = 823 + 1 from rfl]
 show hZ R9 899 (kA R9 899 823) _ _ _ _ h15 = _
 unfold hZ
 have hl : decide (Int.ofNat 75 < Int.ofNat 75) = false := rfl
 simp only [gE, bK, hl, fI]
 rfl
theorem dLi : bWk (cKu bJn 75) (Nat.add 356 75) = [] := by kernel_rfl
theorem aQm {S : Nat} {g : Hp} (Sm : Sim (S + 2) (eH 26855 HLB) g) : Sim 1 (eH 26855 (mkL (S + 2) 4321 583 80 [8370, 1096, 6, 24, 42, 60, 78, 96, 114, 132, 150, 168, 186, 204, 222, 240, 258, 276] [] 75)) g := by
 have get : ∀ b o, (eH 26855 HLB).bl.get b = some o → ∃ o', g.bl.get b = some o' ∧ Rep (S + 2) o o' := Sm.get
 have a7 : (eH 26855 HLB).bl.get (bH 7) = some (.row .ex [.p (bH 3) 0, .l (bH 4) 0 18 18, .m (bH 5), .m (bH 6)]) := by kernel_rfl
 have a6 : (eH 26855 HLB).bl.get (bH 6) = some (.mp (bJp clF)) := by kernel_rfl
 have a5 : (eH 26855 HLB).bl.get (bH 5) = some (.mp (bJp (bTp syF 80))) := by kernel_rfl
 have a4 : (eH 26855 HLB).bl.get (bH 4) = some (.row .ex (dPd [8370, 1096, 6, 24, 42, 60, 78, 96, 114, 132, 150, 168, 186, 204, 222, 240, 258, 276])) := by kernel_rfl
 have a3 : (eH 26855 HLB).bl.get (bH 3) = some (.big 0 ((WT.e.set 0 (.ofNat 4321)).set 1 (.ofNat 583))) := by kernel_rfl
 have a2 : (eH 26855 HLB).bl.get (bH 2) = some (.mi (mkP (tB plF 583) .e)) := by kernel_rfl
 have a1 : (eH 26855 HLB).bl.get (bH 1) = some (.big 1 (aEd [] (mkW (tB wsF 4321) 0 .e))) := by kernel_rfl
 have a0 : (eH 26855 HLB).bl.get (bH 431) = some (.row .ex (dOk bJn 356)) := by kernel_rfl
 refine ⟨Sm.next, fun b o hb => ⟨o, ?_, gH o⟩⟩
 have hm : (b, o) ∈ mkL (S + 2) 4321 583 80 [8370, 1096, 6, 24, 42, 60, 78, 96, 114, 132, 150, 168, 186, 204, 222, 240, 258, 276] [] 75 := xD _ _ _ hb
 unfold mkL at hm
 rw [dLi] at hm
 simp only [List.mem_cons, bM, List.not_mem_nil, or_false] at hm
 rcases hm with ⟨rfl, rfl⟩ | ⟨rfl, rfl⟩ | ⟨rfl, rfl⟩ | ⟨rfl, rfl⟩ | ⟨rfl, rfl⟩ | ⟨rfl, rfl⟩ | ⟨rfl, rfl⟩ | ⟨rfl, rfl⟩
 ·obtain ⟨o', e1, e2⟩ := get _ _ a7
  have e2 : o' = _ := e2
  rw [e1, e2]
 ·obtain ⟨o', e1, e2⟩ := get _ _ a6
  have e2 : o' = _ := e2
  rw [e1, e2]
 ·obtain ⟨o', e1, e2⟩ := get _ _ a5
  have e2 : o' = _ := e2
  rw [e1, e2]
 ·obtain ⟨o', e1, e2⟩ := get _ _ a4
  have e2 : o' = _ := e2
  rw [e1, e2]
 ·obtain ⟨o', e1, e2⟩ := get _ _ a3
  have e2 : o' = lS (S + 2) ((WT.e.set 0 (.ofNat 4321)).set 1 (.ofNat 583)) := e2
  rw [e1, e2, bYz, cGr]
  unfold lS
  rw [(bBl WT.e (.ofNat 4321) (.ofNat 583)).1, (bBl WT.e (.ofNat 4321) (.ofNat 583)).2]
 ·obtain ⟨o', e1, e2⟩ := get _ _ a2
  have e2 : o' = .mi _ := e2
  rw [e1, e2]
 ·obtain ⟨o', e1, e2⟩ := get _ _ a1
  have e2 : o' = .big (S + 2) _ := e2
  rw [e1, e2]
 ·obtain ⟨o', e1, e2⟩ := get _ _ a0
  have e2 : o' = _ := e2
  rw [e1, e2]
theorem dKh : ∃ g, qO 900 10 [.i .i64 (.ofNat 20000)] Go.Dd.hS = some (.t [.p (bH 7) 0, .i .i64 (.ofNat 0)], g) ∧ Sim 1 (eH 26855 (mkL 20000 4321 583 80 [8370, 1096, 6, 24, 42, 60, 78, 96, 114, 132, 150, 168, 186, 204, 222, 240, 258, 276] [] 75)) g := by
 obtain ⟨g, e, Sm⟩ := dTb (S := 19998) (by omega) (by omega)
 exact ⟨g, e, aQm Sm⟩
end Go.Dd

namespace Go.Dd
open Go.Proofs
noncomputable def HLN : List (Pos × Ob) := mkL 20000 4321 583 80 [8370, 1096, 6, 24, 42, 60, 78, 96, 114, 132, 150, 168, 186, 204, 222, 240, 258, 276] [] 75
noncomputable def hN : Hp := eH 26855 HLN
noncomputable def gX (l : List (Pos × Ob)) (t : Tr Ob) : Tr Ob := List.rec (motive := fun _ => Tr Ob) t (fun x _ ih => Tr.set x.2 x.1 ih) l
noncomputable def aTg (p : List DV → Bool) (v0 : DV) (nx0 : Nat) (HL : List (Pos × Ob)) (args : List DV) (h : Hp) : aH :=
 bif p args && mB h.next (bH 1) then some (v0, ⟨bH nx0, gX HL h.bl⟩) else none
noncomputable def bGz (args : List DV) : Bool := match args with
 | [.i .i64 (.ofNat m)] => Nat.beq m 20000
 | _ => false
noncomputable def dHy : List DV → Hp → aH := aTg bGz (.t [.p (bH 7) 0, .i .i64 (.ofNat 0)]) 26855 HLN
noncomputable def aXj (n : Nat) : RT := fun g args h => bif Nat.beq g 10 then dHy args h else qO n g args h
noncomputable def okB (r : aH) : Bool := match r with
 | some (.b x, _) => x
 | _ => false
theorem dQa : okB (s16 (aXj 900) 900 hS) = true := by kernel_rfl
end Go.Dd

namespace Go.Dd
open Go.Proofs
theorem rg0 (rec : FuncId → List DV → Hp → aH) (k : K) (env : aO) (h : Hp) : gT CF0 rec 49 (fM (cL (cf Tryz.f242))) (fM (cL (cf Tryz.f242))).toList k env h = (
 bnd (bN (env 1) h) fun v1 h1 =>
 k (bO (bO env (some 3) v1) (some 4) (.i .i64 (Int.ofNat 0))) h1) := by kernel_rfl
theorem rg1 (rec : FuncId → List DV → Hp → aH) (k : K) (env : aO) (h : Hp) : gT CF0 rec 49 (fM (cL (cR (cf Tryz.f242)))) (fM (cL (cR (cf Tryz.f242)))).toList k env h = (
 bnd (aU (env 0) h) fun v1 h1 =>
 bnd (aB 0 v1 h1) fun v2 h2 =>
 bnd (aB 4 v2 h2) fun v3 h3 =>
 bnd (aA v3 h3) fun v4 h4 =>
 bnd (rec 187 [v4, (.f 277 [] [(env 3)])] h4) fun v5 h5 =>
 k (bO (bO (bO (bO (bO (bO (bO (bO env (some 6) (env 0)) (some 7) v1) (some 8) v2) (some 9) v3) (some 10) v4) (some 11) (.f 277 [] [(env 3)])) (some 12) v5) (some 5) v5) h5) := by kernel_rfl
theorem rg2 (rec : FuncId → List DV → Hp → aH) (k : K) (env : aO) (h : Hp) : gT CF0 rec 49 (fM (cL (cL (cR (cR (cf Tryz.f242)))))) (fM (cL (cL (cR (cR (cf Tryz.f242)))))).toList k env h = (
 bnd (aE .lss (env 5) (.i .i64 (Int.ofNat 0)) h) fun v1 h1 =>
 k (bO (bO env (some 13) (env 5)) (some 14) v1) h1) := by kernel_rfl
theorem rg3 (rec : FuncId → List DV → Hp → aH) (k : K) (env : aO) (h : Hp) : gT CF0 rec 49 (fM (cL (cL (cR (cL (cR (cR (cf Tryz.f242)))))))) (fM (cL (cL (cR (cL (cR (cR (cf Tryz.f242)))))))).toList k env h = (
 bnd (aU (env 0) h) fun v1 h1 =>
 bnd (aB 0 v1 h1) fun v2 h2 =>
 bnd (aB 4 v2 h2) fun v3 h3 =>
 bnd (aA v3 h3) fun v4 h4 =>
 bnd (bT v4 h4) fun v5 h5 =>
 k (bO (bO (bO (bO (bO (bO (bO env (some 15) (env 0)) (some 16) v1) (some 17) v2) (some 18) v3) (some 19) v4) (some 20) v5) (some 5) v5) h5) := by kernel_rfl
theorem rg5 (rec : FuncId → List DV → Hp → aH) (k : K) (env : aO) (h : Hp) : gT CF0 rec 49 (fM (cL (cL (cR (cR (cL (cR (cL (cR (cR (cf Tryz.f242))))))))))) (fM (cL (cL (cR (cR (cL (cR (cL (cR (cR (cf Tryz.f242))))))))))).toList k env h = (
 bnd (aU (env 0) h) fun v1 h1 =>
 bnd (aB 0 v1 h1) fun v2 h2 =>
 bnd (aB 4 v2 h2) fun v3 h3 =>
 bnd (aA v3 h3) fun v4 h4 =>
 bnd (bT v4 h4) fun v5 h5 =>
 bnd (aN [(.i .i64 (Int.ofNat 0)), (.s []), (.i .i64 (Int.ofNat 0)), .l0] 1 [(0, 4, (.a [(.i .i64 (Int.ofNat 0)), (.s []), (.i .i64 (Int.ofNat 0)), .l0]))] h5) fun v6 h6 =>
 bnd (aW 4 56 v4 v6 h6) fun v7 h7 =>
 bnd (aU (env 0) h7) fun v8 h8 =>
 bnd (aB 0 v8 h8) fun v9 h9 =>
 bnd (aB 4 v9 h9) fun v10 h10 =>
 bnd (aC 1 v10 v7 h10) fun _ h11 =>
 k (bO (bO (bO (bO (bO (bO (bO (bO (bO (bO (bO env (some 23) (env 0)) (some 24) v1) (some 25) v2) (some 26) v3) (some 27) v4) (some 28) v5) (some 29) v6) (some 30) v7) (some 31) v8) (some 32) v9) (some 33) v10) h11) := by kernel_rfl
theorem rg6 (rec : FuncId → List DV → Hp → aH) (k : K) (env : aO) (h : Hp) : gT CF0 rec 49 (fM (cR (cL (cR (cR (cL (cR (cL (cR (cR (cf Tryz.f242))))))))))) (fM (cR (cL (cR (cR (cL (cR (cL (cR (cR (cf Tryz.f242))))))))))).toList k env h = (
 bnd (aI 4 (env 3) h) fun v1 h1 =>
 bnd (aJ 4 (env 30) (env 28) h1) fun v2 h2 =>
 bnd (aC 4 v2 v1 h2) fun _ h3 =>
 k (bO (bO env (some 34) v1) (some 35) v2) h3) := by kernel_rfl
theorem rg7 (rec : FuncId → List DV → Hp → aH) (k : K) (env : aO) (h : Hp) : iF CF0 rec 49 (fM (cR (cR (cR (cL (cR (cL (cR (cR (cf Tryz.f242)))))))))) k env h = (
 bnd (aU (env 0) (resv 1 h)) fun v1 h1 =>
 bnd (aB 0 v1 h1) fun v2 h2 =>
 bnd (aB 4 v2 h2) fun v3 h3 =>
 bnd (aA v3 h3) fun v4 h4 =>
 bnd (aI 4 (env 3) h4) fun v5 h5 =>
 bnd (aS (bB 0 h.next) [(.i .i64 (Int.ofNat 0)), (.s []), (.i .i64 (Int.ofNat 0)), .l0] 1 [(0, 4, v5)] h5) fun v6 h6 =>
 bnd (aW 4 56 v4 v6 h6) fun v7 h7 =>
 bnd (aU (env 0) h7) fun v8 h8 =>
 bnd (aB 0 v8 h8) fun v9 h9 =>
 bnd (aB 4 v9 h9) fun v10 h10 =>
 bnd (aC 1 v10 v7 h10) fun v11 h11 =>
 k (bO (bO (bO (bO (bO (bO (bO (bO (bO (bO (bO (bO env (some 36) (env 0)) (some 37) (env 0)) (some 38) v1) (some 39) v2) (some 40) v3) (some 41) v4) (some 42) v5) (some 43) v6) (some 44) v7) (some 45) v8) (some 46) v9) (some 47) v10) h11) := by kernel_rfl
theorem rg8 (rec : FuncId → List DV → Hp → aH) (k : K) (env : aO) (h : Hp) : gT CF0 rec 49 (fM (cL (cR (cR (cR (cf Tryz.f242)))))) (fM (cL (cR (cR (cR (cf Tryz.f242)))))).toList k env h = (
 k (bO (bO env (some 48) (env 5)) (some 4) (env 5)) h) := by kernel_rfl
end Go.Dd

namespace Go.Dd
open Go.Proofs
theorem HR.sub {G : Gd} {ρ : cI} {h h' : Hp} {w : World} (S : Sim 1 h h') (H : HR G ρ h' w) : HR G ρ h w := by
 have hg : ∀ b o, h.bl.get b = some o → h'.bl.get b = some o := fun b o hb => by
  obtain ⟨o', h1, h2⟩ := S.get b o hb
  rw [h1, iW h2]
 have hc : ∀ b a, Claims ρ h b a → Claims ρ h' b a := fun b a ⟨k, l, L, h1, h2, h3⟩ => ⟨k, l, L, hg _ _ h1, h2, h3⟩
 have hro : ∀ b a, Claims ρ h b a → ¬ isRo h b → ¬ isRo h' b := fun b a ⟨k, l, L, h1, h2, h3⟩ hn ⟨l', hl⟩ => by
  rw [hg _ _ h1] at hl
  simp only [bE, Ob.row.injEq] at hl
  exact hn ⟨l, by rw [h1, hl.1]⟩
 exact ⟨H.gl, H.sz, by rw [← S.next]; exact H.nx, fun b a h1 ⟨l, h2⟩ => H.ro b a (hc b a h1) ⟨l, hg _ _ h2⟩, fun b o hb => H.dom b o (hg b o hb), fun b L hb => by rw [← S.next]; exact H.lt b L hb,
  fun b k l L i v h1 => H.cell b k l L i v (hg _ _ h1), fun b l L es j h1 => H.spare b l L es j (hg _ _ h1), fun b a h1 h2 => H.free b a (hc b a h1) (hro b a h1 h2),
  fun b b' a h1 h2 h3 => H.inj b b' a (hc b a h1) (hc b' a h2) (hro b a h1 h3),
  fun b l L h1 => H.ex b l L (h1.elim (fun q => .inl (hg _ _ q)) (fun q => .inr (hg _ _ q))), fun b es l i v h1 => H.grone b es l i v (hg _ _ h1),
  fun b o L h1 h2 => H.itr b o L h1 (hg _ _ h2), fun b o b' o' L L' h1 h2 h3 h4 => H.itj b o b' o' L L' h1 h2 (hg _ _ h3) (hg _ _ h4)⟩
theorem qZ : ∀ p : Pos, mB p p = true
 | .h => rfl
 | .o p => qZ p
 | .i p => qZ p
theorem bBw {p q : Pos} (h : mB p q = false) : p ≠ q := fun e => by subst e; rw [qZ] at h; cases h
open Classical in
noncomputable def kk (N : aO → Hp → Prop) : K := fun env h => if N env h then some (aX, h) else none
theorem sU {N : aO → Hp → Prop} {env : aO} {h : Hp} (hn : N env h) : ∃ r, kk N env h = some r := ⟨_, if_pos hn⟩
theorem dDc {N : aO → Hp → Prop} {env : aO} {h : Hp} {r} (hn : kk N env h = some r) : N env h := by
 unfold kk at hn
 split at hn
 ·assumption
 ·cases hn
section
variable {C : Cfg} {rec : FuncId → List DV → Hp → aH} {nt : Nat} {X : Nat → aO → Hp → Prop} {R N : aO → Hp → Prop} {env : aO} {h : Hp}
theorem wpS {a b : Code} (H : rJ C rec nt a X R (rJ C rec nt b X R N) env h) : rJ C rec nt (.seq a b) X R N env h := H
theorem aWh {id : Nat} {ops : Array Oper} (H : ∃ r, gT C rec nt ops ops.toList (kk fun e h => nN h → N e h) env h = some r) : rJ C rec nt (.region id ops false) X R N env h := by
 obtain ⟨r, hr⟩ := H
 obtain ⟨env', h', h1, h2⟩ := lY _ _ _ _ _ hr
 simp only [rJ, Bool.false_eq_true, if_false]
 exact ⟨env', h', h1, dDc h2⟩
theorem eBe {id : Nat} {ops : Array Oper} (hd : eL C.P ops = true) (H : ∃ r, iF C rec nt ops (kk fun e h => nN h → N e h) env h = some r) : rJ C rec nt (.region id ops true) X R N env h := by
 obtain ⟨r, hr⟩ := H
 simp only [rJ, if_true]
 exact .inr ⟨hd, _, r, hr, fun env' h' h1 h2 => dDc h1 h2⟩
theorem dZo {id : Nat} {ops : Array Oper} (H : aPy C rec nt ops (fun e h => nN h → N e h) ops.size (Array.replicate ops.size false) env h) : rJ C rec nt (.region id ops true) X R N env h := by
 simp only [rJ, if_true]
 exact .inl H
theorem wpC {c : Operand} {a b : Code} {t : Bool} (hc : opr env c = .b t) (H : (t = true → rJ C rec nt a X R N env h) ∧ (t = false → rJ C rec nt b X R N env h)) : rJ C rec nt (.cond c a b) X R N env h := by
 cases t with
 | true => exact .inl ⟨hc, H.1 rfl⟩
 | false => exact .inr ⟨hc, H.2 rfl⟩
end
noncomputable def dZv : Code := cL (cR (cL (cR (cL (cR (cR (cf Tryz.f242)))))))
noncomputable def R4 : Array Oper := fM dZv
theorem dYm : cf Tryz.f242 = .seq (.region 0 (fM (cL (cf Tryz.f242))) false) (.seq (.region 1 (fM (cL (cR (cf Tryz.f242)))) false) (.seq (.seq (.region 2 (fM (cL (cL (cR (cR (cf Tryz.f242)))))) false)
 (.cond (.tmp 14) (.seq (.region 3 (fM (cL (cL (cR (cL (cR (cR (cf Tryz.f242)))))))) false) (.seq (.region 4 R4 true) (.cond (.tmp 22)
  (.seq (.region 5 (fM (cL (cL (cR (cR (cL (cR (cL (cR (cR (cf Tryz.f242))))))))))) false) (.region 6 (fM (cR (cL (cR (cR (cL (cR (cL (cR (cR (cf Tryz.f242))))))))))) false))
  (.region 7 (fM (cR (cR (cR (cL (cR (cL (cR (cR (cf Tryz.f242)))))))))) true)))) .skip)) (.seq (.region 8 (fM (cL (cR (cR (cR (cf Tryz.f242)))))) false) .ret))) := by kernel_rfl
noncomputable def o4 (i : Nat) : Oper := (R4.toList[i]?).getD (Oper.mk none (.move (.tmp 0)) 0 "" #[] none)
theorem eAs : R4[0]? = some (o4 0) := by kernel_rfl
theorem dUf : R4[1]? = some (o4 1) := by kernel_rfl
theorem dSw : R4[2]? = some (o4 2) := by kernel_rfl
theorem eBs : R4[3]? = some (o4 3) := by kernel_rfl
theorem eBc (rec : FuncId → List DV → Hp → aH) (env : aO) (h : Hp) : bL CF0 rec R4 (o4 0) env h = bD [.b false] h := by kernel_rfl
theorem dRe (rec : FuncId → List DV → Hp → aH) (env : aO) (h : Hp) : bL CF0 rec R4 (o4 1) env h = aC 1 (env 21) (.b true) h := by kernel_rfl
theorem dSf (rec : FuncId → List DV → Hp → aH) (env : aO) (h : Hp) : bL CF0 rec R4 (o4 2) env h = aC 1 (env 21) (.b false) h := by kernel_rfl
theorem eCy (rec : FuncId → List DV → Hp → aH) (env : aO) (h : Hp) : bL CF0 rec R4 (o4 3) env h = aA (env 21) h := by kernel_rfl
theorem dRj : (o4 0).dst = some 21 := by kernel_rfl
theorem cPm : (o4 1).dst = none := by kernel_rfl
theorem dCx : (o4 2).dst = none := by kernel_rfl
theorem dRx : (o4 3).dst = some 22 := by kernel_rfl
theorem z4 : Array.replicate R4.size false = #[false, false, false, false] := by kernel_rfl
theorem y4 : R4.size = 4 := by kernel_rfl
theorem eCa : Region.ready .any R4 #[false, false, false, false] = [0] := by kernel_rfl
theorem dQq : Region.ready .any R4 #[true, false, false, false] = [1, 2] := by kernel_rfl
theorem dZc : Region.ready .any R4 #[true, true, false, false] = [2] := by kernel_rfl
theorem eAl : Region.ready .any R4 #[true, false, true, false] = [1] := by kernel_rfl
theorem eBr : Region.ready .any R4 #[true, true, true, false] = [3] := by kernel_rfl
theorem eAc : Region.ready .any R4 #[true, true, true, true] = [] := by kernel_rfl
theorem eDg : (#[false, false, false, false] : Array Bool).setIfInBounds 0 true = #[true, false, false, false] := by kernel_rfl
theorem eCb : (#[true, false, false, false] : Array Bool).setIfInBounds 1 true = #[true, true, false, false] := by kernel_rfl
theorem eBa : (#[true, false, false, false] : Array Bool).setIfInBounds 2 true = #[true, false, true, false] := by kernel_rfl
theorem eDi : (#[true, true, false, false] : Array Bool).setIfInBounds 2 true = #[true, true, true, false] := by kernel_rfl
theorem eDk : (#[true, false, true, false] : Array Bool).setIfInBounds 1 true = #[true, true, true, false] := by kernel_rfl
theorem dZt : (#[true, true, true, false] : Array Bool).setIfInBounds 3 true = #[true, true, true, true] := by kernel_rfl
theorem cMc {C : Cfg} {rec : FuncId → List DV → Hp → aH} {nt f i : Nat} {ops : Array Oper} {kM : aO → Hp → Prop} {listed l' : Array Bool} {env : aO} {h h' : Hp} {o : Oper} {v : DV} (hr : Region.ready .any ops listed = [i])
  (ho : ops[i]? = some o) (hf : cT nt o.dst = true) (hs : bL C rec ops o env h = some (v, h')) (hl : listed.setIfInBounds i true = l') (hn : aPy C rec nt ops kM f l' (bO env o.dst v) h') : aPy C rec nt ops kM (f + 1) listed env h := by
 refine ⟨fun e => ?_, fun j hj => ?_⟩
 ·rw [hr] at e; cases e
 ·rw [hr] at hj
  simp only [List.mem_singleton] at hj
  subst hj
  exact ⟨o, v, h', ho, hf, hs, by rw [hl]; exact hn⟩
structure After (h h' : Hp) : Prop where
 next : h'.next = h.next.succ
 get : ∀ b, b ≠ h.next → h'.bl.get b = h.bl.get b
theorem eBu {rec : FuncId → List DV → Hp → aH} {kM : aO → Hp → Prop} {env : aO} {h : Hp} (H : ∀ x h', After h h' → kM (bO (bO env (some 21) (.p h.next 0)) (some 22) (.b x)) h') :
  aPy CF0 rec 49 R4 kM R4.size (Array.replicate R4.size false) env h := by
 rw [z4, y4]
 have st : ∀ (n : Pos) (bl : Tr Ob) (x y : Bool), bl.get h.next = some (.row .ex [.b y]) → aC 1 (.p h.next 0) (.b x) ⟨n, bl⟩ = some (aX, ⟨n, Tr.set (.row .ex [.b x]) h.next bl⟩) := fun n bl x y e => by
  simp only [aC, fK, dP, e, Kind.writable, List.length_singleton, if_true, hU, nL, DV.one, Bool.and_self, Option.map_some]
 have ld : ∀ (n : Pos) (bl : Tr Ob) (x : Bool), bl.get h.next = some (.row .ex [.b x]) → aA (.p h.next 0) ⟨n, bl⟩ = some (.b x, ⟨n, bl⟩) := fun n bl x e => by
  simp only [aA, cellD, rowOf, e, List.getElem?_cons_zero, DV.one, if_true]
 have g0 : ∀ (t : Tr Ob) (x : Bool), (Tr.set (.row .ex [.b x]) h.next t).get h.next = some (.row .ex [.b x]) := fun t x => eDv _ _ _
 have go : ∀ (t : Tr Ob) (x : Bool) (b : Pos), b ≠ h.next → (Tr.set (.row .ex [.b x]) h.next t).get b = t.get b := fun t x b e => eDu _ _ _ _ e
 have fin : ∀ (t : Tr Ob) (x : Bool), (∀ b, b ≠ h.next → t.get b = h.bl.get b) → t.get h.next = some (.row .ex [.b x]) →
   aPy CF0 rec 49 R4 kM 1 #[true, true, true, false] (bO env (some 21) (.p h.next 0)) ⟨h.next.succ, t⟩ := fun t x e1 e2 => by
  refine cMc eBr eBs (by rw [dRx]; rfl) ((eCy _ _ _).trans (ld _ _ x e2)) dZt ?_
  rw [dRx]
  exact ⟨eAc, H x _ ⟨rfl, e1⟩⟩
 refine cMc eCa eAs (by rw [dRj]; rfl) (eBc _ _ _) eDg ?_
 rw [dRj]
 refine ⟨fun e => (by rw [dQq] at e; cases e), fun j hj => ?_⟩
 rw [dQq] at hj
 simp only [List.mem_cons, List.not_mem_nil, or_false] at hj
 rcases hj with rfl | rfl
 ·refine ⟨_, _, _, dUf, by rw [cPm]; rfl, (dRe _ _ _).trans (st _ _ true false (g0 _ _)), ?_⟩
  rw [eCb, cPm]
  refine cMc dZc dSw (by rw [dCx]; rfl) ((dSf _ _ _).trans (st _ _ false true (g0 _ _))) eDi ?_
  rw [dCx]
  exact fin _ false (fun b e => by rw [go _ _ _ e, go _ _ _ e, go _ _ _ e]) (g0 _ _)
 ·refine ⟨_, _, _, dSw, by rw [dCx]; rfl, (dSf _ _ _).trans (st _ _ false false (g0 _ _)), ?_⟩
  rw [eBa, dCx]
  refine cMc eAl dUf (by rw [cPm]; rfl) ((dRe _ _ _).trans (st _ _ true false (g0 _ _))) eDk ?_
  rw [cPm]
  exact fin _ true (fun b e => by rw [go _ _ _ e, go _ _ _ e, go _ _ _ e]) (g0 _ _)
end Go.Dd

namespace Go.Dd
open Go.Proofs
theorem cFl {h h' g : Hp} {x v : DV} (hg : ∀ b o, h.bl.get b = some o → h'.bl.get b = some o) (e : aA x h = some (v, g)) : aA x h' = some (v, h') := by
 have S : Sim 1 ⟨h'.next, h.bl⟩ h' := ⟨rfl, fun b o hb => ⟨o, hg b o hb, gH o⟩⟩
 have e' : aA x ⟨h'.next, h.bl⟩ = some (v, ⟨h'.next, h.bl⟩) := by
  unfold aA at e ⊢
  split at e <;> (try (cases e; done))
  rename_i b o
  change (match cellD b o ⟨h'.next, h.bl⟩ with
   | some v => some (v, (⟨h'.next, h.bl⟩ : Hp))
   | none => none) = _
  change (match cellD b o ⟨h'.next, h.bl⟩ with
   | some v => some (v, h)
   | none => none) = _ at e
  split at e <;> (try (cases e; done))
  rename_i u hu
  simp only [bE, bM] at e
  rw [e.1]
 obtain ⟨k, e1, e2⟩ := kN x _ _ S v _ e'
 obtain ⟨rfl, _⟩ := (show k = h' ∧ True by
  unfold aA at e1
  split at e1 <;> (try (cases e1; done))
  split at e1 <;> (try (cases e1; done))
  simp only [bE, bM] at e1
  exact ⟨e1.2.symm, trivial⟩)
 exact e1
theorem bQc {h h' g : Hp} {n : Nat} {x v : DV} (hg : ∀ b o, h.bl.get b = some o → h'.bl.get b = some o) (e : aI n x h = some (v, g)) : aI n x h' = some (v, h') := by
 have S : Sim 1 ⟨h'.next, h.bl⟩ h' := ⟨rfl, fun b o hb => ⟨o, hg b o hb, gH o⟩⟩
 have e' : aI n x ⟨h'.next, h.bl⟩ = some (v, ⟨h'.next, h.bl⟩) := by
  unfold aI at e ⊢
  split at e <;> (try (cases e; done))
  rename_i b o
  change (match cellsAt b o n ⟨h'.next, h.bl⟩ with
   | some v => some (DV.a v, (⟨h'.next, h.bl⟩ : Hp))
   | none => none) = _
  change (match cellsAt b o n ⟨h'.next, h.bl⟩ with
   | some v => some (DV.a v, h)
   | none => none) = _ at e
  split at e <;> (try (cases e; done))
  rename_i u hu
  simp only [bE, bM] at e
  rw [← e.1]
 obtain ⟨k, e1, e2⟩ := kP n x _ _ S v _ e'
 obtain ⟨rfl, _⟩ := (show k = h' ∧ True by
  unfold aI at e1
  split at e1 <;> (try (cases e1; done))
  split at e1 <;> (try (cases e1; done))
  simp only [bE, bM] at e1
  exact ⟨e1.2.symm, trivial⟩)
 exact e1
theorem cEb {q : Pos} {l1 v : DV} {cs : List DV} {h k : Hp} (e : jM q l1 cs h = some (v, k)) : ∃ (n : Nat) (old : List DV) (t : Tr Ob), v = .l h.next 0 (n + 1) (n + 1) ∧ (∀ g, bT l1 g = some (.i .i64 (n : Int), g)) ∧
  old.length = n * 4 ∧ (∀ v ∈ old, v.one = true) ∧ k = ⟨h.next.succ, Tr.set (.row (.gr 4) (old ++ cs)) h.next t⟩ ∧ t.get q = h.bl.get q ∧ (∀ b, t.get b ≠ none → h.bl.get b ≠ none) ∧
  ∀ zs, jM q l1 zs h = some (v, ⟨h.next.succ, Tr.set (.row (.gr 4) (old ++ zs)) h.next t⟩) := by
 unfold jM at e
 split at e <;> (try (cases e; done))
 ·simp only [bE, bM] at e
  obtain ⟨rfl, rfl⟩ := e
  exact ⟨0, [], h.bl, rfl, fun g => rfl, rfl, by simp, rfl, rfl, fun b hb => hb, fun zs => rfl⟩
 ·rename_i b o len cap
  cases hc : (Nat.ble cap len && !(mB b q)) with
  | false => rw [hc] at e; cases e
  | true =>
   rw [hc] at e
   simp only [cnd] at e
   split at e <;> (try (cases e; done))
   rename_i es l old hb hold
   split at e <;> (try (cases e; done))
   rename_i hr
   simp only [bE, bM] at e
   obtain ⟨rfl, rfl⟩ := e
   have hq : q ≠ b := by
    simp only [Bool.and_eq_true, Bool.not_eq_true'] at hc
    exact Ne.symm (bBw hc.2)
   have hl : old.length = len * 4 ∧ ∀ v ∈ old, v.one = true := by
    unfold cellsAt at hold
    split at hold <;> (try (cases hold; done))
    obtain ⟨h1, _, _, h4⟩ := lF _ _ _ hold
    exact ⟨h1, h4⟩
   refine ⟨len, old, Tr.set (.row .sp (bQ o l)) b h.bl, rfl, fun g => rfl, hl.1, hl.2, rfl, eDu _ _ _ _ hq, fun x hx => ?_, fun zs => ?_⟩
   ·by_cases e : x = b
    ·rw [e, hb]; simp
    ·rwa [eDu _ _ _ _ e] at hx
   ·unfold jM
    dsimp only
    rw [hc]
    simp only [cnd, hb, hold, if_pos hr]
theorem bGm {q : Pos} {l1 x v : DV} {cs : List DV} {h h' k : Hp} (S : Sim 1 h h') (hx : aBj 4 x h' = some (1, cs)) (e : jM q l1 cs h = some (v, k)) : ∃ k', aW 4 56 l1 x h' = some (v, k') ∧ Sim 1 k k' := by
 unfold jM at e
 split at e <;> (try (cases e; done))
 ·simp only [bE, bM] at e
  obtain ⟨rfl, rfl⟩ := e
  refine ⟨⟨h'.next.succ, Tr.set (.row (.gr 4) cs) h'.next h'.bl⟩, ?_, ?_⟩
  ·unfold aW
   rw [hx]
   dsimp only
   rw [if_neg (by simp), if_pos (by decide), S.next]
  ·rw [S.next]; exact S.setR _ _ _ _
 ·rename_i b o len cap
  cases hc : (Nat.ble cap len && !(mB b q)) with
  | false => rw [hc] at e; cases e
  | true =>
   rw [hc] at e
   simp only [cnd] at e
   split at e <;> (try (cases e; done))
   rename_i es l old hb hold
   split at e <;> (try (cases e; done))
   rename_i hr
   simp only [bE, bM] at e
   obtain ⟨rfl, rfl⟩ := e
   have hle : cap ≤ len := by
    simp only [Bool.and_eq_true] at hc
    exact Nat.le_of_ble_eq_true hc.1
   refine ⟨⟨h'.next.succ, Tr.set (.row (.gr 4) (old ++ cs)) h'.next (Tr.set (.row .sp (bQ o l)) b h'.bl)⟩, ?_, ?_⟩
   ·unfold aW
    rw [hx]
    dsimp only
    rw [if_neg (by omega), S.row hb, S.cellsAt hold]
    dsimp only
    rw [if_pos hr.2.2, if_pos ⟨hr.1, hr.2.1⟩, S.next]
   ·rw [S.next]
    exact (S.setR .sp (bQ o l) b h.next).setR _ _ _ _
theorem bDq : ∀ (old zs cs : List DV), zs.length = cs.length → (∀ v ∈ zs, v.one = true) → (∀ v ∈ cs, v.one = true) → hU old.length (old ++ zs) cs = some (old ++ cs)
 | [], zs, cs, hl, hz, hc => by
  show nL zs cs = some cs
  induction cs generalizing zs with
  | nil => cases zs with
   | nil => rfl
   | cons z zs => simp at hl
  | cons c cs ih => cases zs with
   | nil => simp at hl
   | cons z zs =>
    simp only [nL, hz z (by simp), hc c (by simp), Bool.and_self, if_true]
    rw [ih zs (by simpa using hl) (fun v hv => hz v (by simp [hv])) (fun v hv => hc v (by simp [hv]))]
    rfl
 | x :: old, zs, cs, hl, hz, hc => by
  show (hU old.length (old ++ zs) cs).map (x :: ·) = _
  rw [bDq old zs cs hl hz hc]
  rfl
end Go.Dd

namespace Go.Dd
open Go.Proofs
theorem bKl : (Tryz.prog.funcs.toList.all fun fn => !(fn.name == "runtime.NumGoroutine")) = true := by kernel_rfl
theorem Try_ok : POk Tryz.prog where
 mixed := by kernel_rfl
 names := by
  intro f fn hf
  have h := List.all_eq_true.1 bKl fn (by
   obtain ⟨hlt, rfl⟩ := Array.getElem?_eq_some_iff.1 hf
   simp)
  simpa using h
theorem KC0 : OkC CF0 (fnD CF0 60) := ⟨fun G g F h => (by cases h), fun G g => cEd (C := CF0) Try_ok (fun G g F h => (by cases h)) 60 G g⟩
theorem dJn (e : aO) (h : Hp) : aQ CF0 Tryz.f242 e h = some (e 4, h) := by kernel_rfl
theorem dXy : Tryz.f242.ntmps = 49 := by kernel_rfl
theorem dSl : Tryz.prog.funcs[242]? = some Tryz.f242 := by kernel_rfl
theorem cVe : Tryz.f242.body = some (cf Tryz.f242) := by kernel_rfl
theorem dUc : eL CF0.P (fM (cR (cR (cR (cL (cR (cL (cR (cR (cf Tryz.f242)))))))))) = true := by kernel_rfl
theorem bBj {X : Nat → aO → Hp → Prop} {N : aO → Hp → Prop} {env : aO} {v : DV} {h h1 : Hp} (he : env 5 = v) (S : Sim 1 h1 h) :
  rJ CF0 (fnD CF0 60) 49 (.seq (.region 8 (fM (cL (cR (cR (cR (cf Tryz.f242)))))) false) .ret) X (fun env h' => ∃ h2, aQ CF0 Tryz.f242 env h' = some (v, h2) ∧ Le h2 h1) N env h := by
 refine wpS (aWh ?_)
 rw [rg8]
 refine sU fun _ => ?_
 exact ⟨h, (dJn _ _).trans (by rw [show (bO (bO env (some 48) (env 5)) (some 4) (env 5)) 4 = env 5 from rfl, he]), fun G ρ w H => H.sub S⟩
theorem xE {F : Hp → aH} (hF : PureP F) {h g : Hp} {v : DV} (e : F h = some (v, g)) : g = h ∧ ∀ h', F h' = some (v, h') := hF h v g e
theorem rM {h g : Hp} {c : Pos} {o : Nat} {v : DV} (e : aA (.p c o) h = some (v, g)) : g = h ∧ ∃ u, h.bl.get c = some u := by
 change (match cellD c o h with
  | some v => some (v, h)
  | none => none) = _ at e
 split at e <;> (try (cases e; done))
 rename_i u hu
 simp only [bE, bM] at e
 refine ⟨e.2.symm, ?_⟩
 unfold cellD rowOf at hu
 cases hc : h.bl.get c with
 | none => rw [hc] at hu; cases hu
 | some u => exact ⟨u, rfl⟩
theorem rG {h g : Hp} {c : Pos} {o n : Nat} {v : DV} (e : aI n (.p c o) h = some (v, g)) : g = h ∧ (∃ u, h.bl.get c = some u) ∧ ∃ cs, v = .a cs ∧ cs.length = n ∧ ∀ x ∈ cs, x.one = true := by
 change (match cellsAt c o n h with
  | some cs => some (DV.a cs, h)
  | none => none) = _ at e
 split at e <;> (try (cases e; done))
 rename_i u hu
 simp only [bE, bM] at e
 refine ⟨e.2.symm, ?_⟩
 unfold cellsAt rowOf at hu
 cases hc : h.bl.get c with
 | none => rw [hc] at hu; cases hu
 | some ob =>
  refine ⟨⟨ob, rfl⟩, u, e.1.symm, ?_⟩
  rw [hc] at hu
  split at hu <;> (try (cases hu; done))
  obtain ⟨h1, _, _, h4⟩ := lF _ _ _ hu
  exact ⟨h1, h4⟩
theorem Sim.of_get {h h' : Hp} (e : h'.next = h.next) (g : ∀ b o, h.bl.get b = some o → h'.bl.get b = some o) : Sim 1 h h' := ⟨e, fun b o hb => ⟨o, g b o hb, gH o⟩⟩
theorem bWo (c : Pos) (h : Hp) : aU (.p c 0) h = some (.p c 0, h) := rfl
theorem dMg (c : Pos) (h : Hp) : aB 0 (.p c 0) h = some (.p c 0, h) := rfl
theorem dKb (c : Pos) (h : Hp) : aB 4 (.p c 0) h = some (.p c 4, h) := rfl
theorem aQz (env : aO) (i : Nat) (v : DV) (j : Nat) (h : Nat.beq j i = false) : bO env (some i) v j = env j := by
 show (bif Nat.beq j i then v else env j) = _
 rw [h]; rfl
theorem cFv (env : aO) (i : Nat) (v : DV) : bO env (some i) v i = v := by
 show (bif Nat.beq i i then v else env i) = _
 rw [Nat.beq_refl]; rfl
theorem aPw : ∀ cs : List DV, (∀ v ∈ cs, v.one = true) → pG cs.length cs = some cs
 | [], _ => rfl
 | c :: cs, h => by
  show (if c.one then (pG cs.length cs).map (c :: ·) else none) = _
  rw [if_pos (h c (by simp)), aPw cs fun v hv => h v (by simp [hv])]
  rfl
theorem bEj {cs : List DV} (h4 : cs.length = 4) (ho : ∀ v ∈ cs, v.one = true) (p n : Pos) (t : Tr Ob) : aBj 4 (.l p 0 1 1) ⟨n, Tr.set (.row .ex cs) p t⟩ = some (1, cs) := by
 have e : cellsAt p 0 (1 * 4) ⟨n, Tr.set (.row .ex cs) p t⟩ = some cs := by
  unfold cellsAt rowOf
  simp only [eDv, List.drop_zero]
  rw [show 1 * 4 = cs.length by rw [h4]]
  exact aPw cs ho
 simp only [aBj, e]
theorem bUm {h h' : Hp} {n o : Nat} {q : Pos} {v : DV} (hg : h'.bl.get q = h.bl.get q) (e : aI n (.p q o) h = some (v, h)) : aI n (.p q o) h' = some (v, h') := by
 have e1 : cellsAt q o n h' = cellsAt q o n h := by
  unfold cellsAt rowOf
  rw [hg]
 change (match cellsAt q o n h with
  | some cs => some (DV.a cs, h)
  | none => none) = _ at e
 show (match cellsAt q o n h' with
  | some cs => some (DV.a cs, h')
  | none => none) = _
 rw [e1]
 split at e <;> (try (cases e; done))
 simp only [bE, bM] at e
 rw [e.1]
structure Way (g3 h5 : Hp) (c q : Pos) (l1 l2 n u : DV) (cs : List DV) (k3 k4 : Hp) (env : aO) : Prop where
 fr : nN g3
 af : After g3 h5
 hl : aA (.p c 4) g3 = some (l1, g3)
 hx : aI 4 (.p q 0) g3 = some (.a cs, g3)
 ne : c ≠ q
 hn : bT l1 g3 = some (n, g3)
 ap : jM q l1 cs ⟨g3.next.succ.succ, g3.bl⟩ = some (l2, k3)
 st : aC 1 (.p c 4) l2 k3 = some (u, k4)
 e0 : env 0 = .p c 0
 e3 : env 3 = .p q 0
 e5 : env 5 = n
section
theorem Way.up {g3 h5 : Hp} {c q : Pos} {l1 l2 n u : DV} {cs : List DV} {k3 k4 : Hp} {env : aO} (W : Way g3 h5 c q l1 l2 n u cs k3 k4 env) : ∀ b o, g3.bl.get b = some o → h5.bl.get b = some o := fun b o hb => by
 rw [W.af.get b (fun e => ?_)]
 ·exact hb
 ·subst e; exact Nat.lt_irrefl _ (W.fr _ _ hb)
theorem Way.c5 {g3 h5 : Hp} {c q : Pos} {l1 l2 n u : DV} {cs : List DV} {k3 k4 : Hp} {env : aO} (W : Way g3 h5 c q l1 l2 n u cs k3 k4 env) (n' : Pos) : aA (.p c 4) ⟨n', h5.bl⟩ = some (l1, ⟨n', h5.bl⟩) := cFl W.up W.hl
theorem Way.q5 {g3 h5 : Hp} {c q : Pos} {l1 l2 n u : DV} {cs : List DV} {k3 k4 : Hp} {env : aO} (W : Way g3 h5 c q l1 l2 n u cs k3 k4 env) (n' : Pos) : aI 4 (.p q 0) ⟨n', h5.bl⟩ = some (.a cs, ⟨n', h5.bl⟩) := bQc W.up W.hx
theorem Way.len {g3 h5 : Hp} {c q : Pos} {l1 l2 n u : DV} {cs : List DV} {k3 k4 : Hp} {env : aO} (W : Way g3 h5 c q l1 l2 n u cs k3 k4 env) (h : Hp) : bT l1 h = some (n, h) := (xE (mF l1) W.hn).2 h
theorem Way.base {g3 h5 : Hp} {c q : Pos} {l1 l2 n u : DV} {cs : List DV} {k3 k4 : Hp} {env : aO} (W : Way g3 h5 c q l1 l2 n u cs k3 k4 env) (o : Ob) : Sim 1 ⟨g3.next.succ.succ, g3.bl⟩ ⟨h5.next.succ, Tr.set o h5.next h5.bl⟩ := Sim.of_get (by rw [W.af.next]) fun b ob hb => by
 show (Tr.set o h5.next h5.bl).get b = _
 rw [eDu, W.up b ob hb]
 intro e
 have h1 := W.fr b ob hb
 have s1 := eDy g3.next
 rw [e, W.af.next] at h1
 omega
theorem Way.app {g3 h5 : Hp} {c q : Pos} {l1 l2 n u : DV} {cs : List DV} {k3 k4 : Hp} {env : aO} (W : Way g3 h5 c q l1 l2 n u cs k3 k4 env) {hh : Hp} (S : Sim 1 ⟨g3.next.succ.succ, g3.bl⟩ hh) {y : DV} (hy : aBj 4 y hh = some (1, cs)) : ∃ k', aW 4 56 l1 y hh = some (l2, k') ∧ ∃ k'', aC 1 (.p c 4) l2 k' = some (u, k'') ∧ Sim 1 k4 k'' := by
 obtain ⟨k', h1, h2⟩ := bGm S hy W.ap
 obtain ⟨k'', h3, h4⟩ := kU 1 _ _ _ _ h2 _ _ W.st
 exact ⟨k', h1, k'', h3, h4⟩
theorem Way.one {g3 h5 : Hp} {c q : Pos} {l1 l2 n u : DV} {cs : List DV} {k3 k4 : Hp} {env : aO} (W : Way g3 h5 c q l1 l2 n u cs k3 k4 env) : cs.length = 4 ∧ ∀ v ∈ cs, v.one = true := by
 obtain ⟨_, _, cs', e, h1, h2⟩ := rG W.hx
 cases e
 exact ⟨h1, h2⟩
theorem Way.B {g3 h5 : Hp} {c q : Pos} {l1 l2 n u : DV} {cs : List DV} {k3 k4 : Hp} {env : aO} (W : Way g3 h5 c q l1 l2 n u cs k3 k4 env) {X : Nat → aO → Hp → Prop} {R N : aO → Hp → Prop} (hN : ∀ env' h', env' 5 = n → Sim 1 k4 h' → N env' h') : rJ CF0 (fnD CF0 60) 49 (.region 7 (fM (cR (cR (cR (cL (cR (cL (cR (cR (cf Tryz.f242)))))))))) true) X R N env h5 := by
 obtain ⟨k', h1, k'', h2, h3⟩ := W.app (W.base (.row .ex cs)) (bEj W.one.1 W.one.2 h5.next h5.next.succ h5.bl)
 have fl : aS (bB 0 h5.next) [(.i .i64 (Int.ofNat 0)), (.s []), (.i .i64 (Int.ofNat 0)), .l0] 1 [(0, 4, .a cs)] ⟨h5.next.succ, h5.bl⟩ = some (.l h5.next 0 1 1, ⟨h5.next.succ, Tr.set (.row .ex cs) h5.next h5.bl⟩) := by
  simp only [aS, mL, fK, W.one.1]
  simp [bB]
 refine eBe dUc ?_
 rw [rg7]
 simp only [W.e0, W.e3, bWo, bK, dMg, dKb, show resv 1 h5 = ⟨h5.next.succ, h5.bl⟩ from rfl, W.c5, W.q5, fl, h1, h2]
 refine sU fun _ => hN _ _ ?_ h3
 simp only [aQz, Nat.beq]
 exact W.e5
theorem Way.A {g3 h5 : Hp} {c q : Pos} {l1 l2 n u : DV} {cs : List DV} {k3 k4 : Hp} {env : aO} (W : Way g3 h5 c q l1 l2 n u cs k3 k4 env) {X : Nat → aO → Hp → Prop} {R N : aO → Hp → Prop} (hN : ∀ env' h', env' 5 = n → Sim 1 k4 h' → N env' h') : rJ CF0 (fnD CF0 60) 49 (.seq (.region 5 (fM (cL (cL (cR (cR (cL (cR (cL (cR (cR (cf Tryz.f242))))))))))) false)
  (.region 6 (fM (cR (cL (cR (cR (cL (cR (cL (cR (cR (cf Tryz.f242))))))))))) false)) X R N env h5 := by
 obtain ⟨m, old, t, hl2, hm, hol, hoo, hk3, htq, htd, hz⟩ := cEb W.ap
 have hzz := hz [.i .i64 (Int.ofNat 0), .s [], .i .i64 (Int.ofNat 0), .l0]
 have hn : n = .i .i64 (m : Int) := by
  have e1 := W.len g3
  rw [hm] at e1
  simp only [bE, bM, and_true] at e1
  exact e1.symm
 dsimp only at hl2 hk3 htq htd hzz
 obtain ⟨_, uc, huc⟩ := rM W.hl
 have hcs : c ≠ g3.next.succ.succ := fun e => by
  have h1 := W.fr _ _ huc
  have s1 := eDy g3.next
  have s2 := eDy g3.next.succ
  rw [e] at h1
  omega
 obtain ⟨_, ⟨uq, huq⟩, _⟩ := rG W.hx
 have hqs : q ≠ g3.next.succ.succ := fun e => by
  have h1 := W.fr _ _ huq
  have s1 := eDy g3.next
  have s2 := eDy g3.next.succ
  rw [e] at h1
  omega
 have hst := W.st
 rw [hk3] at hst
 have hst2 : ∃ kd l l', t.get c = some (.row kd l) ∧ k4 = ⟨g3.next.succ.succ.succ, Tr.set (.row kd l') c (Tr.set (.row (.gr 4) (old ++ cs)) g3.next.succ.succ t)⟩ ∧
   ∀ zs, aC 1 (.p c 4) l2 ⟨g3.next.succ.succ.succ, Tr.set (.row (.gr 4) zs) g3.next.succ.succ t⟩ = some (u, ⟨g3.next.succ.succ.succ, Tr.set (.row kd l') c (Tr.set (.row (.gr 4) zs) g3.next.succ.succ t)⟩) := by
  rw [hl2] at hst ⊢
  simp only [aC, fK, List.length_singleton, if_true, dP, eDu _ _ _ _ hcs] at hst ⊢
  cases htc : t.get c with
  | none => rw [htc] at hst; cases hst
  | some o =>
   rw [htc] at hst
   cases o with
   | row kd l =>
    dsimp only at hst ⊢
    cases hw : kd.writable with
    | false => rw [hw] at hst; cases hst
    | true =>
     rw [hw, if_pos rfl] at hst
     cases hp : hU 4 l [.l g3.next.succ.succ 0 (m + 1) (m + 1)] with
     | none => rw [hp] at hst; cases hst
     | some l' =>
      rw [hp] at hst
      simp only [bE, bM] at hst
      exact ⟨kd, l, l', rfl, hst.2.symm, fun zs => by simp only [hw, if_true, hp, hst.1]⟩
   | it s p => cases hst
   | mp es => cases hst
   | big n t => cases hst
   | mi t => cases hst
 obtain ⟨kd, l, l', htc, hk4, hstz⟩ := hst2
 obtain ⟨k6, h6, S6⟩ := bGm (W.base (.row .ex [.i .i64 (Int.ofNat 0), .s [], .i .i64 (Int.ofNat 0), .l0])) (bEj rfl (by simp [DV.one]) h5.next h5.next.succ h5.bl) hzz
 obtain ⟨k7, h7, S7⟩ := kU 1 _ _ _ _ S6 _ _ (hstz _)
 have hqz := bUm (h' := ⟨g3.next.succ.succ.succ, Tr.set (.row kd l') c (Tr.set (.row (.gr 4) (old ++ [.i .i64 (Int.ofNat 0), .s [], .i .i64 (Int.ofNat 0), .l0])) g3.next.succ.succ t)⟩) (by
  show (Tr.set _ c (Tr.set _ _ t)).get q = _
  rw [eDu _ _ _ _ (Ne.symm W.ne), eDu _ _ _ _ hqs, htq]) W.hx
 obtain ⟨k8, h8, S8⟩ := kP 4 _ _ _ S7 _ _ hqz
 have hfin : aC 4 (.p g3.next.succ.succ (0 + m * 4)) (.a cs) ⟨g3.next.succ.succ.succ, Tr.set (.row kd l') c (Tr.set (.row (.gr 4) (old ++ [.i .i64 (Int.ofNat 0), .s [], .i .i64 (Int.ofNat 0), .l0])) g3.next.succ.succ t)⟩ =
   some (aX, ⟨g3.next.succ.succ.succ, Tr.set (.row (.gr 4) (old ++ cs)) g3.next.succ.succ (Tr.set (.row kd l') c (Tr.set (.row (.gr 4) (old ++ [.i .i64 (Int.ofNat 0), .s [], .i .i64 (Int.ofNat 0), .l0])) g3.next.succ.succ t))⟩) := by
  have hp := bDq old [.i .i64 (Int.ofNat 0), .s [], .i .i64 (Int.ofNat 0), .l0] cs (by rw [W.one.1]; rfl) (by simp [DV.one]) W.one.2
  simp only [aC, fK, W.one.1, if_true, dP, eDu _ _ _ _ (Ne.symm hcs), eDv, Kind.writable, Nat.zero_add, ← hol, hp]
 obtain ⟨k9, h9, S9⟩ := kU 4 _ _ _ _ S8 _ _ hfin
 have S10 : Sim 1 k4 k9 := by
  refine Sim.trans ?_ S9
  rw [hk4]
  refine Sim.of_get rfl fun b o hb => ?_
  change (Tr.set (.row kd l') c (Tr.set _ g3.next.succ.succ t)).get b = some o at hb
  show (Tr.set _ g3.next.succ.succ (Tr.set (.row kd l') c (Tr.set _ g3.next.succ.succ t))).get b = some o
  by_cases e1 : b = g3.next.succ.succ
  ·rw [e1] at hb ⊢
   rw [eDu _ _ _ _ (Ne.symm hcs), eDv] at hb
   rw [eDv, hb]
  ·rw [eDu _ _ _ _ e1]
   by_cases e2 : b = c
   ·rw [e2] at hb ⊢
    rw [eDv] at hb ⊢
    exact hb
   ·rw [eDu _ _ _ _ e2, eDu _ _ _ _ e1] at hb ⊢
    exact hb
 have fl : aN [(.i .i64 (Int.ofNat 0)), (.s []), (.i .i64 (Int.ofNat 0)), .l0] 1 [(0, 4, (.a [(.i .i64 (Int.ofNat 0)), (.s []), (.i .i64 (Int.ofNat 0)), .l0]))] h5 = some (.l h5.next 0 1 1, ⟨h5.next.succ, Tr.set (.row .ex [.i .i64 (Int.ofNat 0), .s [], .i .i64 (Int.ofNat 0), .l0]) h5.next h5.bl⟩) := by
  simp [aN, mL, fK]
 refine wpS (aWh ?_)
 rw [rg5]
 have c5 : aA (.p c 4) h5 = some (l1, h5) := W.c5 h5.next
 have ix : aJ 4 l2 n k8 = some (.p g3.next.succ.succ (0 + m * 4), k8) := by
  rw [hl2, hn]
  show (if (0 : Int) ≤ (m : Int) ∧ (m : Int) < ((m + 1 : Nat) : Int) then some (DV.p g3.next.succ.succ (0 + (m : Int).toNat * 4), k8) else none) = _
  rw [if_pos (by omega)]
  simp
 simp only [W.e0, W.e3, bWo, bK, dMg, dKb, c5, W.len, fl, h6, h7]
 refine sU fun _ => aWh ?_
 rw [rg6]
 simp only [aQz, cFv, Nat.beq, W.e3, h8, bK, ix, h9]
 refine sU fun _ => hN _ _ ?_ S10
 simp only [aQz, Nat.beq]
 exact W.e5
end
theorem cNe {h h1 : Hp} {c q : Pos} {v : DV} (hr : qX c q h = some (v, h1)) (hf : nN h) {env : aO} (e0 : env 0 = .p c 0) (e3 : env 3 = .p q 0)
  {X : Nat → aO → Hp → Prop} {R N : aO → Hp → Prop} (hN : ∀ env' h', env' 5 = v → Sim 1 h1 h' → N env' h') :
  rJ CF0 (fnD CF0 60) 49 (.seq (.region 3 (fM (cL (cL (cR (cL (cR (cR (cf Tryz.f242)))))))) false) (.seq (.region 4 R4 true) (.cond (.tmp 22)
   (.seq (.region 5 (fM (cL (cL (cR (cR (cL (cR (cL (cR (cR (cf Tryz.f242))))))))))) false) (.region 6 (fM (cR (cL (cR (cR (cL (cR (cL (cR (cR (cf Tryz.f242))))))))))) false))
   (.region 7 (fM (cR (cR (cR (cL (cR (cL (cR (cR (cf Tryz.f242)))))))))) true)))) X R N env h := by
 unfold qX at hr
 obtain ⟨l1, g1, hl1, hr⟩ := dF hr
 obtain ⟨n, g2, hn, hr⟩ := dF hr
 obtain ⟨x, g3, hx, hr⟩ := dF hr
 obtain ⟨rfl, uc, huc⟩ := rM hl1
 have hn0 := hn
 obtain ⟨rfl, hn⟩ := xE (mF l1) hn
 obtain ⟨rfl, ⟨uq, huq⟩, cs, rfl, hcl, hco⟩ := rG hx
 dsimp only at hr
 cases hcq : mB c q with
 | true => rw [hcq] at hr; cases hr
 | false =>
 rw [hcq] at hr
 have hcq' : c ≠ q := bBw hcq
 simp only [cnd, Bool.not_false] at hr
 obtain ⟨l2, k3, ha, hr⟩ := dF hr
 obtain ⟨u, k4, hs, hr⟩ := dF hr
 simp only [bE, bM] at hr
 obtain ⟨rfl, rfl⟩ := hr
 refine wpS (aWh ?_)
 rw [rg3]
 rw [show aU (env 0) g3 = some (.p c 0, g3) from by rw [e0]; rfl]
 show ∃ r, bnd (aA (.p c 4) g3) _ = some r
 rw [hl1]
 show ∃ r, bnd (bT l1 g3) _ = some r
 rw [hn0, bK]
 refine sU fun _ => ?_
 refine wpS (dZo (eBu fun x h5 A F5 => ?_))
 have W : Way g3 h5 c q l1 l2 n u cs k3 k4 (bO (bO (bO (bO (bO (bO (bO (bO (bO env (some 15) (env 0)) (some 16) (DV.p c 0)) (some 17) (DV.p c (0 + 0))) (some 18) (DV.p c (0 + 0 + 4))) (some 19) l1) (some 20) n) (some 5) n) (some 21) (DV.p g3.next 0)) (some 22) (DV.b x)) :=
  ⟨hf, A, hl1, hx, hcq', hn0, ha, hs, e0, e3, rfl⟩
 refine wpC (t := x) rfl ⟨fun _ => ?_, fun _ => ?_⟩
 ·exact W.A hN
 ·exact W.B hN
theorem bNi (c : Pos) (lit : List DV) (h : Hp) : bN (aK [.p c 0, .a lit] 1) h = some (.p h.next 0, ⟨h.next.succ, Tr.set (.row .ex lit) h.next h.bl⟩) := rfl
theorem dLl (G : Gd) : kJ Tryz.prog G 242 lI := by
 refine dJc (C := CF0) (rec := fnD CF0 60) KC0 Try_ok dSl cVe fun args h v h1 hr hf => ?_
 unfold lI at hr
 split at hr <;> (try (cases hr; done))
 rename_i c lit
 obtain ⟨vb, hb, h0, hr⟩ := dF hr
 simp only [bD, bE, bM] at h0
 obtain ⟨rfl, rfl⟩ := h0
 obtain ⟨ls, h2, hl, hr⟩ := dF hr
 obtain ⟨rfl, _⟩ := rM hl
 obtain ⟨i, h3, hi, hr⟩ := dF hr
 obtain ⟨tt, h4, ht, hif⟩ := dF hr
 clear hr
 obtain ⟨rfl, hlt⟩ := xE (zY _ _ _) ht
 rw [dYm, dXy]
 refine wpS (aWh ?_)
 rw [rg0, bNi, bK]
 refine sU fun _ => ?_
 refine wpS (aWh ?_)
 rw [rg1]
 simp only [aQz, cFv, Nat.beq, show aK [.p c 0, .a lit] 0 = .p c 0 from rfl, bWo, bK, dMg, dKb, hl, hi]
 refine sU fun F4 => ?_
 refine wpS (wpS (aWh ?_))
 rw [rg2]
 simp only [aQz, cFv, Nat.beq, ht, bK]
 refine sU fun _ => ?_
 unfold aT at hif
 split at hif <;> (try (cases hif; done))
 ·refine wpC (t := true) rfl ⟨fun _ => ?_, fun e => (by cases e)⟩
  refine cNe hif F4 ?_ ?_ ?_
  ·rfl
  ·rfl
  ·intro env' h' e5 S
   exact bBj e5 S
 ·simp only [bE, bM] at hif
  obtain ⟨rfl, rfl⟩ := hif
  refine wpC (t := false) rfl ⟨fun e => (by cases e), fun _ => ?_⟩
  exact bBj rfl (Sim.refl _)
end Go.Dd

namespace Go.Dd
open Go.Proofs
theorem cMq : (itm.ops.toList.all fX) = true := by kernel_rfl
theorem cAl : Tryz.f183.body = some itm.code := by kernel_rfl
theorem dLx : ItOk Tryz.prog itm where
 pre := by kernel_rfl
 test := by kernel_rfl
 after := by kernel_rfl
 post := by kernel_rfl
 step := by kernel_rfl
 ops := List.all_eq_true.1 cMq
 dst := by kernel_rfl
 guard := by kernel_rfl
 op := ⟨#[3], by kernel_rfl⟩
 fn := ⟨Tryz.f183, Tryz.func183, cAl, by kernel_rfl, by kernel_rfl, by kernel_rfl⟩
theorem eAv : gC (cf Tryz.f95) = true := by kernel_rfl
theorem eCg : gC (cf Tryz.f94) = true := by kernel_rfl
theorem dVu : gC (cf Tryz.f330) = true := by kernel_rfl
theorem aKl {fn : Func} {c : Code} (h : fn.body = some c) : cf fn = c := by unfold cf; rw [h]
theorem dMn (f : FuncId) (hf : rgB f = true) (fn : Func) (c : Code) (h1 : Tryz.prog.funcs[f]? = some fn) (h2 : fn.body = some c) : gC c = true := by
 unfold rgB at hf
 simp only [Bool.or_eq_true] at hf
 rcases hf with hf | hf | hf <;> (have e := Nat.eq_of_beq_eq_true hf; subst e)
 ·rw [Tryz.func95] at h1
  cases h1
  rw [← aKl h2]
  exact eAv
 ·rw [Tryz.func94] at h1
  cases h1
  rw [← aKl h2]
  exact eCg
 ·rw [Tryz.func330] at h1
  cases h1
  rw [← aKl h2]
  exact dVu
end Go.Dd

namespace Go.Dd
open Go.Proofs Go.Lib Go.RowKit
theorem aRk (c : Nat) (hc : c < 256) : ∀ (l : List UInt8) (i : Nat), aQc c (l.map (·.toNat)) i = if indexByte l c.toUInt8 = -1 then -1 else indexByte l c.toUInt8 + i
 | [], i => rfl
 | b :: l, i => by
  have hb : Nat.beq b.toNat c = (b == c.toUInt8) := by
   rw [Bool.eq_iff_iff]
   constructor
   ·intro h
    have := Nat.eq_of_beq_eq_true h
    simp [← this]
   ·intro h
    have h2 : b = c.toUInt8 := by simpa using h
    rw [h2]
    have : (c.toUInt8).toNat = c := by simp [Nat.toUInt8]; omega
    rw [this]; simp
  show (bif Nat.beq b.toNat c then Int.ofNat i else aQc c (l.map (·.toNat)) (i + 1)) = _
  rw [hb]
  unfold indexByte
  cases h : (b == c.toUInt8) with
  | true => simp
  | false =>
   have ih := aRk c hc l (i + 1)
   have hge := indexByte_ge l c.toUInt8
   simp only [cond_false, Bool.false_eq_true, if_false]
   rw [ih]
   by_cases h1 : indexByte l c.toUInt8 = -1
   ·simp [h1]
   ·simp only [h1, if_false, beq_iff_eq]
    rw [if_neg (by omega)]
    omega
theorem dEq (G : Gd) : kJ Tryz.prog G 266 lV := by
 intro args h v h1 hr ρ w args' H hargs
 unfold lV at hr
 split at hr <;> (try (cases hr; done))
 rename_i l c
 cases hc : Nat.blt c 256 with
 | false => rw [hc] at hr; cases hr
 | true =>
  rw [hc] at hr
  have hc' : c < 256 := by simpa using hc
  simp only [cond_true, bE, bM] at hr
  obtain ⟨rfl, rfl⟩ := hr
  obtain ⟨a⟩ := args'
  cases hargs with
  | cons x x' l1 l1' hx hxs =>
  cases hxs with
  | cons y y' l2 l2' hy hys =>
  cases hys
  cases hx with
  | s l bs hbs =>
  cases hy with
  | i k n =>
  refine .inr ⟨ρ, w, .int .i64 (indexByte bs.data.toList c.toUInt8), ?_, Ex.refl _ _, ?_, H, Kp.refl _ _⟩
  ·rw [run_callFunc_extern (fn := Tryz.f266) (e := Extern.BytealgIndexByte.indexByte) (by kernel_rfl) (by kernel_rfl) (by kernel_rfl) (by kernel_rfl) (by kernel_rfl)]
   rw [run_indexByteString bs (Int.ofNat c) w]
   rfl
  ·have e := aRk c hc' bs.data.toList 0
   rw [hbs] at e
   have e2 : aQc c l 0 = indexByte bs.data.toList c.toUInt8 := by
    rw [e]
    split
    ·rename_i h; exact h.symm
    ·simp
   rw [e2]
   exact .i _ _
theorem aOp (G : Gd) (g : FuncId) (F : List DV → Hp → aH) (h : CF1.I g = some F) : kJ CF1.P G g F := by
 have e : CF1.I g = bif Nat.beq g 266 then some lV else bif Nat.beq g 242 then some lI else none := rfl
 rw [e] at h
 cases hg : Nat.beq g 266 with
 | true => rw [hg] at h; cases h; cases Nat.eq_of_beq_eq_true hg; exact dEq G
 | false =>
 rw [hg, cond_false] at h
 cases hg : Nat.beq g 242 with
 | true => rw [hg] at h; cases h; cases Nat.eq_of_beq_eq_true hg; exact dLl G
 | false => rw [hg] at h; cases h
theorem aYj (n : Nat) (G : Gd) (f : FuncId) : kJ Tryz.prog G f (fN CF1 n f) := cKo (C := CF1) Try_ok aOp dLx dMn n G f
end Go.Dd

namespace Go.Dd
open Go.RowKit (Below)
theorem HR.later {G : Gd} {ρ : cI} {h : Hp} {w w' : World} (H : HR G ρ h w) (e : Below w.heap.size w w') : HR G ρ h w' where
 gl := fun k hk => (e.block k (Nat.lt_of_lt_of_le hk H.sz.1)).trans (H.gl k hk)
 sz := ⟨Nat.le_trans H.sz.1 e.size, fun k hk => Nat.lt_of_lt_of_le (H.sz.2 k hk) e.size⟩
 nx := H.nx
 ro := H.ro
 dom := H.dom
 lt := H.lt
 cell := fun b k l L i v h1 h2 h3 h4 => by
  obtain ⟨v', h5, h6⟩ := H.cell b k l L i v h1 h2 h3 h4
  exact ⟨v', by rw [e.cell (dY h5)]; exact h5, h6⟩
 spare := fun b l L es j h1 h2 h3 => by
  obtain ⟨v', h5⟩ := H.spare b l L es j h1 h2 h3
  exact ⟨v', by rw [e.cell (dY h5)]; exact h5⟩
 free := fun b a h1 h2 => by
  obtain ⟨v, hv⟩ := H.lt_cell h1
  rw [e.frozen (dY hv)]
  exact H.free b a h1 h2
 inj := H.inj
 ex := H.ex
 grone := H.grone
 itr := fun b o L h1 h2 h3 => by
  obtain ⟨a, b, x, c, d⟩ := H.itr b o L h1 h2 h3
  refine ⟨a, b, x, ?_, d⟩
  rw [e.block _ (Array.getElem?_eq_some_iff.1 c).1]
  exact c
 itj := H.itj
theorem Kp.later {G : Gd} {ρ : cI} {h : Hp} {w w' : World} (H : HR G ρ h w) (e : Below w.heap.size w w') : Kp G w w' :=
 ⟨e.mono H.sz.1, fun k hk => e.block k (H.sz.2 k hk)⟩
def kO (ρ ρ2 : cI) : cI := fun b => match ρ b with
 | some L => some L
 | none => ρ2 b
section
variable {G G2 : Gd} {ρ ρ2 : cI} {h g : Hp} {w w' : World} {J : Tr Ob}
theorem HR.join (H : HR G ρ h w) (hb : Below w.heap.size w w') (H2 : HR G2 ρ2 g w') (hG2 : G2.B = w.heap.size) (low : ∀ b L, ρ2 b = some L → h.next.toNat ≤ b.toNat)
  (hk : ∀ b o, g.bl.get b = some o → o.sg = true ∨ ∃ l, o = .row .ex l) (hn : h.next.toNat ≤ g.next.toNat)
  (hJ : ∀ b, J.get b = match h.bl.get b with
   | some o => some o
   | none => g.bl.get b) : HR G (kO ρ ρ2) ⟨g.next, J⟩ w' ∧ Ex G ρ (kO ρ ρ2) ∧ Ext ρ2 (kO ρ ρ2) := by
 have H' := H.later hb
 have e1 : Ext ρ (kO ρ ρ2) := fun b L hL => by unfold kO; rw [hL]
 have no : ∀ b, h.next.toNat ≤ b.toNat → ρ b = none := fun b hb => by
  cases e : ρ b with
  | none => rfl
  | some L => have := H.lt b L e; omega
 have e2 : Ext ρ2 (kO ρ ρ2) := fun b L hL => by unfold kO; rw [no b (low b L hL)]; exact hL
 have two : ∀ b o, J.get b = some o → (h.bl.get b = some o ∧ ∃ L, ρ b = some L ∧ kO ρ ρ2 b = some L) ∨ (g.bl.get b = some o ∧ ∃ L, ρ2 b = some L ∧ kO ρ ρ2 b = some L) := fun b o ho => by
  rw [hJ] at ho
  cases hh : h.bl.get b with
  | some o' =>
   rw [hh] at ho
   cases ho
   obtain ⟨L, hL⟩ := H.dom b _ hh
   exact .inl ⟨rfl, L, hL, e1 _ _ hL⟩
  | none =>
   rw [hh] at ho
   obtain ⟨L, hL⟩ := H2.dom b o ho
   exact .inr ⟨ho, L, hL, e2 _ _ hL⟩
 have cl : ∀ {b a}, Claims (kO ρ ρ2) ⟨g.next, J⟩ b a → (Claims ρ h b a ∧ ∀ l, J.get b = some (.row .ro l) → h.bl.get b = some (.row .ro l)) ∨ (Claims ρ2 g b a ∧ ¬ isRo g b ∧ ∀ l, J.get b ≠ some (.row .ro l)) := by
  rintro b a ⟨k, l, L, q1, q2, q3⟩
  change J.get b = some (.row k l) at q1
  rcases two b _ q1 with ⟨c1, L', c2, c3⟩ | ⟨c1, L', c2, c3⟩
  ·have c3' := c3.symm.trans q2
   cases c3'
   exact .inl ⟨⟨k, l, L, c1, c2, q3⟩, fun l' hl' => by rw [q1] at hl'; rw [c1]; exact hl'⟩
  ·have c3' := c3.symm.trans q2
   cases c3'
   refine .inr ⟨⟨k, l, L, c1, c2, q3⟩, ?_, ?_⟩
   ·rintro ⟨l', hl'⟩
    rw [c1] at hl'
    cases hl'
    rcases hk b _ c1 with hs | ⟨_, hs⟩ <;> cases hs
   ·intro l' hl'
    rw [q1] at hl'
    cases hl'
    rcases hk b _ c1 with hs | ⟨_, hs⟩ <;> cases hs
 have old : ∀ {b a}, Claims ρ h b a → a.block < w.heap.size := fun hc => by
  obtain ⟨v, hv⟩ := H.lt_cell hc
  exact dY hv
 have own2 : ∀ {k}, Own G2 k → Own G k ∧ w.heap.size ≤ k := fun {k} ho => by
  have h1 := ho.1
  rw [hG2] at h1
  exact ⟨⟨Nat.le_trans H.sz.1 h1, fun hX => by have := H.sz.2 k hX; omega⟩, h1⟩
 refine ⟨⟨H'.gl, H'.sz, Nat.le_trans H.nx hn, ?_, ?_, ?_, ?_, ?_, ?_, ?_, ?_, ?_, ?_, ?_⟩, ⟨e1, fun b L hL => ?_⟩, e2⟩
 ·rintro b a hc ⟨l, hl⟩
  rcases cl hc with ⟨c, hr⟩ | ⟨_, _, hr⟩
  ·exact H'.ro b a c ⟨l, hr l hl⟩
  ·exact absurd hl (hr l)
 ·intro b o ho
  rcases two b o ho with ⟨_, L, _, c⟩ | ⟨_, L, _, c⟩
  ·exact ⟨L, c⟩
  ·exact ⟨L, c⟩
 ·intro b L hL
  unfold kO at hL
  cases e : ρ b with
  | some L' => have := H.lt b L' e; show b.toNat < g.next.toNat; omega
  | none => rw [e] at hL; exact H2.lt b L hL
 ·intro b k l L i v ho hL hi hv
  rcases two b _ ho with ⟨c1, L', c2, c3⟩ | ⟨c1, L', c2, c3⟩
  ·have c3' := c3.symm.trans hL
   cases c3'
   obtain ⟨v', q1, q2⟩ := H'.cell b k l L i v c1 c2 hi hv
   exact ⟨v', q1, q2.mono e1⟩
  ·have c3' := c3.symm.trans hL
   cases c3'
   obtain ⟨v', q1, q2⟩ := H2.cell b k l L i v c1 c2 hi hv
   exact ⟨v', q1, q2.mono e2⟩
 ·intro b l L es j ho hL hj
  rcases two b _ ho with ⟨c1, L', c2, c3⟩ | ⟨c1, L', c2, c3⟩
  ·have c3' := c3.symm.trans hL
   cases c3'
   exact H'.spare b l L es j c1 c2 hj
  ·have c3' := c3.symm.trans hL
   cases c3'
   exact H2.spare b l L es j c1 c2 hj
 ·intro b a hc hr
  rcases cl hc with ⟨c, hro⟩ | ⟨c, hnr, _⟩
  ·refine H'.free b a c fun ⟨l, hl⟩ => hr ⟨l, ?_⟩
   show J.get b = _
   rw [hJ, hl]
  ·obtain ⟨q1, q2⟩ := H2.free b a c hnr
   exact ⟨q1, (own2 q2).1⟩
 ·intro b b' a hc hc' hr
  rcases cl hc with ⟨c, _⟩ | ⟨c, hnr, _⟩
  ·rcases cl hc' with ⟨c', _⟩ | ⟨c', hnr', _⟩
   ·refine H'.inj b b' a c c' fun ⟨l, hl⟩ => hr ⟨l, ?_⟩
    show J.get b = _
    rw [hJ, hl]
   ·have h1 := old c
    have h2 := (own2 (H2.free b' a c' hnr').2).2
    omega
  ·rcases cl hc' with ⟨c', _⟩ | ⟨c', hnr', _⟩
   ·have h1 := old c'
    have h2 := (own2 (H2.free b a c hnr).2).2
    omega
   ·exact H2.inj b b' a c c' hnr
 ·intro b l L ho hL
  have key : ∀ o, J.get b = some o → (o = .row .ro l ∨ o = .row .ex l) → L.sp = 0 := fun o ho' hor => by
   rcases two b o ho' with ⟨c1, L', c2, c3⟩ | ⟨c1, L', c2, c3⟩
   ·have c3' := c3.symm.trans hL
    cases c3'
    rcases hor with rfl | rfl
    ·exact H'.ex b l L (.inl c1) c2
    ·exact H'.ex b l L (.inr c1) c2
   ·have c3' := c3.symm.trans hL
    cases c3'
    rcases hor with rfl | rfl
    ·exact H2.ex b l L (.inl c1) c2
    ·exact H2.ex b l L (.inr c1) c2
  rcases ho with ho | ho
  ·exact key _ ho (.inl rfl)
  ·exact key _ ho (.inr rfl)
 ·intro b es l i v ho hi
  rcases two b _ ho with ⟨c1, _⟩ | ⟨c1, _⟩
  ·exact H'.grone b es l i v c1 hi
  ·exact H2.grone b es l i v c1 hi
 ·intro b o L h0 ho hL
  rcases two b o ho with ⟨c1, L', c2, c3⟩ | ⟨c1, L', c2, c3⟩
  ·have c3' := c3.symm.trans hL
   cases c3'
   obtain ⟨q1, q2, x, q3, q4⟩ := H'.itr b o L h0 c1 c2
   exact ⟨q1, q2, x, q3, q4.mono e1⟩
  ·have c3' := c3.symm.trans hL
   cases c3'
   obtain ⟨q1, q2, x, q3, q4⟩ := H2.itr b o L h0 c1 c2
   exact ⟨(own2 q1).1, q2, x, q3, q4.mono e2⟩
 ·intro b o b' o' L L' h0 h0' ho ho' hL hL' he
  have lo : ∀ {b o L}, o.sg = true → h.bl.get b = some o → ρ b = some L → L.bl < w.heap.size := fun {b o L} s1 s2 s3 => by
   obtain ⟨_, _, x, q, _⟩ := H.itr b o L s1 s2 s3
   exact (Array.getElem?_eq_some_iff.1 q).1
  rcases two b o ho with ⟨c1, K, c2, c3⟩ | ⟨c1, K, c2, c3⟩ <;> (have c3' := c3.symm.trans hL; cases c3') <;>
   rcases two b' o' ho' with ⟨d1, K', d2, d3⟩ | ⟨d1, K', d2, d3⟩ <;> (have d3' := d3.symm.trans hL'; cases d3')
  ·exact H'.itj b o b' o' L L' h0 h0' c1 d1 c2 d2 he
  ·have q1 := lo h0 c1 c2
   have q2 := (own2 (H2.itr b' o' L' h0' d1 d2).1).2
   omega
  ·have q1 := lo h0' d1 d2
   have q2 := (own2 (H2.itr b o L h0 c1 c2).1).2
   omega
  ·exact H2.itj b o b' o' L L' h0 h0' c1 d1 c2 d2 he
 ·unfold kO at hL
  cases e : ρ b with
  | some L' => rw [e] at hL; exact .inl hL
  | none =>
   rw [e] at hL
   exact .inr (Nat.le_trans H.nx (low b L hL))
end
end Go.Dd

namespace Go.Dd
open Go.Proofs Go.RowKit
def gdS (w : World) (N : Nat) : Gd := ⟨w.heap.size, fun _ => False, N, w.heap, fun _ _ => trivial⟩
theorem HR.empty (w : World) (N : Nat) (p : Pos) (hN : N ≤ p.toNat) : HR (gdS w N) (fun _ => none) ⟨p, .e⟩ w := by
 constructor
 ·exact fun _ _ => rfl
 ·exact ⟨Nat.le_refl _, fun _ h => h.elim⟩
 ·exact hN
 ·rintro b a ⟨k, l, L, _, h2, _⟩; cases h2
 ·intro b o h; cases b <;> cases h
 ·intro b L h; cases h
 ·intro b k l L i v h h2; cases h2
 ·intro b l L es j h h2; cases h2
 ·rintro b a ⟨k, l, L, _, h2, _⟩; cases h2
 ·rintro b b' a ⟨k, l, L, _, h2, _⟩; cases h2
 ·intro b l L h h2; cases h2
 ·intro b es l i v h; cases b <;> cases h
 ·intro b s pos L h h2; cases h2
 ·intro b s pos b' s' pos' L L' h h' h2; cases h2
theorem aPx {f : FuncId} {args : List DV} {F : List DV → Hp → aH} {v : DV} {g1 : Hp} (hF : ∀ G, kJ Tryz.prog G f F) (hr : F args hS = some (v, g1)) (fn : Func) (hf : Tryz.prog.funcs[f]? = some fn) (hb : fn.body.isSome = true)
  (w : World) (args' : Array Value) (hargs : VRs (fun _ => none) args args'.toList) :
  Calls Tryz.prog f args' w fun e w' => ∃ ρ' v', e = .returned v' ∧ VR ρ' v v' ∧ HR (gdS w 1024) ρ' g1 w' ∧ Below w.heap.size w w' ∧ ∀ b L, ρ' b = some L → 1024 ≤ b.toNat := by
 have hp : (bH 1).toNat = 1024 := by kernel_rfl
 have H : HR (gdS w 1024) (fun _ => none) hS w := HR.empty w 1024 (bH 1) (by rw [hp]; exact Nat.le_refl _)
 rcases hF (gdS w 1024) args hS v g1 hr _ w args' H hargs with ⟨_, h⟩ | ⟨ρ', w', v', h, _⟩
 ·refine h.mono ?_
  rintro e w' ⟨ρ', v', h1, h2, h3, h4, h5⟩
  exact ⟨ρ', v', h1, h3, h4, h5.low, fun b L hL => (h2.new b L hL).resolve_left (fun e => by cases e)⟩
 ·exfalso
  have hn : ¬ fn.name = "runtime.NumGoroutine" := by simpa using Try_ok.names f fn hf
  have hbn : fn.body ≠ none := by intro e; rw [e] at hb; cases hb
  unfold callFunc at h
  simp [hf, hn, hbn] at h
theorem aRj {f : FuncId} {fn : Func} (hf : Tryz.prog.funcs[f]? = some fn) (hb : fn.body.isSome = true) (args : Array Value) (w : World) : (callFunc f args).run Tryz.prog w = .ok (.enter f args) w := by
 have hn : ¬ fn.name = "runtime.NumGoroutine" := by simpa using Try_ok.names f fn hf
 have hbn : fn.body ≠ none := by intro e; rw [e] at hb; cases hb
 unfold callFunc
 simp [hf, hn, hbn]
theorem bJg {f : FuncId} {F : List DV → Hp → aH} {r : Bool} {h1 : Hp} (hF : ∀ G, kJ Tryz.prog G f F) (hr : F [] hS = some (.b r, h1)) (fn : Func) (hf : Tryz.prog.funcs[f]? = some fn) (hb : fn.body.isSome = true) (G : Gd) :
  kJ Tryz.prog G f (fun args h => match args with
   | [] => some (.b r, h)
   | _ => none) := by
 intro args h v h2 he ρ w args' H hargs
 cases args with
 | cons _ _ => cases he
 | nil =>
  simp only [bE, bM] at he
  obtain ⟨rfl, rfl⟩ := he
  have e0 : args' = #[] := by
   obtain ⟨a⟩ := args'
   cases hargs
   rfl
  subst e0
  refine .inl ⟨aRj hf hb _ _, ?_⟩
  refine (aPx hF hr fn hf hb w #[] .nil).mono ?_
  rintro e w' ⟨ρ', v', rfl, hv, _, hbel, _⟩
  cases hv
  exact ⟨ρ, _, rfl, Ex.refl _ _, .b _, H.later hbel, Kp.later H hbel⟩
theorem Sim.tf {a b c : Hp} (h : Sim 1 a b) (k : Sim 0 b c) : Sim 0 a c := ⟨k.next.trans h.next, fun p o hp => by
 obtain ⟨o', h1, h2⟩ := h.get p o hp
 rw [iW h2] at h1
 exact k.get p o h1⟩
theorem aBh (o : Ob) : Rep 1 o o := by cases o <;> exact rfl
theorem eFa : Sim 0 hS hS := ⟨rfl, fun b o hb => by cases b <;> cases hb⟩
theorem bGu (g : FuncId) (F : List DV → Hp → aH) (hg : CF.I g = some F) (n : Nat) (args : List DV) : SimP 0 (F args) (bU CF1 (fN CF1 (n + 12)) g args) := by
 change (bif Nat.beq g 266 then some lV else bif Nat.beq g 242 then some lI else aAy g) = some F at hg
 have hcall : bU CF1 (fN CF1 (n + 12)) g args = fun h => match (bif Nat.beq g 266 then some lV else bif Nat.beq g 242 then some lI else none : Option (List DV → Hp → aH)) with
  | some F => F args h
  | none => fN CF1 (n + 12) g args h := rfl
 rw [hcall]
 cases h1 : Nat.beq g 266 with
 | true => rw [h1] at hg; cases hg; exact aDt args
 | false =>
  cases h2 : Nat.beq g 242 with
  | true => rw [h1, h2] at hg; cases hg; exact aLd args
  | false =>
   rw [h1, h2] at hg
   exact aQn g F hg n args
theorem aPj {g : FuncId} (hg : CF.I g = none) : CF1.I g = none := by
 show (bif Nat.beq g 266 then some lV else bif Nat.beq g 242 then some lI else none) = none
 change (bif Nat.beq g 266 then some lV else bif Nat.beq g 242 then some lI else aAy g) = none at hg
 cases h1 : Nat.beq g 266 with
 | true => rw [h1] at hg; cases hg
 | false =>
  cases h2 : Nat.beq g 242 with
  | true => rw [h1, h2] at hg; cases hg
  | false => rfl
theorem aSr : ∃ g', fN CF1 912 10 [.i .i64 (.ofNat 20000)] hS = some (.t [.p (bH 7) 0, .i .i64 (.ofNat 0)], g') ∧ Sim 0 hN g' := by
 obtain ⟨g, h1, h2⟩ := dKh
 rw [aDx] at h1
 obtain ⟨g', h3, h4⟩ := aZc 900 10 [.i .i64 (.ofNat 20000)] hS hS eFa _ _ h1
 exact ⟨g', h3, h2.tf h4⟩
section known
variable {g1 : Hp} {HL : List (Pos × Ob)} {nx0 : Nat}
noncomputable def exL (g1 : Hp) (l : List (Pos × Ob)) : List (Pos × Ob) := l.map fun x => (x.1, (g1.bl.get x.1).getD x.2)
theorem aRb (l : List (Pos × Ob)) (t : Tr Ob) (b : Pos) : (gX l t).get b = match (gX l .e).get b with
  | some o => some o
  | none => t.get b := by
 induction l with
 | nil => rw [show gX [] t = t from rfl, show gX [] .e = .e from rfl, Tr.get_e]
 | cons x l ih =>
  show (Tr.set x.2 x.1 (gX l t)).get b = match (Tr.set x.2 x.1 (gX l .e)).get b with
   | some o => some o
   | none => t.get b
  by_cases e : b = x.1
  ·rw [e, eDv, eDv]
  ·rw [eDu _ _ _ _ e, eDu _ _ _ _ e]
   exact ih
theorem cJd (l : List (Pos × Ob)) (b : Pos) (o : Ob) (h : (gX l .e).get b = some o) : (b, o) ∈ l := by
 induction l with
 | nil => rw [show gX [] .e = .e from rfl, Tr.get_e] at h; cases h
 | cons x l ih =>
  change (Tr.set x.2 x.1 (gX l .e)).get b = some o at h
  by_cases e : b = x.1
  ·rw [e, eDv] at h
   cases h
   rw [e]
   exact List.mem_cons_self
  ·rw [eDu _ _ _ _ e] at h
   exact List.mem_cons_of_mem _ (ih h)
theorem nE (g1 : Hp) (l : List (Pos × Ob)) (b : Pos) : (gX (exL g1 l) .e).get b = ((gX l .e).get b).map fun o => (g1.bl.get b).getD o := by
 induction l with
 | nil => rw [show exL g1 [] = [] from rfl, show gX [] .e = .e from rfl, Tr.get_e]; rfl
 | cons x l ih =>
  show (Tr.set ((g1.bl.get x.1).getD x.2) x.1 (gX (exL g1 l) .e)).get b = ((Tr.set x.2 x.1 (gX l .e)).get b).map _
  by_cases e : b = x.1
  ·rw [e, eDv, eDv]
   rfl
  ·rw [eDu _ _ _ _ e, eDu _ _ _ _ e]
   exact ih
theorem aHa (S : Sim 0 (eH nx0 HL) g1) {b : Pos} {o : Ob} (h : (gX HL .e).get b = some o) : ∃ o', g1.bl.get b = some o' ∧ Rep 0 o o' ∧ (gX (exL g1 HL) .e).get b = some o' := by
 obtain ⟨o', h1, h2⟩ := S.get b o h
 refine ⟨o', h1, h2, ?_⟩
 rw [nE, h, h1]
 rfl
noncomputable def aPi (o : Ob) : Bool := match o with
 | .row .ex _ => true
 | .mp _ => true
 | .big _ _ => true
 | .mi _ => true
 | _ => false
noncomputable def cRf (l : List (Pos × Ob)) : Bool := List.rec (motive := fun _ => Bool) true (fun x _ ih => aPi x.2 && ih) l
theorem aRg : ∀ {l : List (Pos × Ob)}, cRf l = true → ∀ x ∈ l, aPi x.2 = true
 | [], _, x, h => by cases h
 | y :: l, hl, x, h => by
  change (aPi y.2 && cRf l) = true at hl
  simp only [Bool.and_eq_true] at hl
  simp only [List.mem_cons] at h
  rcases h with rfl | h
  ·exact hl.1
  ·exact aRg hl.2 x h
theorem bJo {o o' : Ob} (hk : aPi o = true) (h : Rep 0 o o') : o'.sg = true ∨ ∃ l, o' = .row .ex l := by
 unfold aPi at hk
 split at hk
 ·have : o' = _ := h
  exact .inr ⟨_, this⟩
 ·have : o' = _ := h
  rw [this]
  exact .inl rfl
 ·exact .inr ⟨_, h.2⟩
 ·obtain ⟨es, h1, _⟩ := h
  rw [h1]
  exact .inl rfl
 ·cases hk
noncomputable def aAb (p : List DV → Bool) (v0 : DV) (nx0 : Nat) (HL : List (Pos × Ob)) (g1 : Hp) (args : List DV) (h : Hp) : aH :=
 bif p args && mB h.next (bH 1) then some (v0, ⟨bH nx0, gX (exL g1 HL) h.bl⟩) else none
theorem bJe (S1 : Sim 0 (eH nx0 HL) g1) (p : List DV → Bool) (v0 : DV) (args : List DV) : SimP 0 (aTg p v0 nx0 HL args) (aAb p v0 nx0 HL g1 args) := by
 intro h h' S
 unfold aTg aAb
 rw [S.next]
 cases (p args && mB h.next (bH 1)) with
 | false => exact SimR.none _
 | true =>
  intro v k e
  simp only [cond_true, bE, bM] at e
  obtain ⟨rfl, rfl⟩ := e
  refine ⟨⟨bH nx0, gX (exL g1 HL) h'.bl⟩, rfl, rfl, fun b o ho => ?_⟩
  change (gX HL h.bl).get b = some o at ho
  show ∃ o', (gX (exL g1 HL) h'.bl).get b = some o' ∧ Rep 0 o o'
  rw [aRb] at ho ⊢
  cases hb : (gX HL .e).get b with
  | some o1 =>
   rw [hb] at ho
   cases ho
   obtain ⟨o', _, h2, h3⟩ := aHa S1 hb
   exact ⟨o', by rw [h3], h2⟩
  | none =>
   rw [hb] at ho
   rw [nE, hb]
   exact S.get b o ho
theorem bZu {f : FuncId} {F : List DV → Hp → aH} (hF : ∀ G, kJ Tryz.prog G f F) {args0 : List DV} {v0 : DV} (hr0 : F args0 hS = some (v0, g1)) (S1 : Sim 0 (eH nx0 HL) g1) (hk : cRf HL = true) (hnx0 : 1024 ≤ (bH nx0).toNat)
  (fn : Func) (hf : Tryz.prog.funcs[f]? = some fn) (hb : fn.body.isSome = true) {p : List DV → Bool} (hp : ∀ args, p args = true → args = args0) (h0 : ∀ ρ l, VRs ρ args0 l → VRs (fun _ => none) args0 l) (G : Gd) : kJ Tryz.prog G f (aAb p v0 nx0 HL g1) := by
 intro args h v h1 hr ρ w args' H hargs
 unfold aAb at hr
 cases hc : (p args && mB h.next (bH 1)) with
 | false => rw [hc] at hr; cases hr
 | true =>
  rw [hc] at hr
  simp only [cond_true, bE, bM] at hr
  obtain ⟨rfl, rfl⟩ := hr
  simp only [Bool.and_eq_true] at hc
  have ha := hp _ hc.1
  subst ha
  have hnx := lM _ _ hc.2
  have hp1 : (bH 1).toNat = 1024 := by kernel_rfl
  refine .inl ⟨aRj hf hb _ _, ?_⟩
  refine (aPx hF hr0 fn hf hb w args' (h0 _ _ hargs)).mono ?_
  rintro e w' ⟨ρ2, v', rfl, hv, H2, hbel, hlow⟩
  have S2 : Sim 1 ⟨g1.next, gX (exL g1 HL) .e⟩ g1 := ⟨rfl, fun b o ho => by
   change (gX (exL g1 HL) .e).get b = some o at ho
   rw [nE] at ho
   cases hb : (gX HL .e).get b with
   | none => rw [hb] at ho; cases ho
   | some o1 =>
    obtain ⟨o', q1, _, q3⟩ := aHa S1 hb
    rw [nE] at q3
    rw [q3] at ho
    cases ho
    exact ⟨_, q1, aBh _⟩⟩
  have hgn : g1.next = bH nx0 := S1.next
  have H3 := HR.sub S2 H2
  obtain ⟨j1, j2, j3⟩ := H.join (J := gX (exL g1 HL) h.bl) hbel H3 rfl (fun b L hL => by rw [hnx, hp1]; exact hlow b L hL) (fun b o ho => by
    change (gX (exL g1 HL) .e).get b = some o at ho
    rw [nE] at ho
    cases hb : (gX HL .e).get b with
    | none => rw [hb] at ho; cases ho
    | some o1 =>
     obtain ⟨o', q1, q2, q3⟩ := aHa S1 hb
     rw [nE] at q3
     rw [q3] at ho
     cases ho
     exact bJo (aRg hk _ (cJd _ _ _ hb)) q2) (by
    show h.next.toNat ≤ g1.next.toNat
    rw [hnx, hgn, hp1]
    exact hnx0) (fun b => by
    rw [aRb]
    cases hb : (gX (exL g1 HL) .e).get b with
    | none => cases h.bl.get b <;> rfl
    | some o =>
     cases hh : h.bl.get b with
     | none => rfl
     | some o1 =>
      exfalso
      obtain ⟨L, hL⟩ := H.dom b o1 hh
      have q1 := H.lt b L hL
      obtain ⟨L2, hL2⟩ := H3.dom b o hb
      have q2 := hlow b L2 hL2
      rw [hnx, hp1] at q1
      omega)
  rw [hgn] at j1
  exact ⟨kO ρ ρ2, v', rfl, j2, hv.mono j3, j1, Kp.later H hbel⟩
end known
noncomputable def gN1 : Hp := Classical.choose aSr
theorem cZo : fN CF1 912 10 [.i .i64 (.ofNat 20000)] hS = some (.t [.p (bH 7) 0, .i .i64 (.ofNat 0)], gN1) := (Classical.choose_spec aSr).1
theorem bIm : Sim 0 hN gN1 := (Classical.choose_spec aSr).2
theorem bNa : cRf HLN = true := by kernel_rfl
noncomputable def bRv : List DV → Hp → aH := aAb bGz (.t [.p (bH 7) 0, .i .i64 (.ofNat 0)]) 26855 HLN gN1
theorem cKp (args : List DV) : SimP 0 (dHy args) (bRv args) := bJe bIm _ _ _
theorem bQq (args : List DV) (h : bGz args = true) : args = [.i .i64 (.ofNat 20000)] := by
 unfold bGz at h
 split at h
 ·rw [Nat.eq_of_beq_eq_true h]
 ·cases h
theorem cWu {k : IntKind} {n : Int} (ρ : cI) (l : List Value) (h : VRs ρ [.i k n] l) : VRs (fun _ => none) [.i k n] l := by
 cases h with
 | cons _ _ _ _ q1 q2 =>
  cases q1
  cases q2
  exact .cons _ _ _ _ (.i _ _) .nil
theorem cDj (G : Gd) : kJ Tryz.prog G 10 bRv :=
 bZu (fun G => aYj 912 G 10) cZo bIm bNa (by rw [show (bH 26855).toNat = 27878 from by kernel_rfl]; decide) Tryz.f10 Tryz.func10 (by kernel_rfl) bQq cWu G
noncomputable def sO : RT := fun g => bif Nat.beq g 10 then bRv else fN CF1 912 g
theorem bVj : OkC CF1 sO := by
 refine ⟨aOp, fun G g => ?_⟩
 unfold sO
 cases hg : Nat.beq g 10 with
 | true => cases Nat.eq_of_beq_eq_true hg; exact cDj G
 | false => exact aYj 912 G g
theorem cVy (n : Nat) (g : FuncId) (args : List DV) (h : Hp) : aXj n g args h = bif Nat.beq g 10 then dHy args h else qO n g args h := rfl
theorem cOy (g : FuncId) (args : List DV) : SimP 0 (aXj 900 g args) (sO g args) := by
 intro h h' S
 rw [cVy]
 unfold sO
 cases hg : Nat.beq g 10 with
 | false =>
  rw [cond_false, cond_false, aDx]
  exact aZc 900 g args h h' S
 | true => exact cKp args h h' S
theorem HCN (g : FuncId) (args : List DV) : SimP 0 (bU CF (aXj 900) g args) (bU CF1 sO g args) := by
 cases hg : CF.I g with
 | none => rw [nA hg, nA (aPj hg)]; exact cOy g args
 | some F =>
  have e : bU CF (aXj 900) g args = F args := by funext k; unfold bU; rw [hg]
  rw [e]
  have e1 : bU CF1 sO g args = bU CF1 (fN CF1 912) g args := by
   cases h10 : Nat.beq g 10 with
   | true =>
    cases Nat.eq_of_beq_eq_true h10
    exact absurd hg (by show ¬ CF.I 10 = some F; exact fun e => by cases e)
   | false =>
    funext k
    unfold bU sO
    rw [h10]
    rfl
  rw [e1]
  exact bGu g F hg 900 args
theorem cGw : ∃ g, aG CF1 sO 912 16 [] hS = some (.b true, g) := by
 have hl := dQa
 cases hr : s16 (aXj 900) 900 hS with
 | none => rw [hr] at hl; cases hl
 | some p =>
  obtain ⟨v, k⟩ := p
  rw [hr] at hl
  cases v <;> (try (cases hl; done))
  rename_i b
  change b = true at hl
  subst hl
  obtain ⟨g, h1, h2⟩ := kK (P := Tryz.prog) (I2 := CF.I) (I1 := CF1.I) HCN 900 12 16 [] hS hS eFa _ _ ((dDf (aXj 900) 900 [] hS).trans hr)
  exact ⟨g, h1⟩
structure Ro (w : World) (ρ : cI) (h : Hp) : Prop where
 dom : ∀ b o, h.bl.get b = some o → ∃ L, ρ b = some L
 lt : ∀ b L, ρ b = some L → b.toNat < h.next.toNat
 row : ∀ b o, h.bl.get b = some o → ∃ l, o = .row .ro l
 cell : ∀ b l L i v, h.bl.get b = some (.row .ro l) → ρ b = some L → l[i]? = some v → ∃ v', w.cell? (fO L i) = some v' ∧ VR ρ v v'
 sp : ∀ b o L, h.bl.get b = some o → ρ b = some L → L.sp = 0
theorem Ro.isRo {w : World} {ρ : cI} {h : Hp} (R : Ro w ρ h) {b : Pos} {a : Addr} (c : Claims ρ h b a) : isRo h b := by
 obtain ⟨k, l, L, h1, h2, _⟩ := c
 obtain ⟨l', e⟩ := R.row b _ h1
 exact ⟨l', by rw [h1, e]⟩
theorem Ro.hr {w : World} {ρ : cI} {h : Hp} (R : Ro w ρ h) : HR (gdS w 0) ρ h w where
 gl := fun _ _ => rfl
 sz := ⟨Nat.le_refl _, fun _ hh => hh.elim⟩
 nx := Nat.zero_le _
 ro := fun b a c _ => by
  obtain ⟨k, l, L, h1, h2, h3⟩ := c
  obtain ⟨l', e⟩ := R.row b _ h1
  cases e
  rcases h3 with ⟨i, v, h4, h5, rfl⟩ | ⟨es, j, h4, _⟩
  ·obtain ⟨v', h6, _⟩ := R.cell b _ L i v h1 h2 h4
   exact dY h6
  ·cases h4
 dom := R.dom
 lt := R.lt
 cell := fun b k l L i v h1 h2 h3 h4 => by
  obtain ⟨l', e⟩ := R.row b _ h1
  cases e
  exact R.cell b _ L i v h1 h2 h3
 spare := fun b l L es j h1 => by
  obtain ⟨l', e⟩ := R.row b _ h1
  cases e
 free := fun b a c hn => absurd (R.isRo c) hn
 inj := fun b b' a c c' hn => absurd (R.isRo c) hn
 ex := fun b l L h1 h2 => by
  rcases h1 with h1 | h1
  ·exact R.sp b _ L h1 h2
  ·exact R.sp b _ L h1 h2
 grone := fun b es l i v h1 => by
  obtain ⟨l', e⟩ := R.row b _ h1
  cases e
 itr := fun b o L hs h1 _ => by
  obtain ⟨l', rfl⟩ := R.row b _ h1
  cases hs
 itj := fun b o b' o' L L' hs hs' h1 _ _ _ _ => by
  obtain ⟨l', rfl⟩ := R.row b _ h1
  cases hs
theorem Ro.none (w : World) (p : Pos) : Ro w (fun _ => none) ⟨p, .e⟩ where
 dom := fun b o h => by cases b <;> cases h
 lt := fun b L h => by cases h
 row := fun b o h => by cases b <;> cases h
 cell := fun b l L i v h => by cases b <;> cases h
 sp := fun b o L h => by cases b <;> cases h
theorem Ro.sim {w : World} {ρ : cI} {h : Hp} (R : Ro w ρ h) : Sim 0 h h := ⟨rfl, fun b o e => by
 obtain ⟨l, rfl⟩ := R.row b o e
 exact ⟨_, e, rfl⟩⟩
end Go.Dd

namespace Go.Dd
open Go.Proofs Go.RowKit
noncomputable def aBb : RT := fun g args h => bif Nat.beq g 16 then (match args with
 | [] => some (.b true, h)
 | _ => none) else qO 900 g args h
noncomputable def aQl : RT := fun g => bif Nat.beq g 16 then (fun args h => match args with
 | [] => some (.b true, h)
 | _ => none) else fN CF1 912 g
theorem bZj : OkC CF1 aQl := by
 refine ⟨aOp, fun G g => ?_⟩
 unfold aQl
 cases hg : Nat.beq g 16 with
 | true =>
  cases Nat.eq_of_beq_eq_true hg
  obtain ⟨k, hk⟩ := cGw
  exact bJg (fun G => wP bVj Try_ok 912 16) hk Tryz.f16 Tryz.func16 (by kernel_rfl) G
 | false => exact aYj 912 G g
theorem HCL (g : FuncId) (args : List DV) : SimP 0 (bU CF aBb g args) (bU CF1 aQl g args) := by
 cases hg : CF.I g with
 | none =>
  rw [nA hg, nA (aPj hg)]
  intro h h' S
  show SimR 0 (bif Nat.beq g 16 then (match args with
   | [] => some (.b true, h)
   | _ => none) else qO 900 g args h) ((bif Nat.beq g 16 then (fun args h => match args with
   | [] => some (.b true, h)
   | _ => none : List DV → Hp → aH) else fN CF1 912 g) args h')
  cases h16 : Nat.beq g 16 with
  | true =>
   rw [cond_true, cond_true]
   cases args with
   | nil => exact SimR.some S _
   | cons a l => exact SimR.none _
  | false =>
   rw [cond_false, cond_false, aDx]
   exact aZc 900 g args h h' S
 | some F =>
  have e : bU CF aBb g args = F args := by funext k; unfold bU; rw [hg]
  have e1 : bU CF1 aQl g args = bU CF1 (fN CF1 912) g args := by
   cases h16 : Nat.beq g 16 with
   | true =>
    cases Nat.eq_of_beq_eq_true h16
    exact absurd hg (by show ¬ CF.I 16 = some F; exact fun e => by cases e)
   | false =>
    funext k
    unfold bU aQl
    rw [h16]
    rfl
  rw [e, e1]
  exact bGu g F hg 900 args
theorem dBa {f : FuncId} {args : List DV} (hr : ∃ k, aG CF aBb 900 f args hS = some (.b true, k)) (fn : Func) (hf : Tryz.prog.funcs[f]? = some fn) (hb : fn.body.isSome = true)
  (w : World) (args' : Array Value) (hargs : VRs (fun _ => none) args args'.toList) :
  Calls Tryz.prog f args' w fun e w' => e = .returned (.bool true) ∧ Below w.heap.size w w' := by
 obtain ⟨k, hk⟩ := hr
 have R := Ro.none w (bH 1)
 obtain ⟨g, h1, _⟩ := kK (P := Tryz.prog) (I2 := CF.I) (I1 := CF1.I) HCL 900 12 f args hS hS R.sim _ _ hk
 have H := R.hr
 rcases wP bZj Try_ok 912 f args hS _ g h1 _ w args' H hargs with ⟨_, h⟩ | ⟨ρ', w', v', h, _⟩
 ·refine h.mono ?_
  rintro e w' ⟨ρ', v', rfl, h2, h3, h4, h5⟩
  cases h3
  exact ⟨rfl, h5.low⟩
 ·exfalso
  have hn : ¬ fn.name = "runtime.NumGoroutine" := by simpa using Try_ok.names f fn hf
  have hbn : fn.body ≠ none := by intro e; rw [e] at hb; cases hb
  unfold callFunc at h
  simp [show CF1.P.funcs[f]? = some fn from hf, hn, hbn] at h
theorem wJ (args : List DV) (h : Hp) : aBb 10 args h = qO 900 10 args h := by
 have e : Nat.beq 10 16 = false := by decide
 unfold aBb
 rw [e, cond_false]
theorem uY (h : Hp) : aBb 16 [] h = some (.b true, h) := rfl
theorem bHh {n : Int} (hn : n < 16 ∨ 131072 < n) (h : Hp) : qO 900 10 [.i .i64 n] h = some (.t [.p0, .i .i64 (Int.ofNat 1)], h) := by
 have nw : rX [.i .i64 n] h = some (.p0, h) := by
  cases n with
  | negSucc k => rfl
  | ofNat k =>
   have hk : k < 16 ∨ 131072 < k := by
    rcases hn with q | q
    ·exact .inl (by have q : (k : Int) < 16 := q; omega)
    ·exact .inr (by have q : (131072 : Int) < (k : Int) := q; omega)
   unfold rX
   dsimp only
   have : (Nat.blt k 16 || Nat.blt 131072 k) = true := by
    rw [Bool.or_eq_true, iI, iI, decide_eq_true_eq, decide_eq_true_eq]
    exact hk
   rw [this]
   rfl
 have pe : ∀ t, pEq (.pointer t) true .p0 .p0 h = some (.b true, h) := fun t => rfl
 rw [qH 10 rfl 899, bEm]
 show s10 (qO 899) 899 (.i .i64 n) h = _
 unfold s10 aCc
 rw [nw, bK]
 unfold aBo
 rw [pe, bK, eG]
theorem bOh {k : Nat} (h1 : 16 ≤ k) (h2 : k < 16384) (h : Hp) : ∃ g, qO 900 10 [.i .i64 (.ofNat k)] h = some (.t [.p0, .i .i64 (Int.ofNat 4)], g) := by
 have nw : rX [.i .i64 (.ofNat k)] h = some (.p (bB 2 h.next) 0, ⟨bB 3 h.next, Tr.set (.row .ex [.l h.next 0 k k, .i .i64 (.ofNat 3), .i .i64 (.ofNat 0), .m (bB 1 h.next)]) (bB 2 h.next)
    (Tr.set (.mi .e) (bB 1 h.next) (Tr.set (.big k .e) h.next h.bl))⟩) := by
  have b1 : Nat.blt k 16 = false := by rw [iI, decide_eq_false_iff_not]; omega
  have b2 : Nat.blt 131072 k = false := by rw [iI, decide_eq_false_iff_not]; omega
  unfold rX
  dsimp only
  rw [b1, b2]
  rfl
 generalize (⟨bB 3 h.next, Tr.set (.row .ex [.l h.next 0 k k, .i .i64 (.ofNat 3), .i .i64 (.ofNat 0), .m (bB 1 h.next)]) (bB 2 h.next)
    (Tr.set (.mi .e) (bB 1 h.next) (Tr.set (.big k .e) h.next h.bl))⟩ : Hp) = g at nw
 have pe : ∀ t b h, pEq (.pointer t) true (.p b 0) .p0 h = some (.b false, h) := fun t b h => rfl
 have dl : decide ((.ofNat k : Int) < Int.ofNat 16384) = true := decide_eq_true (by show (k : Int) < 16384; omega)
 refine ⟨g, ?_⟩
 rw [qH 10 rfl 899, bEm]
 show s10 (qO 899) 899 (.i .i64 (.ofNat k)) h = _
 unfold s10 aCc
 rw [nw, bK]
 unfold aBo
 rw [pe, bK, fI, gE, bK, dl, eG]
theorem cCz {k : Nat} (h1 : 16384 ≤ k) (h2 : k ≤ 131072) : ∃ g, qO 900 10 [.i .i64 (.ofNat k)] hS = some (.t [.p (bH 7) 0, .i .i64 (Int.ofNat 0)], g) ∧
  g.bl.get (bH 7) = some (.row .ex [.p (bH 3) 0, .l (bH 4) 0 18 18, .m (bH 5), .m (bH 6)]) ∧ sI [.p (bH 3) 0] g = some (.i .i64 (.ofNat k), g) := by
 obtain ⟨S, rfl⟩ : ∃ S, k = S + 2 := ⟨k - 2, by omega⟩
 obtain ⟨g, e, Sm⟩ := dTb h1 h2
 have T := aQm Sm
 have gt : ∀ b o, (eH 26855 (mkL (S + 2) 4321 583 80 [8370, 1096, 6, 24, 42, 60, 78, 96, 114, 132, 150, 168, 186, 204, 222, 240, 258, 276] [] 75)).bl.get b = some o → g.bl.get b = some o := fun b o hb => jR T hb
 have r7 := gt (bH 7) (.row .ex [.p (bH 3) 0, .l (bH 4) 0 18 18, .m (bH 5), .m (bH 6)]) (by kernel_rfl)
 have r3 := gt (bH 3) (.row .ex [.l (bH 1) 0 (S + 2) (S + 2), .i .i64 (.ofNat 4321), .i .i64 (.ofNat 583), .m (bH 2)]) (by kernel_rfl)
 have r2 := gt (bH 2) (.mi (mkP (tB plF 583) .e)) (by kernel_rfl)
 have r1 := gt (bH 1) (.big (S + 2) (aEd [] (mkW (tB wsF 4321) 0 .e))) (by kernel_rfl)
 have hM := aKb r3 r1 r2 (by omega) (by omega) (by omega)
 refine ⟨g, e, r7, ?_⟩
 have := aPq hM
 unfold sI yM
 exact (kZ r3 (by omega)).trans this
end Go.Dd

namespace Go.Dd
open Go.Proofs
noncomputable def s5 (rec : FuncId → List DV → Hp → aH) (n : Nat) (x0 : DV) (h0 : Hp) : aH :=
 bnd (rec 10 [x0] h0) fun v1 h1 =>
 bnd (aD 0 v1 h1) fun v2 h2 =>
 bnd (aD 1 v1 h2) fun v3 h3 =>
 bnd (aE .lss x0 (.i .i64 (Int.ofNat 16)) h3) fun v4 h4 =>
 bnd (gD v4 false (some (x0, h4)) h4) fun v5 h5 =>
 bnd (gD v4 false (aE .gtr v5 (.i .i64 (Int.ofNat 131072)) h5) h5) fun v6 h6 =>
 bnd (aP v4 (.b true) v6 h6) fun v7 h7 =>
 aT v7 (
  bnd (pEq (.pointer 83) true v2 .p0 h7) fun v8 h8 =>
  bnd (gD v8 true (some (v3, h8)) h8) fun v9 h9 =>
  bnd (gD v8 true (aE .eql v9 (.i .i64 (Int.ofNat 1)) h9) h9) fun v10 h10 =>
  bnd (aP v8 v10 (.b false) h10) fun v11 h11 =>
  bnd (gD v11 true (rec 16 [] h11) h11) fun v12 h12 =>
  bnd (aP v11 v12 (.b false) h12) fun v13 h13 =>
  some (v13, h13)) (
  bnd (aE .lss x0 (.i .i64 (Int.ofNat 16384)) h7) fun v14 h14 =>
  aT v14 (
   bnd (pEq (.pointer 83) true v2 .p0 h14) fun v15 h15 =>
   bnd (gD v15 true (some (v3, h15)) h15) fun v16 h16 =>
   bnd (gD v15 true (aE .eql v16 (.i .i64 (Int.ofNat 4)) h16) h16) fun v17 h17 =>
   bnd (aP v15 v17 (.b false) h17) fun v18 h18 =>
   bnd (gD v18 true (rec 16 [] h18) h18) fun v19 h19 =>
   bnd (aP v18 v19 (.b false) h19) fun v20 h20 =>
   some (v20, h20)) (
   bnd (pEq (.pointer 83) false v2 .p0 h14) fun v21 h21 =>
   bnd (gD v21 true (some (v3, h21)) h21) fun v22 h22 =>
   bnd (gD v21 true (aE .eql v22 (.i .i64 (Int.ofNat 0)) h22) h22) fun v23 h23 =>
   bnd (aP v21 v23 (.b false) h23) fun v24 h24 =>
   bnd (gD v24 true (some (v2, h24)) h24) fun v25 h25 =>
   bnd (gD v24 true (rec 19 [v25] h25) h25) fun v26 h26 =>
   bnd (gD v24 true (sI [v26] h26) h26) fun v27 h27 =>
   bnd (gD v24 true (some (x0, h27)) h27) fun v28 h28 =>
   bnd (gD v24 true (aE .eql v27 v28 h28) h28) fun v29 h29 =>
   bnd (aP v24 v29 (.b false) h29) fun v30 h30 =>
   bnd (gD v30 true (rec 16 [] h30) h30) fun v31 h31 =>
   bnd (aP v30 v31 (.b false) h31) fun v32 h32 =>
   some (v32, h32)))
noncomputable def D5 (rec : FuncId → List DV → Hp → aH) (n : Nat) (c : Code) (X : Nat → K) (k : K) : K := aM CF rec 52 n c X (aQ CF Tryz.f5) k
theorem s5m (rec : FuncId → List DV → Hp → aH) (n : Nat) : D5 rec n (cf Tryz.f5) x0 (aQ CF Tryz.f5) = (fun (env : aO) (h : Hp) => s5 rec n (env 0) h) :=
 (by kernel_rfl)
theorem eCm (rec : FuncId → List DV → Hp → aH) (n : Nat) (args : List DV) (h : Hp) : aG CF rec n 5 args h = s5 rec n (args.getD 0 aX) h :=
 (by kernel_rfl : aG CF rec n 5 args h = D5 rec n (cf Tryz.f5) x0 (aQ CF Tryz.f5) (aK args) h).trans ((congrFun (congrFun (s5m rec n) (aK args)) h).trans (by kernel_rfl))
noncomputable def s19 (rec : FuncId → List DV → Hp → aH) (n : Nat) (x0 : DV) (h0 : Hp) : aH :=
 bnd (aU x0 h0) fun v1 h1 =>
 bnd (aB 0 v1 h1) fun v2 h2 =>
 bnd (aA v2 h2) fun v3 h3 =>
 some (v3, h3)
noncomputable def D19 (rec : FuncId → List DV → Hp → aH) (n : Nat) (c : Code) (X : Nat → K) (k : K) : K := aM CF rec 7 n c X (aQ CF Tryz.f19) k
theorem eBy (rec : FuncId → List DV → Hp → aH) (n : Nat) : D19 rec n (cf Tryz.f19) x0 (aQ CF Tryz.f19) = (fun (env : aO) (h : Hp) => s19 rec n (env 0) h) :=
 (by kernel_rfl)
theorem dVp (rec : FuncId → List DV → Hp → aH) (n : Nat) (args : List DV) (h : Hp) : aG CF rec n 19 args h = s19 rec n (args.getD 0 aX) h :=
 (by kernel_rfl : aG CF rec n 19 args h = D19 rec n (cf Tryz.f19) x0 (aQ CF Tryz.f19) (aK args) h).trans ((congrFun (congrFun (eBy rec n) (aK args)) h).trans (by kernel_rfl))
end Go.Dd

namespace Go.Dd
open Go.Proofs
theorem px0 (a b : DV) (h : Hp) : aD 0 (.t [a, b]) h = some (a, h) := Eq.trans rfl rfl
theorem px1 (a b : DV) (h : Hp) : aD 1 (.t [a, b]) h = some (b, h) := Eq.trans rfl rfl
theorem dGr (t : TypeId) (h : Hp) : pEq (.pointer t) true .p0 .p0 h = some (.b true, h) := Eq.trans rfl rfl
theorem dZy (t : TypeId) (b : Pos) (h : Hp) : pEq (.pointer t) false (.p b 0) .p0 h = some (.b true, h) := Eq.trans rfl rfl
theorem eDb {b : Pos} {kd : Kind} {l : List DV} {h : Hp} (hb : h.bl.get b = some (.row kd l)) {i : Nat} {v : DV} (hi : l[i]? = some v) (hv : v.one = true) : aA (.p b i) h = some (v, h) := by
 simp only [aA, cellD, rowOf, hb, hi, hv, if_true]
theorem dVa {h : Hp} {l : List DV} (hw : h.bl.get (bH 7) = some (.row .ex (.p (bH 3) 0 :: l))) : aBb 19 [.p (bH 7) 0] h = some (.p (bH 3) 0, h) := by
 have e : Nat.beq 19 16 = false := by decide
 unfold aBb
 rw [e, cond_false, qH 19 rfl 899, dVp]
 unfold s19
 have l0 : aA (.p (bH 7) (0 + 0)) h = some (.p (bH 3) 0, h) := eDb (i := 0 + 0) hw rfl rfl
 have g0 : ([DV.p (bH 7) 0] : List DV).getD 0 aX = .p (bH 7) 0 := rfl
 simp only [g0, gN, dM, bK, l0]
theorem cOf (n : Int) : ∃ k, aG CF aBb 900 5 [.i .i64 n] hS = some (.b true, k) := by
 rw [eCm]
 show ∃ k, s5 aBb 900 (.i .i64 n) hS = some (.b true, k)
 unfold s5
 have z1 : ((Int.ofNat 1 : Int) == Int.ofNat 1) = true := rfl
 have z4 : ((Int.ofNat 4 : Int) == Int.ofNat 4) = true := rfl
 have z0 : ((Int.ofNat 0 : Int) == Int.ofNat 0) = true := rfl
 by_cases c1 : n < 16
 ·have e := bHh (.inl c1) hS
  have d1 : decide (n < Int.ofNat 16) = true := decide_eq_true c1
  simp only [wJ, e, bK, px0, px1, gE, d1, jA, eAu, dN, eG, dGr, aBi, gB, z1, uY]
  exact ⟨_, rfl⟩
 ·have d1 : decide (n < Int.ofNat 16) = false := decide_eq_false c1
  by_cases c2 : 131072 < n
  ·have e := bHh (.inr c2) hS
   have d2 : decide (n > Int.ofNat 131072) = true := decide_eq_true c2
   simp only [wJ, e, bK, px0, px1, gE, lE, d1, d2, lW, eD, eG, dGr, aBi, gB, z1, dN, uY]
   exact ⟨_, rfl⟩
  ·have d2 : decide (n > Int.ofNat 131072) = false := decide_eq_false c2
   obtain ⟨k, rfl⟩ : ∃ k : Nat, n = Int.ofNat k := ⟨n.toNat, by show n = ((n.toNat : Nat) : Int); omega⟩
   have k1 : 16 ≤ k := by
    have : ¬ ((k : Int) < 16) := c1
    omega
   have k2 : k ≤ 131072 := by
    have : ¬ (131072 < (k : Int)) := c2
    omega
   by_cases c3 : k < 16384
   ·obtain ⟨g, e⟩ := bOh k1 c3 hS
    have d3 : decide (Int.ofNat k < Int.ofNat 16384) = true := decide_eq_true (by show (k : Int) < 16384; omega)
    simp only [wJ, e, bK, px0, px1, gE, lE, d1, d2, lW, eD, fI, d3, eG, dGr, aBi, gB, z4, dN, uY]
    exact ⟨_, rfl⟩
   ·obtain ⟨g, e, r7, sz⟩ := cCz (k := k) (by omega) k2
    have d3 : decide (Int.ofNat k < Int.ofNat 16384) = false := decide_eq_false (by show ¬ ((k : Int) < 16384); omega)
    have zk : (Int.ofNat k == Int.ofNat k) = true := by simp
    simp only [wJ, e, bK, px0, px1, gE, lE, d1, d2, lW, eD, fI, d3, dZy, aBi, gB, z0, dN, dVa r7, sz, zk, uY]
    exact ⟨_, rfl⟩
end Go.Dd

