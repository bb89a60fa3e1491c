/- A part of the proof: LM: each text has a comment of its own. -/
import Derived.Test.YtjfmbeinhhdapaaGreatDoorPE9
set_option linter.unusedVariables false
set_option linter.unusedSimpArgs false
set_option linter.constructorNameAsVariable false
set_option maxRecDepth 100000
noncomputable section
namespace Go.Dd
open Go.Proofs
theorem cZq (n : Nat) (x : DV) (h : Hp) : dB (n + 1) 26 [x] h = s26 (dB n) n x h:=(cH 26 rfl n [x] h).trans (cRm (dB n) n [x] h)
theorem aSe (x : Int) (h0 : -9223372036854775808 ≤ x) (h1 : x ≤ 9223372036854775807) : -9223372036854775808 ≤ x.tdiv 10 ∧ x.tdiv 10 ≤ 9223372036854775807:=by
 obtain ⟨m,rfl | rfl⟩:=Int.eq_nat_or_neg x
 ·rw [Int.tdiv_eq_ediv_of_nonneg (by omega)]
  omega
 ·rw [Int.neg_tdiv,Int.tdiv_eq_ediv_of_nonneg (by omega)]
  omega
theorem cSt (x : Int) (h0 : -9223372036854775808 ≤ x) (h1 : x ≤ 9223372036854775807) (h : Hp) : aD .quo (.i .i64 x) (.i .i64 (Int.ofNat 10)) h = some (.i .i64 (x.tdiv 10),h):=by
 have e : ¬ (Int.ofNat 10 = 0):=by decide
 simp only [aD,if_true,fF,if_neg e]
 have:=aSe x h0 h1
 rw [show x.tdiv (Int.ofNat 10) = x.tdiv 10 from rfl,kB _ (by omega)]
theorem cSd (x : Int) (h : Hp) : aD .rem (.i .i64 x) (.i .i64 (Int.ofNat 10)) h = some (.i .i64 (x.tmod 10),h):=by
 have e : ¬ (Int.ofNat 10 = 0):=by decide
 simp only [aD,if_true,fF,if_neg e]
 rfl
theorem cRd {n : Nat} (h : n < 256) (hp : Hp) : dV .u8 (.i .i64 (n : Int)) hp = some (.i .u8 (Int.ofNat n),hp):=by
 show some (DV.i .u8 (IntKind.u8.wrap (n : Int)),hp) = _
 have : IntKind.u8.wrap (n : Int) = Int.ofNat n:=by
  unfold IntKind.wrap
  simp [IntKind.bits,IntKind.signed,IntKind.min,IntKind.max]
  omega
 rw [this]
theorem mk1 (c : Nat) (hc : c < 256) (h : Hp) : ∃ y g,aO [(.i .u8 (Int.ofNat 0))] 1 [(0,1,bD c)] h = some (y,g) ∧ eZ y g = some (.s [c],g) ∧ Lo h.next.toNat h g :=
 ⟨.l h.next 0 1 1,⟨h.next.succ,Tr.set (.row .ex [bD c]) h.next h.bl⟩,rfl,cAk (l:=[c]) rfl (fun d hd=>by simp at hd; omega) (dXv _ _ _),Lo.new _ h⟩
section
variable {h : Hp}
theorem uB {m n : Nat} (hn : n < 10) (h : Hp) : ∃ h',dB (m + 1) 26 [.i .i64 (Int.ofNat n)] h = some (.s (dg n),h') ∧ Lo h.next.toNat h h':=by
 obtain ⟨y,g,e1,e2,e3⟩:=mk1 (48 + n) (by omega) h
 refine ⟨g, ?_,e3⟩
 rw [cZq]
 unfold s26 yD
 have p1 : decide (Int.ofNat n ≥ Int.ofNat 0) = true:=decide_eq_true (by show ((0 : Nat) : Int) ≤ (n : Int); omega)
 have p2 : decide (Int.ofNat n < Int.ofNat 10) = true:=decide_eq_true (by show (n : Int) < ((10 : Nat) : Int); omega)
 have p3 : dV .u8 (.i .i64 (Int.ofNat (48 + n))) h = some (.i .u8 (Int.ofNat (48 + n)),h):=cRd (n:=48 + n) (by omega) h
 simp only [lJ,p1,aI,nA,cO,p2,bN,bF,bZ 48 n h (by omega),p3,e1,e2]
 rw [lQ hn]
theorem bAm : ∀ (f n m : Nat) (h : Hp),n < 10 ^ f → n ≤ 9223372036854775807 → f < m → ∃ h',dB m 26 [.i .i64 (Int.ofNat n)] h = some (.s (dg n),h') ∧ Lo h.next.toNat h h'
 | 0,n,m,h,hn,hm,hf=>by
  obtain ⟨m,rfl⟩ : ∃ j,m = j + 1:=⟨m - 1,by omega⟩
  exact uB (by simp at hn; omega) h
 | f + 1,n,m,h,hn,hm,hf=>by
  obtain ⟨m,rfl⟩ : ∃ j,m = j + 1 + 1:=⟨m - 2,by omega⟩
  by_cases h10 : n < 10
  ·exact uB h10 h
  obtain ⟨h1,a1,a2⟩:=bAm f (n / 10) (m + 1) h (by rw [Nat.pow_succ] at hn; omega) (by omega) (by omega)
  obtain ⟨h2,b1,b2⟩:=uB (m:=m) (n:=n % 10) (by omega) h1
  refine ⟨h2, ?_,a2.trans (b2.mono a2.next)⟩
  rw [cZq]
  unfold s26 yD aBz
  have p1 : decide (Int.ofNat n ≥ Int.ofNat 0) = true:=decide_eq_true (by show ((0 : Nat) : Int) ≤ (n : Int); omega)
  have p2 : decide (Int.ofNat n < Int.ofNat 10) = false:=decide_eq_false (by show ¬ (n : Int) < ((10 : Nat) : Int); omega)
  have p3 : decide (Int.ofNat n > Int.ofNat 0) = true:=decide_eq_true (by show ((0 : Nat) : Int) < (n : Int); omega)
  have eq : (Int.ofNat n).tdiv 10 = Int.ofNat (n / 10):=by
   rw [Int.tdiv_eq_ediv_of_nonneg (by show (0 : Int) ≤ (n : Int); omega)]
   show (n : Int) / 10 = ((n / 10 : Nat) : Int)
   omega
  have er : (Int.ofNat n).tmod 10 = Int.ofNat (n % 10):=by
   rw [Int.tmod_eq_emod_of_nonneg (by show (0 : Int) ≤ (n : Int); omega)]
   show (n : Int) % 10 = ((n % 10 : Nat) : Int)
   omega
  have l1:=bWs (n / 10)
  have l2:=bWs (n % 10)
  simp only [lJ,p1,aI,nA,cO,p2,bN,bW,fP,p3,bF,cSt _ (show -9223372036854775808 ≤ Int.ofNat n by show -9223372036854775808 ≤ (n : Int); omega) (show Int.ofNat n ≤ 9223372036854775807 by show (n : Int) ≤ 9223372036854775807; omega),eq,a1,cSd,er,b1,bQ (dg (n / 10)) (dg (n % 10)) h2 (by omega)]
  rw [lQ (n:=n % 10) (by omega),← aJi (by omega) (by omega)]
theorem bCk {rec : RT} {n : Nat} : ∀ (f m : Nat) (h : Hp) (j : Nat) (acc : List Nat),m < 10 ^ f → 0 < m → m ≤ 9223372036854775808 → acc.length + f ≤ 1000 → f ≤ 20 → f < j →
  ∃ h',mY rec n j (.i .i64 (-(m : Int))) (.s acc) h = some (.s (45 :: (iC 20 m [] ++ acc)),h') ∧ Lo h.next.toNat h h'
 | 0,m,h,j,acc,hm,h0,h1,ha,hf,hj=>by simp at hm; omega
 | f + 1,m,h,j,acc,hm,h0,h1,ha,hf,hj=>by
  obtain ⟨j,rfl⟩ : ∃ q,j = q + 1 + 1:=⟨j - 2,by omega⟩
  have er : (-(m : Int)).tmod 10 = -((m % 10 : Nat) : Int):=by
   rw [Int.neg_tmod,Int.tmod_eq_emod_of_nonneg (by omega)]
   omega
  have eq : (-(m : Int)).tdiv 10 = -((m / 10 : Nat) : Int):=by
   rw [Int.neg_tdiv,Int.tdiv_eq_ediv_of_nonneg (by omega)]
   omega
  have p1 : decide (-(m : Int) < Int.ofNat 0) = true:=decide_eq_true (by show -(m : Int) < ((0 : Nat) : Int); omega)
  obtain ⟨y,g,e1,e2,e3⟩:=mk1 (48 + m % 10) (by omega) h
  have sb : aD .sub (.i .i64 (Int.ofNat 48)) (.i .i64 (-((m % 10 : Nat) : Int))) h = some (.i .i64 (((48 + m % 10 : Nat)) : Int),h):=by
   rw [bUr _ _ _ (by show -9223372036854775808 ≤ (48 : Int) - -((m % 10 : Nat) : Int) ∧ (48 : Int) - -((m % 10 : Nat) : Int) ≤ 9223372036854775807; omega)]
   congr 3
   show (48 : Int) - -((m % 10 : Nat) : Int) = _
   omega
  have p3:=cRd (n:=48 + m % 10) (by omega) h
  have step : ∀ jj,mY rec n (jj + 1) (.i .i64 (-(m : Int))) (.s acc) h = mY rec n jj (.i .i64 (-((m / 10 : Nat) : Int))) (.s ([48 + m % 10] ++ acc)) g:=by
   intro jj
   show qL rec n (mY rec n jj) _ _ h = _
   unfold qL
   simp only [cO,p1,aI,bF,cSd,er,sb,p3,e1,e2,bQ [48 + m % 10] acc g (by simp; omega),cSt _ (show -9223372036854775808 ≤ -(m : Int) by omega) (show -(m : Int) ≤ 9223372036854775807 by omega),eq]
  rw [step]
  by_cases h10 : m < 10
  ·have ez : m / 10 = 0:=by omega
   rw [ez]
   have p0 : decide (-((0 : Nat) : Int) < Int.ofNat 0) = false:=rfl
   refine ⟨g, ?_,e3⟩
   show qL rec n (mY rec n j) _ _ g = _
   unfold qL gW
   simp only [cO,p0,aI,bW,bQ [45] ([48 + m % 10] ++ acc) g (by simp; omega)]
   have:=lQ h10
   unfold dg at this
   rw [this]
   have : m % 10 = m:=by omega
   simp [this]
  ·obtain ⟨h',w1,w2⟩:=bCk f (m / 10) g (j + 1) ([48 + m % 10] ++ acc) (by rw [Nat.pow_succ] at hm; omega) (by omega) (by omega) (by simp; omega) (by omega) (by omega)
   refine ⟨h', ?_,e3.trans (w2.mono e3.next)⟩
   rw [w1]
   have:=aJi (n:=m) (by omega) (by omega)
   unfold dg at this
   rw [this]
   simp
theorem cXc {m : Nat} (hm : 40 < m) (x : Int) (h0 : -9223372036854775808 ≤ x) (h1 : x ≤ 9223372036854775807) (h : Hp) : ∃ h',dB m 26 [.i .i64 x] h = some (.s (cG x),h') ∧ Lo h.next.toNat h h':=by
 cases x with
 | ofNat n=>exact bAm 20 n m h (by simp at h1; omega) (by simp at h1; omega) (by omega)
 | negSucc n =>
  have e0 : Int.negSucc n = -((n + 1 : Nat) : Int):=rfl
  obtain ⟨m,rfl⟩ : ∃ j,m = j + 1:=⟨m - 1,by omega⟩
  obtain ⟨h',w1,w2⟩:=bCk (rec:=dB m) (n:=m) 20 (n + 1) h m [] (by omega) (by omega) (by omega) (by simp) (by omega) (by omega)
  refine ⟨h', ?_,w2⟩
  rw [cZq]
  unfold s26 yD aBz
  have p1 : decide (Int.negSucc n ≥ Int.ofNat 0) = false:=rfl
  have p3 : decide (Int.negSucc n > Int.ofNat 0) = false:=rfl
  simp only [lJ,p1,aI,gDt,Bool.false_eq_true,if_false,bM,bW,fP,p3]
  unfold aXp aWo bVl
  rw [← e0] at w1
  rw [w1,List.append_nil]
  rfl
def inI (x : Int) : Prop := -9223372036854775808 ≤ x ∧ x ≤ 9223372036854775807
theorem dBp {x : Int} (hx : inI x) (h : Hp) : jP [.i .i64 x] h = some (.s (cG x),h):=by
 simp [jP,hx.1,hx.2]
theorem cRo (x : Bs) (g : Hp) : bJ (some (.s x,g)) (.s x) = true:=by simp [bJ,DV.beq,oZ]
end
end Go.Dd

end
