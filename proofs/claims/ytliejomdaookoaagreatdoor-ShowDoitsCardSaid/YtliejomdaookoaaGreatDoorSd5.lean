/- A part of the proof: P21 P22 P23 P20 P24: each text has a comment of its own. -/
import Derived.Test.YtliejomdaookoaaGreatDoorSd4
set_option linter.unusedVariables false
set_option linter.unusedSimpArgs false
set_option linter.constructorNameAsVariable false
set_option maxRecDepth 100000
namespace Go.Dd
open Go.Proofs
theorem cBd (n : Nat) (x : DV) (h : Hp) : aJ (n + 1) 39 [x] h = s39 (aJ n) n x h := by kernel_rfl
theorem cHt (n : Nat) (x : DV) (h : Hp) : aJ (n + 1) 41 [x] h = s41 (aJ n) n x h := by kernel_rfl
theorem aJr (n : Nat) (x : DV) (h : Hp) : aJ (n + 1) 42 [x] h = s42 (aJ n) n x h := by kernel_rfl
theorem aFk {s : List Nat} (h : 58 ∈ s) : cA s = 3 := by
 unfold cA
 have := aHg 58 s 0
 rw [if_pos (by simpa [h] using this)]
theorem bEu {s : List Nat} (h : 58 ∉ s) : cA s = (match s with
 | [] => 2
 | c :: _ => if uN c = true then 1 else 2) := by
 unfold cA
 have := aHg 58 s 0
 rw [if_neg (by simpa [h] using this)]
 cases s <;> rfl
theorem aQu {s : List Nat} (hc : 58 ∉ s) (h : Hp) : Ev (fun n => fY (aJ n) n (.s s) h) (fun v h' => v = .i .i64 (cA s : Int) ∧ h' = h) := by
 have ek := bEu hc
 unfold fY
 refine Ev.lenS ?_
 cases s with
 | nil =>
  refine Ev.igt (fun e => ?_) (fun e => ?_)
  ·exact absurd e (by simp)
  ·refine yf ?_; refine yf ?_; refine yf ?_; refine yf ?_; refine yu ?_; refine yu ?_; refine yu ?_; refine yf ?_; refine yf ?_; refine yu ?_; refine yu ?_; refine yu ?_; refine yu ?_; refine yu ?_; refine yu ?_; refine yu ?_; refine yu ?_; refine yf ?_; refine aq ?_; refine yj ?_
   exact Ev.ret ⟨by rw [ek]; rfl, rfl⟩
 | cons c l =>
  have ei : bF (.s (c :: l)) (.i .i64 (Int.ofNat 0)) h = some (.i .u8 (c : Int), h) := by simp [bF]
  have k1 : ((97 ≤ c ∧ c ≤ 122) ∨ (65 ≤ c ∧ c ≤ 90)) → (cA (c :: l) : Int) = Int.ofNat 1 := fun hh => by rw [ek]; simp [aXn hh]
  have k2 : ¬ ((97 ≤ c ∧ c ≤ 122) ∨ (65 ≤ c ∧ c ≤ 90)) → (cA (c :: l) : Int) = Int.ofNat 2 := fun hh => by rw [ek]; simp [aZs hh]
  refine Ev.igt (fun e => ?_) (fun e => ?_)
  ·refine zt ?_; refine wm ?_; refine zt ?_
   refine Ev.op ei ?_
   refine zt ?_
   refine Ev.ige (fun e1 => ?_) (fun e1 => ?_)
   ·have e1' : 97 ≤ c := by have h0 := e1; simp at h0; omega
    refine zt ?_; refine wm ?_; refine zt ?_; refine wm ?_; refine zt ?_
    refine Ev.op ei ?_
    refine zt ?_
    refine Ev.ile (fun e2 => ?_) (fun e2 => ?_)
    ·have e2' : c ≤ 122 := by have h0 := e2; simp at h0; omega
     refine zt ?_; refine ap ?_; refine zt ?_; refine wm ?_; refine yg ?_; refine yg ?_; refine yg ?_; refine yg ?_; refine yu ?_; refine yu ?_; refine yu ?_; refine yg ?_; refine zt ?_; refine ap ?_; refine ap ?_; refine yt ?_
     exact Ev.ret ⟨by rw [k1 (by omega)], rfl⟩
    ·have e2' : ¬ c ≤ 122 := by have h0 := e2; simp at h0; omega
     refine zt ?_; refine ap ?_; refine zt ?_; refine wm ?_; refine zf ?_; refine wm ?_; refine zf ?_
     refine Ev.op ei ?_
     refine zf ?_
     refine Ev.ige (fun e3 => ?_) (fun e3 => ?_)
     ·refine zf ?_; refine wm ?_; refine zt ?_; refine wm ?_; refine zt ?_
      refine Ev.op ei ?_
      refine zt ?_
      refine Ev.ile (fun e4 => ?_) (fun e4 => ?_)
      ·have e4' : c ≤ 90 := by have h0 := e4; simp at h0; omega
       omega
      ·refine zf ?_; refine ap ?_; refine zt ?_; refine aq ?_; refine ap ?_; refine yj ?_
       exact Ev.ret ⟨by rw [k2 (by omega)], rfl⟩
     ·have e3' : ¬ 65 ≤ c := by have h0 := e3; simp at h0; omega
      omega
   ·have e1' : ¬ 97 ≤ c := by have h0 := e1; simp at h0; omega
    refine zt ?_; refine wm ?_; refine yf ?_; refine yf ?_; refine yf ?_; refine zt ?_; refine aq ?_; refine zt ?_; refine wm ?_; refine zf ?_; refine wm ?_; refine zf ?_
    refine Ev.op ei ?_
    refine zf ?_
    refine Ev.ige (fun e3 => ?_) (fun e3 => ?_)
    ·have e3' : 65 ≤ c := by have h0 := e3; simp at h0; omega
     refine zf ?_; refine wm ?_; refine zt ?_; refine wm ?_; refine zt ?_
     refine Ev.op ei ?_
     refine zt ?_
     refine Ev.ile (fun e4 => ?_) (fun e4 => ?_)
     ·have e4' : c ≤ 90 := by have h0 := e4; simp at h0; omega
      refine zf ?_; refine ap ?_; refine zt ?_; refine aq ?_; refine ap ?_; refine yt ?_
      exact Ev.ret ⟨by rw [k1 (by omega)], rfl⟩
     ·have e4' : ¬ c ≤ 90 := by have h0 := e4; simp at h0; omega
      refine zf ?_; refine ap ?_; refine zt ?_; refine aq ?_; refine ap ?_; refine yj ?_
      exact Ev.ret ⟨by rw [k2 (by omega)], rfl⟩
    ·have e3' : ¬ 65 ≤ c := by have h0 := e3; simp at h0; omega
     refine zf ?_; refine wm ?_; refine yf ?_; refine yf ?_; refine yf ?_; refine zf ?_; refine aq ?_; refine zt ?_; refine aq ?_; refine ap ?_; refine yj ?_
     exact Ev.ret ⟨by rw [k2 (by omega)], rfl⟩
  ·exact absurd (show (Int.ofNat 0) < ((c :: l).length : Int) by simp) e
theorem xJ {s : List Nat} (hs : s.length ≤ bL) (h : Hp) : ∀ (r : List Nat) (i j : Nat), s.drop i = r → i ≤ s.length → 58 ∉ s.take i →
 Ev (fun n => mZ (aJ n) n (n - j) (.s s) (.i .i64 (i : Int)) h) (fun v h' => v = .i .i64 (cA s : Int) ∧ h' = h)
 | [], i, j, hr, hi, hc => by
  refine Ev.loop j (ll := fun n p => mZ (aJ n) n p (.s s) (.i .i64 (i : Int)) h) (bb := fun n p => tU (aJ n) n (mZ (aJ n) n p) (.s s) (.i .i64 (i : Int)) h) (fun _ _ => rfl) ?_
  have hl : s.length ≤ i := List.drop_eq_nil_iff.1 hr
  unfold tU
  refine Ev.lenS (Ev.ilt (fun e1 => absurd e1 (by omega)) (fun e1 => ?_))
  refine yj ?_
  rw [List.take_of_length_le hl] at hc
  exact aQu hc h
 | c :: r, i, j, hr, hi, hc => by
  refine Ev.loop j (ll := fun n p => mZ (aJ n) n p (.s s) (.i .i64 (i : Int)) h) (bb := fun n p => tU (aJ n) n (mZ (aJ n) n p) (.s s) (.i .i64 (i : Int)) h) (fun _ _ => rfl) ?_
  have hx : s[i]? = some c := by
   have := congrArg (fun l => l[0]?) hr
   simpa using this
  have hlt := (List.getElem?_eq_some_iff.1 hx).1
  have hr' : s.drop (i + 1) = r := by
   have := congrArg (List.drop 1) hr
   simpa [List.drop_drop] using this
  unfold tU
  refine Ev.lenS (Ev.ilt (fun e1 => ?_) (fun e1 => absurd (show (i : Int) < s.length by omega) e1))
  refine yt ?_
  refine Ev.op (gZ hx _) ?_
  refine Ev.ieq (fun e2 => ?_) (fun e2 => ?_)
  ·refine yt ?_
   have e2' : c = 58 := by have h0 := e2; simp at h0; omega
   refine Ev.ret ⟨?_, rfl⟩
   rw [aFk (by rw [← e2']; exact List.mem_of_getElem? hx)]
   rfl
  ·refine yj ?_
   refine Ev.iadd ?_
   rw [fX (by omega)]
   have e2' : ¬ c = 58 := fun h => e2 (by rw [h])
   refine xJ hs h r (i + 1) (j + 1) hr' (by omega) ?_
   rw [List.take_add_one, hx]
   simp
   exact ⟨hc, fun h => e2' h.symm⟩
theorem xE {s : List Nat} (hs : s.length ≤ bL) (h : Hp) : Ev (fun n => aJ n 39 [.s s] h) (fun v h' => v = .i .i64 (cA s : Int) ∧ h' = h) := by
 refine Ev.enter (fun n => cBd n _ h) ?_
 unfold s39 bBf aUz bRp
 exact xJ hs h s 0 0 (by simp) (by omega) (by simp)
theorem aCk (c : Nat) : ∀ (acc l : List Nat), bQ c acc l ≠ []
 | acc, [] => by simp [bQ]
 | acc, x :: l => by
  unfold bQ
  cases Nat.beq x c with
  | true => simp
  | false => exact aCk c (acc ++ [x]) l
section
variable {I : Im} {A Q L : Ls}
theorem oG {s : List Nat} (hs : s.length ≤ 1000000000) : ∀ (r : List Nat) (i j f : Nat) (B : Ls) (h : Hp) (x : DV) (out : List (List Nat)), s.drop i = r → i ≤ s.length → f ≤ i → out.length ≤ i → Sy I (B ++ A) Q L h → Gr I 1 B x out.length (out.map .s) →
 Ev (fun n => nH (aJ n) n (n - j) (.s s) x (.i .i64 (f : Int)) (.i .i64 (i : Int)) h) (fun v h' => ∃ J, ILe I J ∧ Sy J A Q L h' ∧ SS J v (out ++ (bQ 58 ((s.take i).drop f) r).dropLast))
 | [], i, j, f, B, h, x, out, hr, hi, hf, ho, S, G => by
  refine Ev.loop j (ll := fun n p => nH (aJ n) n p (.s s) x (.i .i64 (f : Int)) (.i .i64 (i : Int)) h) (bb := fun n p => tE (aJ n) n (nH (aJ n) n p) (.s s) x (.i .i64 (f : Int)) (.i .i64 (i : Int)) h) (fun _ _ => rfl) ?_
  have hl : s.length ≤ i := List.drop_eq_nil_iff.1 hr
  unfold tE
  refine Ev.lenS (Ev.ilt (fun e1 => absurd e1 (by omega)) (fun e1 => ?_))
  refine yj ?_
  unfold gY
  obtain ⟨J, gJ, S3, F3⟩ := G.freeze S
  refine Ev.ret ⟨J, gJ, S3, ?_⟩
  simp only [bQ, List.dropLast_singleton, List.append_nil]
  exact ⟨by simp [bL]; omega, F3⟩
 | c :: r, i, j, f, B, h, x, out, hr, hi, hf, ho, S, G => by
  refine Ev.loop j (ll := fun n p => nH (aJ n) n p (.s s) x (.i .i64 (f : Int)) (.i .i64 (i : Int)) h) (bb := fun n p => tE (aJ n) n (nH (aJ n) n p) (.s s) x (.i .i64 (f : Int)) (.i .i64 (i : Int)) h) (fun _ _ => rfl) ?_
  have hx : s[i]? = some c := by
   have := congrArg (fun l => l[0]?) hr
   simpa using this
  have hlt := (List.getElem?_eq_some_iff.1 hx).1
  have hr' : s.drop (i + 1) = r := by
   have := congrArg (List.drop 1) hr
   simpa [List.drop_drop] using this
  have hlim : bL = 100000000000 := rfl
  have htk : (s.take (i + 1)).drop f = (s.take i).drop f ++ [c] := by
   rw [List.take_add_one, hx, List.drop_append_of_le_length (by simp; omega)]
   rfl
  unfold tE
  refine Ev.lenS (Ev.ilt (fun e1 => ?_) (fun e1 => absurd (show (i : Int) < s.length by omega) e1))
  refine yt ?_
  unfold cPj
  refine Ev.op (gZ hx _) ?_
  refine Ev.ieq (fun e2 => ?_) (fun e2 => ?_)
  ·refine yt ?_
   have e2' : c = 58 := by have h0 := e2; simp at h0; omega
   refine Ev.iadd ?_
   rw [fX (by omega)]
   refine Ev.op (vL (a := f) (b := i + 1) (by omega) (by omega) _) ?_
   rw [htk]
   refine Ev.bs S (cs := [.s ((s.take i).drop f ++ [c])]) rfl ?_
   intro b2 h9 S9
   obtain ⟨x4, h4, B4, e4, S4, G4⟩ := sG G S9 (List.Mem.head _) (by omega)
   refine Ev.op e4 ?_
   refine Ev.iadd ?_
   rw [fX (by omega)]
   unfold aTs
   refine Ev.iadd ?_
   rw [fX (by omega)]
   have := oG hs r (i + 1) (j + 1) (i + 1) B4 h4 x4 (out ++ [(s.take i).drop f ++ [c]]) hr' (by omega) (by omega) (by simp; omega) S4.dropL G4
   have e6 : (bQ 58 ((s.take i).drop f) (c :: r)).dropLast = ((s.take i).drop f ++ [c]) :: (bQ 58 [] r).dropLast := by
    rw [e2']
    show ((List.drop f (List.take i s) ++ [58]) :: bQ 58 [] r).dropLast = _
    rw [List.dropLast_cons_of_ne_nil (aCk 58 [] r)]
   have e7 : (s.take (i + 1)).drop (i + 1) = [] := List.drop_eq_nil_of_le (by simp; omega)
   rw [e6]
   rw [e7] at this
   simpa using this
  ·refine yj ?_
   have e2' : ¬ c = 58 := fun h => e2 (by rw [h])
   unfold aTs
   refine Ev.iadd ?_
   rw [fX (by omega)]
   have := oG hs r (i + 1) (j + 1) f B h x out hr' (by omega) (by omega) (by omega) S G
   have e6 : bQ 58 ((s.take i).drop f) (c :: r) = bQ 58 ((s.take i).drop f ++ [c]) r := by
    conv => lhs; unfold bQ
    rw [show Nat.beq c 58 = false from by cases e9 : Nat.beq c 58 with | false => rfl | true => exact absurd (Nat.eq_of_beq_eq_true e9) e2']
    rfl
   rw [e6, ← htk]
   exact this
theorem bFo {h : Hp} {s : List Nat} (hs : s.length ≤ 1000000000) (S : Sy I A Q L h) : Ev (fun n => aJ n 41 [.s s] h) (fun v h' => ∃ J, ILe I J ∧ Sy J A Q L h' ∧ SS J v (dF s)) := by
 refine Ev.enter (fun n => cHt n _ h) ?_
 unfold s41 aUl bAc aVo aVa bMc
 have := oG (I := I) (A := A) (Q := Q) (L := L) hs s 0 0 0 [] h .l0 [] (by simp) (by omega) (by omega) (by simp) S (Gr.nil I 1)
 simpa [dF] using this
end
theorem gP (f n : Nat) (acc : List Nat) : eD (f + 1) n acc = if 10 ≤ n then eD f (n / 10) ((48 + n % 10) :: acc) else (48 + n) :: acc := by
 show (bif Nat.ble 10 n then eD f (Nat.div n 10) (Nat.add 48 (Nat.mod n 10) :: acc) else Nat.add 48 n :: acc) = _
 by_cases h : 10 ≤ n
 ·rw [Nat.ble_eq_true_of_le h, if_pos h]
  rfl
 ·rw [if_neg h]
  cases e : Nat.ble 10 n with
  | true => exact absurd (Nat.le_of_ble_eq_true e) h
  | false => rfl
theorem aCy : ∀ (f n : Nat) (acc : List Nat), n < 10 ^ (f + 1) → eD (f + 1) n acc = eD (f + 2) n acc
 | 0, n, acc, h => by
  rw [gP, gP, if_neg (by omega), if_neg (by omega)]
 | f + 1, n, acc, h => by
  rw [gP, gP (f + 2)]
  by_cases hn : 10 ≤ n
  ·rw [if_pos hn, if_pos hn]
   exact aCy f _ _ (by rw [Nat.pow_succ] at h; omega)
  ·rw [if_neg hn, if_neg hn]
theorem aAs : ∀ (f n : Nat) (acc : List Nat), eD f n acc = eD f n [] ++ acc ∨ f = 0
 | 0, n, acc => .inr rfl
 | f + 1, n, acc => by
  left
  rw [gP, gP f n []]
  by_cases hn : 10 ≤ n
  ·rw [if_pos hn, if_pos hn]
   rcases aAs f (n / 10) ((48 + n % 10) :: acc) with h1 | h1
   ·rcases aAs f (n / 10) [48 + n % 10] with h2 | h2
    ·rw [h1, h2]; simp
    ·subst h2; simp [eD]
   ·subst h1; simp [eD]
  ·rw [if_neg hn, if_neg hn]; rfl
def dg (n : Nat) : List Nat := eD 20 n []
theorem zD {n : Nat} (h : n < 10) : dg n = [48 + n] := by
 unfold dg
 rw [gP, if_neg (by omega)]
theorem bLi {n : Nat} (h : 10 ≤ n) (h2 : n < 10 ^ 20) : dg n = dg (n / 10) ++ [48 + n % 10] := by
 unfold dg
 rw [gP, if_pos h]
 rcases aAs 19 (n / 10) [48 + n % 10] with h1 | h1
 ·rw [h1]
  congr 1
  exact aCy 18 _ _ (by omega)
 ·omega
theorem aQs (x : Int) (h0 : -9223372036854775808 ≤ x) (h1 : x ≤ 9223372036854775807) : -9223372036854775808 ≤ x.tdiv 10 ∧ x.tdiv 10 ≤ 9223372036854775807 := by
 obtain ⟨m, rfl | rfl⟩ := Int.eq_nat_or_neg x
 ·rw [Int.tdiv_eq_ediv_of_nonneg (by omega)]
  omega
 ·rw [Int.neg_tdiv, Int.tdiv_eq_ediv_of_nonneg (by omega)]
  omega
theorem cOs (x : Int) (h0 : -9223372036854775808 ≤ x) (h1 : x ≤ 9223372036854775807) (h : Hp) : aF .quo (.i .i64 x) (.i .i64 (Int.ofNat 10)) h = some (.i .i64 (x.tdiv 10), h) := by
 refine fI .quo _ ?_
 show (if Int.ofNat 10 = 0 then none else some (DV.i .i64 (IntKind.i64.wrap (x.tdiv (Int.ofNat 10))))) = _
 rw [if_neg (by decide)]
 show some (DV.i .i64 (IntKind.i64.wrap (x.tdiv 10))) = _
 have := aQs x h0 h1
 rw [dG _ (by omega) (by omega)]
theorem cOm (x : Int) (h : Hp) : aF .rem (.i .i64 x) (.i .i64 (Int.ofNat 10)) h = some (.i .i64 (x.tmod 10), h) := by
 refine fI .rem _ ?_
 show (if Int.ofNat 10 = 0 then none else some (DV.i .i64 (x.tmod (Int.ofNat 10)))) = _
 rw [if_neg (by decide)]
 rfl
theorem cPt {n : Nat} (h : n < 256) (hp : Hp) : kJ .u8 (.i .i64 (n : Int)) hp = some (.i .u8 (n : Int), hp) := by
 show some (DV.i .u8 (IntKind.u8.wrap (n : Int)), hp) = _
 have : IntKind.u8.wrap (n : Int) = (n : Int) := by
  unfold IntKind.wrap
  simp [IntKind.bits, IntKind.signed, IntKind.min, IntKind.max]
  omega
 rw [this]
theorem bUo {I : Im} {A Q L : Ls} {h : Hp} {b : Pos} {n : Nat} (S : Sy I A Q ((b, some (.row .ex [.i .u8 (n : Int)])) :: L) h) (hn : n < 256) : nX (.l b 0 1 1) h = some (.s [n], h) := by
 have hg := S.memL (List.Mem.head _)
 have e : dL b 0 1 h = some [.i .u8 (n : Int)] := by
  simp [dL, lT, hg, iW, DV.one]
 have e2 : qR [.i .u8 (n : Int)] = some [n] := by
  show (if n < 256 then (qR []).map (n :: ·) else none) = some [n]
  rw [if_pos hn]
  rfl
 simp only [nX, e, e2]
section
variable {I : Im} {A Q L : Ls}
theorem mT {h : Hp} (S : Sy I A Q L h) {n : Nat} (hn : n < 10) : Ev (fun k => aJ k 42 [.i .i64 (n : Int)] h) (fun v h' => v = .s (dg n) ∧ Sy I A Q L h') := by
 refine Ev.enter (fun n => aJr n _ h) ?_
 unfold s42 aCx
 refine Ev.ige (fun e1 => ?_) (fun e1 => absurd (show (n : Int) ≥ Int.ofNat 0 by simp) e1)
 refine zt ?_; refine wm ?_; refine zt ?_
 refine Ev.ilt (fun e2 => ?_) (fun e2 => absurd (show (n : Int) < Int.ofNat 10 by simp; omega) e2)
 refine ap ?_; refine yt ?_
 refine Ev.iadd ?_
 have e3 : IntKind.i64.wrap (Int.ofNat 48 + (n : Int)) = ((48 + n : Nat) : Int) := by
  rw [dG _ (by simp; omega) (by simp; omega)]
  simp
 rw [e3]
 refine Ev.op (cPt (by omega) _) ?_
 refine Ev.bs S (cs := [.i .u8 ((48 + n : Nat) : Int)]) rfl ?_
 intro b h2 S2
 refine Ev.op (bUo S2 (by omega)) ?_
 exact Ev.ret ⟨by rw [zD hn], S2.dropL⟩
theorem aAe : ∀ (f n : Nat) (h : Hp), n < 10 ^ f → n ≤ 9223372036854775807 → Sy I A Q L h → Ev (fun k => aJ k 42 [.i .i64 (n : Int)] h) (fun v h' => v = .s (dg n) ∧ Sy I A Q L h')
 | 0, n, h, hn, hm, S => mT S (by simp at hn; omega)
 | f + 1, n, h, hn, hm, S => by
  by_cases h10 : n < 10
  ·exact mT S h10
  refine Ev.enter (fun n => aJr n _ h) ?_
  unfold s42 aCx
  refine Ev.ige (fun e1 => ?_) (fun e1 => absurd (show (n : Int) ≥ Int.ofNat 0 by simp) e1)
  refine zt ?_; refine wm ?_; refine zt ?_
  refine Ev.ilt (fun e2 => absurd e2 (by simp; omega)) (fun e2 => ?_)
  refine ap ?_; refine yj ?_
  unfold aMa
  refine Ev.igt (fun e3 => ?_) (fun e3 => absurd (show (Int.ofNat 0) < (n : Int) by simp; omega) e3)
  refine yt ?_
  refine Ev.op (cOs _ (by omega) (by omega) _) ?_
  have eq : (n : Int).tdiv 10 = ((n / 10 : Nat) : Int) := by
   rw [Int.tdiv_eq_ediv_of_nonneg (by omega)]
   omega
  rw [eq]
  refine Ev.call (aAe f (n / 10) h (by rw [Nat.pow_succ] at hn; omega) (by omega) S) ?_
  rintro _ h3 ⟨rfl, S3⟩
  refine Ev.op (cOm _ _) ?_
  have er : (n : Int).tmod 10 = ((n % 10 : Nat) : Int) := by
   rw [Int.tmod_eq_emod_of_nonneg (by omega)]
   omega
  rw [er]
  refine Ev.call (mT S3 (by omega)) ?_
  rintro _ h4 ⟨rfl, S4⟩
  have hl : ∀ m, (dg m).length ≤ 20 := fun m => by
   have := sO 20 m []
   simpa [dg] using this
  refine Ev.sadd (by have := hl (n / 10); have := hl (n % 10); omega) ?_
  refine Ev.ret ⟨?_, S4⟩
  rw [zD (n := n % 10) (by omega), ← bLi (by omega) (by omega)]
theorem zC : ∀ (f m : Nat) (h : Hp) (j : Nat) (acc : List Nat), m < 10 ^ f → 0 < m → m ≤ 9223372036854775808 → acc.length + f ≤ 1000 → f ≤ 20 → Sy I A Q L h →
 Ev (fun k => mD (aJ k) k (k - j) (.i .i64 (-(m : Int))) (.s acc) h) (fun v h' => v = .s (45 :: (eD 20 m [] ++ acc)) ∧ Sy I A Q L h')
 | 0, m, h, j, acc, hm, h0, h1, ha, hf, S => by simp at hm; omega
 | f + 1, m, h, j, acc, hm, h0, h1, ha, hf, S => by
  refine Ev.loop j (ll := fun k p => mD (aJ k) k p (.i .i64 (-(m : Int))) (.s acc) h) (bb := fun k p => tN (aJ k) k (mD (aJ k) k p) (.i .i64 (-(m : Int))) (.s acc) h) (fun _ _ => rfl) ?_
  unfold tN
  refine Ev.ilt (fun e1 => ?_) (fun e1 => absurd (show (-(m : Int)) < Int.ofNat 0 by simp; omega) e1)
  refine yt ?_
  refine Ev.op (cOm _ _) ?_
  have er : (-(m : Int)).tmod 10 = -((m % 10 : Nat) : Int) := by
   rw [Int.neg_tmod, Int.tmod_eq_emod_of_nonneg (by omega)]
   omega
  rw [er]
  refine Ev.isub ?_
  have e3 : IntKind.i64.wrap (Int.ofNat 48 - -((m % 10 : Nat) : Int)) = ((48 + m % 10 : Nat) : Int) := by
   have e4 : Int.ofNat 48 = 48 := rfl
   rw [e4, dG _ (by omega) (by omega)]
   omega
  rw [e3]
  refine Ev.op (cPt (by omega) _) ?_
  refine Ev.bs S (cs := [.i .u8 ((48 + m % 10 : Nat) : Int)]) rfl ?_
  intro b h2 S2
  refine Ev.op (bUo S2 (by omega)) ?_
  refine Ev.sadd (by simp; omega) ?_
  refine Ev.op (cOs _ (by omega) (by omega) _) ?_
  have eq : (-(m : Int)).tdiv 10 = -((m / 10 : Nat) : Int) := by
   rw [Int.neg_tdiv, Int.tdiv_eq_ediv_of_nonneg (by omega)]
   omega
  rw [eq]
  by_cases h10 : m < 10
  ·have ez : m / 10 = 0 := by omega
   rw [ez]
   refine Ev.loop (j + 1) (ll := fun k p => mD (aJ k) k p (.i .i64 (-((0 : Nat) : Int))) (.s ([48 + m % 10] ++ acc)) h2) (bb := fun k p => tN (aJ k) k (mD (aJ k) k p) (.i .i64 (-((0 : Nat) : Int))) (.s ([48 + m % 10] ++ acc)) h2) (fun _ _ => rfl) ?_
   unfold tN
   refine Ev.ilt (fun e4 => absurd e4 (by simp)) (fun e4 => ?_)
   refine yj ?_
   unfold iI
   refine Ev.sadd (by simp; omega) ?_
   refine Ev.ret ⟨?_, S2.dropL⟩
   have := zD h10
   unfold dg at this
   rw [this]
   simp
   omega
  ·refine (zC f (m / 10) h2 (j + 1) ([48 + m % 10] ++ acc) (by rw [Nat.pow_succ] at hm; omega) (by omega) (by omega) (by simp; omega) (by omega) S2.dropL).mono ?_
   rintro v h' ⟨rfl, S5⟩
   refine ⟨?_, S5⟩
   have := bLi (n := m) (by omega) (by omega)
   unfold dg at this
   rw [this]
   simp
theorem bGj {h : Hp} (S : Sy I A Q L h) {m : Int} (h0 : -9223372036854775808 ≤ m) (h1 : m ≤ 9223372036854775807) : Ev (fun n => aJ n 42 [.i .i64 m] h) (fun v h' => v = .s (sB m) ∧ Sy I A Q L h') := by
 cases m with
 | ofNat n => exact aAe 20 n h (by simp at h1; omega) (by simp at h1; omega) S
 | negSucc n =>
  have e0 : Int.negSucc n = -((n + 1 : Nat) : Int) := rfl
  rw [e0] at h0 ⊢
  refine Ev.enter (fun n => aJr n _ h) ?_
  unfold s42 aCx
  refine Ev.ige (fun e1 => absurd e1 (by have e4 : Int.ofNat 0 = 0 := rfl; omega)) (fun e1 => ?_)
  refine yf ?_; refine yf ?_; refine aq ?_; refine yj ?_
  unfold aMa
  refine Ev.igt (fun e3 => absurd e3 (by have e4 : Int.ofNat 0 = 0 := rfl; omega)) (fun e3 => ?_)
  refine yj ?_
  unfold aUh bBh bMq
  refine (zC 20 (n + 1) h 0 [] (by omega) (by omega) (by omega) (by simp) (by omega) S).mono ?_
  rintro v h' ⟨rfl, S5⟩
  refine ⟨?_, S5⟩
  show DV.s (45 :: (eD 20 (n + 1) [] ++ [])) = DV.s (45 :: eD 20 (Nat.succ n) [])
  simp
end
end Go.Dd

namespace Go.Dd
open Go.Proofs
theorem cDz (n : Nat) (x : DV) (h : Hp) : aJ (n + 1) 65 [x] h = s65 (aJ n) n x h := by kernel_rfl
theorem bJn (n : Nat) (x y z : DV) (h : Hp) : aJ (n + 1) 127 [x, y, z] h = s127 (aJ n) n x y z h := by kernel_rfl
theorem cMv (n : Nat) (x y : DV) (h : Hp) : aJ (n + 1) 93 [x, y] h = s93 (aJ n) n x y h := by kernel_rfl
theorem cCs (n : Nat) (x y : DV) (h : Hp) : aJ (n + 1) 92 [x, y] h = s92 (aJ n) n x y h := by kernel_rfl
theorem cHm (n : Nat) (x y : DV) (h : Hp) : aJ (n + 1) 38 [x, y] h = s38 (aJ n) n x y h := by kernel_rfl
theorem cGg (n : Nat) (x : DV) (h : Hp) : aJ (n + 1) 23 [x] h = s23 (aJ n) n x h := by kernel_rfl
def pC (x : Node) : Prop := ∀ (I : Im) (A Q L : Ls) (h : Hp) (cs : List DV), Sy I A Q L h → NV I x cs → (nf x).tx.length ≤ 100000000000 →
 Ev (fun n => aJ n 65 [.a cs] h) (fun v h' => v = .s (nf x).tx ∧ Sy I A Q L h')
def uM (sep : List Nat) : List (List Nat) → List Nat
 | [] => []
 | _ => sep
theorem lY (sep : List Nat) : ∀ (l : List (List Nat)) (x : List Nat), aN sep (l ++ [x]) = aN sep l ++ (uM sep l ++ x)
 | [], x => by simp [aN, uM]
 | [y], x => by simp [aN, uM]
 | y :: z :: l, x => by
  have := lY sep (z :: l) x
  simp only [List.cons_append, aN] at this ⊢
  rw [this]
  simp [uM]
theorem tQ (sep : List Nat) : ∀ (l : List (List Nat)) (r : List (List Nat)), (aN sep l).length ≤ (aN sep (l ++ r)).length
 | l, [] => by simp
 | l, x :: r => by
  have h1 := tQ sep (l ++ [x]) r
  rw [lY] at h1
  simp only [List.append_assoc, List.cons_append, List.nil_append, List.length_append] at h1
  omega
section
variable {I : Im} {A Q L : Ls} {h : Hp} {s : DV} {ks : List Node} {t : List Nat}
theorem rG (S : Sy I A Q L h) (N : NS I s ks) (T : ∀ x ∈ ks, pC x) (K : ∀ x ∈ ks, x.text.length ≤ 1000000000) (i hh : Nat) (hl : (bA (bU ks) i hh).length ≤ 100000000000) :
 Ev (fun n => aJ n 127 [s, .i .i64 (i : Int), .i .i64 (hh : Int)] h) (fun v h' => v = .s (bA (bU ks) i hh) ∧ Sy I A Q L h') := by
 refine Ev.enter (fun n => bJn n _ _ _ h) ?_
 unfold s127 bRw
 refine Ev.op (N.len _) ?_
 refine Ev.ige (fun e1 => ?_) (fun e1 => ?_)
 ·refine yt ?_
  refine Ev.ret ⟨?_, S⟩
  have : ks.length ≤ i := by omega
  simp [bA, bU, List.getElem?_eq_none this]
 ·refine yj ?_
  have hi : i < ks.length := by omega
  have hx : ks[i]? = some ks[i] := by simp [hi]
  generalize ks[i] = x at hx
  have Tx := T x (List.mem_of_getElem? hx)
  have Kx := K x (List.mem_of_getElem? hx)
  obtain ⟨b, o, c, ei, Nx, el⟩ := N.at hx
  have ew : bA (bU ks) i hh = if (nf x).ht.1 > hh then 40 :: ((nf x).tx ++ [41]) else (nf x).tx := by
   simp [bA, bU, hx, Nf.ht]
  rw [ew] at hl ⊢
  unfold bNf
  refine Ev.op (ei _) ?_
  refine Ev.op (el _ _ _ _ _ (ILe.refl _) S) ?_
  obtain ⟨c1, o1, b1⟩ := Nx.shape
  refine wa fun _ _ _ => ?_; refine wt fun _ _ => ?_
  rename_i p _ _ hp Sp
  obtain ⟨k, tt, m, ns, ts, ks'⟩ := x
  have Nx' := Nx
  obtain ⟨s1, s2, s3, rfl, a, bb, cc, cells, F, NL⟩ := Nx
  have eh : ((nf (.mk k tt m ns ts ks')).ht).1 = dK k tt := by simp [nf, Nf.ht]
  rw [eh] at hl ⊢
  have fin : ∀ own : Nat, own = dK k tt → Ev (fun n => aEr (aJ n) n (.i .i64 (hh : Int)) (.p p 0) (.i .i64 (own : Int)) hp) (fun v h' => v = .s (if dK k tt > hh then 40 :: ((nf (.mk k tt m ns ts ks')).tx ++ [41]) else (nf (.mk k tt m ns ts ks')).tx) ∧ Sy I A Q L h') := by
   intro own eo
   unfold aEr
   refine Ev.igt (fun e2 => ?_) (fun e2 => ?_)
   ·have e2' : dK k tt > hh := by omega
    rw [if_pos e2'] at hl ⊢
    simp only [List.length_cons, List.length_append] at hl
    refine yt ?_
    refine Ev.ldsL Sp (List.Mem.head _) rfl o1 ?_
    refine Ev.call (Tx _ _ _ _ _ _ Sp Nx' (by omega)) ?_
    rintro _ h9 ⟨rfl, S9⟩
    refine Ev.sadd (by simp; omega) ?_
    refine Ev.sadd (by simp; omega) ?_
    exact Ev.ret ⟨by simp, S9.dropL⟩
   ·have e2' : ¬ dK k tt > hh := by omega
    rw [if_neg e2'] at hl ⊢
    refine yj ?_
    refine Ev.ldsL Sp (List.Mem.head _) rfl o1 ?_
    refine Ev.call (Tx _ _ _ _ _ _ Sp Nx' hl) ?_
    rintro _ h9 ⟨rfl, S9⟩
    exact Ev.ret ⟨rfl, S9.dropL⟩
  unfold bPa bHu
  refine Ev.fld (Ev.ldL Sp (List.Mem.head _) rfl rfl ?_)
  refine Ev.ieq (fun e1 => ?_) (fun e1 => ?_)
  ·have e1' : k = 7 := e1
   refine yt ?_
   refine Ev.fld (Ev.ldL Sp (List.Mem.head _) rfl rfl ?_)
   have hk : tt.length ≤ bL := by have : tt.length ≤ 1000000000 := Kx; simp [bL]; omega
   refine Ev.call (xE hk hp) ?_
   rintro _ _ ⟨rfl, hq⟩
   rw [hq]
   clear hq
   unfold aEb
   refine Ev.fld (Ev.ldL Sp (List.Mem.head _) rfl rfl ?_)
   refine Ev.ieq (fun e2 => absurd (show k = 8 from e2) (by omega)) (fun e2 => ?_)
   refine yj ?_
   unfold aBc
   refine Ev.fld (Ev.ldL Sp (List.Mem.head _) rfl rfl ?_)
   refine Ev.ieq (fun e3 => absurd (show k = 6 from e3) (by omega)) (fun e3 => ?_)
   refine yj ?_
   exact fin _ (by rw [dK, if_pos e1'])
  ·have e1' : ¬ k = 7 := e1
   refine yj ?_
   unfold aEb
   refine Ev.fld (Ev.ldL Sp (List.Mem.head _) rfl rfl ?_)
   refine Ev.ieq (fun e2 => ?_) (fun e2 => ?_)
   ·have e2' : k = 8 := e2
    refine yt ?_
    unfold aBc
    refine Ev.fld (Ev.ldL Sp (List.Mem.head _) rfl rfl ?_)
    refine Ev.ieq (fun e3 => absurd (show k = 6 from e3) (by omega)) (fun e3 => ?_)
    refine yj ?_
    exact fin 4 (by rw [dK, if_neg e1', if_pos e2'])
   ·have e2' : ¬ k = 8 := e2
    refine yj ?_
    unfold aBc
    refine Ev.fld (Ev.ldL Sp (List.Mem.head _) rfl rfl ?_)
    refine Ev.ieq (fun e3 => ?_) (fun e3 => ?_)
    ·have e3' : k = 6 := e3
     refine yt ?_
     exact fin 5 (by rw [dK, if_neg e1', if_neg e2', if_pos e3'])
    ·have e3' : ¬ k = 6 := e3
     refine yj ?_
     exact fin 0 (by rw [dK, if_neg e1', if_neg e2', if_neg e3'])
theorem sN {sep : List Nat} (N : NS I s ks) (T : ∀ x ∈ ks, pC x) : ∀ (r : List Node) (i j : Nat) (h : Hp) (acc : List (List Nat)), ks.drop i = r → acc.length = i → Sy I A Q L h →
 (aN sep (acc ++ fR r)).length ≤ 100000000000 → sep.length ≤ 1000 →
 Ev (fun n => kX (aJ n) n (n - j) s (.s sep) (.s (aN sep acc)) (.i .i64 (i : Int)) h) (fun v h' => v = .s (aN sep (acc ++ fR r)) ∧ Sy I A Q L h')
 | [], i, j, h, acc, hr, ha, S, hl, hs => by
  refine Ev.loop j (ll := fun n p => kX (aJ n) n p s (.s sep) (.s (aN sep acc)) (.i .i64 (i : Int)) h) (bb := fun n p => sU (aJ n) n (kX (aJ n) n p) s (.s sep) (.s (aN sep acc)) (.i .i64 (i : Int)) h) (fun _ _ => rfl) ?_
  have hle : ks.length ≤ i := List.drop_eq_nil_iff.1 hr
  unfold sU
  refine Ev.op (N.len _) (Ev.ilt (fun e1 => absurd e1 (by omega)) (fun e1 => ?_))
  refine yj ?_
  unfold gE
  exact Ev.ret ⟨by simp [fR], S⟩
 | x :: r, i, j, h, acc, hr, ha, S, hl, hs => by
  refine Ev.loop j (ll := fun n p => kX (aJ n) n p s (.s sep) (.s (aN sep acc)) (.i .i64 (i : Int)) h) (bb := fun n p => sU (aJ n) n (kX (aJ n) n p) s (.s sep) (.s (aN sep acc)) (.i .i64 (i : Int)) h) (fun _ _ => rfl) ?_
  have hx : ks[i]? = some x := by
   have := congrArg (fun l => l[0]?) hr
   simpa using this
  have hlt := (List.getElem?_eq_some_iff.1 hx).1
  have hr' : ks.drop (i + 1) = r := by
   have := congrArg (List.drop 1) hr
   simpa [List.drop_drop] using this
  have hlim := N.1
  have Tx := T x (List.mem_of_getElem? hx)
  obtain ⟨b, o, c, ei, Nx, el⟩ := N.at hx
  have e0 : fR (x :: r) = (nf x).tx :: fR r := rfl
  have e9 : aN sep (acc ++ fR (x :: r)) = aN sep ((acc ++ [(nf x).tx]) ++ fR r) := by rw [e0]; simp
  rw [e9] at hl ⊢
  have hp := tQ sep (acc ++ [(nf x).tx]) (fR r)
  have hsn := lY sep acc (nf x).tx
  have hln := congrArg List.length hsn
  simp only [List.length_append] at hln
  have step : ∀ q : List Nat, q = aN sep acc ++ uM sep acc → Ev (fun n => bCp (aJ n) n (kX (aJ n) n (n - (j + 1))) s (.s sep) (.s q) (.i .i64 (i : Int)) h) (fun v h' => v = .s (aN sep ((acc ++ [(nf x).tx]) ++ fR r)) ∧ Sy I A Q L h') := by
   intro q eq
   unfold bCp
   refine Ev.op (ei _) ?_
   refine Ev.op (el _ _ _ _ _ (ILe.refl _) S) ?_
   refine Ev.call (Tx _ _ _ _ _ _ S Nx (by omega)) ?_
   rintro _ h9 ⟨rfl, S9⟩
   refine Ev.sadd (by rw [eq]; simp; omega) ?_
   unfold cNq
   refine Ev.iadd ?_
   rw [fX (by omega)]
   have := sN N T r (i + 1) (j + 1) h9 (acc ++ [(nf x).tx]) hr' (by simp [ha]) S9 hl hs
   rw [hsn] at this
   rw [eq]
   simpa using this
  unfold sU
  refine Ev.op (N.len _) (Ev.ilt (fun e1 => ?_) (fun e1 => absurd (show (i : Int) < ks.length by omega) e1))
  refine yt ?_
  unfold cQd
  cases acc with
  | nil =>
   simp at ha
   subst ha
   refine Ev.igt (fun e2 => absurd e2 (by simp)) (fun e2 => ?_)
   refine yj ?_
   exact step _ (by simp [aN, uM])
  | cons y acc =>
   refine Ev.igt (fun e2 => ?_) (fun e2 => absurd (show (Int.ofNat 0) < (i : Int) by simp at ha ⊢; omega) e2)
   refine yt ?_
   refine Ev.sadd (by omega) ?_
   exact step _ rfl
theorem lW {sep : List Nat} (S : Sy I A Q L h) (N : NS I s ks) (T : ∀ x ∈ ks, pC x) (hl : (aN sep (fR ks)).length ≤ 100000000000) (hs : sep.length ≤ 1000) :
 Ev (fun n => aJ n 38 [s, .s sep] h) (fun v h' => v = .s (aN sep (fR ks)) ∧ Sy I A Q L h') := by
 refine Ev.enter (fun n => cHm n _ _ h) ?_
 unfold s38 aWz aZl aUn bSq
 have := sN (sep := sep) N T ks 0 0 h [] (by simp) rfl S (by simpa using hl) hs
 rw [show aN sep [] = [] from rfl] at this
 simpa using this
theorem aDg {y : DV} {ps : List (List Nat)} (N : NS I s ks) (T : ∀ x ∈ ks, pC x) (K : ∀ x ∈ ks, x.text.length ≤ 1000000000) (Y : SS I y ps) : ∀ (r : List (List Nat)) (i j : Nat) (h : Hp) (acc : List (List Nat)), ps.drop i = r → acc.length = i → Sy I A Q L h →
 (aN [32] (acc ++ cU r (bU ks) i)).length ≤ 100000000000 →
 Ev (fun n => kZ (aJ n) n (n - j) s (.s (aN [32] acc)) y (.i .i64 (i : Int)) h) (fun v h' => v = .s (aN [32] (acc ++ cU r (bU ks) i)) ∧ Sy I A Q L h')
 | [], i, j, h, acc, hr, ha, S, hl => by
  refine Ev.loop j (ll := fun n p => kZ (aJ n) n p s (.s (aN [32] acc)) y (.i .i64 (i : Int)) h) (bb := fun n p => tL (aJ n) n (kZ (aJ n) n p) s (.s (aN [32] acc)) y (.i .i64 (i : Int)) h) (fun _ _ => rfl) ?_
  have hle : ps.length ≤ i := List.drop_eq_nil_iff.1 hr
  unfold tL
  refine Ev.op (Y.2.len _) (Ev.ilt (fun e1 => absurd e1 (by omega)) (fun e1 => ?_))
  refine yj ?_
  unfold gL
  exact Ev.ret ⟨by simp [cU], S⟩
 | p :: r, i, j, h, acc, hr, ha, S, hl => by
  refine Ev.loop j (ll := fun n q => kZ (aJ n) n q s (.s (aN [32] acc)) y (.i .i64 (i : Int)) h) (bb := fun n q => tL (aJ n) n (kZ (aJ n) n q) s (.s (aN [32] acc)) y (.i .i64 (i : Int)) h) (fun _ _ => rfl) ?_
  have hx : ps[i]? = some p := by
   have := congrArg (fun l => l[0]?) hr
   simpa using this
  have hlt := (List.getElem?_eq_some_iff.1 hx).1
  have hr' : ps.drop (i + 1) = r := by
   have := congrArg (List.drop 1) hr
   simpa [List.drop_drop] using this
  have hlim := Y.1
  have e9 : aN [32] (acc ++ cU (p :: r) (bU ks) i) = aN [32] ((acc ++ [p ++ 32 :: bA (bU ks) i 2]) ++ cU r (bU ks) (i + 1)) := by simp [cU]
  rw [e9] at hl ⊢
  have hp := tQ [32] (acc ++ [p ++ 32 :: bA (bU ks) i 2]) (cU r (bU ks) (i + 1))
  have hsn := lY [32] acc (p ++ 32 :: bA (bU ks) i 2)
  have hln := congrArg List.length hsn
  simp only [List.length_append, List.length_cons] at hln
  have step : ∀ q : List Nat, q = aN [32] acc ++ uM [32] acc → Ev (fun n => aKc (aJ n) n (kZ (aJ n) n (n - (j + 1))) s (.s q) y (.i .i64 (i : Int)) h) (fun v h' => v = .s (aN [32] ((acc ++ [p ++ 32 :: bA (bU ks) i 2]) ++ cU r (bU ks) (i + 1))) ∧ Sy I A Q L h') := by
   intro q eq
   have eql := congrArg List.length eq
   simp only [List.length_append] at eql
   unfold aKc
   obtain ⟨b, o, ei, el⟩ := Y.at S hx
   refine Ev.op (ei _) ?_
   refine Ev.op el ?_
   refine Ev.sadd (by omega) ?_
   refine Ev.sadd (by simp; omega) ?_
   refine Ev.call (rG S N T K i 2 (by omega)) ?_
   rintro _ h9 ⟨rfl, S9⟩
   refine Ev.cnd ?_ ?_
   ·obtain ⟨b', o', ei', el'⟩ := Y.at S9 hx
    have hbo : DV.p b o = DV.p b' o' := by
     have := (ei h).symm.trans (ei' h)
     simpa using this
    cases hbo
    rw [el']
    simp [bP, DV.beq, jX]
   refine Ev.sadd (by simp; omega) ?_
   unfold bXb
   refine Ev.iadd ?_
   rw [fX (by omega)]
   have := aDg N T K Y r (i + 1) (j + 1) h9 (acc ++ [p ++ 32 :: bA (bU ks) i 2]) hr' (by simp [ha]) S9 hl
   rw [hsn] at this
   rw [eq]
   simpa using this
  unfold tL
  refine Ev.op (Y.2.len _) (Ev.ilt (fun e1 => ?_) (fun e1 => absurd (show (i : Int) < ps.length by omega) e1))
  refine yt ?_
  unfold bLj
  cases acc with
  | nil =>
   simp at ha
   subst ha
   refine Ev.igt (fun e2 => absurd e2 (by simp)) (fun e2 => ?_)
   refine yj ?_
   exact step _ (by simp [aN, uM])
  | cons z acc =>
   refine Ev.igt (fun e2 => ?_) (fun e2 => absurd (show (Int.ofNat 0) < (i : Int) by simp at ha ⊢; omega) e2)
   refine yt ?_
   refine Ev.sadd (by simp; omega) ?_
   exact step _ rfl
theorem vG (S : Sy I A Q L h) (N : NS I s ks) (T : ∀ x ∈ ks, pC x) (K : ∀ x ∈ ks, x.text.length ≤ 1000000000) (hs : t.length ≤ 1000000000) (hl : (bC t (bU ks)).length ≤ 100000000000) :
 Ev (fun n => aJ n 93 [.s t, s] h) (fun v h' => v = .s (bC t (bU ks)) ∧ Sy I A Q L h') := by
 refine Ev.enter (fun n => cMv n _ _ h) ?_
 unfold s93 aXf
 refine Ev.call (xE (by simp [bL]; omega) h) ?_
 rintro _ _ ⟨rfl, hq⟩
 rw [hq]
 clear hq
 unfold aYd
 refine Ev.ieq (fun e1 => ?_) (fun e1 => ?_)
 ·have e1' : cA t = 1 := by have h0 := e1; simp at h0; omega
  refine Ev.ift ?_
  refine Ev.ret ⟨?_, S⟩
  rw [bC, if_pos e1']
 ·have e1' : ¬ cA t = 1 := by have h0 := e1; simp at h0; omega
  refine Ev.iff ?_
  unfold aVz
  refine Ev.ieq (fun e2 => ?_) (fun e2 => ?_)
  ·have e2' : cA t = 2 := by have h0 := e2; simp at h0; omega
   have em : bC t (bU ks) = t ++ 32 :: bA (bU ks) 0 1 := by rw [bC, if_neg e1', if_pos e2']
   rw [em] at hl ⊢
   simp only [List.length_append, List.length_cons] at hl
   refine Ev.ift ?_
   refine Ev.sadd (by simp; omega) ?_
   refine Ev.call (rG S N T K 0 1 (by omega)) ?_
   rintro _ h6 ⟨rfl, S6⟩
   refine Ev.sadd (by simp; omega) ?_
   exact Ev.ret ⟨by simp, S6⟩
  ·have e2' : ¬ cA t = 2 := by have h0 := e2; simp at h0; omega
   have em : bC t (bU ks) = aN [32] (cU (dF t) (bU ks) 0) := by rw [bC, if_neg e1', if_neg e2']
   rw [em] at hl ⊢
   refine Ev.iff ?_
   unfold aZx aYa
   refine Ev.call (bFo hs S) ?_
   rintro v h1 ⟨J, g, S1, Y⟩
   unfold aYh aYj bGp
   refine (aDg (N.mono g) T K Y (dF t) 0 0 h1 [] rfl rfl S1 (by simpa using hl)).mono ?_
   rintro v h' ⟨e, S2⟩
   exact ⟨by simpa using e, S2.weak g⟩
theorem aMv (S : Sy I A Q L h) (N : NS I s ks) (T : ∀ x ∈ ks, pC x) (K : ∀ x ∈ ks, x.text.length ≤ 1000000000) (hs : t.length ≤ 1000000000) (hl : (dH t (bU ks)).length ≤ 100000000000) :
 Ev (fun n => aJ n 92 [.s t, s] h) (fun v h' => v = .s (dH t (bU ks)) ∧ Sy I A Q L h') := by
 refine Ev.enter (fun n => cCs n _ _ h) ?_
 unfold s92 cQt
 have hil : (bU ks).length = ks.length := by simp [bU]
 refine Ev.op (N.len _) ?_
 refine Ev.ieq (fun e1 => ?_) (fun e1 => ?_)
 ·have e1' : ks.length = 0 := by have h0 := e1; simp at h0; simp [h0]
  refine Ev.ift ?_
  refine Ev.ret ⟨?_, S⟩
  rw [dH, if_pos (by omega)]
 ·have e1' : ¬ ks.length = 0 := fun e => e1 (by rw [e]; rfl)
  refine Ev.iff ?_
  unfold cQo cNw
  have go : ∀ (hh : Nat), hh = (if cA t = 1 then 1 else 2) → Ev (fun n => aWd (aJ n) n (.s t) s (.i .i64 (hh : Int)) h) (fun v h' => v = .s (dH t (bU ks)) ∧ Sy I A Q L h') := by
   intro hh eh
   have em : dH t (bU ks) = bA (bU ks) 0 hh ++ 32 :: bC t (bU (ks.drop 1)) := by
    rw [dH, if_neg (by omega), eh]
    simp [bU]
   rw [em] at hl ⊢
   simp only [List.length_append, List.length_cons] at hl
   unfold aWd
   obtain ⟨s', er, N'⟩ := N.restA (i := 1) (by omega) (by omega)
   refine Ev.call (rG S N T K 0 hh (by omega)) ?_
   rintro _ h1 ⟨rfl, S1⟩
   refine Ev.sadd (by simp only [List.length_append, List.length_cons, List.length_nil]; omega) ?_
   refine Ev.op (er _ _ _ _ S1) ?_
   refine Ev.cnd ?_ ?_
   ·rw [er _ _ _ _ S]
    have : DV.beq s' s' = true := N'.2.choose_spec.1.beq
    simp [bP, this]
   refine Ev.call (vG S1 N' (fun x hx => T x (List.mem_of_mem_drop hx)) (fun x hx => K x (List.mem_of_mem_drop hx)) hs (by omega)) ?_
   rintro _ h3 ⟨rfl, S3⟩
   refine Ev.sadd (by simp only [List.length_append, List.length_cons, List.length_nil]; omega) ?_
   exact Ev.ret ⟨by simp, S3⟩
  refine Ev.call (xE (by simp [bL]; omega) h) ?_
  rintro _ _ ⟨rfl, hq⟩
  rw [hq]
  clear hq
  refine Ev.ieq (fun e2 => ?_) (fun e2 => ?_)
  ·have e2' : cA t = 1 := by have h0 := e2; simp at h0; omega
   refine Ev.ift ?_
   exact go 1 (by rw [if_pos e2'])
  ·have e2' : ¬ cA t = 1 := by have h0 := e2; simp at h0; omega
   refine Ev.iff ?_
   exact go 2 (by rw [if_neg e2'])
def jO : List (List Nat) → List Nat
 | [] => []
 | x :: l => x ++ 32 :: jO l
theorem yG : ∀ (l : List (List Nat)), l ≠ [] → jO l = aN [32] l ++ [32]
 | [], h => absurd rfl h
 | [x], _ => by simp [jO, aN]
 | x :: y :: l, _ => by
  have := yG (y :: l) (by simp)
  rw [jO, this]
  simp [aN]
theorem zL {P : DV → Hp → Prop} {b : Pos} {c : List DV} {s2 : DV} {ts : List (List Nat)} (Y : SS I s2 ts) (S : Sy I A Q ((b, some (.row .ex c)) :: L) h) (g : c[4]? = some s2) : ∀ (r : List (List Nat)) (i j : Nat) (acc : List Nat), ts.drop i = r →
 (acc ++ jO r).length ≤ 100000000000 →
 Ev (fun n => fS (aJ n) n (.p b 0) (.s (acc ++ jO r)) h) P →
 Ev (fun n => mL (aJ n) n (n - j) (.p b 0) (.s acc) (.i .i64 (i : Int)) h) P
 | [], i, j, acc, hr, hl, K => by
  refine Ev.loop j (ll := fun n p => mL (aJ n) n p (.p b 0) (.s acc) (.i .i64 (i : Int)) h) (bb := fun n p => tO (aJ n) n (mL (aJ n) n p) (.p b 0) (.s acc) (.i .i64 (i : Int)) h) (fun _ _ => rfl) ?_
  have hle : ts.length ≤ i := List.drop_eq_nil_iff.1 hr
  unfold tO
  refine Ev.fld (Ev.ldL S (List.Mem.head _) (by simpa using g) Y.2.one ?_)
  refine Ev.op (Y.2.len _) (Ev.ilt (fun e1 => absurd e1 (by omega)) (fun e1 => ?_))
  refine yj ?_
  simpa [jO] using K
 | x :: r, i, j, acc, hr, hl, K => by
  refine Ev.loop j (ll := fun n p => mL (aJ n) n p (.p b 0) (.s acc) (.i .i64 (i : Int)) h) (bb := fun n p => tO (aJ n) n (mL (aJ n) n p) (.p b 0) (.s acc) (.i .i64 (i : Int)) h) (fun _ _ => rfl) ?_
  have hx : ts[i]? = some x := by
   have := congrArg (fun l => l[0]?) hr
   simpa using this
  have hlt := (List.getElem?_eq_some_iff.1 hx).1
  have hr' : ts.drop (i + 1) = r := by
   have := congrArg (List.drop 1) hr
   simpa [List.drop_drop] using this
  have hlim := Y.1
  obtain ⟨bp, o, ei, el⟩ := Y.at S hx
  simp only [jO, List.length_append, List.length_cons] at hl
  unfold tO
  refine Ev.fld (Ev.ldL S (List.Mem.head _) (by simpa using g) Y.2.one ?_)
  refine Ev.op (Y.2.len _) (Ev.ilt (fun e1 => ?_) (fun e1 => absurd (show (i : Int) < ts.length by omega) e1))
  refine yt ?_
  refine Ev.fld (Ev.ldL S (List.Mem.head _) (by simpa using g) Y.2.one ?_)
  refine Ev.op (ei _) ?_
  refine Ev.op el ?_
  refine Ev.sadd (by omega) ?_
  refine Ev.sadd (by simp; omega) ?_
  refine Ev.iadd ?_
  rw [fX (by omega)]
  refine zL Y S g r (i + 1) (j + 1) (acc ++ x ++ [32]) hr' (by simp; omega) ?_
  simpa [jO] using K
theorem aMd {k m : Int} {ns ts : List (List Nat)} {cs : List DV} (S : Sy I A Q L h) (N : NV I (.mk k t m ns ts ks) cs) (T : ∀ x ∈ ks, pC x) (hl : (cH ts (fR ks)).length ≤ 100000000000) :
 Ev (fun n => aJ n 23 [.a cs] h) (fun v h' => v = .s (cH ts (fR ks)) ∧ Sy I A Q L h') := by
 refine Ev.enter (fun n => cGg n _ h) ?_
 unfold s23 bBy bAo
 obtain ⟨s1, s2, s3, rfl, a, b, c, cells, F, NL⟩ := N
 have N3 : NS I s3 ks := ⟨c, cells, F, NL⟩
 have o3 := F.one
 have o2 := b.2.one
 refine Ev.box S rfl ?_
 intro b1 h1 S1
 have eb : cH ts (fR ks) = (if ts.length = 0 then [] else 124 :: 32 :: (aN [32] ts ++ [32, 124, 32])) ++ aN [46, 32] (fR ks) := rfl
 rw [eb] at hl ⊢
 simp only [List.length_append] at hl
 have fin : ∀ (pre : List Nat), pre.length + (aN [46, 32] (fR ks)).length ≤ 100000000000 →
  Ev (fun n => jH (aJ n) n (.p b1 0) (.s pre) h1) (fun v h' => v = .s (pre ++ aN [46, 32] (fR ks)) ∧ Sy I A Q L h') := by
  intro pre hp
  unfold jH
  refine Ev.fld (Ev.ldL S1 (List.Mem.head _) rfl o3 ?_)
  refine Ev.call (lW S1 N3 T (by omega) (by simp)) ?_
  rintro _ h3 ⟨rfl, S3⟩
  refine Ev.sadd (by omega) ?_
  exact Ev.ret ⟨rfl, S3.dropL⟩
 refine Ev.fld (Ev.ldL S1 (List.Mem.head _) rfl o2 ?_)
 refine Ev.op (b.2.len _) ?_
 unfold aTe
 refine Ev.igt (fun e1 => ?_) (fun e1 => ?_)
 ·have e1' : ¬ ts.length = 0 := by have h0 := e1; simp at h0; intro h9; simp [h9] at h0
  rw [if_neg e1'] at hl ⊢
  refine yt ?_
  unfold bJr aXe aYp bXe
  have hne : ts ≠ [] := fun e => e1' (by rw [e]; rfl)
  have ht := yG ts hne
  have htl := congrArg List.length ht
  simp only [List.length_append, List.length_cons, List.length_nil] at htl hl
  refine zL b S1 rfl ts 0 0 [124, 32] (by simp) (by simp; omega) ?_
  unfold fS
  refine Ev.sadd (by simp; omega) ?_
  have := fin (124 :: 32 :: (aN [32] ts ++ [32, 124, 32])) (by simp; omega)
  rw [ht]
  simpa using this
 ·have e1' : ts.length = 0 := by have h0 := e1; simp at h0; simpa using h0
  rw [if_pos e1'] at hl ⊢
  refine yj ?_
  exact fin [] (by simpa using hl)
end
end Go.Dd

namespace Go.Dd
open Go.Proofs
theorem aNp (x : List Nat) (l : List (List Nat)) : aN [] (x :: l) = x ++ aN [] l := by
 cases l <;> simp [aN]
section
variable {I : Im} {A Q L : Ls} {h : Hp}
theorem uK {b : Pos} {c : List DV} {t : List Nat} (hs : t.length ≤ 1000000000) (S : Sy I A Q ((b, some (.row .ex c)) :: L) h) (g : c[1]? = some (.s t)) : ∀ (r : List Nat) (i j : Nat) (acc : List Nat), t.drop i = r → i ≤ t.length → acc.length ≤ 1 + 2 * i →
 Ev (fun n => iR (aJ n) n (n - j) (.p b 0) (.s acc) (.i .i64 (i : Int)) h) (fun v h' => v = .s (acc ++ (eC 39 [39, 39] r ++ [39])) ∧ Sy I A Q L h')
 | [], i, j, acc, hr, hi, ha => by
  refine Ev.loop j (ll := fun n p => iR (aJ n) n p (.p b 0) (.s acc) (.i .i64 (i : Int)) h) (bb := fun n p => oU (aJ n) n (iR (aJ n) n p) (.p b 0) (.s acc) (.i .i64 (i : Int)) h) (fun _ _ => rfl) ?_
  have hle : t.length ≤ i := List.drop_eq_nil_iff.1 hr
  unfold oU
  refine Ev.fld (Ev.ldL S (List.Mem.head _) (by simpa using g) rfl ?_)
  refine Ev.lenS (Ev.ilt (fun e1 => absurd e1 (by omega)) (fun e1 => ?_))
  refine yj ?_
  unfold gN
  refine Ev.sadd (by simp only [List.length_cons, List.length_nil]; omega) ?_
  exact Ev.ret ⟨by simp [eC], S.dropL⟩
 | x :: r, i, j, acc, hr, hi, ha => by
  refine Ev.loop j (ll := fun n p => iR (aJ n) n p (.p b 0) (.s acc) (.i .i64 (i : Int)) h) (bb := fun n p => oU (aJ n) n (iR (aJ n) n p) (.p b 0) (.s acc) (.i .i64 (i : Int)) h) (fun _ _ => rfl) ?_
  have hx : t[i]? = some x := by
   have := congrArg (fun l => l[0]?) hr
   simpa using this
  have hlt := (List.getElem?_eq_some_iff.1 hx).1
  have hr' : t.drop (i + 1) = r := by
   have := congrArg (List.drop 1) hr
   simpa [List.drop_drop] using this
  have hlim : bL = 100000000000 := rfl
  have step : ∀ q : List Nat, q.length ≤ acc.length + 1 → Ev (fun n => aHc (aJ n) n (iR (aJ n) n (n - (j + 1))) (.p b 0) (.s q) (.i .i64 (i : Int)) h) (fun v h' => v = .s (q ++ ([x] ++ (eC 39 [39, 39] r ++ [39]))) ∧ Sy I A Q L h') := by
   intro q hq
   unfold aHc
   refine Ev.fld (Ev.ldL S (List.Mem.head _) (by simpa using g) rfl ?_)
   refine Ev.iadd ?_
   rw [fX (by omega)]
   refine Ev.op (vL (a := i) (b := i + 1) (by omega) (by omega) _) ?_
   have ec : (t.take (i + 1)).drop i = [x] := by
    rw [List.take_add_one, hx, List.drop_append_of_le_length (by simp; omega)]
    rw [List.drop_eq_nil_of_le (by simp; omega)]
    rfl
   rw [ec]
   refine Ev.sadd (by simp only [List.length_cons, List.length_nil]; omega) ?_
   unfold bOw
   refine Ev.iadd ?_
   rw [fX (by omega)]
   have := uK hs S g r (i + 1) (j + 1) (q ++ [x]) hr' (by omega) (by simp only [List.length_append, List.length_cons, List.length_nil]; omega)
   simpa using this
  unfold oU
  refine Ev.fld (Ev.ldL S (List.Mem.head _) (by simpa using g) rfl ?_)
  refine Ev.lenS (Ev.ilt (fun e1 => ?_) (fun e1 => absurd (show (i : Int) < t.length by omega) e1))
  refine yt ?_
  unfold bPe
  refine Ev.fld (Ev.ldL S (List.Mem.head _) (by simpa using g) rfl ?_)
  refine Ev.op (gZ hx _) ?_
  refine Ev.ieq (fun e2 => ?_) (fun e2 => ?_)
  ·have e2' : x = 39 := by have h0 := e2; simp at h0; omega
   refine yt ?_
   refine Ev.sadd (by simp only [List.length_cons, List.length_nil]; omega) ?_
   have := step (acc ++ [39]) (by simp)
   have er : eC 39 [39, 39] (x :: r) = [39, 39] ++ eC 39 [39, 39] r := by rw [e2']; rfl
   rw [er]
   rw [e2'] at this
   simpa using this
  ·have e2' : ¬ x = 39 := fun h => e2 (by rw [h])
   refine yj ?_
   have := step acc (by omega)
   have er : eC 39 [39, 39] (x :: r) = x :: eC 39 [39, 39] r := by
    show (bif Nat.beq x 39 then [39, 39] ++ eC 39 [39, 39] r else x :: eC 39 [39, 39] r) = _
    cases e9 : Nat.beq x 39 with
    | false => rfl
    | true => exact absurd (Nat.eq_of_beq_eq_true e9) e2'
   rw [er]
   simpa using this
theorem vB {P : DV → Hp → Prop} {b : Pos} {c : List DV} {s1 : DV} {ns : List (List Nat)} (Y : SS I s1 ns) (S : Sy I A Q ((b, some (.row .ex c)) :: L) h) (g : c[3]? = some s1) : ∀ (r : List (List Nat)) (i j : Nat) (acc : List Nat), ns.drop i = r →
 (acc ++ bR r).length ≤ 100000000000 →
 Ev (fun n => dP (aJ n) n (.p b 0) (.s (acc ++ bR r)) h) P →
 Ev (fun n => jW (aJ n) n (n - j) (.p b 0) (.s acc) (.i .i64 (i : Int)) h) P
 | [], i, j, acc, hr, hl, K => by
  refine Ev.loop j (ll := fun n p => jW (aJ n) n p (.p b 0) (.s acc) (.i .i64 (i : Int)) h) (bb := fun n p => oQ (aJ n) n (jW (aJ n) n p) (.p b 0) (.s acc) (.i .i64 (i : Int)) h) (fun _ _ => rfl) ?_
  have hle : ns.length ≤ i := List.drop_eq_nil_iff.1 hr
  unfold oQ
  refine Ev.fld (Ev.ldL S (List.Mem.head _) (by simpa using g) Y.2.one ?_)
  refine Ev.op (Y.2.len _) (Ev.ilt (fun e1 => absurd e1 (by omega)) (fun e1 => ?_))
  refine yj ?_
  simpa [bR] using K
 | x :: r, i, j, acc, hr, hl, K => by
  refine Ev.loop j (ll := fun n p => jW (aJ n) n p (.p b 0) (.s acc) (.i .i64 (i : Int)) h) (bb := fun n p => oQ (aJ n) n (jW (aJ n) n p) (.p b 0) (.s acc) (.i .i64 (i : Int)) h) (fun _ _ => rfl) ?_
  have hx : ns[i]? = some x := by
   have := congrArg (fun l => l[0]?) hr
   simpa using this
  have hlt := (List.getElem?_eq_some_iff.1 hx).1
  have hr' : ns.drop (i + 1) = r := by
   have := congrArg (List.drop 1) hr
   simpa [List.drop_drop] using this
  have hlim := Y.1
  obtain ⟨bp, o, ei, el⟩ := Y.at S hx
  simp only [bR, List.length_append, List.length_cons] at hl
  unfold oQ
  refine Ev.fld (Ev.ldL S (List.Mem.head _) (by simpa using g) Y.2.one ?_)
  refine Ev.op (Y.2.len _) (Ev.ilt (fun e1 => ?_) (fun e1 => absurd (show (i : Int) < ns.length by omega) e1))
  refine yt ?_
  refine Ev.sadd (by simp only [List.length_cons, List.length_nil]; omega) ?_
  refine Ev.fld (Ev.ldL S (List.Mem.head _) (by simpa using g) Y.2.one ?_)
  refine Ev.op (ei _) ?_
  refine Ev.op el ?_
  refine Ev.sadd (by simp only [List.length_append, List.length_cons, List.length_nil]; omega) ?_
  refine Ev.sadd (by simp only [List.length_append, List.length_cons, List.length_nil]; omega) ?_
  refine Ev.iadd ?_
  rw [fX (by omega)]
  refine vB Y S g r (i + 1) (j + 1) (acc ++ [58] ++ x ++ [32]) hr' (by simp only [List.length_append, List.length_cons, List.length_nil]; omega) ?_
  simpa [bR] using K
theorem pJ {b : Pos} {c : List DV} {s3 : DV} {ks : List Node} (N : NS I s3 ks) (g : c[5]? = some s3) (K : ∀ x ∈ ks, (∀ y ∈ x.kids, pC y) ∧ x.text.length ≤ 1000000000 ∧ ∀ y ∈ x.kids, y.text.length ≤ 1000000000) :
 ∀ (r : List Node) (i j : Nat) (h : Hp) (acc : List Nat), ks.drop i = r → Sy I A Q ((b, some (.row .ex c)) :: L) h → (acc ++ aN [] (r.map cX)).length ≤ 100000000000 →
 Ev (fun n => jV (aJ n) n (n - j) (.p b 0) (.s acc) (.i .i64 (i : Int)) h) (fun v h' => v = .s (acc ++ aN [] (r.map cX)) ∧ Sy I A Q L h')
 | [], i, j, h, acc, hr, S, hl => by
  refine Ev.loop j (ll := fun n p => jV (aJ n) n p (.p b 0) (.s acc) (.i .i64 (i : Int)) h) (bb := fun n p => oK (aJ n) n (jV (aJ n) n p) (.p b 0) (.s acc) (.i .i64 (i : Int)) h) (fun _ _ => rfl) ?_
  have hle : ks.length ≤ i := List.drop_eq_nil_iff.1 hr
  unfold oK
  refine Ev.fld (Ev.ldL S (List.Mem.head _) (by simpa using g) N.one ?_)
  refine Ev.op (N.len _) (Ev.ilt (fun e1 => absurd e1 (by omega)) (fun e1 => ?_))
  refine yj ?_
  unfold dX
  exact Ev.ret ⟨by simp [aN], S.dropL⟩
 | x :: r, i, j, h, acc, hr, S, hl => by
  refine Ev.loop j (ll := fun n p => jV (aJ n) n p (.p b 0) (.s acc) (.i .i64 (i : Int)) h) (bb := fun n p => oK (aJ n) n (jV (aJ n) n p) (.p b 0) (.s acc) (.i .i64 (i : Int)) h) (fun _ _ => rfl) ?_
  have hx : ks[i]? = some x := by
   have := congrArg (fun l => l[0]?) hr
   simpa using this
  have hlt := (List.getElem?_eq_some_iff.1 hx).1
  have hr' : ks.drop (i + 1) = r := by
   have := congrArg (List.drop 1) hr
   simpa [List.drop_drop] using this
  have hlim := N.1
  obtain ⟨K1, K2, K3⟩ := K x (List.mem_of_getElem? hx)
  obtain ⟨bp, o, cx, ei, Nx, el⟩ := N.at hx
  obtain ⟨k, t, m, ns, ts, ks'⟩ := x
  obtain ⟨q1, q2⟩ := aLk k m t ns ts ks'
  have ef : cX (.mk k t m ns ts ks') = 59 :: 32 :: bC t (bU ks') := by rw [cX, q1, q2]
  obtain ⟨s1, s2, s4, rfl, ya, yb, yc, cells, F, NL⟩ := Nx
  have N3 : NS I s4 ks' := ⟨yc, cells, F, NL⟩
  rw [List.map_cons, aNp, ef] at hl ⊢
  simp only [List.length_append, List.length_cons] at hl
  unfold oK
  refine Ev.fld (Ev.ldL S (List.Mem.head _) (by simpa using g) N.one ?_)
  refine Ev.op (N.len _) (Ev.ilt (fun e1 => ?_) (fun e1 => absurd (show (i : Int) < ks.length by omega) e1))
  refine yt ?_
  refine Ev.sadd (by simp only [List.length_cons, List.length_nil]; omega) ?_
  refine Ev.fld (Ev.ldL S (List.Mem.head _) (by simpa using g) N.one ?_)
  refine Ev.op (ei _) ?_
  refine Ev.fld ?_
  refine Ev.op (mF (j := 1) (el _ _ _ _ _ (ILe.refl _) S) rfl) ?_
  refine Ev.fld (Ev.ldL S (List.Mem.head _) (by simpa using g) N.one ?_)
  refine Ev.op (ei _) ?_
  refine Ev.fld ?_
  refine Ev.op (mF (j := 5) (el _ _ _ _ _ (ILe.refl _) S) rfl) ?_
  refine Ev.call (vG S N3 K1 K3 K2 (by omega)) ?_
  rintro _ h9 ⟨rfl, S9⟩
  refine Ev.sadd (by simp only [List.length_append, List.length_cons, List.length_nil]; omega) ?_
  refine Ev.iadd ?_
  rw [fX (by omega)]
  have := pJ N g K r (i + 1) (j + 1) h9 (acc ++ [59, 32] ++ bC t (bU ks')) hr' S9 (by simp only [List.length_append, List.length_cons, List.length_nil]; omega)
  simpa using this
theorem aPr {k m : Int} {t : List Nat} {ns ts : List (List Nat)} {ks : List Node} (T : ∀ y ∈ ks, pC y) (K : ∀ z ∈ ks, (∀ y ∈ z.kids, pC y) ∧ z.text.length ≤ 1000000000 ∧ z.kids.length + 1 ≤ bL ∧ ∀ y ∈ z.kids, y.text.length ≤ 1000000000)
 (hs : t.length ≤ 1000000000) (hm0 : -9223372036854775808 ≤ m) (hm1 : m ≤ 9223372036854775807) : pC (.mk k t m ns ts ks) := by
 intro I A Q L h cs S N hl
 have N0 := N
 obtain ⟨etx, eht⟩ := aQv ks
 have ex : (nf (.mk k t m ns ts ks)).tx = aBp k t m ns ts (lL ks) := by simp [nf]
 rw [ex] at hl ⊢
 have Kt : ∀ z ∈ ks, z.text.length ≤ 1000000000 := fun z hz => (K z hz).2.1
 refine Ev.enter (fun n => cDz n _ h) ?_
 unfold s65
 obtain ⟨s1, s2, s3, rfl, a, b, c, cells, F, NL⟩ := N
 have N3 : NS I s3 ks := ⟨c, cells, F, NL⟩
 have o1 := a.2.one
 have o2 := b.2.one
 have o3 := F.one
 refine Ev.box S rfl ?_
 intro b1 h1 S1
 unfold aZa
 refine Ev.fld (Ev.ldL S1 (List.Mem.head _) rfl rfl ?_)
 unfold aTn
 unfold aBp at hl ⊢
 refine Ev.ieq (fun e1 => ?_) (fun e1 => ?_)
 ·replace e1 : k = 1 := e1
  rw [if_pos e1] at hl ⊢
  unfold aMx
  refine yt ?_
  refine Ev.fld (Ev.ldL S1 (List.Mem.head _) rfl rfl ?_)
  refine Ev.call (bGj S1 hm0 hm1) ?_
  rintro _ h2 ⟨rfl, S2⟩
  exact Ev.ret ⟨rfl, S2.dropL⟩
 replace e1 : ¬ k = 1 := e1
 rw [if_neg e1] at hl ⊢
 unfold aMx bVv
 refine Ev.iff ?_
 refine Ev.ieq (fun e2 => ?_) (fun e2 => ?_)
 ·replace e2 : k = 2 := e2
  rw [if_pos e2] at hl ⊢
  unfold aMz
  refine yt ?_
  unfold bQe aVv aKj aQg
  have := uK hs S1 rfl t 0 0 [39] (by simp) (by omega) (by simp)
  simpa using this
 replace e2 : ¬ k = 2 := e2
 rw [if_neg e2] at hl ⊢
 unfold aMz aPw
 refine Ev.iff ?_
 refine Ev.ieq (fun e3 => ?_) (fun e3 => ?_)
 ·replace e3 : k = 3 := e3
  rw [if_pos e3] at hl ⊢
  unfold zH
  refine yt ?_
  refine Ev.fld (Ev.ldL S1 (List.Mem.head _) rfl rfl ?_)
  refine Ev.sadd (by simp only [List.length_cons, List.length_nil]; omega) ?_
  exact Ev.ret ⟨rfl, S1.dropL⟩
 replace e3 : ¬ k = 3 := e3
 rw [if_neg e3] at hl ⊢
 unfold zH aRh
 refine Ev.iff ?_
 refine Ev.ieq (fun e4 => ?_) (fun e4 => ?_)
 ·replace e4 : k = 4 := e4
  rw [if_pos e4, etx] at hl ⊢
  simp only [List.length_append, List.length_cons, List.length_nil] at hl
  unfold aAf
  refine yt ?_
  refine Ev.fld (Ev.ldL S1 (List.Mem.head _) rfl o3 ?_)
  refine Ev.call (lW (sep := [32]) S1 N3 T (by omega) (by simp)) ?_
  rintro _ h2 ⟨rfl, S2⟩
  refine Ev.sadd (by simp only [List.length_cons, List.length_nil]; omega) ?_
  refine Ev.sadd (by simp only [List.length_append, List.length_cons, List.length_nil]; omega) ?_
  exact Ev.ret ⟨by simp, S2.dropL⟩
 replace e4 : ¬ k = 4 := e4
 rw [if_neg e4] at hl ⊢
 unfold aAf aQt
 refine Ev.iff ?_
 refine Ev.ieq (fun e5 => ?_) (fun e5 => ?_)
 ·replace e5 : k = 6 := e5
  rw [if_pos e5, etx] at hl ⊢
  simp only [List.length_append, List.length_cons, List.length_nil] at hl
  unfold aAm
  refine Ev.ift ?_
  refine Ev.fld (Ev.ldL S1 (List.Mem.head _) rfl rfl ?_)
  refine Ev.sadd (by simp only [List.length_cons, List.length_nil]; omega) ?_
  refine Ev.fld (Ev.ldL S1 (List.Mem.head _) rfl o3 ?_)
  refine Ev.call (lW (sep := []) S1 N3 T (by omega) (by simp)) ?_
  rintro _ h2 ⟨rfl, S2⟩
  refine Ev.cnd ?_ ?_
  ·rw [Bool.and_true]; exact eG S2 (List.Mem.head _) rfl rfl (sR _)
  refine Ev.sadd (by simp only [List.length_append, List.length_cons, List.length_nil]; omega) ?_
  exact Ev.ret ⟨by simp, S2.dropL⟩
 replace e5 : ¬ k = 6 := e5
 rw [if_neg e5] at hl ⊢
 unfold aAm aRi
 refine Ev.iff ?_
 refine Ev.ieq (fun e6 => ?_) (fun e6 => ?_)
 ·replace e6 : k = 10 := e6
  rw [if_pos e6, etx] at hl ⊢
  simp only [List.length_append, List.length_cons, List.length_nil] at hl
  unfold aBh
  refine yt ?_
  refine Ev.fld (Ev.ldL S1 (List.Mem.head _) rfl o3 ?_)
  refine Ev.call (lW (sep := []) S1 N3 T (by omega) (by simp)) ?_
  rintro _ h2 ⟨rfl, S2⟩
  refine Ev.sadd (by simp only [List.length_cons, List.length_nil]; omega) ?_
  exact Ev.ret ⟨rfl, S2.dropL⟩
 replace e6 : ¬ k = 10 := e6
 rw [if_neg e6] at hl ⊢
 unfold aBh aQh
 refine Ev.iff ?_
 refine Ev.ieq (fun e7 => ?_) (fun e7 => ?_)
 ·replace e7 : k = 7 := e7
  rw [if_pos e7, eht] at hl ⊢
  unfold yS
  refine yt ?_
  refine Ev.fld (Ev.ldL S1 (List.Mem.head _) rfl rfl ?_)
  refine Ev.fld (Ev.ldL S1 (List.Mem.head _) rfl o3 ?_)
  refine Ev.call (aMv S1 N3 T Kt hs hl) ?_
  rintro _ h2 ⟨rfl, S2⟩
  exact Ev.ret ⟨rfl, S2.dropL⟩
 replace e7 : ¬ k = 7 := e7
 rw [if_neg e7] at hl ⊢
 unfold yS aSb
 refine Ev.iff ?_
 refine Ev.ieq (fun e8 => ?_) (fun e8 => ?_)
 ·replace e8 : k = 8 := e8
  rw [if_pos e8] at hl ⊢
  unfold zZ
  refine yt ?_
  unfold aPx
  refine Ev.fld (Ev.ldL S1 (List.Mem.head _) rfl o3 ?_)
  refine Ev.op (N3.len _) ?_
  refine Ev.ilt (fun e9 => ?_) (fun e9 => ?_)
  ·refine Ev.ift ?_
   refine Ev.ret ⟨?_, S1.dropL⟩
   match ks, e9 with
   | [], _ => rfl
   | [_], _ => rfl
   | _ :: _ :: _, e9 => simp at e9; omega
  ·match ks, N3, T, K, Kt, hl, e9, S1, o3 with
   | [], _, _, _, _, _, e9, _, _ => simp at e9
   | [_], _, _, _, _, _, e9, _, _ => simp at e9
   | y :: z :: r, N3, T, K, Kt, hl, e9, S1, o3 =>
    rw [aCs] at hl ⊢
    simp only [List.length_append] at hl
    refine Ev.iff ?_
    obtain ⟨p0, q0, ca, ei0, Na, el0⟩ := N3.at (i := 0) (x := y) rfl
    obtain ⟨p1, q1', cb, ei1, Nb, el1⟩ := N3.at (i := 1) (x := z) rfl
    obtain ⟨c1, c2, _⟩ := Na.shape
    obtain ⟨kb, tb, mb, nsb, tsb, ksb⟩ := z
    obtain ⟨K1, K2, K3, K4⟩ := K (.mk kb tb mb nsb tsb ksb) (by simp)
    obtain ⟨q1, q2⟩ := aLk kb mb tb nsb tsb ksb
    rw [q2] at hl ⊢
    have hl' : (dH tb (bU (y :: ksb))).length + (aN [] (r.map cX)).length ≤ 100000000000 := hl
    obtain ⟨u1, u2, u3, rfl, ya, yb, yc, cells', F', NL'⟩ := Nb
    have N4 : NS I u3 ksb := ⟨yc, cells', F', NL'⟩
    unfold aDz
    refine Ev.fld (Ev.ldL S1 (List.Mem.head _) rfl o3 ?_)
    refine Ev.op (ei0 _) ?_
    refine Ev.op (el0 _ _ _ _ _ (ILe.refl _) S1) ?_
    refine Ev.bs S1 (eX c1) ?_
    intro b2 h4 S4
    unfold aFh
    refine Ev.fld (Ev.ldL S4 (List.Mem.tail _ (List.Mem.head _)) rfl o3 ?_)
    refine Ev.op (ei1 _) ?_
    refine Ev.fld ?_
    refine Ev.op (mF (j := 5) (el1 _ _ _ _ _ (ILe.refl _) S4) rfl) ?_
    obtain ⟨x9, h9, J, e9, g9, S9, N9⟩ := aNz S4 Na N4 K3
    refine Ev.op e9 ?_
    unfold aKg
    refine Ev.fld (Ev.ldL S9 (List.Mem.head _) rfl o3 ?_)
    refine Ev.op (ei1 _) ?_
    refine Ev.fld ?_
    refine Ev.op (mF (j := 1) (el1 _ _ _ _ _ g9 S9) rfl) ?_
    refine Ev.call (aMv S9 N9 (fun x hx => ?_) (fun x hx => ?_) K2 (by omega)) ?_
    ·rcases List.mem_cons.1 hx with rfl | hx
     ·exact T _ (by simp)
     ·exact K1 x hx
    ·rcases List.mem_cons.1 hx with rfl | hx
     ·exact Kt _ (by simp)
     ·exact K4 x hx
    rintro _ h15 ⟨rfl, S15⟩
    unfold aFs aDr aSd
    refine (pJ (N3.mono g9) rfl (fun x hx => ⟨(K x hx).1, (K x hx).2.1, (K x hx).2.2.2⟩) r 2 0 h15 (dH tb (bU (y :: ksb))) rfl S15 (by simp only [List.length_append]; omega)).mono ?_
    rintro v h' ⟨rfl, S16⟩
    exact ⟨rfl, S16.weak g9⟩
 replace e8 : ¬ k = 8 := e8
 rw [if_neg e8] at hl ⊢
 unfold zZ aSj
 refine Ev.iff ?_
 refine Ev.ieq (fun e9 => ?_) (fun e9 => ?_)
 ·replace e9 : k = 9 := e9
  rw [if_pos e9, etx] at hl ⊢
  simp only [List.length_append, List.length_cons, List.length_nil] at hl
  unfold yN
  refine Ev.ift ?_
  unfold aSc aEx aIz aQf
  have hbody : (cH ts (fR ks)).length ≤ 100000000000 := by omega
  have fin : ∀ (pre : List Nat), pre.length + (cH ts (fR ks)).length + 1 ≤ 100000000000 →
   Ev (fun n => aHv (aJ n) n (.p b1 0) (.s pre) h1) (fun v h' => v = .s (pre ++ (cH ts (fR ks) ++ [93])) ∧ Sy I A Q L h') := by
   intro pre hp
   unfold aHv
   refine Ev.ldsL S1 (List.Mem.head _) rfl (N0.shape.2.1) ?_
   refine Ev.call (aMd S1 N0 T hbody) ?_
   rintro _ h2 ⟨rfl, S2⟩
   refine Ev.sadd (by omega) ?_
   refine Ev.sadd (by simp only [List.length_append, List.length_cons, List.length_nil]; omega) ?_
   exact Ev.ret ⟨by simp, S2.dropL⟩
  have hn : (bR ns).length + (cH ts (fR ks)).length + 2 ≤ 100000000000 := by
   by_cases h9 : bR ns = []
   ·rw [h9]; simp; omega
   ·rw [if_neg h9] at hl; simp at hl; omega
  refine vB a S1 rfl ns 0 0 [91] (by simp) (by simp; omega) ?_
  unfold dP
  refine Ev.fld (Ev.ldL S1 (List.Mem.head _) rfl o1 ?_)
  refine Ev.op (a.2.len _) ?_
  refine Ev.igt (fun e3 => ?_) (fun e3 => ?_)
  ·have hne : ¬ bR ns = [] := by
    cases ns with
    | nil => simp at e3
    | cons x l => simp [bR]
   rw [if_neg hne] at hl ⊢
   simp only [List.length_append, List.length_cons, List.length_nil] at hl
   refine Ev.ift ?_
   refine Ev.sadd (by simp only [List.length_append, List.length_cons, List.length_nil]; omega) ?_
   have := fin ([91] ++ bR ns ++ [124, 32]) (by simp only [List.length_append, List.length_cons, List.length_nil]; omega)
   simpa using this
  ·have hnil : ns = [] := by
    cases ns with
    | nil => rfl
    | cons x l => exact absurd (show (Int.ofNat 0) < ((x :: l).length : Int) by simp) e3
   subst hnil
   rw [if_pos (show bR [] = [] from rfl)]
   refine Ev.iff ?_
   have := fin [91] (by simp only [List.length_cons, List.length_nil]; omega)
   simpa [bR] using this
 replace e9 : ¬ k = 9 := e9
 rw [if_neg e9] at hl ⊢
 unfold yN aI
 refine yj ?_
 refine Ev.fld (Ev.ldL S1 (List.Mem.head _) rfl rfl ?_)
 exact Ev.ret ⟨rfl, S1.dropL⟩
end
mutual
theorem aCj : ∀ x, Sk x → pC x ∧ (∀ y ∈ x.kids, pC y) ∧ x.text.length ≤ 1000000000 ∧ x.kids.length + 1 ≤ bL ∧ ∀ y ∈ x.kids, y.text.length ≤ 1000000000
 | .mk k t m ns ts ks, h => by
  unfold Sk at h
  obtain ⟨h1, h2, h3, h4, h5⟩ := h
  have T := xC ks h5
  exact ⟨aPr (fun y hy => (T y hy).1) (fun z hz => ⟨(T z hz).2.1, (T z hz).2.2.1, (T z hz).2.2.2.1, (T z hz).2.2.2.2⟩) h1 h2 h3, fun y hy => (T y hy).1, h1, h4, fun y hy => (T y hy).2.2.1⟩
theorem xC : ∀ l, SkL l → ∀ y ∈ l, pC y ∧ (∀ z ∈ y.kids, pC z) ∧ y.text.length ≤ 1000000000 ∧ y.kids.length + 1 ≤ bL ∧ ∀ z ∈ y.kids, z.text.length ≤ 1000000000
 | [], _ => fun y hy => by cases hy
 | x :: l, h => by
  unfold SkL at h
  have p := aCj x h.1
  have q := xC l h.2
  intro y hy
  rcases List.mem_cons.1 hy with e | hy
  ·rw [e]; exact p
  ·exact q y hy
end
end Go.Dd

namespace Go.Dd
open Go.Proofs
section
variable {I : Im} {A L : Ls} {h : Hp}
structure Shw (x : Node) : Prop where
 kids : ∀ y ∈ x.kids, nN y
 len : (cH x.temps (fR x.kids)).length ≤ bL
 by' : AB (cH x.temps (fR x.kids))
theorem Shw.small {x : Node} (h : fQ x = true) (hb : By x) (hn : Nm x) : Shw x where
 kids := (aLh x (yE h hn)).2.1
 len := aRb h
 by' := hb.body
end
end Go.Dd

namespace Go.Dd
open Go.Proofs
theorem bFk {u : List Nat} (h : 2000 < u.length) : tJ u = ([], 0, 12) := by
 unfold tJ; rw [xI h]; rfl
theorem gtA {u : List Nat} (h : (tJ u).2.2 = 0) : GT (tJ u).1 ∧ u.length ≤ 2000 := by
 by_cases hu : u.length ≤ 2000
 ·exact ⟨(cRo hu (aFq u) h).1, hu⟩
 ·rw [bFk (by omega)] at h
  cases h
theorem bNc (u : List Nat) : aNk 2004 (tJ u) = some (aMg u) := dCx (by simp [bL]) (fun h => (gtA h).1) (aNu u)
theorem cBt (n : Nat) (x y : DV) (h : Hp) : aJ (n + 1) 12 [x, y] h = s12 (aJ n) n x y h := by kernel_rfl
section
variable {I : Im} {A L : Ls} {h : Hp}
theorem bFr {x : Node} {c : List DV} {b : Pos} {s : List Nat} {m : Bool} {r : Node × Int × Int} (S : Sy I A [] ((b, some (.row .ex c)) :: L) h) (N : NV I x c)
 (R : Ev (fun n => aJ n 25 [.s s, .b m] h) (aLv I A ((b, some (.row .ex c)) :: L) r)) :
 Ev (fun n => aWl (aJ n) n (.b m) (.p b 0) (.s s) h) (fun v h' => v = .t [.s (nV s x r).1, .i .i64 (nV s x r).2] ∧ Sy I A [] L h') := by
 obtain ⟨c1, o1, b1⟩ := N.shape
 unfold aWl
 refine Ev.call R ?_
 rintro _ h3 ⟨J, ds, rfl, g3, S3, N3⟩
 obtain ⟨c3, o3, b3⟩ := N3.shape
 refine wx ?_; refine wx ?_; refine wx ?_; refine wa fun _ _ _ => ?_; refine wt fun _ _ => ?_; refine ws ?_; refine ws ?_
 refine Ev.call (aVy x r.1 J A [] _ _ _ _ (by assumption) (N.mono g3) N3) ?_
 rintro _ h5 ⟨rfl, S5⟩
 refine Ev.ine (fun e1 => ?_) (fun e1 => ?_)
 ·have e1' : ¬ r.2.2 = 0 := e1
  refine yg ?_; refine yg ?_; refine ap ?_; refine yt ?_
  exact Ev.ret ⟨by simp [nV, e1'], (dp : Sy J A [] L _).weak g3⟩
 ·have e1' : r.2.2 = 0 := e1
  cases en : nEq x r.1 with
  | true =>
   refine zf ?_; refine wm ?_; refine zf ?_; refine an ?_; refine aq ?_; refine yj ?_
   exact Ev.ret ⟨by simp [nV, e1', en], (dp : Sy J A [] L _).weak g3⟩
  | false =>
   refine zf ?_; refine wm ?_; refine zf ?_; refine ao ?_; refine aq ?_; refine yt ?_
   exact Ev.ret ⟨by simp [nV, e1', en], (dp : Sy J A [] L _).weak g3⟩
structure ShwD (x : Node) : Prop extends Shw x where
 kidsD : ∀ y ∈ x.kids, pC y
theorem ShwD.small {x : Node} (h : fQ x = true) (hb : By x) (hn : Nm x) : ShwD x where
 toShw := Shw.small h hb hn
 kidsD := (aCj x (yE h hn)).2.1
theorem bWv {x : Node} {cs : List DV} (S : Sy I A [] L h) (N : NV I x cs) (W : ShwD x) :
 Ev (fun n => aJ n 12 [.a cs, .b false] h) (fun v h' => v = .t [.s (aWv x).1, .i .i64 (aWv x).2] ∧ Sy I A [] L h') := by
 obtain ⟨c1, o1, b1⟩ := N.shape
 have N0 := N
 have hl := W.len
 obtain ⟨k, t, m, ns, ts, ks⟩ := x
 have hl' : (cH ts (fR ks)).length ≤ 100000000000 := hl
 refine Ev.enter (fun n => cBt n _ _ h) ?_
 unfold s12
 refine Ev.box S rfl (fun p h1 S1 => ?_)
 unfold cQr
 refine Ev.ldsL S1 (List.Mem.head _) c1 o1 ?_
 refine Ev.call (aMd S1 N0 W.kidsD hl') ?_
 rintro _ h2 ⟨rfl, S2⟩
 unfold cQu
 refine yj ?_
 exact bFr S2 N0 (bOh S2 hl 2001 2001 2004 (by simp [bL]) (by simp [bL]) _ (aFq _) _ (bNc _))
theorem bXs {x : Node} {c : List DV} (S : Sy I A [] L h) (N : NW I x c) (bx : By x) (nx : Nm x) :
 Ev (fun n => s4 (zU 10 true n) n (.a c) h) (fun v h' => v = .b true) := by
 have e9 : ∀ n, zU 10 true n 9 = aJ n 9 := fun n => qQ true n rfl
 have e12 : ∀ n, zU 10 true n 12 = aJ n 12 := fun n => qQ true n rfl
 have e13 : ∀ n, zU 10 true n 13 = aJ n 13 := fun n => qQ true n rfl
 obtain ⟨c1, o1, b1⟩ := N.shape
 unfold s4
 simp only [e9, e12, e13, bFi]
 refine Ev.box S rfl (fun p h1 S1 => ?_)
 refine Ev.ldsL S1 (List.Mem.head _) c1 o1 ?_
 refine Ev.call (aOj x I A [] _ h1 c S1 N) ?_
 rintro _ h3 ⟨rfl, S3⟩
 cases hx : fQ x with
 | false =>
  refine ao ?_; refine yt ?_; refine wm ?_
  exact Ev.ret rfl
 | true =>
  have Nx := NW.nv N hx
  have Wx := ShwD.small hx bx nx
  refine an ?_; refine yj ?_; refine ws ?_
  refine Ev.call (bEd (by assumption) Nx Wx.kids Wx.len Wx.by') ?_
  rintro _ h5 ⟨rfl, S5⟩
  refine wx ?_; refine wx ?_; refine ws ?_
  refine Ev.call (bWv (by assumption) Nx Wx) ?_
  rintro _ h6 ⟨rfl, S6⟩
  refine wx ?_; refine wx ?_
  refine Ev.seq (fun e1 => ?_) (fun e1 => absurd rfl e1)
  refine zt ?_; refine wm ?_; refine zt ?_; refine wm ?_; refine zt ?_
  refine Ev.ieq (fun e2 => ?_) (fun e2 => absurd rfl e2)
  refine ap ?_; refine zt ?_; refine wm ?_; refine ap ?_
  exact Ev.ret rfl
end
end Go.Dd

