/- A part of the proof: P22 P23 P20 P24 P27 P25 P28: each text has a comment of its own. -/
import Derived.Test.YtliejomdaookoaaGreatDoorSm4
set_option linter.unusedVariables false
set_option linter.unusedSimpArgs false
set_option linter.constructorNameAsVariable false
set_option maxRecDepth 100000
namespace Go.Dd
open Go.Proofs
theorem cQy (n : Nat) (x : DV) (h : Hp) : aI (n + 1) 65 [x] h = s65 (aI n) n x h := by kernel_rfl
theorem bTb (n : Nat) (x y z : DV) (h : Hp) : aI (n + 1) 127 [x, y, z] h = s127 (aI n) n x y z h := by kernel_rfl
theorem cLj (n : Nat) (x y : DV) (h : Hp) : aI (n + 1) 93 [x, y] h = s93 (aI n) n x y h := by kernel_rfl
theorem cPp (n : Nat) (x y : DV) (h : Hp) : aI (n + 1) 92 [x, y] h = s92 (aI n) n x y h := by kernel_rfl
theorem cMi (n : Nat) (x y : DV) (h : Hp) : aI (n + 1) 38 [x, y] h = s38 (aI n) n x y h := by kernel_rfl
theorem cPu (n : Nat) (x : DV) (h : Hp) : aI (n + 1) 23 [x] h = s23 (aI n) n x h := by kernel_rfl
def qO (x : Node) : Prop := ∀ (I : Im) (A Q L : Ls) (h : Hp) (cs : List DV), Sy I A Q L h → NV I x cs → (nf x).tx.length ≤ 100000000000 →
 Ev (fun n => aI n 65 [.a cs] h) (fun v h' => v = .s (nf x).tx ∧ Sy I A Q L h')
def qP (sep : List Nat) : List (List Nat) → List Nat
 | [] => []
 | _ => sep
theorem lP (sep : List Nat) : ∀ (l : List (List Nat)) (x : List Nat), aK sep (l ++ [x]) = aK sep l ++ (qP sep l ++ x)
 | [], x => by simp [aK, qP]
 | [y], x => by simp [aK, qP]
 | y :: z :: l, x => by
  have := lP sep (z :: l) x
  simp only [List.cons_append, aK] at this ⊢
  rw [this]
  simp [qP]
theorem qG (sep : List Nat) : ∀ (l : List (List Nat)) (r : List (List Nat)), (aK sep l).length ≤ (aK sep (l ++ r)).length
 | l, [] => by simp
 | l, x :: r => by
  have h1 := qG sep (l ++ [x]) r
  rw [lP] at h1
  simp only [List.append_assoc, List.cons_append, List.nil_append, List.length_append] at h1
  omega
section
variable {I : Im} {A Q L : Ls} {h : Hp} {s : DV} {ks : List Node} {t : List Nat}
theorem sA (S : Sy I A Q L h) (N : NS I s ks) (T : ∀ x ∈ ks, qO x) (K : ∀ x ∈ ks, x.text.length ≤ 1000000000) (i hh : Nat) (hl : (bD (cF ks) i hh).length ≤ 100000000000) :
 Ev (fun n => aI n 127 [s, .i .i64 (i : Int), .i .i64 (hh : Int)] h) (fun v h' => v = .s (bD (cF ks) i hh) ∧ Sy I A Q L h') := by
 refine Ev.enter (fun n => bTb n _ _ _ h) ?_
 unfold s127 bVx
 refine Ev.op (N.len _) ?_
 refine eBo (fun e1 => ?_) (fun e1 => ?_)
 ·refine yt ?_
  refine eAs ⟨?_, S⟩
  have : ks.length ≤ i := by omega
  simp [bD, cF, List.getElem?_eq_none this]
 ·refine yj ?_
  have hi : i < ks.length := by omega
  have hx : ks[i]? = some ks[i] := by simp [hi]
  generalize ks[i] = x at hx
  have Tx := T x (List.mem_of_getElem? hx)
  have Kx := K x (List.mem_of_getElem? hx)
  obtain ⟨b, o, c, ei, Nx, el⟩ := N.at hx
  have ew : bD (cF ks) i hh = if (nf x).ht.1 > hh then 40 :: ((nf x).tx ++ [41]) else (nf x).tx := by
   simp [bD, cF, hx, Nf.ht]
  rw [ew] at hl ⊢
  unfold bTg
  refine Ev.op (ei _) ?_
  refine Ev.op (el _ _ _ _ _ (ILe.refl _) S) ?_
  obtain ⟨c1, o1, b1⟩ := Nx.shape
  refine wa fun _ _ _ => ?_; refine wt fun _ _ => ?_
  rename_i p _ _ hp Sp
  obtain ⟨k, tt, m, ns, ts, ks'⟩ := x
  have Nx' := Nx
  obtain ⟨s1, s2, s3, rfl, a, bb, cc, cells, F, NL⟩ := Nx
  have eh : ((nf (.mk k tt m ns ts ks')).ht).1 = eC k tt := by simp [nf, Nf.ht]
  rw [eh] at hl ⊢
  have fin : ∀ own : Nat, own = eC k tt → Ev (fun n => aJl (aI n) n (.i .i64 (hh : Int)) (.p p 0) (.i .i64 (own : Int)) hp) (fun v h' => v = .s (if eC k tt > hh then 40 :: ((nf (.mk k tt m ns ts ks')).tx ++ [41]) else (nf (.mk k tt m ns ts ks')).tx) ∧ Sy I A Q L h') := by
   intro own eo
   unfold aJl
   refine eBj (fun e2 => ?_) (fun e2 => ?_)
   ·have e2' : eC k tt > hh := by omega
    rw [if_pos e2'] at hl ⊢
    simp only [List.length_cons, List.length_append] at hl
    refine yt ?_
    refine eCd Sp (bX) rfl o1 ?_
    refine eAr (Tx _ _ _ _ _ _ Sp Nx' (by omega)) ?_
    rintro _ h9 ⟨rfl, S9⟩
    refine eAz (by simp; omega) ?_
    refine eAz (by simp; omega) ?_
    exact eAs ⟨by simp, S9.dropL⟩
   ·have e2' : ¬ eC k tt > hh := by omega
    rw [if_neg e2'] at hl ⊢
    refine yj ?_
    refine eCd Sp (bX) rfl o1 ?_
    refine eAr (Tx _ _ _ _ _ _ Sp Nx' hl) ?_
    rintro _ h9 ⟨rfl, S9⟩
    exact eAs ⟨rfl, S9.dropL⟩
  unfold bRc cFd
  refine eAy (eBc Sp (bX) rfl rfl ?_)
  refine eAv (fun e1 => ?_) (fun e1 => ?_)
  ·have e1' : k = 7 := e1
   refine yt ?_
   refine eAy (eBc Sp (bX) rfl rfl ?_)
   have hk : tt.length ≤ bG := by have : tt.length ≤ 1000000000 := Kx; simp [bG]; omega
   refine eAr (nA hk hp) ?_
   rintro _ _ ⟨rfl, hq⟩
   rw [hq]
   clear hq
   unfold aGq
   refine eAy (eBc Sp (bX) rfl rfl ?_)
   refine eAv (fun e2 => absurd (show k = 8 from e2) (by omega)) (fun e2 => ?_)
   refine yj ?_
   unfold zC
   refine eAy (eBc Sp (bX) rfl rfl ?_)
   refine eAv (fun e3 => absurd (show k = 6 from e3) (by omega)) (fun e3 => ?_)
   refine yj ?_
   exact fin _ (by rw [eC, if_pos e1'])
  ·have e1' : ¬ k = 7 := e1
   refine yj ?_
   unfold aGq
   refine eAy (eBc Sp (bX) rfl rfl ?_)
   refine eAv (fun e2 => ?_) (fun e2 => ?_)
   ·have e2' : k = 8 := e2
    refine yt ?_
    unfold zC
    refine eAy (eBc Sp (bX) rfl rfl ?_)
    refine eAv (fun e3 => absurd (show k = 6 from e3) (by omega)) (fun e3 => ?_)
    refine yj ?_
    exact fin 4 (by rw [eC, if_neg e1', if_pos e2'])
   ·have e2' : ¬ k = 8 := e2
    refine yj ?_
    unfold zC
    refine eAy (eBc Sp (bX) rfl rfl ?_)
    refine eAv (fun e3 => ?_) (fun e3 => ?_)
    ·have e3' : k = 6 := e3
     refine yt ?_
     exact fin 5 (by rw [eC, if_neg e1', if_neg e2', if_pos e3'])
    ·have e3' : ¬ k = 6 := e3
     refine yj ?_
     exact fin 0 (by rw [eC, if_neg e1', if_neg e2', if_neg e3'])
theorem tP {sep : List Nat} (N : NS I s ks) (T : ∀ x ∈ ks, qO x) : ∀ (r : List Node) (i j : Nat) (h : Hp) (acc : List (List Nat)), ks.drop i = r → acc.length = i → Sy I A Q L h →
 (aK sep (acc ++ fT r)).length ≤ 100000000000 → sep.length ≤ 1000 →
 Ev (fun n => mG (aI n) n (n - j) s (.s sep) (.s (aK sep acc)) (.i .i64 (i : Int)) h) (fun v h' => v = .s (aK sep (acc ++ fT r)) ∧ Sy I A Q L h')
 | [], i, j, h, acc, hr, ha, S, hl, hs => by
  refine eAw j (ll := fun n p => mG (aI n) n p s (.s sep) (.s (aK sep acc)) (.i .i64 (i : Int)) h) (bb := fun n p => uL (aI n) n (mG (aI n) n p) s (.s sep) (.s (aK sep acc)) (.i .i64 (i : Int)) h) (fun _ _ => rfl) ?_
  have hle : ks.length ≤ i := List.drop_eq_nil_iff.1 hr
  unfold uL
  refine Ev.op (N.len _) (eBa (fun e1 => absurd e1 (by omega)) (fun e1 => ?_))
  refine yj ?_
  unfold iB
  exact eAs ⟨by simp [fT], S⟩
 | x :: r, i, j, h, acc, hr, ha, S, hl, hs => by
  refine eAw j (ll := fun n p => mG (aI n) n p s (.s sep) (.s (aK sep acc)) (.i .i64 (i : Int)) h) (bb := fun n p => uL (aI n) n (mG (aI n) n p) s (.s sep) (.s (aK sep acc)) (.i .i64 (i : Int)) h) (fun _ _ => rfl) ?_
  have hx : ks[i]? = some x := dA0 hr
  have hlt := (wV hx)
  have hr' : ks.drop (i + 1) = r := dA1 hr
  have hlim := N.1
  have Tx := T x (List.mem_of_getElem? hx)
  obtain ⟨b, o, c, ei, Nx, el⟩ := N.at hx
  have e0 : fT (x :: r) = (nf x).tx :: fT r := rfl
  have e9 : aK sep (acc ++ fT (x :: r)) = aK sep ((acc ++ [(nf x).tx]) ++ fT r) := by rw [e0]; simp
  rw [e9] at hl ⊢
  have hp := qG sep (acc ++ [(nf x).tx]) (fT r)
  have hsn := lP sep acc (nf x).tx
  have hln := congrArg List.length hsn
  simp only [List.length_append] at hln
  have step : ∀ q : List Nat, q = aK sep acc ++ qP sep acc → Ev (fun n => bBw (aI n) n (mG (aI n) n (n - (j + 1))) s (.s sep) (.s q) (.i .i64 (i : Int)) h) (fun v h' => v = .s (aK sep ((acc ++ [(nf x).tx]) ++ fT r)) ∧ Sy I A Q L h') := by
   intro q eq
   unfold bBw
   refine Ev.op (ei _) ?_
   refine Ev.op (el _ _ _ _ _ (ILe.refl _) S) ?_
   refine eAr (Tx _ _ _ _ _ _ S Nx (by omega)) ?_
   rintro _ h9 ⟨rfl, S9⟩
   refine eAz (by rw [eq]; simp; omega) ?_
   unfold cYu
   refine eAx ?_
   rw [gC (by omega)]
   have := tP N T r (i + 1) (j + 1) h9 (acc ++ [(nf x).tx]) hr' (by simp [ha]) S9 hl hs
   rw [hsn] at this
   rw [eq]
   simpa [aG] using this
  unfold uL
  refine Ev.op (N.len _) (eBa (fun e1 => ?_) (fun e1 => absurd (show (i : Int) < ks.length by omega) e1))
  refine yt ?_
  unfold cXn
  cases acc with
  | nil =>
   simp at ha
   subst ha
   refine eBj (fun e2 => absurd e2 (by simp)) (fun e2 => ?_)
   refine yj ?_
   exact step _ (by simp [aK, qP])
  | cons y acc =>
   refine eBj (fun e2 => ?_) (fun e2 => absurd (show (Int.ofNat 0) < (i : Int) by simp at ha ⊢; omega) e2)
   refine yt ?_
   refine eAz (by omega) ?_
   exact step _ rfl
theorem nQ {sep : List Nat} (S : Sy I A Q L h) (N : NS I s ks) (T : ∀ x ∈ ks, qO x) (hl : (aK sep (fT ks)).length ≤ 100000000000) (hs : sep.length ≤ 1000) :
 Ev (fun n => aI n 38 [s, .s sep] h) (fun v h' => v = .s (aK sep (fT ks)) ∧ Sy I A Q L h') := by
 refine Ev.enter (fun n => cMi n _ _ h) ?_
 unfold s38 aXk aWy bFm bXw
 have := tP (sep := sep) N T ks 0 0 h [] (by simp) rfl S (by simpa using hl) hs
 rw [show aK sep [] = [] from rfl] at this
 simpa [aG] using this
theorem aFr {y : DV} {ps : List (List Nat)} (N : NS I s ks) (T : ∀ x ∈ ks, qO x) (K : ∀ x ∈ ks, x.text.length ≤ 1000000000) (Y : SS I y ps) : ∀ (r : List (List Nat)) (i j : Nat) (h : Hp) (acc : List (List Nat)), ps.drop i = r → acc.length = i → Sy I A Q L h →
 (aK [32] (acc ++ dF r (cF ks) i)).length ≤ 100000000000 →
 Ev (fun n => lZ (aI n) n (n - j) s (.s (aK [32] acc)) y (.i .i64 (i : Int)) h) (fun v h' => v = .s (aK [32] (acc ++ dF r (cF ks) i)) ∧ Sy I A Q L h')
 | [], i, j, h, acc, hr, ha, S, hl => by
  refine eAw j (ll := fun n p => lZ (aI n) n p s (.s (aK [32] acc)) y (.i .i64 (i : Int)) h) (bb := fun n p => uS (aI n) n (lZ (aI n) n p) s (.s (aK [32] acc)) y (.i .i64 (i : Int)) h) (fun _ _ => rfl) ?_
  have hle : ps.length ≤ i := List.drop_eq_nil_iff.1 hr
  unfold uS
  refine Ev.op (Y.2.len _) (eBa (fun e1 => absurd e1 (by omega)) (fun e1 => ?_))
  refine yj ?_
  unfold iI
  exact eAs ⟨by simp [dF], S⟩
 | p :: r, i, j, h, acc, hr, ha, S, hl => by
  refine eAw j (ll := fun n q => lZ (aI n) n q s (.s (aK [32] acc)) y (.i .i64 (i : Int)) h) (bb := fun n q => uS (aI n) n (lZ (aI n) n q) s (.s (aK [32] acc)) y (.i .i64 (i : Int)) h) (fun _ _ => rfl) ?_
  have hx : ps[i]? = some p := dA0 hr
  have hlt := (wV hx)
  have hr' : ps.drop (i + 1) = r := dA1 hr
  have hlim := Y.1
  have e9 : aK [32] (acc ++ dF (p :: r) (cF ks) i) = aK [32] ((acc ++ [p ++ 32 :: bD (cF ks) i 2]) ++ dF r (cF ks) (i + 1)) := by simp [dF]
  rw [e9] at hl ⊢
  have hp := qG [32] (acc ++ [p ++ 32 :: bD (cF ks) i 2]) (dF r (cF ks) (i + 1))
  have hsn := lP [32] acc (p ++ 32 :: bD (cF ks) i 2)
  have hln := congrArg List.length hsn
  simp only [List.length_append, List.length_cons] at hln
  have step : ∀ q : List Nat, q = aK [32] acc ++ qP [32] acc → Ev (fun n => aOc (aI n) n (lZ (aI n) n (n - (j + 1))) s (.s q) y (.i .i64 (i : Int)) h) (fun v h' => v = .s (aK [32] ((acc ++ [p ++ 32 :: bD (cF ks) i 2]) ++ dF r (cF ks) (i + 1))) ∧ Sy I A Q L h') := by
   intro q eq
   have eql := congrArg List.length eq
   simp only [List.length_append] at eql
   unfold aOc
   obtain ⟨b, o, ei, el⟩ := Y.at S hx
   refine Ev.op (ei _) ?_
   refine Ev.op el ?_
   refine eAz (by omega) ?_
   refine eAz (by simp; omega) ?_
   refine eAr (sA S N T K i 2 (by omega)) ?_
   rintro _ h9 ⟨rfl, S9⟩
   refine Ev.cnd ?_ ?_
   ·obtain ⟨b', o', ei', el'⟩ := Y.at S9 hx
    have hbo : DV.p b o = DV.p b' o' := by
     have := (ei h).symm.trans (ei' h)
     simpa [aG] using this
    cases hbo
    rw [el']
    simp [bM, DV.beq, jP]
   refine eAz (by simp; omega) ?_
   unfold bSw
   refine eAx ?_
   rw [gC (by omega)]
   have := aFr N T K Y r (i + 1) (j + 1) h9 (acc ++ [p ++ 32 :: bD (cF ks) i 2]) hr' (by simp [ha]) S9 hl
   rw [hsn] at this
   rw [eq]
   simpa [aG] using this
  unfold uS
  refine Ev.op (Y.2.len _) (eBa (fun e1 => ?_) (fun e1 => absurd (show (i : Int) < ps.length by omega) e1))
  refine yt ?_
  unfold cFf
  cases acc with
  | nil =>
   simp at ha
   subst ha
   refine eBj (fun e2 => absurd e2 (by simp)) (fun e2 => ?_)
   refine yj ?_
   exact step _ (by simp [aK, qP])
  | cons z acc =>
   refine eBj (fun e2 => ?_) (fun e2 => absurd (show (Int.ofNat 0) < (i : Int) by simp at ha ⊢; omega) e2)
   refine yt ?_
   refine eAz (by simp; omega) ?_
   exact step _ rfl
theorem vY (S : Sy I A Q L h) (N : NS I s ks) (T : ∀ x ∈ ks, qO x) (K : ∀ x ∈ ks, x.text.length ≤ 1000000000) (hs : t.length ≤ 1000000000) (hl : (bE t (cF ks)).length ≤ 100000000000) :
 Ev (fun n => aI n 93 [.s t, s] h) (fun v h' => v = .s (bE t (cF ks)) ∧ Sy I A Q L h') := by
 refine Ev.enter (fun n => cLj n _ _ h) ?_
 unfold s93 bBr
 refine eAr (nA (by simp [bG]; omega) h) ?_
 rintro _ _ ⟨rfl, hq⟩
 rw [hq]
 clear hq
 unfold aYl
 refine eAv (fun e1 => ?_) (fun e1 => ?_)
 ·have e1' : bW t = 1 := by have h0 := e1; simp at h0; omega
  refine eCb ?_
  refine eAs ⟨?_, S⟩
  rw [bE, if_pos e1']
 ·have e1' : ¬ bW t = 1 := by have h0 := e1; simp at h0; omega
  refine eBk ?_
  unfold bJg
  refine eAv (fun e2 => ?_) (fun e2 => ?_)
  ·have e2' : bW t = 2 := by have h0 := e2; simp at h0; omega
   have em : bE t (cF ks) = t ++ 32 :: bD (cF ks) 0 1 := by rw [bE, if_neg e1', if_pos e2']
   rw [em] at hl ⊢
   simp only [List.length_append, List.length_cons] at hl
   refine eCb ?_
   refine eAz (by simp; omega) ?_
   refine eAr (sA S N T K 0 1 (by omega)) ?_
   rintro _ h6 ⟨rfl, S6⟩
   refine eAz (by simp; omega) ?_
   exact eAs ⟨by simp, S6⟩
  ·have e2' : ¬ bW t = 2 := by have h0 := e2; simp at h0; omega
   have em : bE t (cF ks) = aK [32] (dF (cK t) (cF ks) 0) := by rw [bE, if_neg e1', if_neg e2']
   rw [em] at hl ⊢
   refine eBk ?_
   unfold bGu bCq
   refine eAr (aEm hs S) ?_
   rintro v h1 ⟨J, g, S1, Y⟩
   unfold bDx bGk bMk
   refine (aFr (N.mono g) T K Y (cK t) 0 0 h1 [] rfl rfl S1 (by simpa using hl)).mono ?_
   rintro v h' ⟨e, S2⟩
   exact ⟨by simpa using e, S2.weak g⟩
theorem aSi (S : Sy I A Q L h) (N : NS I s ks) (T : ∀ x ∈ ks, qO x) (K : ∀ x ∈ ks, x.text.length ≤ 1000000000) (hs : t.length ≤ 1000000000) (hl : (dT t (cF ks)).length ≤ 100000000000) :
 Ev (fun n => aI n 92 [.s t, s] h) (fun v h' => v = .s (dT t (cF ks)) ∧ Sy I A Q L h') := by
 refine Ev.enter (fun n => cPp n _ _ h) ?_
 unfold s92 cWi
 have hil : (cF ks).length = ks.length := by simp [cF]
 refine Ev.op (N.len _) ?_
 refine eAv (fun e1 => ?_) (fun e1 => ?_)
 ·have e1' : ks.length = 0 := by have h0 := e1; simp at h0; simp [h0]
  refine eCb ?_
  refine eAs ⟨?_, S⟩
  rw [dT, if_pos (by omega)]
 ·have e1' : ¬ ks.length = 0 := fun e => e1 (by rw [e]; rfl)
  refine eBk ?_
  unfold cZe dAb
  have go : ∀ (hh : Nat), hh = (if bW t = 1 then 1 else 2) → Ev (fun n => bIm (aI n) n (.s t) s (.i .i64 (hh : Int)) h) (fun v h' => v = .s (dT t (cF ks)) ∧ Sy I A Q L h') := by
   intro hh eh
   have em : dT t (cF ks) = bD (cF ks) 0 hh ++ 32 :: bE t (cF (ks.drop 1)) := by
    rw [dT, if_neg (by omega), eh]
    simp [cF]
   rw [em] at hl ⊢
   simp only [List.length_append, List.length_cons] at hl
   unfold bIm
   obtain ⟨s', er, N'⟩ := N.restA (i := 1) (by omega) (by omega)
   refine eAr (sA S N T K 0 hh (by omega)) ?_
   rintro _ h1 ⟨rfl, S1⟩
   refine eAz (by simp only [zU, lcE, lnE]; omega) ?_
   refine Ev.op (er _ _ _ _ S1) ?_
   refine Ev.cnd ?_ ?_
   ·rw [er _ _ _ _ S]
    have : DV.beq s' s' = true := N'.2.choose_spec.1.beq
    simp [bM, this]
   refine eAr (vY S1 N' (fun x hx => T x (List.mem_of_mem_drop hx)) (fun x hx => K x (List.mem_of_mem_drop hx)) hs (by omega)) ?_
   rintro _ h3 ⟨rfl, S3⟩
   refine eAz (by simp only [zU, lcE, lnE]; omega) ?_
   exact eAs ⟨by simp, S3⟩
  refine eAr (nA (by simp [bG]; omega) h) ?_
  rintro _ _ ⟨rfl, hq⟩
  rw [hq]
  clear hq
  refine eAv (fun e2 => ?_) (fun e2 => ?_)
  ·have e2' : bW t = 1 := by have h0 := e2; simp at h0; omega
   refine eCb ?_
   exact go 1 (by rw [if_pos e2'])
  ·have e2' : ¬ bW t = 1 := by have h0 := e2; simp at h0; omega
   refine eBk ?_
   exact go 2 (by rw [if_neg e2'])
def kV : List (List Nat) → List Nat
 | [] => []
 | x :: l => x ++ 32 :: kV l
theorem aCm : ∀ (l : List (List Nat)), l ≠ [] → kV l = aK [32] l ++ [32]
 | [], h => absurd rfl h
 | [x], _ => by simp [kV, aK]
 | x :: y :: l, _ => by
  have := aCm (y :: l) (by simp)
  rw [kV, this]
  simp [aK]
theorem yU {P : DV → Hp → Prop} {b : Pos} {c : List DV} {s2 : DV} {ts : List (List Nat)} (Y : SS I s2 ts) (S : Sy I A Q ((b, some (.row .ex c)) :: L) h) (g : c[4]? = some s2) : ∀ (r : List (List Nat)) (i j : Nat) (acc : List Nat), ts.drop i = r →
 (acc ++ kV r).length ≤ 100000000000 →
 Ev (fun n => gQ (aI n) n (.p b 0) (.s (acc ++ kV r)) h) P →
 Ev (fun n => oF (aI n) n (n - j) (.p b 0) (.s acc) (.i .i64 (i : Int)) h) P
 | [], i, j, acc, hr, hl, K => by
  refine eAw j (ll := fun n p => oF (aI n) n p (.p b 0) (.s acc) (.i .i64 (i : Int)) h) (bb := fun n p => vO (aI n) n (oF (aI n) n p) (.p b 0) (.s acc) (.i .i64 (i : Int)) h) (fun _ _ => rfl) ?_
  have hle : ts.length ≤ i := List.drop_eq_nil_iff.1 hr
  unfold vO
  refine eAy (eBc S (bX) (by simpa using g) Y.2.one ?_)
  refine Ev.op (Y.2.len _) (eBa (fun e1 => absurd e1 (by omega)) (fun e1 => ?_))
  refine yj ?_
  simpa [aG, kV] using K
 | x :: r, i, j, acc, hr, hl, K => by
  refine eAw j (ll := fun n p => oF (aI n) n p (.p b 0) (.s acc) (.i .i64 (i : Int)) h) (bb := fun n p => vO (aI n) n (oF (aI n) n p) (.p b 0) (.s acc) (.i .i64 (i : Int)) h) (fun _ _ => rfl) ?_
  have hx : ts[i]? = some x := dA0 hr
  have hlt := (wV hx)
  have hr' : ts.drop (i + 1) = r := dA1 hr
  have hlim := Y.1
  obtain ⟨bp, o, ei, el⟩ := Y.at S hx
  simp only [kV, List.length_append, List.length_cons] at hl
  unfold vO
  refine eAy (eBc S (bX) (by simpa using g) Y.2.one ?_)
  refine Ev.op (Y.2.len _) (eBa (fun e1 => ?_) (fun e1 => absurd (show (i : Int) < ts.length by omega) e1))
  refine yt ?_
  refine eAy (eBc S (bX) (by simpa using g) Y.2.one ?_)
  refine Ev.op (ei _) ?_
  refine Ev.op el ?_
  refine eAz (by omega) ?_
  refine eAz (by simp; omega) ?_
  refine eAx ?_
  rw [gC (by omega)]
  refine yU Y S g r (i + 1) (j + 1) (acc ++ x ++ [32]) hr' (by simp; omega) ?_
  simpa [aG, kV] using K
theorem aSp {k m : Int} {ns ts : List (List Nat)} {cs : List DV} (S : Sy I A Q L h) (N : NV I (.mk k t m ns ts ks) cs) (T : ∀ x ∈ ks, qO x) (hl : (cH ts (fT ks)).length ≤ 100000000000) :
 Ev (fun n => aI n 23 [.a cs] h) (fun v h' => v = .s (cH ts (fT ks)) ∧ Sy I A Q L h') := by
 refine Ev.enter (fun n => cPu n _ h) ?_
 unfold s23 bAp bHc
 obtain ⟨s1, s2, s3, rfl, a, b, c, cells, F, NL⟩ := N
 have N3 : NS I s3 ks := ⟨c, cells, F, NL⟩
 have o3 := F.one
 have o2 := b.2.one
 refine Ev.box S rfl ?_
 intro b1 h1 S1
 have eb : cH ts (fT ks) = (if ts.length = 0 then [] else 124 :: 32 :: (aK [32] ts ++ [32, 124, 32])) ++ aK [46, 32] (fT ks) := rfl
 rw [eb] at hl ⊢
 simp only [List.length_append] at hl
 have fin : ∀ (pre : List Nat), pre.length + (aK [46, 32] (fT ks)).length ≤ 100000000000 →
  Ev (fun n => kF (aI n) n (.p b1 0) (.s pre) h1) (fun v h' => v = .s (pre ++ aK [46, 32] (fT ks)) ∧ Sy I A Q L h') := by
  intro pre hp
  unfold kF
  refine eAy (eBc S1 (bX) rfl o3 ?_)
  refine eAr (nQ S1 N3 T (by omega) (by simp)) ?_
  rintro _ h3 ⟨rfl, S3⟩
  refine eAz (by omega) ?_
  exact eAs ⟨rfl, S3.dropL⟩
 refine eAy (eBc S1 (bX) rfl o2 ?_)
 refine Ev.op (b.2.len _) ?_
 unfold aXx
 refine eBj (fun e1 => ?_) (fun e1 => ?_)
 ·have e1' : ¬ ts.length = 0 := by have h0 := e1; simp at h0; intro h9; simp [h9] at h0
  rw [if_neg e1'] at hl ⊢
  refine yt ?_
  unfold bWt bEe bFg bVu
  have hne : ts ≠ [] := fun e => e1' (by rw [e]; rfl)
  have ht := aCm ts hne
  have htl := congrArg List.length ht
  simp only [zU, lcE, lnE] at htl hl
  refine yU b S1 rfl ts 0 0 [124, 32] (by simp) (by simp; omega) ?_
  unfold gQ
  refine eAz (by simp; omega) ?_
  have := fin (124 :: 32 :: (aK [32] ts ++ [32, 124, 32])) (by simp; omega)
  rw [ht]
  simpa [aG] using this
 ·have e1' : ts.length = 0 := by have h0 := e1; simp at h0; simpa using h0
  rw [if_pos e1'] at hl ⊢
  refine yj ?_
  exact fin [] (by simpa using hl)
end
end Go.Dd

namespace Go.Dd
open Go.Proofs
theorem aRr (x : List Nat) (l : List (List Nat)) : aK [] (x :: l) = x ++ aK [] l := by
 cases l <;> simp [aK]
section
variable {I : Im} {A Q L : Ls} {h : Hp}
theorem wI {b : Pos} {c : List DV} {t : List Nat} (hs : t.length ≤ 1000000000) (S : Sy I A Q ((b, some (.row .ex c)) :: L) h) (g : c[1]? = some (.s t)) : ∀ (r : List Nat) (i j : Nat) (acc : List Nat), t.drop i = r → i ≤ t.length → acc.length ≤ 1 + 2 * i →
 Ev (fun n => jR (aI n) n (n - j) (.p b 0) (.s acc) (.i .i64 (i : Int)) h) (fun v h' => v = .s (acc ++ (eZ 39 [39, 39] r ++ [39])) ∧ Sy I A Q L h')
 | [], i, j, acc, hr, hi, ha => by
  refine eAw j (ll := fun n p => jR (aI n) n p (.p b 0) (.s acc) (.i .i64 (i : Int)) h) (bb := fun n p => pT (aI n) n (jR (aI n) n p) (.p b 0) (.s acc) (.i .i64 (i : Int)) h) (fun _ _ => rfl) ?_
  have hle : t.length ≤ i := List.drop_eq_nil_iff.1 hr
  unfold pT
  refine eAy (eBc S (bX) (by simpa using g) rfl ?_)
  refine eBd (eBa (fun e1 => absurd e1 (by omega)) (fun e1 => ?_))
  refine yj ?_
  unfold iE
  refine eAz (by simp only [List.length_cons, List.length_nil]; omega) ?_
  exact eAs ⟨by simp [eZ], S.dropL⟩
 | x :: r, i, j, acc, hr, hi, ha => by
  refine eAw j (ll := fun n p => jR (aI n) n p (.p b 0) (.s acc) (.i .i64 (i : Int)) h) (bb := fun n p => pT (aI n) n (jR (aI n) n p) (.p b 0) (.s acc) (.i .i64 (i : Int)) h) (fun _ _ => rfl) ?_
  have hx : t[i]? = some x := dA0 hr
  have hlt := (wV hx)
  have hr' : t.drop (i + 1) = r := dA1 hr
  have hlim : bG = 100000000000 := rfl
  have step : ∀ q : List Nat, q.length ≤ acc.length + 1 → Ev (fun n => aJn (aI n) n (jR (aI n) n (n - (j + 1))) (.p b 0) (.s q) (.i .i64 (i : Int)) h) (fun v h' => v = .s (q ++ ([x] ++ (eZ 39 [39, 39] r ++ [39]))) ∧ Sy I A Q L h') := by
   intro q hq
   unfold aJn
   refine eAy (eBc S (bX) (by simpa using g) rfl ?_)
   refine eAx ?_
   rw [gC (by omega)]
   refine Ev.op (wT (a := i) (b := i + 1) (by omega) (by omega) _) ?_
   have ec : (t.take (i + 1)).drop i = [x] := by
    rw [List.take_add_one, hx, List.drop_append_of_le_length (by simp; omega)]
    rw [List.drop_eq_nil_of_le (by simp; omega)]
    rfl
   rw [ec]
   refine eAz (by simp only [List.length_cons, List.length_nil]; omega) ?_
   unfold bNi
   refine eAx ?_
   rw [gC (by omega)]
   have := wI hs S g r (i + 1) (j + 1) (q ++ [x]) hr' (by omega) (by simp only [zU, lcE, lnE]; omega)
   simpa [aG] using this
  unfold pT
  refine eAy (eBc S (bX) (by simpa using g) rfl ?_)
  refine eBd (eBa (fun e1 => ?_) (fun e1 => absurd (show (i : Int) < t.length by omega) e1))
  refine yt ?_
  unfold cAa
  refine eAy (eBc S (bX) (by simpa using g) rfl ?_)
  refine Ev.op (iK hx _) ?_
  refine eAv (fun e2 => ?_) (fun e2 => ?_)
  ·have e2' : x = 39 := by have h0 := e2; simp at h0; omega
   refine yt ?_
   refine eAz (by simp only [List.length_cons, List.length_nil]; omega) ?_
   have := step (acc ++ [39]) (by simp)
   have er : eZ 39 [39, 39] (x :: r) = [39, 39] ++ eZ 39 [39, 39] r := by rw [e2']; rfl
   rw [er]
   rw [e2'] at this
   simpa [aG] using this
  ·have e2' : ¬ x = 39 := fun h => e2 (by rw [h])
   refine yj ?_
   have := step acc (by omega)
   have er : eZ 39 [39, 39] (x :: r) = x :: eZ 39 [39, 39] r := by
    show (bif Nat.beq x 39 then [39, 39] ++ eZ 39 [39, 39] r else x :: eZ 39 [39, 39] r) = _
    cases e9 : Nat.beq x 39 with
    | false => rfl
    | true => exact absurd (Nat.eq_of_beq_eq_true e9) e2'
   rw [er]
   simpa [aG] using this
theorem wC {P : DV → Hp → Prop} {b : Pos} {c : List DV} {s1 : DV} {ns : List (List Nat)} (Y : SS I s1 ns) (S : Sy I A Q ((b, some (.row .ex c)) :: L) h) (g : c[3]? = some s1) : ∀ (r : List (List Nat)) (i j : Nat) (acc : List Nat), ns.drop i = r →
 (acc ++ cD r).length ≤ 100000000000 →
 Ev (fun n => eM (aI n) n (.p b 0) (.s (acc ++ cD r)) h) P →
 Ev (fun n => kR (aI n) n (n - j) (.p b 0) (.s acc) (.i .i64 (i : Int)) h) P
 | [], i, j, acc, hr, hl, K => by
  refine eAw j (ll := fun n p => kR (aI n) n p (.p b 0) (.s acc) (.i .i64 (i : Int)) h) (bb := fun n p => pQ (aI n) n (kR (aI n) n p) (.p b 0) (.s acc) (.i .i64 (i : Int)) h) (fun _ _ => rfl) ?_
  have hle : ns.length ≤ i := List.drop_eq_nil_iff.1 hr
  unfold pQ
  refine eAy (eBc S (bX) (by simpa using g) Y.2.one ?_)
  refine Ev.op (Y.2.len _) (eBa (fun e1 => absurd e1 (by omega)) (fun e1 => ?_))
  refine yj ?_
  simpa [aG, cD] using K
 | x :: r, i, j, acc, hr, hl, K => by
  refine eAw j (ll := fun n p => kR (aI n) n p (.p b 0) (.s acc) (.i .i64 (i : Int)) h) (bb := fun n p => pQ (aI n) n (kR (aI n) n p) (.p b 0) (.s acc) (.i .i64 (i : Int)) h) (fun _ _ => rfl) ?_
  have hx : ns[i]? = some x := dA0 hr
  have hlt := (wV hx)
  have hr' : ns.drop (i + 1) = r := dA1 hr
  have hlim := Y.1
  obtain ⟨bp, o, ei, el⟩ := Y.at S hx
  simp only [cD, List.length_append, List.length_cons] at hl
  unfold pQ
  refine eAy (eBc S (bX) (by simpa using g) Y.2.one ?_)
  refine Ev.op (Y.2.len _) (eBa (fun e1 => ?_) (fun e1 => absurd (show (i : Int) < ns.length by omega) e1))
  refine yt ?_
  refine eAz (by simp only [List.length_cons, List.length_nil]; omega) ?_
  refine eAy (eBc S (bX) (by simpa using g) Y.2.one ?_)
  refine Ev.op (ei _) ?_
  refine Ev.op el ?_
  refine eAz (by simp only [zU, lcE, lnE]; omega) ?_
  refine eAz (by simp only [zU, lcE, lnE]; omega) ?_
  refine eAx ?_
  rw [gC (by omega)]
  refine wC Y S g r (i + 1) (j + 1) (acc ++ [58] ++ x ++ [32]) hr' (by simp only [zU, lcE, lnE]; omega) ?_
  simpa [aG, cD] using K
theorem qU {b : Pos} {c : List DV} {s3 : DV} {ks : List Node} (N : NS I s3 ks) (g : c[5]? = some s3) (K : ∀ x ∈ ks, (∀ y ∈ x.kids, qO y) ∧ x.text.length ≤ 1000000000 ∧ ∀ y ∈ x.kids, y.text.length ≤ 1000000000) :
 ∀ (r : List Node) (i j : Nat) (h : Hp) (acc : List Nat), ks.drop i = r → Sy I A Q ((b, some (.row .ex c)) :: L) h → (acc ++ aK [] (r.map dL)).length ≤ 100000000000 →
 Ev (fun n => kW (aI n) n (n - j) (.p b 0) (.s acc) (.i .i64 (i : Int)) h) (fun v h' => v = .s (acc ++ aK [] (r.map dL)) ∧ Sy I A Q L h')
 | [], i, j, h, acc, hr, S, hl => by
  refine eAw j (ll := fun n p => kW (aI n) n p (.p b 0) (.s acc) (.i .i64 (i : Int)) h) (bb := fun n p => qJ (aI n) n (kW (aI n) n p) (.p b 0) (.s acc) (.i .i64 (i : Int)) h) (fun _ _ => rfl) ?_
  have hle : ks.length ≤ i := List.drop_eq_nil_iff.1 hr
  unfold qJ
  refine eAy (eBc S (bX) (by simpa using g) N.one ?_)
  refine Ev.op (N.len _) (eBa (fun e1 => absurd e1 (by omega)) (fun e1 => ?_))
  refine yj ?_
  unfold eT
  exact eAs ⟨by simp [aK], S.dropL⟩
 | x :: r, i, j, h, acc, hr, S, hl => by
  refine eAw j (ll := fun n p => kW (aI n) n p (.p b 0) (.s acc) (.i .i64 (i : Int)) h) (bb := fun n p => qJ (aI n) n (kW (aI n) n p) (.p b 0) (.s acc) (.i .i64 (i : Int)) h) (fun _ _ => rfl) ?_
  have hx : ks[i]? = some x := dA0 hr
  have hlt := (wV hx)
  have hr' : ks.drop (i + 1) = r := dA1 hr
  have hlim := N.1
  obtain ⟨K1, K2, K3⟩ := K x (List.mem_of_getElem? hx)
  obtain ⟨bp, o, cx, ei, Nx, el⟩ := N.at hx
  obtain ⟨k, t, m, ns, ts, ks'⟩ := x
  obtain ⟨q1, q2⟩ := aRi k m t ns ts ks'
  have ef : dL (.mk k t m ns ts ks') = 59 :: 32 :: bE t (cF ks') := by rw [dL, q1, q2]
  obtain ⟨s1, s2, s4, rfl, ya, yb, yc, cells, F, NL⟩ := Nx
  have N3 : NS I s4 ks' := ⟨yc, cells, F, NL⟩
  rw [List.map_cons, aRr, ef] at hl ⊢
  simp only [List.length_append, List.length_cons] at hl
  unfold qJ
  refine eAy (eBc S (bX) (by simpa using g) N.one ?_)
  refine Ev.op (N.len _) (eBa (fun e1 => ?_) (fun e1 => absurd (show (i : Int) < ks.length by omega) e1))
  refine yt ?_
  refine eAz (by simp only [List.length_cons, List.length_nil]; omega) ?_
  refine eAy (eBc S (bX) (by simpa using g) N.one ?_)
  refine Ev.op (ei _) ?_
  refine eAy ?_
  refine Ev.op (oG (j := 1) (el _ _ _ _ _ (ILe.refl _) S) rfl) ?_
  refine eAy (eBc S (bX) (by simpa using g) N.one ?_)
  refine Ev.op (ei _) ?_
  refine eAy ?_
  refine Ev.op (oG (j := 5) (el _ _ _ _ _ (ILe.refl _) S) rfl) ?_
  refine eAr (vY S N3 K1 K3 K2 (by omega)) ?_
  rintro _ h9 ⟨rfl, S9⟩
  refine eAz (by simp only [zU, lcE, lnE]; omega) ?_
  refine eAx ?_
  rw [gC (by omega)]
  have := qU N g K r (i + 1) (j + 1) h9 (acc ++ [59, 32] ++ bE t (cF ks')) hr' S9 (by simp only [zU, lcE, lnE]; omega)
  simpa [aG] using this
theorem aVd {k m : Int} {t : List Nat} {ns ts : List (List Nat)} {ks : List Node} (T : ∀ y ∈ ks, qO y) (K : ∀ z ∈ ks, (∀ y ∈ z.kids, qO y) ∧ z.text.length ≤ 1000000000 ∧ z.kids.length + 1 ≤ bG ∧ ∀ y ∈ z.kids, y.text.length ≤ 1000000000)
 (hs : t.length ≤ 1000000000) (hm0 : -9223372036854775808 ≤ m) (hm1 : m ≤ 9223372036854775807) : qO (.mk k t m ns ts ks) := by
 intro I A Q L h cs S N hl
 have N0 := N
 obtain ⟨etx, eht⟩ := aNw ks
 have ex : (nf (.mk k t m ns ts ks)).tx = aDk k t m ns ts (mJ ks) := by simp [nf]
 rw [ex] at hl ⊢
 have Kt : ∀ z ∈ ks, z.text.length ≤ 1000000000 := fun z hz => (K z hz).2.1
 refine Ev.enter (fun n => cQy n _ h) ?_
 unfold s65
 obtain ⟨s1, s2, s3, rfl, a, b, c, cells, F, NL⟩ := N
 have N3 : NS I s3 ks := ⟨c, cells, F, NL⟩
 have o1 := a.2.one
 have o2 := b.2.one
 have o3 := F.one
 refine Ev.box S rfl ?_
 intro b1 h1 S1
 unfold bJc
 refine eAy (eBc S1 (bX) rfl rfl ?_)
 unfold bGy
 unfold aDk at hl ⊢
 refine eAv (fun e1 => ?_) (fun e1 => ?_)
 ·replace e1 : k = 1 := e1
  rw [if_pos e1] at hl ⊢
  unfold aOo
  refine yt ?_
  refine eAy (eBc S1 (bX) rfl rfl ?_)
  refine eAr (aFs S1 hm0 hm1) ?_
  rintro _ h2 ⟨rfl, S2⟩
  exact eAs ⟨rfl, S2.dropL⟩
 replace e1 : ¬ k = 1 := e1
 rw [if_neg e1] at hl ⊢
 unfold aOo cDk
 refine eBk ?_
 refine eAv (fun e2 => ?_) (fun e2 => ?_)
 ·replace e2 : k = 2 := e2
  rw [if_pos e2] at hl ⊢
  unfold aQh
  refine yt ?_
  unfold cCp bEs aNm aVc
  have := wI hs S1 rfl t 0 0 [39] (by simp) (by omega) (by simp)
  simpa [aG] using this
 replace e2 : ¬ k = 2 := e2
 rw [if_neg e2] at hl ⊢
 unfold aQh aWq
 refine eBk ?_
 refine eAv (fun e3 => ?_) (fun e3 => ?_)
 ·replace e3 : k = 3 := e3
  rw [if_pos e3] at hl ⊢
  unfold aCa
  refine yt ?_
  refine eAy (eBc S1 (bX) rfl rfl ?_)
  refine eAz (by simp only [List.length_cons, List.length_nil]; omega) ?_
  exact eAs ⟨rfl, S1.dropL⟩
 replace e3 : ¬ k = 3 := e3
 rw [if_neg e3] at hl ⊢
 unfold aCa aWf
 refine eBk ?_
 refine eAv (fun e4 => ?_) (fun e4 => ?_)
 ·replace e4 : k = 4 := e4
  rw [if_pos e4, etx] at hl ⊢
  simp only [zU, lcE, lnE] at hl
  unfold zL
  refine yt ?_
  refine eAy (eBc S1 (bX) rfl o3 ?_)
  refine eAr (nQ (sep := [32]) S1 N3 T (by omega) (by simp)) ?_
  rintro _ h2 ⟨rfl, S2⟩
  refine eAz (by simp only [List.length_cons, List.length_nil]; omega) ?_
  refine eAz (by simp only [zU, lcE, lnE]; omega) ?_
  exact eAs ⟨by simp, S2.dropL⟩
 replace e4 : ¬ k = 4 := e4
 rw [if_neg e4] at hl ⊢
 unfold zL aTh
 refine eBk ?_
 refine eAv (fun e5 => ?_) (fun e5 => ?_)
 ·replace e5 : k = 6 := e5
  rw [if_pos e5, etx] at hl ⊢
  simp only [zU, lcE, lnE] at hl
  unfold aAm
  refine eCb ?_
  refine eAy (eBc S1 (bX) rfl rfl ?_)
  refine eAz (by simp only [List.length_cons, List.length_nil]; omega) ?_
  refine eAy (eBc S1 (bX) rfl o3 ?_)
  refine eAr (nQ (sep := []) S1 N3 T (by omega) (by simp)) ?_
  rintro _ h2 ⟨rfl, S2⟩
  refine Ev.cnd ?_ ?_
  ·rw [Bool.and_true]; exact dQ S2 (bX) rfl rfl (mZ _)
  refine eAz (by simp only [zU, lcE, lnE]; omega) ?_
  exact eAs ⟨by simp, S2.dropL⟩
 replace e5 : ¬ k = 6 := e5
 rw [if_neg e5] at hl ⊢
 unfold aAm aUd
 refine eBk ?_
 refine eAv (fun e6 => ?_) (fun e6 => ?_)
 ·replace e6 : k = 10 := e6
  rw [if_pos e6, etx] at hl ⊢
  simp only [zU, lcE, lnE] at hl
  unfold yG
  refine yt ?_
  refine eAy (eBc S1 (bX) rfl o3 ?_)
  refine eAr (nQ (sep := []) S1 N3 T (by omega) (by simp)) ?_
  rintro _ h2 ⟨rfl, S2⟩
  refine eAz (by simp only [List.length_cons, List.length_nil]; omega) ?_
  exact eAs ⟨rfl, S2.dropL⟩
 replace e6 : ¬ k = 10 := e6
 rw [if_neg e6] at hl ⊢
 unfold yG aUh
 refine eBk ?_
 refine eAv (fun e7 => ?_) (fun e7 => ?_)
 ·replace e7 : k = 7 := e7
  rw [if_pos e7, eht] at hl ⊢
  unfold zI
  refine yt ?_
  refine eAy (eBc S1 (bX) rfl rfl ?_)
  refine eAy (eBc S1 (bX) rfl o3 ?_)
  refine eAr (aSi S1 N3 T Kt hs hl) ?_
  rintro _ h2 ⟨rfl, S2⟩
  exact eAs ⟨rfl, S2.dropL⟩
 replace e7 : ¬ k = 7 := e7
 rw [if_neg e7] at hl ⊢
 unfold zI aVb
 refine eBk ?_
 refine eAv (fun e8 => ?_) (fun e8 => ?_)
 ·replace e8 : k = 8 := e8
  rw [if_pos e8] at hl ⊢
  unfold aAu
  refine yt ?_
  unfold aUa
  refine eAy (eBc S1 (bX) rfl o3 ?_)
  refine Ev.op (N3.len _) ?_
  refine eBa (fun e9 => ?_) (fun e9 => ?_)
  ·refine eCb ?_
   refine eAs ⟨?_, S1.dropL⟩
   match ks, e9 with
   | [], _ => rfl
   | [_], _ => rfl
   | _ :: _ :: _, e9 => simp at e9; omega
  ·match ks, N3, T, K, Kt, hl, e9, S1, o3 with
   | [], _, _, _, _, _, e9, _, _ => simp at e9
   | [_], _, _, _, _, _, e9, _, _ => simp at e9
   | y :: z :: r, N3, T, K, Kt, hl, e9, S1, o3 =>
    rw [aEc] at hl ⊢
    simp only [List.length_append] at hl
    refine eBk ?_
    obtain ⟨p0, q0, ca, ei0, Na, el0⟩ := N3.at (i := 0) (x := y) rfl
    obtain ⟨p1, q1', cb, ei1, Nb, el1⟩ := N3.at (i := 1) (x := z) rfl
    obtain ⟨c1, c2, _⟩ := Na.shape
    obtain ⟨kb, tb, mb, nsb, tsb, ksb⟩ := z
    obtain ⟨K1, K2, K3, K4⟩ := K (.mk kb tb mb nsb tsb ksb) (by simp)
    obtain ⟨q1, q2⟩ := aRi kb mb tb nsb tsb ksb
    rw [q2] at hl ⊢
    have hl' : (dT tb (cF (y :: ksb))).length + (aK [] (r.map dL)).length ≤ 100000000000 := hl
    obtain ⟨u1, u2, u3, rfl, ya, yb, yc, cells', F', NL'⟩ := Nb
    have N4 : NS I u3 ksb := ⟨yc, cells', F', NL'⟩
    unfold aLb
    refine eAy (eBc S1 (bX) rfl o3 ?_)
    refine Ev.op (ei0 _) ?_
    refine Ev.op (el0 _ _ _ _ _ (ILe.refl _) S1) ?_
    refine eBm S1 (fV c1) ?_
    intro b2 h4 S4
    unfold aJc
    refine eAy (eBc S4 (List.Mem.tail _ (bX)) rfl o3 ?_)
    refine Ev.op (ei1 _) ?_
    refine eAy ?_
    refine Ev.op (oG (j := 5) (el1 _ _ _ _ _ (ILe.refl _) S4) rfl) ?_
    obtain ⟨x9, h9, J, e9, g9, S9, N9⟩ := aSx S4 Na N4 K3
    refine Ev.op e9 ?_
    unfold aMp
    refine eAy (eBc S9 (bX) rfl o3 ?_)
    refine Ev.op (ei1 _) ?_
    refine eAy ?_
    refine Ev.op (oG (j := 1) (el1 _ _ _ _ _ g9 S9) rfl) ?_
    refine eAr (aSi S9 N9 (fun x hx => ?_) (fun x hx => ?_) K2 (by omega)) ?_
    ·rcases List.mem_cons.1 hx with rfl | hx
     ·exact T _ (by simp)
     ·exact K1 x hx
    ·rcases List.mem_cons.1 hx with rfl | hx
     ·exact Kt _ (by simp)
     ·exact K4 x hx
    rintro _ h15 ⟨rfl, S15⟩
    unfold aMy aMv aVy
    refine (qU (N3.mono g9) rfl (fun x hx => ⟨(K x hx).1, (K x hx).2.1, (K x hx).2.2.2⟩) r 2 0 h15 (dT tb (cF (y :: ksb))) rfl S15 (by simp only [List.length_append]; omega)).mono ?_
    rintro v h' ⟨rfl, S16⟩
    exact ⟨rfl, S16.weak g9⟩
 replace e8 : ¬ k = 8 := e8
 rw [if_neg e8] at hl ⊢
 unfold aAu aVe
 refine eBk ?_
 refine eAv (fun e9 => ?_) (fun e9 => ?_)
 ·replace e9 : k = 9 := e9
  rw [if_pos e9, etx] at hl ⊢
  simp only [zU, lcE, lnE] at hl
  unfold aBt
  refine eCb ?_
  unfold aVz aGa aIr aVt
  have hbody : (cH ts (fT ks)).length ≤ 100000000000 := by omega
  have fin : ∀ (pre : List Nat), pre.length + (cH ts (fT ks)).length + 1 ≤ 100000000000 →
   Ev (fun n => aGj (aI n) n (.p b1 0) (.s pre) h1) (fun v h' => v = .s (pre ++ (cH ts (fT ks) ++ [93])) ∧ Sy I A Q L h') := by
   intro pre hp
   unfold aGj
   refine eCd S1 (bX) rfl (N0.shape.2.1) ?_
   refine eAr (aSp S1 N0 T hbody) ?_
   rintro _ h2 ⟨rfl, S2⟩
   refine eAz (by omega) ?_
   refine eAz (by simp only [zU, lcE, lnE]; omega) ?_
   exact eAs ⟨by simp, S2.dropL⟩
  have hn : (cD ns).length + (cH ts (fT ks)).length + 2 ≤ 100000000000 := by
   by_cases h9 : cD ns = []
   ·rw [h9]; simp; omega
   ·rw [if_neg h9] at hl; simp at hl; omega
  refine wC a S1 rfl ns 0 0 [91] (by simp) (by simp; omega) ?_
  unfold eM
  refine eAy (eBc S1 (bX) rfl o1 ?_)
  refine Ev.op (a.2.len _) ?_
  refine eBj (fun e3 => ?_) (fun e3 => ?_)
  ·have hne : ¬ cD ns = [] := by
    cases ns with
    | nil => simp at e3
    | cons x l => simp [cD]
   rw [if_neg hne] at hl ⊢
   simp only [zU, lcE, lnE] at hl
   refine eCb ?_
   refine eAz (by simp only [zU, lcE, lnE]; omega) ?_
   have := fin ([91] ++ cD ns ++ [124, 32]) (by simp only [zU, lcE, lnE]; omega)
   simpa [aG] using this
  ·have hnil : ns = [] := by
    cases ns with
    | nil => rfl
    | cons x l => exact absurd (show (Int.ofNat 0) < ((x :: l).length : Int) by simp) e3
   subst hnil
   rw [if_pos (show cD [] = [] from rfl)]
   refine eBk ?_
   have := fin [91] (by simp only [List.length_cons, List.length_nil]; omega)
   simpa [aG, cD] using this
 replace e9 : ¬ k = 9 := e9
 rw [if_neg e9] at hl ⊢
 unfold aBt aJ
 refine yj ?_
 refine eAy (eBc S1 (bX) rfl rfl ?_)
 exact eAs ⟨rfl, S1.dropL⟩
end
mutual
theorem aFb : ∀ x, Sk x → qO x ∧ (∀ y ∈ x.kids, qO y) ∧ x.text.length ≤ 1000000000 ∧ x.kids.length + 1 ≤ bG ∧ ∀ y ∈ x.kids, y.text.length ≤ 1000000000
 | .mk k t m ns ts ks, h => by
  unfold Sk at h
  obtain ⟨h1, h2, h3, h4, h5⟩ := h
  have T := aBr ks h5
  exact ⟨aVd (fun y hy => (T y hy).1) (fun z hz => ⟨(T z hz).2.1, (T z hz).2.2.1, (T z hz).2.2.2.1, (T z hz).2.2.2.2⟩) h1 h2 h3, fun y hy => (T y hy).1, h1, h4, fun y hy => (T y hy).2.2.1⟩
theorem aBr : ∀ l, SkL l → ∀ y ∈ l, qO y ∧ (∀ z ∈ y.kids, qO z) ∧ y.text.length ≤ 1000000000 ∧ y.kids.length + 1 ≤ bG ∧ ∀ z ∈ y.kids, z.text.length ≤ 1000000000
 | [], _ => fun y hy => by cases hy
 | x :: l, h => by
  unfold SkL at h
  have p := aFb x h.1
  have q := aBr l h.2
  intro y hy
  rcases List.mem_cons.1 hy with e | hy
  ·rw [e]; exact p
  ·exact q y hy
end
end Go.Dd

namespace Go.Dd
open Go.Proofs
section
variable {I : Im} {A L : Ls} {h : Hp}
structure Shw (x : Node) : Prop where
 kids : ∀ y ∈ x.kids, oS y
 len : (cH x.temps (fT x.kids)).length ≤ bG
 by' : AB (cH x.temps (fT x.kids))
theorem Shw.small {x : Node} (h : eL x = true) (hb : By x) (hn : Nm x) : Shw x where
 kids := (aPt x (aAt h hn)).2.1
 len := aUj h
 by' := hb.body
end
end Go.Dd

namespace Go.Dd
open Go.Proofs
theorem bJr {u : List Nat} (h : 2000 < u.length) : uO u = ([], 0, 12) := by
 unfold uO; rw [aBb h]; rfl
theorem gtA {u : List Nat} (h : (uO u).2.2 = 0) : GT (uO u).1 ∧ u.length ≤ 2000 := by
 by_cases hu : u.length ≤ 2000
 ·exact ⟨(dLo hu (aMk u) h).1, hu⟩
 ·rw [bJr (by omega)] at h
  cases h
theorem cNk (n : Nat) (x y : DV) (h : Hp) : aI (n + 1) 12 [x, y] h = s12 (aI n) n x y h := by kernel_rfl
section
variable {I : Im} {A L : Ls} {h : Hp}
theorem bLm {x : Node} {c : List DV} {b : Pos} {s : List Nat} {m : Bool} {r : Node × Int × Int} (S : Sy I A [] ((b, some (.row .ex c)) :: L) h) (N : NV I x c)
 (R : Ev (fun n => aI n 25 [.s s, .b m] h) (aSl I A ((b, some (.row .ex c)) :: L) r)) :
 Ev (fun n => bBu (aI n) n (.b m) (.p b 0) (.s s) h) (fun v h' => v = .t [.s (oZ s x r).1, .i .i64 (oZ s x r).2] ∧ Sy I A [] L h') := by
 obtain ⟨c1, o1, b1⟩ := N.shape
 unfold bBu
 refine eAr R ?_
 rintro _ h3 ⟨J, ds, rfl, g3, S3, N3⟩
 obtain ⟨c3, o3, b3⟩ := N3.shape
 refine wx ?_; refine wx ?_; refine wx ?_; refine wa fun _ _ _ => ?_; refine wt fun _ _ => ?_; refine ws ?_; refine ws ?_
 refine eAr (aYx x r.1 J A [] _ _ _ _ (by assumption) (N.mono g3) N3) ?_
 rintro _ h5 ⟨rfl, S5⟩
 refine eBi (fun e1 => ?_) (fun e1 => ?_)
 ·have e1' : ¬ r.2.2 = 0 := e1
  refine yg (yg (ap (yt ?_)))
  exact eAs ⟨by simp [oZ, e1'], (dp : Sy J A [] L _).weak g3⟩
 ·have e1' : r.2.2 = 0 := e1
  cases en : nEq x r.1 with
  | true =>
   refine zf (wm (zf (an (aq (yj ?_)))))
   exact eAs ⟨by simp [oZ, e1', en], (dp : Sy J A [] L _).weak g3⟩
  | false =>
   refine zf (wm (zf (ao (aq (yt ?_)))))
   exact eAs ⟨by simp [oZ, e1', en], (dp : Sy J A [] L _).weak g3⟩
structure ShwD (x : Node) : Prop extends Shw x where
 kidsD : ∀ y ∈ x.kids, qO y
theorem ShwD.small {x : Node} (h : eL x = true) (hb : By x) (hn : Nm x) : ShwD x where
 toShw := Shw.small h hb hn
 kidsD := (aFb x (aAt h hn)).2.1
end
end Go.Dd

namespace Go.Dd
open Go.Proofs
theorem cDh : ∀ (f : Nat) (t : List Nat) (l : List (List Nat)) (a b : PSt), RR a b → ∀ (t' : List Nat) (l' : List (List Nat)), (a.err = 0 → t = t' ∧ l = l') → RQ a.err Eq (aDm f t l false a) (aFq f t' l' b)
 | 0, t, l, a, b, R, t', l', hl => RQ.none
 | f + 1, t, l, a, b, R, t', l', hl => by
  unfold aDm aFq
  simp only [Bool.false_eq_true, if_false]
  refine eBh (kE R _ _) fun c hc => ?_
  cases c with
  | true =>
   obtain ⟨rfl, rfl⟩ := hl (dA hc).1
   simp only [if_true]
   have en : eB a 2 [] = cP a := by unfold eB; rw [hc]; rfl
   rw [en]
   refine kH R (by decide) hc fun x s e _ _ _ R2 => ?_
   by_cases h : t.length + x.text.length ≤ bG
   ·rw [if_pos (show t.length + (x, s).1.text.length ≤ bG from h), if_pos (show t.length + (x, s).1.text.length ≤ bG from h)]
    rw [← e]
    refine RQ.bind (aGr R2 (by decide) l) fun x1 y1 s1 s2 R3 _ hv => ?_
    exact cDh f _ _ s1 s2 R3 _ _ fun h9 => ⟨rfl, (hv h9).symm⟩
   ·rw [if_neg (show ¬ t.length + (x, s).1.text.length ≤ bG from h)]
    exact RQ.none
  | false =>
   simp only [Bool.false_eq_true, if_false]
   exact RQ.some R id fun h9 => by
    obtain ⟨rfl, rfl⟩ := hl h9
    rfl
theorem dCa (f : Nat) {a b : PSt} (R : RR a b) : RQ a.err Eq (lD f a) (bIx f b) := by
 unfold lD bIx
 refine eBh (kE R _ _) fun c hc => ?_
 cases c with
 | true =>
  exact kH R (by decide) hc fun x s e _ _ _ R2 => RQ.some R2 (fun _ => rfl) (fun _ => rfl)
 | false =>
  simp only [Bool.false_eq_true, if_false]
  refine eBh (kE R _ _) fun c hc => ?_
  cases c with
  | true =>
   refine kH R (by decide) hc fun x s e _ _ _ R2 => ?_
   rw [← e]
   refine RQ.bind (aGr R2 (by decide) []) fun x1 y1 s1 s2 R3 h0 hv => ?_
   exact RQ.some R3 id fun h9 => by rw [hv h9]; rfl
  | false =>
   simp only [Bool.false_eq_true, if_false]
   cases f with
   | zero => exact RQ.none
   | succ f =>
    unfold aDm
    simp only [if_true, Option.bind_some, Nat.add_sub_cancel]
    refine RQ.bind (nF R (by decide) []) fun x y s s' R2 _ hv => ?_
    by_cases h : ([] : List Nat).length + x.text.length ≤ bG
    ·rw [if_pos (show ([] : List Nat).length + (x, s).1.text.length ≤ bG from h)]
     refine RQ.bind (aGr R2 (by decide) []) fun x1 y1 s1 s2 R3 h1 hv2 => ?_
     exact cDh f _ _ s1 s2 R3 _ _ fun h9 => by
      have e1 := hv (h1 h9)
      have e2 := hv2 h9
      subst e1
      exact ⟨rfl, e2.symm⟩
    ·rw [if_neg (show ¬ ([] : List Nat).length + (x, s).1.text.length ≤ bG from h)]
     exact RQ.none
theorem dIz {a b : PSt} (R : RR a b) : RQ a.err Eq (aFe a) (aEv b) := by
 unfold aFe aEv
 refine eBh (kE R _ _) fun c hc => ?_
 cases c with
 | true =>
  refine kH R (by decide) hc fun x s e _ _ _ R2 => ?_
  rw [← e]
  refine RQ.bind (nF R2 (by decide) _) fun x1 y1 s1 s1' R3 h1 hv1 => ?_
  refine RQ.bind (nF R3 (by decide) _) fun x2 y2 s2 s2' R4 h2 hv2 => ?_
  have R5 : RR (if 255 < x2.num then bS s2 x2 2 else s2) (if 255 < y2.num then bS s2' y2 2 else s2') ∧ ((if 255 < x2.num then bS s2 x2 2 else s2).err = 0 → s2.err = 0) := by
   by_cases he : s2.err = 0
   ·have := hv2 he
    subst this
    have := R4.eq he
    subst this
    have hg : GT (if 255 < x2.num then bS s2 x2 2 else s2).toks := by
     split
     ·rw [bJ]; exact R4.1
     ·exact R4.1
    exact ⟨RR.refl hg, fun _ => he⟩
   ·have e1 : (if 255 < x2.num then bS s2 x2 2 else s2) = s2 := by
     split
     ·unfold bS; rw [if_neg he]
     ·rfl
    have e2 : (if 255 < y2.num then bS s2' y2 2 else s2') = s2' := by
     split
     ·unfold bS; rw [if_neg (by rw [R4.2.1]; exact he)]
     ·rfl
    rw [e1, e2]
    exact ⟨R4, id⟩
  refine (RQ.bind (nF R5.1 (by decide) _) fun x3 y3 s3 s3' R6 h3 hv3 => ?_).mono R5.2 (fun _ _ h => h)
  exact RQ.some R6 id fun h9 => by rw [hv2 (R5.2 (h3 h9))]
 | false =>
  simp only [Bool.false_eq_true, if_false]
  exact RQ.some R id fun _ => rfl
theorem dLh (f : Nat) {a b : PSt} (R : RR a b) : RQ a.err Eq (pK f a) (aQe f b) := by
 unfold pK aQe
 refine RQ.bind (dCa f R) fun x y s s' R2 h0 hv => ?_
 refine RQ.bind (dIz R2) fun x1 y1 s1 s1' R3 h1 hv1 => ?_
 exact RQ.some R3 id fun h9 => by rw [hv (h1 h9), hv1 h9]
theorem cTr {f : Nat} (hf : f + 1 ≤ bG) {lx : List Tok × Int × Int} (hg : lx.2.2 = 0 → GT lx.1) {res : Node × Int × Int} (h : lV (pK f) f lx = some res) : zO f lx = some res := by
 unfold zO
 by_cases he : lx.2.2 = 0
 ·rw [if_pos he, if_pos (hg he).1]
  rw [aRv he, yW] at h
  obtain ⟨⟨y0, st0⟩, h0, h⟩ := aT h
  obtain ⟨⟨y, st⟩, h1, h⟩ := aT h
  unfold aPr at h1
  obtain ⟨⟨ts, s2⟩, h2, h1⟩ := aT h1
  obtain ⟨⟨ks, s3⟩, h3, h1⟩ := aT h1
  obtain ⟨⟨u, s4⟩, h4, h1⟩ := aT h1
  cases h1
  obtain ⟨p0, y0', s0', q0, R0, v0⟩ := dLh f (RR.refl (a := ⟨lx.1, 0, 0, 0⟩) (hg he)) y0 st0 h0
  obtain ⟨p1, ts', s2', q1, R2, v2⟩ := bFi f R0 ts s2 h2
  obtain ⟨p3, ks', s3', q3, R3, v3⟩ := aMt (aMc f hf) f [] [] s2 s2' R2 (fun _ => rfl) ks s3 h3
  obtain ⟨s4', q4, R4, p4⟩ := dQr R3 h4
  rw [q0, Option.bind_some]
  unfold bFe
  rw [q1, Option.bind_some, q3, Option.bind_some, q4, Option.bind_some, R4.2.1]
  by_cases e4 : s4.err = 0
  ·rw [if_pos (show (y0.with ts ks, s4).2.err = 0 from e4)] at h
   rw [if_pos e4]
   cases h
   have e3 := p4 e4
   rw [v3 e3, v2 (p3 e3), v0 (p1 (p3 e3))]
  ·rw [if_neg (show ¬ (y0.with ts ks, s4).2.err = 0 from e4)] at h
   rw [if_neg e4, R4.2.2.1]
   cases h
   rfl
 ·rw [if_neg he]
  unfold lV at h
  rw [if_neg he] at h
  exact h
theorem bJl (u : List Nat) : zO 2004 (uO u) = some (aSa u) := cTr (by simp [bG]) (fun h => (gtA h).1) (aPe u)
end Go.Dd

namespace Go.Dd
open Go.Proofs
theorem cNe (n : Nat) (x : DV) (h : Hp) : aI (n + 1) 20 [x] h = s20 (aI n) n x h := by kernel_rfl
theorem cSs (n : Nat) (x y : DV) (h : Hp) : aI (n + 1) 31 [x, y] h = s31 (aI n) n x y h := by kernel_rfl
theorem cTg (n : Nat) (x : DV) (h : Hp) : aI (n + 1) 11 [x] h = s11 (aI n) n x h := by kernel_rfl
theorem bPa (rec : FuncId → List DV → Hp → aF) (x y : DV) (h : Hp) : eA CF rec (.f 31 [] [y]) [x] h = rec 31 [x, y] h := by kernel_rfl
def eQ (ns : List (List Nat)) (i : Nat) : List Nat := (ns[i]?).getD []
def cQ (ns : List (List Nat)) : List (List Nat) → Nat → List (List Nat)
 | [], _ => []
 | p :: ps, i => (p ++ 32 :: eQ ns i) :: cQ ns ps (i + 1)
def cT (t : List Nat) (ns : List (List Nat)) : List Nat :=
 if bW t = 2 then t ++ 32 :: eQ ns 0 else if bW t = 3 then aK [32] (cQ ns (cK t) 0) else t
def eH : List Nat := [32, 60, 112, 114, 105, 109, 105, 116, 105, 118, 101, 58, 32]
def dV (t : List Nat) (m : Int) (ns : List (List Nat)) : List Nat :=
 (if m = 0 then cT t ns else cT t ns ++ (eH ++ (jT m ++ [62]))) ++ [32]
section
variable {I : Im} {A Q L : Ls} {h : Hp}
theorem bRa {b : Pos} {c : List DV} {s1 : DV} {ns : List (List Nat)} (Y : SS I s1 ns) (S : Sy I A Q L h) (hg : h.bl.get b = some (.row .ex c)) (g : c[3]? = some s1) (i : Nat) :
 Ev (fun n => aI n 31 [.i .i64 (i : Int), .p b 0] h) (fun v h' => v = .s (eQ ns i) ∧ h' = h) := by
 refine Ev.enter (fun n => cSs n _ _ h) ?_
 unfold s31
 refine eAy (eDs hg (by simpa using g) Y.2.one ?_)
 refine Ev.op (Y.2.len _) ?_
 refine eBo (fun e1 => ?_) (fun e1 => ?_)
 ·refine yt ?_
  refine eAs ⟨?_, rfl⟩
  have : ns.length ≤ i := by omega
  simp [eQ, List.getElem?_eq_none this]
 ·refine yj ?_
  have hi : i < ns.length := by omega
  have hx : ns[i]? = some ns[i] := by simp [hi]
  obtain ⟨p, o, ei, el⟩ := Y.at S hx
  refine eAy (eDs hg (by simpa using g) Y.2.one ?_)
  refine Ev.op (ei _) ?_
  refine Ev.op el ?_
  exact eAs ⟨by simp [eQ, hx], rfl⟩
theorem aCb (ns : List (List Nat)) (i : Nat) : (eQ ns i).length ≤ cO ns := by
 unfold eQ
 cases e : ns[i]? with
 | none => simp
 | some x =>
  simp only [Option.getD_some]
  exact iS (List.mem_map_of_mem (List.mem_of_getElem? e))
theorem aEh {P : DV → Hp → Prop} {b : Pos} {c : List DV} {s1 y : DV} {ns ps : List (List Nat)} (Z : SS I s1 ns) (Y : SS I y ps) (g : c[3]? = some s1) (hlim : cO ns + cO ps ≤ 1000000000) : ∀ (r : List (List Nat)) (i j : Nat) (B : Ls) (h : Hp) (x : DV) (acc : List (List Nat)), ps.drop i = r → i ≤ ps.length → acc.length = i → Sy I (B ++ A) Q ((b, some (.row .ex c)) :: L) h → Gr I 1 B x acc.length (acc.map .s) →
 (∀ (J : Im) (h' : Hp) (x' : DV), ILe I J → Sy J A Q ((b, some (.row .ex c)) :: L) h' → SS J x' (acc ++ cQ ns r i) → Ev (fun n => eO (aI n) n (.p b 0) x' h') P) →
 Ev (fun n => kM (aI n) n (n - j) (.p b 0) (.f 31 [] [.p b 0]) x y (.i .i64 (ps.length : Int)) (.i .i64 (i : Int)) h) P
 | [], i, j, B, h, x, acc, hr, hi, ha, S, G, K => by
  refine eAw j (ll := fun n m => kM (aI n) n m (.p b 0) (.f 31 [] [.p b 0]) x y (.i .i64 (ps.length : Int)) (.i .i64 (i : Int)) h) (bb := fun n m => pW (aI n) n (kM (aI n) n m) (.p b 0) (.f 31 [] [.p b 0]) x y (.i .i64 (ps.length : Int)) (.i .i64 (i : Int)) h) (fun _ _ => rfl) ?_
  unfold pW
  have hle : ps.length ≤ i := List.drop_eq_nil_iff.1 hr
  refine eBa (fun e1 => absurd e1 (by omega)) (fun e1 => ?_)
  refine eBk ?_
  obtain ⟨J, gJ, S3, F3⟩ := G.freeze S
  have hY := Y.1
  exact K J _ _ gJ S3 ⟨by simp [cQ]; omega, by simpa [aG, cQ] using F3⟩
 | p :: r, i, j, B, h, x, acc, hr, hi, ha, S, G, K => by
  refine eAw j (ll := fun n m => kM (aI n) n m (.p b 0) (.f 31 [] [.p b 0]) x y (.i .i64 (ps.length : Int)) (.i .i64 (i : Int)) h) (bb := fun n m => pW (aI n) n (kM (aI n) n m) (.p b 0) (.f 31 [] [.p b 0]) x y (.i .i64 (ps.length : Int)) (.i .i64 (i : Int)) h) (fun _ _ => rfl) ?_
  unfold pW
  have hl2 : ps.length ≤ bG := Y.1
  have hx : ps[i]? = some p := by
   have : (ps.drop i)[0]? = some p := by rw [hr]; rfl
   simpa [aG] using this
  have hi' := (wV hx)
  have hr2 : ps.drop (i + 1) = r := by
   have := jL hx
   rw [hr] at this
   simpa [aG] using this.symm
  have hpl : p.length ≤ cO ps := iS (List.mem_map_of_mem (List.mem_of_getElem? hx))
  have hal := aCb ns i
  refine eBa (fun e1 => ?_) (fun e1 => absurd (show (i : Int) < ps.length by omega) e1)
  refine eCb ?_
  obtain ⟨bp, o, ei, el⟩ := Y.at S hx
  refine Ev.op (ei _) ?_
  refine Ev.op el ?_
  simp only [bPa]
  refine eAr (bRa Z S (S.memL (bX)) g i) ?_
  rintro _ _ ⟨rfl, hq⟩
  rw [hq]
  clear hq
  refine eBm S (cs := [.s p, .s [32], .s (eQ ns i)]) (by simp [cU, cN]) ?_
  intro b1 h7 S7
  refine eAr (eN [p, [32], eQ ns i] S7 (bX) rfl (by simp [aK]; omega) (by simp)) ?_
  rintro _ _ ⟨rfl, rfl⟩
  have ej : aK [] [p, [32], eQ ns i] = p ++ 32 :: eQ ns i := by simp [aK]
  rw [ej]
  refine eBm S7 (cs := [.s (p ++ 32 :: eQ ns i)]) rfl ?_
  intro b2 h9 S9
  obtain ⟨x4, h4, B4, e4, S4, G4⟩ := lI G S9 (bX) (by omega)
  refine Ev.op e4 ?_
  refine eAx ?_
  rw [gC (by omega)]
  refine aEh Z Y g hlim r (i + 1) (j + 1) B4 h4 x4 (acc ++ [p ++ 32 :: eQ ns i]) hr2 (by omega) (by simp [ha]) S4.dropL.dropL G4 ?_
  intro J h' x' gJ SJ YJ
  exact K J h' x' gJ SJ (by simpa [aG, cQ] using YJ)
theorem wS (ns : List (List Nat)) : ∀ (ps : List (List Nat)) (i : Nat), cO (cQ ns ps i) ≤ cO ps + ps.length * (cO ns + 1) ∧ (cQ ns ps i).length = ps.length
 | [], i => by simp [cQ, cO]
 | p :: ps, i => by
  have ih := wS ns ps (i + 1)
  have ha := aCb ns i
  simp only [cQ, cO, List.map_cons, List.sum_cons, List.length_append, List.length_cons, Nat.add_mul, Nat.one_mul] at ih ha ⊢
  omega
theorem cAr (t : List Nat) (ns : List (List Nat)) : (cT t ns).length ≤ 10 + 3 * t.length + (t.length + 1) * (cO ns + 1) := by
 unfold cT
 have ha := aCb ns 0
 split
 ·simp only [List.length_append, List.length_cons, Nat.add_mul]; omega
 ·split
  ·have h1 := iM [32] (cQ ns (cK t) 0)
   obtain ⟨h2, h3⟩ := wS ns (cK t) 0
   obtain ⟨h4, h5⟩ := vU t
   have h6 : (cK t).length * (cO ns + 1) ≤ t.length * (cO ns + 1) := Nat.mul_le_mul_right _ h5
   simp only [List.length_cons, List.length_nil] at h1
   simp only [Nat.add_mul] at h6 ⊢
   omega
  ·omega
theorem tR {t : List Nat} (m : Int) {ns : List (List Nat)} (ht : t.length ≤ 10000) (hn : cO ns ≤ 10000) : (cT t ns).length ≤ 1000000000 ∧ (dV t m ns).length ≤ 1000000100 := by
 have h1 := cAr t ns
 have h2 : (t.length + 1) * (cO ns + 1) ≤ 10001 * 10001 := Nat.mul_le_mul (by omega) (by omega)
 have h3 := uC m
 refine ⟨by omega, ?_⟩
 unfold dV
 split
 ·simp; omega
 ·simp [eH]; omega
theorem bKw {k m : Int} {t : List Nat} {ns ts : List (List Nat)} {ks : List Node} {cs : List DV} (S : Sy I A Q L h) (N : NV I (.mk k t m ns ts ks) cs) (ht : t.length ≤ 10000) (hn : cO ns ≤ 10000)
 (hm0 : -9223372036854775808 ≤ m) (hm1 : m ≤ 9223372036854775807) :
 Ev (fun n => aI n 20 [.a cs] h) (fun v h' => v = .s (dV t m ns) ∧ Sy I A Q L h') := by
 obtain ⟨hp, hh⟩ := tR m ht hn
 have hi := uC m
 refine Ev.enter (fun n => cNe n _ h) ?_
 unfold s20
 obtain ⟨s1, s2, s3, rfl, a, bb, c, cells, F, NL⟩ := N
 refine Ev.box S rfl ?_
 intro b h1 S1
 have fin : ∀ (J : Im) (h : Hp), ILe I J → Sy J A Q ((b, some (.row .ex [.i .i64 k, .s t, .i .i64 m, s1, s2, s3])) :: L) h →
  Ev (fun n => bO (aI n) n (.p b 0) (.s (cT t ns)) h) (fun v h' => v = .s (dV t m ns) ∧ Sy I A Q L h') := by
  intro J h gJ S
  unfold bO
  refine eAy (eBc S (bX) rfl rfl ?_)
  have fin5 : ∀ (q : List Nat) (h : Hp), Sy J A Q ((b, some (.row .ex [.i .i64 k, .s t, .i .i64 m, s1, s2, s3])) :: L) h → q.length ≤ 1000000099 →
   Ev (fun n => bIq (aI n) n (.s q) h) (fun v h' => v = .s (q ++ [32]) ∧ Sy I A Q L h') := by
   intro q h S hq
   unfold bIq
   refine eBm S (cs := [.s q, .s [32]]) (by simp [cU, cN]) ?_
   intro b2 h2 S2
   refine eAr (eN [q, [32]] S2 (bX) rfl (by simp [aK]; omega) (by simp)) ?_
   rintro _ _ ⟨rfl, rfl⟩
   exact eAs ⟨by simp [aK], S2.dropL.dropL.weak gJ⟩
  refine eBi (fun e1 => ?_) (fun e1 => ?_)
  ·have e1' : ¬ m = 0 := e1
   have eh : dV t m ns = (cT t ns ++ (eH ++ (jT m ++ [62]))) ++ [32] := by rw [dV, if_neg e1']
   rw [eh] at hh ⊢
   refine yt ?_
   refine eAy (eBc S (bX) rfl rfl ?_)
   refine Ev.op (bEw hm0 hm1 _) ?_
   refine eBm S (cs := [.s (cT t ns), .s eH, .s (jT m), .s [62]]) (by simp [cU, cN, eH]) ?_
   intro b2 h2 S2
   refine eAr (eN [cT t ns, eH, jT m, [62]] S2 (bX) rfl (by simp [aK, eH]; omega) (by simp)) ?_
   rintro _ _ ⟨rfl, rfl⟩
   have ej : aK [] [cT t ns, eH, jT m, [62]] = cT t ns ++ (eH ++ (jT m ++ [62])) := by simp [aK]
   rw [ej]
   refine fin5 _ _ S2.dropL ?_
   simp only [zU, lcE, lnE] at hh ⊢
   omega
  ·have e1' : m = 0 := e1
   have eh : dV t m ns = cT t ns ++ [32] := by rw [dV, if_pos e1']
   rw [eh]
   refine yj ?_
   exact fin5 _ _ S (by omega)
 unfold bDt bIe
 refine eAy (eBc S1 (bX) rfl rfl ?_)
 unfold aXc
 refine eAy (eBc S1 (bX) rfl rfl ?_)
 refine eAr (qB t h1) ?_
 rintro _ _ ⟨rfl, hq⟩
 rw [hq]
 clear hq
 unfold bFk
 refine eAv (fun e1 => ?_) (fun e1 => ?_)
 ·have e1' : bW t = 2 := by have h0 := e1; simp at h0; omega
  have ep : cT t ns = t ++ 32 :: eQ ns 0 := by rw [cT, if_pos e1']
  unfold aSy
  refine yt ?_
  have Sr := S1.res
  refine eAy ?_
  refine eBc Sr (List.Mem.tail _ (bX)) rfl rfl ?_
  simp only [bPa]
  refine eAr (bRa a Sr (Sr.memL (List.Mem.tail _ (bX))) rfl 0) ?_
  rintro _ _ ⟨rfl, hq⟩
  rw [hq]
  clear hq
  refine Ev.cnd ?_ ?_
  ·rw [Bool.and_true]; exact dQ Sr (List.Mem.tail _ (bX)) rfl rfl (mZ _)
  refine eBl Sr (cs := [.s t, .s [32], .s (eQ ns 0)]) (Rpl.head _) (by simp [cU, cN]) ?_
  intro h3 S3
  refine eAr (eN [t, [32], eQ ns 0] S3 (bX) rfl (by have := aCb ns 0; simp [aK]; omega) (by simp)) ?_
  rintro _ _ ⟨rfl, rfl⟩
  have ej : aK [] [t, [32], eQ ns 0] = cT t ns := by rw [ep]; simp [aK]
  rw [ej]
  exact fin _ _ (ILe.refl _) S3.dropL
 ·have e1' : ¬ bW t = 2 := by have h0 := e1; simp at h0; omega
  unfold aSy
  refine yj ?_
  unfold cEb
  refine eAv (fun e2 => ?_) (fun e2 => ?_)
  ·have e2' : bW t = 3 := by have h0 := e2; simp at h0; omega
   have ep : cT t ns = aK [32] (cQ ns (cK t) 0) := by rw [cT, if_neg e1', if_pos e2']
   unfold aRx
   refine yt ?_
   unfold aUx aMo
   refine eAy (eBc S1 (bX) rfl rfl ?_)
   refine eAr (aPx S1 (by omega)) ?_
   rintro v h2 ⟨J, g, S2, Y⟩
   refine Ev.op (Y.2.len _) ?_
   unfold aNz aTw
   obtain ⟨pl1, pl2⟩ := vU t
   refine aEh (a.mono g) Y rfl (by omega) (cK t) 0 0 [] h2 .l0 [] rfl (by omega) rfl S2 (Gr.nil J 1) ?_
   intro J2 h3 x3 g3 S3 Y3
   unfold eO
   simp only [List.nil_append] at Y3
   refine Ev.op (SS.join Y3 S3 (by rw [← ep]; omega)) ?_
   rw [← ep]
   exact fin _ _ (g.trans g3) S3
  ·have e2' : ¬ bW t = 3 := by have h0 := e2; simp at h0; omega
   have ep : cT t ns = t := by rw [cT, if_neg e1', if_neg e2']
   unfold aRx
   refine yj ?_
   have := fin _ _ (ILe.refl _) S1
   rw [ep] at this
   exact this
end
def nO (x : Node) : List Nat := dV x.text x.num x.names ++ cH x.temps (fT x.kids)
noncomputable def bGm (x : Node) : List Nat × Int := oZ (nO x) x (aSa (nO x))
section
variable {I : Im} {A L : Ls} {h : Hp}
theorem aPu {x : Node} {cs : List DV} (S : Sy I A [] L h) (N : NV I x cs) (T : ∀ y ∈ x.kids, oS y) (ht : x.text.length ≤ 10000) (hn : cO x.names ≤ 10000) (hm0 : -9223372036854775808 ≤ x.num) (hm1 : x.num ≤ 9223372036854775807)
 (hl : (cH x.temps (fT x.kids)).length ≤ 1000000000) (hb : AB (nO x)) :
 Ev (fun n => aI n 11 [.a cs] h) (fun v h' => v = .t [.s (bGm x).1, .i .i64 (bGm x).2] ∧ Sy I A [] L h') := by
 obtain ⟨c1, o1, b1⟩ := N.shape
 have N0 := N
 obtain ⟨k, t, m, ns, ts, ks⟩ := x
 have hl' : (cH ts (fT ks)).length ≤ 1000000000 := hl
 have hh : (dV t m ns).length ≤ 1000000100 := (tR m ht hn).2
 have em : nO (.mk k t m ns ts ks) = dV t m ns ++ cH ts (fT ks) := rfl
 have hlim : (nO (.mk k t m ns ts ks)).length ≤ bG := by rw [em]; simp [bG]; omega
 refine Ev.enter (fun n => cTg n _ h) ?_
 unfold s11
 refine Ev.box S rfl (fun p h1 S1 => ?_)
 have Sr := S1.res
 generalize hh9 : fP 1 h1 = hr at Sr
 refine eCd Sr (List.Mem.tail _ (bX)) c1 o1 ?_
 refine eAr (bKw Sr N0 ht hn hm0 hm1) ?_
 rintro _ h2 ⟨rfl, S2⟩
 refine eCd S2 (List.Mem.tail _ (bX)) c1 o1 ?_
 refine Ev.cnd ?_ ?_
 ·rw [ldA (Sr.memL (List.Mem.tail _ (bX))) (aCc c1 o1)]
  simp [bM, b1]
 refine eAr (aDt S2 N0 T (by omega)) ?_
 rintro _ h3 ⟨rfl, S3⟩
 refine eBl S3 (cs := [.s (dV t m ns), .s (cH ts (fT ks))]) (Rpl.head _) (by simp [cU, cN]) ?_
 intro h4 S4
 refine eAr (eN [dV t m ns, cH ts (fT ks)] S4 (bX) rfl (by simp [aK]; omega) (by simp)) ?_
 rintro _ _ ⟨rfl, hq⟩
 rw [hq]
 clear hq
 have ej : aK [] [dV t m ns, cH ts (fT ks)] = nO (.mk k t m ns ts ks) := by rw [em]; simp [aK]
 rw [ej]
 refine eAr (bLl S4.dropL hlim hb 2001 2001 2004 2004 (by simp [bG]) (by simp [bG]) (by simp [bG]) _ (aMk _) _ (aPe _)) ?_
 rintro _ h5 ⟨J, ds, rfl, g3, S5, N3⟩
 obtain ⟨c3, o3, b3⟩ := N3.shape
 refine wx ?_; refine wx ?_; refine wx ?_; refine wa fun _ _ _ => ?_; refine wt fun _ _ => ?_; refine ws ?_; refine ws ?_
 refine eAr (cLt (a := (aSa (nO (.mk k t m ns ts ks))).2.1) (by assumption) (N0.mono g3) N3) ?_
 rintro _ h7 ⟨rfl, S7⟩
 refine wx ?_; refine wx ?_
 exact eAs ⟨rfl, (dp : Sy J A [] L _).weak g3⟩
end
end Go.Dd

namespace Go.Dd
open Go.Proofs
theorem cKn (n : Nat) (x y : DV) (h : Hp) : aI (n + 1) 40 [x, y] h = s40 (aI n) n x y h := by kernel_rfl
theorem cKq (n : Nat) (x : DV) (h : Hp) : aI (n + 1) 24 [x] h = s24 (aI n) n x h := by kernel_rfl
section
variable {I : Im} {A Q L : Ls} {h : Hp}
theorem aXs {x : Node} {cs : List DV} (S : Sy I A Q L h) (N : NV I x cs) (i : Nat) :
 Ev (fun n => aI n 40 [.a cs, .i .i64 (i : Int)] h) (fun v h' => v = .s (eQ x.names i) ∧ Sy I A Q L h') := by
 refine Ev.enter (fun n => cKn n _ _ h) ?_
 unfold s40
 obtain ⟨k, t, m, ns, ts, ks⟩ := x
 obtain ⟨s1, s2, s3, rfl, a, bb, c, cells, F, NL⟩ := N
 refine Ev.box S rfl (fun b h1 S1 => ?_)
 refine eAy (eBc S1 (bX) rfl a.2.one ?_)
 refine Ev.op (a.2.len _) ?_
 refine eBo (fun e1 => ?_) (fun e1 => ?_)
 ·refine yt ?_
  refine eAs ⟨?_, S1.dropL⟩
  have : ns.length ≤ i := by omega
  simp [eQ, Node.names, List.getElem?_eq_none this]
 ·refine yj ?_
  have hi : i < ns.length := by omega
  have hx : ns[i]? = some ns[i] := by simp [hi]
  obtain ⟨p, o, ei, el⟩ := a.at S1 hx
  refine eAy (eBc S1 (bX) rfl a.2.one ?_)
  refine Ev.op (ei _) ?_
  refine Ev.op el ?_
  exact eAs ⟨by simp [eQ, Node.names, hx], S1.dropL⟩
theorem tM {P : DV → Hp → Prop} {b : Pos} {c : List DV} {x : Node} {y : DV} {ps : List (List Nat)} (N : NV I x c) (Y : SS I y ps) (hlim : (aK [32] (cQ x.names ps 0)).length ≤ 1000000000) : ∀ (r : List (List Nat)) (i j : Nat) (h : Hp) (acc : List (List Nat)), ps.drop i = r → acc.length = i → acc ++ cQ x.names r i = cQ x.names ps 0 → Sy I A Q ((b, some (.row .ex c)) :: L) h →
 (∀ h', Sy I A Q ((b, some (.row .ex c)) :: L) h' → Ev (fun n => dR (aI n) n (.p b 0) (.s (aK [32] (cQ x.names ps 0))) h') P) →
 Ev (fun n => jN (aI n) n (n - j) (.p b 0) (.s (aK [32] acc)) y (.i .i64 (i : Int)) h) P
 | [], i, j, h, acc, hr, ha, he, S, K => by
  refine eAw j (ll := fun n p => jN (aI n) n p (.p b 0) (.s (aK [32] acc)) y (.i .i64 (i : Int)) h) (bb := fun n p => qC (aI n) n (jN (aI n) n p) (.p b 0) (.s (aK [32] acc)) y (.i .i64 (i : Int)) h) (fun _ _ => rfl) ?_
  have hle : ps.length ≤ i := List.drop_eq_nil_iff.1 hr
  unfold qC
  refine Ev.op (Y.2.len _) (eBa (fun e1 => absurd e1 (by omega)) (fun e1 => ?_))
  refine yj ?_
  simp only [cQ, List.append_nil] at he
  rw [he]
  exact K h S
 | p :: r, i, j, h, acc, hr, ha, he, S, K => by
  refine eAw j (ll := fun n q => jN (aI n) n q (.p b 0) (.s (aK [32] acc)) y (.i .i64 (i : Int)) h) (bb := fun n q => qC (aI n) n (jN (aI n) n q) (.p b 0) (.s (aK [32] acc)) y (.i .i64 (i : Int)) h) (fun _ _ => rfl) ?_
  have hx : ps[i]? = some p := dA0 hr
  have hlt := (wV hx)
  have hr' : ps.drop (i + 1) = r := dA1 hr
  have hl2 := Y.1
  have he' : (acc ++ [p ++ 32 :: eQ x.names i]) ++ cQ x.names r (i + 1) = cQ x.names ps 0 := by rw [← he]; simp [cQ]
  have hp := qG [32] (acc ++ [p ++ 32 :: eQ x.names i]) (cQ x.names r (i + 1))
  rw [he'] at hp
  have hsn := lP [32] acc (p ++ 32 :: eQ x.names i)
  have hln := congrArg List.length hsn
  simp only [List.length_append, List.length_cons] at hln
  obtain ⟨c1, o1, b1⟩ := N.shape
  have step : ∀ q : List Nat, q = aK [32] acc ++ qP [32] acc → Ev (fun n => aNx (aI n) n (jN (aI n) n (n - (j + 1))) (.p b 0) (.s q) y (.i .i64 (i : Int)) h) P := by
   intro q eq
   have eql := congrArg List.length eq
   simp only [List.length_append] at eql
   unfold aNx
   obtain ⟨bp, o, ei, el⟩ := Y.at S hx
   refine Ev.op (ei _) ?_
   refine Ev.op el ?_
   refine eAz (by omega) ?_
   refine eAz (by simp; omega) ?_
   refine eCd S (bX) c1 o1 ?_
   refine eAr (aXs S N i) ?_
   rintro _ h9 ⟨rfl, S9⟩
   refine Ev.cnd ?_ ?_
   ·obtain ⟨b', o', ei', el'⟩ := Y.at S9 hx
    have hbo : DV.p bp o = DV.p b' o' := by
     have := (ei h).symm.trans (ei' h)
     simpa [aG] using this
    cases hbo
    rw [el']
    simp [bM, DV.beq, jP]
   refine eAz (by simp; omega) ?_
   unfold bPc
   refine eAx ?_
   rw [gC (by omega)]
   have := tM N Y hlim r (i + 1) (j + 1) h9 (acc ++ [p ++ 32 :: eQ x.names i]) hr' (by simp [ha]) he' S9 K
   rw [hsn] at this
   rw [eq]
   simpa [aG] using this
  unfold qC
  refine Ev.op (Y.2.len _) (eBa (fun e1 => ?_) (fun e1 => absurd (show (i : Int) < ps.length by omega) e1))
  refine yt ?_
  unfold bWm
  cases acc with
  | nil =>
   simp at ha
   subst ha
   refine eBj (fun e2 => absurd e2 (by simp)) (fun e2 => ?_)
   refine yj ?_
   exact step _ (by simp [aK, qP])
  | cons z acc =>
   refine eBj (fun e2 => ?_) (fun e2 => absurd (show (Int.ofNat 0) < (i : Int) by simp at ha ⊢; omega) e2)
   refine yt ?_
   refine eAz (by simp; omega) ?_
   exact step _ rfl
theorem aUr {k m : Int} {t : List Nat} {ns ts : List (List Nat)} {ks : List Node} {cs : List DV} (S : Sy I A Q L h) (N : NV I (.mk k t m ns ts ks) cs) (ht : t.length ≤ 10000) (hn : cO ns ≤ 10000)
 (hm0 : -9223372036854775808 ≤ m) (hm1 : m ≤ 9223372036854775807) :
 Ev (fun n => aI n 24 [.a cs] h) (fun v h' => v = .s (dV t m ns) ∧ Sy I A Q L h') := by
 obtain ⟨hp, hh⟩ := tR m ht hn
 have hi := uC m
 have hlim : bG = 100000000000 := rfl
 have N0 := N
 obtain ⟨c1, o1, b1⟩ := N.shape
 refine Ev.enter (fun n => cKq n _ h) ?_
 unfold s24
 obtain ⟨s1, s2, s3, rfl, a, bb, c, cells, F, NL⟩ := N
 refine Ev.box S rfl ?_
 intro b h1 S1
 have fin : ∀ (J : Im) (h : Hp), ILe I J → Sy J A Q ((b, some (.row .ex [.i .i64 k, .s t, .i .i64 m, s1, s2, s3])) :: L) h →
  Ev (fun n => dR (aI n) n (.p b 0) (.s (cT t ns)) h) (fun v h' => v = .s (dV t m ns) ∧ Sy I A Q L h') := by
  intro J h gJ S
  unfold dR
  refine eAy (eBc S (bX) rfl rfl ?_)
  have fin5 : ∀ (q : List Nat) (h : Hp), Sy J A Q ((b, some (.row .ex [.i .i64 k, .s t, .i .i64 m, s1, s2, s3])) :: L) h → q.length ≤ 1000000099 →
   Ev (fun n => bAu (aI n) n (.s q) h) (fun v h' => v = .s (q ++ [32]) ∧ Sy I A Q L h') := by
   intro q h S hq
   unfold bAu
   refine eAz (by simp; omega) ?_
   exact eAs ⟨rfl, S.dropL.weak gJ⟩
  refine eBi (fun e1 => ?_) (fun e1 => ?_)
  ·have e1' : ¬ m = 0 := e1
   have eh : dV t m ns = (cT t ns ++ (eH ++ (jT m ++ [62]))) ++ [32] := by rw [dV, if_neg e1']
   rw [eh] at hh ⊢
   simp only [zU, lcE, lnE] at hh
   refine yt ?_
   refine eAz (t := eH) (by omega) ?_
   refine eAy (eBc S (bX) rfl rfl ?_)
   refine eAr (aFs S hm0 hm1) ?_
   rintro _ h2 ⟨rfl, S2⟩
   refine eAz (by simp only [List.length_append]; omega) ?_
   refine eAz (by simp only [zU, lcE, lnE]; omega) ?_
   have := fin5 (cT t ns ++ eH ++ jT m ++ [62]) _ S2 (by simp only [zU, lcE, lnE]; omega)
   simpa [aG] using this
  ·have e1' : m = 0 := e1
   have eh : dV t m ns = cT t ns ++ [32] := by rw [dV, if_pos e1']
   rw [eh]
   refine yj ?_
   exact fin5 _ _ S (by omega)
 unfold bHl
 refine eAy (eBc S1 (bX) rfl rfl ?_)
 unfold bDc
 refine eAy (eBc S1 (bX) rfl rfl ?_)
 refine eAr (nA (by omega) h1) ?_
 rintro _ _ ⟨rfl, hq⟩
 rw [hq]
 clear hq
 refine eAv (fun e1 => ?_) (fun e1 => ?_)
 ·have e1' : bW t = 2 := by have h0 := e1; simp at h0; omega
  have ep : cT t ns = t ++ 32 :: eQ ns 0 := by rw [cT, if_pos e1']
  have hal := aCb ns 0
  refine yt ?_
  refine eAy (eBc S1 (bX) rfl rfl ?_)
  refine eAz (by simp; omega) ?_
  refine eCd S1 (bX) rfl o1 ?_
  refine eAr (aXs S1 N0 0) ?_
  rintro _ h2 ⟨rfl, S2⟩
  refine Ev.cnd ?_ ?_
  ·rw [Bool.and_true]; exact dQ S2 (bX) rfl rfl (mZ _)
  refine eAz (by simp [Node.names]; omega) ?_
  have ej : t ++ [32] ++ eQ (Node.mk k t m ns ts ks).names 0 = cT t ns := by rw [ep]; simp [Node.names]
  rw [ej]
  unfold aEn
  refine eAy (eBc S2 (bX) rfl rfl ?_)
  refine eAr (nA (by omega) h2) ?_
  rintro _ _ ⟨rfl, hq⟩
  rw [hq]
  clear hq
  refine eAv (fun e2 => absurd e2 (by rw [e1']; simp)) (fun e2 => ?_)
  unfold aOe
  refine yj ?_
  exact fin _ _ (ILe.refl _) S2
 ·have e1' : ¬ bW t = 2 := by have h0 := e1; simp at h0; omega
  refine yj ?_
  unfold aEn
  refine eAy (eBc S1 (bX) rfl rfl ?_)
  refine eAr (nA (by omega) h1) ?_
  rintro _ _ ⟨rfl, hq⟩
  rw [hq]
  clear hq
  unfold aOe
  refine eAv (fun e2 => ?_) (fun e2 => ?_)
  ·have e2' : bW t = 3 := by have h0 := e2; simp at h0; omega
   have ep : cT t ns = aK [32] (cQ ns (cK t) 0) := by rw [cT, if_neg e1', if_pos e2']
   refine yt ?_
   unfold cAu bBk
   refine eAy (eBc S1 (bX) rfl rfl ?_)
   refine eAr (aEm (by omega) S1) ?_
   rintro v h2 ⟨J, g, S2, Y⟩
   unfold bFl aKu aTj
   refine tM (x := .mk k t m ns ts ks) (N0.mono g) Y (by show (aK [32] (cQ ns (cK t) 0)).length ≤ _; rw [← ep]; exact hp) (cK t) 0 0 h2 [] rfl rfl rfl S2 ?_
   intro h3 S3
   have : aK [32] (cQ (Node.mk k t m ns ts ks).names (cK t) 0) = cT t ns := ep.symm
   rw [this]
   exact fin _ _ g S3
  ·have e2' : ¬ bW t = 3 := by have h0 := e2; simp at h0; omega
   have ep : cT t ns = t := by rw [cT, if_neg e1', if_neg e2']
   refine yj ?_
   have := fin _ _ (ILe.refl _) S1
   rw [ep] at this
   exact this
end
theorem eEd {ns : List (List Nat)} (H : ∀ x ∈ ns, AB x) (i : Nat) : AB (eQ ns i) := by
 unfold eQ
 cases e : ns[i]? with
 | none => exact AB.nil
 | some x => exact H x (List.mem_of_getElem? e)
theorem eDg {ns : List (List Nat)} (H : ∀ x ∈ ns, AB x) : ∀ {ps : List (List Nat)} {i : Nat}, (∀ x ∈ ps, AB x) → ∀ x ∈ cQ ns ps i, AB x
 | [], i, _, x, hx => by simp [cQ] at hx
 | p :: ps, i, K, x, hx => by
  simp only [cQ, List.mem_cons] at hx
  rcases hx with rfl | hx
  ·exact (K p (by simp)).app (AB.cons (by omega) (eEd H _))
  ·exact eDg H (fun z hz => K z (by simp [hz])) x hx
theorem eEb {t : List Nat} {m : Int} {ns : List (List Nat)} (H : AB t) (K : ∀ x ∈ ns, AB x) : AB (dV t m ns) := by
 have hp : AB (cT t ns) := by
  unfold cT
  split
  ·exact H.app (AB.cons (by omega) (eEd K _))
  ·split
   ·exact AB.join (AB.cons (by omega) AB.nil) (eDg K H.parts)
   ·exact H
 have hq : AB eH := by
  intro c hc
  simp [eH] at hc
  omega
 unfold dV
 refine AB.app ?_ (AB.cons (by omega) AB.nil)
 split
 ·exact hp
 ·exact hp.app (hq.app ((AB.itoa m).app (AB.cons (by omega) AB.nil)))
structure ShwM (x : Node) : Prop extends ShwD x where
 t0 : x.text.length ≤ 10000
 n0 : cO x.names ≤ 10000
 m0 : -9223372036854775808 ≤ x.num
 m1 : x.num ≤ 9223372036854775807
 b0 : (cH x.temps (fT x.kids)).length ≤ 1000000000
 a0 : AB (nO x)
theorem aSb {x : Node} (h : eL x = true) : (cH x.temps (fT x.kids)).length ≤ 1000000 := by
 obtain ⟨k, t, m, ns, ts, ks⟩ := x
 simp only [eL, Bool.and_eq_true, decide_eq_true_eq] at h
 obtain ⟨h0, h1, h2, h3, h4, h5, h6⟩ := h
 obtain ⟨t1, t2, t3⟩ := tO ks (oN h6)
 have hb := zR ts (fT ks)
 have n2 := iA h5
 have hsz : sz (.mk k t m ns ts ks) = 1 + tK ks := by rw [sz]
 have e : fT ks = (mJ ks).map Nf.tx := ((aNw ks).1).symm
 have hz : (fT ks).length = ks.length := by simp [fT]
 show (cH ts (fT ks)).length ≤ _
 rw [← e] at t1
 have : WLL ks = 2000 * tK ks := rfl
 omega
theorem ShwM.small {x : Node} (h : eL x = true) (hb : By x) (hn : Nm x) : ShwM x where
 toShwD := ShwD.small h hb hn
 t0 := by
  obtain ⟨k, t, m, ns, ts, ks⟩ := x
  simp only [eL, Bool.and_eq_true, decide_eq_true_eq] at h
  show t.length ≤ _
  omega
 n0 := by
  obtain ⟨k, t, m, ns, ts, ks⟩ := x
  simp only [eL, Bool.and_eq_true, decide_eq_true_eq] at h
  have := iA h.2.2.2.2.1
  show cO ns ≤ _
  omega
 m0 := by
  obtain ⟨k, t, m, ns, ts, ks⟩ := x
  unfold Nm at hn
  exact hn.1.1
 m1 := by
  obtain ⟨k, t, m, ns, ts, ks⟩ := x
  unfold Nm at hn
  exact hn.1.2
 b0 := by have := aSb h; omega
 a0 := by
  have h2 := hb.body
  obtain ⟨k, t, m, ns, ts, ks⟩ := x
  obtain ⟨b1, b2, _, _⟩ := hb
  exact (eEb b1 b2).app h2
section
variable {I : Im} {A L : Ls} {h : Hp}
theorem cAd {x : Node} {cs : List DV} (S : Sy I A [] L h) (N : NV I x cs) (W : ShwM x) :
 Ev (fun n => aI n 12 [.a cs, .b true] h) (fun v h' => v = .t [.s (bGm x).1, .i .i64 (bGm x).2] ∧ Sy I A [] L h') := by
 obtain ⟨c1, o1, b1⟩ := N.shape
 have N0 := N
 have hl := W.b0
 have hh := (tR x.num W.t0 W.n0).2
 obtain ⟨k, t, m, ns, ts, ks⟩ := x
 have hl' : (cH ts (fT ks)).length ≤ 1000000000 := hl
 have hh' : (dV t m ns).length ≤ 1000000100 := hh
 have hlim : bG = 100000000000 := rfl
 refine Ev.enter (fun n => cNk n _ _ h) ?_
 unfold s12
 refine Ev.box S rfl (fun p h1 S1 => ?_)
 unfold cZk
 refine eCd S1 (bX) c1 o1 ?_
 refine eAr (aSp S1 N0 W.kidsD (by omega)) ?_
 rintro _ h2 ⟨rfl, S2⟩
 unfold cYz
 refine yt ?_
 refine eCd S2 (bX) c1 o1 ?_
 refine eAr (aUr S2 N0 W.t0 W.n0 W.m0 W.m1) ?_
 rintro _ h3 ⟨rfl, S3⟩
 refine eAz (by omega) ?_
 exact bLm (s := nO (.mk k t m ns ts ks)) S3 N0 (bLo S3 (by show (dV t m ns ++ cH ts (fT ks)).length ≤ bG; simp only [List.length_append]; omega) 2001 2001 2004 (by simp [bG]) (by simp [bG]) _ (aMk _) _ (bJl _))
theorem aWh {x : Node} {c : List DV} (S : Sy I A [] L h) (N : NW I x c) (bx : By x) (nx : Nm x) :
 Ev (fun n => s3 (yK 10 true n) n (.a c) h) (fun v h' => v = .b true) := by
 have e9 : ∀ n, yK 10 true n 9 = aI n 9 := fun n => rE true n rfl
 have e12 : ∀ n, yK 10 true n 12 = aI n 12 := fun n => rE true n rfl
 have e11 : ∀ n, yK 10 true n 11 = aI n 11 := fun n => rE true n rfl
 obtain ⟨c1, o1, b1⟩ := N.shape
 unfold s3
 simp only [e9, e12, e11, bKg]
 refine Ev.box S rfl (fun p h1 S1 => ?_)
 refine eCd S1 (bX) c1 o1 ?_
 refine eAr (aQk x I A [] _ h1 c S1 N) ?_
 rintro _ h3 ⟨rfl, S3⟩
 cases hx : eL x with
 | false =>
  refine ao (yt (wm ?_))
  exact eAs rfl
 | true =>
  have Nx := NW.nv N hx
  have Wx := ShwM.small hx bx nx
  refine an (yj ?_); refine ws ?_
  refine eAr (aPu (by assumption) Nx Wx.kids Wx.t0 Wx.n0 Wx.m0 Wx.m1 Wx.b0 Wx.a0) ?_
  rintro _ h5 ⟨rfl, S5⟩
  refine wx ?_; refine wx ?_; refine ws ?_
  refine eAr (cAd (by assumption) Nx Wx) ?_
  rintro _ h6 ⟨rfl, S6⟩
  refine wx ?_; refine wx ?_
  refine eCu (fun e1 => ?_) (fun e1 => absurd rfl e1)
  refine zt (wm (zt (wm (zt ?_))))
  refine eAv (fun e2 => ?_) (fun e2 => absurd rfl e2)
  refine ap (zt (wm (ap ?_)))
  exact eAs rfl
end
end Go.Dd

