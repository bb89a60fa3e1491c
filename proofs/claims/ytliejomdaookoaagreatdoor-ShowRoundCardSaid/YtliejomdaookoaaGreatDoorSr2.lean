/- A part of the proof: T3 T4 T5 T6 T7 T8 T9 T10 T11 T12 T13 T14 U1 U2 U3 T15 T16 T17 T18 U4 T19 Z1 Z4 P0 P1 P2 P3 P4 P5 P6 P7 P8: each text has a comment of its own. -/
import Derived.Test.YtliejomdaookoaaGreatDoorSr1
set_option linter.unusedVariables false
set_option linter.unusedSimpArgs false
set_option linter.constructorNameAsVariable false
set_option maxRecDepth 100000
namespace Go.Dd
open Go.Proofs
section
variable {I : Im} {A Q L : Ls} {h : Hp} {k : Nat → DV → Hp → aG} {P : DV → Hp → Prop} {b : Pos} {o i : Nat} {v : DV}
theorem cAl (H : Ev (fun n => k n (.p b (o + i)) h) P) : Ev (fun n => bnd (aA i (.p b o) h) (k n)) P := H
theorem cDf {q : IntKind} {x : Int} (H : Ev (fun n => k n (.i q (q.wrap (0 - x))) h) P) : Ev (fun n => bnd (pJ .neg (.i q x) h) (k n)) P := H
theorem cCw {cs : List DV} (e : cs[i]? = some v) (H : Ev (fun n => k n v h) P) : Ev (fun n => bnd (eM i (.a cs) h) (k n)) P := by
 refine Ev.op (v := v) (h := h) ?_ H
 simp [eM, e]
theorem cCx {cs : List DV} (e : cs[i]? = some v) (H : Ev (fun n => k n v h) P) : Ev (fun n => bnd (aH i (.t cs) h) (k n)) P := by
 refine Ev.op (v := v) (h := h) ?_ H
 simp [aH, e]
end
theorem cI : ∀ v ∈ ([] : List DV), v.one = true := fun v hv => by simp at hv
theorem bN {v : DV} {l : List DV} (h : v.one = true) (t : ∀ w ∈ l, w.one = true) : ∀ w ∈ v :: l, w.one = true := fun w hw => by
 rcases List.mem_cons.1 hw with rfl | hw
 ·exact h
 ·exact t w hw
theorem dX (t : Tok) : ∀ v ∈ tc t, v.one = true := bN rfl (bN rfl (bN rfl (bN rfl cI)))
theorem aNl {cells : List DV} {off : Nat} {v : DV} {rest : List (Nat × Nat × DV)} (hv : v.one = true) (ho : off + 1 ≤ cells.length) : cM cells ((off, 1, v) :: rest) = cM (cells.set off v) rest := by
 have e : cells.take off ++ [v] ++ cells.drop (off + 1) = cells.set off v := by
  rw [List.set_eq_take_append_cons_drop, if_pos (by omega)]
  simp
 show (match cF v with
  | some cs => if cs.length = 1 ∧ off + 1 ≤ cells.length then cM (cells.take off ++ cs ++ cells.drop (off + 1)) rest else none
  | none => none) = _
 rw [wP hv]
 show (if [v].length = 1 ∧ off + 1 ≤ cells.length then cM (cells.take off ++ [v] ++ cells.drop (off + 1)) rest else none) = _
 rw [if_pos ⟨rfl, ho⟩, e]
section
variable {I : Im} {A Q L L' Q' : Ls} {h : Hp} {k : Nat → DV → Hp → aG} {F G : Nat → aG} {P : DV → Hp → Prop} {b : Pos} {kd : Kind} {l l' cs : List DV} {o n i : Nat} {v x y : DV}
theorem dp (S : Sy I A Q L h := by first | assumption | exact Sy.dropL (by assumption) | exact Sy.dropL (Sy.dropL (by assumption)) | exact Sy.dropL (Sy.dropL (Sy.dropL (by assumption))) | exact Sy.dropL (Sy.dropL (Sy.dropL (Sy.dropL (by assumption)))) | exact Sy.dropL (Sy.dropL (Sy.dropL (Sy.dropL (Sy.dropL (by assumption))))) | exact Sy.dropL (Sy.dropL (Sy.dropL (Sy.dropL (Sy.dropL (Sy.dropL (by assumption)))))) | exact Sy.dropL (Sy.dropL (Sy.dropL (Sy.dropL (Sy.dropL (Sy.dropL (Sy.dropL (by assumption)))))))) : Sy I A Q L h := S
theorem wf (H : Ev (fun n => k n (.p b (o + i)) h) P) : Ev (fun n => bnd (aA i (.p b o) h) (k n)) P := H
theorem wn (H : Ev (fun n => k n (.p b o) h) P) : Ev (fun n => bnd (bM (.p b o) h) (k n)) P := H
theorem wm (H : Ev (fun n => k n v h) P) : Ev (fun n => bnd (some (v, h)) (k n)) P := H
theorem wl (H : Ev (fun n => k n v h) P) (S : Sy I A Q L h := by assumption) (m : (b, some (.row kd l)) ∈ L := by repeat (first | exact eG | apply List.Mem.tail)) (e : l[o]? = some v := by rfl) (hv : v.one = true := by first | rfl | assumption | exact Fz.one (by assumption)) : Ev (fun n => bnd (aB (.p b o) h) (k n)) P := cAx S m e hv H
theorem wq (H : Ev (fun n => k n v h) P) (S : Sy I A Q L h := by assumption) (m : (b, some (.row kd l)) ∈ Q := by repeat (first | exact eG | apply List.Mem.tail)) (e : l[o]? = some v := by rfl) (hv : v.one = true := by first | rfl | assumption | exact Fz.one (by assumption)) : Ev (fun n => bnd (aB (.p b o) h) (k n)) P := cDa S m e hv H
theorem ws (H : Ev (fun n => k n (.a l) h) P) (S : Sy I A Q L h := by assumption) (m : (b, some (.row kd l)) ∈ L := by repeat (first | exact eG | apply List.Mem.tail)) (h1 : l.length = n := by first | rfl | assumption) (h2 : ∀ v ∈ l, v.one = true := by first | assumption | exact dX _ | (repeat (first | exact cI | refine bN (by first | rfl | assumption | exact Fz.one (by assumption)) ?_))) : Ev (fun m => bnd (aD n (.p b 0) h) (k m)) P := cBg S m h1 h2 H
theorem wa (H : ∀ b h', Sy I A Q ((b, some (.row .ex cs)) :: L) h' → Ev (fun n => k n (.p b 0) h') P) (S : Sy I A Q L h := by assumption) : Ev (fun n => bnd (cJ cs h) (k n)) P := Ev.new S H
theorem wt (H : ∀ h', Sy I A Q L' h' → Ev (fun n => k n dK h') P) (S : Sy I A Q L h := by assumption) (r : Rpl b (some (.row .ex l)) (some (.row .ex l')) L L' := by repeat (first | exact Rpl.head _ | apply Rpl.tail)) (h1 : l.length = n := by first | rfl | assumption) (h2 : ∀ v ∈ l, v.one = true := by first | assumption | exact dX _ | (repeat (first | exact cI | refine bN (by first | rfl | assumption | exact Fz.one (by assumption)) ?_))) (h3 : l'.length = n := by first | rfl | assumption) (h4 : ∀ v ∈ l', v.one = true := by first | assumption | exact dX _ | (repeat (first | exact cI | refine bN (by first | rfl | assumption | exact Fz.one (by assumption)) ?_))) : Ev (fun m => bnd (aC n (.p b 0) (.a l') h) (k m)) P := cCu S r h1 h2 h3 h4 H
theorem wu (H : ∀ h', Sy I A Q L' h' → Ev (fun n => k n dK h') P) (S : Sy I A Q L h := by assumption) (r : Rpl b (some (.row .ex l)) (some (.row .ex l')) L L' := by repeat (first | exact Rpl.head _ | apply Rpl.tail)) (e : l.set o v = l' := by rfl) (h1 : ∃ x, l[o]? = some x ∧ x.one = true := by exact ⟨_, rfl, by first | rfl | assumption | exact Fz.one (by assumption)⟩) (hv : v.one = true := by first | rfl | assumption | exact Fz.one (by assumption)) : Ev (fun m => bnd (aC 1 (.p b o) v h) (k m)) P := cDc S r e h1 hv H
theorem wv (H : ∀ h', Sy I A Q' L h' → Ev (fun n => k n dK h') P) (S : Sy I A Q L h := by assumption) (r : Rpl b (some (.row .ex l)) (some (.row .ex l')) Q Q' := by repeat (first | exact Rpl.head _ | apply Rpl.tail)) (e : l.set o v = l' := by rfl) (h1 : ∃ x, l[o]? = some x ∧ x.one = true := by exact ⟨_, rfl, by first | rfl | assumption | exact Fz.one (by assumption)⟩) (hv : v.one = true := by first | rfl | assumption | exact Fz.one (by assumption)) : Ev (fun m => bnd (aC 1 (.p b o) v h) (k m)) P := cDd S r e h1 hv H
theorem wb (H : ∀ b h', Sy I A Q ((b, some (.row .ex cs)) :: L) h' → Ev (fun n => k n (.p b 0) h') P) (S : Sy I A Q L h := by assumption) (e : cF v = some cs := by rfl) : Ev (fun n => bnd (iB v h) (k n)) P := Ev.box S e H
theorem zt (H : Ev (fun n => bnd (F n) (k n)) P) : Ev (fun n => bnd (gD (.b true) true (F n) h) (k n)) P := H
theorem zf (H : Ev (fun n => bnd (F n) (k n)) P) : Ev (fun n => bnd (gD (.b false) false (F n) h) (k n)) P := H
theorem yf (H : Ev (fun n => k n dK h) P) : Ev (fun n => bnd (gD (.b false) true (F n) h) (k n)) P := H
theorem yg (H : Ev (fun n => k n dK h) P) : Ev (fun n => bnd (gD (.b true) false (F n) h) (k n)) P := H
theorem yu {c : Bool} (H : Ev (fun n => k n dK h) P) : Ev (fun n => bnd (gD dK c (F n) h) (k n)) P := H
theorem yt (H : Ev F P) : Ev (fun n => cB (.b true) (F n) (G n)) P := H
theorem yj (H : Ev G P) : Ev (fun n => cB (.b false) (F n) (G n)) P := H
theorem ap (H : Ev (fun n => k n x h) P) : Ev (fun n => bnd (cA (.b true) x y h) (k n)) P := H
theorem aq (H : Ev (fun n => k n y h) P) : Ev (fun n => bnd (cA (.b false) x y h) (k n)) P := H
theorem an (H : Ev (fun n => k n (.b false) h) P) : Ev (fun n => bnd (pJ .not (.b true) h) (k n)) P := H
theorem ao (H : Ev (fun n => k n (.b true) h) P) : Ev (fun n => bnd (pJ .not (.b false) h) (k n)) P := H
theorem wp (H : Ev (fun n => k n v h) P) (e : cs[i]? = some v := by rfl) : Ev (fun n => bnd (eM i (.a cs) h) (k n)) P := cCw e H
theorem wx (H : Ev (fun n => k n v h) P) (e : cs[i]? = some v := by rfl) : Ev (fun n => bnd (aH i (.t cs) h) (k n)) P := cCx e H
end
theorem wd {k : Nat → DV → Hp → aG} {P : DV → Hp → Prop} {h : Hp} {cs : List DV} {z : List DV} {ps : List (Nat × Nat × DV)} (H : Ev (fun n => k n (.a cs) h) P) (e : cM z ps = some cs := by first | rfl | ((repeat (rw [aNl (by first | rfl | assumption | exact Fz.one (by assumption)) (by simp)])); rfl)) : Ev (fun n => bnd (cS z ps h) (k n)) P := cDe e H
structure PSt where
 toks : List Tok
 deep : Int
 pos : Int
 err : Int
def kC (x : Int) : Int := IntKind.i64.wrap x
def bD (st : PSt) (k : Nat) : Option Tok := st.toks[min k (st.toks.length - 1)]?
def bV (st : PSt) (t : Tok) (e : Int) : PSt := if st.err = 0 then { st with pos := t.pos, err := e } else st
def aV (st : PSt) : Option (Tok × PSt) :=
 (bD st 0).bind fun t => if t.kind = 0 then some (t, st) else if 2 ≤ st.toks.length then some (t, { st with toks := st.toks.drop 1 }) else none
def dU (st : PSt) (kind : Int) (text : List Nat) : Option Bool :=
 (bD st 0).bind fun t => some (decide (st.err = 0) && decide (t.kind = kind) && (decide (text = []) || decide (t.text = text)))
def z4 : Tok := ⟨0, [], 0, 0⟩
def bL (st : PSt) (kind : Int) (text : List Nat) : Option (Tok × PSt) :=
 (dU st kind text).bind fun c => if c then aV st else (bD st 0).bind fun t => some (z4, bV st t 13)
def gN (st : PSt) (kind : Int) (len : Nat) : Option (List Nat × PSt) :=
 (bL st kind []).bind fun r => some (r.1.text, if len = 4 then bV r.2 r.1 18 else r.2)
def qR (st : PSt) : Option Bool :=
 (bD st 1).bind fun t => (dU st 3 [45]).bind fun c => (bD st 0).bind fun u => some (c && decide (t.kind = 4) && decide (t.pos = kC (u.pos + 1)))
def PS (p : Pos) (s : DV) (st : PSt) : Pos × Option Ob := (p, some (.row .ex [s, .i .i64 st.deep, .i .i64 st.pos, .i .i64 st.err]))
theorem aZa {st : PSt} {k : Nat} {t : Tok} (h : bD st k = some t) : 1 ≤ st.toks.length := by
 unfold bD at h
 have := (gLt h)
 omega
theorem bBd (n : Nat) (x y : DV) (h : Hp) : aI (n + 1) 81 [x, y] h = s81 (aI n) n x y h := by kernel_rfl
theorem aZu (n : Nat) (x y z : DV) (h : Hp) : aI (n + 1) 77 [x, y, z] h = s77 (aI n) n x y z h := by kernel_rfl
theorem bHk (n : Nat) (x : DV) (h : Hp) : aI (n + 1) 78 [x] h = s78 (aI n) n x h := by kernel_rfl
theorem bAs (n : Nat) (x y z : DV) (h : Hp) : aI (n + 1) 80 [x, y, z] h = s80 (aI n) n x y z h := by kernel_rfl
theorem bFj (n : Nat) (x y z : DV) (h : Hp) : aI (n + 1) 51 [x, y, z] h = s51 (aI n) n x y z h := by kernel_rfl
theorem bBy (n : Nat) (x y z : DV) (h : Hp) : aI (n + 1) 82 [x, y, z] h = s82 (aI n) n x y z h := by kernel_rfl
theorem aUn (n : Nat) (x : DV) (h : Hp) : aI (n + 1) 161 [x] h = s161 (aI n) n x h := by kernel_rfl
section
variable {I : Im} {A L : Ls} {h : Hp} {p : Pos} {s : DV} {st : PSt}
theorem hJ (S : Sy I A [PS p s st] L h) (T : TS' I s st.toks) {k : Nat} {t : Tok} (hk : bD st k = some t) :
 Ev (fun n => aI n 81 [.p p 0, .i .i64 (Int.ofNat k)] h) (fun v h' => v = .a (tc t) ∧ Sy I A [PS p s st] L h') := by
 refine Ev.enter (fun n => bBd n _ _ h) ?_
 unfold s81
 have hs := T.2.one
 refine wa fun _ _ _ => ?_; refine wn (wf ?_); refine wq ?_; refine wn (wf ?_); refine wq ?_
 refine Ev.op (T.2.len _) (cBa ?_)
 have hlen := aZa hk
 have hl := T.1
 have e1 : IntKind.i64.wrap ((st.toks.length : Int) - Int.ofNat 1) = ((st.toks.length - 1 : Nat) : Int) := by
  rw [gV _ (by simp; omega) (by simp [bQ] at hl ⊢; omega)]
  simp; omega
 rw [e1]
 have e2 : ∀ h, aNp (.i .i64 (Int.ofNat k)) (.i .i64 ((st.toks.length - 1 : Nat) : Int)) h = some (.i .i64 ((min k (st.toks.length - 1) : Nat) : Int), h) := fun h => by
  unfold aNp
  have : (if ((st.toks.length - 1 : Nat) : Int) < Int.ofNat k then ((st.toks.length - 1 : Nat) : Int) else Int.ofNat k) = ((min k (st.toks.length - 1) : Nat) : Int) := by
   show (if ((st.toks.length - 1 : Nat) : Int) < (k : Int) then ((st.toks.length - 1 : Nat) : Int) else (k : Int)) = _
   split <;> omega
  show some (DV.i .i64 (if ((st.toks.length - 1 : Nat) : Int) < Int.ofNat k then ((st.toks.length - 1 : Nat) : Int) else Int.ofNat k), h) = _
  rw [this]
 refine Ev.op (e2 _) ?_
 obtain ⟨b, o, a1, a2⟩ := T.at (by assumption) hk
 refine Ev.op (a1 _) (Ev.op a2 ?_)
 refine wt fun _ _ => ?_; refine ws ?_
 exact bZg ⟨rfl, Sy.dropL (by assumption)⟩
theorem eL (S : Sy I A [PS p s st] L h) (T : TS' I s st.toks) {kind : Int} {text : List Nat} {c : Bool} (hc : dU st kind text = some c) :
 Ev (fun n => aI n 77 [.p p 0, .i .i64 kind, .s text] h) (fun v h' => v = .b c ∧ Sy I A [PS p s st] L h') := by
 unfold dU at hc
 obtain ⟨t, ht, hc⟩ := bC hc
 simp only [bB] at hc
 refine Ev.enter (fun n => aZu n _ _ _ h) ?_
 unfold s77
 refine bZe (hJ S T ht) ?_
 rintro _ _ ⟨rfl, S1⟩
 refine wa fun _ _ _ => ?_; refine wt fun _ _ => ?_; refine wn (wf ?_); refine wq ?_
 refine bZj (fun e1 => ?_) (fun e1 => ?_)
 ·refine zt (wf (zt ?_)); refine wl ?_; refine zt (wm (zt ?_))
  refine bZj (fun e2 => ?_) (fun e2 => ?_)
  ·refine ap (zt (wm (zt ?_)))
   refine cCi (fun e3 => ?_) (fun e3 => ?_)
   ·refine zt (wm (yg (yg (yg (yg (zt (ap (ap ?_))))))))
    exact bZg ⟨by rw [← hc]; simp at e1; simp [e1, e2, e3], dp⟩
   ·refine zt (wm (zf (wf (zf ?_)))); refine wl ?_; refine zf (wm (zf ?_))
    refine cCi (fun e4 => ?_) (fun e4 => ?_)
    ·refine zt (aq (ap ?_))
     exact bZg ⟨by rw [← hc]; simp at e1; simp [e1, e2, e3, e4], dp⟩
    ·refine zt (aq (ap ?_))
     exact bZg ⟨by rw [← hc]; simp at e1; simp [e1, e2, e3, e4], dp⟩
  ·refine ap (yf (yf (yf (yu (yu (yu (yu (yf (aq ?_)))))))))
   exact bZg ⟨by rw [← hc]; simp at e1; simp [e1, e2], dp⟩
 ·refine yf (yf (yf (yf (aq (yf (yf (yf (yu (yu (yu (yu (yf (aq ?_)))))))))))))
  exact bZg ⟨by rw [← hc]; simp at e1; simp [e1], dp⟩
theorem jW (S : Sy I A [PS p s st] L h) (hs : s.one = true) (t : Tok) (e : Int) :
 Ev (fun n => aI n 80 [.p p 0, .a (tc t), .i .i64 e] h) (fun v h' => v = .t [] ∧ Sy I A [PS p s (bV st t e)] L h') := by
 refine Ev.enter (fun n => bAs n _ _ _ h) ?_
 unfold s80
 refine wb fun _ _ _ => ?_; refine wn (wf ?_); refine wq ?_
 refine bZj (fun e1 => ?_) (fun e1 => ?_)
 ·refine yt (wf ?_); refine wl ?_; refine wn (wf ?_); refine wv fun _ _ => ?_; refine wn (wf ?_); refine wv fun _ _ => ?_
  have : bV st t e = { st with pos := t.pos, err := e } := by simp at e1; simp [bV, e1]
  rw [this]
  exact bZg ⟨rfl, dp⟩
 ·refine yj ?_
  have : bV st t e = st := by simp at e1; simp [bV, e1]
  rw [this]
  exact bZg ⟨rfl, dp⟩
theorem cP (S : Sy I A [PS p s st] L h) (T : TS' I s st.toks) {t : Tok} {st' : PSt} (ht : aV st = some (t, st')) :
 Ev (fun n => aI n 78 [.p p 0] h) (fun v h' => v = .a (tc t) ∧ ∃ s', Sy I A [PS p s' st'] L h' ∧ TS' I s' st'.toks) := by
 unfold aV at ht
 obtain ⟨u, hu, ht⟩ := bC ht
 have hs := T.2.one
 refine Ev.enter (fun n => bHk n _ h) ?_
 unfold s78 bJr
 refine wa fun _ _ _ => ?_
 refine bZe (hJ (by assumption) T hu) ?_
 rintro _ _ ⟨rfl, S1⟩
 unfold bIh
 refine wa fun _ _ _ => ?_; refine wt fun _ _ => ?_; refine wf ?_; refine wl ?_
 unfold aOz
 refine bZy (fun e1 => ?_) (fun e1 => ?_)
 ·refine yt (wn (wf ?_)); refine wq ?_
  simp only [show ¬ u.kind = 0 from e1, if_false] at ht
  split at ht
  ·rename_i h2
   simp only [bB, bW] at ht
   obtain ⟨rfl, rfl⟩ := ht
   obtain ⟨s', e, T'⟩ := T.tail (i := 1) (by assumption) (by omega)
   have hs' := T'.2.one
   refine Ev.op e ?_
   refine wn (wf ?_); refine wv fun _ _ => ?_; refine ws ?_; refine wt fun _ _ => ?_; refine ws ?_
   exact bZg ⟨rfl, s', dp, T'⟩
  ·cases ht
 ·refine yj ?_; refine ws ?_; refine wt fun _ _ => ?_; refine ws ?_
  simp only [show u.kind = 0 from e1, if_true, bB, bW] at ht
  obtain ⟨rfl, rfl⟩ := ht
  exact bZg ⟨rfl, s, dp, T⟩
theorem bY (st : PSt) (t : Tok) (e : Int) : (bV st t e).toks = st.toks := by
 unfold bV; split <;> rfl
theorem gY (S : Sy I A [PS p s st] L h) (T : TS' I s st.toks) {kind : Int} {text : List Nat} {t : Tok} {st' : PSt} (ht : bL st kind text = some (t, st')) :
 Ev (fun n => aI n 51 [.p p 0, .i .i64 kind, .s text] h) (fun v h' => v = .a (tc t) ∧ ∃ s', Sy I A [PS p s' st'] L h' ∧ TS' I s' st'.toks) := by
 unfold bL at ht
 obtain ⟨c, hc, ht⟩ := bC ht
 refine Ev.enter (fun n => bFj n _ _ _ h) ?_
 unfold s51
 refine wa fun _ _ _ => ?_
 refine bZe (eL (by assumption) T hc) ?_
 rintro _ _ ⟨rfl, S1⟩
 cases c with
 | true =>
  refine an (yj ?_)
  refine bZe (cP (by assumption) T ht) ?_
  rintro _ _ ⟨rfl, s', S2, T2⟩
  refine wt fun _ _ => ?_; refine ws ?_
  exact bZg ⟨rfl, s', dp, T2⟩
 | false =>
  refine ao (yt ?_)
  obtain ⟨u, hu, ht⟩ := bC (by simpa using ht)
  simp only [bB, bW] at ht
  obtain ⟨rfl, rfl⟩ := ht
  refine bZe (hJ (k := 0) (by assumption) T hu) ?_
  rintro _ _ ⟨rfl, S2⟩
  refine bZe (jW (by assumption) T.2.one u _) ?_
  rintro _ _ ⟨rfl, S3⟩
  refine wd ?_; refine wt fun _ _ => ?_; refine ws ?_
  exact bZg ⟨rfl, s, dp, by rw [bY]; exact T⟩
theorem zJ (S : Sy I A [PS p s st] L h) (T : TS' I s st.toks) {kind : Int} {x : DV} {len : Nat} (hl : ∀ h, fS x h = some (.i .i64 (len : Int), h)) {t : List Nat} {st' : PSt} (ht : gN st kind len = some (t, st')) :
 Ev (fun n => aI n 82 [.p p 0, .i .i64 kind, x] h) (fun v h' => v = .s t ∧ ∃ s', Sy I A [PS p s' st'] L h' ∧ TS' I s' st'.toks) := by
 unfold gN at ht
 obtain ⟨⟨u, st1⟩, hu, ht⟩ := bC ht
 simp only [bB, bW] at ht
 obtain ⟨rfl, rfl⟩ := ht
 refine Ev.enter (fun n => bBy n _ _ _ h) ?_
 unfold s82 bJg
 refine bZe (gY S T hu) ?_
 rintro _ _ ⟨rfl, s', S1, T1⟩
 unfold bIl
 refine wa fun _ _ _ => ?_; refine wt fun _ _ => ?_
 refine Ev.op (hl _) ?_
 unfold aRv
 refine bZj (fun e1 => ?_) (fun e1 => ?_)
 ·refine yt ?_; refine ws ?_
  have e2 : len = 4 := by simp at e1; omega
  rw [if_pos e2]
  refine bZe (jW (by assumption) T1.2.one u _) ?_
  rintro _ _ ⟨rfl, S3⟩
  refine wf ?_; refine wl ?_
  exact bZg ⟨rfl, s', dp, by rw [bY]; exact T1⟩
 ·refine yj (wf ?_); refine wl ?_
  have e2 : ¬ len = 4 := by simp at e1; omega
  rw [if_neg e2]
  exact bZg ⟨rfl, s', dp, T1⟩
theorem bLj (S : Sy I A [PS p s st] L h) (T : TS' I s st.toks) {c : Bool} (hc : qR st = some c) :
 Ev (fun n => aI n 161 [.p p 0] h) (fun v h' => v = .b c ∧ Sy I A [PS p s st] L h') := by
 unfold qR at hc
 obtain ⟨t, ht, hc⟩ := bC hc
 obtain ⟨d, hd, hc⟩ := bC hc
 obtain ⟨u, hu, hc⟩ := bC hc
 simp only [bB] at hc
 refine Ev.enter (fun n => aUn n _ h) ?_
 unfold s161
 refine bZe (hJ (k := 1) S T ht) ?_
 rintro _ _ ⟨rfl, S1⟩
 refine wa fun _ _ _ => ?_; refine wt fun _ _ => ?_
 refine bZe (eL (by assumption) T hd) ?_
 rintro _ _ ⟨rfl, S2⟩
 cases d with
 | false =>
  refine yf (yf (yf (aq (yf (yf (yf (yf ?_)))))))
  refine Ev.cnd rfl ?_
  refine yf (yf (yf (aq ?_)))
  exact bZg ⟨by rw [← hc]; rfl, dp⟩
 | true =>
  refine zt (wf (zt ?_)); refine wl ?_; refine zt ?_
  refine bZj (fun e1 => ?_) (fun e1 => ?_)
  ·refine ap (zt (wf (zt ?_))); refine wl ?_; refine zt (wm (zt ?_))
   refine bZe (hJ (k := 0) (by assumption) T hu) ?_
   rintro _ _ ⟨rfl, S3⟩
   refine Ev.cnd ?_ ?_
   ·rw [Bool.and_true]
    exact bIj (S := S3) (eG) rfl rfl (by simp [DV.beq])
   refine zt ?_; refine wp ?_; refine zt ?_
   refine bZo ?_
   refine zt ?_
   refine bZj (fun e2 => ?_) (fun e2 => ?_)
   ·refine ap ?_
    exact bZg ⟨by rw [← hc, decide_eq_true (show t.kind = 4 from e1), decide_eq_true (show t.pos = kC (u.pos + 1) from e2)]; rfl, dp⟩
   ·refine ap ?_
    exact bZg ⟨by rw [← hc, decide_eq_true (show t.kind = 4 from e1), decide_eq_false (show ¬ t.pos = kC (u.pos + 1) from e2)]; rfl, dp⟩
  ·refine ap (yf (yf (yf (yf ?_))))
   refine Ev.cnd rfl ?_
   refine yf (yf (yf (aq ?_)))
   exact bZg ⟨by rw [← hc, decide_eq_false (show ¬ t.kind = 4 from e1)]; rfl, dp⟩
end
end Go.Dd

namespace Go.Dd
open Go.Proofs
theorem lW {c : List DV} (h : c.length = 6) : cM [(.i .i64 (Int.ofNat 0)), (.s []), (.i .i64 (Int.ofNat 0)), .l0, .l0, .l0] [(0, 6, .a c)] = some c := by
 simp [cM, cF, h]
theorem aGv {c d : List DV} (h : c.length = 6) (h' : d.length = 6) : cM [(.i .i64 (Int.ofNat 0)), (.s []), (.i .i64 (Int.ofNat 0)), .l0, .l0, .l0, (.i .i64 (Int.ofNat 0)), (.s []), (.i .i64 (Int.ofNat 0)), .l0, .l0, .l0] [(0, 6, .a c), (6, 6, .a d)] = some (c ++ d) := by
 have e : List.take 6 (c ++ [(.i .i64 (Int.ofNat 0)), (.s []), (.i .i64 (Int.ofNat 0)), .l0, .l0, .l0]) = c := by rw [← h, List.take_left]
 have e2 : List.drop 12 (c ++ [(DV.i .i64 (Int.ofNat 0)), (.s []), (.i .i64 (Int.ofNat 0)), .l0, .l0, .l0]) = [] := by simp [h]
 simp [cM, cF, h, h']
section
variable {I : Im} {A Q L L' : Ls} {h : Hp} {k : Nat → DV → Hp → aG} {P : DV → Hp → Prop} {b : Pos} {cs : List DV} {n : Nat} {kd : Kind} {l : List DV}
theorem bZz (S : Sy I A Q L h) {z : List DV} {ps : List (Nat × Nat × DV)} (r : Rpl b none (some (.row .ex cs)) L L') (e : cM z ps = some cs)
 (H : ∀ h', Sy I A Q L' h' → Ev (fun m => k m (.l b 0 n n) h') P) : Ev (fun m => bnd (aY (dA 0 b) z n ps h) (k m)) P := cCv S r e H
theorem aEa (S : Sy I A Q L h) (m : (b, some (.row kd l)) ∈ L) (h1 : l.length = n) (h2 : ∀ v ∈ l, v.one = true) (hb : DV.beq (.a l) (.a l) = true) : bX (aD n (.p b 0) h) (.a l) = true := by
 rw [ldA (S.memL m) (uE h1 h2)]; exact hb
end
def zN : Node := .mk 0 [] 0 [] [] []
def aK (t : List Nat) (ks : List Node) : Node := .mk 7 t 0 [] [] ks
def Node.kids : Node → List Node | .mk _ _ _ _ _ ks => ks
def Node.text : Node → List Nat | .mk _ t _ _ _ _ => t
def Node.kind : Node → Int | .mk k _ _ _ _ _ => k
def eD (st : PSt) : Option ((Node × Bool) × PSt) :=
 (bD st 0).bind fun t =>
  if st.err = 0 then (qR st).bind fun c =>
   if c then (aV st).bind fun r => (aV r.2).bind fun q => some ((.mk 1 [] (kC (0 - q.1.num)) [] [] [], true), q.2)
   else if t.kind = 4 then (aV st).bind fun r => some ((.mk 1 t.text t.num [] [] [], true), r.2)
   else if t.kind = 5 then (aV st).bind fun r => some ((.mk 2 t.text t.num [] [] [], true), r.2)
   else if t.kind = 6 then (aV st).bind fun r => some ((.mk 3 t.text t.num [] [] [], true), r.2)
   else some ((.mk 0 t.text t.num [] [] [], false), st)
  else some ((.mk 0 t.text t.num [] [] [], false), st)
def cQ (f : PSt → Option (Node × PSt)) (st : PSt) : Option (Node × PSt) :=
 (aV st).bind fun r => if r.2.deep = 20 then some (zN, bV r.2 r.1 14)
  else (f { r.2 with deep := kC (r.2.deep + 1) }).bind fun q => some (q.1, { q.2 with deep := kC (q.2.deep - 1) })
def bZ : Nat → Node → PSt → Option (Node × PSt)
 | 0, _, _ => none
 | f + 1, x, st => (dU st 1 []).bind fun c => if c then (aV st).bind fun r => bZ f (aK r.1.text [x]) r.2 else some (x, st)
def fX : Nat → List (List Nat) → PSt → Option (List (List Nat) × PSt)
 | 0, _, _ => none
 | f + 1, l, st => (dU st 1 []).bind fun c => if c then (aV st).bind fun r => fX f (l ++ [r.1.text]) r.2 else (bL st 10 [124]).bind fun r => some (l, r.2)
def fV (f : Nat) (st : PSt) : Option (List (List Nat) × PSt) :=
 (dU st 10 [124]).bind fun c => if c then (aV st).bind fun r => fX f [] r.2 else some ([], st)
def NPost (I : Im) (A L : Ls) (p : Pos) (x : Node) (st : PSt) (v : DV) (h : Hp) : Prop := ∃ J s cs, v = .a cs ∧ ILe I J ∧ Sy J A [PS p s st] L h ∧ TS' J s st.toks ∧ NV J x cs
theorem NPost.le {I J : Im} {A L : Ls} {p : Pos} {x : Node} {st : PSt} (g : ILe I J) : ∀ v h, NPost J A L p x st v h → NPost I A L p x st v h := by
 rintro v h ⟨K, s, cs, e, g', r⟩
 exact ⟨K, s, cs, e, g.trans g', r⟩
def oO (g : FuncId) (f : PSt → Option (Node × PSt)) : Prop := ∀ (I : Im) (A L : Ls) (h : Hp) (p : Pos) (s : DV) (st : PSt) (x : Node) (st' : PSt), Sy I A [PS p s st] L h → TS' I s st.toks → f st = some (x, st') →
 Ev (fun n => aI n g [.p p 0] h) (NPost I A L p x st')
def bNo (g : FuncId) (f : Node → PSt → Option (Node × PSt)) : Prop := ∀ (I : Im) (A L : Ls) (h : Hp) (p : Pos) (s : DV) (st : PSt) (x y : Node) (cs : List DV) (st' : PSt), Sy I A [PS p s st] L h → TS' I s st.toks → NV I x cs → f x st = some (y, st') →
 Ev (fun n => aI n g [.p p 0, .a cs] h) (NPost I A L p y st')
theorem NS.nil (I : Im) : NS I .l0 [] := ⟨by simp, [], .inl ⟨.inl rfl, rfl, rfl⟩, rfl⟩
theorem SS.nil (I : Im) : SS I .l0 [] := ⟨by simp, .inl ⟨.inl rfl, rfl, rfl⟩⟩
theorem NV.of {I : Im} {k : Int} {t : List Nat} {m : Int} {s1 s2 s3 : DV} {ns ts : List (List Nat)} {ks : List Node} (h1 : SS I s1 ns) (h2 : SS I s2 ts) (h3 : NS I s3 ks) : NV I (.mk k t m ns ts ks) [.i .i64 k, .s t, .i .i64 m, s1, s2, s3] :=
 ⟨s1, s2, s3, rfl, h1, h2, h3.1, h3.2⟩
theorem NV.flat {I : Im} (k : Int) (t : List Nat) (m : Int) : NV I (.mk k t m [] [] []) [.i .i64 k, .s t, .i .i64 m, .l0, .l0, .l0] := NV.of (SS.nil I) (SS.nil I) (NS.nil I)
theorem NS.one {I : Im} {s : DV} {ks : List Node} (H : NS I s ks) : s.one = true := by
 obtain ⟨_, c, f, _⟩ := H; exact f.one
theorem NS.len {I : Im} {s : DV} {ks : List Node} (H : NS I s ks) (h : Hp) : fS s h = some (.i .i64 (ks.length : Int), h) := by
 obtain ⟨_, c, f, _⟩ := H; exact f.len h
theorem aDp (n : Nat) (x y : DV) (h : Hp) : aI (n + 1) 149 [x, y] h = s149 (aI n) n x y h := by kernel_rfl
theorem aQr (n : Nat) (x : DV) (h : Hp) : aI (n + 1) 138 [x] h = s138 (aI n) n x h := by kernel_rfl
theorem aZi (n : Nat) (x : DV) (h : Hp) : aI (n + 1) 155 [x] h = s155 (aI n) n x h := by kernel_rfl
theorem aUx (n : Nat) (x : DV) (h : Hp) : aI (n + 1) 150 [x] h = s150 (aI n) n x h := by kernel_rfl
theorem aPk (n : Nat) (x y : DV) (h : Hp) : aI (n + 1) 151 [x, y] h = s151 (aI n) n x y h := by kernel_rfl
theorem aRk (n : Nat) (x y : DV) (h : Hp) : aI (n + 1) 136 [x, y] h = s136 (aI n) n x y h := by kernel_rfl
theorem bHd (n : Nat) (x : DV) (h : Hp) : aI (n + 1) 49 [x] h = s49 (aI n) n x h := by kernel_rfl
theorem rO {I : Im} {A Q L : Ls} {h : Hp} (S : Sy I A Q L h) {t : List Nat} {x : DV} {ks : List Node} (N : NS I x ks) :
 Ev (fun n => aI n 149 [.s t, x] h) (fun v h' => ∃ cs, v = .a cs ∧ NV I (aK t ks) cs ∧ Sy I A Q L h') := by
 have hx := N.one
 refine Ev.enter (fun n => aDp n _ _ h) ?_
 unfold s149
 refine wa fun _ _ _ => ?_; refine wd ?_; refine wt fun _ _ => ?_; refine ws ?_
 exact bZg ⟨_, rfl, NV.of (SS.nil I) (SS.nil I) N, dp⟩
section
variable {I : Im} {A L : Ls} {h : Hp} {p : Pos} {s : DV} {st : PSt}
theorem aCe (S : Sy I A [PS p s st] L h) (T : TS' I s st.toks) {x : Node} {c : Bool} {st' : PSt} (hm : eD st = some ((x, c), st')) :
 Ev (fun n => aI n 150 [.p p 0] h) (fun v h' => ∃ s' cs, v = .t [.a cs, .b c] ∧ Sy I A [PS p s' st'] L h' ∧ TS' I s' st'.toks ∧ NV I x cs) := by
 unfold eD at hm
 obtain ⟨t, ht, hm⟩ := bC hm
 refine Ev.enter (fun n => aUx n _ h) ?_
 unfold s150 aTf
 refine wa fun _ _ _ => ?_
 refine bZe (hJ (k := 0) (by assumption) T ht) ?_
 rintro _ _ ⟨rfl, S1⟩
 unfold aSs aXk yE
 refine wa fun _ _ _ => ?_; refine wt fun _ _ => ?_; refine wf ?_; refine wl ?_; refine wf ?_; refine wl ?_; refine wd ?_; refine wa fun _ _ _ => ?_; refine wt fun _ _ => ?_; refine wn (wf ?_); refine wq ?_
 refine bZy (fun e1 => ?_) (fun e1 => ?_)
 ·refine yt ?_; refine ws ?_; refine wt fun _ _ => ?_; refine ws ?_
  rw [if_neg (show ¬ st.err = 0 from e1)] at hm
  simp only [bB, bW] at hm
  obtain ⟨⟨rfl, rfl⟩, rfl⟩ := hm
  exact bZg ⟨s, _, rfl, dp, T, NV.flat _ _ _⟩
 ·refine yj ?_
  rw [if_pos (show st.err = 0 from e1)] at hm
  obtain ⟨d, hd, hm⟩ := bC hm
  refine bZe (bLj (by assumption) T hd) ?_
  rintro _ _ ⟨rfl, S2⟩
  cases d with
  | true =>
   refine yt ?_
   rw [if_pos rfl] at hm
   obtain ⟨⟨t1, st1⟩, ht1, hm⟩ := bC hm
   obtain ⟨⟨t2, st2⟩, ht2, hm⟩ := bC hm
   simp only [bB, bW] at hm
   obtain ⟨⟨rfl, rfl⟩, rfl⟩ := hm
   refine bZe (cP (by assumption) T ht1) ?_
   rintro _ _ ⟨rfl, s3, S3, T3⟩
   refine bZe (cP (by assumption) T3 ht2) ?_
   rintro _ _ ⟨rfl, s4, S4, T4⟩
   refine wp ?_
   refine cDf ?_
   refine wd ?_; refine wt fun _ _ => ?_; refine ws ?_
   exact bZg ⟨s4, _, rfl, dp, T4, NV.flat _ _ _⟩
  | false =>
   refine yj (wf ?_); refine wl ?_
   rw [if_neg (by simp)] at hm
   refine bZj (fun e2 => ?_) (fun e2 => ?_)
   ·refine yt (wf ?_); refine wu fun _ _ => ?_
    rw [if_pos (show t.kind = 4 from e2)] at hm
    obtain ⟨⟨t1, st1⟩, ht1, hm⟩ := bC hm
    simp only [bB, bW] at hm
    obtain ⟨⟨rfl, rfl⟩, rfl⟩ := hm
    refine bZe (cP (by assumption) T ht1) ?_
    rintro _ _ ⟨rfl, s3, S3, T3⟩
    refine ws ?_; refine wt fun _ _ => ?_; refine ws ?_
    exact bZg ⟨s3, _, rfl, dp, T3, NV.flat _ _ _⟩
   ·refine yj (wf ?_); refine wl ?_
    rw [if_neg (show ¬ t.kind = 4 from e2)] at hm
    refine bZj (fun e3 => ?_) (fun e3 => ?_)
    ·refine yt (wf ?_); refine wu fun _ _ => ?_
     rw [if_pos (show t.kind = 5 from e3)] at hm
     obtain ⟨⟨t1, st1⟩, ht1, hm⟩ := bC hm
     simp only [bB, bW] at hm
     obtain ⟨⟨rfl, rfl⟩, rfl⟩ := hm
     refine bZe (cP (by assumption) T ht1) ?_
     rintro _ _ ⟨rfl, s3, S3, T3⟩
     refine ws ?_; refine wt fun _ _ => ?_; refine ws ?_
     exact bZg ⟨s3, _, rfl, dp, T3, NV.flat _ _ _⟩
    ·refine yj (wf ?_); refine wl ?_
     rw [if_neg (show ¬ t.kind = 5 from e3)] at hm
     refine bZj (fun e4 => ?_) (fun e4 => ?_)
     ·refine yt (wf ?_); refine wu fun _ _ => ?_
      rw [if_pos (show t.kind = 6 from e4)] at hm
      obtain ⟨⟨t1, st1⟩, ht1, hm⟩ := bC hm
      simp only [bB, bW] at hm
      obtain ⟨⟨rfl, rfl⟩, rfl⟩ := hm
      refine bZe (cP (by assumption) T ht1) ?_
      rintro _ _ ⟨rfl, s3, S3, T3⟩
      refine ws ?_; refine wt fun _ _ => ?_; refine ws ?_
      exact bZg ⟨s3, _, rfl, dp, T3, NV.flat _ _ _⟩
     ·refine yj ?_; refine ws ?_; refine wt fun _ _ => ?_; refine ws ?_
      rw [if_neg (show ¬ t.kind = 6 from e4)] at hm
      simp only [bB, bW] at hm
      obtain ⟨⟨rfl, rfl⟩, rfl⟩ := hm
      exact bZg ⟨s, _, rfl, dp, T, NV.flat _ _ _⟩
theorem mX {g : FuncId} {f : PSt → Option (Node × PSt)} (hg : ∀ (rec : FuncId → List DV → Hp → aG) (x : DV) (h : Hp), dM CF rec (.f g [x] []) [] h = rec g [x] h) (F : oO g f) (S : Sy I A [PS p s st] L h) (T : TS' I s st.toks) {x : Node} {st' : PSt} (hm : cQ f st = some (x, st')) :
 Ev (fun n => aI n 151 [.p p 0, .f g [.p p 0] []] h) (NPost I A L p x st') := by
 unfold cQ at hm
 obtain ⟨⟨t, st1⟩, ht, hm⟩ := bC hm
 refine Ev.enter (fun n => aPk n _ _ h) ?_
 unfold s151
 simp only [hg]
 refine wa fun _ _ _ => ?_
 refine bZe (cP (by assumption) T ht) ?_
 rintro _ _ ⟨rfl, s1, S1, T1⟩
 have hs1 := T1.2.one
 refine wa fun _ _ _ => ?_; refine wt fun _ _ => ?_; refine wn (wf ?_); refine wq ?_
 refine bZj (fun e1 => ?_) (fun e1 => ?_)
 ·refine yt ?_; refine ws ?_
  rw [if_pos (show st1.deep = 20 from e1)] at hm
  simp only [bB, bW] at hm
  obtain ⟨rfl, rfl⟩ := hm
  refine bZe (jW (by assumption) T1.2.one t _) ?_
  rintro _ _ ⟨rfl, S3⟩
  refine wd ?_; refine wt fun _ _ => ?_; refine ws ?_
  exact bZg ⟨I, s1, _, rfl, ILe.refl _, dp, by rw [bY]; exact T1, NV.flat _ _ _⟩
 ·refine yj (wn (wf ?_)); refine wq ?_
  rw [if_neg (show ¬ st1.deep = 20 from e1)] at hm
  obtain ⟨⟨y, st2⟩, hy, hm⟩ := bC hm
  simp only [bB, bW] at hm
  obtain ⟨rfl, rfl⟩ := hm
  refine bZo ?_
  refine wn (wf ?_); refine wv fun _ _ => ?_
  refine bZe (F I A _ _ p s1 { st1 with deep := kC (st1.deep + 1) } _ _ (by assumption) T1 hy) ?_
  rintro _ _ ⟨J, s2, cs, rfl, g2, S2, T2, N2⟩
  obtain ⟨l2, o2, b2⟩ := N2.shape
  have hs2 := T2.2.one
  refine wa fun _ _ _ => ?_; refine wt fun _ _ => ?_; refine wn (wf ?_); refine wq ?_
  refine cBa ?_
  refine wn (wf ?_); refine wv fun _ _ => ?_; refine ws ?_; refine wt fun _ _ => ?_; refine ws ?_
  exact bZg ⟨J, s2, cs, rfl, g2, dp, T2, N2⟩
theorem uB : ∀ (f j : Nat) (I : Im) (A L : Ls) (h : Hp) (p : Pos) (s : DV) (st : PSt) (x y : Node) (cs z : List DV) (st' : PSt) (b3 b4 : Pos), Sy I A [PS p s st] ((b4, some (.row .ex z)) :: (b3, some (.row .ex cs)) :: L) h →
 z.length = 6 → (∀ v ∈ z, v.one = true) → TS' I s st.toks → NV I x cs → bZ f x st = some (y, st') → Ev (fun n => lG (aI n) n (n - j) (.p p 0) (.p b3 0) (.p b4 0) h) (NPost I A L p y st')
 | 0, j, I, A, L, h, p, s, st, x, y, cs, z, st', b3, b4, S, z1, z2, T, N, hm => by cases hm
 | f + 1, j, I, A, L, h, p, s, st, x, y, cs, z, st', b3, b4, S, z1, z2, T, N, hm => by
  unfold bZ at hm
  obtain ⟨c, hc, hm⟩ := bC hm
  refine bZl j (ll := fun n m => lG (aI n) n m (.p p 0) (.p b3 0) (.p b4 0) h) (bb := fun n m => rV (aI n) n (lG (aI n) n m) (.p p 0) (.p b3 0) (.p b4 0) h) (fun _ _ => rfl) ?_
  unfold rV fA
  obtain ⟨l1, o1, b1⟩ := N.shape
  refine bZe (eL S T hc) ?_
  rintro _ _ ⟨rfl, S1⟩
  cases c with
  | false =>
   refine yj ?_; refine ws ?_; refine wt fun _ _ => ?_; refine ws ?_
   rw [if_neg (by simp)] at hm
   simp only [bB, bW] at hm
   obtain ⟨rfl, rfl⟩ := hm
   exact bZg ⟨I, s, cs, rfl, ILe.refl _, dp, T, N⟩
  | true =>
   refine yt ?_
   rw [if_pos rfl] at hm
   obtain ⟨⟨t, st1⟩, ht, hm⟩ := bC hm
   have Sr := S1.res
   refine bZe (cP Sr T ht) ?_
   rintro _ _ ⟨rfl, s2, S2, T2⟩
   refine wp ?_; refine ws ?_
   refine Ev.cnd ?_ ?_
   ·rw [Bool.and_true]; exact aEa Sr (by repeat (first | exact eG | apply List.Mem.tail)) l1 o1 b1
   refine bZz S2 (by repeat (first | exact Rpl.head _ | apply Rpl.tail)) (lW l1) ?_
   intro h3 S3
   obtain ⟨J, gJ, S4, F4, _⟩ := Fz.built (sz := 6) (n := 1) S3 (by omega) o1
   have N4 : NS J _ [x] := ⟨by simp [bQ], cs, F4, bZn (N.mono gJ)⟩
   refine bZe (rO S4 N4) ?_
   rintro _ _ ⟨cs5, rfl, N5, S5⟩
   obtain ⟨l5, o5, b5⟩ := N5.shape
   refine wt fun _ _ => ?_
   exact (uB f (j + 1) J A L _ p s2 st1 _ y cs5 z st' b3 b4 (by assumption) z1 z2 (T2.mono gJ) N5 hm).mono (NPost.le gJ)
theorem pC (f : Nat) : bNo 136 (bZ f) := by
 intro I A L h p s st x y cs st' S T N hm
 refine Ev.enter (fun n => aRk n _ _ h) ?_
 unfold s136 yR aGt
 refine wb fun _ _ _ => ?_; refine wa fun _ _ _ => ?_
 exact uB f 0 _ _ _ _ _ _ _ _ _ _ _ _ _ _ (by assumption) rfl (by first | assumption | exact dX _ | (repeat (first | exact cI | refine bN (by first | rfl | assumption | exact Fz.one (by assumption)) ?_))) T N hm
theorem sI : ∀ (f j : Nat) (I : Im) (B A L : Ls) (h : Hp) (p : Pos) (s x : DV) (st : PSt) (l l' : List (List Nat)) (st' : PSt), Sy I (B ++ A) [PS p s st] L h → Gr I 1 B x l.length (l.map .s) → l.length + f ≤ bQ →
 TS' I s st.toks → fX f l st = some (l', st') →
 Ev (fun n => oA (aI n) n (n - j) (.p p 0) x h) (fun v h' => ∃ J s', ILe I J ∧ Sy J A [PS p s' st'] L h' ∧ TS' J s' st'.toks ∧ SS J v l')
 | 0, j, I, B, A, L, h, p, s, x, st, l, l', st', S, G, hl, T, hm => by cases hm
 | f + 1, j, I, B, A, L, h, p, s, x, st, l, l', st', S, G, hl, T, hm => by
  unfold fX at hm
  obtain ⟨c, hc, hm⟩ := bC hm
  refine bZl j (ll := fun n m => oA (aI n) n m (.p p 0) x h) (bb := fun n m => zP (aI n) n (oA (aI n) n m) (.p p 0) x h) (fun _ _ => rfl) ?_
  unfold zP iG
  refine bZe (eL S T hc) ?_
  rintro _ _ ⟨rfl, S1⟩
  cases c with
  | false =>
   refine yj ?_
   rw [if_neg (by simp)] at hm
   obtain ⟨⟨t, st1⟩, ht, hm⟩ := bC hm
   simp only [bB, bW] at hm
   obtain ⟨rfl, rfl⟩ := hm
   refine bZe (gY S1 T ht) ?_
   rintro _ _ ⟨rfl, s2, S2, T2⟩
   obtain ⟨J, gJ, S3, F3⟩ := G.freeze S2
   exact bZg ⟨J, s2, gJ, S3, T2.mono gJ, by omega, F3⟩
  | true =>
   refine yt ?_
   rw [if_pos rfl] at hm
   obtain ⟨⟨t, st1⟩, ht, hm⟩ := bC hm
   refine bZe (cP S1 T ht) ?_
   rintro _ _ ⟨rfl, s2, S2, T2⟩
   refine wp ?_
   refine cAb S2 (cs := [.s t.text]) rfl ?_
   intro b3 h3 S3
   have hr : (l.length + 1) * 16 ≤ gW := by simp [gW, bQ] at hl ⊢; omega
   obtain ⟨x4, h4, B4, e4, S4, G4⟩ := G.app S3 (oQ S3 (n := 1) (eG) rfl (bN rfl cI)) rfl (bN rfl cI) (by omega) hr
   refine Ev.op e4 ?_
   refine sI f (j + 1) I B4 A L h4 p s2 x4 st1 (l ++ [t.text]) l' st' (dp) ?_ (by simp; omega) T2 hm
   simpa using G4
theorem aDs (f : Nat) (hf : f ≤ bQ) (S : Sy I A [PS p s st] L h) (T : TS' I s st.toks) {l' : List (List Nat)} {st' : PSt} (hm : fV f st = some (l', st')) :
 Ev (fun n => aI n 49 [.p p 0] h) (fun v h' => ∃ J s', ILe I J ∧ Sy J A [PS p s' st'] L h' ∧ TS' J s' st'.toks ∧ SS J v l') := by
 unfold fV at hm
 obtain ⟨c, hc, hm⟩ := bC hm
 refine Ev.enter (fun n => bHd n _ h) ?_
 unfold s49 aKh aMc
 refine bZe (eL S T hc) ?_
 rintro _ _ ⟨rfl, S1⟩
 cases c with
 | false =>
  refine ao (yt ?_)
  rw [if_neg (by simp)] at hm
  simp only [bB, bW] at hm
  obtain ⟨rfl, rfl⟩ := hm
  exact bZg ⟨I, s, ILe.refl _, S1, T, SS.nil I⟩
 | true =>
  refine an (yj ?_)
  rw [if_pos rfl] at hm
  obtain ⟨⟨t, st1⟩, ht, hm⟩ := bC hm
  unfold aIc aIb aYi
  refine bZe (cP S1 T ht) ?_
  rintro _ _ ⟨rfl, s2, S2, T2⟩
  exact sI f 0 I [] A L _ p s2 .l0 st1 [] l' st' S2 (Gr.nil I 1) (by simpa using hf) T2 hm
end
end Go.Dd

namespace Go.Dd
open Go.Proofs
abbrev PF := PSt → Option (Node × PSt)
def kW (E : PF) : PF := fun st => (E st).bind fun r => (bL r.2 10 [41]).bind fun q => some (r.1, q.2)
def dI (LI : PF) : Nat → List Node → PSt → Option (List Node × PSt)
 | 0, _, _ => none
 | f + 1, xs, st => if st.err = 0 then (dU st 10 [41]).bind fun c => if c then some (xs, st) else
  (eD st).bind fun r => if r.1.2 then dI LI f (xs ++ [r.1.1]) r.2 else
   (dU r.2 7 []).bind fun c1 => (if c1 then some true else dU r.2 10 [40]).bind fun c2 =>
    if c2 then (cQ LI r.2).bind fun q => dI LI f (xs ++ [q.1]) q.2 else (bD r.2 0).bind fun t => dI LI f (xs ++ [r.1.1]) (bV r.2 t 13)
  else some (xs, st)
def fT (LI : PF) (f : Nat) : PF := fun st => (dI LI f [] st).bind fun r => (aV r.2).bind fun q => some (.mk 4 [] 0 [] [] r.1, q.2)
def fD : Nat → List (List Nat) → PSt → Option (List (List Nat) × PSt)
 | 0, _, _ => none
 | f + 1, l, st => (dU st 8 []).bind fun c => if c then (gN st 8 l.length).bind fun r => fD f (l ++ [r.1]) r.2 else some (l, st)
def cW (E : PF) : Nat → List Node → PSt → Option (List Node × PSt)
 | 0, _, _ => none
 | f + 1, xs, st => if st.err = 0 then (dU st 0 []).bind fun c => if c then some (xs, st) else (dU st 10 [93]).bind fun c => if c then some (xs, st) else
  (dU st 10 [94]).bind fun c =>
   if c then (aV st).bind fun r => (E r.2).bind fun q => (dU q.2 10 [46]).bind fun d => if d then (aV q.2).bind fun u => some (xs ++ [.mk 10 [] 0 [] [] [q.1]], u.2) else some (xs ++ [.mk 10 [] 0 [] [] [q.1]], q.2)
   else (E st).bind fun q => (dU q.2 10 [46]).bind fun d => if d then (aV q.2).bind fun u => cW E f (xs ++ [q.1]) u.2 else some (xs ++ [q.1], q.2)
  else some (xs, st)
def bar (l : List (List Nat)) (st : PSt) : Option PSt :=
 if 0 < l.length then (dU st 10 [93]).bind fun c => if c then some st else (bL st 10 [124]).bind fun r => some r.2 else some st
def kB (E : PF) (f : Nat) : PF := fun st => (fD f [] st).bind fun r => (bar r.1 r.2).bind fun st2 => (fV f st2).bind fun q => (cW E f [] q.2).bind fun u => (bL u.2 10 [93]).bind fun w => some (.mk 9 [] 0 r.1 q.1 u.1, w.2)
def dJ (LI E : PF) (f : Nat) : PF := fun st => (eD st).bind fun r => if r.1.2 then some (r.1.1, r.2) else (bD r.2 0).bind fun t =>
 if r.2.err = 0 then
  if t.kind = 1 then (aV r.2).bind fun q => some (.mk 5 q.1.text 0 [] [] [], q.2)
  else if t.kind = 7 then cQ LI r.2
  else (dU r.2 10 [40]).bind fun c => if c then cQ (kW E) r.2 else (dU r.2 10 [91]).bind fun c => if c then cQ (kB E f) r.2 else some (zN, bV r.2 t 13)
 else some (zN, r.2)
def bU (P : PF) (g : Nat) : Nat → Node → PSt → Option (Node × PSt)
 | 0, _, _ => none
 | f + 1, x, st => (dU st 3 []).bind fun c => if c then (aV st).bind fun r => (P r.2).bind fun q => (bZ g q.1 q.2).bind fun u => bU P g f (aK r.1.text [x, u.1]) u.2 else some (x, st)
def dW (P : PF) (g : Nat) : Nat → List Nat → List Node → PSt → Option (Node × PSt)
 | 0, _, _, _ => none
 | f + 1, t, ks, st => (dU st 2 []).bind fun c => if c then (aV st).bind fun r => if t.length + r.1.text.length ≤ bQ then
  (P r.2).bind fun q => (bZ g q.1 q.2).bind fun u => (bU P g g u.1 u.2).bind fun w => dW P g f (t ++ r.1.text) (ks ++ [w.1]) w.2 else none
  else some (aK t ks, st)
def iU (P : PF) (g : Nat) : Node → PF := fun x st => (dU st 2 []).bind fun c => if c then dW P g g [] [x] st else some (x, st)
def gF (x : Node) : Node := if x.kids.length = 0 then x else aK x.text (x.kids.drop 1)
def pA (P : PF) (g : Nat) : PF := fun st => (bD st 0).bind fun t =>
 if t.kind = 1 then (aV st).bind fun r => some (aK t.text [zN], r.2)
 else if t.kind = 3 then (aV st).bind fun r => (P r.2).bind fun q => (bZ g q.1 q.2).bind fun u => some (aK t.text [zN, u.1], u.2)
 else if t.kind = 2 then iU P g zN st
 else some (zN, bV st t 13)
def kL (P : PF) (g : Nat) : Nat → List Node → PSt → Option (Node × PSt)
 | 0, _, _ => none
 | f + 1, ks, st => (dU st 10 [59]).bind fun c => if c then (aV st).bind fun r => (pA P g r.2).bind fun q => kL P g f (ks ++ [gF q.1]) q.2 else some (.mk 8 [] 0 [] [] ks, st)
def gZ (P : PF) (g : Nat) : PF := fun st => (P st).bind fun q => (bZ g q.1 q.2).bind fun u => (bU P g g u.1 u.2).bind fun w => (iU P g w.1 w.2).bind fun n =>
 (dU n.2 10 [59]).bind fun c => if c then
  if n.1.kind = 7 then (n.1.kids[0]?).bind fun k0 => kL P g g [k0, gF n.1] n.2
  else (bD n.2 0).bind fun t => some (n.1, bV n.2 t 13)
  else some n
def mB (P E : PF) (g : Nat) : PF := fun st => (dU st 1 []).bind fun c => (if c then (bD st 1).bind fun t => some (decide (t.kind = 9)) else some false).bind fun d =>
 if d then (aV st).bind fun r => (aV r.2).bind fun q => (E q.2).bind fun u => some (.mk 6 r.1.text 0 [] [] [u.1], u.2) else gZ P g st
def nQ : Nat → PF
 | 0 => fun _ => none
 | f + 1 => fT (nQ f) f
def dO : Nat → PF
 | 0 => fun _ => none
 | f + 1 => mB (dJ (nQ f) (dO f) f) (dO f) f
theorem NVL.at {I : Im} : ∀ {l : List Node} {c : List DV} {i : Nat} {x : Node}, NVL I l c → l[i]? = some x → ∃ d rest, c.drop (i * 6) = d ++ rest ∧ NV I x d := by
 intro l c i x H hi
 have := H.drop i
 rw [jI hi] at this
 obtain ⟨d, rest, e, N, _⟩ := this
 exact ⟨d, rest, e, N⟩
theorem NS.at {I : Im} {s : DV} {ks : List Node} (H : NS I s ks) {i : Nat} {x : Node} (hi : ks[i]? = some x) :
 ∃ b o c, (∀ h', aT 6 s (.i .i64 (i : Int)) h' = some (.p b o, h')) ∧ NV I x c ∧ ∀ (J : Im) (A Q L : Ls) (h : Hp), ILe I J → Sy J A Q L h → aD 6 (.p b o) h = some (.a c, h) := by
 obtain ⟨_, cells, F, N⟩ := H
 obtain ⟨hlt, _⟩ := List.getElem?_eq_some_iff.1 hi
 obtain ⟨d, rest, e, Nd⟩ := N.at hi
 rcases F with ⟨_, h2, _⟩ | ⟨b, o, cap, k, row, rest2, rfl, h2, h3, h4, h5, h6⟩
 ·omega
 ·refine ⟨b, o + i * 6, d, fun h' => ?_, Nd, fun J A Q L h g S => ldA (S.im _ _ (g _ _ h3)) ?_⟩
  ·show (if 0 ≤ (i : Int) ∧ (i : Int) < (ks.length : Int) then some (DV.p b (o + (i : Int).toNat * 6), h') else none) = _
   rw [if_pos ⟨by omega, by omega⟩]
   rfl
  ·have hle : i * 6 ≤ cells.length := by rw [h5]; exact Nat.mul_le_mul_right _ (by omega)
   rw [← List.drop_drop, h4, List.drop_append_of_le_length hle, e, List.append_assoc]
   obtain ⟨s1, s2, _⟩ := Nd.shape
   exact iH d _ 6 s1 s2
theorem Fz.rest {I : Im} {sz : Nat} {s : DV} {len : Nat} {cells : List DV} (H : Fz I sz s len cells) {A Q L : Ls} {h : Hp} (S : Sy I A Q L h) {i : Nat} (hi : i ≤ len) (h0 : 0 < len) :
 ∃ s' h' J, dB sz s (some (.i .i64 (Int.ofNat i))) none h = some (s', h') ∧ ILe I J ∧ Sy J A Q L h' ∧ Fz J sz s' (len - i) (cells.drop (i * sz)) ∧ s' ≠ .l0 := by
 rcases H with ⟨_, rfl, _⟩ | ⟨b, o, cap, k, row, rest, rfl, h2, h3, h4, h5, h6⟩
 ·omega
 ·have hle : i * sz ≤ cells.length := by rw [h5]; exact Nat.mul_le_mul_right _ (by omega)
  have hd : row.drop (o + i * sz) = cells.drop (i * sz) ++ rest := by
   rw [← List.drop_drop, h4, List.drop_append_of_le_length hle]
  have e1 : hiD none len cap = some len := by simp [hiD, h2]
  have e2 : loD (some (.i .i64 (Int.ofNat i))) len = some i := by
   show (if 0 ≤ (Int.ofNat i) ∧ (Int.ofNat i) ≤ (len : Int) then some (Int.ofNat i).toNat else none) = _
   have hi' : (Int.ofNat i) = (i : Int) := rfl
   rw [if_pos ⟨by omega, by omega⟩]
   rfl
  have hlen : (cells.drop (i * sz)).length = (len - i) * sz := by rw [List.length_drop, h5, Nat.sub_mul]
  by_cases hc : cap = i
  ·have hz : len - i = 0 := by omega
   have hnil : cells.drop (i * sz) = [] := List.eq_nil_of_length_eq_zero (by rw [hlen, hz]; simp)
   have hg := S.im _ _ h3
   have other : (k = .ro ∨ k = .ex) → dB sz (.l b o len cap) (some (.i .i64 (Int.ofNat i))) none h = some (.l b o (len - i) (cap - i), h) := fun hk => by
    unfold dB
    simp only [e1, e2, hg]
    rcases hk with rfl | rfl <;> simp [hc]
   have grow : (k ≠ .ro ∧ k ≠ .ex) → dB sz (.l b o len cap) (some (.i .i64 (Int.ofNat i))) none h = some (.le, h) := fun hk => by
    unfold dB
    simp only [e1, e2, hg]
    cases k with
    | ro => exact absurd rfl hk.1
    | ex => exact absurd rfl hk.2
    | gr es => simp [hc]
    | sp => simp [hc]
   by_cases hk : k = .ro ∨ k = .ex
   ·refine ⟨_, _, I, other hk, ILe.refl _, S, .inr ⟨b, o, cap - i, k, row, row.drop o, rfl, by omega, h3, ?_, hlen, fun v hv => h6 v (List.mem_of_mem_drop hv)⟩, by simp⟩
    rw [hnil]; rfl
   ·refine ⟨_, _, I, grow ⟨fun e => hk (.inl e), fun e => hk (.inr e)⟩, ILe.refl _, S, ?_, by simp⟩
    rw [hz, hnil]
    exact .inl ⟨.inr rfl, rfl, rfl⟩
  ·refine ⟨.l b (o + i * sz) (len - i) (cap - i), h, I, ?_, ILe.refl _, S, .inr ⟨b, o + i * sz, cap - i, k, row, rest, rfl, by omega, h3, hd, hlen, fun v hv => h6 v (List.mem_of_mem_drop hv)⟩, by simp⟩
   unfold dB
   simp only [e1, e2, S.im _ _ h3]
   cases k <;> simp [hc]
theorem aXn {I : Im} {A Q L : Ls} {h : Hp} (S : Sy I A Q L h) {x : DV} {ks : List Node} (N : NS I x ks) :
 Ev (fun n => aI n 155 [x] h) (fun v h' => ∃ J, ILe I J ∧ Sy J A Q L h' ∧ NS J v ks) := by
 refine Ev.enter (fun n => aZi n _ h) ?_
 unfold s155
 have N0 := N
 obtain ⟨hl, cells, F, NL⟩ := N
 have F0 := F
 rcases F with ⟨rfl | rfl, h2, hc⟩ | ⟨b, o, cap, k, row, rest, rfl, _⟩
 ·refine Ev.op (show pEq (.slice 25) true .l0 .l0 h = some (.b true, h) from rfl) ?_
  refine yt ?_
  exact bZg ⟨I, ILe.refl _, S, N0⟩
 ·refine Ev.op (show pEq (.slice 25) true .le .l0 h = some (.b false, h) from rfl) ?_
  refine yj ?_
  refine cAb S (cs := []) rfl ?_
  intro b1 h1 S1
  have hks : ks = [] := List.eq_nil_of_length_eq_zero h2
  subst hks
  have hg := S1.memL (eG)
  have e : bH 6 104 (.l b1 0 0 0) .le h1 = some (.l b1 0 0 0, ⟨h1.next, Tr.set (.row .ex []) b1 h1.bl⟩) := by
   unfold bH
   simp only [nC]
   simp [hZ, hg, Kind.writable, jS, qD]
  refine Ev.op e ?_
  have S2 : Sy I A Q ((b1, some (.row .ex [])) :: L) ⟨h1.next, Tr.set (.row .ex []) b1 h1.bl⟩ := S1.setL (Rpl.head _) rfl (fun c => bZq _ _ _ _)
  obtain ⟨J, gJ, S4, F4, _⟩ := Fz.built (sz := 6) (n := 0) S2 (by simp) cI
  exact bZg ⟨J, gJ, S4, by simp, [], F4, rfl⟩
 ·refine Ev.op (show pEq (.slice 25) true (.l b o ks.length cap) .l0 h = some (.b false, h) from rfl) ?_
  refine yj ?_
  refine cAb S (cs := []) rfl ?_
  intro b1 h1 S1
  by_cases hk : ks.length = 0
  ·have hks : ks = [] := List.eq_nil_of_length_eq_zero hk
   subst hks
   have hs : nC 6 (.l b o ([] : List Node).length cap) h1 = some (0, []) := by
    have hc : cells = [] := NL
    rw [F0.src S1.dropL, hc]
    rfl
   have hg := S1.memL (eG)
   have e : bH 6 104 (.l b1 0 0 0) (.l b o ([] : List Node).length cap) h1 = some (.l b1 0 0 0, ⟨h1.next, Tr.set (.row .ex []) b1 h1.bl⟩) := by
    unfold bH
    simp only [hs]
    simp [hZ, hg, Kind.writable, jS, qD]
   refine Ev.op e ?_
   have S2 : Sy I A Q ((b1, some (.row .ex [])) :: L) ⟨h1.next, Tr.set (.row .ex []) b1 h1.bl⟩ := S1.setL (Rpl.head _) rfl (fun c => bZq _ _ _ _)
   obtain ⟨J, gJ, S4, F4, _⟩ := Fz.built (sz := 6) (n := 0) S2 (by simp) cI
   exact bZg ⟨J, gJ, S4, by simp, [], F4, rfl⟩
  ·obtain ⟨J, gJ, S4, F4, G4⟩ := Fz.built (sz := 6) (n := 0) S1 (by simp) cI
   obtain ⟨c1, c2⟩ := NL.shape
   have hr : (0 + ks.length) * 104 ≤ gW := by simp [gW, bQ] at hl ⊢; omega
   obtain ⟨x5, h5, B5, e5, S5, G5⟩ := G4.app (A0 := A) S4 ((F0.mono gJ).src S4) c1 c2 hk hr
   refine Ev.op e5 ?_
   obtain ⟨K, gK, S6, F6⟩ := G5.freeze S5
   refine bZg ⟨K, gJ.trans gK, S6, hl, cells, by simpa using F6, (NL.mono gJ).mono gK⟩
theorem eX {I : Im} {A Q L : Ls} {h : Hp} {b : Pos} {kd : Kind} {l : List DV} {o : Nat} {v : DV} (S : Sy I A Q L h) (m : (b, some (.row kd l)) ∈ L) (e : l[o]? = some v) (hv : v.one = true) (hb : DV.beq v v = true) : bX (aB (.p b o) h) v = true := bIj (S := S) m e hv hb
theorem oW (t : List Nat) : DV.beq (.s t) (.s t) = true := by
 have e : uN t t = true := by rw [lS]
 simp [DV.beq, e]
theorem vE {I : Im} {A Q L : Ls} {h : Hp} (S : Sy I A Q L h) {x : Node} {cs : List DV} (N : NV I x cs) :
 Ev (fun n => aI n 138 [.a cs] h) (fun v h' => ∃ J ds, v = .a ds ∧ ILe I J ∧ Sy J A Q L h' ∧ NV J (gF x) ds) := by
 refine Ev.enter (fun n => aQr n _ h) ?_
 unfold s138
 have N0 := N
 obtain ⟨k, t, m, ns, ts, ks⟩ := x
 obtain ⟨s1, s2, s3, rfl, a, b, c, cells, F, NL⟩ := N
 have o1 := a.2.one
 have o2 := b.2.one
 have o3 := F.one
 refine wb fun _ _ _ => ?_; refine wa fun _ _ _ => ?_; refine wf ?_; refine wl ?_
 refine Ev.op (F.len _) ?_
 refine bZj (fun e1 => ?_) (fun e1 => ?_)
 ·refine yt ?_; refine ws ?_; refine wt fun _ _ => ?_; refine ws ?_
  refine bZg ⟨I, _, rfl, ILe.refl _, dp, ?_⟩
  have e2 : ks.length = 0 := by simp at e1; simp [e1]
  rw [show gF (.mk k t m ns ts ks) = .mk k t m ns ts ks by simp [gF, Node.kids, e2]]
  exact N0
 ·refine yj (wf ?_); refine wl ?_; refine wf ?_; refine wl ?_
  have e2 : ks.length ≠ 0 := fun e => e1 (by rw [e]; rfl)
  rename_i bb hh SX
  obtain ⟨s4, h4, J, e4, g4, S4, F4, n4⟩ := F.rest SX (i := 1) (by omega) (by omega)
  refine Ev.op e4 ?_
  have N4 : NS J s4 (ks.drop 1) := ⟨by simp; omega, cells.drop (1 * 6), by simpa using F4, (NL.mono g4).drop 1⟩
  refine bZe (aXn S4 N4) ?_
  rintro v5 h5 ⟨K, g5, S5, N5⟩
  have o5 := N5.one
  refine Ev.cnd ?_ ?_
  ·rw [Bool.and_true]; exact eX S5 (by repeat (first | exact eG | apply List.Mem.tail)) rfl rfl (oW _)
  refine wd ?_; refine wt fun _ _ => ?_; refine ws ?_
  refine bZg ⟨K, _, rfl, g4.trans g5, dp, ?_⟩
  rw [show gF (.mk k t m ns ts ks) = aK t (ks.drop 1) by simp [gF, Node.kids, Node.text, e2]]
  exact NV.of (SS.nil K) (SS.nil K) N5
end Go.Dd

namespace Go.Dd
open Go.Proofs
theorem aQa (n : Nat) (x : DV) (h : Hp) : aI (n + 1) 153 [x] h = s153 (aI n) n x h := by kernel_rfl
theorem aPp (n : Nat) (x : DV) (h : Hp) : aI (n + 1) 152 [x] h = s152 (aI n) n x h := by kernel_rfl
theorem bHj (n : Nat) (x : DV) (h : Hp) : aI (n + 1) 50 [x] h = s50 (aI n) n x h := by kernel_rfl
theorem aWg (n : Nat) (x : DV) (h : Hp) : aI (n + 1) 154 [x] h = s154 (aI n) n x h := by kernel_rfl
theorem aRi (n : Nat) (x : DV) (h : Hp) : aI (n + 1) 137 [x] h = s137 (aI n) n x h := by kernel_rfl
theorem aPg (n : Nat) (x y : DV) (h : Hp) : aI (n + 1) 135 [x, y] h = s135 (aI n) n x y h := by kernel_rfl
theorem aYx (n : Nat) (x y : DV) (h : Hp) : aI (n + 1) 134 [x, y] h = s134 (aI n) n x y h := by kernel_rfl
theorem aXj (n : Nat) (x : DV) (h : Hp) : aI (n + 1) 139 [x] h = s139 (aI n) n x h := by kernel_rfl
theorem aQz (n : Nat) (x : DV) (h : Hp) : aI (n + 1) 114 [x] h = s114 (aI n) n x h := by kernel_rfl
theorem bEy (n : Nat) (x : DV) (h : Hp) : aI (n + 1) 79 [x] h = s79 (aI n) n x h := by kernel_rfl
theorem aLz (rec : FuncId → List DV → Hp → aG) (x : DV) (h : Hp) : dM CF rec (.f 152 [x] []) [] h = rec 152 [x] h := by kernel_rfl
theorem bEt (rec : FuncId → List DV → Hp → aG) (x : DV) (h : Hp) : dM CF rec (.f 153 [x] []) [] h = rec 153 [x] h := by kernel_rfl
theorem bGh (rec : FuncId → List DV → Hp → aG) (x : DV) (h : Hp) : dM CF rec (.f 154 [x] []) [] h = rec 154 [x] h := by kernel_rfl
theorem aUh {E : PF} (HE : oO 79 E) : oO 153 (kW E) := by
 intro I A L h p s st x st' S T hm
 unfold kW at hm
 obtain ⟨⟨y, st1⟩, hy, hm⟩ := bC hm
 obtain ⟨⟨t, st2⟩, ht, hm⟩ := bC hm
 simp only [bB, bW] at hm
 obtain ⟨rfl, rfl⟩ := hm
 refine Ev.enter (fun n => aQa n _ h) ?_
 unfold s153
 refine wa fun _ _ _ => ?_
 refine bZe (HE _ _ _ _ _ _ _ _ _ (by assumption) T hy) ?_
 rintro _ _ ⟨J, s1, cs, rfl, g1, S1, T1, N1⟩
 obtain ⟨l1, o1, b1⟩ := N1.shape
 refine wa fun _ _ _ => ?_; refine wt fun _ _ => ?_
 refine bZe (gY (by assumption) T1 ht) ?_
 rintro _ _ ⟨rfl, s2, S2, T2⟩
 refine ws ?_; refine wt fun _ _ => ?_; refine ws ?_
 exact bZg ⟨J, s2, cs, rfl, g1, dp, T2, N1⟩
theorem mD {I : Im} {B A Q L : Ls} {h : Hp} {x : DV} {xs : List Node} {cells : List DV} (G : Gr I 6 B x xs.length cells) (NL : NVL I xs cells) {y : Node} {cs : List DV} (N : NV I y cs) {b : Pos}
 (S : Sy I (B ++ A) Q L h) (m : (b, some (.row .ex cs)) ∈ L) (hl : xs.length + 1 ≤ bQ) :
 ∃ x' h' B' cells', bH 6 104 x (.l b 0 1 1) h = some (x', h') ∧ Sy I (B' ++ A) Q L h' ∧ Gr I 6 B' x' (xs ++ [y]).length cells' ∧ NVL I (xs ++ [y]) cells' := by
 obtain ⟨l1, o1, b1⟩ := N.shape
 have hr : (xs.length + 1) * 104 ≤ gW := by simp [gW, bQ] at hl ⊢; omega
 obtain ⟨x4, h4, B4, e4, S4, G4⟩ := G.app S (oQ S (n := 1) m (by omega) o1) (by omega) o1 (by omega) hr
 exact ⟨x4, h4, B4, cells ++ cs, e4, S4, by simpa using G4, NL.app (bZn N)⟩
theorem Gr.nodes {I : Im} {B A Q L : Ls} {h : Hp} {x : DV} {xs : List Node} {cells : List DV} (G : Gr I 6 B x xs.length cells) (NL : NVL I xs cells) (S : Sy I (B ++ A) Q L h) (hl : xs.length ≤ bQ) :
 ∃ J, ILe I J ∧ Sy J A Q L h ∧ NS J x xs := by
 obtain ⟨J, gJ, S3, F3⟩ := G.freeze S
 exact ⟨J, gJ, S3, hl, cells, F3, NL.mono gJ⟩
theorem uC {E : PF} (HE : oO 79 E) : ∀ (f j : Nat) (I : Im) (B A L : Ls) (h : Hp) (p : Pos) (s x : DV) (st : PSt) (xs ys : List Node) (cells : List DV) (st' : PSt), Sy I (B ++ A) [PS p s st] L h → Gr I 6 B x xs.length cells → NVL I xs cells →
 xs.length + f ≤ bQ → TS' I s st.toks → cW E f xs st = some (ys, st') →
 Ev (fun n => nP (aI n) n (n - j) (.p p 0) x h) (fun v h' => ∃ J s', ILe I J ∧ Sy J A [PS p s' st'] L h' ∧ TS' J s' st'.toks ∧ NS J v ys)
 | 0, j, I, B, A, L, h, p, s, x, st, xs, ys, cells, st', S, G, NL, hl, T, hm => by cases hm
 | f + 1, j, I, B, A, L, h, p, s, x, st, xs, ys, cells, st', S, G, NL, hl, T, hm => by
  unfold cW at hm
  refine bZl j (ll := fun n m => nP (aI n) n m (.p p 0) x h) (bb := fun n m => aAh (aI n) n (nP (aI n) n m) (.p p 0) x h) (fun _ _ => rfl) ?_
  have hs := T.2.one
  unfold aAh iF
  refine wn (wf ?_); refine wq ?_
  have fin : ∀ h', Sy I (B ++ A) [PS p s st] L h' → some (xs, st) = some (ys, st') → Ev (fun _ => some (x, h')) (fun v h' => ∃ J s', ILe I J ∧ Sy J A [PS p s' st'] L h' ∧ TS' J s' st'.toks ∧ NS J v ys) := by
   intro h' S' hm
   simp only [bB, bW] at hm
   obtain ⟨rfl, rfl⟩ := hm
   obtain ⟨J, gJ, S3, N3⟩ := G.nodes NL S' (by omega)
   exact bZg ⟨J, s, gJ, S3, T.mono gJ, N3⟩
  refine bZj (fun e1 => ?_) (fun e1 => ?_)
  ·rw [if_pos (show st.err = 0 from e1)] at hm
   refine zt (wm (zt ?_))
   obtain ⟨c, hc, hm⟩ := bC hm
   refine bZe (eL (by assumption) T hc) ?_
   rintro _ _ ⟨rfl, S1⟩
   cases c with
   | true =>
    refine zt (an (ap (yf (yf (yf (aq (yj ?_)))))))
    exact fin _ S1 (by simpa using hm)
   | false =>
    refine zt (ao (ap (zt (wm (zt ?_)))))
    rw [if_neg (by simp)] at hm
    obtain ⟨c, hc, hm⟩ := bC hm
    refine bZe (eL (by assumption) T hc) ?_
    rintro _ _ ⟨rfl, S2⟩
    cases c with
    | true =>
     refine zt (an (ap (yj ?_)))
     exact fin _ S2 (by simpa using hm)
    | false =>
     refine zt (ao (ap (yt ?_)))
     rw [if_neg (by simp)] at hm
     obtain ⟨c, hc, hm⟩ := bC hm
     unfold bIv
     refine bZe (eL (by assumption) T hc) ?_
     rintro _ _ ⟨rfl, S3⟩
     unfold bIg
     cases c with
     | true =>
      refine yt ?_
      rw [if_pos rfl] at hm
      obtain ⟨⟨t, st1⟩, ht, hm⟩ := bC hm
      obtain ⟨⟨y, st2⟩, hy, hm⟩ := bC hm
      obtain ⟨d, hd, hm⟩ := bC hm
      unfold bIa
      refine bZe (cP S3 T ht) ?_
      rintro _ _ ⟨rfl, s4, S4, T4⟩
      unfold bIu
      refine bZe (HE _ _ _ _ _ _ _ _ _ S4 T4 hy) ?_
      rintro _ _ ⟨J, s5, cs, rfl, g5, S5, T5, N5⟩
      obtain ⟨l5, o5, b5⟩ := N5.shape
      refine cAb S5 (lW l5) ?_
      intro b6 h6 S6
      obtain ⟨K, g7, S7, F7, _⟩ := Fz.built (sz := 6) (n := 1) S6 (by omega) o5
      have N7 : NS K _ [y] := ⟨by simp [bQ], cs, F7, bZn (N5.mono g7)⟩
      have o7 := N7.one
      refine wd ?_
      have N8 := NV.of (I := K) (k := 10) (t := []) (m := 0) (SS.nil K) (SS.nil K) N7
      obtain ⟨l8, o8, b8⟩ := N8.shape
      refine cAb S7 (lW l8) ?_
      intro b9 h9 S9
      obtain ⟨x10, h10, B10, cells10, e10, S10, G10, NL10⟩ := mD ((G.mono g5).mono g7) ((NL.mono g5).mono g7) N8 S9 (eG) (by omega)
      refine Ev.op e10 ?_
      unfold aXf aFr
      refine bZe (eL S10.dropL (T5.mono g7) hd) ?_
      rintro _ _ ⟨rfl, S11⟩
      have fin2 : ∀ h' s', Sy K (B10 ++ A) [PS p s' st'] L h' → TS' K s' st'.toks → ys = xs ++ [.mk 10 [] 0 [] [] [y]] → Ev (fun _ => some (x10, h')) (fun v h' => ∃ J s', ILe I J ∧ Sy J A [PS p s' st'] L h' ∧ TS' J s' st'.toks ∧ NS J v ys) := by
       intro h' s' S' T' e
       subst e
       obtain ⟨M, gM, S12, N12⟩ := G10.nodes NL10 S' (by simp; omega)
       exact bZg ⟨M, s', (g5.trans g7).trans gM, S12, T'.mono gM, N12⟩
      cases d with
      | true =>
       refine yt ?_
       rw [if_pos rfl] at hm
       obtain ⟨⟨t2, st3⟩, ht2, hm⟩ := bC hm
       simp only [bB, bW] at hm
       obtain ⟨rfl, rfl⟩ := hm
       refine bZe (cP S11 (T5.mono g7) ht2) ?_
       rintro _ _ ⟨rfl, s18, S13, T13⟩
       exact fin2 _ s18 S13 T13 rfl
      | false =>
       refine yj ?_
       rw [if_neg (by simp)] at hm
       simp only [bB, bW] at hm
       obtain ⟨rfl, rfl⟩ := hm
       exact fin2 _ s5 S11 (T5.mono g7) rfl
     | false =>
      refine yj ?_
      rw [if_neg (by simp)] at hm
      obtain ⟨⟨y, st2⟩, hy, hm⟩ := bC hm
      obtain ⟨d, hd, hm⟩ := bC hm
      unfold bIt
      refine bZe (HE _ _ _ _ _ _ _ _ _ S3 T hy) ?_
      rintro _ _ ⟨J, s5, cs, rfl, g5, S5, T5, N5⟩
      obtain ⟨l5, o5, b5⟩ := N5.shape
      refine cAb S5 (lW l5) ?_
      intro b6 h6 S6
      obtain ⟨x10, h10, B10, cells10, e10, S10, G10, NL10⟩ := mD (G.mono g5) (NL.mono g5) N5 S6 (eG) (by omega)
      refine Ev.op e10 ?_
      refine bZe (eL S10.dropL T5 hd) ?_
      rintro _ _ ⟨rfl, S11⟩
      cases d with
      | true =>
       refine an (yj ?_)
       rw [if_pos rfl] at hm
       obtain ⟨⟨t2, st3⟩, ht2, hm⟩ := bC hm
       refine bZe (cP S11 T5 ht2) ?_
       rintro _ _ ⟨rfl, s18, S13, T13⟩
       refine (uC HE f (j + 1) J B10 A L _ p s18 x10 st3 (xs ++ [y]) ys cells10 st' S13 G10 NL10 (by simp; omega) T13 hm).mono ?_
       rintro v h' ⟨M, s', gM, r⟩
       exact ⟨M, s', g5.trans gM, r⟩
      | false =>
       refine ao (yt ?_)
       rw [if_neg (by simp)] at hm
       simp only [bB, bW] at hm
       obtain ⟨rfl, rfl⟩ := hm
       obtain ⟨M, gM, S12, N12⟩ := G10.nodes NL10 S11 (by simp; omega)
       exact bZg ⟨M, s5, g5.trans gM, S12, T5.mono gM, N12⟩
  ·rw [if_neg (show ¬ st.err = 0 from e1)] at hm
   refine yf (yf (yf (aq (yf (yf (yf (aq (yj ?_))))))))
   exact fin _ (by assumption) hm
theorem aDh {E : PF} (HE : oO 79 E) {I : Im} {A L : Ls} {h : Hp} {p : Pos} {s : DV} {st : PSt} (f : Nat) (hf : f ≤ bQ) (S : Sy I A [PS p s st] L h) (T : TS' I s st.toks) {ys : List Node} {st' : PSt} (hm : cW E f [] st = some (ys, st')) :
 Ev (fun n => aI n 50 [.p p 0] h) (fun v h' => ∃ J s', ILe I J ∧ Sy J A [PS p s' st'] L h' ∧ TS' J s' st'.toks ∧ NS J v ys) := by
 refine Ev.enter (fun n => bHj n _ h) ?_
 unfold s50 aMp aKj aVy
 exact uC HE f 0 I [] A L h p s .l0 st [] ys [] st' S (Gr.nil I 6) rfl (by simpa using hf) T hm
end Go.Dd

namespace Go.Dd
open Go.Proofs
theorem wT {LI : PF} (HL : oO 152 LI) : ∀ (f j : Nat) (I : Im) (B A L : Ls) (h : Hp) (p : Pos) (s x : DV) (st : PSt) (xs ys : List Node) (cells z : List DV) (st' : PSt) (b2 b3 : Pos),
 Sy I (B ++ A) [PS p s st] ((b3, some (.row .ex [.i .i64 (Int.ofNat 4), .s [], .i .i64 (Int.ofNat 0), .l0, .l0, x])) :: (b2, some (.row .ex z)) :: L) h → Gr I 6 B x xs.length cells → NVL I xs cells → z.length = 6 → (∀ v ∈ z, v.one = true) →
 xs.length + f ≤ bQ → TS' I s st.toks → (dI LI f xs st).bind (fun r => (aV r.2).bind fun q => some (r.1, q.2)) = some (ys, st') →
 Ev (fun n => iM (aI n) n (n - j) (.p p 0) (.p b2 0) (.p b3 0) h) (NPost I A L p (.mk 4 [] 0 [] [] ys) st')
 | 0, j, I, B, A, L, h, p, s, x, st, xs, ys, cells, z, st', b2, b3, S, G, NL, z1, z2, hl, T, hm => by cases hm
 | f + 1, j, I, B, A, L, h, p, s, x, st, xs, ys, cells, z, st', b2, b3, S, G, NL, z1, z2, hl, T, hm => by
  unfold dI at hm
  refine bZl j (ll := fun n m => iM (aI n) n m (.p p 0) (.p b2 0) (.p b3 0) h) (bb := fun n m => rQ (aI n) n (iM (aI n) n m) (.p p 0) (.p b2 0) (.p b3 0) h) (fun _ _ => rfl) ?_
  have hs := T.2.one
  have hx := G.one
  unfold rQ
  refine wn (wf ?_); refine wq ?_
  have fin : ∀ h', Sy I (B ++ A) [PS p s st] ((b3, some (.row .ex [.i .i64 (Int.ofNat 4), .s [], .i .i64 (Int.ofNat 0), .l0, .l0, x])) :: (b2, some (.row .ex z)) :: L) h' → (some (xs, st)).bind (fun r => (aV r.2).bind fun q => some (r.1, q.2)) = some (ys, st') →
   Ev (fun n => eN (aI n) n (.p p 0) (.p b2 0) (.p b3 0) h') (NPost I A L p (.mk 4 [] 0 [] [] ys) st') := by
   intro h' S' hm
   simp only [Option.bind_some] at hm
   obtain ⟨⟨t2, st2⟩, ht2, hm⟩ := bC hm
   simp only [bB, bW] at hm
   obtain ⟨rfl, rfl⟩ := hm
   unfold eN
   refine bZe (cP S' T ht2) ?_
   rintro _ _ ⟨rfl, s2, S2, T2⟩
   obtain ⟨J, gJ, S3, N3⟩ := G.nodes NL S2 (by omega)
   have o3 := N3.one
   refine ws ?_; refine wt fun _ _ => ?_; refine ws ?_
   exact bZg ⟨J, s2, _, rfl, gJ, dp, T2.mono gJ, NV.of (SS.nil J) (SS.nil J) N3⟩
  refine bZj (fun e1 => ?_) (fun e1 => ?_)
  ·rw [if_pos (show st.err = 0 from e1)] at hm
   refine zt (wm (zt ?_))
   rw [Option.bind_assoc] at hm
   obtain ⟨c, hc, hm⟩ := bC hm
   refine bZe (eL (by assumption) T hc) ?_
   rintro _ _ ⟨rfl, S1⟩
   cases c with
   | true =>
    refine zt (an (ap (yj ?_)))
    exact fin _ S1 (by simpa using hm)
   | false =>
    refine zt (ao (ap (yt ?_)))
    rw [if_neg (by simp), Option.bind_assoc] at hm
    obtain ⟨⟨⟨y, d⟩, st1⟩, hy, hm⟩ := bC hm
    unfold aVe
    refine bZe (aCe S1 T hy) ?_
    rintro _ _ ⟨s2, cs, rfl, S2, T2, N2⟩
    obtain ⟨l2, o2, q2⟩ := N2.shape
    refine wx ?_; refine wx ?_; refine wa fun _ _ _ => ?_; refine wt fun _ _ => ?_
    unfold aRm
    have body : ∀ (J : Im) (h' : Hp) (b4 : Pos) (y' : Node) (cs' : List DV) (s' : DV) (st1' : PSt), ILe I J → Sy J (B ++ A) [PS p s' st1'] ((b4, some (.row .ex cs')) :: (b3, some (.row .ex [.i .i64 (Int.ofNat 4), .s [], .i .i64 (Int.ofNat 0), .l0, .l0, x])) :: (b2, some (.row .ex z)) :: L) h' →
     TS' J s' st1'.toks → NV J y' cs' → (dI LI f (xs ++ [y']) st1').bind (fun r => (aV r.2).bind fun q => some (r.1, q.2)) = some (ys, st') →
     Ev (fun n => oG (aI n) n (iM (aI n) n (n - (j + 1))) (.p p 0) (.p b2 0) (.p b3 0) (.p b4 0) h') (NPost I A L p (.mk 4 [] 0 [] [] ys) st') := by
     intro J h' b4 y' cs' s' st1' gJ S' T' N' hm
     obtain ⟨l', o', q'⟩ := N'.shape
     unfold oG
     refine wf ?_; refine wl ?_; refine ws ?_
     refine cAb S' (lW l') ?_
     intro b6 h6 S6
     obtain ⟨x10, h10, B10, cells10, e10, S10, G10, NL10⟩ := mD (G.mono gJ) (NL.mono gJ) N' S6 (eG) (by omega)
     have hx10 := G10.one
     refine Ev.op e10 ?_
     refine wf ?_; refine wu fun _ _ => ?_
     refine (wT HL f (j + 1) J B10 A L _ p s' x10 st1' (xs ++ [y']) ys cells10 z st' b2 b3 ?_ G10 NL10 z1 z2 (by simp; omega) T' hm).mono (NPost.le gJ)
     exact Sy.dropL (Sy.dropL (by assumption))
    cases d with
    | true =>
     refine yt ?_
     exact body I _ _ y cs s2 st1 (ILe.refl _) (by assumption) T2 N2 (by simpa using hm)
    | false =>
     refine yj ?_
     rw [if_neg (by simp), Option.bind_assoc] at hm
     obtain ⟨c1, hc1, hm⟩ := bC hm
     rw [Option.bind_assoc] at hm
     obtain ⟨c2, hc2, hm2⟩ := bC hm
     refine bZe (eL (by assumption) T2 hc1) ?_
     rintro _ _ ⟨rfl, S3⟩
     have more : ∀ (b4 : Pos) h', Sy I (B ++ A) [PS p s2 st1] ((b4, some (.row .ex cs)) :: (b3, some (.row .ex [.i .i64 (Int.ofNat 4), .s [], .i .i64 (Int.ofNat 0), .l0, .l0, x])) :: (b2, some (.row .ex z)) :: L) h' → (if c2 = true then (cQ LI st1).bind fun q => dI LI f (xs ++ [q.1]) q.2 else (bD st1 0).bind fun t => dI LI f (xs ++ [y]) (bV st1 t 13)).bind (fun r => (aV r.2).bind fun q => some (r.1, q.2)) = some (ys, st') →
      Ev (fun n => cB (.b c2)
       (bnd (aI n 151 [.p p 0, .f 152 [.p p 0] []] h') fun v41 h41 => bnd (aC 6 (.p b4 0) v41 h41) fun _ h42 => oG (aI n) n (iM (aI n) n (n - (j + 1))) (.p p 0) (.p b2 0) (.p b3 0) (.p b4 0) h42)
       (bnd (aI n 81 [.p p 0, .i .i64 (Int.ofNat 0)] h') fun v43 h43 => bnd (aI n 80 [.p p 0, v43, .i .i64 (Int.ofNat 13)] h43) fun v44 h44 => oG (aI n) n (iM (aI n) n (n - (j + 1))) (.p p 0) (.p b2 0) (.p b3 0) (.p b4 0) h44))
       (NPost I A L p (.mk 4 [] 0 [] [] ys) st') := by
      intro b4 h' S' hm
      cases c2 with
      | true =>
       rw [if_pos rfl, Option.bind_assoc] at hm
       obtain ⟨⟨w, st2⟩, hw, hm⟩ := bC hm
       refine yt ?_
       refine bZe (mX aLz HL S' T2 hw) ?_
       rintro _ _ ⟨J, s5, ds, rfl, g5, S5, T5, N5⟩
       obtain ⟨l5, o5, q5⟩ := N5.shape
       refine wt fun _ _ => ?_
       exact body J _ _ w ds s5 st2 g5 (by assumption) T5 N5 hm
      | false =>
       rw [if_neg (by simp), Option.bind_assoc] at hm
       obtain ⟨t, ht, hm⟩ := bC hm
       refine yj ?_
       refine bZe (hJ (k := 0) S' T2 ht) ?_
       rintro _ _ ⟨rfl, S5⟩
       refine bZe (jW S5 T2.2.one t _) ?_
       rintro _ _ ⟨rfl, S6⟩
       exact body I _ _ y cs s2 (bV st1 t 13) (ILe.refl _) S6 (by rw [bY]; exact T2) N2 hm
     cases c1 with
     | true =>
      simp only [if_true, bB] at hc2
      subst hc2
      have M := more _ _ S3 hm2
      refine yg (yg (ap (yt ?_)))
      exact M
     | false =>
      refine zf (wm (zf ?_))
      refine bZe (eL (by assumption) T2 (by simpa using hc2)) ?_
      rintro _ _ ⟨rfl, S4⟩
      have M := more _ _ S4 hm2
      refine aq ?_
      exact M
  ·rw [if_neg (show ¬ st.err = 0 from e1)] at hm
   refine yf (yf (yf (aq (yj ?_))))
   exact fin _ (by assumption) hm
theorem aEc {LI : PF} (HL : oO 152 LI) (f : Nat) (hf : f ≤ bQ) : oO 152 (fT LI f) := by
 intro I A L h p s st x st' S T hm
 unfold fT at hm
 refine Ev.enter (fun n => aPp n _ h) ?_
 unfold s152 aAf xY aFn
 refine wa fun _ _ _ => ?_; refine wd ?_; refine wa fun _ _ _ => ?_; refine wt fun _ _ => ?_
 obtain ⟨⟨ys, st1⟩, h1, hm⟩ := bC hm
 obtain ⟨⟨t, st2⟩, h2, hm⟩ := bC hm
 simp only [bB, bW] at hm
 obtain ⟨rfl, rfl⟩ := hm
 refine wT HL f 0 I [] A L _ p s .l0 st [] ys [] _ st2 _ _ (by assumption) (Gr.nil I 6) rfl rfl (by first | assumption | exact dX _ | (repeat (first | exact cI | refine bN (by first | rfl | assumption | exact Fz.one (by assumption)) ?_))) (by simpa using hf) T ?_
 rw [h1]
 simp [h2]
theorem aYh : ∀ (f : Nat), f ≤ bQ → oO 152 (nQ f)
 | 0, _ => fun I A L h p s st x st' S T hm => by cases hm
 | f + 1, hf => aEc (aYh f (by omega)) f (by omega)
end Go.Dd

namespace Go.Dd
open Go.Proofs
theorem kO {I : Im} {B A Q L : Ls} {h : Hp} {x : DV} {l : List (List Nat)} (G : Gr I 1 B x l.length (l.map .s)) {t : List Nat} {b : Pos} (S : Sy I (B ++ A) Q L h) (m : (b, some (.row .ex [.s t])) ∈ L) (hl : l.length + 1 ≤ bQ) :
 ∃ x' h' B', bH 1 16 x (.l b 0 1 1) h = some (x', h') ∧ Sy I (B' ++ A) Q L h' ∧ Gr I 1 B' x' (l ++ [t]).length ((l ++ [t]).map .s) := by
 have hr : (l.length + 1) * 16 ≤ gW := by simp [gW, bQ] at hl ⊢; omega
 obtain ⟨x4, h4, B4, e4, S4, G4⟩ := G.app S (oQ S (n := 1) m rfl (bN rfl cI)) rfl (bN rfl cI) (by omega) hr
 exact ⟨x4, h4, B4, e4, S4, by simpa using G4⟩
theorem qV {P : DV → Hp → Prop} : ∀ (f j : Nat) (I : Im) (B A L : Ls) (h : Hp) (p : Pos) (s x : DV) (st : PSt) (l l' : List (List Nat)) (z : List DV) (st' : PSt) (b2 b3 : Pos),
 Sy I (B ++ A) [PS p s st] ((b3, some (.row .ex [.i .i64 (Int.ofNat 9), .s [], .i .i64 (Int.ofNat 0), x, .l0, .l0])) :: (b2, some (.row .ex z)) :: L) h → Gr I 1 B x l.length (l.map .s) → z.length = 6 → (∀ v ∈ z, v.one = true) →
 l.length + f ≤ bQ → TS' I s st.toks → fD f l st = some (l', st') →
 (∀ (B' : Ls) (h' : Hp) (s' x' : DV), Sy I (B' ++ A) [PS p s' st'] ((b3, some (.row .ex [.i .i64 (Int.ofNat 9), .s [], .i .i64 (Int.ofNat 0), x', .l0, .l0])) :: (b2, some (.row .ex z)) :: L) h' → Gr I 1 B' x' l'.length (l'.map .s) → l'.length ≤ bQ → TS' I s' st'.toks →
  Ev (fun n => eO (aI n) n (.p p 0) (.p b2 0) (.p b3 0) h') P) →
 Ev (fun n => lO (aI n) n (n - j) (.p p 0) (.p b2 0) (.p b3 0) h) P
 | 0, j, I, B, A, L, h, p, s, x, st, l, l', z, st', b2, b3, S, G, z1, z2, hl, T, hm, K => by cases hm
 | f + 1, j, I, B, A, L, h, p, s, x, st, l, l', z, st', b2, b3, S, G, z1, z2, hl, T, hm, K => by
  unfold fD at hm
  obtain ⟨c, hc, hm⟩ := bC hm
  refine bZl j (ll := fun n m => lO (aI n) n m (.p p 0) (.p b2 0) (.p b3 0) h) (bb := fun n m => rW (aI n) n (lO (aI n) n m) (.p p 0) (.p b2 0) (.p b3 0) h) (fun _ _ => rfl) ?_
  have hx := G.one
  unfold rW
  refine bZe (eL S T hc) ?_
  rintro _ _ ⟨rfl, S1⟩
  cases c with
  | false =>
   refine yj ?_
   rw [if_neg (by simp)] at hm
   simp only [bB, bW] at hm
   obtain ⟨rfl, rfl⟩ := hm
   exact K B _ s x S1 G (by omega) T
  | true =>
   refine yt (wf ?_)
   rw [if_pos rfl] at hm
   obtain ⟨⟨t, st1⟩, ht, hm⟩ := bC hm
   have Sr := S1.res
   refine wl ?_; refine wf ?_; refine wl ?_
   refine bZe (zJ Sr T G.len ht) ?_
   rintro _ _ ⟨rfl, s2, S2, T2⟩
   refine Ev.cnd ?_ ?_
   ·rw [Bool.and_true]; exact eX S2 (by repeat (first | exact eG | apply List.Mem.tail)) rfl hx G.beq
   refine bZz S2 (cs := [.s t]) (by repeat (first | exact Rpl.head _ | apply Rpl.tail)) rfl ?_
   intro h3 S3
   obtain ⟨x4, h4, B4, e4, S4, G4⟩ := kO G S3 (by repeat (first | exact eG | apply List.Mem.tail)) (by omega)
   have hx4 := G4.one
   refine Ev.op e4 ?_
   refine wf ?_; refine wu fun _ _ => ?_
   exact qV f (j + 1) I B4 A L _ p s2 x4 st1 (l ++ [t]) l' z st' b2 b3 (dp) G4 z1 z2 (by simp; omega) T2 hm K
theorem aXd {E : PF} (HE : oO 79 E) (f : Nat) (hf : f ≤ bQ) : oO 154 (kB E f) := by
 intro I A L h p s st x st' S T hm
 unfold kB at hm
 obtain ⟨⟨l, st1⟩, h1, hm⟩ := bC hm
 obtain ⟨st2, h2, hm⟩ := bC hm
 obtain ⟨⟨ts, st3⟩, h3, hm⟩ := bC hm
 obtain ⟨⟨ks, st4⟩, h4, hm⟩ := bC hm
 obtain ⟨⟨t, st5⟩, h5, hm⟩ := bC hm
 simp only [bB, bW] at hm
 obtain ⟨rfl, rfl⟩ := hm
 refine Ev.enter (fun n => aWg n _ h) ?_
 unfold s154 yZ xP aGu
 refine wa fun _ _ _ => ?_; refine wd ?_; refine wa fun _ _ _ => ?_; refine wt fun _ _ => ?_
 refine qV f 0 I [] A L _ p s .l0 st [] l _ st1 _ _ (by assumption) (Gr.nil I 1) rfl (by first | assumption | exact dX _ | (repeat (first | exact cI | refine bN (by first | rfl | assumption | exact Fz.one (by assumption)) ?_))) (by simpa using hf) T h1 ?_
 intro B h' s' x' S1 G1 hl T1
 have hx := G1.one
 unfold eO
 have rest : ∀ (h' : Hp) (s' : DV) (b2 b3 : Pos) (z : List DV), z.length = 6 → (∀ v ∈ z, v.one = true) → Sy I (B ++ A) [PS p s' st2] ((b3, some (.row .ex [.i .i64 (Int.ofNat 9), .s [], .i .i64 (Int.ofNat 0), x', .l0, .l0])) :: (b2, some (.row .ex z)) :: L) h' → TS' I s' st2.toks →
  Ev (fun n => aBd (aI n) n (.p p 0) (.p b2 0) (.p b3 0) h') (NPost I A L p (.mk 9 [] 0 l ts ks) st5) := by
  intro h' s' b2 b3 z z1 z2 S2 T2
  unfold aBd
  obtain ⟨J, gJ, S3, F3⟩ := G1.freeze S2
  refine bZe (aDs f hf S3 (T2.mono gJ) h3) ?_
  rintro v4 h4' ⟨K, s4, g4, S4, T4, N4⟩
  have o4 := N4.2.one
  refine wf ?_; refine wu fun _ _ => ?_
  refine bZe (aDh HE f hf (by assumption) T4 h4) ?_
  rintro v5 h5' ⟨M, s5, g5, S5, T5, N5⟩
  have o5 := N5.one
  refine wf ?_; refine wu fun _ _ => ?_
  refine bZe (gY (by assumption) T5 h5) ?_
  rintro _ _ ⟨rfl, s6, S6, T6⟩
  refine ws ?_; refine wt fun _ _ => ?_; refine ws ?_
  exact bZg ⟨M, s6, _, rfl, (gJ.trans g4).trans g5, dp, T6, NV.of ⟨hl, (F3.mono g4).mono g5⟩ (N4.mono g5) N5⟩
 refine wf ?_; refine wl ?_
 refine Ev.op (G1.len _) ?_
 unfold bar at h2
 refine cAw (fun e1 => ?_) (fun e1 => ?_)
 ·have e2 : 0 < l.length := by simp at e1; exact e1
  simp only [if_pos e2] at h2
  obtain ⟨c, hc, h2⟩ := bC h2
  refine zt (wm (zt ?_))
  refine bZe (eL (by assumption) T1 hc) ?_
  rintro _ _ ⟨rfl, S2⟩
  cases c with
  | true =>
   refine zt (an (ap (yj ?_)))
   simp only [if_true, bB] at h2
   subst h2
   exact rest _ s' _ _ _ rfl (by first | assumption | exact dX _ | (repeat (first | exact cI | refine bN (by first | rfl | assumption | exact Fz.one (by assumption)) ?_))) S2 T1
  | false =>
   refine zt (ao (ap (yt ?_)))
   obtain ⟨⟨t2, st6⟩, ht2, h2⟩ := bC (by simpa using h2)
   simp only [bB] at h2
   subst h2
   refine bZe (gY (by assumption) T1 ht2) ?_
   rintro _ _ ⟨rfl, s3, S3, T3⟩
   exact rest _ s3 _ _ _ rfl (by first | assumption | exact dX _ | (repeat (first | exact cI | refine bN (by first | rfl | assumption | exact Fz.one (by assumption)) ?_))) S3 T3
 ·have e2 : ¬ 0 < l.length := fun e => e1 (by show (0 : Int) < _; omega)
  simp only [if_neg e2, bB] at h2
  subst h2
  refine yf (yf (yf (aq (yj ?_))))
  exact rest _ s' _ _ _ rfl (by first | assumption | exact dX _ | (repeat (first | exact cI | refine bN (by first | rfl | assumption | exact Fz.one (by assumption)) ?_))) S1 T1
theorem aFz {LI E : PF} (HL : oO 152 LI) (HE : oO 79 E) (f : Nat) (hf : f ≤ bQ) : oO 137 (dJ LI E f) := by
 intro I A L h p s st x st' S T hm
 unfold dJ at hm
 obtain ⟨⟨⟨y, d⟩, st1⟩, hy, hm⟩ := bC hm
 refine Ev.enter (fun n => aRi n _ h) ?_
 unfold s137 aWy
 refine wa fun _ _ _ => ?_
 refine bZe (aCe (by assumption) T hy) ?_
 rintro _ _ ⟨s2, cs, rfl, S2, T2, N2⟩
 obtain ⟨l2, o2, q2⟩ := N2.shape
 have hs2 := T2.2.one
 refine wx ?_; refine wx ?_; refine wa fun _ _ _ => ?_; refine wt fun _ _ => ?_
 cases d with
 | true =>
  refine yt ?_; refine ws ?_; refine wt fun _ _ => ?_; refine ws ?_
  simp only [if_true, bB, bW] at hm
  obtain ⟨rfl, rfl⟩ := hm
  exact bZg ⟨I, s2, _, rfl, ILe.refl _, dp, T2, N2⟩
 | false =>
  refine yj ?_
  rw [if_neg (by simp)] at hm
  obtain ⟨t, ht, hm⟩ := bC hm
  unfold aYl aFq
  refine bZe (hJ (k := 0) (by assumption) T2 ht) ?_
  rintro _ _ ⟨rfl, S3⟩
  refine wa fun _ _ _ => ?_; refine wt fun _ _ => ?_; refine wn (wf ?_); refine wq ?_
  refine bZy (fun e1 => ?_) (fun e1 => ?_)
  ·refine yt ?_; refine wd ?_; refine wt fun _ _ => ?_; refine ws ?_
   rw [if_neg (show ¬ st1.err = 0 from e1)] at hm
   simp only [bB, bW] at hm
   obtain ⟨rfl, rfl⟩ := hm
   exact bZg ⟨I, s2, _, rfl, ILe.refl _, dp, T2, NV.flat _ _ _⟩
  ·refine yj (wf ?_); refine wl ?_
   rw [if_pos (show st1.err = 0 from e1)] at hm
   refine bZj (fun e2 => ?_) (fun e2 => ?_)
   ·refine yt ?_
    rw [if_pos (show t.kind = 1 from e2)] at hm
    obtain ⟨⟨t1, st2⟩, ht1, hm⟩ := bC hm
    simp only [bB, bW] at hm
    obtain ⟨rfl, rfl⟩ := hm
    refine bZe (cP (by assumption) T2 ht1) ?_
    rintro _ _ ⟨rfl, s3, S3, T3⟩
    refine wp ?_; refine wd ?_; refine wt fun _ _ => ?_; refine ws ?_
    exact bZg ⟨I, s3, _, rfl, ILe.refl _, dp, T3, NV.flat _ _ _⟩
   ·refine yj (wf ?_); refine wl ?_
    rw [if_neg (show ¬ t.kind = 1 from e2)] at hm
    refine bZj (fun e3 => ?_) (fun e3 => ?_)
    ·refine yt ?_
     rw [if_pos (show t.kind = 7 from e3)] at hm
     refine bZe (mX aLz HL (by assumption) T2 hm) ?_
     rintro _ _ ⟨J, s5, ds, rfl, g5, S5, T5, N5⟩
     obtain ⟨l5, o5, q5⟩ := N5.shape
     refine wt fun _ _ => ?_; refine ws ?_
     exact bZg ⟨J, s5, _, rfl, g5, dp, T5, N5⟩
    ·refine yj ?_
     rw [if_neg (show ¬ t.kind = 7 from e3)] at hm
     obtain ⟨c, hc, hm⟩ := bC hm
     refine bZe (eL (by assumption) T2 hc) ?_
     rintro _ _ ⟨rfl, S4⟩
     cases c with
     | true =>
      refine yt ?_
      refine bZe (mX bEt (aUh HE) (by assumption) T2 hm) ?_
      rintro _ _ ⟨J, s5, ds, rfl, g5, S5, T5, N5⟩
      obtain ⟨l5, o5, q5⟩ := N5.shape
      refine wt fun _ _ => ?_; refine ws ?_
      exact bZg ⟨J, s5, _, rfl, g5, dp, T5, N5⟩
     | false =>
      refine yj ?_
      rw [if_neg (by simp)] at hm
      obtain ⟨c, hc, hm⟩ := bC hm
      refine bZe (eL (by assumption) T2 hc) ?_
      rintro _ _ ⟨rfl, S5⟩
      cases c with
      | true =>
       refine yt ?_
       refine bZe (mX bGh (aXd HE f hf) (by assumption) T2 hm) ?_
       rintro _ _ ⟨J, s5, ds, rfl, g5, S5, T5, N5⟩
       obtain ⟨l5, o5, q5⟩ := N5.shape
       refine wt fun _ _ => ?_; refine ws ?_
       exact bZg ⟨J, s5, _, rfl, g5, dp, T5, N5⟩
      | false =>
       refine yj ?_; refine ws ?_
       simp only [Bool.false_eq_true, if_false, bB, bW] at hm
       obtain ⟨rfl, rfl⟩ := hm
       refine bZe (jW (by assumption) T2.2.one t _) ?_
       rintro _ _ ⟨rfl, S6⟩
       refine wd ?_; refine wt fun _ _ => ?_; refine ws ?_
       exact bZg ⟨I, s2, _, rfl, ILe.refl _, dp, by rw [bY]; exact T2, NV.flat _ _ _⟩
theorem qU {P : PF} (HP : oO 137 P) (g : Nat) : ∀ (f j : Nat) (I : Im) (A L : Ls) (h : Hp) (p : Pos) (s : DV) (st : PSt) (x y : Node) (cs z : List DV) (st' : PSt) (b3 b4 : Pos), Sy I A [PS p s st] ((b4, some (.row .ex z)) :: (b3, some (.row .ex cs)) :: L) h →
 z.length = 6 → (∀ v ∈ z, v.one = true) → TS' I s st.toks → NV I x cs → bU P g f x st = some (y, st') → Ev (fun n => lP (aI n) n (n - j) (.p p 0) (.p b3 0) (.p b4 0) h) (NPost I A L p y st')
 | 0, j, I, A, L, h, p, s, st, x, y, cs, z, st', b3, b4, S, z1, z2, T, N, hm => by cases hm
 | f + 1, j, I, A, L, h, p, s, st, x, y, cs, z, st', b3, b4, S, z1, z2, T, N, hm => by
  unfold bU at hm
  obtain ⟨c, hc, hm⟩ := bC hm
  refine bZl j (ll := fun n m => lP (aI n) n m (.p p 0) (.p b3 0) (.p b4 0) h) (bb := fun n m => rR (aI n) n (lP (aI n) n m) (.p p 0) (.p b3 0) (.p b4 0) h) (fun _ _ => rfl) ?_
  unfold rR eZ
  obtain ⟨l1, o1, q1⟩ := N.shape
  refine bZe (eL S T hc) ?_
  rintro _ _ ⟨rfl, S1⟩
  cases c with
  | false =>
   refine yj ?_; refine ws ?_; refine wt fun _ _ => ?_; refine ws ?_
   rw [if_neg (by simp)] at hm
   simp only [bB, bW] at hm
   obtain ⟨rfl, rfl⟩ := hm
   exact bZg ⟨I, s, cs, rfl, ILe.refl _, dp, T, N⟩
  | true =>
   refine yt ?_
   rw [if_pos rfl] at hm
   obtain ⟨⟨t, st1⟩, ht, hm⟩ := bC hm
   obtain ⟨⟨y1, st2⟩, hy1, hm⟩ := bC hm
   obtain ⟨⟨y2, st3⟩, hy2, hm⟩ := bC hm
   refine bZe (cP S1 T ht) ?_
   rintro _ _ ⟨rfl, s2, S2, T2⟩
   refine wa fun _ _ _ => ?_; refine wt fun _ _ => ?_; refine wf ?_
   have Sr := Sy.res (by assumption)
   refine wl ?_; refine ws ?_
   refine bZe (HP _ _ _ _ _ _ _ _ _ Sr T2 hy1) ?_
   rintro _ _ ⟨J, s5, ds, rfl, g5, S5, T5, N5⟩
   refine Ev.cnd ?_ ?_
   ·rw [aEa S5 (by repeat (first | exact eG | apply List.Mem.tail)) l1 o1 q1, eX S5 (by repeat (first | exact eG | apply List.Mem.tail)) rfl rfl (oW _)]; rfl
   refine bZe (pC g _ _ _ _ _ _ _ _ _ _ _ S5 T5 N5 hy2) ?_
   rintro _ _ ⟨K, s6, es, rfl, g6, S6, T6, N6⟩
   obtain ⟨l6, o6, q6⟩ := N6.shape
   refine Ev.cnd ?_ ?_
   ·rw [aEa S6 (by repeat (first | exact eG | apply List.Mem.tail)) l1 o1 q1, eX S6 (by repeat (first | exact eG | apply List.Mem.tail)) rfl rfl (oW _)]; rfl
   refine bZz S6 (by repeat (first | exact Rpl.head _ | apply Rpl.tail)) (aGv l1 l6) ?_
   intro h7 S7
   have NL7 : NVL K [x, y2] (cs ++ es) := (bZn ((N.mono g5).mono g6)).app (bZn N6)
   obtain ⟨c1, c2⟩ := NL7.shape
   obtain ⟨M, g8, S8, F8, _⟩ := Fz.built (sz := 6) (n := 2) S7 c1 c2
   have N8 : NS M _ [x, y2] := ⟨by simp [bQ], _, F8, NL7.mono g8⟩
   refine bZe (rO S8 N8) ?_
   rintro _ _ ⟨cs9, rfl, N9, S9⟩
   obtain ⟨l9, o9, q9⟩ := N9.shape
   refine wt fun _ _ => ?_
   refine (qU HP g f (j + 1) M A L _ p s6 st3 _ y cs9 z st' b3 b4 ?_ z1 z2 (T6.mono g8) N9 hm).mono (NPost.le ((g5.trans g6).trans g8))
   exact Sy.dropL (by assumption)
theorem xG {P : PF} (HP : oO 137 P) (g f : Nat) : bNo 135 (bU P g f) := by
 intro I A L h p s st x y cs st' S T N hm
 refine Ev.enter (fun n => aPg n _ _ h) ?_
 unfold s135 yG aHg
 refine wb fun _ _ _ => ?_; refine wa fun _ _ _ => ?_
 exact qU HP g f 0 _ _ _ _ _ _ _ _ _ _ _ _ _ _ (by assumption) rfl (by first | assumption | exact dX _ | (repeat (first | exact cI | refine bN (by first | rfl | assumption | exact Fz.one (by assumption)) ?_))) T N hm
end Go.Dd

namespace Go.Dd
open Go.Proofs
theorem Sy.swap {I : Im} {A Q L : Ls} {a b : Pos × Option Ob} {h : Hp} (S : Sy I A Q (a :: b :: L) h) : Sy I A Q (b :: a :: L) h :=
 aDl ((List.Perm.refl _).append (List.Perm.swap _ _ _)) S
theorem cCp {I : Im} {A Q L : Ls} {a b : Pos × Option Ob} {h : Hp} (S : Sy I A Q (a :: b :: L) h) : Sy I A Q (a :: L) h := S.swap.dropL
theorem cCq {I : Im} {A Q L : Ls} {a b c : Pos × Option Ob} {h : Hp} (S : Sy I A Q (a :: b :: c :: L) h) : Sy I A Q (a :: b :: L) h :=
 bPa ((List.Sublist.refl _).append (((List.sublist_cons_self c L).cons_cons b).cons_cons a)) S
theorem cCr {I : Im} {A Q L L' : Ls} {h : Hp} {k : Nat → DV → Hp → aG} {P : DV → Hp → Prop} {b : Pos} {cs : List DV} (S : Sy I A Q L h) (r : Rpl b none (some (.row .ex cs)) L L')
 (H : ∀ h', Sy I A Q L' h' → Ev (fun m => k m (.p b 0) h') P) : Ev (fun m => bnd (qE b cs h) (k m)) P :=
 Ev.op (v := .p b 0) (h := ⟨h.next, Tr.set (.row .ex cs) b h.bl⟩) rfl (H _ (S.setL r rfl (fun c => bZq _ _ _ _)))
theorem bEw {I : Im} {A Q L : Ls} {h : Hp} (S : Sy I A Q L h) {t : List Nat} {x : DV} (hx : x.one = true) :
 Ev (fun n => aI n 149 [.s t, x] h) (fun v h' => v = .a [.i .i64 (Int.ofNat 7), .s t, .i .i64 (Int.ofNat 0), .l0, .l0, x] ∧ Sy I A Q L h') := by
 refine Ev.enter (fun n => aDp n _ _ h) ?_
 unfold s149
 refine wa fun _ _ _ => ?_; refine wd ?_; refine wt fun _ _ => ?_; refine ws ?_
 exact bZg ⟨rfl, dp⟩
theorem vZ {P : PF} (HP : oO 137 P) (g : Nat) : ∀ (f j : Nat) (I : Im) (B A L : Ls) (h : Hp) (p : Pos) (s x : DV) (st : PSt) (t : List Nat) (xs : List Node) (y : Node) (cells z : List DV) (st' : PSt) (b4 b5 : Pos),
 Sy I (B ++ A) [PS p s st] ((b5, some (.row .ex [.i .i64 (Int.ofNat 7), .s t, .i .i64 (Int.ofNat 0), .l0, .l0, x])) :: (b4, some (.row .ex z)) :: L) h → Gr I 6 B x xs.length cells → NVL I xs cells → z.length = 6 → (∀ v ∈ z, v.one = true) →
 xs.length + f ≤ bQ → TS' I s st.toks → dW P g f t xs st = some (y, st') →
 Ev (fun n => kY (aI n) n (n - j) (.p p 0) (.p b4 0) (.p b5 0) h) (NPost I A L p y st')
 | 0, j, I, B, A, L, h, p, s, x, st, t, xs, y, cells, z, st', b4, b5, S, G, NL, z1, z2, hl, T, hm => by cases hm
 | f + 1, j, I, B, A, L, h, p, s, x, st, t, xs, y, cells, z, st', b4, b5, S, G, NL, z1, z2, hl, T, hm => by
  unfold dW at hm
  obtain ⟨c, hc, hm⟩ := bC hm
  refine bZl j (ll := fun n m => kY (aI n) n m (.p p 0) (.p b4 0) (.p b5 0) h) (bb := fun n m => sA (aI n) n (kY (aI n) n m) (.p p 0) (.p b4 0) (.p b5 0) h) (fun _ _ => rfl) ?_
  have hx := G.one
  unfold sA eW
  refine bZe (eL S T hc) ?_
  rintro _ _ ⟨rfl, S1⟩
  cases c with
  | false =>
   rw [if_neg (by simp)] at hm
   simp only [bB, bW] at hm
   obtain ⟨rfl, rfl⟩ := hm
   obtain ⟨J, gJ, S3, N3⟩ := G.nodes NL S1 (by omega)
   refine yj ?_; refine ws ?_; refine wt fun _ _ => ?_; refine ws ?_
   exact bZg ⟨J, s, _, rfl, gJ, dp, T.mono gJ, NV.of (SS.nil J) (SS.nil J) N3⟩
  | true =>
   rw [if_pos rfl] at hm
   obtain ⟨⟨t1, st1⟩, ht, hm⟩ := bC hm
   split at hm
   ·rename_i hlen
    obtain ⟨⟨y1, st2⟩, hy1, hm⟩ := bC hm
    obtain ⟨⟨y2, st3⟩, hy2, hm⟩ := bC hm
    obtain ⟨⟨y3, st4⟩, hy3, hm⟩ := bC hm
    refine yt (wf ?_); refine wl ?_
    refine bZe (cP S1 T ht) ?_
    rintro _ _ ⟨rfl, s2, S2, T2⟩
    refine Ev.cnd ?_ ?_
    ·rw [Bool.and_true]; exact eX S2 (by repeat (first | exact eG | apply List.Mem.tail)) rfl rfl (oW _)
    refine wp ?_
    refine cAu (by simp only [bQ] at hlen; omega) ?_
    refine wf ?_; refine wu fun _ _ => ?_; refine wf ?_
    have Sr := Sy.res (by assumption)
    refine wl ?_
    refine bZe (HP _ _ _ _ _ _ _ _ _ Sr T2 hy1) ?_
    rintro _ _ ⟨J, s5, ds, rfl, g5, S5, T5, N5⟩
    refine Ev.cnd ?_ ?_
    ·rw [Bool.and_true]; exact eX S5 (by repeat (first | exact eG | apply List.Mem.tail)) rfl hx G.beq
    refine bZe (pC g _ _ _ _ _ _ _ _ _ _ _ S5 T5 N5 hy2) ?_
    rintro _ _ ⟨K, s6, es, rfl, g6, S6, T6, N6⟩
    refine Ev.cnd ?_ ?_
    ·rw [Bool.and_true]; exact eX S6 (by repeat (first | exact eG | apply List.Mem.tail)) rfl hx G.beq
    refine bZe (xG HP g g _ _ _ _ _ _ _ _ _ _ _ S6 T6 N6 hy3) ?_
    rintro _ _ ⟨M, s7, fs, rfl, g7, S7, T7, N7⟩
    obtain ⟨l7, o7, q7⟩ := N7.shape
    refine Ev.cnd ?_ ?_
    ·rw [Bool.and_true]; exact eX S7 (by repeat (first | exact eG | apply List.Mem.tail)) rfl hx G.beq
    refine bZz S7 (by repeat (first | exact Rpl.head _ | apply Rpl.tail)) (lW l7) ?_
    intro h8 S8
    have g57 := (g5.trans g6).trans g7
    obtain ⟨x10, h10, B10, cells10, e10, S10, G10, NL10⟩ := mD (G.mono g57) (NL.mono g57) N7 S8 (by repeat (first | exact eG | apply List.Mem.tail)) (by omega)
    have hx10 := G10.one
    refine Ev.op e10 ?_
    refine wf ?_; refine wu fun _ _ => ?_
    refine (vZ HP g f (j + 1) M B10 A L _ p s7 x10 st4 (t ++ t1.text) (xs ++ [y3]) y cells10 z st' b4 b5 ?_ G10 NL10 z1 z2 (by simp; omega) T7 hm).mono (NPost.le g57)
    exact Sy.dropL (by assumption)
   ·cases hm
theorem aKa {P : PF} (HP : oO 137 P) (g : Nat) (hg : g + 1 ≤ bQ) : bNo 134 (iU P g) := by
 intro I A L h p s st x y cs st' S T N hm
 unfold iU at hm
 obtain ⟨c, hc, hm⟩ := bC hm
 obtain ⟨l1, o1, q1⟩ := N.shape
 refine Ev.enter (fun n => aYx n _ _ h) ?_
 unfold s134 aAk
 refine wb fun _ _ _ => ?_; refine wa fun _ _ _ => ?_
 refine bZe (eL (by assumption) T hc) ?_
 rintro _ _ ⟨rfl, S1⟩
 cases c with
 | false =>
  refine ao (yt ?_); refine ws ?_; refine wt fun _ _ => ?_; refine ws ?_
  rw [if_neg (by simp)] at hm
  simp only [bB, bW] at hm
  obtain ⟨rfl, rfl⟩ := hm
  exact bZg ⟨I, s, cs, rfl, ILe.refl _, dp, T, N⟩
 | true =>
  rw [if_pos rfl] at hm
  unfold zU zT aFl
  refine an (yj ?_); refine ws ?_
  refine cAb S1 (lW l1) ?_
  intro b2 h2 S2
  obtain ⟨J, gJ, S4, F4, G4⟩ := Fz.built (sz := 6) (n := 1) S2 (by omega) o1
  refine bZe (bEw S4 rfl) ?_
  rintro _ _ ⟨rfl, S5⟩
  refine wa fun _ _ _ => ?_; refine wt fun _ _ => ?_
  exact (vZ HP g g 0 J [] A L _ p s _ st [] [x] y cs _ st' _ _ (cCq (by assumption)) G4 (bZn (N.mono gJ)) (by rfl) (by first | assumption | exact dX _ | (repeat (first | exact cI | refine bN (by first | rfl | assumption | exact Fz.one (by assumption)) ?_))) (by simp; omega) (T.mono gJ) hm).mono (NPost.le gJ)
theorem bLk {P : PF} (HP : oO 137 P) (g : Nat) (hg : g + 1 ≤ bQ) : oO 139 (pA P g) := by
 intro I A L h p s st x st' S T hm
 unfold pA at hm
 obtain ⟨t, ht, hm⟩ := bC hm
 refine Ev.enter (fun n => aXj n _ h) ?_
 unfold s139
 refine wa fun _ _ _ => ?_; refine wa fun _ _ _ => ?_
 refine bZe (hJ (k := 0) (by assumption) T ht) ?_
 rintro _ _ ⟨rfl, S1⟩
 refine wa fun _ _ _ => ?_; refine wt fun _ _ => ?_; refine wf ?_; refine wl ?_
 have NZ : ∀ J : Im, NV J zN [.i .i64 (Int.ofNat 0), .s [], .i .i64 (Int.ofNat 0), .l0, .l0, .l0] := fun J => NV.flat _ _ _
 have ZO : ∀ v ∈ [DV.i .i64 (Int.ofNat 0), .s [], .i .i64 (Int.ofNat 0), .l0, .l0, .l0], v.one = true := by first | assumption | exact dX _ | (repeat (first | exact cI | refine bN (by first | rfl | assumption | exact Fz.one (by assumption)) ?_))
 refine bZj (fun e1 => ?_) (fun e1 => ?_)
 ·rw [if_pos (show t.kind = 1 from e1)] at hm
  obtain ⟨⟨t1, st1⟩, ht1, hm⟩ := bC hm
  simp only [bB, bW] at hm
  obtain ⟨rfl, rfl⟩ := hm
  refine yt ?_
  refine bZe (cP (by assumption) T ht1) ?_
  rintro _ _ ⟨rfl, s2, S2, T2⟩
  refine wf ?_; refine wl ?_; refine ws ?_
  refine cAb S2 (lW rfl) ?_
  intro b3 h3 S3
  obtain ⟨J, gJ, S4, F4, _⟩ := Fz.built (sz := 6) (n := 1) S3 rfl ZO
  have N4 : NS J _ [zN] := ⟨by simp [bQ], _, F4, bZn (NZ J)⟩
  refine bZe (rO S4 N4) ?_
  rintro _ _ ⟨cs5, rfl, N5, S5⟩
  obtain ⟨l5, o5, b5⟩ := N5.shape
  refine wt fun _ _ => ?_; refine ws ?_
  exact bZg ⟨J, s2, _, rfl, gJ, dp, T2.mono gJ, N5⟩
 ·rw [if_neg (show ¬ t.kind = 1 from e1)] at hm
  refine yj ?_
  refine bZj (fun e2 => ?_) (fun e2 => ?_)
  ·rw [if_pos (show t.kind = 3 from e2)] at hm
   obtain ⟨⟨t1, st1⟩, ht1, hm⟩ := bC hm
   obtain ⟨⟨y1, st2⟩, hy1, hm⟩ := bC hm
   obtain ⟨⟨y2, st3⟩, hy2, hm⟩ := bC hm
   simp only [bB, bW] at hm
   obtain ⟨rfl, rfl⟩ := hm
   refine yt ?_
   refine bZe (cP (by assumption) T ht1) ?_
   rintro _ _ ⟨rfl, s2, S2, T2⟩
   have Sr := S2.res
   refine wf ?_; refine wl ?_; refine ws ?_
   refine bZe (HP _ _ _ _ _ _ _ _ _ Sr T2 hy1) ?_
   rintro _ _ ⟨J, s5, ds, rfl, g5, S5, T5, N5⟩
   refine Ev.cnd ?_ ?_
   ·rw [aEa (n := 6) S5 (by repeat (first | exact eG | apply List.Mem.tail)) rfl ZO (NZ J).shape.2.2, eX S5 (by repeat (first | exact eG | apply List.Mem.tail)) rfl rfl (oW _)]; rfl
   refine bZe (pC g _ _ _ _ _ _ _ _ _ _ _ S5 T5 N5 hy2) ?_
   rintro _ _ ⟨K, s6, es, rfl, g6, S6, T6, N6⟩
   obtain ⟨l6, o6, q6⟩ := N6.shape
   refine Ev.cnd ?_ ?_
   ·rw [aEa (n := 6) S6 (by repeat (first | exact eG | apply List.Mem.tail)) rfl ZO (NZ J).shape.2.2, eX S6 (by repeat (first | exact eG | apply List.Mem.tail)) rfl rfl (oW _)]; rfl
   refine bZz S6 (by repeat (first | exact Rpl.head _ | apply Rpl.tail)) (aGv rfl l6) ?_
   intro h7 S7
   have NL7 : NVL K [zN, y2] (_ ++ es) := (bZn (NZ K)).app (bZn N6)
   obtain ⟨c1, c2⟩ := NL7.shape
   obtain ⟨M, g8, S8, F8, _⟩ := Fz.built (sz := 6) (n := 2) S7 c1 c2
   have N8 : NS M _ [zN, y2] := ⟨by simp [bQ], _, F8, NL7.mono g8⟩
   refine bZe (rO S8 N8) ?_
   rintro _ _ ⟨cs9, rfl, N9, S9⟩
   obtain ⟨l9, o9, q9⟩ := N9.shape
   refine wt fun _ _ => ?_; refine ws ?_
   exact bZg ⟨M, s6, _, rfl, (g5.trans g6).trans g8, dp, T6.mono g8, N9⟩
  ·rw [if_neg (show ¬ t.kind = 3 from e2)] at hm
   refine yj ?_
   refine bZj (fun e3 => ?_) (fun e3 => ?_)
   ·rw [if_pos (show t.kind = 2 from e3)] at hm
    refine yt ?_; refine ws ?_
    refine bZe (aKa HP g hg _ _ _ _ _ _ _ _ _ _ _ (by assumption) T (NZ I) hm) ?_
    rintro _ _ ⟨J, s5, ds, rfl, g5, S5, T5, N5⟩
    obtain ⟨l5, o5, q5⟩ := N5.shape
    refine wt fun _ _ => ?_; refine ws ?_
    exact bZg ⟨J, s5, _, rfl, g5, dp, T5, N5⟩
   ·rw [if_neg (show ¬ t.kind = 2 from e3)] at hm
    simp only [bB, bW] at hm
    obtain ⟨rfl, rfl⟩ := hm
    refine yj ?_; refine ws ?_
    refine bZe (jW (by assumption) T.2.one t _) ?_
    rintro _ _ ⟨rfl, S6⟩
    refine ws ?_; refine wt fun _ _ => ?_; refine ws ?_
    exact bZg ⟨I, s, _, rfl, ILe.refl _, dp, by rw [bY]; exact T, NZ I⟩
theorem aCf {P : PF} (HP : oO 137 P) (g : Nat) (hg : g + 1 ≤ bQ) : ∀ (f j : Nat) (I : Im) (B A L : Ls) (h : Hp) (p : Pos) (s x : DV) (st : PSt) (xs : List Node) (y : Node) (cells z : List DV) (st' : PSt) (b2 b4 : Pos),
 Sy I (B ++ A) [PS p s st] ((b4, some (.row .ex [.i .i64 (Int.ofNat 8), .s [], .i .i64 (Int.ofNat 0), .l0, .l0, x])) :: (b2, some (.row .ex z)) :: L) h → Gr I 6 B x xs.length cells → NVL I xs cells → z.length = 6 → (∀ v ∈ z, v.one = true) →
 xs.length + f ≤ bQ → TS' I s st.toks → kL P g f xs st = some (y, st') →
 Ev (fun n => kZ (aI n) n (n - j) (.p p 0) (.p b2 0) (.p b4 0) h) (NPost I A L p y st')
 | 0, j, I, B, A, L, h, p, s, x, st, xs, y, cells, z, st', b2, b4, S, G, NL, z1, z2, hl, T, hm => by cases hm
 | f + 1, j, I, B, A, L, h, p, s, x, st, xs, y, cells, z, st', b2, b4, S, G, NL, z1, z2, hl, T, hm => by
  unfold kL at hm
  obtain ⟨c, hc, hm⟩ := bC hm
  refine bZl j (ll := fun n m => kZ (aI n) n m (.p p 0) (.p b2 0) (.p b4 0) h) (bb := fun n m => sC (aI n) n (kZ (aI n) n m) (.p p 0) (.p b2 0) (.p b4 0) h) (fun _ _ => rfl) ?_
  have hx := G.one
  unfold sC eY
  refine bZe (eL S T hc) ?_
  rintro _ _ ⟨rfl, S1⟩
  cases c with
  | false =>
   rw [if_neg (by simp)] at hm
   simp only [bB, bW] at hm
   obtain ⟨rfl, rfl⟩ := hm
   obtain ⟨J, gJ, S3, N3⟩ := G.nodes NL S1 (by omega)
   refine yj ?_; refine ws ?_; refine wt fun _ _ => ?_; refine ws ?_
   exact bZg ⟨J, s, _, rfl, gJ, dp, T.mono gJ, NV.of (SS.nil J) (SS.nil J) N3⟩
  | true =>
   rw [if_pos rfl] at hm
   obtain ⟨⟨t1, st1⟩, ht, hm⟩ := bC hm
   obtain ⟨⟨y1, st2⟩, hy1, hm⟩ := bC hm
   refine yt ?_
   refine bZe (cP S1 T ht) ?_
   rintro _ _ ⟨rfl, s2, S2, T2⟩
   have Sr := S2.res
   refine wf ?_; refine wl ?_
   refine bZe (bLk HP g hg _ _ _ _ _ _ _ _ _ Sr T2 hy1) ?_
   rintro _ _ ⟨J, s5, ds, rfl, g5, S5, T5, N5⟩
   refine Ev.cnd ?_ ?_
   ·rw [Bool.and_true]; exact eX S5 (by repeat (first | exact eG | apply List.Mem.tail)) rfl hx G.beq
   refine bZe (vE S5 N5) ?_
   rintro _ _ ⟨K, es, rfl, g6, S6, N6⟩
   obtain ⟨l6, o6, q6⟩ := N6.shape
   refine Ev.cnd ?_ ?_
   ·rw [Bool.and_true]; exact eX S6 (by repeat (first | exact eG | apply List.Mem.tail)) rfl hx G.beq
   refine bZz S6 (by repeat (first | exact Rpl.head _ | apply Rpl.tail)) (lW l6) ?_
   intro h8 S8
   have g56 := g5.trans g6
   obtain ⟨x10, h10, B10, cells10, e10, S10, G10, NL10⟩ := mD (G.mono g56) (NL.mono g56) N6 S8 (by repeat (first | exact eG | apply List.Mem.tail)) (by omega)
   have hx10 := G10.one
   refine Ev.op e10 ?_
   refine wf ?_; refine wu fun _ _ => ?_
   refine (aCf HP g hg f (j + 1) K B10 A L _ p s5 x10 st2 (xs ++ [gF y1]) y cells10 z st' b2 b4 ?_ G10 NL10 z1 z2 (by simp; omega) (T5.mono g6) hm).mono (NPost.le g56)
   exact Sy.dropL (by assumption)
theorem aGh {P : PF} (HP : oO 137 P) (g : Nat) (hg : g + 2 ≤ bQ) : oO 114 (gZ P g) := by
 intro I A L h p s st x st' S T hm
 unfold gZ at hm
 obtain ⟨⟨y1, st1⟩, hy1, hm⟩ := bC hm
 obtain ⟨⟨y2, st2⟩, hy2, hm⟩ := bC hm
 obtain ⟨⟨y3, st3⟩, hy3, hm⟩ := bC hm
 obtain ⟨⟨y4, st4⟩, hy4, hm⟩ := bC hm
 obtain ⟨c, hc, hm⟩ := bC hm
 refine Ev.enter (fun n => aQz n _ h) ?_
 unfold s114 qO
 refine wa fun _ _ _ => ?_
 refine bZe (HP _ _ _ _ _ _ _ _ _ (by assumption) T hy1) ?_
 rintro _ _ ⟨J1, s1, c1, rfl, g1, S1, T1, N1⟩
 refine bZe (pC g _ _ _ _ _ _ _ _ _ _ _ S1 T1 N1 hy2) ?_
 rintro _ _ ⟨J2, s2, c2, rfl, g2, S2, T2, N2⟩
 refine bZe (xG HP g g _ _ _ _ _ _ _ _ _ _ _ S2 T2 N2 hy3) ?_
 rintro _ _ ⟨J3, s3, c3, rfl, g3, S3, T3, N3⟩
 refine bZe (aKa HP g (by omega) _ _ _ _ _ _ _ _ _ _ _ S3 T3 N3 hy4) ?_
 rintro _ _ ⟨J4, s4, c4, rfl, g4, S4, T4, N4⟩
 have g14 := ((g1.trans g2).trans g3).trans g4
 obtain ⟨l4, o4, q4⟩ := N4.shape
 refine wa fun _ _ _ => ?_; refine wt fun _ _ => ?_
 unfold aAm
 refine bZe (eL (by assumption) T4 hc) ?_
 rintro _ _ ⟨rfl, S5⟩
 cases c with
 | false =>
  rw [if_neg (by simp)] at hm
  simp only [bB, bW] at hm
  obtain ⟨rfl, rfl⟩ := hm
  refine ao (yt ?_); refine ws ?_; refine wt fun _ _ => ?_; refine ws ?_
  exact bZg ⟨J4, s4, _, rfl, g14, dp, T4, N4⟩
 | true =>
  rw [if_pos rfl] at hm
  have N4' := N4
  obtain ⟨k, t, m, ns, ts, ks⟩ := y4
  obtain ⟨d1, d2, d3, rfl, a1, a2, a3, cells, F, NL⟩ := N4
  have o1 := a1.2.one
  have o2 := a2.2.one
  have o3 := F.one
  unfold zL
  refine an (yj (wf ?_)); refine wl ?_
  refine bZy (fun e1 => ?_) (fun e1 => ?_)
  ·rw [if_neg (show ¬ Node.kind (.mk k t m ns ts ks) = 7 from e1)] at hm
   obtain ⟨u, hu, hm⟩ := bC hm
   simp only [bB, bW] at hm
   obtain ⟨rfl, rfl⟩ := hm
   refine yt ?_
   refine bZe (hJ (k := 0) (by assumption) T4 hu) ?_
   rintro _ _ ⟨rfl, S6⟩
   refine bZe (jW S6 T4.2.one u _) ?_
   rintro _ _ ⟨rfl, S7⟩
   refine ws ?_; refine wt fun _ _ => ?_; refine ws ?_
   exact bZg ⟨J4, s4, _, rfl, g14, dp, by rw [bY]; exact T4, N4'⟩
  ·rw [if_pos (show Node.kind (.mk k t m ns ts ks) = 7 from e1)] at hm
   obtain ⟨k0, hk0, hm⟩ := bC hm
   refine yj ?_
   unfold aAp
   rename_i bx _ _ by' _ _ _ _
   have Sr : Sy J4 A [PS p s4 st4] ((_, none) :: (_, none) :: _) (gT 2 _) := S5.res.res
   have NS3 : NS J4 d3 ks := ⟨a3, cells, F, NL⟩
   obtain ⟨b6, o6, c6, i6, N6, L6⟩ := NS3.at (i := 0) hk0
   refine wf ?_; refine wl ?_
   refine Ev.op (i6 _) (Ev.op (L6 J4 _ _ _ _ (ILe.refl _) Sr) ?_)
   refine ws ?_
   refine bZe (vE Sr N4') ?_
   rintro _ _ ⟨K, es, rfl, g7, S7, N7⟩
   obtain ⟨l7, o7, q7⟩ := N7.shape
   obtain ⟨l6, o6', q6⟩ := N6.shape
   refine Ev.cnd ?_ ?_
   ·rw [L6 K _ _ _ _ g7 S7, eX S7 (by repeat (first | exact eG | apply List.Mem.tail)) rfl o3 F.beq]
    simpa [aJ, bX] using q6
   refine bZz S7 (by repeat (first | exact Rpl.head _ | apply Rpl.tail)) (aGv l6 l7) ?_
   intro h8 S8
   have NL8 : NVL K [k0, gF (.mk k t m ns ts ks)] (c6 ++ es) := (bZn (N6.mono g7)).app (bZn N7)
   obtain ⟨e8, e9⟩ := NL8.shape
   obtain ⟨M, g9, S9, F9, G9⟩ := Fz.built (sz := 6) (n := 2) S8.swap e8 e9
   refine wd ?_
   refine cCr S9 (Rpl.head _) ?_
   intro h10 S10
   refine wt fun _ _ => ?_
   unfold xU aEy
   refine (aCf HP g (by omega) g 0 M [] A L _ p s4 _ st4 [k0, gF (.mk k t m ns ts ks)] x (c6 ++ es) _ st' _ _ (cCp (by assumption)) G9 (NL8.mono g9) (by rfl) (by first | assumption | exact dX _ | (repeat (first | exact cI | refine bN (by first | rfl | assumption | exact Fz.one (by assumption)) ?_))) (by simp; omega) ((T4.mono g7).mono g9) hm).mono (NPost.le ((g14.trans g7).trans g9))
theorem bCs {P E : PF} (HP : oO 137 P) (HE : oO 79 E) (g : Nat) (hg : g + 2 ≤ bQ) : oO 79 (mB P E g) := by
 intro I A L h p s st x st' S T hm
 unfold mB at hm
 obtain ⟨c, hc, hm⟩ := bC hm
 obtain ⟨d, hd, hm2⟩ := bC hm
 refine Ev.enter (fun n => bEy n _ h) ?_
 unfold s79
 refine wa fun _ _ _ => ?_
 refine bZe (eL (by assumption) T hc) ?_
 rintro _ _ ⟨rfl, S1⟩
 have cas : d = false → ∀ (b1 : Pos) (z : List DV) h', z.length = 6 → (∀ v ∈ z, v.one = true) → Sy I A [PS p s st] ((b1, some (.row .ex z)) :: L) h' →
  Ev (fun n => bnd (aI n 114 [.p p 0] h') fun v21 h21 => bnd (aC 6 (.p b1 0) v21 h21) fun _ h22 => bnd (aD 6 (.p b1 0) h22) fun v23 _ => some (v23, h22)) (NPost I A L p x st') := by
  intro hd0 b1 z h' z1 z2 S'
  subst hd0
  rw [if_neg (by simp)] at hm2
  refine bZe (aGh HP g hg _ _ _ _ _ _ _ _ _ S' T hm2) ?_
  rintro _ _ ⟨J, s5, ds, rfl, g5, S5, T5, N5⟩
  obtain ⟨l5, o5, q5⟩ := N5.shape
  refine wt fun _ _ => ?_; refine ws ?_
  exact bZg ⟨J, s5, _, rfl, g5, dp, T5, N5⟩
 cases c with
 | false =>
  simp only [Bool.false_eq_true, if_false, bB] at hd
  have C := cas hd.symm _ _ _ rfl (by first | assumption | exact dX _ | (repeat (first | exact cI | refine bN (by first | rfl | assumption | exact Fz.one (by assumption)) ?_))) S1
  refine yf (yf (yf (yf (aq (yj ?_)))))
  exact C
 | true =>
  rw [if_pos rfl] at hd
  obtain ⟨t, ht, hd⟩ := bC hd
  simp only [bB] at hd
  refine zt (wm (zt ?_))
  refine bZe (hJ (k := 1) S1 T ht) ?_
  rintro _ _ ⟨rfl, S2⟩
  refine zt ?_; refine wp ?_; refine zt ?_
  refine bZj (fun e1 => ?_) (fun e1 => ?_)
  ·rw [decide_eq_true (show t.kind = 9 from e1)] at hd
   subst hd
   rw [if_pos rfl] at hm2
   obtain ⟨⟨t1, st1⟩, ht1, hm2⟩ := bC hm2
   obtain ⟨⟨t2, st2⟩, ht2, hm2⟩ := bC hm2
   obtain ⟨⟨y, st3⟩, hy, hm2⟩ := bC hm2
   simp only [bB, bW] at hm2
   obtain ⟨rfl, rfl⟩ := hm2
   refine ap (yt ?_)
   refine bZe (cP S2 T ht1) ?_
   rintro _ _ ⟨rfl, s3, S3, T3⟩
   refine wp ?_; refine wd ?_; refine wa fun _ _ _ => ?_; refine wt fun _ _ => ?_
   refine bZe (cP (by assumption) T3 ht2) ?_
   rintro _ _ ⟨rfl, s4, S4, T4⟩
   refine bZe (HE _ _ _ _ _ _ _ _ _ S4 T4 hy) ?_
   rintro _ _ ⟨J, s5, ds, rfl, g5, S5, T5, N5⟩
   obtain ⟨l5, o5, q5⟩ := N5.shape
   refine cAb S5 (lW l5) ?_
   intro b6 h6 S6
   obtain ⟨K, g7, S7, F7, _⟩ := Fz.built (sz := 6) (n := 1) S6 (by omega) o5
   have N7 : NS K _ [y] := ⟨by simp [bQ], ds, F7, bZn (N5.mono g7)⟩
   refine wf ?_; refine wu fun _ _ => ?_; refine ws ?_; refine wt fun _ _ => ?_; refine ws ?_
   exact bZg ⟨K, s5, _, rfl, g5.trans g7, dp, T5.mono g7, NV.of (SS.nil K) (SS.nil K) N7⟩
  ·rw [decide_eq_false (show ¬ t.kind = 9 from e1)] at hd
   have C := cas hd.symm _ _ _ rfl (by first | assumption | exact dX _ | (repeat (first | exact cI | refine bN (by first | rfl | assumption | exact Fz.one (by assumption)) ?_))) S2
   refine ap (yj ?_)
   exact C
theorem tU : ∀ (f : Nat), f + 2 ≤ bQ → oO 79 (dO f)
 | 0, _ => fun I A L h p s st x st' S T hm => by cases hm
 | f + 1, hf => bCs (aFz (aYh f (by omega)) (tU f (by omega)) f (by omega)) (tU f (by omega)) f (by omega)
end Go.Dd

namespace Go.Dd
open Go.Proofs
def bK (c : Nat) : Bool := (decide (97 ≤ c) && decide (c ≤ 122)) || (decide (65 ≤ c) && decide (c ≤ 90))
def aW (c : Nat) : Bool := decide (48 ≤ c) && decide (c ≤ 57)
def cY (c : Nat) : Bool := bK c || aW c
def cK (c : Nat) : Bool := !decide (c = 39)
def cV (l : List Nat) (c : Nat) : Bool := l.contains c
section
variable {k : Nat → DV → Hp → aG} {P : DV → Hp → Prop} {h : Hp}
theorem cAi {l : List Nat} (H : Ev (fun n => k n (.i .i64 (l.length : Int)) h) P) : Ev (fun n => bnd (iE (.s l) h) (k n)) P := H
theorem bNx {l : List Nat} {i c : Nat} (e : l[i]? = some c) (h : Hp) : eP (.s l) (.i .i64 (i : Int)) h = some (.i .u8 (Int.ofNat c), h) := by
 show (if 0 ≤ (i : Int) then (match l[(i : Int).toNat]? with
  | some c => some (DV.i .u8 (c : Int), h)
  | none => none) else none) = _
 rw [if_pos (by omega), show (i : Int).toNat = i by omega, e]
 rfl
theorem bTa {l : List Nat} {a b : Nat} (h1 : a ≤ b) (h2 : b ≤ l.length) (h : Hp) : eH (.s l) (some (.i .i64 (a : Int))) (some (.i .i64 (b : Int))) h = some (.s ((l.take b).drop a), h) := by
 have e1 : hiD (some (.i .i64 (b : Int))) l.length l.length = some b := by
  show (if 0 ≤ (b : Int) ∧ (b : Int) ≤ (l.length : Int) then some (b : Int).toNat else none) = _
  rw [if_pos ⟨by omega, by omega⟩]; rfl
 have e2 : loD (some (.i .i64 (a : Int))) b = some a := by
  show (if 0 ≤ (a : Int) ∧ (a : Int) ≤ (b : Int) then some (a : Int).toNat else none) = _
  rw [if_pos ⟨by omega, by omega⟩]; rfl
 simp only [eH, e1, e2]
theorem bWi {l : List Nat} {a : Nat} (h1 : a ≤ l.length) (h : Hp) : eH (.s l) (some (.i .i64 (a : Int))) none h = some (.s (l.drop a), h) := by
 have e1 : hiD none l.length l.length = some l.length := by simp [hiD]
 have e2 : loD (some (.i .i64 (a : Int))) l.length = some a := by
  show (if 0 ≤ (a : Int) ∧ (a : Int) ≤ (l.length : Int) then some (a : Int).toNat else none) = _
  rw [if_pos ⟨by omega, by omega⟩]; rfl
 simp only [eH, e1, e2, List.take_length]
end
theorem aYo (n : Nat) (x : DV) (h : Hp) : aI (n + 1) 107 [x] h = s107 (aI n) n x h := by kernel_rfl
theorem aOv (n : Nat) (x : DV) (h : Hp) : aI (n + 1) 110 [x] h = s110 (aI n) n x h := by kernel_rfl
theorem aTm (n : Nat) (x : DV) (h : Hp) : aI (n + 1) 132 [x] h = s132 (aI n) n x h := by kernel_rfl
theorem aTr (n : Nat) (x : DV) (h : Hp) : aI (n + 1) 133 [x] h = s133 (aI n) n x h := by kernel_rfl
theorem aPn (n : Nat) (x y : DV) (h : Hp) : aI (n + 1) 105 [x, y] h = s105 (aI n) n x y h := by kernel_rfl
theorem bCp (n : Nat) (x : DV) (h : Hp) : aI (n + 1) 75 [x] h = s75 (aI n) n x h := by kernel_rfl
theorem bDy (n : Nat) (x y : DV) (h : Hp) : aI (n + 1) 57 [x, y] h = s57 (aI n) n x y h := by kernel_rfl
theorem bHe (n : Nat) (x y : DV) (h : Hp) : aI (n + 1) 85 [x, y] h = s85 (aI n) n x y h := by kernel_rfl
theorem aYn (n : Nat) (x y : DV) (h : Hp) : aI (n + 1) 106 [x, y] h = s106 (aI n) n x y h := by kernel_rfl
theorem bCm (n : Nat) (x y z : DV) (h : Hp) : aI (n + 1) 74 [x, y, z] h = s74 (aI n) n x y z h := by kernel_rfl
theorem aYj (n : Nat) (x : DV) (h : Hp) : aI (n + 1) 108 [x] h = s108 (aI n) n x h := by kernel_rfl
theorem aSm (n : Nat) (x : DV) (h : Hp) : aI (n + 1) 109 [x] h = s109 (aI n) n x h := by kernel_rfl
theorem bCb (rec : FuncId → List DV → Hp → aG) (x y : DV) (h : Hp) : dM CF rec (.f 105 [] [y]) [x] h = rec 105 [x, y] h := by kernel_rfl
theorem bDr (rec : FuncId → List DV → Hp → aG) (x : DV) (h : Hp) : dM CF rec (.f 110 [] []) [x] h = rec 110 [x] h := by kernel_rfl
theorem bHb (rec : FuncId → List DV → Hp → aG) (x : DV) (h : Hp) : dM CF rec (.f 132 [] []) [x] h = rec 132 [x] h := by kernel_rfl
theorem bAu (rec : FuncId → List DV → Hp → aG) (x : DV) (h : Hp) : dM CF rec (.f 133 [] []) [x] h = rec 133 [x] h := by kernel_rfl
theorem kR (c : Nat) (h : Hp) : Ev (fun n => aI n 107 [.i .u8 (Int.ofNat c)] h) (fun v h' => v = .b (bK c) ∧ h' = h) := by
 refine Ev.enter (fun n => aYo n _ h) ?_
 unfold s107
 refine cAo (fun e1 => ?_) (fun e1 => ?_)
 ·refine zt (wm (zt ?_))
  refine cBf (fun e2 => ?_) (fun e2 => ?_)
  ·refine ap (yg (yg (yg (yu (yu (yg (ap ?_)))))))
   exact bZg ⟨by simp at e1 e2; simp [bK]; omega, rfl⟩
  ·refine ap (zf (wm (zf ?_)))
   refine cAo (fun e3 => ?_) (fun e3 => ?_)
   ·refine zf (wm (zt (wm (zt ?_))))
    refine cBf (fun e4 => ?_) (fun e4 => ?_)
    ·refine zf (ap (aq ?_))
     exact bZg ⟨by simp at e1 e2 e3 e4; omega, rfl⟩
    ·refine zf (ap (aq ?_))
     exact bZg ⟨by simp at e1 e2 e3 e4; simp [bK]; omega, rfl⟩
   ·refine zf (wm (yf (yf (zf (aq (aq ?_))))))
    exact bZg ⟨by simp at e1 e2 e3; omega, rfl⟩
 ·refine yf (yf (aq (zf (wm (zf ?_)))))
  refine cAo (fun e3 => ?_) (fun e3 => ?_)
  ·refine zf (wm (zt (wm (zt ?_))))
   refine cBf (fun e4 => ?_) (fun e4 => ?_)
   ·refine zf (ap (aq ?_))
    exact bZg ⟨by simp at e1 e3 e4; simp [bK]; omega, rfl⟩
   ·refine zf (ap (aq ?_))
    exact bZg ⟨by simp at e1 e3 e4; simp [bK]; omega, rfl⟩
  ·refine zf (wm (yf (yf (zf (aq (aq ?_))))))
   exact bZg ⟨by simp at e1 e3; simp [bK]; omega, rfl⟩
theorem tA (c : Nat) (h : Hp) : Ev (fun n => aI n 110 [.i .u8 (Int.ofNat c)] h) (fun v h' => v = .b (aW c) ∧ h' = h) := by
 refine Ev.enter (fun n => aOv n _ h) ?_
 unfold s110
 refine cAo (fun e1 => ?_) (fun e1 => ?_)
 ·refine zt (wm (zt ?_))
  refine cBf (fun e2 => ?_) (fun e2 => ?_)
  ·refine ap ?_
   exact bZg ⟨by simp at e1 e2; simp [aW]; omega, rfl⟩
  ·refine ap ?_
   exact bZg ⟨by simp at e1 e2; simp [aW]; omega, rfl⟩
 ·refine yf (yf (aq ?_))
  exact bZg ⟨by simp at e1; simp [aW]; omega, rfl⟩
def xD (I : Im) (f : DV) (so : Nat → Bool) : Prop := ∀ (J : Im) (A Q L : Ls) (h : Hp) (c : Nat), ILe I J → Sy J A Q L h → c < 256 → Ev (fun n => dM CF (aI n) f [.i .u8 (Int.ofNat c)] h) (fun v h' => v = .b (so c) ∧ h' = h)
theorem bGk (I : Im) : xD I (.f 110 [] []) aW := by
 intro J A Q L h c _ _ _
 simp only [bDr]
 exact tA c h
theorem bNp (I : Im) : xD I (.f 132 [] []) cY := by
 intro J A Q L h c _ _ _
 simp only [bHb]
 refine Ev.enter (fun n => aTm n _ h) ?_
 unfold s132
 refine bZe (kR c h) ?_
 rintro _ _ ⟨rfl, rfl⟩
 cases e : bK c with
 | true =>
  refine yg (yg (ap ?_))
  exact bZg ⟨by simp [cY, e], rfl⟩
 | false =>
  refine zf (wm (zf ?_))
  refine bZe (tA c _) ?_
  rintro _ _ ⟨rfl, rfl⟩
  refine aq ?_
  exact bZg ⟨by simp [cY, e], rfl⟩
theorem bQg (I : Im) : xD I (.f 133 [] []) cK := by
 intro J A Q L h c _ _ _
 simp only [bAu]
 refine Ev.enter (fun n => aTr n _ h) ?_
 unfold s133
 refine bZy (fun e1 => ?_) (fun e1 => ?_)
 ·exact bZg ⟨by simp at e1; simp [cK]; omega, rfl⟩
 ·exact bZg ⟨by simp at e1; simp [cK]; omega, rfl⟩
theorem aPf (c : Nat) : ∀ (l : List Nat) (i : Nat), decide (0 ≤ cX c l i) = l.contains c
 | [], i => rfl
 | x :: l, i => by
  have ih := aPf c l (i + 1)
  unfold cX
  cases e : Nat.beq x c with
  | true =>
   have e2 := Nat.eq_of_beq_eq_true e
   subst e2
   simp
  | false =>
   have e2 : ¬ x = c := fun e2 => by subst e2; simp at e
   simp only [cond_false, ih]
   have e3 : ¬ c = x := fun e3 => e2 e3.symm
   simp [e3]
theorem uW (l : List Nat) (c : Nat) (hc : c < 256) (h : Hp) : Ev (fun n => aI n 57 [.s l, .i .u8 (Int.ofNat c)] h) (fun v h' => v = .i .i64 (cX c l 0) ∧ h' = h) := by
 refine Ev.enter (fun n => bDy n _ _ h) ?_
 unfold s57
 refine bZe (F := fun n => aI n 85 [.s l, .i .u8 (Int.ofNat c)] h) (Q := fun v h' => v = .i .i64 (cX c l 0) ∧ h' = h) ?_ ?_
 ·refine Ev.enter (fun n => bHe n _ _ h) ?_
  unfold s85
  have e : aOj [.s l, .i .u8 (Int.ofNat c)] h = some (.i .i64 (cX c l 0), h) := by
   have e2 : Nat.blt c 256 = true := by simpa [aJ, Nat.blt_eq] using hc
   show (bif Nat.blt c 256 then some (DV.i IntKind.i64 (cX c l 0), h) else none) = _
   rw [e2]
   rfl
  refine Ev.op e ?_
  exact bZg ⟨rfl, rfl⟩
 ·rintro _ _ ⟨rfl, rfl⟩
  exact bZg ⟨rfl, rfl⟩
theorem wS {I : Im} {A Q L : Ls} {h : Hp} (S : Sy I A Q L h) (l : List Nat) :
 Ev (fun n => aI n 75 [.s l] h) (fun v h' => ∃ J, ILe I J ∧ Sy J A Q L h' ∧ xD J v (cV l)) := by
 refine Ev.enter (fun n => bCp n _ h) ?_
 unfold s75
 refine Ev.box S rfl ?_
 intro b h1 S1
 obtain ⟨S2, g⟩ := S1.freeze
 refine bZg ⟨_, g, S2, ?_⟩
 intro J A' Q' L' h' c gJ S' hc
 simp only [bCb]
 refine Ev.enter (fun n => aPn n _ _ h') ?_
 unfold s105
 refine cCj (S'.im _ _ (gJ _ _ (cAk _ _ _))) rfl rfl ?_
 refine bZe (uW l c hc h') ?_
 rintro _ _ ⟨rfl, rfl⟩
 refine Ev.op (iL .geq (.b (decide (cX c l 0 ≥ Int.ofNat 0))) rfl) ?_
 refine bZg ⟨?_, rfl⟩
 rw [show (decide (cX c l 0 ≥ Int.ofNat 0)) = l.contains c from aPf c l 0]
 rfl
def RS (r : Pos) (s : List Nat) (at_ : Nat) : Pos × Option Ob := (r, some (.row .ex [.s s, .i .i64 (at_ : Int)]))
def bJ (so : Nat → Bool) : Nat → List Nat → Nat
 | 0, _ => 0
 | _ + 1, [] => 0
 | m + 1, c :: u => if so c then bJ so m u + 1 else 0
def wL (s : List Nat) (i : Nat) : Nat := s.getD i 0
theorem pD (so : Nat → Bool) : ∀ (m : Nat) (u : List Nat), bJ so m u ≤ u.length
 | 0, _ => by simp [bJ]
 | _ + 1, [] => by simp [bJ]
 | m + 1, c :: u => by
  have := pD so m u
  simp only [bJ, List.length_cons]
  split <;> omega
section
variable {I : Im} {A L : Ls} {h : Hp} {r : Pos} {s : List Nat} {i : Nat}
theorem xF (n : Nat) (h : n ≤ 1000000000000) : IntKind.i64.wrap (n : Int) = (n : Int) := gV _ (by omega) (by omega)
theorem jE (S : Sy I A [RS r s i] L h) (hs : s.length ≤ bQ) (hi : i ≤ s.length) (k : Nat) (hk : k ≤ 2) :
 Ev (fun n => aI n 106 [.p r 0, .i .i64 (Int.ofNat k)] h) (fun v h' => v = .i .u8 (Int.ofNat (wL s (i + k))) ∧ h' = h) := by
 refine Ev.enter (fun n => aYn n _ _ h) ?_
 unfold s106
 have e0 : IntKind.i64.wrap ((i : Int) + Int.ofNat k) = ((i + k : Nat) : Int) := by
  rw [show (i : Int) + Int.ofNat k = ((i + k : Nat) : Int) by simp]
  exact xF _ (by simp only [bQ] at hs; omega)
 refine wn (wf ?_); refine wq ?_
 refine bZo ?_
 rw [e0]
 refine wn (wf ?_); refine wq ?_
 refine cAi ?_
 refine cAo (fun e1 => ?_) (fun e1 => ?_)
 ·refine yt ?_
  have e2 : s.length ≤ i + k := by omega
  exact bZg ⟨by simp [wL, List.getD, List.getElem?_eq_none e2], rfl⟩
 ·refine yj (wn (wf ?_)); refine wq ?_; refine wn (wf ?_); refine wq ?_
  refine bZo ?_
  rw [e0]
  have e2 : i + k < s.length := by omega
  refine Ev.op (bNx (c := s[i + k]) (by simp [e2]) _) ?_
  exact bZg ⟨by simp [wL, List.getD, e2], rfl⟩
theorem aYu {f : DV} {so : Nat → Bool} (C : xD I f so) (hs : s.length ≤ bQ) (hb : ∀ c ∈ s, c < 256) (from_ : Nat) : ∀ (m j i : Nat) (h : Hp) (iW : Nat), Sy I A [RS r s i] L h → from_ ≤ i → i ≤ s.length → (i - from_) + m = iW → iW ≤ bQ →
 Ev (fun n => lA (aI n) n (n - j) (.p r 0) f (.i .i64 (iW : Int)) (.i .i64 (from_ : Int)) h) (fun v h' => v = .s ((s.take (i + bJ so m (s.drop i))).drop from_) ∧ Sy I A [RS r s (i + bJ so m (s.drop i))] L h') := by
 intro m
 induction m with
 | zero =>
  intro j i h iW S h1 h2 h3 h4
  refine bZl j (ll := fun n m => lA (aI n) n m (.p r 0) f (.i .i64 (iW : Int)) (.i .i64 (from_ : Int)) h) (bb := fun n m => qG (aI n) n (lA (aI n) n m) (.p r 0) f (.i .i64 (iW : Int)) (.i .i64 (from_ : Int)) h) (fun _ _ => rfl) ?_
  unfold qG hC
  refine wn (wf ?_); refine wq ?_; refine wn (wf ?_); refine wq ?_
  refine cAi ?_
  have fin : Ev (fun n => bnd (eH (.s s) (some (.i .i64 (from_ : Int))) (some (.i .i64 (i : Int))) h) fun v7 h7 => some (v7, h7)) (fun v h' => v = .s ((s.take (i + bJ so 0 (s.drop i))).drop from_) ∧ Sy I A [RS r s (i + bJ so 0 (s.drop i))] L h') :=
   Ev.op (bTa h1 h2 h) (bZg ⟨by simp [bJ], by simpa [aJ, bJ] using S⟩)
  refine cAa (fun e1 => ?_) (fun e1 => ?_)
  ·refine zt (wm (zt (wn (zt (wf (zt ?_)))))); refine wq ?_; refine zt (wm (zt ?_))
   refine cBa ?_
   rw [show (i : Int) - (from_ : Int) = ((i - from_ : Nat) : Int) by omega, xF _ (by simp only [bQ] at hs; omega)]
   refine zt (wm (zt ?_))
   refine cAa (fun e2 => ?_) (fun e2 => ?_)
   ·omega
   ·refine ap (yf (yf (yf (yf (yf (yf (yf (yf (yf (yf (yf (aq (yj (wn (wf ?_))))))))))))))); refine wq ?_; refine wn (wf ?_); refine wq ?_
    exact fin
  ·refine yf (yf (yf (yf (yf (yf (yf (yf (aq (yf (yf (yf (yf (yf (yf (yf (yf (yf (yf (yf (aq (yj (wn (wf ?_))))))))))))))))))))))); refine wq ?_; refine wn (wf ?_); refine wq ?_
   exact fin
 | succ m ih =>
  intro j i h iW S h1 h2 h3 h4
  refine bZl j (ll := fun n m => lA (aI n) n m (.p r 0) f (.i .i64 (iW : Int)) (.i .i64 (from_ : Int)) h) (bb := fun n m => qG (aI n) n (lA (aI n) n m) (.p r 0) f (.i .i64 (iW : Int)) (.i .i64 (from_ : Int)) h) (fun _ _ => rfl) ?_
  unfold qG hC
  refine wn (wf ?_); refine wq ?_; refine wn (wf ?_); refine wq ?_
  refine cAi ?_
  have fin : bJ so (m + 1) (s.drop i) = 0 → Ev (fun n => bnd (eH (.s s) (some (.i .i64 (from_ : Int))) (some (.i .i64 (i : Int))) h) fun v7 h7 => some (v7, h7)) (fun v h' => v = .s ((s.take (i + bJ so (m + 1) (s.drop i))).drop from_) ∧ Sy I A [RS r s (i + bJ so (m + 1) (s.drop i))] L h') := fun e0 => by
   rw [e0]
   exact Ev.op (bTa h1 h2 h) (bZg ⟨rfl, S⟩)
  refine cAa (fun e1 => ?_) (fun e1 => ?_)
  ·have e1' : i < s.length := by omega
   have hd : s.drop i = s[i] :: s.drop (i + 1) := List.drop_eq_getElem_cons e1'
   refine zt (wm (zt (wn (zt (wf (zt ?_)))))); refine wq ?_; refine zt (wm (zt ?_))
   refine cBa ?_
   rw [show (i : Int) - (from_ : Int) = ((i - from_ : Nat) : Int) by omega, xF _ (by simp only [bQ] at hs; omega)]
   refine zt (wm (zt ?_))
   refine cAa (fun e2 => ?_) (fun e2 => ?_)
   ·refine ap (zt (wm (zt (wm (zt (wn (zt (wf (zt ?_))))))))); refine wq ?_; refine zt (wm (zt (wn (zt (wf (zt ?_)))))); refine wq ?_; refine zt ?_
    refine Ev.op (bNx (c := s[i]) (by simp [e1']) _) ?_
    refine zt ?_
    refine bZe (C I _ _ _ _ s[i] (ILe.refl _) S (hb _ (List.getElem_mem e1'))) ?_
    rintro _ _ ⟨rfl, rfl⟩
    refine ap ?_
    cases e3 : so s[i] with
    | false =>
     refine yj (wn (wf ?_)); refine wq ?_; refine wn (wf ?_); refine wq ?_
     exact fin (by rw [hd]; simp [bJ, e3])
    | true =>
     refine yt (wn (wf ?_)); refine wq ?_
     refine bZo ?_
     have e4 : IntKind.i64.wrap ((i : Int) + Int.ofNat 1) = ((i + 1 : Nat) : Int) := by
      rw [show (i : Int) + Int.ofNat 1 = ((i + 1 : Nat) : Int) by simp]
      exact xF _ (by simp only [bQ] at hs; omega)
     rw [e4]
     refine wn (wf ?_); refine wv fun _ _ => ?_
     have := ih (j + 1) (i + 1) _ iW (by assumption) (by omega) (by omega) (by omega) h4
     have e5 : i + 1 + bJ so m (s.drop (i + 1)) = i + bJ so (m + 1) (s.drop i) := by
      rw [hd]
      simp [bJ, e3]
      omega
     rw [e5] at this
     exact this
   ·omega
  ·refine yf (yf (yf (yf (yf (yf (yf (yf (aq (yf (yf (yf (yf (yf (yf (yf (yf (yf (yf (yf (aq (yj (wn (wf ?_))))))))))))))))))))))); refine wq ?_; refine wn (wf ?_); refine wq ?_
   have e1' : s.drop i = [] := List.drop_eq_nil_of_le (by omega)
   exact fin (by rw [e1']; rfl)
theorem oL {f : DV} {so : Nat → Bool} (C : xD I f so) (S : Sy I A [RS r s i] L h) (hs : s.length ≤ bQ) (hb : ∀ c ∈ s, c < 256) (hi : i ≤ s.length) (iW : Nat) (hm : iW ≤ bQ) :
 Ev (fun n => aI n 74 [.p r 0, f, .i .i64 (iW : Int)] h) (fun v h' => v = .s ((s.drop i).take (bJ so iW (s.drop i))) ∧ Sy I A [RS r s (i + bJ so iW (s.drop i))] L h') := by
 refine Ev.enter (fun n => bCm n _ _ _ h) ?_
 unfold s74 aMt aKk aUd
 refine wn (wf ?_); refine wq ?_
 refine (aYu C hs hb i iW 0 i h iW S (Nat.le_refl _) hi (by omega) hm).mono ?_
 rintro v h' ⟨rfl, S'⟩
 refine ⟨?_, S'⟩
 rw [List.drop_take, Nat.add_sub_cancel_left]
end
end Go.Dd

namespace Go.Dd
open Go.Proofs
theorem pH (so : Nat → Bool) : ∀ (u : List Nat) (m : Nat), u.length ≤ m → bJ so m u = (u.takeWhile so).length
 | [], 0, _ => rfl
 | [], _ + 1, _ => rfl
 | c :: u, 0, h => by simp at h
 | c :: u, m + 1, h => by
  have := pH so u m (by simpa using h)
  simp only [bJ, this]
  cases e : so c <;> simp [e]
theorem oR (so : Nat → Bool) : ∀ (u : List Nat), u.take (u.takeWhile so).length = u.takeWhile so
 | [] => rfl
 | c :: u => by
  have := oR so u
  cases e : so c <;> simp [e, this]
theorem oZ (so : Nat → Bool) : ∀ (u : List Nat), (u.takeWhile so).length ≤ u.length
 | [] => Nat.le_refl _
 | c :: u => by
  have := oZ so u
  cases e : so c <;> simp [e]
  omega
theorem uK (so : Nat → Bool) : ∀ (u : List Nat) (c : Nat), c ∈ u.takeWhile so → so c = true
 | [], c, h => by simp at h
 | d :: u, c, h => by
  cases e : so d with
  | false => simp [e] at h
  | true =>
   simp [e] at h
   rcases h with rfl | h
   ·exact e
   ·exact uK so u c h
def nx (u : List Nat) (k : Nat) : Nat := u.getD k 0
def aL (u : List Nat) : List Nat × Int × Nat := if 24 < (u.takeWhile cY).length then ([], 12, (u.takeWhile cY).length) else (u.takeWhile cY, 0, (u.takeWhile cY).length)
def cT (u : List Nat) : Bool := decide (nx u 0 = 58) && !decide (nx u 1 = 61)
def gA : Int → List Nat → Int × Int
 | n, [] => (n, 0)
 | n, c :: w => if 115292150460684697 < n then (0, 2) else if 1152921504606846976 < n * 10 + ((c : Int) - 48) then (0, 2) else gA (n * 10 + ((c : Int) - 48)) w
def dE (u : List Nat) : Int × Int × Nat := ((gA 0 (u.takeWhile aW)).1, (gA 0 (u.takeWhile aW)).2, (u.takeWhile aW).length)
def jQ : Nat → List Nat → List Nat → Option (List Nat × Int × Nat)
 | 0, _, _ => none
 | f + 1, out, u =>
  if (u.takeWhile cK).length = u.length then some ([], 11, u.length)
  else if nx u ((u.takeWhile cK).length + 1) = 39 then
   (jQ f (out ++ u.takeWhile cK ++ [39]) (u.drop ((u.takeWhile cK).length + 2))).bind fun r => some (r.1, r.2.1, r.2.2 + ((u.takeWhile cK).length + 2))
  else some (out ++ u.takeWhile cK, 0, (u.takeWhile cK).length + 1)
def signs : List Nat := [43, 45, 42, 47, 60, 62, 61, 126, 44, 64, 38, 37]
def dQ : List Nat := [94, 46, 59, 40, 41, 91, 93, 124]
def cG : List Nat := [9, 10, 13, 32]
def nF : Nat → List Nat → List Nat → Option (List Nat × Int × Nat)
 | 0, _, _ => none
 | f + 1, out, u =>
  if bK (nx u 0) then
   if cT (u.drop (aL u).2.2) then
    if (aL u).2.1 = 0 then (nF f (out ++ ((aL u).1 ++ [58])) (u.drop ((aL u).2.2 + 1))).bind fun r => some (r.1, r.2.1, r.2.2 + ((aL u).2.2 + 1))
    else some ([], (aL u).2.1, (aL u).2.2 + 1)
   else some (out, 0, 0)
  else some (out, 0, 0)
def dS (f : Nat) (u : List Nat) : Option (List Nat × Int × Nat) :=
 if bJ (cV signs) 2 u = 0 then
  if bK (nx u 0) then
   if (aL u).2.1 = 0 then
    if cT (u.drop (aL u).2.2) then (nF f ((aL u).1 ++ [58]) (u.drop ((aL u).2.2 + 1))).bind fun r => some (r.1, r.2.1, r.2.2 + ((aL u).2.2 + 1))
    else some ((aL u).1, 0, (aL u).2.2)
   else some ((aL u).1, (aL u).2.1, (aL u).2.2)
  else some ([], 10, 0)
 else some (u.take (bJ (cV signs) 2 u), 0, bJ (cV signs) 2 u)
theorem jH (s : List Nat) (i k : Nat) : wL s (i + k) = nx (s.drop i) k := by simp [wL, nx, List.getD, List.getElem?_drop]
theorem jM (u : List Nat) : (aL u).2.2 ≤ u.length := by
 unfold aL
 have := oZ cY u
 split <;> exact this
section
variable {I : Im} {A L : Ls} {h : Hp} {r : Pos} {s : List Nat} {i : Nat}
theorem aIp (S : Sy I A [RS r s i] L h) (hs : s.length ≤ bQ) (hb : ∀ c ∈ s, c < 256) (hi : i ≤ s.length) :
 Ev (fun n => aI n 108 [.p r 0] h) (fun v h' => v = .t [.s (aL (s.drop i)).1, .i .i64 (aL (s.drop i)).2.1] ∧ Sy I A [RS r s (i + (aL (s.drop i)).2.2)] L h') := by
 refine Ev.enter (fun n => aYj n _ h) ?_
 unfold s108
 refine wn (wf ?_); refine wq ?_
 refine cAi ?_
 refine bZe (oL (bNp I) S hs hb hi s.length hs) ?_
 rintro _ h1 ⟨rfl, S1⟩
 have e0 : bJ cY s.length (s.drop i) = ((s.drop i).takeWhile cY).length := pH _ _ _ (by simp)
 rw [e0] at S1 ⊢
 rw [oR]
 refine cAi ?_
 unfold aL
 refine cAw (fun e1 => ?_) (fun e1 => ?_)
 ·refine yt ?_
  have e2 : 24 < ((s.drop i).takeWhile cY).length := by simp at e1; omega
  rw [if_pos e2]
  exact bZg ⟨rfl, S1⟩
 ·refine yj ?_
  have e2 : ¬ 24 < ((s.drop i).takeWhile cY).length := by simp at e1; omega
  rw [if_neg e2]
  exact bZg ⟨rfl, S1⟩
theorem vR {i : Nat} (k : Nat) (hs : i + k ≤ 1000000000000) : IntKind.i64.wrap ((i : Int) + Int.ofNat k) = ((i + k : Nat) : Int) := by
 rw [show (i : Int) + Int.ofNat k = ((i + k : Nat) : Int) by simp]
 exact xF _ hs
theorem aGw (S : Sy I A [RS r s i] L h) (hs : s.length ≤ bQ) (hi : i ≤ s.length) :
 Ev (fun n => aI n 109 [.p r 0] h) (fun v h' => v = .b (cT (s.drop i)) ∧ Sy I A [RS r s (if cT (s.drop i) then i + 1 else i)] L h') := by
 refine Ev.enter (fun n => aSm n _ h) ?_
 unfold s109
 refine bZe (jE S hs hi 0 (by omega)) ?_
 rintro _ _ ⟨rfl, rfl⟩
 rw [jH]
 unfold cT
 refine bZy (fun e1 => ?_) (fun e1 => ?_)
 ·refine yg (yg (yg (ap (yt ?_))))
  have e2 : ¬ nx (s.drop i) 0 = 58 := by simp at e1; omega
  simp only [e2, decide_false, Bool.false_and, Bool.false_eq_true, if_false]
  exact bZg ⟨rfl, S⟩
 ·refine zf (wm (zf ?_))
  have e2 : nx (s.drop i) 0 = 58 := by simp at e1; omega
  refine bZe (jE S hs hi 1 (by omega)) ?_
  rintro _ _ ⟨rfl, rfl⟩
  rw [jH]
  refine zf ?_
  refine bZj (fun e3 => ?_) (fun e3 => ?_)
  ·refine aq (yt ?_)
   have e4 : nx (s.drop i) 1 = 61 := by simp at e3; omega
   simp only [e2, e4, decide_true, Bool.not_true, Bool.and_false, Bool.false_eq_true, if_false]
   exact bZg ⟨rfl, S⟩
  ·refine aq (yj (wn (wf ?_))); refine wq ?_
   have e4 : ¬ nx (s.drop i) 1 = 61 := by simp at e3; omega
   simp only [e2, e4, decide_true, decide_false, Bool.not_false, Bool.and_true, if_true]
   refine bZo ?_
   rw [vR 1 (by simp only [bQ] at hs; omega)]
   refine wn (wf ?_); refine wv fun _ _ => ?_
   exact bZg ⟨rfl, by assumption⟩
theorem iQ {u : List Nat} (h : cT u = true) : 1 ≤ u.length := by
 unfold cT at h
 cases u with
 | nil => simp [nx] at h
 | cons => simp
end
theorem bPq {I : Im} {A Q L L' : Ls} {h : Hp} {k : Nat → DV → Hp → aG} {P : DV → Hp → Prop} {b : Pos} {l : List Nat} {pos c : Nat} (S : Sy I A Q L h) (r : Rpl b (some (.it l pos)) (some (.it l (pos + 1))) L L') (e : l[pos]? = some c) (hc : c < 128)
 (H : ∀ h', Sy I A Q L' h' → Ev (fun m => k m (.t [.b true, .i .i64 (pos : Int), .i .i32 (c : Int)]) h') P) : Ev (fun m => bnd (qX (.p b 0) h) (k m)) P := by
 refine Ev.op (v := .t [.b true, .i .i64 (pos : Int), .i .i32 (c : Int)]) (h := ⟨h.next, Tr.set (.it l (pos + 1)) b h.bl⟩) ?_ (H _ (S.setL r rfl (fun c => bZq _ _ _ _)))
 simp [qX, S.memL r.at.1, e, hc]
theorem bUh {I : Im} {A Q L : Ls} {h : Hp} {k : Nat → DV → Hp → aG} {P : DV → Hp → Prop} {b : Pos} {l : List Nat} {pos : Nat} (S : Sy I A Q L h) (r : (b, some (.it l pos)) ∈ L) (e : l[pos]? = none)
 (H : Ev (fun m => k m (.t [.b false]) h) P) : Ev (fun m => bnd (qX (.p b 0) h) (k m)) P := by
 refine Ev.op (v := .t [.b false]) (h := h) ?_ H
 simp [qX, S.memL r, e]
theorem aYg (n : Nat) (x : DV) (h : Hp) : aI (n + 1) 111 [x] h = s111 (aI n) n x h := by kernel_rfl
theorem aRq (n : Nat) (x : DV) (h : Hp) : aI (n + 1) 112 [x] h = s112 (aI n) n x h := by kernel_rfl
theorem aZh (n : Nat) (x : DV) (h : Hp) : aI (n + 1) 113 [x] h = s113 (aI n) n x h := by kernel_rfl
theorem bDm (n : Nat) (x : DV) (h : Hp) : aI (n + 1) 76 [x] h = s76 (aI n) n x h := by kernel_rfl
theorem bGx (n : Nat) (x : DV) (h : Hp) : aI (n + 1) 48 [x] h = s48 (aI n) n x h := by kernel_rfl
theorem aSi {I : Im} {A Q L : Ls} {b : Pos} {l : List Nat} (hd : ∀ c ∈ l, aW c = true) : ∀ (w : List Nat) (j pos : Nat) (h : Hp) (x : Int), Sy I A Q ((b, some (.it l pos)) :: L) h → l.drop pos = w → 0 ≤ x → x ≤ 1152921504606846976 →
 Ev (fun n => jG (aI n) n (n - j) (.i .i64 x) (.p b 0) h) (fun v h' => v = .t [.i .i64 (gA x w).1, .i .i64 (gA x w).2] ∧ Sy I A Q L h') := by
 intro w
 induction w with
 | nil =>
  intro j pos h x S hw h0 h1
  refine bZl j (ll := fun n m => jG (aI n) n m (.i .i64 x) (.p b 0) h) (bb := fun n m => mQ (aI n) n (jG (aI n) n m) (.i .i64 x) (.p b 0) h) (fun _ _ => rfl) ?_
  unfold mQ eJ
  refine bUh S (eG) (List.getElem?_eq_none (by simpa using hw)) ?_
  refine wx ?_; refine yj ?_
  exact bZg ⟨rfl, S.dropL⟩
 | cons c w ih =>
  intro j pos h x S hw h0 h1
  have hg : l[pos]? = some c := by
   have : (l.drop pos)[0]? = some c := by rw [hw]; rfl
   simpa [aJ] using this
  have hw' : l.drop (pos + 1) = w := by
   rw [← List.drop_drop, hw]; rfl
  have hdc := hd c (List.mem_of_getElem? hg)
  simp [aW] at hdc
  refine bZl j (ll := fun n m => jG (aI n) n m (.i .i64 x) (.p b 0) h) (bb := fun n m => mQ (aI n) n (jG (aI n) n m) (.i .i64 x) (.p b 0) h) (fun _ _ => rfl) ?_
  unfold mQ
  refine bPq S (Rpl.head _) hg (by omega) ?_
  intro h2 S2
  refine wx ?_; refine yt ?_; refine wx ?_
  unfold gA
  refine cAw (fun e1 => ?_) (fun e1 => ?_)
  ·refine yt ?_
   rw [if_pos (show (115292150460684697 : Int) < x from e1)]
   exact bZg ⟨rfl, S2.dropL⟩
  ·rw [if_neg (show ¬ (115292150460684697 : Int) < x from e1)]
   have e1' : x ≤ 115292150460684697 := by
    have : ¬ (115292150460684697 : Int) < x := e1
    omega
   refine yj ?_
   refine cCt ?_
   refine cBa ?_
   have a1 : IntKind.i64.wrap (x * Int.ofNat 10) = x * 10 := gV _ (by show -9223372036854775808 ≤ x * 10; omega) (by show x * 10 ≤ _; omega)
   have a2 : IntKind.i32.wrap ((c : Int) - Int.ofNat 48) = (c : Int) - 48 := by
    show IntKind.i32.wrap ((c : Int) - 48) = _
    unfold IntKind.wrap
    simp [IntKind.bits, IntKind.signed, IntKind.min, IntKind.max]
    omega
   have a3 : ∀ h, qC .i64 (.i .i32 ((c : Int) - 48)) h = some (.i .i64 ((c : Int) - 48), h) := fun h => by
    show some (DV.i .i64 (IntKind.i64.wrap ((c : Int) - 48)), h) = _
    rw [gV _ (by omega) (by omega)]
   rw [a1, a2]
   refine Ev.op (a3 _) ?_
   refine bZo ?_
   rw [gV _ (by omega) (by omega)]
   refine cAw (fun e2 => ?_) (fun e2 => ?_)
   ·refine yt ?_
    rw [if_pos (show (1152921504606846976 : Int) < x * 10 + ((c : Int) - 48) from e2)]
    exact bZg ⟨rfl, S2.dropL⟩
   ·refine yj ?_
    rw [if_neg (show ¬ (1152921504606846976 : Int) < x * 10 + ((c : Int) - 48) from e2)]
    have e2' : ¬ (1152921504606846976 : Int) < x * 10 + ((c : Int) - 48) := e2
    exact ih (j + 1) (pos + 1) h2 _ S2 hw' (by omega) (by omega)
section
variable {I : Im} {A L : Ls} {h : Hp} {r : Pos} {s : List Nat} {i : Nat}
theorem bKn (S : Sy I A [RS r s i] L h) (hs : s.length ≤ bQ) (hb : ∀ c ∈ s, c < 256) (hi : i ≤ s.length) :
 Ev (fun n => aI n 111 [.p r 0] h) (fun v h' => v = .t [.i .i64 (dE (s.drop i)).1, .i .i64 (dE (s.drop i)).2.1] ∧ Sy I A [RS r s (i + (dE (s.drop i)).2.2)] L h') := by
 refine Ev.enter (fun n => aYg n _ h) ?_
 unfold s111 aBo yL zW aFd
 refine wn (wf ?_); refine wq ?_
 refine cAi ?_
 refine bZe (oL (bGk I) S hs hb hi s.length hs) ?_
 rintro _ h1 ⟨rfl, S1⟩
 have e0 : bJ aW s.length (s.drop i) = ((s.drop i).takeWhile aW).length := pH _ _ _ (by simp)
 rw [e0] at S1 ⊢
 rw [oR]
 refine Ev.op (v := .p h1.next 0) (h := nw (.it ((s.drop i).takeWhile aW) 0) h1) rfl ?_
 have S2 := S1.new (.it ((s.drop i).takeWhile aW) 0)
 exact aSi (fun c hc => uK aW _ c hc) _ 0 0 _ 0 S2 rfl (by omega) (by omega)
theorem aNi (hs : s.length ≤ bQ) (hb : ∀ c ∈ s, c < 256) : ∀ (f j i : Nat) (h : Hp) (out : List Nat) (res : List Nat × Int × Nat), Sy I A [RS r s i] L h → i ≤ s.length → out.length ≤ 3 * i → jQ f out (s.drop i) = some res →
 Ev (fun n => lD (aI n) n (n - j) (.p r 0) (.s out) h) (fun v h' => v = .t [.s res.1, .i .i64 res.2.1] ∧ Sy I A [RS r s (i + res.2.2)] L h') := by
 intro f
 induction f with
 | zero => intro j i h out res S hi ho hm; cases hm
 | succ f ih =>
  intro j i h out res S hi ho hm
  unfold jQ at hm
  have hlen := oZ cK (s.drop i)
  have hd : (s.drop i).length = s.length - i := by simp
  refine bZl j (ll := fun n m => lD (aI n) n m (.p r 0) (.s out) h) (bb := fun n m => sD (aI n) n (lD (aI n) n m) (.p r 0) (.s out) h) (fun _ _ => rfl) ?_
  unfold sD
  refine wn (wf ?_); refine wq ?_
  refine cAi ?_
  refine bZe (oL (bQg I) S hs hb hi s.length hs) ?_
  rintro _ h1 ⟨rfl, S1⟩
  have e0 : bJ cK s.length (s.drop i) = ((s.drop i).takeWhile cK).length := pH _ _ _ (by simp)
  rw [e0] at S1 ⊢
  rw [oR]
  generalize hw : (s.drop i).takeWhile cK = w at hm S1 hlen ⊢
  simp only [bQ] at hs
  refine cAu (by omega) ?_
  refine wn (wf ?_); refine wq ?_; refine wn (wf ?_); refine wq ?_
  refine cAi ?_
  refine cAo (fun e1 => ?_) (fun e1 => ?_)
  ·refine yt ?_
   have e2 : w.length = (s.drop i).length := by omega
   rw [if_pos e2] at hm
   cases hm
   exact bZg ⟨rfl, by rw [← e2]; exact S1⟩
  ·have e2 : ¬ w.length = (s.drop i).length := by omega
   rw [if_neg e2] at hm
   refine yj (wn (wf ?_)); refine wq ?_
   refine bZo ?_
   rw [vR 1 (by omega)]
   refine wn (wf ?_); refine wv fun _ _ => ?_
   rename_i h2 S2
   refine bZe (jE S2 hs (by omega) 0 (by omega)) ?_
   rintro _ _ ⟨rfl, rfl⟩
   have e3 : wL s (i + w.length + 1 + 0) = nx (s.drop i) (w.length + 1) := by rw [show i + w.length + 1 + 0 = i + (w.length + 1) by omega, jH]
   rw [e3]
   refine bZy (fun e4 => ?_) (fun e4 => ?_)
   ·refine yt ?_
    rw [if_neg (show ¬ nx (s.drop i) (w.length + 1) = 39 by simp at e4; omega)] at hm
    cases hm
    exact bZg ⟨rfl, S2⟩
   ·have e5 : nx (s.drop i) (w.length + 1) = 39 := by simp at e4; omega
    rw [if_pos e5] at hm
    obtain ⟨res', hr, hm⟩ := bC hm
    simp only [bB] at hm
    subst hm
    have e6 : i + w.length + 2 ≤ s.length := by
     have : w.length + 1 < (s.drop i).length := by
      apply Decidable.byContradiction
      intro hn
      rw [nx, List.getD, List.getElem?_eq_none (by omega)] at e5
      cases e5
     omega
    refine yj ?_
    refine cAu (by simp; omega) ?_
    refine wn (wf ?_); refine wq ?_
    refine bZo ?_
    rw [vR 1 (by omega)]
    refine wn (wf ?_); refine wv fun _ _ => ?_
    refine (ih (j + 1) (i + w.length + 1 + 1) _ (out ++ w ++ [39]) res' (by assumption) (by omega) (by simp; omega) ?_).mono ?_
    ·rw [← hr, List.drop_drop]
     congr 2
    ·rintro v h' ⟨rfl, S'⟩
     refine ⟨rfl, ?_⟩
     have e7 : i + w.length + 1 + 1 + res'.2.2 = i + (res'.2.2 + (w.length + 2)) := by omega
     rw [← e7]; exact S'
theorem bGb (S : Sy I A [RS r s i] L h) (hs : s.length ≤ bQ) (hb : ∀ c ∈ s, c < 256) (hi : i ≤ s.length) (f : Nat) (res : List Nat × Int × Nat) (hm : jQ f [] (s.drop i) = some res) :
 Ev (fun n => aI n 112 [.p r 0] h) (fun v h' => v = .t [.s res.1, .i .i64 res.2.1] ∧ Sy I A [RS r s (i + res.2.2)] L h') := by
 refine Ev.enter (fun n => aRq n _ h) ?_
 unfold s112 zA zF aGg
 exact aNi hs hb f 0 i h [] res S hi (by simp) hm
end
end Go.Dd

namespace Go.Dd
open Go.Proofs
def bA (f : Nat) (u : List Nat) : Option (Int × List Nat × Int × Int × Nat) :=
 if bK (nx u 0) then
  if (aL u).2.1 = 0 then
   if cT (u.drop (aL u).2.2) then some (2, (aL u).1 ++ [58], 0, 0, (aL u).2.2 + 1) else some (1, (aL u).1, 0, 0, (aL u).2.2)
  else some (1, (aL u).1, 0, (aL u).2.1, (aL u).2.2)
 else if aW (nx u 0) then some (4, [], (dE u).1, (dE u).2.1, (dE u).2.2)
 else if nx u 0 = 39 then (jQ f [] (u.drop 1)).bind fun r => some (5, r.1, 0, r.2.1, r.2.2 + 1)
 else if nx u 0 = 35 then
  if nx u 1 = 40 then some (7, [], 0, 0, 2) else (dS f (u.drop 1)).bind fun r => some (6, r.1, 0, r.2.1, r.2.2 + 1)
 else if nx u 0 = 58 ∧ nx u 1 = 61 then some (9, [], 0, 0, 2)
 else if nx u 0 = 58 ∧ bK (nx u 1) then some (8, (aL (u.drop 1)).1, 0, (aL (u.drop 1)).2.1, (aL (u.drop 1)).2.2 + 1)
 else if cV signs (nx u 0) then some (3, u.take (bJ (cV signs) 2 u), 0, 0, bJ (cV signs) 2 u)
 else if cV dQ (nx u 0) then some (10, u.take (bJ (cV dQ) 1 u), 0, 0, bJ (cV dQ) 1 u)
 else some (0, [], 0, 10, 0)
def iY (g : Nat) (s : List Nat) : Nat → Nat → List Tok → Option (List Tok × Int × Int)
 | 0, _, _ => none
 | f + 1, i, out =>
  if s.length ≤ i + ((s.drop i).takeWhile (cV cG)).length then some (out ++ [⟨0, [], 0, (s.length : Int)⟩], 0, 0)
  else if nx s (i + ((s.drop i).takeWhile (cV cG)).length) = 34 then
   if cX 34 (s.drop (i + ((s.drop i).takeWhile (cV cG)).length + 1)) 0 < 0 then some ([], ((i + ((s.drop i).takeWhile (cV cG)).length : Nat) : Int), 11)
   else iY g s f (i + ((s.drop i).takeWhile (cV cG)).length + (cX 34 (s.drop (i + ((s.drop i).takeWhile (cV cG)).length + 1)) 0).toNat + 2) out
  else (bA g (s.drop (i + ((s.drop i).takeWhile (cV cG)).length))).bind fun r =>
   if r.2.2.2.1 = 0 then if (s.drop (i + ((s.drop i).takeWhile (cV cG)).length)).length < r.2.2.2.2 then none else iY g s f (i + ((s.drop i).takeWhile (cV cG)).length + r.2.2.2.2) (out ++ [⟨r.1, r.2.1, r.2.2.1, ((i + ((s.drop i).takeWhile (cV cG)).length : Nat) : Int)⟩])
   else some ([], ((i + ((s.drop i).takeWhile (cV cG)).length : Nat) : Int), r.2.2.2.1)
def nD (g f : Nat) (s : List Nat) : Option (List Tok × Int × Int) := if 2000 < s.length then some ([], 0, 12) else iY g s f 0 []
theorem kF (u : List Nat) : (aL u).1.length ≤ (aL u).2.2 := by
 unfold aL
 split <;> simp
section
variable {I : Im} {A L : Ls} {h : Hp} {r : Pos} {s : List Nat} {i : Nat}
theorem aSd (hs : s.length ≤ bQ) (hb : ∀ c ∈ s, c < 256) : ∀ (f j i : Nat) (h : Hp) (out : List Nat) (res : List Nat × Int × Nat), Sy I A [RS r s i] L h → i ≤ s.length → out.length ≤ 3 * i → nF f out (s.drop i) = some res →
 Ev (fun n => lB (aI n) n (n - j) (.p r 0) (.s out) h) (fun v h' => v = .t [.s res.1, .i .i64 res.2.1] ∧ Sy I A [RS r s (i + res.2.2)] L h') := by
 intro f
 induction f with
 | zero => intro j i h out res S hi ho hm; cases hm
 | succ f ih =>
  intro j i h out res S hi ho hm
  unfold nF at hm
  refine bZl j (ll := fun n m => lB (aI n) n m (.p r 0) (.s out) h) (bb := fun n m => rN (aI n) n (lB (aI n) n m) (.p r 0) (.s out) h) (fun _ _ => rfl) ?_
  unfold rN eV
  refine bZe (jE S hs hi 0 (by omega)) ?_
  rintro _ _ ⟨rfl, rfl⟩
  rw [jH]
  refine bZe (kR _ _) ?_
  rintro _ _ ⟨rfl, rfl⟩
  cases e1 : bK (nx (s.drop i) 0) with
  | false =>
   refine yj ?_
   rw [if_neg (by simp [e1])] at hm
   cases hm
   exact bZg ⟨rfl, S⟩
  | true =>
   rw [if_pos e1] at hm
   refine yt (wn (wf ?_)); refine wq ?_
   refine bZe (aIp S hs hb hi) ?_
   rintro _ _ ⟨rfl, S1⟩
   have hn := jM (s.drop i)
   have hn1 := kF (s.drop i)
   have hd : (s.drop i).length = s.length - i := by simp
   have hdd : s.drop (i + (aL (s.drop i)).2.2) = (s.drop i).drop (aL (s.drop i)).2.2 := by rw [List.drop_drop]
   generalize hN : aL (s.drop i) = N at hm S1 hn hn1 hdd ⊢
   refine wx ?_; refine wx ?_
   refine bZe (aGw S1 hs (by omega)) ?_
   rintro _ _ ⟨rfl, S2⟩
   rw [hdd] at S2 ⊢
   cases e2 : cT ((s.drop i).drop N.2.2) with
   | false =>
    rw [e2] at hm S2
    simp only [Bool.false_eq_true, if_false, bB] at hm
    subst hm
    refine ao (yt (wn (wf ?_))); refine wv fun _ _ => ?_
    exact bZg ⟨rfl, by assumption⟩
   | true =>
    rw [if_pos e2] at hm
    rw [e2, if_pos rfl] at S2
    have hc := iQ e2
    have hc2 : i + N.2.2 + 1 ≤ s.length := by simp at hc; omega
    refine an (yj ?_)
    refine bZy (fun e3 => ?_) (fun e3 => ?_)
    ·rw [if_neg (show ¬ N.2.1 = 0 from e3)] at hm
     cases hm
     refine yt ?_
     exact bZg ⟨rfl, S2⟩
    ·rw [if_pos (show N.2.1 = 0 from e3)] at hm
     obtain ⟨res', hr, hm⟩ := bC hm
     simp only [bB] at hm
     subst hm
     simp only [bQ] at hs
     refine yj ?_
     refine cAu (by simp; omega) ?_
     refine cAu (by simp; omega) ?_
     refine (ih (j + 1) (i + N.2.2 + 1) _ (out ++ (N.1 ++ [58])) res' S2 hc2 (by simp; omega) ?_).mono ?_
     ·rw [← hr, List.drop_drop, Nat.add_assoc]
     ·rintro v h' ⟨rfl, S'⟩
      refine ⟨rfl, ?_⟩
      have e7 : i + N.2.2 + 1 + res'.2.2 = i + (res'.2.2 + (N.2.2 + 1)) := by omega
      rw [← e7]; exact S'
theorem aNx (S : Sy I A [RS r s i] L h) (hs : s.length ≤ bQ) (hb : ∀ c ∈ s, c < 256) (hi : i ≤ s.length) (f : Nat) (res : List Nat × Int × Nat) (hm : dS f (s.drop i) = some res) :
 Ev (fun n => aI n 113 [.p r 0] h) (fun v h' => v = .t [.s res.1, .i .i64 res.2.1] ∧ ∃ J, ILe I J ∧ Sy J A [RS r s (i + res.2.2)] L h') := by
 refine Ev.enter (fun n => aZh n _ h) ?_
 unfold dS at hm
 unfold s113 xW
 refine bZe (wS S signs) ?_
 rintro cl h1 ⟨J, gJ, S1, C1⟩
 refine bZe (oL C1 S1 hs hb hi 2 (by simp [bQ])) ?_
 rintro _ h2 ⟨rfl, S2⟩
 have hd : (s.drop i).length = s.length - i := by simp
 have hr := pD (cV signs) 2 (s.drop i)
 refine cBu (fun e1 => ?_) (fun e1 => ?_)
 ·refine yt ?_
  have e2 : ¬ bJ (cV signs) 2 (s.drop i) = 0 := fun e => e1 (by rw [e]; rfl)
  rw [if_neg e2] at hm
  cases hm
  exact bZg ⟨rfl, J, gJ, S2⟩
 ·have e2 : bJ (cV signs) 2 (s.drop i) = 0 := by
   have := congrArg List.length e1
   rw [List.length_take] at this
   simp only [List.length_nil] at this
   omega
  rw [if_pos e2] at hm
  rw [e2, Nat.add_zero] at S2
  refine yj ?_
  unfold yD
  refine bZe (jE S2 hs hi 0 (by omega)) ?_
  rintro _ _ ⟨rfl, rfl⟩
  rw [jH]
  refine bZe (kR _ _) ?_
  rintro _ _ ⟨rfl, rfl⟩
  cases e3 : bK (nx (s.drop i) 0) with
  | false =>
   refine ao (yt ?_)
   rw [if_neg (by simp [e3])] at hm
   cases hm
   exact bZg ⟨rfl, J, gJ, S2⟩
  | true =>
   rw [if_pos e3] at hm
   refine an (yj ?_)
   unfold aAs
   refine bZe (aIp S2 hs hb hi) ?_
   rintro _ _ ⟨rfl, S3⟩
   have hn := jM (s.drop i)
   have hn1 := kF (s.drop i)
   have hdd : s.drop (i + (aL (s.drop i)).2.2) = (s.drop i).drop (aL (s.drop i)).2.2 := by rw [List.drop_drop]
   generalize hN : aL (s.drop i) = N at hm S3 hn hn1 hdd ⊢
   refine wx ?_; refine wx ?_
   unfold aAb
   refine bZy (fun e4 => ?_) (fun e4 => ?_)
   ·rw [if_neg (show ¬ N.2.1 = 0 from e4)] at hm
    cases hm
    refine yg (yg (yg (ap (yt ?_))))
    exact bZg ⟨rfl, J, gJ, S3⟩
   ·rw [if_pos (show N.2.1 = 0 from e4)] at hm
    refine zf (wm (zf ?_))
    refine bZe (aGw S3 hs (by omega)) ?_
    rintro _ _ ⟨rfl, S4⟩
    rw [hdd] at S4 ⊢
    cases e5 : cT ((s.drop i).drop N.2.2) with
    | false =>
     rw [e5] at hm S4
     simp only [Bool.false_eq_true, if_false, bB] at hm
     subst hm
     refine zf (ao (aq (yt ?_)))
     refine bZg ⟨?_, J, gJ, S4⟩
     rw [show N.2.1 = 0 from e4]
    | true =>
     rw [e5] at hm S4
     simp only [if_true] at hm
     rw [if_pos rfl] at S4
     obtain ⟨res', hr', hm⟩ := bC hm
     simp only [bB] at hm
     subst hm
     have hc := iQ e5
     have hc2 : i + N.2.2 + 1 ≤ s.length := by simp at hc; omega
     have hs' := hs
     simp only [bQ] at hs
     refine zf (an (aq (yj ?_)))
     unfold aAo yB aFo
     refine cAu (by simp; omega) ?_
     refine (aSd hs' hb f 0 (i + N.2.2 + 1) _ (N.1 ++ [58]) res' S4 hc2 (by simp; omega) ?_).mono ?_
     ·rw [← hr', List.drop_drop, Nat.add_assoc]
     ·rintro v h' ⟨rfl, S'⟩
      refine ⟨rfl, J, gJ, ?_⟩
      have e7 : i + N.2.2 + 1 + res'.2.2 = i + (res'.2.2 + (N.2.2 + 1)) := by omega
      rw [← e7]; exact S'
end
end Go.Dd

namespace Go.Dd
open Go.Proofs
section
variable {I : Im} {A L : Ls} {h : Hp} {r : Pos} {s : List Nat} {i : Nat}
theorem bNy (S : Sy I A [RS r s i] L h) (hs : s.length ≤ bQ) (hb : ∀ c ∈ s, c < 256) (hi : i < s.length) (f : Nat) (res : Int × List Nat × Int × Int × Nat) (hm : bA f (s.drop i) = some res) :
 Ev (fun n => aI n 76 [.p r 0] h) (fun v h' => v = .t [.a (tc ⟨res.1, res.2.1, res.2.2.1, (i : Int)⟩), .i .i64 res.2.2.2.1] ∧ ∃ J, ILe I J ∧ Sy J A [RS r s (i + res.2.2.2.2)] L h') := by
 refine Ev.enter (fun n => bDm n _ h) ?_
 unfold bA at hm
 unfold s76 bIp
 refine wa fun _ _ _ => ?_; refine wn (wf ?_); refine wq ?_; refine wd ?_; refine wa fun _ _ _ => ?_; refine wt fun _ _ => ?_
 unfold bJh bJn
 rename_i h0 S0
 have hd : (s.drop i).length = s.length - i := by simp
 have hs' := hs
 simp only [bQ] at hs'
 have hcd : s.drop i = s[i] :: s.drop (i + 1) := List.drop_eq_getElem_cons hi
 have hn0 : nx (s.drop i) 0 < 256 := by rw [hcd]; exact hb _ (List.getElem_mem hi)
 refine bZe (jE S0 hs (by omega) 0 (by omega)) ?_
 rintro _ _ ⟨rfl, rfl⟩
 rw [jH]
 unfold bJc
 refine bZe (kR _ _) ?_
 rintro _ _ ⟨rfl, rfl⟩
 cases e1 : bK (nx (s.drop i) 0) with
 | true =>
  rw [if_pos e1] at hm
  refine yt (wf ?_); refine wu fun _ _ => ?_
  refine bZe (aIp (by assumption) hs hb (by omega)) ?_
  rintro _ _ ⟨rfl, S1⟩
  have hn := jM (s.drop i)
  have hn1 := kF (s.drop i)
  have hdd : s.drop (i + (aL (s.drop i)).2.2) = (s.drop i).drop (aL (s.drop i)).2.2 := by rw [List.drop_drop]
  generalize hN : aL (s.drop i) = N at hm S1 hn hn1 hdd ⊢
  refine wx ?_; refine wx ?_; refine wf ?_; refine wu fun _ _ => ?_
  unfold fB
  refine bZj (fun e2 => ?_) (fun e2 => ?_)
  ·rw [if_pos (show N.2.1 = 0 from e2)] at hm
   refine zt (wm (zt ?_))
   refine bZe (aGw (by assumption) hs (by omega)) ?_
   rintro _ _ ⟨rfl, S2⟩
   rw [hdd] at S2 ⊢
   cases e3 : cT ((s.drop i).drop N.2.2) with
   | true =>
    rw [e3] at hm S2
    simp only [if_true, bB] at hm
    subst hm
    rw [if_pos rfl] at S2
    refine ap (yt (wf ?_)); refine wl ?_
    refine cAu (by simp; omega) ?_
    refine wf ?_; refine wu fun _ _ => ?_; refine wf ?_; refine wu fun _ _ => ?_; refine ws ?_; refine wt fun _ _ => ?_; refine ws ?_
    refine bZg ⟨?_, I, ILe.refl _, dp⟩
    rw [show N.2.1 = 0 from e2]; rfl
   | false =>
    rw [e3] at hm S2
    simp only [Bool.false_eq_true, if_false, bB] at hm
    subst hm
    refine ap (yj ?_); refine ws ?_; refine wt fun _ _ => ?_; refine ws ?_
    refine bZg ⟨?_, I, ILe.refl _, dp⟩
    rw [show N.2.1 = 0 from e2]; rfl
  ·rw [if_neg (show ¬ N.2.1 = 0 from e2)] at hm
   cases hm
   refine yf (yf (aq (yj ?_))); refine ws ?_; refine wt fun _ _ => ?_; refine ws ?_
   exact bZg ⟨rfl, I, ILe.refl _, dp⟩
 | false =>
 rw [if_neg (by simp [e1])] at hm
 refine yj ?_
 refine bZe (tA _ _) ?_
 rintro _ _ ⟨rfl, rfl⟩
 cases e2 : aW (nx (s.drop i) 0) with
 | true =>
  rw [if_pos e2] at hm
  cases hm
  refine yt (wf ?_); refine wu fun _ _ => ?_
  refine bZe (bKn (by assumption) hs hb (by omega)) ?_
  rintro _ _ ⟨rfl, S1⟩
  refine wx ?_; refine wx ?_; refine wf ?_; refine wu fun _ _ => ?_
  unfold fB
  refine ws ?_; refine wt fun _ _ => ?_; refine ws ?_
  exact bZg ⟨rfl, I, ILe.refl _, dp⟩
 | false =>
 rw [if_neg (by simp [e2])] at hm
 refine yj ?_
 refine bZj (fun e3 => ?_) (fun e3 => ?_)
 ·rw [if_pos (show nx (s.drop i) 0 = 39 by simp at e3; omega)] at hm
  obtain ⟨res', hr, hm⟩ := bC hm
  simp only [bB] at hm
  subst hm
  refine yt (wn (wf ?_)); refine wq ?_
  refine bZo ?_
  rw [vR 1 (by omega)]
  refine wn (wf ?_); refine wv fun _ _ => ?_; refine wf ?_; refine wu fun _ _ => ?_
  refine bZe (bGb (by assumption) hs hb (by omega) f res' (by rw [← hr, List.drop_drop])) ?_
  rintro _ _ ⟨rfl, S1⟩
  refine wx ?_; refine wx ?_; refine wf ?_; refine wu fun _ _ => ?_
  unfold fB
  refine ws ?_; refine wt fun _ _ => ?_; refine ws ?_
  refine bZg ⟨rfl, I, ILe.refl _, ?_⟩
  rw [show i + (res'.2.2 + 1) = i + 1 + res'.2.2 by omega]
  exact dp
 rw [if_neg (show ¬ nx (s.drop i) 0 = 39 by simp at e3; omega)] at hm
 refine yj ?_
 refine bZj (fun e4 => ?_) (fun e4 => ?_)
 ·rw [if_pos (show nx (s.drop i) 0 = 35 by simp at e4; omega)] at hm
  refine zt (wm (zt ?_))
  refine bZe (jE (by assumption) hs (by omega) 1 (by omega)) ?_
  rintro _ _ ⟨rfl, rfl⟩
  rw [jH]
  refine zt ?_
  refine bZj (fun e5 => ?_) (fun e5 => ?_)
  ·have e5' : nx (s.drop i) 1 = 40 := by simp at e5; omega
   rw [if_pos e5'] at hm
   cases hm
   refine ap (yt (wn (wf ?_))); refine wq ?_
   refine bZo ?_
   rw [vR 2 (by omega)]
   refine wn (wf ?_); refine wv fun _ _ => ?_; refine wf ?_; refine wu fun _ _ => ?_
   unfold fB
   refine ws ?_; refine wt fun _ _ => ?_; refine ws ?_
   exact bZg ⟨rfl, I, ILe.refl _, dp⟩
  ·rw [if_neg (show ¬ nx (s.drop i) 1 = 40 by simp at e5; omega)] at hm
   obtain ⟨res', hr, hm⟩ := bC hm
   simp only [bB] at hm
   subst hm
   refine ap (yj ?_)
   refine bZj (fun e6 => ?_) (fun e6 => absurd e4 e6)
   refine yt (wn (wf ?_)); refine wq ?_
   refine bZo ?_
   rw [vR 1 (by omega)]
   refine wn (wf ?_); refine wv fun _ _ => ?_; refine wf ?_; refine wu fun _ _ => ?_
   refine bZe (aNx (by assumption) hs hb (by omega) f res' (by rw [← hr, List.drop_drop])) ?_
   rintro _ _ ⟨rfl, J, gJ, S1⟩
   refine wx ?_; refine wx ?_; refine wf ?_; refine wu fun _ _ => ?_
   unfold fB
   refine ws ?_; refine wt fun _ _ => ?_; refine ws ?_
   refine bZg ⟨rfl, J, gJ, ?_⟩
   rw [show i + (res'.2.2 + 1) = i + 1 + res'.2.2 by omega]
   exact dp
 rw [if_neg (show ¬ nx (s.drop i) 0 = 35 by simp at e4; omega)] at hm
 refine yf (yf (yf (aq (yj ?_))))
 refine bZj (fun e6 => absurd e6 e4) (fun e6 => ?_)
 refine yj ?_
 have fin : ¬ (nx (s.drop i) 0 = 58 ∧ nx (s.drop i) 1 = 61) → ¬ (nx (s.drop i) 0 = 58 ∧ bK (nx (s.drop i) 1) = true) → ∀ (h' : Hp) (b2 b4 : Pos),
  Sy I A [RS r s i] ((b4, some (.row .ex [.i .i64 (Int.ofNat 0), .s [], .i .i64 (Int.ofNat 0), .i .i64 (i : Int)])) :: (b2, some (.row .ex [.i .i64 (Int.ofNat 0), .s [], .i .i64 (Int.ofNat 0), .i .i64 (Int.ofNat 0)])) :: L) h' →
  Ev (fun n => bnd (aI n 75 [.s [43, 45, 42, 47, 60, 62, 61, 126, 44, 64, 38, 37]] h') fun v111 h111 =>
   bnd (dM CF (aI n) v111 [.i .u8 (Int.ofNat (nx (s.drop i) 0))] h111) fun v112 h112 =>
   cB v112 (
    bnd (aI n 75 [.s [43, 45, 42, 47, 60, 62, 61, 126, 44, 64, 38, 37]] h112) fun v113 h113 =>
    bnd (aI n 74 [.p r 0, v113, .i .i64 (Int.ofNat 2)] h113) fun v114 h114 =>
    bnd (aA 0 (.p b4 0) h114) fun v115 h115 =>
    bnd (aC 1 v115 (.i .i64 (Int.ofNat 3)) h115) fun _ h116 =>
    bnd (aA 1 (.p b4 0) h116) fun v117 h117 =>
    bnd (aC 1 v117 v114 h117) fun _ h118 =>
    fB (aI n) n (.p b2 0) (.p b4 0) (.i .i64 (Int.ofNat 0)) h118) (
    bnd (aI n 75 [.s [94, 46, 59, 40, 41, 91, 93, 124]] h112) fun v119 h119 =>
    bnd (dM CF (aI n) v119 [.i .u8 (Int.ofNat (nx (s.drop i) 0))] h119) fun v120 h120 =>
    cB v120 (
     bnd (aI n 75 [.s [94, 46, 59, 40, 41, 91, 93, 124]] h120) fun v121 h121 =>
     bnd (aI n 74 [.p r 0, v121, .i .i64 (Int.ofNat 1)] h121) fun v122 h122 =>
     bnd (aA 0 (.p b4 0) h122) fun v123 h123 =>
     bnd (aC 1 v123 (.i .i64 (Int.ofNat 10)) h123) fun _ h124 =>
     bnd (aA 1 (.p b4 0) h124) fun v125 h125 =>
     bnd (aC 1 v125 v122 h125) fun _ h126 =>
     fB (aI n) n (.p b2 0) (.p b4 0) (.i .i64 (Int.ofNat 0)) h126) (
     fB (aI n) n (.p b2 0) (.p b4 0) (.i .i64 (Int.ofNat 10)) h120)))
   (fun v h' => v = .t [.a (tc ⟨res.1, res.2.1, res.2.2.1, (i : Int)⟩), .i .i64 res.2.2.2.1] ∧ ∃ J, ILe I J ∧ Sy J A [RS r s (i + res.2.2.2.2)] L h') := by
  intro n1 n2 h' b2 b4 S'
  rw [if_neg n1, if_neg n2] at hm
  refine bZe (wS S' signs) ?_
  rintro cl h1 ⟨J, gJ, S1, C1⟩
  refine bZe (C1 J _ _ _ _ _ (ILe.refl _) S1 hn0) ?_
  rintro _ _ ⟨rfl, rfl⟩
  cases e7 : cV signs (nx (s.drop i) 0) with
  | true =>
   rw [if_pos e7] at hm
   cases hm
   refine yt ?_
   refine bZe (wS S1 signs) ?_
   rintro cl2 h2 ⟨K, gK, S2, C2⟩
   refine bZe (oL C2 S2 hs hb (by omega) 2 (by simp [bQ])) ?_
   rintro _ h3 ⟨rfl, S3⟩
   refine wf ?_; refine wu fun _ _ => ?_; refine wf ?_; refine wu fun _ _ => ?_
   unfold fB
   refine ws ?_; refine wt fun _ _ => ?_; refine ws ?_
   exact bZg ⟨rfl, K, gJ.trans gK, dp⟩
  | false =>
   rw [if_neg (by simp [e7])] at hm
   refine yj ?_
   refine bZe (wS S1 dQ) ?_
   rintro cl2 h2 ⟨K, gK, S2, C2⟩
   refine bZe (C2 K _ _ _ _ _ (ILe.refl _) S2 hn0) ?_
   rintro _ _ ⟨rfl, rfl⟩
   cases e8 : cV dQ (nx (s.drop i) 0) with
   | true =>
    rw [if_pos e8] at hm
    cases hm
    refine yt ?_
    refine bZe (wS S2 dQ) ?_
    rintro cl3 h3 ⟨M, gM, S3, C3⟩
    refine bZe (oL C3 S3 hs hb (by omega) 1 (by simp [bQ])) ?_
    rintro _ h4 ⟨rfl, S4⟩
    refine wf ?_; refine wu fun _ _ => ?_; refine wf ?_; refine wu fun _ _ => ?_
    unfold fB
    refine ws ?_; refine wt fun _ _ => ?_; refine ws ?_
    exact bZg ⟨rfl, M, (gJ.trans gK).trans gM, dp⟩
   | false =>
    rw [if_neg (by simp [e8])] at hm
    cases hm
    refine yj ?_
    unfold fB
    refine ws ?_; refine wt fun _ _ => ?_; refine ws ?_
    exact bZg ⟨rfl, K, gJ.trans gK, dp⟩
 refine bZj (fun e7 => ?_) (fun e7 => ?_)
 ·have e7' : nx (s.drop i) 0 = 58 := by simp at e7; omega
  refine zt (wm (zt ?_))
  refine bZe (jE (by assumption) hs (by omega) 1 (by omega)) ?_
  rintro _ _ ⟨rfl, rfl⟩
  rw [jH]
  refine zt ?_
  refine bZj (fun e8 => ?_) (fun e8 => ?_)
  ·have e8' : nx (s.drop i) 1 = 61 := by simp at e8; omega
   rw [if_pos ⟨e7', e8'⟩] at hm
   cases hm
   refine ap (yt (wn (wf ?_))); refine wq ?_
   refine bZo ?_
   rw [vR 2 (by omega)]
   refine wn (wf ?_); refine wv fun _ _ => ?_; refine wf ?_; refine wu fun _ _ => ?_
   unfold fB
   refine ws ?_; refine wt fun _ _ => ?_; refine ws ?_
   exact bZg ⟨rfl, I, ILe.refl _, dp⟩
  ·have e8' : ¬ nx (s.drop i) 1 = 61 := by simp at e8; omega
   refine ap (yj ?_)
   refine bZj (fun e9 => ?_) (fun e9 => absurd e7 e9)
   refine zt (wm (zt ?_))
   refine bZe (jE (by assumption) hs (by omega) 1 (by omega)) ?_
   rintro _ _ ⟨rfl, rfl⟩
   rw [jH]
   refine zt ?_
   refine bZe (kR _ _) ?_
   rintro _ _ ⟨rfl, rfl⟩
   cases e10 : bK (nx (s.drop i) 1) with
   | true =>
    rw [if_neg (fun q => e8' q.2), if_pos ⟨e7', e10⟩] at hm
    cases hm
    refine ap (yt (wn (wf ?_))); refine wq ?_
    refine bZo ?_
    rw [vR 1 (by omega)]
    refine wn (wf ?_); refine wv fun _ _ => ?_; refine wf ?_; refine wu fun _ _ => ?_
    refine bZe (aIp (by assumption) hs hb (by omega)) ?_
    rintro _ _ ⟨rfl, S1⟩
    have hdd : s.drop (i + 1) = (s.drop i).drop 1 := by rw [List.drop_drop]
    rw [hdd] at S1 ⊢
    refine wx ?_; refine wx ?_; refine wf ?_; refine wu fun _ _ => ?_
    unfold fB
    refine ws ?_; refine wt fun _ _ => ?_; refine ws ?_
    refine bZg ⟨rfl, I, ILe.refl _, ?_⟩
    rw [show i + ((aL ((s.drop i).drop 1)).2.2 + 1) = i + 1 + (aL ((s.drop i).drop 1)).2.2 by omega]
    exact dp
   | false =>
    have F := fin (fun q => e8' q.2) (fun q => by rw [e10] at q; exact absurd q.2 (by simp)) _ _ _ S0
    refine ap (yj ?_)
    exact F
 ·have e7' : ¬ nx (s.drop i) 0 = 58 := by simp at e7; omega
  refine yf (yf (yf (aq (yj ?_))))
  refine bZj (fun e9 => absurd e9 e7) (fun e9 => ?_)
  have F := fin (fun q => e7' q.1) (fun q => e7' q.1) _ _ _ S0
  refine yf (yf (yf (aq (yj ?_))))
  exact F
end
theorem mM (c : Nat) : ∀ (l : List Nat) (i : Nat), ¬ cX c l i < 0 → ∃ k : Nat, k < l.length ∧ cX c l i = ((i + k : Nat) : Int)
 | [], i, h => absurd (by show Int.negSucc 0 < 0; decide) h
 | x :: l, i, h => by
  unfold cX at h ⊢
  cases e : Nat.beq x c with
  | true => exact ⟨0, by simp, by simp⟩
  | false =>
   rw [e] at h
   obtain ⟨k, h1, h2⟩ := mM c l (i + 1) h
   refine ⟨k + 1, by simpa using h1, ?_⟩
   simp only [cond_false, h2]
   omega
theorem aMq {I : Im} {B A Q L : Ls} {h : Hp} {x : DV} {l : List Tok} (G : Gr I 4 B x l.length (l.map tc).flatten) {t : Tok} {b : Pos} (S : Sy I (B ++ A) Q L h) (m : (b, some (.row .ex (tc t))) ∈ L) (hl : l.length + 1 ≤ bQ) :
 ∃ x' h' B', bH 4 40 x (.l b 0 1 1) h = some (x', h') ∧ Sy I (B' ++ A) Q L h' ∧ Gr I 4 B' x' (l ++ [t]).length ((l ++ [t]).map tc).flatten := by
 have hr : (l.length + 1) * 40 ≤ gW := by simp [gW, bQ] at hl ⊢; omega
 obtain ⟨x4, h4, B4, e4, S4, G4⟩ := G.app S (oQ S (n := 1) m rfl (dX t)) rfl (dX t) (by omega) hr
 exact ⟨x4, h4, B4, e4, S4, by simpa using G4⟩
theorem bJv (t : Tok) : cM [(.i .i64 (Int.ofNat 0)), (.s []), (.i .i64 (Int.ofNat 0)), (.i .i64 (Int.ofNat 0))] [(0, 4, .a (tc t))] = some (tc t) := by
 simp [cM, cF, tc]
def bJd (I : Im) (A Q L : Ls) (res : List Tok × Int × Int) (v : DV) (h : Hp) : Prop :=
 ∃ J x, v = .t [x, .i .i64 res.2.1, .i .i64 res.2.2] ∧ ILe I J ∧ Sy J A Q L h ∧ TS' J x res.1
theorem TS'.nil (I : Im) : TS' I .l0 [] := ⟨by simp, .inl ⟨.inl rfl, rfl, rfl⟩⟩
theorem aNw {A L : Ls} {s : List Nat} (hs : s.length ≤ bQ) (hb : ∀ c ∈ s, c < 256) (g : Nat) {r : Pos} : ∀ (f j i : Nat) (I : Im) (B : Ls) (h : Hp) (x : DV) (out : List Tok) (res : List Tok × Int × Int), Sy I (B ++ A) [RS r s i] L h → Gr I 4 B x out.length (out.map tc).flatten →
 i ≤ s.length → out.length + f ≤ bQ → iY g s f i out = some res →
 Ev (fun n => nU (aI n) n (n - j) (.s s) (.p r 0) x h) (bJd I A [] L res) := by
 intro f
 induction f with
 | zero => intro j i I B h x out res S G hi hl hm; cases hm
 | succ f ih =>
  intro j i I B h x out res S G hi hl hm
  unfold iY at hm
  refine bZl j (ll := fun n m => nU (aI n) n m (.s s) (.p r 0) x h) (bb := fun n m => aBj (aI n) n (nU (aI n) n m) (.s s) (.p r 0) x h) (fun _ _ => rfl) ?_
  unfold aBj
  refine bZe (wS S cG) ?_
  rintro cl h1 ⟨J, gJ, S1, C1⟩
  refine cAi ?_
  refine bZe (oL C1 S1 hs hb hi s.length hs) ?_
  rintro _ h2 ⟨rfl, S2⟩
  have e0 : bJ (cV cG) s.length (s.drop i) = ((s.drop i).takeWhile (cV cG)).length := pH _ _ _ (by simp)
  rw [e0] at S2
  have hle := oZ (cV cG) (s.drop i)
  have hdl : (s.drop i).length = s.length - i := by simp
  generalize hw : ((s.drop i).takeWhile (cV cG)).length = w at hm S2 hle
  have hi2 : i + w ≤ s.length := by omega
  generalize hi3 : i + w = i' at hm S2 hi2
  have hdrop : ∀ {K : Im} {e : Pos × Option Ob} {M : Ls} {h'' : Hp}, Sy K A [e] M h'' → Sy K A [] M h'' := fun S => Sy.dropL (cCz (Q := []) S)
  have hs' := hs
  simp only [bQ] at hs'
  refine wn (wf ?_); refine wq ?_
  refine cAi ?_
  refine cAo (fun e1 => ?_) (fun e1 => ?_)
  ·have e1' : s.length ≤ i' := by omega
   rw [if_pos e1'] at hm
   cases hm
   refine yt ?_
   unfold iC
   refine cAi ?_
   refine wd ?_
   refine cAb S2 (bJv ⟨0, [], 0, (s.length : Int)⟩) ?_
   intro b3 h3 S3
   obtain ⟨x4, h4, B4, e4, S4, G4⟩ := aMq (G.mono gJ) S3 (eG) (by omega)
   refine Ev.op e4 ?_
   obtain ⟨K, gK, S5, F5⟩ := G4.freeze S4
   exact bZg ⟨K, x4, rfl, gJ.trans gK, hdrop S5.dropL, by simp; omega, F5⟩
  ·have e1' : i' < s.length := by omega
   rw [if_neg (by omega)] at hm
   refine yj (wn (wf ?_)); refine wq ?_
   refine Ev.op (bNx (c := s[i']) (by simp [e1']) _) ?_
   have hnx : nx s i' = s[i'] := by simp [nx, List.getD, e1']
   refine bZj (fun e2 => ?_) (fun e2 => ?_)
   ·have e2' : nx s i' = 34 := by rw [hnx]; simp at e2; omega
    rw [if_pos e2'] at hm
    refine yt (wn (wf ?_)); refine wq ?_
    refine bZo ?_
    rw [vR 1 (by omega)]
    refine Ev.op (bWi (by omega) _) ?_
    refine bZe (uW _ 34 (by omega) _) ?_
    rintro _ _ ⟨rfl, rfl⟩
    refine cAa (fun e3 => ?_) (fun e3 => ?_)
    ·rw [if_pos (show cX 34 (s.drop (i' + 1)) 0 < 0 from e3)] at hm
     cases hm
     refine yt (wn (wf ?_)); refine wq ?_
     obtain ⟨K, gK, S5, F5⟩ := (G.mono gJ).freeze S2
     exact bZg ⟨K, .l0, rfl, gJ.trans gK, hdrop S5, TS'.nil K⟩
    ·have e3' : ¬ cX 34 (s.drop (i' + 1)) 0 < 0 := e3
     rw [if_neg e3'] at hm
     obtain ⟨k, hk1, hk2⟩ := mM 34 _ _ e3'
     rw [hk2] at hm ⊢
     have hk3 : k < s.length - (i' + 1) := by simpa using hk1
     simp only [Nat.zero_add, Int.toNat_natCast] at hm
     refine yj (wn (wf ?_)); refine wq ?_
     refine bZo ?_
     rw [Nat.zero_add, vR 2 (by omega)]
     refine bZo ?_
     rw [show (i' : Int) + ((k + 2 : Nat) : Int) = ((i' + k + 2 : Nat) : Int) by omega, xF _ (by omega)]
     refine wn (wf ?_); refine wv fun _ _ => ?_
     refine (ih (j + 1) (i' + k + 2) J B _ x out res (by assumption) (G.mono gJ) (by omega) (by omega) hm).mono ?_
     rintro v h' ⟨K, y, a1, a2, a3⟩
     exact ⟨K, y, a1, gJ.trans a2, a3⟩
   ·have e2' : ¬ nx s i' = 34 := by rw [hnx]; simp at e2; omega
    rw [if_neg e2'] at hm
    obtain ⟨rs, hr, hm⟩ := bC hm
    refine yj ?_
    refine bZe (bNy S2 hs hb e1' g rs hr) ?_
    rintro _ h3 ⟨rfl, K, gK, S3⟩
    refine wx ?_; refine wx ?_; refine wa fun _ _ _ => ?_; refine wt fun _ _ => ?_
    refine bZy (fun e3 => ?_) (fun e3 => ?_)
    ·rw [if_neg (show ¬ rs.2.2.2.1 = 0 from e3)] at hm
     cases hm
     refine yt (wf ?_); refine wl ?_
     obtain ⟨M, gM, S5, F5⟩ := ((G.mono gJ).mono gK).freeze (by assumption)
     exact bZg ⟨M, .l0, rfl, (gJ.trans gK).trans gM, hdrop S5.dropL, TS'.nil M⟩
    ·rw [if_pos (show rs.2.2.2.1 = 0 from e3)] at hm
     split at hm
     ·cases hm
     ·rename_i hfit
      refine yj ?_; refine ws ?_
      refine cAb (by assumption) (bJv ⟨rs.1, rs.2.1, rs.2.2.1, (i' : Int)⟩) ?_
      intro b4 h4 S4
      obtain ⟨x5, h5, B5, e5, S5, G5⟩ := aMq ((G.mono gJ).mono gK) S4 (eG) (by omega)
      refine Ev.op e5 ?_
      refine (ih (j + 1) (i' + rs.2.2.2.2) K B5 h5 x5 _ res S5.dropL.dropL G5 (by simp at hfit; omega) (by simp; omega) hm).mono ?_
      rintro v h' ⟨M, y, a1, a2, a3⟩
      exact ⟨M, y, a1, (gJ.trans gK).trans a2, a3⟩
theorem bNs {I : Im} {A L : Ls} {h : Hp} (S : Sy I A [] L h) {s : List Nat} (hs : s.length ≤ bQ) (hb : ∀ c ∈ s, c < 256) (g f : Nat) (hf : f ≤ bQ) (res : List Tok × Int × Int) (hm : nD g f s = some res) :
 Ev (fun n => aI n 48 [.s s] h) (bJd I A [] L res) := by
 unfold nD at hm
 refine Ev.enter (fun n => bGx n _ h) ?_
 unfold s48 aMw
 refine cAi ?_
 refine cAw (fun e1 => ?_) (fun e1 => ?_)
 ·rw [if_pos (show 2000 < s.length by simp at e1; omega)] at hm
  cases hm
  refine yt ?_
  exact bZg ⟨I, .l0, rfl, ILe.refl _, S, TS'.nil I⟩
 ·rw [if_neg (show ¬ 2000 < s.length by simp at e1; omega)] at hm
  refine yj ?_
  unfold aJu aJn aKq aMd aOu
  refine wd ?_; refine wb fun _ _ _ => ?_
  rename_i r h1 S1
  exact aNw hs hb g f 0 0 I [] _ .l0 [] res (cCy S1) (Gr.nil I 4) (by omega) (by simpa using hf) hm
end Go.Dd

namespace Go.Dd
open Go.Proofs
def kA : Nat → List Nat → List (List Nat) → Bool → PSt → Option ((List Nat × List (List Nat)) × PSt)
 | 0, _, _, _, _ => none
 | f + 1, t, l, first, st => (if first then some true else dU st 2 []).bind fun c => if c then (bL st 2 []).bind fun r => if t.length + r.1.text.length ≤ bQ then (gN r.2 1 l.length).bind fun q => kA f (t ++ r.1.text) (l ++ [q.1]) false q.2 else none else some ((t, l), st)
def fY (f : Nat) (st : PSt) : Option ((List Nat × List (List Nat)) × PSt) :=
 (dU st 1 []).bind fun c => if c then (aV st).bind fun r => some ((r.1.text, []), r.2) else (dU st 3 []).bind fun c =>
  if c then (aV st).bind fun r => (gN r.2 1 0).bind fun q => some ((r.1.text, [q.1]), q.2) else kA f [] [] true st
def primT : List Nat := [112, 114, 105, 109, 105, 116, 105, 118, 101, 58]
def oU (st : PSt) : Option (Int × PSt) :=
 (dU st 3 [60]).bind fun c => if c then (aV st).bind fun r => (bL r.2 2 primT).bind fun a => (bL a.2 4 []).bind fun b =>
  (bL (if 255 < b.1.num then bV b.2 b.1 2 else b.2) 3 [62]).bind fun d => some (b.1.num, d.2) else some (0, st)
def kH (f : Nat) : PF := fun st => (fY f st).bind fun a => (oU a.2).bind fun b => some (.mk 11 a.1.1 b.1 a.1.2 [] [], b.2)
def rH : PF := fun st => some (.mk 11 [100, 111, 73, 116] 0 [] [] [], st)
def Node.with (x : Node) (ts : List (List Nat)) (ks : List Node) : Node := match x with
 | .mk k t m ns _ _ => .mk k t m ns ts ks
def fF (H : PF) (f : Nat) (lx : List Tok × Int × Int) : Option (Node × Int × Int) :=
 if lx.2.2 = 0 then (H ⟨lx.1, 0, 0, 0⟩).bind fun a => (fV f a.2).bind fun b => (cW (dO f) f [] b.2).bind fun c => (bL c.2 0 []).bind fun d =>
  if d.2.err = 0 then some (a.1.with b.1 c.1, 0, 0) else some (zN, d.2.pos, d.2.err)
 else some (zN, lx.2.1, lx.2.2)
theorem bBs (n : Nat) (x y : DV) (h : Hp) : aI (n + 1) 52 [x, y] h = s52 (aI n) n x y h := by kernel_rfl
theorem bCe (n : Nat) (x : DV) (h : Hp) : aI (n + 1) 53 [x] h = s53 (aI n) n x h := by kernel_rfl
theorem bDp (n : Nat) (x : DV) (h : Hp) : aI (n + 1) 29 [x] h = s29 (aI n) n x h := by kernel_rfl
theorem bGn (n : Nat) (x : DV) (h : Hp) : aI (n + 1) 27 [x] h = s27 (aI n) n x h := by kernel_rfl
theorem bDv (n : Nat) (x y : DV) (h : Hp) : aI (n + 1) 26 [x, y] h = s26 (aI n) n x y h := by kernel_rfl
theorem bCr (n : Nat) (x : DV) (h : Hp) : aI (n + 1) 14 [x] h = s14 (aI n) n x h := by kernel_rfl
theorem bCi (n : Nat) (x : DV) (h : Hp) : aI (n + 1) 17 [x] h = s17 (aI n) n x h := by kernel_rfl
theorem bOa (rec : FuncId → List DV → Hp → aG) (x : DV) (h : Hp) : dM CF rec (.f 27 [] []) [x] h = rec 27 [x] h := by kernel_rfl
theorem bLz (rec : FuncId → List DV → Hp → aG) (x : DV) (h : Hp) : dM CF rec (.f 29 [] []) [x] h = rec 29 [x] h := by kernel_rfl
theorem bDe : oO 27 rH := by
 intro I A L h p s st x st' S T hm
 cases hm
 refine Ev.enter (fun n => bGn n _ h) ?_
 unfold s27
 refine wa fun _ _ _ => ?_; refine wd ?_; refine wt fun _ _ => ?_; refine ws ?_
 exact bZg ⟨I, s, _, rfl, ILe.refl _, dp, T, NV.flat _ _ _⟩
theorem bBc {I : Im} {A L : Ls} {h : Hp} {p : Pos} {s : DV} {st : PSt} (S : Sy I A [PS p s st] L h) (T : TS' I s st.toks) {m : Int} {st' : PSt} (hm : oU st = some (m, st')) :
 Ev (fun n => aI n 53 [.p p 0] h) (fun v h' => v = .i .i64 m ∧ ∃ s', Sy I A [PS p s' st'] L h' ∧ TS' I s' st'.toks) := by
 unfold oU at hm
 obtain ⟨c, hc, hm⟩ := bC hm
 refine Ev.enter (fun n => bCe n _ h) ?_
 unfold s53 bIz
 refine bZe (eL S T hc) ?_
 rintro _ _ ⟨rfl, S1⟩
 cases c with
 | false =>
  simp only [Bool.false_eq_true, if_false, bB, bW] at hm
  obtain ⟨rfl, rfl⟩ := hm
  refine ao (yt ?_)
  exact bZg ⟨rfl, s, S1, T⟩
 | true =>
  rw [if_pos rfl] at hm
  obtain ⟨⟨t1, st1⟩, h1, hm⟩ := bC hm
  obtain ⟨⟨t2, st2⟩, h2, hm⟩ := bC hm
  obtain ⟨⟨t3, st3⟩, h3, hm⟩ := bC hm
  obtain ⟨⟨t4, st4⟩, h4, hm⟩ := bC hm
  simp only [bB, bW] at hm
  obtain ⟨rfl, rfl⟩ := hm
  refine an (yj ?_)
  unfold bJj
  refine bZe (cP S1 T h1) ?_
  rintro _ _ ⟨rfl, s2, S2, T2⟩
  unfold bKb
  refine bZe (gY S2 T2 h2) ?_
  rintro _ _ ⟨rfl, s3, S3, T3⟩
  unfold bJo
  refine bZe (gY S3 T3 h3) ?_
  rintro _ _ ⟨rfl, s4, S4, T4⟩
  refine wa fun _ _ _ => ?_; refine wt fun _ _ => ?_
  unfold bIc aWf
  refine wf ?_; refine wl ?_
  refine cAw (fun e1 => ?_) (fun e1 => ?_)
  ·refine yt ?_; refine ws ?_
   simp only [if_pos (show 255 < t3.num from e1)] at h4
   refine bZe (jW (by assumption) T4.2.one t3 _) ?_
   rintro _ _ ⟨rfl, S5⟩
   refine bZe (gY S5 (by rw [bY]; exact T4) h4) ?_
   rintro _ _ ⟨rfl, s6, S6, T6⟩
   refine wf ?_; refine wl ?_
   exact bZg ⟨rfl, s6, dp, T6⟩
  ·refine yj ?_
   simp only [if_neg (show ¬ 255 < t3.num from e1)] at h4
   refine bZe (gY (by assumption) T4 h4) ?_
   rintro _ _ ⟨rfl, s6, S6, T6⟩
   refine wf ?_; refine wl ?_
   exact bZg ⟨rfl, s6, dp, T6⟩
def aVd (I : Im) (A L : Ls) (p b : Pos) (r : List Nat × List (List Nat)) (st : PSt) (v : DV) (h : Hp) : Prop :=
 ∃ J s x, ILe I J ∧ Sy J A [PS p s st] ((b, some (.row .ex [.i .i64 (Int.ofNat 11), .s r.1, .i .i64 (Int.ofNat 0), x, .l0, .l0])) :: L) h ∧ TS' J s st.toks ∧ SS J x r.2
theorem aUg {A L : Ls} {p b : Pos} : ∀ (f j : Nat) (I : Im) (B : Ls) (h : Hp) (s x : DV) (st : PSt) (t : List Nat) (l : List (List Nat)) (first : Bool) (r : List Nat × List (List Nat)) (st' : PSt),
 Sy I (B ++ A) [PS p s st] ((b, some (.row .ex [.i .i64 (Int.ofNat 11), .s t, .i .i64 (Int.ofNat 0), x, .l0, .l0])) :: L) h → Gr I 1 B x l.length (l.map .s) → l.length + f ≤ bQ → TS' I s st.toks → kA f t l first st = some (r, st') →
 Ev (fun n => mG (aI n) n (n - j) (.p p 0) (.p b 0) (.b first) h) (aVd I A L p b r st') := by
 intro f
 induction f with
 | zero => intro j I B h s x st t l first r st' S G hl T hm; cases hm
 | succ f ih =>
  intro j I B h s x st t l first r st' S G hl T hm
  unfold kA at hm
  obtain ⟨c, hc, hm⟩ := bC hm
  refine bZl j (ll := fun n m => mG (aI n) n m (.p p 0) (.p b 0) (.b first) h) (bb := fun n m => xO (aI n) n (mG (aI n) n m) (.p p 0) (.p b 0) (.b first) h) (fun _ _ => rfl) ?_
  have hx := G.one
  unfold xO
  have rest : c = true → ∀ h1, Sy I (B ++ A) [PS p s st] ((b, some (.row .ex [.i .i64 (Int.ofNat 11), .s t, .i .i64 (Int.ofNat 0), x, .l0, .l0])) :: L) h1 →
   Ev (fun n => bnd (bM (.p b 0) h1) fun v26 h26 =>
    bnd (aA 1 v26 h26) fun v27 h27 =>
    bnd (aB v27 h27) fun v28 h28 =>
    bnd (aI n 51 [.p p 0, .i .i64 (Int.ofNat 2), .s []] h28) fun v29 h29 =>
    Dd.cnd (bX (aB v27 h29) v28 && true) (
    bnd (eM 1 v29 h29) fun v30 h30 =>
    bnd (gU .add v28 v30 h30) fun v31 h31 =>
    bnd (bM (.p b 0) h31) fun v32 h32 =>
    bnd (aA 1 v32 h32) fun v33 h33 =>
    bnd (aC 1 v33 v31 h33) fun v34 h34 =>
    bnd (bM (.p b 0) (gT 1 h34)) fun v35 h35 =>
    bnd (aA 3 v35 h35) fun v36 h36 =>
    bnd (aB v36 h36) fun v37 h37 =>
    bnd (bM (.p b 0) h37) fun v38 h38 =>
    bnd (aA 3 v38 h38) fun v39 h39 =>
    bnd (aB v39 h39) fun v40 h40 =>
    bnd (aI n 82 [.p p 0, .i .i64 (Int.ofNat 1), v40] h40) fun v41 h41 =>
    Dd.cnd (bX (aB v36 h41) v37 && true) (
    bnd (aY (dA 0 h34.next) [.s []] 1 [(0, 1, v41)] h41) fun v42 h42 =>
    bnd (bH 1 16 v37 v42 h42) fun v43 h43 =>
    bnd (bM (.p b 0) h43) fun v44 h44 =>
    bnd (aA 3 v44 h44) fun v45 h45 =>
    bnd (aC 1 v45 v43 h45) fun v46 h46 =>
    mG (aI n) n (n - (j + 1)) (.p p 0) (.p b 0) (.b false) h46))) (aVd I A L p b r st') := by
   intro hc1 h1 S1
   subst hc1
   rw [if_pos rfl] at hm
   obtain ⟨⟨t1, st1⟩, ht1, hm⟩ := bC hm
   split at hm
   ·rename_i hlen
    obtain ⟨⟨t2, st2⟩, ht2, hm⟩ := bC hm
    refine wn (wf ?_); refine wl ?_
    refine bZe (gY S1 T ht1) ?_
    rintro _ _ ⟨rfl, s2, S2, T2⟩
    refine Ev.cnd ?_ ?_
    ·rw [Bool.and_true]; exact eX S2 (by repeat (first | exact eG | apply List.Mem.tail)) rfl rfl (oW _)
    refine wp ?_
    refine cAu (by simp only [bQ] at hlen; omega) ?_
    refine wn (wf ?_); refine wu fun _ _ => ?_; refine wn (wf ?_)
    have Sr := Sy.res (by assumption)
    refine wl ?_; refine wn (wf ?_); refine wl ?_
    refine bZe (zJ Sr T2 G.len ht2) ?_
    rintro _ _ ⟨rfl, s3, S3, T3⟩
    refine Ev.cnd ?_ ?_
    ·rw [Bool.and_true]; exact eX S3 (by repeat (first | exact eG | apply List.Mem.tail)) rfl hx G.beq
    refine bZz S3 (cs := [.s t2]) (by repeat (first | exact Rpl.head _ | apply Rpl.tail)) rfl ?_
    intro h4 S4
    obtain ⟨x5, h5, B5, e5, S5, G5⟩ := kO G S4 (by repeat (first | exact eG | apply List.Mem.tail)) (by omega)
    have hx5 := G5.one
    refine Ev.op e5 ?_
    refine wn (wf ?_); refine wu fun _ _ => ?_
    exact ih (j + 1) I B5 _ s3 x5 st2 (t ++ t1.text) (l ++ [t2]) false r st' (dp) G5 (by simp; omega) T3 hm
   ·cases hm
  cases first with
  | true =>
   simp only [if_true, bB] at hc
   have R := rest hc.symm _ S
   exact R
  | false =>
   simp only [Bool.false_eq_true, if_false] at hc
   refine zf (wm (zf ?_))
   refine bZe (eL S T hc) ?_
   rintro _ _ ⟨rfl, S1⟩
   cases c with
   | true =>
    have R := rest rfl _ S1
    exact R
   | false =>
    simp only [Bool.false_eq_true, if_false, bB, bW] at hm
    obtain ⟨rfl, rfl⟩ := hm
    refine aq (yj ?_)
    obtain ⟨J, gJ, S5, F5⟩ := G.freeze S1
    exact bZg ⟨J, s, x, gJ, S5, T.mono gJ, by simp; omega, F5⟩
theorem aHj {I : Im} {A L : Ls} {h : Hp} {p b : Pos} {s : DV} {st : PSt} (f : Nat) (hf : f ≤ bQ) (S : Sy I A [PS p s st] ((b, some (.row .ex [.i .i64 (Int.ofNat 11), .s [], .i .i64 (Int.ofNat 0), .l0, .l0, .l0])) :: L) h) (T : TS' I s st.toks) {r : List Nat × List (List Nat)} {st' : PSt} (hm : fY f st = some (r, st')) :
 Ev (fun n => aI n 52 [.p p 0, .p b 0] h) (aVd I A L p b r st') := by
 unfold fY at hm
 obtain ⟨c, hc, hm⟩ := bC hm
 refine Ev.enter (fun n => bBs n _ _ h) ?_
 unfold s52
 refine bZe (eL S T hc) ?_
 rintro _ _ ⟨rfl, S1⟩
 unfold aKe
 cases c with
 | true =>
  rw [if_pos rfl] at hm
  obtain ⟨⟨t1, st1⟩, ht1, hm⟩ := bC hm
  simp only [bB, bW] at hm
  obtain ⟨rfl, rfl⟩ := hm
  refine yt ?_
  refine bZe (cP S1 T ht1) ?_
  rintro _ _ ⟨rfl, s2, S2, T2⟩
  refine wp ?_; refine wn (wf ?_); refine wu fun _ _ => ?_
  exact bZg ⟨I, s2, .l0, ILe.refl _, by assumption, T2, SS.nil I⟩
 | false =>
  rw [if_neg (by simp)] at hm
  obtain ⟨c, hc, hm⟩ := bC hm
  refine yj ?_
  unfold aRj
  refine bZe (eL S1 T hc) ?_
  rintro _ _ ⟨rfl, S2⟩
  unfold aMl
  cases c with
  | true =>
   rw [if_pos rfl] at hm
   obtain ⟨⟨t1, st1⟩, ht1, hm⟩ := bC hm
   obtain ⟨⟨t2, st2⟩, ht2, hm⟩ := bC hm
   simp only [bB, bW] at hm
   obtain ⟨rfl, rfl⟩ := hm
   refine yt ?_
   refine bZe (cP S2 T ht1) ?_
   rintro _ _ ⟨rfl, s3, S3, T3⟩
   refine wp ?_; refine wn (wf ?_); refine wu fun _ _ => ?_; refine wn (wf ?_)
   have Sr := Sy.res (by assumption)
   refine wl ?_; refine wn (wf ?_); refine wl ?_
   have G := Gr.nil I 1
   refine bZe (zJ Sr T3 G.len ht2) ?_
   rintro _ _ ⟨rfl, s4, S4, T4⟩
   refine Ev.cnd ?_ ?_
   ·rw [Bool.and_true]; exact eX S4 (by repeat (first | exact eG | apply List.Mem.tail)) rfl rfl G.beq
   refine bZz S4 (cs := [.s t2]) (by repeat (first | exact Rpl.head _ | apply Rpl.tail)) rfl ?_
   intro h5 S5
   obtain ⟨x6, h6, B6, e6, S6, G6⟩ := kO (l := []) (A := A) (B := []) G S5 (by repeat (first | exact eG | apply List.Mem.tail)) (by simp [bQ])
   have hx6 := G6.one
   refine Ev.op e6 ?_
   refine wn (wf ?_); refine wu fun _ _ => ?_
   obtain ⟨J, gJ, S7, F7⟩ := G6.freeze (A0 := A) (by assumption)
   exact bZg ⟨J, s4, x6, gJ, S7.dropL, T4.mono gJ, by simp [bQ], F7⟩
  | false =>
   simp only [Bool.false_eq_true, if_false] at hm
   refine yj ?_
   unfold aWi aIy aYy
   exact aUg f 0 I [] _ s .l0 st [] [] true r st' S2 (Gr.nil I 1) (by simpa using hf) T hm
theorem bHm (f : Nat) (hf : f ≤ bQ) : oO 29 (kH f) := by
 intro I A L h p s st x st' S T hm
 unfold kH at hm
 obtain ⟨⟨⟨t, l⟩, st1⟩, h1, hm⟩ := bC hm
 obtain ⟨⟨m, st2⟩, h2, hm⟩ := bC hm
 simp only [bB, bW] at hm
 obtain ⟨rfl, rfl⟩ := hm
 refine Ev.enter (fun n => bDp n _ h) ?_
 unfold s29
 refine wa fun _ _ _ => ?_; refine wd ?_; refine wa fun _ _ _ => ?_; refine wt fun _ _ => ?_
 refine bZe (aHj f hf (by assumption) T h1) ?_
 rintro _ _ ⟨J, s3, x3, g3, S3, T3, N3⟩
 have o3 := N3.2.one
 refine bZe (bBc S3 T3 h2) ?_
 rintro _ _ ⟨rfl, s4, S4, T4⟩
 refine wf ?_; refine wu fun _ _ => ?_; refine ws ?_; refine wt fun _ _ => ?_; refine ws ?_
 exact bZg ⟨J, s4, _, rfl, g3, dp, T4, NV.of N3 (SS.nil J) (NS.nil J)⟩
def aZm (I : Im) (A L : Ls) (res : Node × Int × Int) (v : DV) (h : Hp) : Prop :=
 ∃ J cs, v = .t [.a cs, .i .i64 res.2.1, .i .i64 res.2.2] ∧ ILe I J ∧ Sy J A [] L h ∧ NV J res.1 cs
theorem aHm {I : Im} {A L : Ls} {h : Hp} {gh : FuncId} {H : PF} (hg : ∀ (rec : FuncId → List DV → Hp → aG) (x : DV) (h : Hp), dM CF rec (.f gh [] []) [x] h = rec gh [x] h) (HH : oO gh H) (S : Sy I A [] L h) {s : List Nat} (hs : s.length ≤ bQ) (hb : ∀ c ∈ s, c < 256) (g fl f : Nat) (hfl : fl ≤ bQ) (hf : f + 2 ≤ bQ)
 (lx : List Tok × Int × Int) (hl : nD g fl s = some lx) (res : Node × Int × Int) (hm : fF H f lx = some res) :
 Ev (fun n => aI n 26 [.s s, .f gh [] []] h) (aZm I A L res) := by
 refine Ev.enter (fun n => bDv n _ _ h) ?_
 unfold s26
 simp only [hg]
 unfold fF at hm
 refine wa fun _ _ _ => ?_
 refine bZe (bNs (by assumption) hs hb g fl hfl lx hl) ?_
 rintro _ h1 ⟨J, x1, rfl, g1, S1, T1⟩
 have o1 := T1.2.one
 refine wx ?_; refine wx ?_; refine wx ?_
 refine bZy (fun e1 => ?_) (fun e1 => ?_)
 ·rw [if_neg (show ¬ lx.2.2 = 0 from e1)] at hm
  cases hm
  refine yt ?_; refine wd ?_; refine wt fun _ _ => ?_; refine ws ?_
  exact bZg ⟨J, _, rfl, g1, dp, NV.flat _ _ _⟩
 ·rw [if_pos (show lx.2.2 = 0 from e1)] at hm
  obtain ⟨⟨y, st1⟩, hy, hm⟩ := bC hm
  obtain ⟨⟨ts, st2⟩, h2, hm⟩ := bC hm
  obtain ⟨⟨ks, st3⟩, h3, hm⟩ := bC hm
  obtain ⟨⟨t, st4⟩, h4, hm⟩ := bC hm
  refine yj ?_; refine wd ?_; refine wb fun _ _ _ => ?_
  rename_i p hp Sp
  refine bZe (HH _ _ _ _ p x1 ⟨lx.1, 0, 0, 0⟩ _ _ (cCy Sp) T1 hy) ?_
  rintro _ _ ⟨K, s2, cs, rfl, g2, S2, T2, N2⟩
  obtain ⟨k, tt, mm, ns, ts0, ks0⟩ := y
  obtain ⟨d1, d2, d3, rfl, a1, a2, a3, cells, F, NL⟩ := N2
  have q1 := a1.2.one
  have q2 := a2.2.one
  have q3 := F.one
  refine wa fun _ _ _ => ?_; refine wt fun _ _ => ?_
  refine bZe (aDs f (by omega) (by assumption) T2 h2) ?_
  rintro v3 _ ⟨M, s3, g3, S3, T3, N3⟩
  have q4 := N3.2.one
  refine wf ?_; refine wu fun _ _ => ?_
  refine bZe (aDh (tU f hf) f (by omega) (by assumption) T3 h3) ?_
  rintro v4 _ ⟨O, s4, g4, S4, T4, N4⟩
  have q5 := N4.one
  refine wf ?_; refine wu fun _ _ => ?_
  refine bZe (gY (by assumption) T4 h4) ?_
  rintro _ _ ⟨rfl, s5, S5, T5⟩
  have q6 := T5.2.one
  have hdrop : ∀ {K : Im} {e : Pos × Option Ob} {M : Ls} {h'' : Hp}, Sy K A [e] M h'' → Sy K A [] M h'' := fun S => Sy.dropL (cCz (Q := []) S)
  refine wn (wf ?_); refine wq ?_
  refine bZy (fun e2 => ?_) (fun e2 => ?_)
  ·rw [if_neg (show ¬ st4.err = 0 from e2)] at hm
   cases hm
   refine yt ?_; refine wd ?_; refine wn (wf ?_); refine wq ?_; refine wn (wf ?_); refine wq ?_; refine wt fun _ _ => ?_
   refine Ev.cnd ?_ ?_
   ·rename_i hq Sq
    rw [ld1 (Sq.memQ (eG)) rfl rfl, ld1 (Sq.memQ (eG)) rfl rfl]
    simp [bX, DV.beq]
   refine ws ?_
   exact bZg ⟨O, _, rfl, ((g1.trans g2).trans g3).trans g4, hdrop (dp), NV.flat _ _ _⟩
  ·rw [if_pos (show st4.err = 0 from e2)] at hm
   cases hm
   refine yj ?_; refine ws ?_; refine wt fun _ _ => ?_; refine ws ?_
   refine bZg ⟨O, _, rfl, ((g1.trans g2).trans g3).trans g4, hdrop (dp), ?_⟩
   exact NV.of ((a1.mono g3).mono g4) (N3.mono g4) N4
theorem xR {I : Im} {A L : Ls} {h : Hp} (S : Sy I A [] L h) {s : List Nat} (hs : s.length ≤ bQ) (hb : ∀ c ∈ s, c < 256) (g fl f : Nat) (hfl : fl ≤ bQ) (hf : f + 2 ≤ bQ)
 (lx : List Tok × Int × Int) (hl : nD g fl s = some lx) (res : Node × Int × Int) (hm : fF rH f lx = some res) :
 Ev (fun n => aI n 14 [.s s] h) (aZm I A L res) := by
 refine Ev.enter (fun n => bCr n _ h) ?_
 unfold s14
 refine wa fun _ _ _ => ?_
 refine bZe (aHm bOa bDe (by assumption) hs hb g fl f hfl hf lx hl res hm) ?_
 rintro _ h1 ⟨J, cs, rfl, g1, S1, N1⟩
 obtain ⟨l1, o1, b1⟩ := N1.shape
 refine wx ?_; refine wx ?_; refine wx ?_; refine wt fun _ _ => ?_; refine ws ?_
 exact bZg ⟨J, cs, rfl, g1, dp, N1⟩
theorem qQ {I : Im} {A L : Ls} {h : Hp} (S : Sy I A [] L h) {s : List Nat} (hs : s.length ≤ bQ) (hb : ∀ c ∈ s, c < 256) (g fl f fh : Nat) (hfl : fl ≤ bQ) (hf : f + 2 ≤ bQ) (hfh : fh ≤ bQ)
 (lx : List Tok × Int × Int) (hl : nD g fl s = some lx) (res : Node × Int × Int) (hm : fF (kH fh) f lx = some res) :
 Ev (fun n => aI n 17 [.s s] h) (aZm I A L res) := by
 refine Ev.enter (fun n => bCi n _ h) ?_
 unfold s17
 refine wa fun _ _ _ => ?_
 refine bZe (aHm bLz (bHm fh hfh) (by assumption) hs hb g fl f hfl hf lx hl res hm) ?_
 rintro _ h1 ⟨J, cs, rfl, g1, S1, N1⟩
 obtain ⟨l1, o1, b1⟩ := N1.shape
 refine wx ?_; refine wx ?_; refine wx ?_; refine wt fun _ _ => ?_; refine ws ?_
 exact bZg ⟨J, cs, rfl, g1, dp, N1⟩
end Go.Dd

namespace Go.Dd
def Good (l : List Tok) : Prop := ∃ a e, l = a ++ [e] ∧ e.kind = 0 ∧ (∀ t ∈ a, t.kind ≠ 0) ∧ ∀ t ∈ a ++ [e], t.text.length ≤ 10000
def T1 (t : Tok) : Nat := if t.kind = 1 ∨ t.kind = 4 ∨ t.kind = 5 ∨ t.kind = 6 ∨ t.kind = 8 then 1 else 0
def T2 (t : Tok) : Nat := if t.kind = 1 ∨ t.kind = 4 ∨ t.kind = 5 ∨ t.kind = 6 ∨ t.kind = 8 ∨ t.kind = 2 ∨ t.kind = 3 then 1 else 0
def rD (l : List Tok) : Nat := (l.map T1).sum
def iW (l : List Tok) : Nat := (l.map T2).sum
mutual
def fZ : Node → Nat
 | .mk k _ _ ns ts ks => (if k ≠ 9 ∧ k ≠ 8 ∧ k ≠ 10 ∧ k ≠ 11 ∧ k ≠ 4 then 1 else 0) + ns.length + ts.length + fJ ks
def fJ : List Node → Nat
 | [] => 0
 | x :: l => fZ x + fJ l
end
theorem gB : ∀ (a b : List Node), fJ (a ++ b) = fJ a + fJ b
 | [], b => by simp [fJ]
 | x :: a, b => by simp [fJ, gB a b]; omega
theorem Good.head {l : List Tok} (h : Good l) : ∃ t r, l = t :: r ∧ (t.kind = 0 → r = []) ∧ (t.kind ≠ 0 → Good r ∧ 1 ≤ r.length) := by
 obtain ⟨a, e, rfl, he, ha, hb⟩ := h
 cases a with
 | nil => exact ⟨e, [], rfl, fun _ => rfl, fun h => absurd he h⟩
 | cons t a =>
  refine ⟨t, a ++ [e], rfl, fun h => absurd h (ha t (by simp)), fun _ => ⟨⟨a, e, rfl, he, fun u hu => ha u (by simp [hu]), fun u hu => hb u (by simp at hu ⊢; exact .inr hu)⟩, by simp⟩⟩
theorem Good.text {l : List Tok} (h : Good l) {t : Tok} {r : List Tok} (e : l = t :: r) : t.text.length ≤ 10000 := by
 obtain ⟨a, e', rfl, he, ha, hb⟩ := h
 exact hb t (by rw [e]; simp)
structure Stp (a b : PSt) (k : Nat) : Prop where
 good : Good b.toks
 err : a.err ≠ 0 → b.err ≠ 0
 run : ∃ c, a.toks = c ++ b.toks ∧ (b.err = 0 → rD c ≤ k ∧ k ≤ iW c)
theorem Stp.ok {a b : PSt} {k : Nat} (h : Stp a b k) (e : b.err = 0) : a.err = 0 := Decidable.byContradiction fun n => h.err n e
theorem Stp.refl {a : PSt} (h : Good a.toks) : Stp a a 0 := ⟨h, id, [], rfl, fun _ => by simp [rD, iW]⟩
theorem Stp.trans {a b c : PSt} {j k : Nat} (h : Stp a b j) (g : Stp b c k) : Stp a c (j + k) := by
 obtain ⟨x, hx, h1⟩ := h.run
 obtain ⟨y, hy, h2⟩ := g.run
 refine ⟨g.good, fun e => g.err (h.err e), x ++ y, by rw [hx, hy, List.append_assoc], fun e => ?_⟩
 have e' := g.ok e
 obtain ⟨a1, a2⟩ := h1 e'
 obtain ⟨b1, b2⟩ := h2 e
 simp only [rD, iW, List.map_append, List.sum_append] at *
 omega
theorem Stp.any {a b : PSt} {j : Nat} (h : Stp a b j) (e : b.err ≠ 0) (k : Nat) : Stp a b k := ⟨h.good, h.err, by
 obtain ⟨x, hx, h1⟩ := h.run
 exact ⟨x, hx, fun e' => absurd e' e⟩⟩
theorem Stp.cast {a b : PSt} {j k : Nat} (h : Stp a b j) (e : b.err = 0 → j = k) : Stp a b k := by
 by_cases hb : b.err = 0
 ·rw [← e hb]; exact h
 ·exact h.any hb k
theorem Stp.len {a b : PSt} {k : Nat} (h : Stp a b k) : b.toks.length ≤ a.toks.length := by
 obtain ⟨x, hx, _⟩ := h.run
 rw [hx]; simp
theorem Stp.same {a b : PSt} (h : Good b.toks) (e1 : b.toks = a.toks) (e2 : b.err = a.err) : Stp a b 0 := ⟨h, fun e => by rw [e2]; exact e, [], by simp [e1], fun _ => by simp [rD, iW]⟩
theorem eE {st : PSt} (h : Good st.toks) : ∃ t r, st.toks = t :: r ∧ bD st 0 = some t ∧ (t.kind = 0 → r = []) ∧ (t.kind ≠ 0 → Good r ∧ 1 ≤ r.length) := by
 obtain ⟨t, r, e, h1, h2⟩ := h.head
 exact ⟨t, r, e, by simp [bD, e], h1, h2⟩
theorem bKa {st : PSt} (h : Good st.toks) : ∃ t, bD st 1 = some t := by
 obtain ⟨t, r, e, h1, h2⟩ := h.head
 unfold bD
 have : min 1 (st.toks.length - 1) < st.toks.length := by rw [e]; simp; omega
 exact ⟨st.toks[min 1 (st.toks.length - 1)], by simp [this]⟩
def nA (st : PSt) (t : Tok) (kind : Int) (text : List Nat) : Bool := decide (st.err = 0) && decide (t.kind = kind) && (decide (text = []) || decide (t.text = text))
theorem nE {st : PSt} {t : Tok} (h : bD st 0 = some t) (kind : Int) (text : List Nat) : dU st kind text = some (nA st t kind text) := by
 unfold dU; rw [h]; rfl
theorem cZ {st : PSt} {t : Tok} {kind : Int} {text : List Nat} (h : nA st t kind text = true) : st.err = 0 ∧ t.kind = kind := by
 simp [nA] at h
 exact h.1
theorem bIm {st : PSt} (h : Good st.toks) {t : Tok} {r : List Tok} (e : st.toks = t :: r) (hk : t.kind ≠ 0) : aV st = some (t, { st with toks := r }) ∧ Good r := by
 obtain ⟨t', r', e', h1, h2⟩ := h.head
 rw [e] at e'
 cases e'
 obtain ⟨g1, g2⟩ := h2 hk
 refine ⟨?_, g1⟩
 unfold aV
 have : bD st 0 = some t := by simp [bD, e]
 simp only [this, Option.bind_some, if_neg hk]
 rw [if_pos (by rw [e]; simp; omega), e]
 rfl
theorem aVc {st : PSt} (h : Good st.toks) {t : Tok} {r : List Tok} (e : st.toks = t :: r) (hk : t.kind = 0) : aV st = some (t, st) := by
 unfold aV
 have : bD st 0 = some t := by simp [bD, e]
 simp [this, hk]
theorem eF {st : PSt} (h : Good st.toks) {t : Tok} (ht : bD st 0 = some t) (hk : t.kind ≠ 0) : ∃ st', aV st = some (t, st') ∧ st'.err = st.err ∧ st'.deep = st.deep ∧ st'.pos = st.pos ∧ st'.toks.length + 1 = st.toks.length ∧ Good st'.toks ∧ st.toks = t :: st'.toks ∧ ∀ k, T1 t ≤ k → k ≤ T2 t → Stp st st' k := by
 obtain ⟨t', r, e, h1, _, _⟩ := eE h
 rw [h1] at ht
 cases ht
 obtain ⟨a1, a2⟩ := bIm h e hk
 refine ⟨_, a1, rfl, rfl, rfl, by rw [e]; simp, a2, e, fun k k1 k2 => ⟨a2, id, [t], by simp [e], fun _ => by simp [rD, iW]; omega⟩⟩
theorem bJi {st : PSt} (h : Good st.toks) : ∃ t st', aV st = some (t, st') ∧ st'.err = st.err ∧ Good st'.toks ∧ ∃ c, st.toks = c ++ st'.toks ∧ (c = [] ∨ c = [t]) := by
 obtain ⟨t, r, e, h1, h2, h3⟩ := eE h
 by_cases hk : t.kind = 0
 ·exact ⟨t, st, aVc h e hk, rfl, h, [], rfl, .inl rfl⟩
 ·obtain ⟨a1, a2⟩ := bIm h e hk
  exact ⟨t, _, a1, rfl, a2, [t], by simp [e], .inr rfl⟩
theorem qY {st : PSt} (h : Good st.toks) (t : Tok) (e : Int) (he : e ≠ 0) (k : Nat) : Stp st (bV st t e) k ∧ (bV st t e).err ≠ 0 := by
 have : (bV st t e).err ≠ 0 := by
  unfold bV
  split
  ·exact he
  ·rename_i h; exact h
 refine ⟨⟨by rw [bY]; exact h, fun _ => this, [], by rw [bY]; simp, fun e' => absurd e' this⟩, this⟩
theorem tM {st : PSt} (h : Good st.toks) (kd : Int) (tx : List Nat) (k : Nat) (hk : kd ≠ 0 → ∀ t : Tok, t.kind = kd → T1 t ≤ k ∧ k ≤ T2 t) (h0 : kd = 0 → k = 0) :
 ∃ t st', bL st kd tx = some (t, st') ∧ Stp st st' k ∧ (st'.err = 0 → st.err = 0 ∧ t.kind = kd) := by
 obtain ⟨t, r, e, h1, h2, h3⟩ := eE h
 unfold bL
 rw [nE h1]
 simp only [Option.bind_some]
 cases hc : nA st t kd tx with
 | true =>
  obtain ⟨c1, c2⟩ := cZ hc
  by_cases hz : t.kind = 0
  ·refine ⟨t, st, by simp [aVc h e hz], ?_, fun _ => ⟨c1, c2⟩⟩
   rw [h0 (by rw [← c2]; exact hz)]
   exact Stp.refl h
  ·obtain ⟨st', a1, a2, a3, a4, a5, a6, a7, a8⟩ := eF h h1 hz
   obtain ⟨k1, k2⟩ := hk (by rw [← c2]; exact hz) t c2
   exact ⟨t, st', by simp [a1], a8 k k1 k2, fun _ => ⟨c1, c2⟩⟩
 | false =>
  obtain ⟨f1, f2⟩ := qY h t 13 (by decide) k
  exact ⟨z4, _, by simp [h1], f1, fun e => absurd e f2⟩
theorem tIn {j : Int} {k : Nat} (h : (j = 1 ∨ j = 4 ∨ j = 5 ∨ j = 6 ∨ j = 8) ∧ k = 1 ∨ (j = 2 ∨ j = 3) ∧ k ≤ 1 ∨ (j = 7 ∨ j = 9 ∨ j = 10) ∧ k = 0) : ∀ t : Tok, t.kind = j → T1 t ≤ k ∧ k ≤ T2 t := by
 intro t ht
 unfold T1 T2
 rw [ht]
 rcases h with ⟨rfl | rfl | rfl | rfl | rfl, rfl⟩ | ⟨rfl | rfl, hk⟩ | ⟨rfl | rfl | rfl, rfl⟩ <;> simp <;> omega
theorem aMr {st : PSt} (h : Good st.toks) (kd : Int) (hk : kd = 1 ∨ kd = 8) (len : Nat) : ∃ t st', gN st kd len = some (t, st') ∧ Stp st st' 1 ∧ st'.toks.length ≤ st.toks.length := by
 obtain ⟨t, st1, h1, h2, h3⟩ := tM h kd [] 1 (fun _ => tIn (by rcases hk with rfl | rfl <;> simp)) (by rcases hk with rfl | rfl <;> simp)
 unfold gN
 rw [h1]
 simp only [Option.bind_some]
 by_cases hl : len = 4
 ·obtain ⟨f1, f2⟩ := qY h2.good t 18 (by decide) 0
  refine ⟨_, _, rfl, ?_, ?_⟩
  ·simp only [hl, if_true]; exact h2.trans f1
  ·simp only [hl, if_true, bY]; exact h2.len
 ·refine ⟨_, _, rfl, ?_, ?_⟩
  ·simp only [hl, if_false]; exact h2
  ·simp only [hl, if_false]; exact h2.len
theorem bVx {st : PSt} (h : Good st.toks) : ∃ c, qR st = some c ∧ (c = true → st.err = 0 ∧ ∃ t u r, st.toks = t :: u :: r ∧ t.kind = 3 ∧ u.kind = 4) := by
 obtain ⟨t, r, e, h1, h2, h3⟩ := eE h
 obtain ⟨u, hu⟩ := bKa h
 unfold qR
 rw [hu, nE h1, h1]
 refine ⟨_, rfl, fun hc => ?_⟩
 simp at hc
 obtain ⟨⟨c1, c2⟩, _⟩ := hc
 obtain ⟨d1, d2⟩ := cZ c1
 refine ⟨d1, t, u, r.drop 1, ?_, d2, c2⟩
 obtain ⟨_, hl⟩ := h3 (by rw [d2]; decide)
 cases r with
 | nil => simp at hl
 | cons v r =>
  have : u = v := by
   unfold bD at hu
   rw [e] at hu
   simp at hu
   exact hu.symm
  rw [e, this]; rfl
theorem aGq {st : PSt} (h : Good st.toks) : ∃ x c st', eD st = some ((x, c), st') ∧ (c = true → Stp st st' (fZ x) ∧ st'.toks.length < st.toks.length ∧ st.err = 0 ∧ st'.err = 0) ∧ (c = false → st' = st) ∧ x.kind ≠ 7 := by
 obtain ⟨t, r, e, h1, h2, h3⟩ := eE h
 unfold eD
 rw [h1]
 simp only [Option.bind_some]
 by_cases he : st.err = 0
 ·rw [if_pos he]
  obtain ⟨c, hc, hc2⟩ := bVx h
  rw [hc]
  simp only [Option.bind_some]
  cases c with
  | true =>
   obtain ⟨_, t', u, r', e', k1, k2⟩ := hc2 rfl
   have ht' : t = t' := by rw [e] at e'; exact (List.cons.inj e').1
   subst ht'
   obtain ⟨s1, a1, a2, a3, a4, a5, a6, a7, a8⟩ := eF h h1 (by rw [k1]; decide)
   have hr : s1.toks = u :: r' := by
    rw [a7] at e'; exact (List.cons.inj e').2
   have hl : bD s1 0 = some u := by simp [bD, hr]
   obtain ⟨s2, b1, b2, b3, b4, b5, b6, b7, b8⟩ := eF a6 hl (by rw [k2]; decide)
   simp only [if_true, a1, Option.bind_some, b1]
   refine ⟨_, _, _, rfl, fun _ => ⟨?_, by show s2.toks.length < _; omega, he, by show s2.err = 0; rw [b2, a2]; exact he⟩, (fun h => by cases h), ?_⟩
   rotate_left
   ·show (1 : Int) ≠ 7
    decide
   have S1 := a8 0 (by simp [T1, k1]) (by simp)
   have S2 := b8 1 (by simp [T1, k2]) (by simp [T2, k2])
   have : fZ (.mk 1 [] (kC (0 - u.num)) [] [] []) = 0 + 1 := by simp [fZ, fJ]
   rw [this]
   exact S1.trans S2
  | false =>
   simp only [Bool.false_eq_true, if_false]
   have one : ∀ (j : Int) (kk : Int), (j = 4 ∨ j = 5 ∨ j = 6) → (kk ≠ 9 ∧ kk ≠ 8 ∧ kk ≠ 10 ∧ kk ≠ 11 ∧ kk ≠ 4) ∧ kk ≠ 7 → t.kind = j →
    ∃ x c st', ((aV st).bind fun r => some ((Node.mk kk t.text t.num [] [] [], true), r.2)) = some ((x, c), st') ∧ (c = true → Stp st st' (fZ x) ∧ st'.toks.length < st.toks.length ∧ st.err = 0 ∧ st'.err = 0) ∧ (c = false → st' = st) ∧ x.kind ≠ 7 := by
    intro j kk hj hkk ht
    obtain ⟨s1, a1, a2, a3, a4, a5, a6, a7, a8⟩ := eF h h1 (by rw [ht]; omega)
    rw [a1]
    refine ⟨_, _, _, rfl, fun _ => ⟨?_, by show s1.toks.length < _; omega, he, by show s1.err = 0; rw [a2]; exact he⟩, (fun h => by cases h), ?_⟩
    rotate_left
    ·exact hkk.2
    have : fZ (.mk kk t.text t.num [] [] []) = 1 := by simp [fZ, fJ]; omega
    rw [this]
    exact a8 1 (by simp [T1]; split <;> omega) (by simp [T2]; rcases hj with rfl | rfl | rfl <;> simp [ht])
   by_cases h4 : t.kind = 4
   ·rw [if_pos h4]; exact one 4 1 (by simp) (by decide) h4
   ·rw [if_neg h4]
    by_cases h5 : t.kind = 5
    ·rw [if_pos h5]; exact one 5 2 (by simp) (by decide) h5
    ·rw [if_neg h5]
     by_cases h6 : t.kind = 6
     ·rw [if_pos h6]; exact one 6 3 (by simp) (by decide) h6
     ·rw [if_neg h6]
      exact ⟨_, _, _, rfl, (fun h => by cases h), fun _ => rfl, by show (0 : Int) ≠ 7; decide⟩
 ·rw [if_neg he]
  exact ⟨_, _, _, rfl, (fun h => by cases h), fun _ => rfl, by show (0 : Int) ≠ 7; decide⟩
end Go.Dd

namespace Go.Dd
def Shp (x : Node) : Prop := x.kind = 7 → ∃ t ks, x = aK t ks ∧ ks ≠ []
def qW (f : PF) (b : Nat) : Prop := ∀ st, Good st.toks → (st.err = 0 → st.toks.length ≤ b) → ∃ x st', f st = some (x, st') ∧ Stp st st' (fZ x) ∧ Shp x
def hO (f : PF) (b : Nat) : Prop := ∀ st, Good st.toks → (st.err = 0 → st.toks.length ≤ b) → ∃ x st', f st = some (x, st') ∧ Stp st st' (fZ x) ∧ Shp x ∧ (st'.err = 0 → st'.toks.length < st.toks.length)
theorem Shp.flat (k : Int) (t : List Nat) (m : Int) (ns ts : List (List Nat)) (ks : List Node) (h : k ≠ 7) : Shp (.mk k t m ns ts ks) := fun e => absurd e h
theorem Shp.send (t : List Nat) (x : Node) (ks : List Node) : Shp (aK t (x :: ks)) := fun _ => ⟨t, _, rfl, by simp⟩
theorem gX (t : List Nat) (ks : List Node) : fZ (aK t ks) = 1 + fJ ks := by simp [aK, fZ]
theorem cO (x : Node) (l : List Node) : fJ (x :: l) = fZ x + fJ l := by simp [fJ]
theorem dY : fJ [] = 0 := by simp [fJ]
theorem rM {f : PF} {b : Nat} (Hf : qW f b) {st : PSt} (h : Good st.toks) {t : Tok} (ht : bD st 0 = some t) (hk : t.kind = 7 ∨ t.kind = 10) (hb : st.err = 0 → st.toks.length ≤ b + 1) :
 ∃ x st', cQ f st = some (x, st') ∧ Stp st st' (fZ x) ∧ Shp x ∧ (st'.err = 0 → st'.toks.length < st.toks.length) := by
 obtain ⟨s1, a1, a2, a3, a4, a5, a6, a7, a8⟩ := eF h ht (by omega)
 have S1 := a8 0 (by unfold T1; split <;> omega) (by omega)
 unfold cQ
 rw [a1]
 simp only [Option.bind_some]
 by_cases hd : s1.deep = 20
 ·rw [if_pos hd]
  obtain ⟨f1, f2⟩ := qY a6 t 14 (by decide) (fZ zN)
  refine ⟨_, _, rfl, ?_, Shp.flat _ _ _ _ _ _ (by decide), fun e => absurd e f2⟩
  have := S1.trans f1
  rwa [Nat.zero_add] at this
 ·rw [if_neg hd]
  obtain ⟨x, s2, b1, b2, b3⟩ := Hf { s1 with deep := kC (s1.deep + 1) } a6 (fun e => by
   have : st.err = 0 := by rw [← a2]; exact e
   have := hb this
   show s1.toks.length ≤ b
   omega)
  rw [b1]
  refine ⟨_, _, rfl, ?_, b3, fun e => ?_⟩
  ·have S0 : Stp s1 { s1 with deep := kC (s1.deep + 1) } 0 := Stp.same a6 rfl rfl
   have S3 : Stp s2 { s2 with deep := kC (s2.deep - 1) } 0 := Stp.same b2.good rfl rfl
   have := ((S1.trans S0).trans b2).trans S3
   have e0 : 0 + 0 + fZ x + 0 = fZ x := by omega
   rwa [e0] at this
  ·have := b2.len
   have this : s2.toks.length ≤ s1.toks.length := this
   show s2.toks.length < _
   omega
theorem aAz : ∀ (f : Nat) (st : PSt) (x : Node), Good st.toks → (st.err = 0 → st.toks.length ≤ f) → 1 ≤ f → ∃ y st' k, bZ f x st = some (y, st') ∧ Stp st st' k ∧ fZ y = fZ x + k ∧ (Shp x → Shp y)
 | 0, st, x, h, hf, h1 => by omega
 | f + 1, st, x, h, hf, h1 => by
  obtain ⟨t, r, e, ht, h2, h3⟩ := eE h
  unfold bZ
  rw [nE ht]
  simp only [Option.bind_some]
  cases hc : nA st t 1 [] with
  | false => exact ⟨x, st, 0, by simp, Stp.refl h, by simp, id⟩
  | true =>
   obtain ⟨c1, c2⟩ := cZ hc
   obtain ⟨s1, a1, a2, a3, a4, a5, a6, a7, a8⟩ := eF h ht (by omega)
   have hl := hf c1
   have hr : 1 ≤ s1.toks.length := by
    obtain ⟨t', r', e', _⟩ := a6.head
    rw [e']; simp
   obtain ⟨y, st', k, b1, b2, b3, b4⟩ := aAz f s1 (aK t.text [x]) a6 (fun _ => by omega) (by omega)
   refine ⟨y, st', 1 + k, by simp [a1, b1], (a8 1 (by simp [T1, c2]) (by simp [T2, c2])).trans b2, ?_, fun _ => b4 (Shp.send _ _ _)⟩
   rw [b3, gX, cO, dY]
   omega
theorem aIz : ∀ (f : Nat) (st : PSt) (l : List (List Nat)), Good st.toks → (st.err = 0 → st.toks.length ≤ f) → 1 ≤ f → ∃ l' st' k, fX f l st = some (l', st') ∧ Stp st st' k ∧ l'.length = l.length + k
 | 0, st, l, h, hf, h1 => by omega
 | f + 1, st, l, h, hf, h1 => by
  obtain ⟨t, r, e, ht, h2, h3⟩ := eE h
  unfold fX
  rw [nE ht]
  simp only [Option.bind_some]
  cases hc : nA st t 1 [] with
  | false =>
   obtain ⟨u, s1, a1, a2, a3⟩ := tM h 10 [124] 0 (fun _ => tIn (by simp)) (by simp)
   exact ⟨l, s1, 0, by simp [a1], a2, by simp⟩
  | true =>
   obtain ⟨c1, c2⟩ := cZ hc
   obtain ⟨s1, a1, a2, a3, a4, a5, a6, a7, a8⟩ := eF h ht (by omega)
   have hl := hf c1
   have hr : 1 ≤ s1.toks.length := by
    obtain ⟨t', r', e', _⟩ := a6.head
    rw [e']; simp
   obtain ⟨l', st', k, b1, b2, b3⟩ := aIz f s1 (l ++ [t.text]) a6 (fun _ => by omega) (by omega)
   refine ⟨l', st', 1 + k, by simp [a1, b1], (a8 1 (by simp [T1, c2]) (by simp [T2, c2])).trans b2, ?_⟩
   rw [b3]; simp; omega
theorem aFc {f : Nat} {st : PSt} (h : Good st.toks) (hf : st.err = 0 → st.toks.length ≤ f) (h1 : 1 ≤ f) : ∃ l st', fV f st = some (l, st') ∧ Stp st st' l.length := by
 obtain ⟨t, r, e, ht, h2, h3⟩ := eE h
 unfold fV
 rw [nE ht]
 simp only [Option.bind_some]
 cases hc : nA st t 10 [124] with
 | false => exact ⟨[], st, by simp, Stp.refl h⟩
 | true =>
  obtain ⟨c1, c2⟩ := cZ hc
  obtain ⟨s1, a1, a2, a3, a4, a5, a6, a7, a8⟩ := eF h ht (by omega)
  obtain ⟨l, st', k, b1, b2, b3⟩ := aIz f s1 [] a6 (fun e => by have := hf c1; omega) h1
  have S1 := (a8 0 (by simp [T1, c2]) (by omega)).trans b2
  refine ⟨l, st', by simp [a1, b1], ?_⟩
  rw [show l.length = 0 + k by rw [b3]; simp]
  exact S1
theorem aKg : ∀ (f : Nat) (st : PSt) (l : List (List Nat)), Good st.toks → (st.err = 0 → st.toks.length ≤ f) → 1 ≤ f → ∃ l' st' k, fD f l st = some (l', st') ∧ Stp st st' k ∧ l'.length = l.length + k
 | 0, st, l, h, hf, h1 => by omega
 | f + 1, st, l, h, hf, h1 => by
  obtain ⟨t, r, e, ht, h2, h3⟩ := eE h
  unfold fD
  rw [nE ht]
  simp only [Option.bind_some]
  cases hc : nA st t 8 [] with
  | false => exact ⟨l, st, 0, by simp, Stp.refl h, by simp⟩
  | true =>
   obtain ⟨c1, c2⟩ := cZ hc
   have hl := hf c1
   obtain ⟨s0, z1, z2, z3, z4, z5, z6, z7, z8⟩ := eF h ht (by omega)
   obtain ⟨tx, s1, a1, a2, a3⟩ := aMr h 8 (.inr rfl) l.length
   have hlen : s1.toks.length + 1 ≤ st.toks.length := by
    unfold gN bL at a1
    rw [nE ht, hc] at a1
    simp only [Option.bind_some, if_true, z1, bB, bW] at a1
    obtain ⟨_, rfl⟩ := a1
    split
    ·rw [bY]; omega
    ·omega
   have hr : 1 ≤ s1.toks.length := by
    obtain ⟨t', r', e', _⟩ := a2.good.head
    rw [e']; simp
   obtain ⟨l', st', k, b1, b2, b3⟩ := aKg f s1 (l ++ [tx]) a2.good (fun _ => by omega) (by omega)
   refine ⟨l', st', 1 + k, by simp [a1, b1], a2.trans b2, ?_⟩
   rw [b3]; simp; omega
theorem bNr {E : PF} {b : Nat} (HE : hO E b) : qW (kW E) b := by
 intro st h hb
 obtain ⟨x, s1, a1, a2, a3, a4⟩ := HE st h hb
 obtain ⟨u, s2, c1, c2, c3⟩ := tM a2.good 10 [41] 0 (fun _ => tIn (by simp)) (by simp)
 refine ⟨x, s2, by simp [kW, a1, c1], ?_, a3⟩
 exact a2.trans c2
theorem aEh {LI : PF} {b : Nat} (HL : qW LI b) : ∀ (f : Nat) (st : PSt) (xs : List Node), Good st.toks → (st.err = 0 → st.toks.length < f ∧ st.toks.length ≤ b + 1) → 1 ≤ f → ∃ ys st' k, dI LI f xs st = some (ys, st') ∧ Stp st st' k ∧ fJ ys = fJ xs + k ∧ (st'.err = 0 → ∃ t, bD st' 0 = some t ∧ t.kind = 10)
 | 0, st, xs, h, hf, h1 => by omega
 | f + 1, st, xs, h, hf, h1 => by
  obtain ⟨t, r, e, ht, h2, h3⟩ := eE h
  unfold dI
  by_cases he : st.err = 0
  ·rw [if_pos he, nE ht]
   simp only [Option.bind_some]
   obtain ⟨hl1, hl2⟩ := hf he
   cases hc : nA st t 10 [41] with
   | true => exact ⟨xs, st, 0, by simp, Stp.refl h, by simp, fun _ => ⟨t, ht, (cZ hc).2⟩⟩
   | false =>
    simp only [Bool.false_eq_true, if_false]
    obtain ⟨x, c, s1, a1, a2, a3, _⟩ := aGq h
    rw [a1]
    simp only [Option.bind_some]
    cases c with
    | true =>
     obtain ⟨b1, b2, b3, b4⟩ := a2 rfl
     have hr : 1 ≤ s1.toks.length := by
      obtain ⟨t', r', e', _⟩ := b1.good.head
      rw [e']; simp
     obtain ⟨ys, st', k, d1, d2, d3, d4⟩ := aEh HL f s1 (xs ++ [x]) b1.good (fun _ => by omega) (by omega)
     refine ⟨ys, st', fZ x + k, by simp [d1], b1.trans d2, ?_, d4⟩
     rw [d3, gB, cO, dY]; omega
    | false =>
     have := a3 rfl
     subst this
     simp only [Bool.false_eq_true, if_false]
     rw [nE ht]
     simp only [Option.bind_some]
     have nest : (t.kind = 7 ∨ t.kind = 10) → ∃ ys st' k, ((cQ LI s1).bind fun q => dI LI f (xs ++ [q.1]) q.2) = some (ys, st') ∧ Stp s1 st' k ∧ fJ ys = fJ xs + k ∧ (st'.err = 0 → ∃ t, bD st' 0 = some t ∧ t.kind = 10) := by
      intro hk
      obtain ⟨y, s2, b1, b2, b3, b4⟩ := rM HL h ht hk (fun _ => hl2)
      by_cases he2 : s2.err = 0
      ·have := b4 he2
       have hr : 1 ≤ s2.toks.length := by
        obtain ⟨t', r', e', _⟩ := b2.good.head
        rw [e']; simp
       obtain ⟨ys, st', k, d1, d2, d3, d4⟩ := aEh HL f s2 (xs ++ [y]) b2.good (fun _ => by omega) (by omega)
       refine ⟨ys, st', fZ y + k, by simp [b1, d1], b2.trans d2, ?_, d4⟩
       rw [d3, gB, cO, dY]; omega
      ·have hr : 1 ≤ f := by
        rw [e] at hl1
        simp at hl1
        omega
       obtain ⟨ys, st', k, d1, d2, d3, d4⟩ := aEh HL f s2 (xs ++ [y]) b2.good (fun e => absurd e he2) hr
       refine ⟨ys, st', fZ y + k, by simp [b1, d1], b2.trans d2, ?_, d4⟩
       rw [d3, gB, cO, dY]; omega
     cases hc1 : nA s1 t 7 [] with
     | true =>
      simp only [if_true, Option.bind_some]
      exact nest (.inl (cZ hc1).2)
     | false =>
      simp only [Bool.false_eq_true, if_false]
      rw [nE ht]
      simp only [Option.bind_some]
      cases hc2 : nA s1 t 10 [40] with
      | true =>
       simp only [if_true]
       exact nest (.inr (cZ hc2).2)
      | false =>
       simp only [Bool.false_eq_true, if_false, ht, Option.bind_some]
       obtain ⟨f1, f2⟩ := qY h t 13 (by decide) (fZ x)
       have hr : 1 ≤ f := by rw [e] at hl1; simp at hl1; omega
       obtain ⟨ys, st', k, d1, d2, d3, d4⟩ := aEh HL f (bV s1 t 13) (xs ++ [x]) (by rw [bY]; exact h) (fun e => absurd e f2) hr
       refine ⟨ys, st', fZ x + k, d1, f1.trans d2, ?_, d4⟩
       rw [d3, gB, cO, dY]; omega
  ·rw [if_neg he]
   exact ⟨xs, st, 0, rfl, Stp.refl h, by simp, fun e => absurd e he⟩
end Go.Dd

namespace Go.Dd
theorem Good.pos {l : List Tok} (h : Good l) : 1 ≤ l.length := by
 obtain ⟨t, r, e, _⟩ := h.head
 rw [e]; simp
theorem aNy {LI : PF} {b f : Nat} (HL : qW LI b) (hf : b + 1 < f) : qW (fT LI f) (b + 1) := by
 intro st h hb
 obtain ⟨ys, s1, k, a1, a2, a3, a4⟩ := aEh HL f st [] h (fun e => ⟨by have := hb e; omega, hb e⟩) (by omega)
 have hc : fZ (.mk 4 [] 0 [] [] ys) = k := by simp [fZ, a3, fJ]
 by_cases he : s1.err = 0
 ·obtain ⟨t, ht, hk⟩ := a4 he
  obtain ⟨s2, b1, b2, b3, b4, b5, b6, b7, b8⟩ := eF a2.good ht (by omega)
  refine ⟨.mk 4 [] 0 [] [] ys, s2, by simp [fT, a1, b1], ?_, Shp.flat _ _ _ _ _ _ (by decide)⟩
  rw [hc]
  exact a2.trans (b8 0 (by simp [T1, hk]) (by omega))
 ·obtain ⟨t, s2, b1, b2, b3, c, b4, b5⟩ := bJi a2.good
  refine ⟨.mk 4 [] 0 [] [] ys, s2, by simp [fT, a1, b1], ?_, Shp.flat _ _ _ _ _ _ (by decide)⟩
  have he2 : s2.err ≠ 0 := by rw [b2]; exact he
  have : Stp s1 s2 0 := ⟨b3, fun _ => he2, c, b4, fun e => absurd e he2⟩
  exact (a2.trans this).any he2 _
theorem aBr {E : PF} {b : Nat} (HE : hO E b) : ∀ (f : Nat) (st : PSt) (xs : List Node), Good st.toks → (st.err = 0 → st.toks.length ≤ f ∧ st.toks.length ≤ b) → 1 ≤ f → ∃ ys st' k, cW E f xs st = some (ys, st') ∧ Stp st st' k ∧ fJ ys = fJ xs + k
 | 0, st, xs, h, hf, h1 => by omega
 | f + 1, st, xs, h, hf, h1 => by
  obtain ⟨t, r, e, ht, h2, h3⟩ := eE h
  unfold cW
  by_cases he : st.err = 0
  ·rw [if_pos he, nE ht]
   simp only [Option.bind_some]
   obtain ⟨hl1, hl2⟩ := hf he
   have fin : ∃ ys st' k, some (xs, st) = some (ys, st') ∧ Stp st st' k ∧ fJ ys = fJ xs + k := ⟨xs, st, 0, rfl, Stp.refl h, by simp⟩
   cases hc : nA st t 0 [] with
   | true => simpa using fin
   | false =>
    simp only [Bool.false_eq_true, if_false]
    rw [nE ht]
    simp only [Option.bind_some]
    cases hc2 : nA st t 10 [93] with
    | true => simpa using fin
    | false =>
     simp only [Bool.false_eq_true, if_false]
     rw [nE ht]
     simp only [Option.bind_some]
     cases hc3 : nA st t 10 [94] with
     | true =>
      simp only [if_true]
      obtain ⟨c1, c2⟩ := cZ hc3
      obtain ⟨s1, a1, a2, a3, a4, a5, a6, a7, a8⟩ := eF h ht (by omega)
      obtain ⟨x, s2, b1, b2, b3, b4⟩ := HE s1 a6 (fun _ => by omega)
      obtain ⟨u, r2, e2, hu, _, _⟩ := eE b2.good
      have S1 := (a8 0 (by simp [T1, c2]) (by omega)).trans b2
      have hcn : fJ (xs ++ [Node.mk 10 [] 0 [] [] [x]]) = fJ xs + (0 + fZ x) := by rw [gB, cO, dY]; simp [fZ, fJ]
      rw [a1]
      simp only [Option.bind_some, b1]
      rw [nE hu]
      simp only [Option.bind_some]
      cases hc4 : nA s2 u 10 [46] with
      | false => exact ⟨xs ++ [Node.mk 10 [] 0 [] [] [x]], s2, _, by simp, S1, hcn⟩
      | true =>
       obtain ⟨d1, d2⟩ := cZ hc4
       obtain ⟨s3, g1, g2, g3, g4, g5, g6, g7, g8⟩ := eF b2.good hu (by omega)
       refine ⟨xs ++ [Node.mk 10 [] 0 [] [] [x]], s3, _, by simp [g1], S1.trans (g8 0 (by simp [T1, d2]) (by omega)), by rw [hcn]; omega⟩
     | false =>
      simp only [Bool.false_eq_true, if_false]
      obtain ⟨x, s2, b1, b2, b3, b4⟩ := HE st h (fun _ => hl2)
      obtain ⟨u, r2, e2, hu, _, _⟩ := eE b2.good
      have hcn : fJ (xs ++ [x]) = fJ xs + fZ x := by rw [gB, cO, dY]; omega
      rw [b1]
      simp only [Option.bind_some]
      rw [nE hu]
      simp only [Option.bind_some]
      cases hc4 : nA s2 u 10 [46] with
      | false => exact ⟨xs ++ [x], s2, _, by simp, b2, hcn⟩
      | true =>
       obtain ⟨d1, d2⟩ := cZ hc4
       obtain ⟨s3, g1, g2, g3, g4, g5, g6, g7, g8⟩ := eF b2.good hu (by omega)
       have hlt := b4 d1
       have hp := g6.pos
       obtain ⟨ys, st', k, k1, k2, k3⟩ := aBr HE f s3 (xs ++ [x]) g6 (fun _ => by omega) (by omega)
       refine ⟨ys, st', _, by simp [g1, k1], (b2.trans (g8 0 (by simp [T1, d2]) (by omega))).trans k2, by rw [k3, hcn]; omega⟩
  ·rw [if_neg he]
   exact ⟨xs, st, 0, rfl, Stp.refl h, by simp⟩
theorem bXe {l : List (List Nat)} {st : PSt} (h : Good st.toks) : ∃ st', bar l st = some st' ∧ Stp st st' 0 := by
 obtain ⟨t, r, e, ht, h2, h3⟩ := eE h
 unfold bar
 by_cases hl : 0 < l.length
 ·rw [if_pos hl, nE ht]
  simp only [Option.bind_some]
  cases hc : nA st t 10 [93] with
  | true => exact ⟨st, by simp, Stp.refl h⟩
  | false =>
   obtain ⟨u, s1, a1, a2, a3⟩ := tM h 10 [124] 0 (fun _ => tIn (by simp)) (by simp)
   exact ⟨s1, by simp [a1], a2⟩
 ·rw [if_neg hl]
  exact ⟨st, rfl, Stp.refl h⟩
theorem bLa {E : PF} {b f : Nat} (HE : hO E b) (hf : b ≤ f) (h1 : 1 ≤ f) : qW (kB E f) b := by
 intro st h hb
 obtain ⟨l, s1, k, a1, a2, a3⟩ := aKg f st [] h (fun e => by have := hb e; omega) h1
 obtain ⟨s2, b1, b2⟩ := bXe (l := l) a2.good
 have S2 := a2.trans b2
 have lt : ∀ s : PSt, (∃ k, Stp st s k) → s.err = 0 → s.toks.length ≤ b := fun s ⟨k, S⟩ e => by
  have h1 := hb (S.ok e)
  have := S.len
  omega
 obtain ⟨ts, s3, c1, c2⟩ := aFc (f := f) S2.good (fun e => by have := lt s2 ⟨_, S2⟩ e; omega) h1
 have S3 := S2.trans c2
 obtain ⟨ks, s4, k4, d1, d2, d3⟩ := aBr HE f s3 [] S3.good (fun e => by have := lt s3 ⟨_, S3⟩ e; omega) h1
 have S4 := S3.trans d2
 obtain ⟨u, s5, e1, e2, e3⟩ := tM S4.good 10 [93] 0 (fun _ => tIn (by simp)) (by simp)
 have S5 := S4.trans e2
 refine ⟨.mk 9 [] 0 l ts ks, s5, by simp [kB, a1, b1, c1, d1, e1], ?_, Shp.flat _ _ _ _ _ _ (by decide)⟩
 have : fZ (.mk 9 [] 0 l ts ks) = k + 0 + ts.length + k4 + 0 := by
  simp [fZ, d3, fJ] at a3 ⊢
  omega
 rw [this]
 exact S5
theorem aRg {LI E : PF} {b f : Nat} (HL : qW LI b) (HE : hO E b) (hf : b ≤ f) (h1 : 1 ≤ f) : hO (dJ LI E f) (b + 1) := by
 intro st h hb
 obtain ⟨t, r, e, ht, h2, h3⟩ := eE h
 obtain ⟨x, c, s1, a1, a2, a3, a7⟩ := aGq h
 unfold dJ
 rw [a1]
 simp only [Option.bind_some]
 cases c with
 | true =>
  obtain ⟨b1, b2, b3, b4⟩ := a2 rfl
  exact ⟨x, s1, by simp, b1, fun e7 => absurd e7 a7, fun _ => b2⟩
 | false =>
  have := a3 rfl
  subst this
  simp only [Bool.false_eq_true, if_false, ht, Option.bind_some]
  by_cases he : s1.err = 0
  ·rw [if_pos he]
   by_cases k1 : t.kind = 1
   ·rw [if_pos k1]
    obtain ⟨s2, c1, c2, c3, c4, c5, c6, c7, c8⟩ := eF h ht (by omega)
    rw [c1]
    refine ⟨_, _, rfl, ?_, Shp.flat _ _ _ _ _ _ (by decide), fun _ => by show s2.toks.length < _; omega⟩
    have : fZ (.mk 5 t.text 0 [] [] []) = 1 := by simp [fZ, fJ]
    rw [this]
    exact c8 1 (by simp [T1, k1]) (by simp [T2, k1])
   ·rw [if_neg k1]
    by_cases k7 : t.kind = 7
    ·rw [if_pos k7]
     exact rM HL h ht (.inl k7) hb
    ·rw [if_neg k7, nE ht]
     simp only [Option.bind_some]
     cases hc : nA s1 t 10 [40] with
     | true =>
      simp only [if_true]
      exact rM (bNr HE) h ht (.inr (cZ hc).2) hb
     | false =>
      simp only [Bool.false_eq_true, if_false]
      rw [nE ht]
      simp only [Option.bind_some]
      cases hc2 : nA s1 t 10 [91] with
      | true =>
       simp only [if_true]
       exact rM (bLa HE hf h1) h ht (.inr (cZ hc2).2) hb
      | false =>
       simp only [Bool.false_eq_true, if_false]
       obtain ⟨f1, f2⟩ := qY h t 13 (by decide) (fZ zN)
       exact ⟨_, _, rfl, f1, Shp.flat _ _ _ _ _ _ (by decide), fun e => absurd e f2⟩
  ·rw [if_neg he]
   exact ⟨_, _, rfl, (Stp.refl h).any he _, Shp.flat _ _ _ _ _ _ (by decide), fun e => absurd e he⟩
theorem aMy {P : PF} {b g : Nat} (HP : hO P b) (hg : b ≤ g) (hg1 : 1 ≤ g) : ∀ (f : Nat) (st : PSt) (x : Node), Good st.toks → (st.err = 0 → st.toks.length ≤ f ∧ st.toks.length ≤ b + 1) → 1 ≤ f →
 ∃ y st' k, bU P g f x st = some (y, st') ∧ Stp st st' k ∧ fZ y = fZ x + k ∧ (Shp x → Shp y)
 | 0, st, x, h, hf, h1 => by omega
 | f + 1, st, x, h, hf, h1 => by
  obtain ⟨t, r, e, ht, h2, h3⟩ := eE h
  unfold bU
  rw [nE ht]
  simp only [Option.bind_some]
  cases hc : nA st t 3 [] with
  | false => exact ⟨x, st, 0, by simp, Stp.refl h, by simp, id⟩
  | true =>
   obtain ⟨c1, c2⟩ := cZ hc
   obtain ⟨hl1, hl2⟩ := hf c1
   obtain ⟨s1, a1, a2, a3, a4, a5, a6, a7, a8⟩ := eF h ht (by omega)
   have hp := a6.pos
   obtain ⟨q, s2, b1, b2, b3, b4⟩ := HP s1 a6 (fun _ => by omega)
   have hl := b2.len
   obtain ⟨u, s3, ku, d1, d2, d3, d4⟩ := aAz g s2 q b2.good (fun _ => by omega) hg1
   have hl3 := d2.len
   obtain ⟨y, st', k, k1, k2, k3, k4⟩ := aMy HP hg hg1 f s3 (aK t.text [x, u]) d2.good (fun _ => by omega) (by omega)
   refine ⟨y, st', 1 + fZ q + ku + k, by simp [a1, b1, d1, k1], (((a8 1 (by simp [T1, c2]) (by simp [T2, c2])).trans b2).trans d2).trans k2, ?_, fun _ => k4 (Shp.send _ _ _)⟩
   rw [k3, gX, cO, cO, dY, d3]
   omega
theorem bLb {P : PF} {b g : Nat} (HP : hO P b) (hg : b + 1 ≤ g) {st : PSt} (h : Good st.toks) (hb : st.err = 0 → st.toks.length ≤ b) :
 ∃ q s2 u s3 w s4, P st = some (q, s2) ∧ bZ g q s2 = some (u, s3) ∧ bU P g g u s3 = some (w, s4) ∧ Stp st s4 (fZ w) ∧ Shp w ∧ (s4.err = 0 → s4.toks.length < st.toks.length) := by
 obtain ⟨q, s2, b1, b2, b3, b4⟩ := HP st h hb
 have hl2 := b2.len
 obtain ⟨u, s3, ku, d1, d2, d3, d4⟩ := aAz g s2 q b2.good (fun e => by have := hb (b2.ok e); omega) (by omega)
 have hl3 := d2.len
 obtain ⟨w, s4, k, k1, k2, k3, k4⟩ := aMy (g := g) HP (by omega) (by omega) g s3 u d2.good (fun e => by have := hb (b2.ok (d2.ok e)); omega) (by omega)
 have hl4 := k2.len
 refine ⟨q, s2, u, s3, w, s4, b1, d1, k1, ?_, k4 (d4 b3), fun e => ?_⟩
 ·rw [k3, d3]
  exact (b2.trans d2).trans k2
 ·have := b4 (d2.ok (k2.ok e))
  omega
theorem aPt {P : PF} {b g : Nat} (HP : hO P b) (hg : b + 1 ≤ g) : ∀ (f : Nat) (st : PSt) (t : List Nat) (ks : List Node), Good st.toks → (st.err = 0 → st.toks.length ≤ f ∧ st.toks.length ≤ b + 1 ∧ t.length + st.toks.length * 10000 ≤ bQ) → 1 ≤ f → ks ≠ [] →
 ∃ y st' k, dW P g f t ks st = some (y, st') ∧ Stp st st' k ∧ fZ y = 1 + fJ ks + k ∧ Shp y
 | 0, st, t, ks, h, hf, h1, hk => by omega
 | f + 1, st, t, ks, h, hf, h1, hk => by
  obtain ⟨u, r, e, ht, h2, h3⟩ := eE h
  unfold dW
  rw [nE ht]
  simp only [Option.bind_some]
  cases hc : nA st u 2 [] with
  | false => exact ⟨aK t ks, st, 0, by simp, Stp.refl h, by rw [gX]; rfl, fun _ => ⟨t, ks, rfl, hk⟩⟩
  | true =>
   obtain ⟨c1, c2⟩ := cZ hc
   obtain ⟨hl1, hl2, hl3⟩ := hf c1
   obtain ⟨s1, a1, a2, a3, a4, a5, a6, a7, a8⟩ := eF h ht (by omega)
   have hp := a6.pos
   have htx := h.text a7
   obtain ⟨q, s2, w, s3, v, s4, b1, b2, b3, b4, b5, b6⟩ := bLb HP hg a6 (fun _ => by omega)
   have hl4 := b4.len
   obtain ⟨y, st', k, k1, k2, k3, k4⟩ := aPt HP hg f s4 (t ++ u.text) (ks ++ [v]) b4.good (fun _ => ⟨by omega, by omega, by
    have : s4.toks.length * 10000 ≤ s1.toks.length * 10000 := Nat.mul_le_mul_right _ hl4
    have e2 : st.toks.length * 10000 = s1.toks.length * 10000 + 10000 := by rw [← a5]; omega
    simp
    omega⟩) (by omega) (by simp)
   refine ⟨y, st', 0 + fZ v + k, ?_, ((a8 0 (by simp [T1, c2]) (by omega)).trans b4).trans k2, ?_, k4⟩
   ·simp only [if_true, a1, Option.bind_some]
    rw [if_pos (by omega)]
    simp [b1, b2, b3, k1]
   ·rw [k3, gB, cO, dY]; omega
theorem bIr {P : PF} {b g : Nat} (HP : hO P b) (hg : b + 2 ≤ g) (hb : b ≤ 1000000) {st : PSt} {x : Node} (h : Good st.toks) (hf : st.err = 0 → st.toks.length ≤ b + 1) :
 ∃ y st' k, iU P g x st = some (y, st') ∧ Stp st st' k ∧ fZ y = fZ x + k ∧ (Shp x → Shp y) ∧ ((∃ t, bD st 0 = some t ∧ nA st t 2 [] = true) → ∃ t ks, y = aK t (x :: ks)) := by
 obtain ⟨u, r, e, ht, h2, h3⟩ := eE h
 unfold iU
 rw [nE ht]
 simp only [Option.bind_some]
 cases hc : nA st u 2 [] with
 | false =>
  refine ⟨x, st, 0, by simp, Stp.refl h, by simp, id, ?_⟩
  rintro ⟨t, q1, q2⟩
  rw [ht] at q1
  cases q1
  rw [hc] at q2
  cases q2
 | true =>
  obtain ⟨c1, c2⟩ := cZ hc
  have hl := hf c1
  obtain ⟨s1, a1, a2, a3, a4, a5, a6, a7, a8⟩ := eF h ht (by omega)
  have hp := a6.pos
  have htx := h.text a7
  obtain ⟨q, s2, w, s3, v, s4, b1, b2, b3, b4, b5, b6⟩ := bLb (g := g) HP (by omega) a6 (fun _ => by omega)
  have hl4 := b4.len
  obtain ⟨g', rfl⟩ : ∃ g', g = g' + 1 := ⟨g - 1, by omega⟩
  have all : ∀ (f : Nat) (st : PSt) (t : List Nat) (ks : List Node) (y : Node) (st' : PSt), dW P (g' + 1) f t (x :: ks) st = some (y, st') → ∃ t ks, y = aK t (x :: ks) := by
   intro f
   induction f with
   | zero => intro st t ks y st' hk; cases hk
   | succ f ih =>
    intro st t ks y st' hk
    unfold dW at hk
    obtain ⟨c, _, hk⟩ := bC hk
    split at hk
    ·obtain ⟨_, _, hk⟩ := bC hk
     split at hk
     ·obtain ⟨_, _, hk⟩ := bC hk
      obtain ⟨_, _, hk⟩ := bC hk
      obtain ⟨_, _, hk⟩ := bC hk
      exact ih _ _ _ _ _ hk
     ·cases hk
    ·cases hk
     exact ⟨_, _, rfl⟩
  obtain ⟨y, st', k, k1, k2, k3, k4⟩ := aPt (g := g' + 1) HP (by omega) g' s4 ([] ++ u.text) ([x] ++ [v]) b4.good (fun _ => ⟨by omega, by omega, by
   have : s4.toks.length * 10000 ≤ 1000001 * 10000 := Nat.mul_le_mul_right _ (by omega)
   simp [bQ]
   omega⟩) (by omega) (by simp)
  have hres : dW P (g' + 1) (g' + 1) [] [x] st = some (y, st') := by
   unfold dW
   rw [nE ht, hc]
   simp only [Option.bind_some, if_true, a1]
   rw [if_pos (by simp [bQ]; omega)]
   simp only [Option.bind_some, b1, b2, b3]
   exact k1
  refine ⟨y, st', 1 + fZ v + k, by simpa using hres, ((a8 1 (by simp [T1, c2]) (by simp [T2, c2])).trans b4).trans k2, ?_, fun _ => k4, fun _ => all _ _ _ _ _ _ hres⟩
  rw [k3, gB, cO, cO, dY]; omega
theorem bKw : fZ zN = 1 := by simp [zN, fZ, fJ]
theorem mW (t : List Nat) (x : Node) (ks : List Node) : gF (aK t (x :: ks)) = aK t ks := by simp [gF, aK, Node.kids, Node.text]
theorem bYh {P : PF} {b g : Nat} (HP : hO P b) (hg : b + 2 ≤ g) (hb : b ≤ 1000000) {st : PSt} (h : Good st.toks) (hf : st.err = 0 → st.toks.length ≤ b + 1) :
 ∃ y st', pA P g st = some (y, st') ∧ Stp st st' (fZ (gF y)) := by
 obtain ⟨t, r, e, ht, h2, h3⟩ := eE h
 unfold pA
 rw [ht]
 simp only [Option.bind_some]
 have any : ∀ {y : Node} {st' : PSt} {k : Nat}, Stp st st' k → (st.err = 0 → k = fZ (gF y)) → Stp st st' (fZ (gF y)) := fun S hk => S.cast (fun e => hk (S.ok e))
 by_cases k1 : t.kind = 1
 ·rw [if_pos k1]
  obtain ⟨s1, a1, a2, a3, a4, a5, a6, a7, a8⟩ := eF h ht (by omega)
  rw [a1]
  refine ⟨_, _, rfl, ?_⟩
  rw [mW, gX, dY]
  exact a8 1 (by simp [T1, k1]) (by simp [T2, k1])
 ·rw [if_neg k1]
  by_cases k3 : t.kind = 3
  ·rw [if_pos k3]
   obtain ⟨s1, a1, a2, a3, a4, a5, a6, a7, a8⟩ := eF h ht (by omega)
   have hp := a6.pos
   obtain ⟨q, s2, b1, b2, b3, b4⟩ := HP s1 a6 (fun e => by have := hf (by rw [← a2]; exact e); omega)
   have hl := b2.len
   obtain ⟨u, s3, ku, d1, d2, d3, d4⟩ := aAz g s2 q b2.good (fun e => by have := hf (by rw [← a2]; exact b2.ok e); omega) (by omega)
   simp only [a1, Option.bind_some, b1, d1]
   refine ⟨_, _, rfl, ?_⟩
   rw [mW, gX, cO, dY, d3]
   have := ((a8 1 (by simp [T1, k3]) (by simp [T2, k3])).trans b2).trans d2
   have e2 : 1 + fZ q + ku = 1 + (fZ q + ku + 0) := by omega
   rwa [e2] at this
  ·rw [if_neg k3]
   by_cases k2 : t.kind = 2
   ·rw [if_pos k2]
    obtain ⟨y, st', k, b1, b2, b3, b4, b5⟩ := bIr (x := zN) HP hg hb h hf
    refine ⟨y, st', b1, b2.cast fun e => ?_⟩
    have he := b2.ok e
    obtain ⟨tt, ks, rfl⟩ := b5 ⟨t, ht, by simp [nA, he, k2]⟩
    rw [mW, gX]
    rw [gX, cO, bKw] at b3
    omega
   ·rw [if_neg k2]
    obtain ⟨f1, f2⟩ := qY h t 13 (by decide) (fZ (gF zN))
    exact ⟨_, _, rfl, f1⟩
theorem bSo {P : PF} {b g : Nat} (HP : hO P b) (hg : b + 2 ≤ g) (hb : b ≤ 1000000) : ∀ (f : Nat) (st : PSt) (ks : List Node), Good st.toks → (st.err = 0 → st.toks.length ≤ f ∧ st.toks.length ≤ b + 1) → 1 ≤ f →
 ∃ y st' k, kL P g f ks st = some (y, st') ∧ Stp st st' k ∧ fZ y = fJ ks + k ∧ Shp y
 | 0, st, ks, h, hf, h1 => by omega
 | f + 1, st, ks, h, hf, h1 => by
  obtain ⟨t, r, e, ht, h2, h3⟩ := eE h
  unfold kL
  rw [nE ht]
  simp only [Option.bind_some]
  cases hc : nA st t 10 [59] with
  | false => exact ⟨.mk 8 [] 0 [] [] ks, st, 0, by simp, Stp.refl h, by simp [fZ], Shp.flat _ _ _ _ _ _ (by decide)⟩
  | true =>
   obtain ⟨c1, c2⟩ := cZ hc
   obtain ⟨hl1, hl2⟩ := hf c1
   obtain ⟨s1, a1, a2, a3, a4, a5, a6, a7, a8⟩ := eF h ht (by omega)
   have hp := a6.pos
   obtain ⟨q, s2, b1, b2⟩ := bYh HP hg hb a6 (fun _ => by omega)
   have hl := b2.len
   obtain ⟨y, st', k, k1, k2, k3, k4⟩ := bSo HP hg hb f s2 (ks ++ [gF q]) b2.good (fun _ => by omega) (by omega)
   refine ⟨y, st', 0 + fZ (gF q) + k, by simp [a1, b1, k1], ((a8 0 (by simp [T1, c2]) (by omega)).trans b2).trans k2, ?_, k4⟩
   rw [k3, gB, cO, dY]; omega
theorem aBz {P : PF} {b g : Nat} (HP : hO P b) (hg : b + 2 ≤ g) (hb : b ≤ 1000000) : hO (gZ P g) b := by
 intro st h hbd
 obtain ⟨q, s2, u, s3, w, s4, b1, b2, b3, b4, b5, b6⟩ := bLb (g := g) HP (by omega) h hbd
 have hl4 := b4.len
 obtain ⟨y, s5, k, d1, d2, d3, d4, d5⟩ := bIr (x := w) HP hg hb b4.good (fun e => by have := hbd (b4.ok e); omega)
 have hl5 := d2.len
 obtain ⟨t, r, e, ht, h2, h3⟩ := eE d2.good
 have S5 := b4.trans d2
 have hS : Stp st s5 (fZ y) := by rw [d3]; exact S5
 have hlt : s5.err = 0 → s5.toks.length < st.toks.length := fun e => by
  have := b6 (d2.ok e)
  omega
 unfold gZ
 simp only [b1, Option.bind_some, b2, b3, d1]
 rw [nE ht]
 simp only [Option.bind_some]
 cases hc : nA s5 t 10 [59] with
 | false => exact ⟨y, s5, by simp, hS, d4 b5, hlt⟩
 | true =>
  obtain ⟨c1, c2⟩ := cZ hc
  simp only [if_true]
  by_cases k7 : y.kind = 7
  ·rw [if_pos k7]
   obtain ⟨tx, ks, rfl, hks⟩ := d4 b5 k7
   cases ks with
   | nil => exact absurd rfl hks
   | cons k0 ks =>
    have : (aK tx (k0 :: ks)).kids[0]? = some k0 := rfl
    rw [this]
    simp only [Option.bind_some, mW]
    have hl := hbd (S5.ok c1)
    obtain ⟨z, s6, k6, e1, e2, e3, e4⟩ := bSo HP hg hb g s5 [k0, aK tx ks] d2.good (fun _ => by omega) (by omega)
    have hl6 := e2.len
    refine ⟨z, s6, e1, ?_, e4, fun e => by have := hlt (e2.ok e); omega⟩
    have := hS.trans e2
    have ec : fZ (aK tx (k0 :: ks)) + k6 = fZ z := by
     rw [e3, gX, cO, cO, cO, dY, gX]; omega
    rwa [ec] at this
  ·rw [if_neg k7, ht]
   simp only [Option.bind_some]
   obtain ⟨f1, f2⟩ := qY d2.good t 13 (by decide) 0
   exact ⟨_, _, rfl, hS.trans f1, d4 b5, fun e => absurd e f2⟩
theorem bJa {P E : PF} {b g : Nat} (HP : hO P b) (HE : b = 0 ∨ hO E (b - 1)) (hg : b + 2 ≤ g) (hb : b ≤ 1000000) : hO (mB P E g) b := by
 intro st h hbd
 obtain ⟨t, r, e, ht, h2, h3⟩ := eE h
 obtain ⟨u, hu⟩ := bKa h
 unfold mB
 rw [nE ht]
 simp only [Option.bind_some]
 cases hc : nA st t 1 [] with
 | false =>
  simp only [Bool.false_eq_true, if_false, Option.bind_some]
  exact aBz HP hg hb st h hbd
 | true =>
  simp only [if_true, hu, Option.bind_some]
  by_cases k9 : u.kind = 9
  ·rw [decide_eq_true k9]
   simp only [if_true]
   obtain ⟨c1, c2⟩ := cZ hc
   obtain ⟨s1, a1, a2, a3, a4, a5, a6, a7, a8⟩ := eF h ht (by omega)
   have hu1 : bD s1 0 = some u := by
    have hp := a6.pos
    have e1 : st.toks.length - 1 = s1.toks.length := by omega
    unfold bD at hu ⊢
    rw [a7] at hu
    simp at hu ⊢
    rw [show min 1 s1.toks.length = 0 + 1 by omega] at hu
    simpa using hu
   obtain ⟨s2, b1, b2, b3, b4, b5, b6, b7, b8⟩ := eF a6 hu1 (by omega)
   have hl := hbd c1
   have hp := b6.pos
   have HE' : hO E (b - 1) := HE.resolve_left (by omega)
   obtain ⟨x, s3, d1, d2, d3, d4⟩ := HE' s2 b6 (fun _ => by omega)
   have hl3 := d2.len
   simp only [a1, Option.bind_some, b1, d1]
   refine ⟨_, _, rfl, ?_, Shp.flat _ _ _ _ _ _ (by decide), fun e => by show s3.toks.length < _; omega⟩
   have : fZ (.mk 6 t.text 0 [] [] [x]) = 1 + 0 + fZ x := by simp [fZ, fJ]
   rw [this]
   exact ((a8 1 (by simp [T1, c2]) (by simp [T2, c2])).trans (b8 0 (by simp [T1, k9]) (by omega))).trans d2
  ·rw [decide_eq_false k9]
   simp only [Bool.false_eq_true, if_false]
   exact aBz HP hg hb st h hbd
theorem bIe : ∀ (f : Nat), 3 ≤ f → qW (nQ f) (f - 3)
 | 0, h => by omega
 | f + 1, h => by
  by_cases h3 : f = 2
  ·subst h3
   intro st g hb
   have he : st.err ≠ 0 := fun e => by have := hb e; have := g.pos; omega
   unfold nQ fT dI
   rw [if_neg he]
   obtain ⟨t, s2, b1, b2, b3, c, b4, b5⟩ := bJi g
   have he2 : s2.err ≠ 0 := by rw [b2]; exact he
   refine ⟨.mk 4 [] 0 [] [] [], s2, by simp [b1], ⟨b3, fun _ => he2, c, b4, fun e => absurd e he2⟩, Shp.flat _ _ _ _ _ _ (by decide)⟩
  ·have := aNy (f := f) (bIe f (by omega)) (by omega)
   rw [show f - 3 + 1 = f + 1 - 3 by omega] at this
   exact this
theorem aGp (LI E : PF) (f : Nat) : hO (dJ LI E f) 0 := by
 intro st h hb
 have he : st.err ≠ 0 := fun e => by have := hb e; have := h.pos; omega
 obtain ⟨t, r, e, ht, h2, h3⟩ := eE h
 obtain ⟨x, c, s1, a1, a2, a3, a7⟩ := aGq h
 unfold dJ
 rw [a1]
 simp only [Option.bind_some]
 cases c with
 | true => exact absurd (a2 rfl).2.2.1 he
 | false =>
  have := a3 rfl
  subst this
  simp only [Bool.false_eq_true, if_false, ht, Option.bind_some]
  rw [if_neg he]
  exact ⟨_, _, rfl, (Stp.refl h).any he _, Shp.flat _ _ _ _ _ _ (by decide), fun e => absurd e he⟩
theorem aHi : ∀ (f : Nat), 3 ≤ f → f ≤ 1000000 → hO (dO f) (f - 3)
 | 0, h, _ => by omega
 | f + 1, h, hm => by
  by_cases h3 : f = 2
  ·subst h3
   exact bJa (b := 0) (g := 2) (aGp (nQ 2) (dO 2) 2) (.inl rfl) (by decide) (by decide)
  ·have HE := aHi f (by omega) (by omega)
   have HL := bIe f (by omega)
   have := bJa (P := dJ (nQ f) (dO f) f) (E := dO f) (b := f - 3 + 1) (g := f) (aRg HL HE (by omega) (by omega)) (.inr HE) (by omega) (by omega)
   rw [show f - 3 + 1 = f + 1 - 3 by omega] at this
   exact this
theorem bSh {f : Nat} {l : List Tok} (h : Good l) (hf : l.length + 3 ≤ f) (hm : f ≤ 1000000) : ∃ x at_ e, fF rH f (l, 0, 0) = some (x, at_, e) ∧ (e = 0 → rD l ≤ fZ x ∧ fZ x ≤ iW l) := by
 unfold fF
 rw [if_pos rfl]
 have h0 : Good (⟨l, 0, 0, 0⟩ : PSt).toks := h
 obtain ⟨ts, s2, b1, b2⟩ := aFc (f := f) h0 (fun _ => by show l.length ≤ f; omega) (by omega)
 have hl2 := b2.len
 have hl2 : s2.toks.length ≤ l.length := hl2
 obtain ⟨ks, s3, k, c1, c2, c3⟩ := aBr (aHi f (by omega) hm) f s2 [] b2.good (fun _ => by omega) (by omega)
 obtain ⟨u, s4, d1, d2, d3⟩ := tM c2.good 0 [] 0 (fun h => absurd rfl h) (fun _ => rfl)
 simp only [rH, Option.bind_some, b1, c1, d1]
 by_cases he : s4.err = 0
 ·rw [if_pos he]
  refine ⟨_, _, _, rfl, fun _ => ?_⟩
  have S := (b2.trans c2).trans d2
  obtain ⟨c, e1, e2⟩ := S.run
  have e1 : l = c ++ s4.toks := e1
  obtain ⟨e3, e4⟩ := e2 he
  obtain ⟨f1, f2⟩ := d3 he
  have hcn : fZ (Node.with (.mk 11 [100, 111, 73, 116] 0 [] [] []) ts ks) = ts.length + k + 0 := by
   simp [Node.with, fZ, c3, fJ]
  have hrest : s4.toks = s3.toks ∧ ∃ t, s3.toks = [t] ∧ t.kind = 0 := by
   obtain ⟨t, r, e, ht, h2, h3⟩ := eE c2.good
   unfold bL at d1
   rw [nE ht] at d1
   simp only [Option.bind_some] at d1
   cases hc : nA s3 t 0 [] with
   | false =>
    rw [hc] at d1
    simp only [Bool.false_eq_true, if_false, ht, Option.bind_some, bB, bW] at d1
    obtain ⟨_, rfl⟩ := d1
    exact absurd he (qY c2.good t 13 (by decide) 0).2
   | true =>
    rw [hc] at d1
    have hk := (cZ hc).2
    rw [if_pos rfl, aVc c2.good e hk] at d1
    simp only [bB, bW] at d1
    obtain ⟨_, rfl⟩ := d1
    exact ⟨rfl, t, by rw [e, h2 hk], hk⟩
  obtain ⟨r1, t, r2, r3⟩ := hrest
  rw [r1, r2] at e1
  rw [e1, hcn]
  simp only [rD, iW, List.map_append, List.sum_append, List.map_cons, List.map_nil, List.sum_cons, List.sum_nil] at e3 e4 ⊢
  have z1 : T1 t = 0 := by simp [T1, r3]
  have z2 : T2 t = 0 := by simp [T2, r3]
  omega
 ·rw [if_neg he]
  exact ⟨_, _, _, rfl, fun e => absurd e he⟩
end Go.Dd

namespace Go.Dd
open Go.Proofs
end Go.Dd

namespace Go.Dd
open Go.Proofs
end Go.Dd

namespace Go.Dd
open Go.Proofs
section
variable {I : Im} {A Q L : Ls} {s : List Nat} {p0 : Int} {k0 : Int} {m0 : Int} {b3 b4 : Pos} {z : List DV}
end
end Go.Dd

namespace Go.Dd
open Go.Proofs
theorem iJ {u : List Nat} (h : (aL u).2.1 = 0) : (aL u).1 = u.take (aL u).2.2 := by
 unfold aL at h ⊢
 split at h
 ·cases h
 ·rename_i hn
  rw [if_neg hn]
  exact (oR cY u).symm
theorem wF (u : List Nat) : (aL u).2.2 = (u.takeWhile cY).length := by
 unfold aL; split <;> rfl
theorem aFu {u : List Nat} (h : cT u = true) : ∃ v, u = 58 :: v := by
 unfold cT at h
 cases u with
 | nil => simp [nx] at h
 | cons c v =>
  simp [nx] at h
  exact ⟨v, by rw [h.1]⟩
theorem oM {u : List Nat} {n : Nat} (h : cT (u.drop n) = true) : u.take (n + 1) = u.take n ++ [58] := by
 obtain ⟨v, e⟩ := aFu h
 have : u[n]? = some 58 := by
  have : (u.drop n)[0]? = some 58 := by rw [e]; rfl
  simpa [aJ] using this
 rw [List.take_add_one, this]
 rfl
theorem mY : ∀ (f : Nat) (out u : List Nat) (res : List Nat × Int × Nat), nF f out u = some res → res.2.2 ≤ u.length ∧ (res.2.1 = 0 → res.1 = out ++ u.take res.2.2) := by
 intro f
 induction f with
 | zero => intro out u res h; cases h
 | succ f ih =>
  intro out u res h
  unfold nF at h
  have hn := jM u
  split at h
  ·split at h
   ·rename_i h1 h2
    have hc := iQ h2
    simp at hc
    split at h
    ·rename_i h3
     obtain ⟨r, hr, h⟩ := bC h
     cases h
     obtain ⟨a1, a2⟩ := ih _ _ _ hr
     simp at a1
     refine ⟨by show r.2.2 + ((aL u).2.2 + 1) ≤ _; omega, fun he => ?_⟩
     show r.1 = out ++ u.take (r.2.2 + ((aL u).2.2 + 1))
     rw [a2 he, iJ h3, Nat.add_comm r.2.2, List.take_add, oM h2]
     simp
    ·cases h
     refine ⟨by show (aL u).2.2 + 1 ≤ _; omega, fun he => ?_⟩
     rename_i h3
     exact absurd he h3
   ·cases h
    exact ⟨by simp, fun _ => by simp⟩
  ·cases h
   exact ⟨by simp, fun _ => by simp⟩
theorem lL {f : Nat} {u : List Nat} {res : List Nat × Int × Nat} (h : dS f u = some res) : res.2.2 ≤ u.length ∧ (res.2.1 = 0 → res.1 = u.take res.2.2) := by
 unfold dS at h
 have hn := jM u
 split at h
 ·split at h
  ·split at h
   ·rename_i h3
    split at h
    ·rename_i h4
     obtain ⟨r, hr, h⟩ := bC h
     cases h
     have hc := iQ h4
     simp at hc
     obtain ⟨a1, a2⟩ := mY _ _ _ _ hr
     simp at a1
     refine ⟨by show r.2.2 + ((aL u).2.2 + 1) ≤ _; omega, fun he => ?_⟩
     show r.1 = u.take (r.2.2 + ((aL u).2.2 + 1))
     rw [a2 he, iJ h3, Nat.add_comm r.2.2, List.take_add, oM h4]
    ·cases h
     exact ⟨hn, fun _ => iJ h3⟩
   ·cases h
    rename_i h3
    exact ⟨hn, fun he => absurd he h3⟩
  ·cases h
   exact ⟨by simp, fun he => (by cases he)⟩
 ·cases h
  exact ⟨pD _ _ _, fun _ => rfl⟩
section
variable {I : Im} {A Q L : Ls} {s : List Nat} {b3 b4 : Pos} {z : List DV}
end
end Go.Dd

namespace Go.Dd
theorem bIb : ∀ (f : Nat) (out u : List Nat), u.length < f → ∃ res, jQ f out u = some res ∧ res.2.2 ≤ u.length ∧ (res.2.1 = 0 → 1 ≤ res.2.2 ∧ res.1.length ≤ out.length + u.length)
 | 0, out, u, h => by omega
 | f + 1, out, u, h => by
  have hl := oZ cK u
  unfold jQ
  by_cases h1 : (u.takeWhile cK).length = u.length
  ·rw [if_pos h1]
   exact ⟨_, rfl, Nat.le_refl _, fun e => by cases e⟩
  ·rw [if_neg h1]
   by_cases h2 : nx u ((u.takeWhile cK).length + 1) = 39
   ·rw [if_pos h2]
    have h3 : (u.takeWhile cK).length + 1 < u.length := by
     apply Decidable.byContradiction
     intro hn
     rw [nx, List.getD, List.getElem?_eq_none (by omega)] at h2
     cases h2
    obtain ⟨res, a1, a2, a3⟩ := bIb f (out ++ u.takeWhile cK ++ [39]) (u.drop ((u.takeWhile cK).length + 2)) (by simp; omega)
    rw [a1]
    simp at a2
    refine ⟨_, rfl, by show res.2.2 + _ ≤ _; omega, fun e => ?_⟩
    obtain ⟨b1, b2⟩ := a3 e
    simp at b2
    refine ⟨by show 1 ≤ res.2.2 + _; omega, ?_⟩
    show res.1.length ≤ _
    omega
   ·rw [if_neg h2]
    refine ⟨_, rfl, by show _ + 1 ≤ _; omega, fun _ => ⟨by show 1 ≤ _ + 1; omega, ?_⟩⟩
    show (out ++ u.takeWhile cK).length ≤ _
    simp
    omega
theorem bIx : ∀ (f : Nat) (out u : List Nat), u.length < f → ∃ res, nF f out u = some res
 | 0, out, u, h => by omega
 | f + 1, out, u, h => by
  unfold nF
  split
  ·split
   ·rename_i h1 h2
    split
    ·have hc := iQ h2
     simp at hc
     obtain ⟨res, a1⟩ := bIx f (out ++ ((aL u).1 ++ [58])) (u.drop ((aL u).2.2 + 1)) (by simp; omega)
     rw [a1]
     exact ⟨_, rfl⟩
    ·exact ⟨_, rfl⟩
   ·exact ⟨_, rfl⟩
  ·exact ⟨_, rfl⟩
theorem oV {u : List Nat} (h : bK (nx u 0) = true) : 1 ≤ (aL u).2.2 := by
 rw [wF]
 cases u with
 | nil => simp [nx, bK] at h
 | cons c u =>
  have : cY c = true := by
   have : bK c = true := h
   simp [cY, this]
  simp [this]
theorem bBh {f : Nat} {u : List Nat} (h : u.length < f) : ∃ res, dS f u = some res := by
 unfold dS
 split
 ·split
  ·split
   ·split
    ·obtain ⟨res, a1⟩ := bIx f ((aL u).1 ++ [58]) (u.drop ((aL u).2.2 + 1)) (by simp; omega)
     rw [a1]
     exact ⟨_, rfl⟩
    ·exact ⟨_, rfl⟩
   ·exact ⟨_, rfl⟩
  ·exact ⟨_, rfl⟩
 ·exact ⟨_, rfl⟩
theorem aLd {l : List Nat} {m : Nat} (hm : 1 ≤ m) {u : List Nat} (hu : u ≠ []) (h : cV l (nx u 0) = true) : 1 ≤ bJ (cV l) m u := by
 obtain ⟨m, rfl⟩ : ∃ k, m = k + 1 := ⟨m - 1, by omega⟩
 cases u with
 | nil => exact absurd rfl hu
 | cons c u =>
  have : cV l c = true := h
  simp [bJ, this]
theorem aYk {f : Nat} {u : List Nat} (hu : u ≠ []) (h : u.length < f) : ∃ res, bA f u = some res ∧ (res.2.2.2.1 = 0 → 1 ≤ res.2.2.2.2 ∧ res.2.2.2.2 ≤ u.length ∧ res.1 ≠ 0 ∧ res.2.1.length ≤ u.length) := by
 have hn := jM u
 have hf := kF u
 have hpos : 1 ≤ u.length := by cases u with
  | nil => exact absurd rfl hu
  | cons => simp
 unfold bA
 by_cases h1 : bK (nx u 0) = true
 ·have hp := oV h1
  rw [if_pos h1]
  by_cases h2 : (aL u).2.1 = 0
  ·rw [if_pos h2]
   by_cases h3 : cT (u.drop (aL u).2.2) = true
   ·rw [if_pos h3]
    have hc := iQ h3
    simp at hc
    refine ⟨_, rfl, fun _ => ⟨by show 1 ≤ _ + 1; omega, by show _ + 1 ≤ _; omega, by show (2 : Int) ≠ 0; decide, ?_⟩⟩
    show ((aL u).1 ++ [58]).length ≤ _
    simp; omega
   ·rw [if_neg h3]
    exact ⟨_, rfl, fun _ => ⟨hp, hn, by show (1 : Int) ≠ 0; decide, by show (aL u).1.length ≤ _; omega⟩⟩
  ·rw [if_neg h2]
   exact ⟨_, rfl, fun e => absurd e h2⟩
 ·rw [if_neg h1]
  by_cases h2 : aW (nx u 0) = true
  ·rw [if_pos h2]
   have hl := oZ aW u
   refine ⟨_, rfl, fun _ => ⟨?_, hl, by show (4 : Int) ≠ 0; decide, by simp⟩⟩
   show 1 ≤ (u.takeWhile aW).length
   cases u with
   | nil => exact absurd rfl hu
   | cons c u =>
    have : aW c = true := h2
    simp [this]
  ·rw [if_neg h2]
   by_cases h3 : nx u 0 = 39
   ·rw [if_pos h3]
    obtain ⟨res, a1, a2, a3⟩ := bIb f [] (u.drop 1) (by simp; omega)
    rw [a1]
    simp at a2
    refine ⟨_, rfl, fun e => ?_⟩
    obtain ⟨b1, b2⟩ := a3 e
    simp at b2
    exact ⟨by show 1 ≤ res.2.2 + 1; omega, by show res.2.2 + 1 ≤ _; omega, by show (5 : Int) ≠ 0; decide, by show res.1.length ≤ _; omega⟩
   ·rw [if_neg h3]
    by_cases h4 : nx u 0 = 35
    ·rw [if_pos h4]
     by_cases h5 : nx u 1 = 40
     ·rw [if_pos h5]
      have : 1 < u.length := by
       apply Decidable.byContradiction
       intro hn
       rw [nx, List.getD, List.getElem?_eq_none (by omega)] at h5
       cases h5
      exact ⟨_, rfl, fun _ => ⟨by show 1 ≤ 2; omega, by show 2 ≤ _; omega, by show (7 : Int) ≠ 0; decide, by simp⟩⟩
     ·rw [if_neg h5]
      obtain ⟨res, a1⟩ := bBh (f := f) (u := u.drop 1) (by simp; omega)
      obtain ⟨b1, b2⟩ := lL a1
      rw [a1]
      simp at b1
      refine ⟨_, rfl, fun e => ⟨by show 1 ≤ res.2.2 + 1; omega, by show res.2.2 + 1 ≤ _; omega, by show (6 : Int) ≠ 0; decide, ?_⟩⟩
      show res.1.length ≤ _
      rw [b2 e]
      simp; omega
    ·rw [if_neg h4]
     by_cases h5 : nx u 0 = 58 ∧ nx u 1 = 61
     ·rw [if_pos h5]
      have : 1 < u.length := by
       apply Decidable.byContradiction
       intro hn
       have := h5.2
       rw [nx, List.getD, List.getElem?_eq_none (by omega)] at this
       cases this
      exact ⟨_, rfl, fun _ => ⟨by show 1 ≤ 2; omega, by show 2 ≤ _; omega, by show (9 : Int) ≠ 0; decide, by simp⟩⟩
     ·rw [if_neg h5]
      by_cases h6 : nx u 0 = 58 ∧ bK (nx u 1) = true
      ·rw [if_pos h6]
       have n1 := jM (u.drop 1)
       have n2 := kF (u.drop 1)
       rw [List.length_drop] at n1
       exact ⟨_, rfl, fun _ => ⟨by show 1 ≤ _ + 1; omega, by show _ + 1 ≤ _; omega, by show (8 : Int) ≠ 0; decide, by show (aL (u.drop 1)).1.length ≤ _; omega⟩⟩
      ·rw [if_neg h6]
       by_cases h7 : cV signs (nx u 0) = true
       ·rw [if_pos h7]
        have r1 := aLd (m := 2) (by omega) hu h7
        have r2 := pD (cV signs) 2 u
        refine ⟨_, rfl, fun _ => ⟨r1, r2, by show (3 : Int) ≠ 0; decide, ?_⟩⟩
        show (u.take _).length ≤ _
        simp; omega
       ·rw [if_neg h7]
        by_cases h8 : cV dQ (nx u 0) = true
        ·rw [if_pos h8]
         have r1 := aLd (m := 1) (by omega) hu h8
         have r2 := pD (cV dQ) 1 u
         refine ⟨_, rfl, fun _ => ⟨r1, r2, by show (10 : Int) ≠ 0; decide, ?_⟩⟩
         show (u.take _).length ≤ _
         simp; omega
        ·rw [if_neg h8]
         exact ⟨_, rfl, fun e => (by cases e)⟩
theorem aWq {g : Nat} {s : List Nat} (hg : s.length < g) (hs : s.length ≤ 10000) : ∀ (f i : Nat) (out : List Tok), i ≤ s.length → s.length < f + i → ∃ res, iY g s f i out = some res ∧
 (res.2.2 = 0 → ∃ l e, res.1 = out ++ l ++ [e] ∧ e.kind = 0 ∧ e.text = [] ∧ (∀ t ∈ l, t.kind ≠ 0 ∧ t.text.length ≤ 10000) ∧ l.length + i ≤ s.length)
 | 0, i, out, hi, hf => by omega
 | f + 1, i, out, hi, hf => by
  unfold iY
  have hle := oZ (cV cG) (s.drop i)
  have hdl : (s.drop i).length = s.length - i := by simp
  generalize hw : ((s.drop i).takeWhile (cV cG)).length = w at hle
  by_cases h1 : s.length ≤ i + w
  ·rw [if_pos h1]
   exact ⟨_, rfl, fun _ => ⟨[], _, by simp; rfl, rfl, rfl, by simp, by simp; omega⟩⟩
  ·rw [if_neg h1]
   by_cases h2 : nx s (i + w) = 34
   ·rw [if_pos h2]
    by_cases h3 : cX 34 (s.drop (i + w + 1)) 0 < 0
    ·rw [if_pos h3]
     exact ⟨_, rfl, fun e => (by cases e)⟩
    ·rw [if_neg h3]
     obtain ⟨k, k1, k2⟩ := mM 34 _ _ h3
     rw [k2]
     simp at k1
     simp only [Nat.zero_add, Int.toNat_natCast]
     obtain ⟨res, a1, a2⟩ := aWq hg hs f (i + w + k + 2) out (by omega) (by omega)
     refine ⟨res, a1, fun e => ?_⟩
     obtain ⟨l, e', b1, b2, b3, b4, b5⟩ := a2 e
     exact ⟨l, e', b1, b2, b3, b4, by omega⟩
   ·rw [if_neg h2]
    have hu : s.drop (i + w) ≠ [] := by
     intro h
     have := congrArg List.length h
     simp at this
     omega
    obtain ⟨rs, c1, c2⟩ := aYk (f := g) hu (by simp; omega)
    rw [c1]
    simp only [Option.bind_some]
    by_cases h4 : rs.2.2.2.1 = 0
    ·rw [if_pos h4]
     obtain ⟨d1, d2, d3, d4⟩ := c2 h4
     rw [if_neg (by omega)]
     simp at d2 d4
     obtain ⟨res, a1, a2⟩ := aWq hg hs f (i + w + rs.2.2.2.2) (out ++ [⟨rs.1, rs.2.1, rs.2.2.1, ((i + w : Nat) : Int)⟩]) (by omega) (by omega)
     refine ⟨res, a1, fun e => ?_⟩
     obtain ⟨l, e', b1, b2, b3, b4, b5⟩ := a2 e
     refine ⟨⟨rs.1, rs.2.1, rs.2.2.1, ((i + w : Nat) : Int)⟩ :: l, e', by rw [b1]; simp, b2, b3, ?_, by simp; omega⟩
     intro t ht
     rcases List.mem_cons.1 ht with rfl | ht
     ·exact ⟨d3, by show rs.2.1.length ≤ _; omega⟩
     ·exact b4 t ht
    ·rw [if_neg h4]
     exact ⟨_, rfl, fun e => absurd e h4⟩
theorem bNj {s : List Nat} (hs : s.length ≤ 2000) : ∃ res, nD 2001 2001 s = some res ∧ (res.2.2 = 0 → Good res.1 ∧ res.1.length ≤ 2001) := by
 unfold nD
 rw [if_neg (by omega)]
 obtain ⟨res, a1, a2⟩ := aWq (g := 2001) (s := s) (by omega) (by omega) 2001 0 [] (by omega) (by omega)
 refine ⟨res, a1, fun e => ?_⟩
 obtain ⟨l, e', b1, b2, b3, b4, b5⟩ := a2 e
 rw [b1]
 simp only [List.nil_append]
 refine ⟨⟨l, e', rfl, b2, fun t ht => (b4 t ht).1, fun t ht => ?_⟩, by simp; omega⟩
 rcases List.mem_append.1 ht with ht | ht
 ·exact (b4 t ht).2
 ·simp at ht
  subst ht
  rw [b3]; simp
end Go.Dd

namespace Go.Dd
open Go.Proofs
section
variable {I : Im} {A Q L : Ls} {s : List Nat} {b4 b7 : Pos} {z : List DV}
end
end Go.Dd

namespace Go.Dd
open Go.Proofs
theorem bUb {a b : Nat} (h : a + b ≤ bQ) : IntKind.i64.wrap ((a : Int) + (b : Int)) = ((a + b : Nat) : Int) := by
 rw [gV _ (by omega) (by simp [bQ] at h ⊢; omega)]
 omega
theorem rB {a : Nat} (h : a + 1 ≤ bQ) : IntKind.i64.wrap ((a : Int) + Int.ofNat 1) = ((a + 1 : Nat) : Int) := bUb (b := 1) h
def NC (b : Pos) (k : Int) (t : List Nat) (m : Int) (s1 s2 s3 : DV) : Pos × Option Ob := (b, some (.row .ex [.i .i64 k, .s t, .i .i64 m, s1, s2, s3]))
end Go.Dd

namespace Go.Dd
open Go.Proofs
mutual
def nEq : Node → Node → Bool
 | .mk k t m ns ts ks, .mk k' t' m' ns' ts' ks' => decide (ns = ns') && decide (ts = ts') && decide (k = k') && decide (t = t') && decide (m = m') && mE ks ks'
def mE : List Node → List Node → Bool
 | [], [] => true
 | x :: l, y :: l' => nEq x y && mE l l'
 | _, _ => false
end
mutual
theorem lV : ∀ (x : Node), nEq x x = true
 | .mk k t m ns ts ks => by simp [nEq, wH ks]
theorem wH : ∀ (x : List Node), mE x x = true
 | [] => rfl
 | x :: l => by simp [mE, lV x, wH l]
end
theorem tX : ∀ (x y : List Node), x.length ≠ y.length → mE x y = false
 | [], [], h => absurd rfl h
 | [], _ :: _, h => rfl
 | _ :: _, [], h => rfl
 | x :: l, y :: l', h => by
  simp at h
  simp [mE, tX l l' h]
theorem aPj (n : Nat) (x y : DV) (h : Hp) : aI (n + 1) 28 [x, y] h = s28 (aI n) n x y h := by kernel_rfl
theorem SS.at {I : Im} {s : DV} {l : List (List Nat)} (H : SS I s l) {A Q L : Ls} {h : Hp} (S : Sy I A Q L h) {i : Nat} {x : List Nat} (hi : l[i]? = some x) :
 ∃ b o, (∀ h', aT 1 s (.i .i64 (i : Int)) h' = some (.p b o, h')) ∧ aB (.p b o) h = some (.s x, h) := by
 obtain ⟨hlt, hg⟩ := List.getElem?_eq_some_iff.1 hi
 obtain ⟨b, o, e, k, row, g, rest, d⟩ := H.2.at S hlt
 refine ⟨b, o, e, ld1 g ?_ rfl⟩
 have e2 : row[o]? = (row.drop o)[0]? := by simp
 rw [e2, d, Nat.mul_one, List.drop_eq_getElem_cons (by simpa using hlt)]
 simp [hg]
section
variable {I : Im} {A Q L : Ls}
theorem aGa {h : Hp} {s1 s2 : DV} {l1 l2 : List (List Nat)} (S : Sy I A Q L h) (N1 : SS I s1 l1) (N2 : SS I s2 l2) : ∀ (r1 r2 : List (List Nat)) (i j : Nat), l1.drop i = r1 → l2.drop i = r2 → r1.length = r2.length → i ≤ l1.length →
 Ev (fun n => kV (aI n) n (n - j) s1 s2 (.i .i64 (i : Int)) h) (fun v h' => v = .b (decide (r1 = r2)) ∧ h' = h) := by
 intro r1
 induction r1 with
 | nil =>
  intro r2 i j e1 e2 hl hi
  refine bZl j (ll := fun n p => kV (aI n) n p s1 s2 (.i .i64 (i : Int)) h) (bb := fun n p => qK (aI n) n (kV (aI n) n p) s1 s2 (.i .i64 (i : Int)) h) (fun _ _ => rfl) ?_
  have h2 : r2 = [] := by cases r2 with
   | nil => rfl
   | cons => simp at hl
  subst h2
  have hl2 : i = l1.length := by
   have := congrArg List.length e1
   simp at this
   omega
  unfold qK
  refine Ev.op (N1.2.len _) (cAa (fun k => ?_) (fun k => ?_))
  ·omega
  ·refine yj ?_
   unfold gQ
   exact bZg ⟨by simp, rfl⟩
 | cons x r1 ih =>
  intro r2 i j e1 e2 hl hi
  refine bZl j (ll := fun n p => kV (aI n) n p s1 s2 (.i .i64 (i : Int)) h) (bb := fun n p => qK (aI n) n (kV (aI n) n p) s1 s2 (.i .i64 (i : Int)) h) (fun _ _ => rfl) ?_
  obtain ⟨y, r2, rfl⟩ : ∃ y r, r2 = y :: r := by cases r2 with
   | nil => simp at hl
   | cons y r => exact ⟨y, r, rfl⟩
  have hx : l1[i]? = some x := dA0 e1
  have hy : l2[i]? = some y := dA0 e2
  have hlt := (gLt hx)
  have e1' : l1.drop (i + 1) = r1 := dA1 e1
  have e2' : l2.drop (i + 1) = r2 := dA1 e2
  obtain ⟨b1, o1, p1, q1⟩ := N1.at S hx
  obtain ⟨b2, o2, p2, q2⟩ := N2.at S hy
  have hb := N1.1
  unfold qK
  refine Ev.op (N1.2.len _) (cAa (fun k => ?_) (fun k => ?_))
  ·refine yt ?_
   refine Ev.op (p1 _) (Ev.op q1 (Ev.op (p2 _) (Ev.op q2 ?_)))
   refine cBu (fun k2 => ?_) (fun k2 => ?_)
   ·refine yt ?_
    exact bZg ⟨by simp [k2], rfl⟩
   ·refine yj ?_
    refine bZo ?_
    rw [rB (by omega)]
    refine (ih r2 (i + 1) (j + 1) e1' e2' (by simpa using hl) (by omega)).mono ?_
    rintro v h' ⟨rfl, rfl⟩
    exact ⟨by simp [k2], rfl⟩
  ·omega
theorem aDo {h : Hp} {s1 s2 : DV} {l1 l2 : List (List Nat)} (S : Sy I A Q L h) (N1 : SS I s1 l1) (N2 : SS I s2 l2) :
 Ev (fun n => aI n 28 [s1, s2] h) (fun v h' => v = .b (decide (l1 = l2)) ∧ h' = h) := by
 refine Ev.enter (fun n => aPj n _ _ h) ?_
 unfold s28 aNa
 refine Ev.op (N1.2.len _) (Ev.op (N2.2.len _) (bZy (fun e => ?_) (fun e => ?_)))
 ·refine yt ?_
  refine bZg ⟨?_, rfl⟩
  have : l1 ≠ l2 := fun h => e (by rw [h])
  simp [this]
 ·refine yj ?_
  unfold aId aIo
  exact aGa S N1 N2 l1 l2 0 0 (by simp) (by simp) (by omega) (by omega)
end
theorem aNm {I : Im} {A Q L : Ls} {h : Hp} {b b' : Pos} {k m k' m' : Int} {t t' : List Nat} {s1 s2 s3 s1' s2' s3' : DV} {c1 c2 : Bool} {ks ks' : List Node}
 (S : Sy I A Q (NC b' k' t' m' s1' s2' s3' :: NC b k t m s1 s2 s3 :: L) h) (h3 : NS I s3 ks) (h3' : NS I s3' ks') (o1 : s1.one = true) (o2 : s2.one = true) (o1' : s1'.one = true) (o2' : s2'.one = true)
 (loop : ks.length = ks'.length → Ev (fun n => jZ (aI n) n (n - 0) (.p b 0) (.p b' 0) (.i .i64 ((0 : Nat) : Int)) h) (fun v h' => v = .b (mE ks ks') ∧ Sy I A Q (NC b' k' t' m' s1' s2' s3' :: NC b k t m s1 s2 s3 :: L) h')) :
 Ev (fun n => aDj (aI n) n (.p b 0) (.p b' 0) (.b c1) (.b c2) h) (fun v h' => v = .b (c1 && c2 && decide (k = k') && decide (t = t') && decide (m = m') && mE ks ks') ∧ Sy I A Q L h') := by
 unfold aDj
 unfold NC at S
 have o3 := h3.one
 have o3' := h3'.one
 cases c1 with
 | false =>
  refine ao (yg (yg (ap (yg (yg (yg (yg (yg (ap (yg (yg (yg (yg (yg (ap (yg (yg (yg (yg (yg (ap (yg (yg (yg (yg (yg (yg (yg (ap (yt ?_))))))))))))))))))))))))))))))
  exact bZg ⟨by simp, dp⟩
 | true =>
  cases c2 with
  | false =>
   refine an (zf (wm (zf (ao (aq (yg (yg (yg (yg (yg (ap (yg (yg (yg (yg (yg (ap (yg (yg (yg (yg (yg (ap (yg (yg (yg (yg (yg (yg (yg (ap (yt ?_))))))))))))))))))))))))))))))))
   exact bZg ⟨by simp, dp⟩
  | true =>
   refine an (zf (wm (zf (an (aq (zf (wf (zf ?_)))))))); refine wl ?_; refine zf (wf (zf ?_)); refine wl ?_; refine zf ?_
   refine bZy (fun e1 => ?_) (fun e1 => ?_)
   ·refine aq (yg (yg (yg (yg (yg (ap (yg (yg (yg (yg (yg (ap (yg (yg (yg (yg (yg (yg (yg (ap (yt ?_)))))))))))))))))))))
    exact bZg ⟨by simp [e1], dp⟩
   ·refine aq (zf (wf (zf ?_))); refine wl ?_; refine zf (wf (zf ?_)); refine wl ?_; refine zf ?_
    refine cBu (fun e2 => ?_) (fun e2 => ?_)
    ·refine aq (yg (yg (yg (yg (yg (ap (yg (yg (yg (yg (yg (yg (yg (ap (yt ?_)))))))))))))))
     exact bZg ⟨by simp [e2], dp⟩
    ·refine aq (zf (wf (zf ?_))); refine wl ?_; refine zf (wf (zf ?_)); refine wl ?_; refine zf ?_
     refine bZy (fun e3 => ?_) (fun e3 => ?_)
     ·refine aq (yg (yg (yg (yg (yg (yg (yg (ap (yt ?_)))))))))
      exact bZg ⟨by simp [e3], dp⟩
     ·refine aq (zf (wf (zf ?_))); refine wl ?_; refine zf ?_
      refine Ev.op (h3.len _) ?_
      refine zf (wf (zf ?_)); refine wl ?_; refine zf ?_
      refine Ev.op (h3'.len _) ?_
      refine zf ?_
      refine bZy (fun e4 => ?_) (fun e4 => ?_)
      ·refine aq (yt ?_)
       refine bZg ⟨?_, dp⟩
       rw [tX ks ks' (by omega)]
       simp
      ·refine aq (yj ?_)
       unfold aKs aMn
       refine (loop (by omega)).mono ?_
       rintro v h' ⟨rfl, S'⟩
       exact ⟨by simp [e1, e2, e3], S'.dropL.dropL⟩
mutual
theorem xV : ∀ (x y : Node) (I : Im) (A Q L : Ls) (h : Hp) (cs cs' : List DV), Sy I A Q L h → NV I x cs → NV I y cs' → Ev (fun n => aI n 16 [.a cs, .a cs'] h) (fun v h' => v = .b (nEq x y) ∧ Sy I A Q L h')
 | .mk k t m ns ts ks, .mk k' t' m' ns' ts' ks', I, A, Q, L, h, cs, cs', S, ⟨s1, s2, s3, e, a1, a2, a3, cells, F, NL⟩, ⟨s1', s2', s3', e', a1', a2', a3', cells', F', NL'⟩ => by
  subst e
  subst e'
  have o1 := a1.2.one
  have o2 := a2.2.one
  have o3 := F.one
  have o1' := a1'.2.one
  have o2' := a2'.2.one
  have o3' := F'.one
  refine Ev.enter (fun n => aZw n _ _ h) ?_
  unfold s16
  refine Ev.box S rfl (fun b h1 S1 => ?_)
  refine Ev.box S1 rfl (fun b' h2 S2 => ?_)
  unfold aLp
  refine wf ?_; refine wl ?_; refine wf ?_; refine wl ?_
  refine bZe (aDo S2 a1 a1') ?_
  rintro _ _ ⟨rfl, rfl⟩
  unfold aNf
  refine wf ?_; refine wl ?_; refine wf ?_; refine wl ?_
  refine bZe (aDo S2 a2 a2') ?_
  rintro _ _ ⟨rfl, rfl⟩
  simp only [nEq]
  refine aNm (by exact S2) ⟨a3, cells, F, NL⟩ ⟨a3', cells', F', NL'⟩ o1 o2 o1' o2' ?_
  intro hl
  exact wG ks ks' I A Q L _ _ _ [] [] b b' k k' t t' m m' s1 s2 s3 s1' s2' s3' ks ks' 0 0 ⟨a3, cells, F, NL⟩ ⟨a3', cells', F', NL'⟩ (by simp) (by simp) hl (by omega) S2 rfl rfl o3 o3'
theorem wG : ∀ (r r' : List Node) (I : Im) (A Q L : Ls) (h : Hp) (c c' : List DV) (L0 L1 : Ls) (b b' : Pos) (k k' : Int) (t t' : List Nat) (m m' : Int) (s1 s2 s3 s1' s2' s3' : DV) (ks ks' : List Node) (i j : Nat), NS I s3 ks → NS I s3' ks' → ks.drop i = r → ks'.drop i = r' → r.length = r'.length → i ≤ ks.length →
 Sy I A Q ((b', some (.row .ex c')) :: (b, some (.row .ex c)) :: L) h → c[5]? = some s3 → c'[5]? = some s3' → s3.one = true → s3'.one = true →
 Ev (fun n => jZ (aI n) n (n - j) (.p b 0) (.p b' 0) (.i .i64 (i : Int)) h) (fun v h' => v = .b (mE r r') ∧ Sy I A Q ((b', some (.row .ex c')) :: (b, some (.row .ex c)) :: L) h')
 | [], r', I, A, Q, L, h, c, c', L0, L1, b, b', k, k', t, t', m, m', s1, s2, s3, s1', s2', s3', ks, ks', i, j, N, N', hr, hr', hl, hi, S, g, g', o3, o3' => by
  have h2 : r' = [] := by cases r' with
   | nil => rfl
   | cons => simp at hl
  subst h2
  refine bZl j (ll := fun n p => jZ (aI n) n p (.p b 0) (.p b' 0) (.i .i64 (i : Int)) h) (bb := fun n p => qA (aI n) n (jZ (aI n) n p) (.p b 0) (.p b' 0) (.i .i64 (i : Int)) h) (fun _ _ => rfl) ?_
  have hl2 : i = ks.length := by
   have := congrArg List.length hr
   simp at this
   omega
  unfold qA
  refine cAl (Ev.op (ld1 (S.memL (List.Mem.tail _ (eG))) (by simpa using g) o3) ?_)
  refine Ev.op (N.len _) (cAa (fun e1 => ?_) (fun e1 => ?_))
  ·omega
  ·refine yj ?_
   unfold gS
   exact bZg ⟨rfl, S⟩
 | x :: r, r', I, A, Q, L, h, c, c', L0, L1, b, b', k, k', t, t', m, m', s1, s2, s3, s1', s2', s3', ks, ks', i, j, N, N', hr, hr', hl, hi, S, g, g', o3, o3' => by
  obtain ⟨y, r', rfl⟩ : ∃ y q, r' = y :: q := by cases r' with
   | nil => simp at hl
   | cons y q => exact ⟨y, q, rfl⟩
  refine bZl j (ll := fun n p => jZ (aI n) n p (.p b 0) (.p b' 0) (.i .i64 (i : Int)) h) (bb := fun n p => qA (aI n) n (jZ (aI n) n p) (.p b 0) (.p b' 0) (.i .i64 (i : Int)) h) (fun _ _ => rfl) ?_
  have hx : ks[i]? = some x := dA0 hr
  have hy : ks'[i]? = some y := by
   have := congrArg (fun l => l[0]?) hr'
   simpa [aJ] using this
  have hlt := (gLt hx)
  have e1' : ks.drop (i + 1) = r := dA1 hr
  have e2' : ks'.drop (i + 1) = r' := by
   have := congrArg (List.drop 1) hr'
   simpa [aJ, List.drop_drop] using this
  have hb := N.1
  unfold qA
  have l1 := fun {h} (S : Sy I A Q ((b', some (.row .ex c')) :: (b, some (.row .ex c)) :: L) h) => ld1 (o := 0 + 5) (S.memL (List.Mem.tail _ (eG))) (by simpa using g) o3
  have l2 := fun {h} (S : Sy I A Q ((b', some (.row .ex c')) :: (b, some (.row .ex c)) :: L) h) => ld1 (o := 0 + 5) (S.memL (eG)) (by simpa using g') o3'
  refine cAl (Ev.op (l1 S) ?_)
  refine Ev.op (N.len _) (cAa (fun e1 => ?_) (fun e1 => ?_))
  ·refine yt (wf ?_)
   refine Ev.op (l1 S) ?_
   obtain ⟨p1, q1, d1, u1, u2, u3⟩ := N.at hx
   obtain ⟨p2, q2, d2, v1, v2, v3⟩ := N'.at hy
   refine Ev.op (u1 _) (Ev.op (u3 _ _ _ _ _ (ILe.refl _) S) (cAl (Ev.op (l2 S) (Ev.op (v1 _) (Ev.op (v3 _ _ _ _ _ (ILe.refl _) S) ?_)))))
   refine bZe (xV x y I A Q _ h d1 d2 S u2 v2) ?_
   rintro _ h1 ⟨rfl, S1⟩
   simp only [mE]
   cases e : nEq x y with
   | false =>
    refine ao (yt ?_)
    exact bZg ⟨by simp, S1⟩
   | true =>
    refine an (yj ?_)
    refine bZo ?_
    rw [rB (by omega)]
    refine (wG r r' I A Q L h1 c c' L0 L1 b b' k k' t t' m m' s1 s2 s3 s1' s2' s3' ks ks' (i + 1) (j + 1) N N' e1' e2' (by simpa using hl) (by omega) S1 g g' o3 o3').mono ?_
    rintro v h' ⟨rfl, S2⟩
    exact ⟨by simp, S2⟩
  ·omega
end
end Go.Dd

namespace Go.Dd
def oX (c : Nat) : Bool := (decide (97 ≤ c) && decide (c ≤ 122)) || (decide (65 ≤ c) && decide (c ≤ 90))
def bS (s : List Nat) : Nat := if 0 ≤ cX 58 s 0 then 3 else match s with
 | [] => 2
 | c :: _ => if oX c = true then 1 else 2
def jO (k : Int) (t : List Nat) : Nat := if k = 7 then bS t else if k = 8 then 4 else if k = 6 then 5 else 0
def dF (s : List Nat) : List (List Nat) := (cH 58 [] s).dropLast
def bO (l : List (Nat × List Nat)) (i h : Nat) : List Nat := match l[i]? with
 | none => []
 | some (own, x) => if own > h then 40 :: (x ++ [41]) else x
def fW (ps : List (List Nat)) (args : List (Nat × List Nat)) (i : Nat) : List (List Nat) := match ps with
 | [] => []
 | p :: ps => (p ++ 32 :: bO args i 2) :: fW ps args (i + 1)
def aR (s : List Nat) (args : List (Nat × List Nat)) : List Nat :=
 if bS s = 1 then s else if bS s = 2 then s ++ 32 :: bO args 0 1 else aF [32] (fW (dF s) args 0)
def fP (s : List Nat) (kids : List (Nat × List Nat)) : List Nat :=
 if kids.length = 0 then [] else bO kids 0 (if bS s = 1 then 1 else 2) ++ 32 :: aR s (kids.drop 1)
def aS (ts : List (List Nat)) (kids : List (List Nat)) : List Nat :=
 (if ts.length = 0 then [] else 124 :: 32 :: (aF [32] ts ++ [32, 124, 32])) ++ aF [46, 32] kids
structure Nf where
 k : Int
 t : List Nat
 tx : List Nat
 ks : List (Nat × List Nat)
def Nf.ht (x : Nf) : Nat × List Nat := (jO x.k x.t, x.tx)
def jR (l : List Nf) : List Nat := match l with
 | a :: b :: r => fP b.t (a.ht :: b.ks) ++ aF [] (r.map fun x => 59 :: 32 :: aR x.t x.ks)
 | _ => []
def bG : List (List Nat) → List Nat
 | [] => []
 | p :: l => 58 :: (p ++ 32 :: bG l)
def vT (k : Int) (t : List Nat) (m : Int) (ns ts : List (List Nat)) (l : List Nf) : List Nat :=
 if k = 1 then fN m
 else if k = 2 then 39 :: (dC 39 [39, 39] t ++ [39])
 else if k = 3 then 35 :: t
 else if k = 4 then 35 :: 40 :: (aF [32] (l.map Nf.tx) ++ [41])
 else if k = 6 then t ++ 32 :: 58 :: 61 :: 32 :: aF [] (l.map Nf.tx)
 else if k = 10 then 94 :: aF [] (l.map Nf.tx)
 else if k = 7 then fP t (l.map Nf.ht)
 else if k = 8 then jR l
 else if k = 9 then 91 :: ((if bG ns = [] then [] else bG ns ++ [124, 32]) ++ (aS ts (l.map Nf.tx) ++ [93]))
 else t
mutual
def nf : Node → Nf
 | .mk k t m ns ts ks => ⟨k, t, vT k t m ns ts (qH ks), (qH ks).map Nf.ht⟩
def qH : List Node → List Nf
 | [] => []
 | x :: l => nf x :: qH l
end
theorem qF : ∀ l, qH l = l.map nf
 | [] => rfl
 | x :: l => by simp [qH, qF l]
end Go.Dd

namespace Go.Dd
open Go.Proofs
theorem bCt (n : Nat) (x : DV) (h : Hp) : aI (n + 1) 32 [x] h = s32 (aI n) n x h := by kernel_rfl
theorem aUc (n : Nat) (x : DV) (h : Hp) : aI (n + 1) 126 [x] h = s126 (aI n) n x h := by kernel_rfl
theorem bCg (n : Nat) (x : DV) (h : Hp) : aI (n + 1) 33 [x] h = s33 (aI n) n x h := by kernel_rfl
theorem bFz (n : Nat) (x y : DV) (h : Hp) : aI (n + 1) 58 [x, y] h = s58 (aI n) n x y h := by kernel_rfl
theorem bEb (n : Nat) (x : DV) (h : Hp) : aI (n + 1) 19 [x] h = s19 (aI n) n x h := by kernel_rfl
theorem bEg {c : Nat} (h : (97 ≤ c ∧ c ≤ 122) ∨ (65 ≤ c ∧ c ≤ 90)) : oX c = true := by simp [oX]; omega
theorem bFn {c : Nat} (h : ¬ ((97 ≤ c ∧ c ≤ 122) ∨ (65 ≤ c ∧ c ≤ 90))) : oX c = false := by
 cases e : oX c with
 | false => rfl
 | true => exfalso; apply h; simp [oX] at e; omega
theorem mO (s : List Nat) (h : Hp) : Ev (fun n => aI n 32 [.s s] h) (fun v h' => v = .i .i64 (bS s : Int) ∧ h' = h) := by
 refine Ev.enter (fun n => bCt n _ h) ?_
 unfold s32
 refine bZe (uW s 58 (by decide) h) ?_
 rintro _ h ⟨rfl, rfl⟩
 refine cAo (fun e => ?_) (fun e => ?_)
 ·have e' : (0 : Int) ≤ cX 58 s 0 := e
  refine yt ?_
  refine bZg ⟨?_, rfl⟩
  unfold bS
  rw [if_pos e']; rfl
 ·have e' : ¬ (0 : Int) ≤ cX 58 s 0 := e
  refine yj ?_
  cases s with
  | nil =>
   refine Ev.op (show gU .neq (.s []) (.s []) h = some (.b false, h) from rfl) ?_
   refine yf (yf (yf (yf (yu (yu (yu (yf (yf (yu (yu (yu (yu (yu (yu (yu (yu (yf (aq (yj ?_)))))))))))))))))))
   refine bZg ⟨?_, rfl⟩
   unfold bS
   rw [if_neg e']; rfl
  | cons c l =>
   have ei : eP (.s (c :: l)) (.i .i64 (Int.ofNat 0)) h = some (.i .u8 (c : Int), h) := by simp [eP]
   have ek : bS (c :: l) = if oX c = true then 1 else 2 := by
    unfold bS
    rw [if_neg e']
   have k1 : ((97 ≤ c ∧ c ≤ 122) ∨ (65 ≤ c ∧ c ≤ 90)) → (bS (c :: l) : Int) = Int.ofNat 1 := fun hh => by rw [ek, bEg hh]; rfl
   have k2 : ¬ ((97 ≤ c ∧ c ≤ 122) ∨ (65 ≤ c ∧ c ≤ 90)) → (bS (c :: l) : Int) = Int.ofNat 2 := fun hh => by rw [ek, bFn hh]; rfl
   refine Ev.op (show gU .neq (.s (c :: l)) (.s []) h = some (.b true, h) from rfl) ?_
   refine zt (wm (zt ?_))
   refine Ev.op ei ?_
   refine zt ?_
   refine cAo (fun e1 => ?_) (fun e1 => ?_)
   ·have e1' : 97 ≤ c := by have h0 := e1; simp at h0; omega
    refine zt (wm (zt (wm (zt ?_))))
    refine Ev.op ei ?_
    refine zt ?_
    refine cBf (fun e2 => ?_) (fun e2 => ?_)
    ·have e2' : c ≤ 122 := by have h0 := e2; simp at h0; omega
     refine zt (ap (zt (wm (yg (yg (yg (yg (yu (yu (yu (yg (zt (ap (ap (yt ?_)))))))))))))))
     exact bZg ⟨by rw [k1 (by omega)], rfl⟩
    ·have e2' : ¬ c ≤ 122 := by have h0 := e2; simp at h0; omega
     refine zt (ap (zt (wm (zf (wm (zf ?_))))))
     refine Ev.op ei ?_
     refine zf ?_
     refine cAo (fun e3 => ?_) (fun e3 => ?_)
     ·refine zf (wm (zt (wm (zt ?_))))
      refine Ev.op ei ?_
      refine zt ?_
      refine cBf (fun e4 => ?_) (fun e4 => ?_)
      ·have e4' : c ≤ 90 := by have h0 := e4; simp at h0; omega
       omega
      ·refine zf (ap (zt (aq (ap (yj ?_)))))
       exact bZg ⟨by rw [k2 (by omega)], rfl⟩
     ·have e3' : ¬ 65 ≤ c := by have h0 := e3; simp at h0; omega
      omega
   ·have e1' : ¬ 97 ≤ c := by have h0 := e1; simp at h0; omega
    refine zt (wm (yf (yf (yf (zt (aq (zt (wm (zf (wm (zf ?_)))))))))))
    refine Ev.op ei ?_
    refine zf ?_
    refine cAo (fun e3 => ?_) (fun e3 => ?_)
    ·have e3' : 65 ≤ c := by have h0 := e3; simp at h0; omega
     refine zf (wm (zt (wm (zt ?_))))
     refine Ev.op ei ?_
     refine zt ?_
     refine cBf (fun e4 => ?_) (fun e4 => ?_)
     ·have e4' : c ≤ 90 := by have h0 := e4; simp at h0; omega
      refine zf (ap (zt (aq (ap (yt ?_)))))
      exact bZg ⟨by rw [k1 (by omega)], rfl⟩
     ·have e4' : ¬ c ≤ 90 := by have h0 := e4; simp at h0; omega
      refine zf (ap (zt (aq (ap (yj ?_)))))
      exact bZg ⟨by rw [k2 (by omega)], rfl⟩
    ·have e3' : ¬ 65 ≤ c := by have h0 := e3; simp at h0; omega
     refine zf (wm (yf (yf (yf (zf (aq (zt (aq (ap (yj ?_))))))))))
     exact bZg ⟨by rw [k2 (by omega)], rfl⟩
theorem aCx {I : Im} {A Q L : Ls} {h : Hp} (S : Sy I A Q L h) {x : Node} {cs : List DV} (N : NV I x cs) :
 Ev (fun n => aI n 126 [.a cs] h) (fun v h' => v = .i .i64 (((nf x).ht).1 : Int) ∧ Sy I A Q L h') := by
 refine Ev.enter (fun n => aUc n _ h) ?_
 unfold s126
 obtain ⟨k, t, m, ns, ts, ks⟩ := x
 obtain ⟨s1, s2, s3, rfl, a, b, c, cells, F, NL⟩ := N
 have o1 := a.2.one
 have o2 := b.2.one
 have o3 := F.one
 have eh : ((nf (.mk k t m ns ts ks)).ht).1 = jO k t := by simp [nf, Nf.ht]
 rw [eh]
 refine wb fun _ _ _ => ?_; refine wf ?_; refine wl ?_
 refine bZj (fun e1 => ?_) (fun e1 => ?_)
 ·refine yt (wf ?_); refine wl ?_
  refine bZe (mO t _) ?_
  rintro _ h1 ⟨rfl, rfl⟩
  refine bZg ⟨?_, dp⟩
  rw [jO, if_pos (by simpa using e1)]
 ·refine cAg ?_
  refine bZj (fun e2 => ?_) (fun e2 => ?_)
  ·refine yt ?_
   refine bZg ⟨?_, dp⟩
   rw [jO, if_neg (by simpa using e1), if_pos (by simpa using e2)]; rfl
  ·refine cAg ?_
   refine bZj (fun e3 => ?_) (fun e3 => ?_)
   ·refine yt ?_
    refine bZg ⟨?_, dp⟩
    rw [jO, if_neg (by simpa using e1), if_neg (by simpa using e2), if_pos (by simpa using e3)]; rfl
   ·refine yj ?_
    refine bZg ⟨?_, dp⟩
    rw [jO, if_neg (by simpa using e1), if_neg (by simpa using e2), if_neg (by simpa using e3)]; rfl
end Go.Dd

namespace Go.Dd
open Go.Proofs
theorem vX : ∀ l : List (List Nat), mL (l.map .s) = some l
 | [] => rfl
 | x :: l => by simp [mL, vX l]
theorem aJj {x : DV} {h : Hp} {n : Nat} {l : List (List Nat)} {sep : List Nat} (hx : ∀ t, x ≠ .s t) (e : nC 1 x h = some (n, l.map .s)) (h1 : (aF sep l).length ≤ 100000000000) (h2 : n ≤ 100000000000) (hc : aVz x = true) :
 kK [x, .s sep] h = some (.s (aF sep l), h) := by
 have e1 : Nat.ble (aF sep l).length 100000000000 = true := Nat.ble_eq_true_of_le h1
 have e2 : Nat.ble n 100000000000 = true := Nat.ble_eq_true_of_le h2
 have key : kK [x, .s sep] h = (match nC 1 x h with
  | some (n, cells) => match mL cells with
   | some l => bif Nat.ble (aF sep l).length 100000000000 then (bif Nat.ble n 100000000000 && aVz x then some (.s (aF sep l), h) else none) else none
   | none => none
  | none => none) := by
  cases x <;> first | rfl | exact absurd rfl (hx _)
 rw [key, e]
 simp only [vX, e1, e2, hc, cond_true, Bool.and_self]
theorem Fz.cap {I : Im} {sz : Nat} {s : DV} {len : Nat} {cells : List DV} (H : Fz I sz s len cells) : aVz s = true ∧ ∀ t, s ≠ .s t := by
 rcases H with ⟨rfl | rfl, _⟩ | ⟨b, o, cap, k, row, rest, rfl, h2, _⟩
 ·exact ⟨rfl, fun t e => by cases e⟩
 ·exact ⟨rfl, fun t e => by cases e⟩
 ·exact ⟨Nat.ble_eq_true_of_le h2, fun t e => by cases e⟩
theorem SS.join {I : Im} {s : DV} {l : List (List Nat)} (H : SS I s l) {A Q L : Ls} {h : Hp} (S : Sy I A Q L h) {sep : List Nat} (h1 : (aF sep l).length ≤ 100000000000) : kK [s, .s sep] h = some (.s (aF sep l), h) := by
 obtain ⟨hl, F⟩ := H
 exact aJj F.cap.2 (F.src S) h1 (by simp [bQ] at hl; omega) F.cap.1
theorem eC {I : Im} {A Q L : Ls} {h : Hp} {b : Pos} {n : Nat} (l : List (List Nat)) (S : Sy I A Q L h) (m : (b, some (.row .ex (l.map .s))) ∈ L) (hn : n = l.length) (h1 : (aF [] l).length ≤ 100000000000) (h2 : l.length ≤ 1000) :
 Ev (fun k => aI k 19 [.l b 0 n n] h) (fun v h' => v = .s (aF [] l) ∧ h' = h) := by
 refine Ev.enter (fun n => bEb n _ h) ?_
 unfold s19
 have e : nC 1 (.l b 0 n n) h = some (n, l.map .s) := oQ S m (by simp [hn]) (fun v hv => by
  obtain ⟨t, _, rfl⟩ := List.mem_map.1 hv
  rfl)
 have e2 : kK [.l b 0 n n, .s []] h = some (.s (aF [] l), h) := aJj (fun t e => by cases e) e h1 (by omega) (Nat.ble_eq_true_of_le (Nat.le_refl _))
 refine Ev.op e2 ?_
 exact bZg ⟨rfl, rfl⟩
theorem nJ (c : Nat) : ∀ (s acc : List Nat), 1 ≤ (cH c acc s).length ∧ (cH c acc s).length ≤ s.length + 1
 | [], acc => by simp [cH]
 | x :: s, acc => by
  unfold cH
  cases Nat.beq x c with
  | true => have := nJ c s []; simp; omega
  | false => have := nJ c s (acc ++ [x]); simp; omega
theorem aEi {I : Im} {A Q L : Ls} {h : Hp} (S : Sy I A Q L h) {s : List Nat} (hs : s.length ≤ 1000000000) :
 Ev (fun n => aI n 33 [.s s] h) (fun v h' => ∃ J, ILe I J ∧ Sy J A Q L h' ∧ SS J v (dF s)) := by
 refine Ev.enter (fun n => bCg n _ h) ?_
 unfold s33
 obtain ⟨p1, p2⟩ := nJ 58 s []
 generalize hps : cH 58 [] s = ps at p1 p2
 have e58 : Ev (fun n => aI n 58 [.s s, .s [58]] h) (fun v h' => v = .l h.next 0 ps.length ps.length ∧ h' = nw (.row .ex (ps.map .s)) h) := by
  refine Ev.enter (fun n => bFz n _ _ h) ?_
  unfold s58
  refine Ev.op (show iE (.s [58]) h = some (.i .i64 1, h) from rfl) ?_
  have e1 : Nat.ble s.length 4000000000 = true := Nat.ble_eq_true_of_le (by omega)
  have e : qB [.s s, .s [58], .i .i64 1, .i .i64 (Int.negSucc 0)] h = some (.l h.next 0 ps.length ps.length, nw (.row .ex (ps.map .s)) h) := by
   show (bif Nat.blt 58 256 then (bif Nat.ble s.length 4000000000 then (fun l => some (DV.l h.next 0 l.length l.length, (⟨h.next.succ, Tr.set (.row .ex (l.map DV.s)) h.next h.bl⟩ : Hp))) (cH 58 [] s) else none) else none) = _
   rw [e1, hps]
   rfl
  refine Ev.op e ?_
  exact bZg ⟨rfl, rfl⟩
 refine bZe e58 ?_
 rintro _ _ ⟨rfl, rfl⟩
 refine Ev.op (show fS (.l h.next 0 ps.length ps.length) (nw (.row .ex (ps.map .s)) h) = some (.i .i64 (ps.length : Int), nw (.row .ex (ps.map .s)) h) from rfl) ?_
 refine cBa ?_
 have S1 := S.new (.row .ex (ps.map DV.s))
 obtain ⟨S2, g⟩ := S1.freeze
 have hw : IntKind.i64.wrap ((ps.length : Int) - Int.ofNat 1) = ((ps.length - 1 : Nat) : Int) := by
  rw [show (ps.length : Int) - Int.ofNat 1 = ((ps.length - 1 : Nat) : Int) by simp; omega]
  have := bUb (a := ps.length - 1) (b := 0) (by simp only [bQ]; omega)
  simpa [aJ] using this
 rw [hw]
 have e : dB 1 (.l h.next 0 ps.length ps.length) none (some (.i .i64 ((ps.length - 1 : Nat) : Int))) (nw (.row .ex (ps.map DV.s)) h) = some (.l h.next 0 (ps.length - 1) ps.length, nw (.row .ex (ps.map DV.s)) h) := by
  have hg : (nw (.row .ex (ps.map DV.s)) h).bl.get h.next = some (.row .ex (ps.map DV.s)) := bPk h _
  have e1 : hiD (some (.i .i64 ((ps.length - 1 : Nat) : Int))) ps.length ps.length = some (ps.length - 1) := by
   show (if 0 ≤ ((ps.length - 1 : Nat) : Int) ∧ ((ps.length - 1 : Nat) : Int) ≤ (ps.length : Int) then some ((ps.length - 1 : Nat) : Int).toNat else none) = _
   rw [if_pos ⟨by omega, by omega⟩]
   rfl
  have e2 : loD none (ps.length - 1) = some 0 := rfl
  unfold dB
  simp only [e1, e2, hg]
  simp
 refine Ev.op e ?_
 have hpl : (dF s).length = ps.length - 1 := by simp [dF, hps]
 refine bZg ⟨_, g, S2, ?_, .inr ⟨h.next, 0, ps.length, .ex, ps.map .s, [.s (ps.getLast (by intro e0; rw [e0] at p1; simp at p1))], ?_, by omega, cAk _ _ _, ?_, ?_, ?_⟩⟩
 ·rw [hpl]; simp only [bQ]; omega
 ·rw [hpl]
 ·have := List.dropLast_concat_getLast (l := ps) (by intro e0; rw [e0] at p1; simp at p1)
  simp only [dF, hps, List.drop_zero]
  conv => lhs; rw [← this]
  simp
 ·simp [dF, hps]
 ·intro v hv
  obtain ⟨t, _, rfl⟩ := List.mem_map.1 hv
  rfl
end Go.Dd

namespace Go.Dd
open Go.Proofs
theorem Sy.weak {I J : Im} {A Q L : Ls} {h : Hp} (S : Sy J A Q L h) (g : ILe I J) : Sy I A Q L h where
 wf := S.wf
 im := fun b o m => S.im b o (g b o m)
 loc := S.loc
 lt := S.lt
 nd := S.nd
 dj := fun b o m => by
  have := S.dj b o m
  cases e : I b with
  | none => rfl
  | some q => rw [g b q e] at this; cases this
def kQ (x : Node) : Prop := ∀ (I : Im) (A Q L : Ls) (h : Hp) (cs : List DV), Sy I A Q L h → NV I x cs → (nf x).tx.length ≤ 100000000000 →
 Ev (fun n => aI n 36 [.a cs] h) (fun v h' => v = .s (nf x).tx ∧ Sy I A Q L h')
theorem bDn (n : Nat) (x y z : DV) (h : Hp) : aI (n + 1) 89 [x, y, z] h = s89 (aI n) n x y z h := by kernel_rfl
theorem bBi (n : Nat) (x y : DV) (h : Hp) : aI (n + 1) 90 [x, y] h = s90 (aI n) n x y h := by kernel_rfl
theorem bFd (n : Nat) (x y : DV) (h : Hp) : aI (n + 1) 61 [x, y] h = s61 (aI n) n x y h := by kernel_rfl
def dP (ks : List Node) : List (Nat × List Nat) := ks.map fun x => (nf x).ht
theorem lY {I : Im} {A Q L : Ls} {h : Hp} (S : Sy I A Q L h) {s : DV} {ks : List Node} (N : NS I s ks) (T : ∀ x ∈ ks, kQ x) (i hh : Nat) (hl : (bO (dP ks) i hh).length ≤ 100000000000) :
 Ev (fun n => aI n 89 [s, .i .i64 (i : Int), .i .i64 (hh : Int)] h) (fun v h' => v = .s (bO (dP ks) i hh) ∧ Sy I A Q L h') := by
 refine Ev.enter (fun n => bDn n _ _ _ h) ?_
 unfold s89
 refine Ev.op (N.len _) ?_
 refine cAo (fun e1 => ?_) (fun e1 => ?_)
 ·refine yt ?_
  refine bZg ⟨?_, S⟩
  have : ks.length ≤ i := by omega
  simp [bO, dP, List.getElem?_eq_none this]
 ·refine yj ?_
  have hi : i < ks.length := by omega
  have hx : ks[i]? = some ks[i] := by simp [hi]
  generalize ks[i] = x at hx
  have Tx := T x (List.mem_of_getElem? hx)
  obtain ⟨b, o, c, ei, Nx, el⟩ := N.at hx
  have ew : bO (dP ks) i hh = if (nf x).ht.1 > hh then 40 :: ((nf x).tx ++ [41]) else (nf x).tx := by
   simp [bO, dP, hx, Nf.ht]
  rw [ew] at hl ⊢
  refine Ev.op (ei _) ?_
  refine Ev.op (el _ _ _ _ _ (ILe.refl _) S) ?_
  refine bZe (aCx S Nx) ?_
  rintro _ h5 ⟨rfl, S5⟩
  refine cAw (fun e2 => ?_) (fun e2 => ?_)
  ·have e2' : (nf x).ht.1 > hh := by omega
   rw [if_pos e2'] at hl ⊢
   refine yt ?_
   refine Ev.op (ei _) ?_
   refine Ev.op (el _ _ _ _ _ (ILe.refl _) S5) ?_
   refine bZe (Tx _ _ _ _ _ _ S5 Nx (by simp at hl; omega)) ?_
   rintro _ h9 ⟨rfl, S9⟩
   refine cAb S9 (cs := [.s [40], .s (nf x).tx, .s [41]]) (by simp [cM, cF]) ?_
   intro b1 h10 S10
   refine bZe (eC [[40], (nf x).tx, [41]] S10 (eG) rfl (by simp [aF] at hl ⊢; omega) (by simp)) ?_
   rintro _ _ ⟨rfl, rfl⟩
   refine bZg ⟨?_, S10.dropL⟩
   simp [aF]
  ·have e2' : ¬ (nf x).ht.1 > hh := by omega
   rw [if_neg e2'] at hl ⊢
   refine yj ?_
   refine Ev.op (ei _) ?_
   refine Ev.op (el _ _ _ _ _ (ILe.refl _) S5) ?_
   refine bZe (Tx _ _ _ _ _ _ S5 Nx hl) ?_
   rintro _ h9 ⟨rfl, S9⟩
   exact bZg ⟨rfl, S9⟩
theorem vB (sep : List Nat) : ∀ (l : List (List Nat)) (x : List Nat), x ∈ l → x.length ≤ (aF sep l).length
 | [], x, h => by simp at h
 | [y], x, h => by simp at h; subst h; simp [aF]
 | y :: z :: l, x, h => by
  rcases List.mem_cons.1 h with rfl | h
  ·simp [aF]
  ·have := vB sep (z :: l) x h
   simp only [aF, List.length_append]
   omega
section
variable {I : Im} {A Q L : Ls} {s y : DV} {ks : List Node} {ps : List (List Nat)}
theorem aEf (N : NS I s ks) (T : ∀ x ∈ ks, kQ x) (Y : SS I y ps) : ∀ (r : List (List Nat)) (i j : Nat) (B : Ls) (h : Hp) (x : DV) (acc : List (List Nat)), ps.drop i = r → i ≤ ps.length → Sy I (B ++ A) Q L h → Gr I 1 B x acc.length (acc.map .s) →
 (aF [32] (acc ++ fW r (dP ks) i)).length ≤ 100000000000 → acc.length + r.length ≤ bQ →
 Ev (fun n => lM (aI n) n (n - j) s x y (.i .i64 (ps.length : Int)) (.i .i64 (i : Int)) h) (fun v h' => v = .s (aF [32] (acc ++ fW r (dP ks) i)) ∧ Sy I A Q L h')
 | [], i, j, B, h, x, acc, hr, hi, S, G, hl, hc => by
  refine bZl j (ll := fun n m => lM (aI n) n m s x y (.i .i64 (ps.length : Int)) (.i .i64 (i : Int)) h) (bb := fun n m => pW (aI n) n (lM (aI n) n m) s x y (.i .i64 (ps.length : Int)) (.i .i64 (i : Int)) h) (fun _ _ => rfl) ?_
  unfold pW
  have hle : ps.length ≤ i := List.drop_eq_nil_iff.1 hr
  refine cAa (fun e1 => absurd e1 (by omega)) (fun e1 => ?_)
  refine cAg ?_
  unfold gL
  simp only [fW, List.append_nil] at hl ⊢
  obtain ⟨J, gJ, S3, F3⟩ := G.freeze S
  refine Ev.op (SS.join (I := J) ⟨by simpa using hc, F3⟩ S3 hl) ?_
  exact bZg ⟨rfl, S3.weak gJ⟩
 | p :: r, i, j, B, h, x, acc, hr, hi, S, G, hl, hc => by
  refine bZl j (ll := fun n m => lM (aI n) n m s x y (.i .i64 (ps.length : Int)) (.i .i64 (i : Int)) h) (bb := fun n m => pW (aI n) n (lM (aI n) n m) s x y (.i .i64 (ps.length : Int)) (.i .i64 (i : Int)) h) (fun _ _ => rfl) ?_
  unfold pW
  have hlim : ps.length ≤ bQ := Y.1
  have hi' : i < ps.length := by
   rcases Nat.lt_or_ge i ps.length with h | h
   ·exact h
   ·rw [List.drop_eq_nil_of_le h] at hr; cases hr
  have hx : ps[i]? = some p := by
   have : (ps.drop i)[0]? = some p := by rw [hr]; rfl
   simpa [aJ] using this
  have hr2 : ps.drop (i + 1) = r := by
   have := jI hx
   rw [hr] at this
   simpa [aJ] using this.symm
  refine cAa (fun e1 => ?_) (fun e1 => absurd (show (i : Int) < ps.length by omega) e1)
  refine cAs ?_
  obtain ⟨b, o, ei, el⟩ := Y.at S hx
  refine Ev.op (ei _) ?_
  refine Ev.op el ?_
  have hmem : (p ++ 32 :: bO (dP ks) i 2) ∈ acc ++ fW (p :: r) (dP ks) i := by simp [fW]
  have hp := vB [32] _ _ hmem
  have hp' : (p ++ 32 :: bO (dP ks) i 2).length ≤ 100000000000 := Nat.le_trans hp hl
  simp only [List.length_append, List.length_cons] at hp'
  refine bZe (lY S N T i 2 (by omega)) ?_
  rintro _ h6 ⟨rfl, S6⟩
  refine cAb S6 (cs := [.s p, .s [32], .s (bO (dP ks) i 2)]) (by simp [cM, cF]) ?_
  intro b1 h7 S7
  refine bZe (eC [p, [32], bO (dP ks) i 2] S7 (eG) rfl (by simp [aF]; omega) (by simp)) ?_
  rintro _ _ ⟨rfl, rfl⟩
  have ej : aF [] [p, [32], bO (dP ks) i 2] = p ++ 32 :: bO (dP ks) i 2 := by simp [aF]
  rw [ej]
  refine cAb S7 (cs := [.s (p ++ 32 :: bO (dP ks) i 2)]) rfl ?_
  intro b2 h9 S9
  obtain ⟨x4, h4, B4, e4, S4, G4⟩ := kO G S9 (eG) (by simp at hc; omega)
  refine Ev.op e4 ?_
  refine bZo ?_
  rw [rB (by omega)]
  have := aEf N T Y r (i + 1) (j + 1) B4 h4 x4 (acc ++ [p ++ 32 :: bO (dP ks) i 2]) hr2 (by omega) S4.dropL.dropL G4 (by simpa [aJ, fW] using hl) (by simp at hc ⊢; omega)
  simpa [aJ, fW] using this
end
end Go.Dd

namespace Go.Dd
open Go.Proofs
theorem Fz.restA {I : Im} {sz : Nat} {s : DV} {len : Nat} {cells : List DV} (H : Fz I sz s len cells) {i : Nat} (hi : i ≤ len) (h0 : 0 < len) :
 ∃ s', (∀ (A Q L : Ls) (h : Hp), Sy I A Q L h → dB sz s (some (.i .i64 (Int.ofNat i))) none h = some (s', h)) ∧ Fz I sz s' (len - i) (cells.drop (i * sz)) := by
 rcases H with ⟨_, rfl, _⟩ | ⟨b, o, cap, k, row, rest, rfl, h2, h3, h4, h5, h6⟩
 ·omega
 ·have hle : i * sz ≤ cells.length := by rw [h5]; exact Nat.mul_le_mul_right _ (by omega)
  have hd : row.drop (o + i * sz) = cells.drop (i * sz) ++ rest := by
   rw [← List.drop_drop, h4, List.drop_append_of_le_length hle]
  have e1 : hiD none len cap = some len := by simp [hiD, h2]
  have e2 : loD (some (.i .i64 (Int.ofNat i))) len = some i := by
   show (if 0 ≤ (Int.ofNat i) ∧ (Int.ofNat i) ≤ (len : Int) then some (Int.ofNat i).toNat else none) = _
   have hi' : (Int.ofNat i) = (i : Int) := rfl
   rw [if_pos ⟨by omega, by omega⟩]
   rfl
  have hlen : (cells.drop (i * sz)).length = (len - i) * sz := by rw [List.length_drop, h5, Nat.sub_mul]
  by_cases hc : cap = i
  ·have hz : len - i = 0 := by omega
   have hnil : cells.drop (i * sz) = [] := List.eq_nil_of_length_eq_zero (by rw [hlen, hz]; simp)
   by_cases hk : k = .ro ∨ k = .ex
   ·refine ⟨.l b o (len - i) (cap - i), fun A Q L h S => ?_, .inr ⟨b, o, cap - i, k, row, row.drop o, rfl, by omega, h3, ?_, hlen, fun v hv => h6 v (List.mem_of_mem_drop hv)⟩⟩
    ·have hg := S.im _ _ h3
     unfold dB
     simp only [e1, e2, hg]
     rcases hk with rfl | rfl <;> simp [hc]
    ·rw [hnil]; rfl
   ·refine ⟨.le, fun A Q L h S => ?_, ?_⟩
    ·have hg := S.im _ _ h3
     unfold dB
     simp only [e1, e2, hg]
     cases k with
     | ro => exact absurd (.inl rfl) hk
     | ex => exact absurd (.inr rfl) hk
     | gr es => simp [hc]
     | sp => simp [hc]
    ·rw [hz, hnil]
     exact .inl ⟨.inr rfl, rfl, rfl⟩
  ·refine ⟨.l b (o + i * sz) (len - i) (cap - i), fun A Q L h S => ?_, .inr ⟨b, o + i * sz, cap - i, k, row, rest, rfl, by omega, h3, hd, hlen, fun v hv => h6 v (List.mem_of_mem_drop hv)⟩⟩
   unfold dB
   simp only [e1, e2, S.im _ _ h3]
   cases k <;> simp [hc]
theorem NS.restA {I : Im} {s : DV} {ks : List Node} (N : NS I s ks) {i : Nat} (hi : i ≤ ks.length) (h0 : 0 < ks.length) :
 ∃ s', (∀ (A Q L : Ls) (h : Hp), Sy I A Q L h → dB 6 s (some (.i .i64 (Int.ofNat i))) none h = some (s', h)) ∧ NS I s' (ks.drop i) := by
 obtain ⟨hl, cells, F, NL⟩ := N
 obtain ⟨s', e, F'⟩ := F.restA hi h0
 exact ⟨s', e, by rw [List.length_drop]; omega, cells.drop (i * 6), by simpa using F', NL.drop i⟩
section
variable {I : Im} {A Q L : Ls} {h : Hp} {s : DV} {ks : List Node} {t : List Nat}
theorem oP (S : Sy I A Q L h) (N : NS I s ks) (T : ∀ x ∈ ks, kQ x) (hs : t.length ≤ 1000000000) (hl : (aR t (dP ks)).length ≤ 100000000000) :
 Ev (fun n => aI n 90 [.s t, s] h) (fun v h' => v = .s (aR t (dP ks)) ∧ Sy I A Q L h') := by
 refine Ev.enter (fun n => bBi n _ _ h) ?_
 unfold s90 aMm
 refine bZe (mO t h) ?_
 rintro _ h ⟨rfl, rfl⟩
 refine bZj (fun e1 => ?_) (fun e1 => ?_)
 ·have e1' : bS t = 1 := by have h0 := e1; simp at h0; omega
  refine cAs ?_
  refine bZg ⟨?_, S⟩
  rw [aR, if_pos e1']
 ·have e1' : ¬ bS t = 1 := by have h0 := e1; simp at h0; omega
  refine cAg ?_
  refine bZj (fun e2 => ?_) (fun e2 => ?_)
  ·have e2' : bS t = 2 := by have h0 := e2; simp at h0; omega
   have em : aR t (dP ks) = t ++ 32 :: bO (dP ks) 0 1 := by rw [aR, if_neg e1', if_pos e2']
   rw [em] at hl ⊢
   simp only [List.length_append, List.length_cons] at hl
   refine cAs ?_
   refine bZe (lY S N T 0 1 (by omega)) ?_
   rintro _ h6 ⟨rfl, S6⟩
   refine cAb S6 (cs := [.s t, .s [32], .s (bO (dP ks) 0 1)]) (by simp [cM, cF]) ?_
   intro b1 h7 S7
   refine bZe (eC [t, [32], bO (dP ks) 0 1] S7 (eG) rfl (by simp [aF]; omega) (by simp)) ?_
   rintro _ _ ⟨rfl, rfl⟩
   refine bZg ⟨?_, S7.dropL⟩
   simp [aF]
  ·have e2' : ¬ bS t = 2 := by have h0 := e2; simp at h0; omega
   have em : aR t (dP ks) = aF [32] (fW (dF t) (dP ks) 0) := by rw [aR, if_neg e1', if_neg e2']
   rw [em] at hl ⊢
   refine cAg ?_
   unfold aIm aKr
   refine bZe (aEi S hs) ?_
   rintro v h1 ⟨J, g, S1, Y⟩
   refine Ev.op (Y.2.len _) ?_
   unfold aHv aTd
   refine (aEf (A := A) (N.mono g) T Y (dF t) 0 0 [] h1 .l0 [] rfl (Nat.zero_le _) S1 (Gr.nil J 1) (by simpa using hl) (by simpa using Y.1)).mono ?_
   rintro v h' ⟨e, S2⟩
   exact ⟨by simpa using e, S2.weak g⟩
theorem wJ (S : Sy I A Q L h) (N : NS I s ks) (T : ∀ x ∈ ks, kQ x) (hs : t.length ≤ 1000000000) (hl : (fP t (dP ks)).length ≤ 100000000000) :
 Ev (fun n => aI n 61 [.s t, s] h) (fun v h' => v = .s (fP t (dP ks)) ∧ Sy I A Q L h') := by
 refine Ev.enter (fun n => bFd n _ _ h) ?_
 unfold s61 bJy
 have hil : (dP ks).length = ks.length := by simp [dP]
 refine Ev.op (N.len _) ?_
 refine bZj (fun e1 => ?_) (fun e1 => ?_)
 ·have e1' : ks.length = 0 := by have h0 := e1; simp at h0; simp [h0]
  refine cAs ?_
  refine bZg ⟨?_, S⟩
  rw [fP, if_pos (by omega)]
 ·have e1' : ¬ ks.length = 0 := fun e => e1 (by rw [e]; rfl)
  refine cAg ?_
  unfold bJq bIw
  have go : ∀ (hh : Nat), hh = (if bS t = 1 then 1 else 2) → Ev (fun n => aJk (aI n) n (.s t) s (.i .i64 (hh : Int)) h) (fun v h' => v = .s (fP t (dP ks)) ∧ Sy I A Q L h') := by
   intro hh eh
   have em : fP t (dP ks) = bO (dP ks) 0 hh ++ 32 :: aR t (dP (ks.drop 1)) := by
    rw [fP, if_neg (by omega), eh]
    simp [dP]
   rw [em] at hl ⊢
   simp only [List.length_append, List.length_cons] at hl
   unfold aJk
   obtain ⟨s', er, N'⟩ := N.restA (i := 1) (by omega) (by omega)
   have Sr := S.res
   refine bZe (lY Sr N T 0 hh (by omega)) ?_
   rintro _ h1 ⟨rfl, S1⟩
   refine Ev.op (er _ _ _ _ S1) ?_
   refine Ev.cnd ?_ ?_
   ·rw [er _ _ _ _ Sr]
    have : DV.beq s' s' = true := N'.2.choose_spec.1.beq
    simp [bX, this]
   refine bZe (oP S1 N' (fun x hx => T x (List.mem_of_mem_drop hx)) hs (by omega)) ?_
   rintro _ h3 ⟨rfl, S3⟩
   refine bZz S3 (cs := [.s (bO (dP ks) 0 hh), .s [32], .s (aR t (dP (ks.drop 1)))]) (Rpl.head _) (by simp [cM, cF]) ?_
   intro h4 S4
   refine bZe (eC [bO (dP ks) 0 hh, [32], aR t (dP (ks.drop 1))] S4 (eG) rfl (by simp [aF] at hl ⊢; omega) (by simp)) ?_
   rintro _ _ ⟨rfl, rfl⟩
   refine bZg ⟨?_, S4.dropL⟩
   simp [aF]
  refine bZe (mO t h) ?_
  rintro _ h ⟨rfl, rfl⟩
  refine bZj (fun e2 => ?_) (fun e2 => ?_)
  ·have e2' : bS t = 1 := by have h0 := e2; simp at h0; omega
   refine cAs ?_
   exact go 1 (by rw [if_pos e2'])
  ·have e2' : ¬ bS t = 1 := by have h0 := e2; simp at h0; omega
   refine cAg ?_
   exact go 2 (by rw [if_neg e2'])
end
end Go.Dd

namespace Go.Dd
open Go.Proofs
theorem bEm (n : Nat) (x y z : DV) (h : Hp) : aI (n + 1) 35 [x, y, z] h = s35 (aI n) n x y z h := by kernel_rfl
theorem bQl (rec : FuncId → List DV → Hp → aG) (x : DV) (h : Hp) : dM CF rec (.f 36 [] []) [x] h = rec 36 [x] h := by kernel_rfl
def HowOk (hw : DV) (g : Node → List Nat) (x : Node) : Prop := ∀ (I : Im) (A Q L : Ls) (h : Hp) (cs : List DV), Sy I A Q L h → NV I x cs → (g x).length ≤ 100000000000 →
 Ev (fun n => dM CF (aI n) hw [.a cs] h) (fun v h' => v = .s (g x) ∧ Sy I A Q L h')
theorem HowOk.text {x : Node} (T : kQ x) : HowOk (.f 36 [] []) (fun x => (nf x).tx) x := by
 intro I A Q L h cs S N hl
 have := T I A Q L h cs S N hl
 have e : (fun n => dM CF (aI n) (.f 36 [] []) [.a cs] h) = fun n => aI n 36 [.a cs] h := funext fun n => bQl _ _ _
 rw [e]
 exact this
section
variable {I : Im} {A Q L : Ls} {s hw : DV} {ks : List Node} {sep : List Nat} {g : Node → List Nat}
theorem aDm (N : NS I s ks) (T : ∀ x ∈ ks, HowOk hw g x) : ∀ (r : List Node) (i j : Nat) (B : Ls) (h : Hp) (x : DV) (acc : List (List Nat)), ks.drop i = r → Sy I (B ++ A) Q L h → Gr I 1 B x acc.length (acc.map .s) →
 (aF sep (acc ++ r.map g)).length ≤ 100000000000 → acc.length + r.length ≤ bQ →
 Ev (fun n => lC (aI n) n (n - j) (.s sep) hw x s (.i .i64 (ks.length : Int)) (.i .i64 (i : Int)) h) (fun v h' => v = .s (aF sep (acc ++ r.map g)) ∧ Sy I A Q L h')
 | [], i, j, B, h, x, acc, hr, S, G, hl, hc => by
  refine bZl j (ll := fun n m => lC (aI n) n m (.s sep) hw x s (.i .i64 (ks.length : Int)) (.i .i64 (i : Int)) h) (bb := fun n m => pQ (aI n) n (lC (aI n) n m) (.s sep) hw x s (.i .i64 (ks.length : Int)) (.i .i64 (i : Int)) h) (fun _ _ => rfl) ?_
  unfold pQ
  have hle : ks.length ≤ i := List.drop_eq_nil_iff.1 hr
  refine cAa (fun e1 => absurd e1 (by omega)) (fun e1 => ?_)
  refine cAg ?_
  unfold gR
  simp only [List.map_nil, List.append_nil] at hl ⊢
  obtain ⟨J, gJ, S3, F3⟩ := G.freeze S
  refine Ev.op (SS.join (I := J) ⟨by simpa using hc, F3⟩ S3 hl) ?_
  exact bZg ⟨rfl, S3.weak gJ⟩
 | y :: r, i, j, B, h, x, acc, hr, S, G, hl, hc => by
  refine bZl j (ll := fun n m => lC (aI n) n m (.s sep) hw x s (.i .i64 (ks.length : Int)) (.i .i64 (i : Int)) h) (bb := fun n m => pQ (aI n) n (lC (aI n) n m) (.s sep) hw x s (.i .i64 (ks.length : Int)) (.i .i64 (i : Int)) h) (fun _ _ => rfl) ?_
  unfold pQ
  have hlim : ks.length ≤ bQ := N.1
  have hi' : i < ks.length := by
   rcases Nat.lt_or_ge i ks.length with h | h
   ·exact h
   ·rw [List.drop_eq_nil_of_le h] at hr; cases hr
  have hx : ks[i]? = some y := by
   have : (ks.drop i)[0]? = some y := by rw [hr]; rfl
   simpa [aJ] using this
  have hr2 : ks.drop (i + 1) = r := by
   have := jI hx
   rw [hr] at this
   simpa [aJ] using this.symm
  refine cAa (fun e1 => ?_) (fun e1 => absurd (show (i : Int) < ks.length by omega) e1)
  refine cAs ?_
  obtain ⟨b, o, c, ei, Nx, el⟩ := N.at hx
  obtain ⟨c1, o1, b1⟩ := Nx.shape
  have hmem : g y ∈ acc ++ (y :: r).map g := by simp
  have hp := Nat.le_trans (vB sep _ _ hmem) hl
  refine Ev.op (ei _) ?_
  refine Ev.op (el _ _ _ _ _ (ILe.refl _) S) ?_
  refine wa fun _ _ _ => ?_; refine wt fun _ _ => ?_; refine ws ?_
  refine bZe (T y (List.mem_of_getElem? hx) _ _ _ _ _ _ (by assumption) Nx hp) ?_
  rintro _ h9 ⟨rfl, S9⟩
  refine cAb S9 (cs := [.s (g y)]) rfl ?_
  intro b2 h10 S10
  obtain ⟨x4, h4, B4, e4, S4, G4⟩ := kO G S10 (eG) (by simp at hc; omega)
  refine Ev.op e4 ?_
  refine bZo ?_
  rw [rB (by omega)]
  have := aDm N T r (i + 1) (j + 1) B4 h4 x4 (acc ++ [g y]) hr2 (dp) G4 (by simpa using hl) (by simp at hc ⊢; omega)
  simpa [aJ] using this
theorem uI {h : Hp} (S : Sy I A Q L h) (N : NS I s ks) (T : ∀ x ∈ ks, HowOk hw g x) (hl : (aF sep (ks.map g)).length ≤ 100000000000) :
 Ev (fun n => aI n 35 [s, .s sep, hw] h) (fun v h' => v = .s (aF sep (ks.map g)) ∧ Sy I A Q L h') := by
 refine Ev.enter (fun n => bEm n _ _ _ h) ?_
 unfold s35 aIl aIr
 refine Ev.op (N.len _) ?_
 unfold aJm aYt
 have := aDm (A := A) (Q := Q) (L := L) (sep := sep) N T ks 0 0 [] h .l0 [] rfl S (Gr.nil I 1) (by simpa using hl) (by simpa using N.1)
 simpa [aJ] using this
end
end Go.Dd

namespace Go.Dd
open Go.Proofs
theorem bFt (n : Nat) (x : DV) (h : Hp) : aI (n + 1) 21 [x] h = s21 (aI n) n x h := by kernel_rfl
def gG (ks : List Node) : List (List Nat) := ks.map fun x => (nf x).tx
section
variable {I : Im} {A Q L : Ls} {h : Hp} {k m : Int} {t : List Nat} {ns ts : List (List Nat)} {ks : List Node} {cs : List DV}
theorem pO (S : Sy I A Q L h) (N : NV I (.mk k t m ns ts ks) cs) (T : ∀ x ∈ ks, kQ x) (hl : (aS ts (gG ks)).length ≤ 100000000000) :
 Ev (fun n => aI n 21 [.a cs] h) (fun v h' => v = .s (aS ts (gG ks)) ∧ Sy I A Q L h') := by
 refine Ev.enter (fun n => bFt n _ h) ?_
 unfold s21 bIy bIi
 obtain ⟨s1, s2, s3, rfl, a, b, c, cells, F, NL⟩ := N
 have N3 : NS I s3 ks := ⟨c, cells, F, NL⟩
 have o1 := a.2.one
 have o2 := b.2.one
 have o3 := F.one
 refine Ev.box S rfl ?_
 intro b1 h1 S1
 have eb : aS ts (gG ks) = (if ts.length = 0 then [] else 124 :: 32 :: (aF [32] ts ++ [32, 124, 32])) ++ aF [46, 32] (gG ks) := rfl
 have fin : ∀ (pre : List Nat) (h : Hp), Sy I A Q ((b1, some (.row .ex [.i .i64 k, .s t, .i .i64 m, s1, s2, s3])) :: L) h → (pre ++ aF [46, 32] (gG ks)).length ≤ 100000000000 →
  Ev (fun n => aHr (aI n) n (.p b1 0) (.s pre) h) (fun v h' => v = .s (pre ++ aF [46, 32] (gG ks)) ∧ Sy I A Q L h') := by
  intro pre h S hl
  unfold aHr
  simp only [List.length_append] at hl
  refine wf ?_; refine wl ?_
  refine bZe (uI (sep := [46, 32]) S N3 (fun x hx => HowOk.text (T x hx)) (by simp only [gG] at hl; omega)) ?_
  rintro _ h3 ⟨rfl, S3⟩
  refine cAb S3 (cs := [.s pre, .s (aF [46, 32] (gG ks))]) (by simp [cM, cF, gG]) ?_
  intro b2 h4 S4
  refine bZe (eC [pre, aF [46, 32] (gG ks)] S4 (eG) rfl (by simp [aF]; omega) (by simp)) ?_
  rintro _ _ ⟨rfl, rfl⟩
  refine bZg ⟨?_, S4.dropL.dropL⟩
  simp [aF]
 rw [eb] at hl ⊢
 refine wf ?_; refine wl ?_
 refine Ev.op (b.2.len _) ?_
 refine cAw (fun e1 => ?_) (fun e1 => ?_)
 ·have e1' : ¬ ts.length = 0 := by have h0 := e1; simp at h0; intro h9; simp [h9] at h0
  rw [if_neg e1'] at hl ⊢
  have hl2 : (aF [32] ts).length ≤ 100000000000 := by simp at hl; omega
  refine yt (wf ?_); refine wl ?_
  refine Ev.op (SS.join b S1 hl2) ?_
  refine cAb S1 (cs := [.s [124, 32], .s (aF [32] ts), .s [32, 124, 32]]) (by simp [cM, cF]) ?_
  intro b2 h4 S4
  refine bZe (eC [[124, 32], aF [32] ts, [32, 124, 32]] S4 (eG) rfl (by simp [aF] at hl ⊢; omega) (by simp)) ?_
  rintro _ _ ⟨rfl, rfl⟩
  have ej : aF [] [[124, 32], aF [32] ts, [32, 124, 32]] = 124 :: 32 :: (aF [32] ts ++ [32, 124, 32]) := by simp [aF]
  rw [ej]
  exact fin _ _ S4.dropL hl
 ·have e1' : ts.length = 0 := by have h0 := e1; simp at h0; simpa using h0
  rw [if_pos e1'] at hl ⊢
  refine yj ?_
  exact fin _ _ S1 hl
end
end Go.Dd

namespace Go.Dd
open Go.Proofs
theorem bBz (n : Nat) (x : DV) (h : Hp) : aI (n + 1) 91 [x] h = s91 (aI n) n x h := by kernel_rfl
theorem bAp (n : Nat) (x : DV) (h : Hp) : aI (n + 1) 62 [x] h = s62 (aI n) n x h := by kernel_rfl
theorem bAy (n : Nat) (x : DV) (h : Hp) : aI (n + 1) 36 [x] h = s36 (aI n) n x h := by kernel_rfl
theorem bPp (rec : FuncId → List DV → Hp → aG) (x : DV) (h : Hp) : dM CF rec (.f 91 [] []) [x] h = rec 91 [x] h := by kernel_rfl
theorem aRl (k m : Int) (t : List Nat) (ns ts : List (List Nat)) (ks : List Node) : (nf (.mk k t m ns ts ks)).ks = dP ks ∧ (nf (.mk k t m ns ts ks)).t = t := by
 simp [nf, qF, dP]
def eU (x : Node) : List Nat := 59 :: 32 :: aR (nf x).t (nf x).ks
theorem bTb {x : Node} (T : ∀ y ∈ x.kids, kQ y) (hs : x.text.length ≤ 1000000000) : HowOk (.f 91 [] []) eU x := by
 intro I A Q L h cs S N hl
 have e : (fun n => dM CF (aI n) (.f 91 [] []) [.a cs] h) = fun n => aI n 91 [.a cs] h := funext fun n => bPp _ _ _
 rw [e]
 obtain ⟨k, t, m, ns, ts, ks⟩ := x
 obtain ⟨q1, q2⟩ := aRl k m t ns ts ks
 have ef : eU (.mk k t m ns ts ks) = 59 :: 32 :: aR t (dP ks) := by rw [eU, q1, q2]
 rw [ef] at hl ⊢
 simp only [List.length_cons] at hl
 refine Ev.enter (fun n => bBz n _ h) ?_
 unfold s91
 obtain ⟨s1, s2, s3, rfl, a, b, c, cells, F, NL⟩ := N
 have N3 : NS I s3 ks := ⟨c, cells, F, NL⟩
 have o1 := a.2.one
 have o2 := b.2.one
 have o3 := F.one
 refine Ev.box S rfl ?_
 intro b1 h1 S1
 refine wf ?_; refine wl ?_; refine wf ?_; refine wl ?_
 refine bZe (oP S1 N3 T hs (by omega)) ?_
 rintro _ h3 ⟨rfl, S3⟩
 refine cAb S3 (cs := [.s [59, 32], .s (aR t (dP ks))]) (by simp [cM, cF]) ?_
 intro b2 h4 S4
 refine bZe (eC [[59, 32], aR t (dP ks)] S4 (eG) rfl (by simp [aF]; omega) (by simp)) ?_
 rintro _ _ ⟨rfl, rfl⟩
 refine bZg ⟨?_, S4.dropL.dropL⟩
 simp [aF]
end Go.Dd

namespace Go.Dd
open Go.Proofs
theorem aAq {b : Pos} {o j : Nat} {c : List DV} {v : DV} {h : Hp} (e : aD 6 (.p b o) h = some (.a c, h)) (hv : c[j]? = some v) : aB (.p b (o + j)) h = some (v, h) := by
 simp only [aD, eI] at e
 cases hr : lT b h with
 | none => rw [hr] at e; cases e
 | some l =>
  rw [hr] at e
  simp only at e
  cases ht : iZ 6 (l.drop o) with
  | none => rw [ht] at e; cases e
  | some cs =>
   rw [ht] at e
   simp only [bB, bW, DV.a.injEq, and_true] at e
   subst e
   obtain ⟨h1, h2, h3, h4⟩ := nY 6 _ _ ht
   have hj : j < 6 := by
    have := (gLt hv)
    omega
   have ev : l[o + j]? = some v := by
    rw [h3] at hv
    rw [List.getElem?_take_of_lt hj, List.getElem?_drop] at hv
    exact hv
   have ho := h4 v (List.mem_of_getElem? hv)
   simp [aB, aEe, hr, ev, ho]
theorem aQl {I : Im} {A Q L : Ls} {h : Hp} {b : Pos} {y : Node} {ca : List DV} {s3 : DV} {ks : List Node} (S : Sy I A Q ((b, some (.row .ex ca)) :: L) h) (Ny : NV I y ca) (N3 : NS I s3 ks) (hl : ks.length + 1 ≤ bQ) :
 ∃ x h' J, bH 6 104 (.l b 0 1 1) s3 h = some (x, h') ∧ ILe I J ∧ Sy J A Q L h' ∧ NS J x (y :: ks) := by
 obtain ⟨c1, c2, _⟩ := Ny.shape
 have N3' := N3
 obtain ⟨hk, cells, F, NL⟩ := N3
 by_cases h0 : ks.length = 0
 ·have hks : ks = [] := List.eq_nil_of_length_eq_zero h0
  subst hks
  have hc : cells = [] := NL
  have hs : nC 6 s3 h = some (0, []) := by
   rw [F.src S.dropL, hc]
   rfl
  have hg := S.memL (eG)
  have e : bH 6 104 (.l b 0 1 1) s3 h = some (.l b 0 1 1, ⟨h.next, Tr.set (.row .ex ca) b h.bl⟩) := by
   obtain ⟨k, t, m, ns, ts, ks'⟩ := y
   obtain ⟨s1, s2, s4, rfl, _⟩ := Ny
   unfold bH
   simp only [hs]
   simp [hZ, hg, Kind.writable, jS, qD]
  have S2 : Sy I A Q ((b, some (.row .ex ca)) :: L) ⟨h.next, Tr.set (.row .ex ca) b h.bl⟩ := S.setL (Rpl.head _) rfl (fun c => bZq _ _ _ _)
  obtain ⟨J, gJ, S4, F4, _⟩ := Fz.built (sz := 6) (n := 1) S2 (by simpa using c1) c2
  exact ⟨_, _, J, e, gJ, S4, by simp [bQ], ca, F4, bZn (Ny.mono gJ)⟩
 ·obtain ⟨J, gJ, S4, F4, G4⟩ := Fz.built (sz := 6) (n := 1) S (by simpa using c1) c2
  obtain ⟨d1, d2⟩ := NL.shape
  have hr : (1 + ks.length) * 104 ≤ gW := by simp [gW, bQ] at hl ⊢; omega
  obtain ⟨x5, h5, B5, e5, S5, G5⟩ := G4.app (A0 := A) S4 ((F.mono gJ).src S4) d1 d2 h0 hr
  obtain ⟨K, gK, S6, F6⟩ := G5.freeze S5
  refine ⟨x5, h5, K, e5, gJ.trans gK, S6, by simpa using hl, ca ++ cells, by simpa [aJ, Nat.add_comm] using F6, ?_⟩
  exact NVL.app (bZn ((Ny.mono gJ).mono gK)) ((NL.mono gJ).mono gK)
end Go.Dd

