/- A part of the proof: T5 T6 T7 T8 T9 T10 T11 T12 T13 T14 U1 U2 U3 T15 T16 T17 T18 U4 T19 Z1 Z4 P0 P1 P2 P3 P4 P5 P6 P7 P8 P9 P10 P11 P12 P13 P14 P15 P16 Z2 B1 B2 B3 Y1 Y2 Y3 Y4 B4 B5 Z5: each text has a comment of its own. -/
import Derived.Test.YtliejomdaookoaaGreatDoorSg1
set_option linter.unusedVariables false
set_option linter.unusedSimpArgs false
set_option linter.constructorNameAsVariable false
set_option maxRecDepth 100000
namespace Go.Dd
open Go.Proofs
abbrev PF := PSt → Option (Node × PSt)
def jT (E : PF) : PF := fun st => (E st).bind fun r => (dZ r.2 10 [41]).bind fun q => some (r.1, q.2)
def cY (LI : PF) : Nat → List Node → PSt → Option (List Node × PSt)
 | 0, _, _ => none
 | f + 1, xs, st => if st.err = 0 then (dQ st 10 [41]).bind fun c => if c then some (xs, st) else
  (dO st).bind fun r => if r.1.2 then cY LI f (xs ++ [r.1.1]) r.2 else
   (dQ r.2 7 []).bind fun c1 => (if c1 then some true else dQ r.2 10 [40]).bind fun c2 =>
    if c2 then (cF LI r.2).bind fun q => cY LI f (xs ++ [q.1]) q.2 else (aX r.2 0).bind fun t => cY LI f (xs ++ [r.1.1]) (cP r.2 t 13)
  else some (xs, st)
def eQ (LI : PF) (f : Nat) : PF := fun st => (cY LI f [] st).bind fun r => (aT r.2).bind fun q => some (.mk 4 [] 0 [] [] r.1, q.2)
def eH : Nat → List (List Nat) → PSt → Option (List (List Nat) × PSt)
 | 0, _, _ => none
 | f + 1, l, st => (dQ st 8 []).bind fun c => if c then (nC st 8 l.length).bind fun r => eH f (l ++ [r.1]) r.2 else some (l, st)
def dD (E : PF) : Nat → List Node → PSt → Option (List Node × PSt)
 | 0, _, _ => none
 | f + 1, xs, st => if st.err = 0 then (dQ st 0 []).bind fun c => if c then some (xs, st) else (dQ st 10 [93]).bind fun c => if c then some (xs, st) else
  (dQ st 10 [94]).bind fun c =>
   if c then (aT st).bind fun r => (E r.2).bind fun q => (dQ q.2 10 [46]).bind fun d => if d then (aT q.2).bind fun u => some (xs ++ [.mk 10 [] 0 [] [] [q.1]], u.2) else some (xs ++ [.mk 10 [] 0 [] [] [q.1]], q.2)
   else (E st).bind fun q => (dQ q.2 10 [46]).bind fun d => if d then (aT q.2).bind fun u => dD E f (xs ++ [q.1]) u.2 else some (xs ++ [q.1], q.2)
  else some (xs, st)
def bar (l : List (List Nat)) (st : PSt) : Option PSt :=
 if 0 < l.length then (dQ st 10 [93]).bind fun c => if c then some st else (dZ st 10 [124]).bind fun r => some r.2 else some st
def iX (E : PF) (f : Nat) : PF := fun st => (eH f [] st).bind fun r => (bar r.1 r.2).bind fun st2 => (hO f st2).bind fun q => (dD E f [] q.2).bind fun u => (dZ u.2 10 [93]).bind fun w => some (.mk 9 [] 0 r.1 q.1 u.1, w.2)
def cZ (LI E : PF) (f : Nat) : PF := fun st => (dO st).bind fun r => if r.1.2 then some (r.1.1, r.2) else (aX r.2 0).bind fun t =>
 if r.2.err = 0 then
  if t.kind = 1 then (aT r.2).bind fun q => some (.mk 5 q.1.text 0 [] [] [], q.2)
  else if t.kind = 7 then cF LI r.2
  else (dQ r.2 10 [40]).bind fun c => if c then cF (jT E) r.2 else (dQ r.2 10 [91]).bind fun c => if c then cF (iX E f) r.2 else some (zN, cP r.2 t 13)
 else some (zN, r.2)
def bM (P : PF) (g : Nat) : Nat → Node → PSt → Option (Node × PSt)
 | 0, _, _ => none
 | f + 1, x, st => (dQ st 3 []).bind fun c => if c then (aT st).bind fun r => (P r.2).bind fun q => (bO g q.1 q.2).bind fun u => bM P g f (aH r.1.text [x, u.1]) u.2 else some (x, st)
def dG (P : PF) (g : Nat) : Nat → List Nat → List Node → PSt → Option (Node × PSt)
 | 0, _, _, _ => none
 | f + 1, t, ks, st => (dQ st 2 []).bind fun c => if c then (aT st).bind fun r => if t.length + r.1.text.length ≤ cA then
  (P r.2).bind fun q => (bO g q.1 q.2).bind fun u => (bM P g g u.1 u.2).bind fun w => dG P g f (t ++ r.1.text) (ks ++ [w.1]) w.2 else none
  else some (aH t ks, st)
def gW (P : PF) (g : Nat) : Node → PF := fun x st => (dQ st 2 []).bind fun c => if c then dG P g g [] [x] st else some (x, st)
def fH (x : Node) : Node := if x.kids.length = 0 then x else aH x.text (x.kids.drop 1)
def nB (P : PF) (g : Nat) : PF := fun st => (aX st 0).bind fun t =>
 if t.kind = 1 then (aT st).bind fun r => some (aH t.text [zN], r.2)
 else if t.kind = 3 then (aT st).bind fun r => (P r.2).bind fun q => (bO g q.1 q.2).bind fun u => some (aH t.text [zN, u.1], u.2)
 else if t.kind = 2 then gW P g zN st
 else some (zN, cP st t 13)
def jC (P : PF) (g : Nat) : Nat → List Node → PSt → Option (Node × PSt)
 | 0, _, _ => none
 | f + 1, ks, st => (dQ st 10 [59]).bind fun c => if c then (aT st).bind fun r => (nB P g r.2).bind fun q => jC P g f (ks ++ [fH q.1]) q.2 else some (.mk 8 [] 0 [] [] ks, st)
def fR (P : PF) (g : Nat) : PF := fun st => (P st).bind fun q => (bO g q.1 q.2).bind fun u => (bM P g g u.1 u.2).bind fun w => (gW P g w.1 w.2).bind fun n =>
 (dQ n.2 10 [59]).bind fun c => if c then
  if n.1.kind = 7 then (n.1.kids[0]?).bind fun k0 => jC P g g [k0, fH n.1] n.2
  else (aX n.2 0).bind fun t => some (n.1, cP n.2 t 13)
  else some n
def kP (P E : PF) (g : Nat) : PF := fun st => (dQ st 1 []).bind fun c => (if c then (aX st 1).bind fun t => some (decide (t.kind = 9)) else some false).bind fun d =>
 if d then (aT st).bind fun r => (aT r.2).bind fun q => (E q.2).bind fun u => some (.mk 6 r.1.text 0 [] [] [u.1], u.2) else fR P g st
def mO : Nat → PF
 | 0 => fun _ => none
 | f + 1 => eQ (mO f) f
def dU : Nat → PF
 | 0 => fun _ => none
 | f + 1 => kP (cZ (mO f) (dU f) f) (dU f) f
theorem NVL.at {I : Im} : ∀ {l : List Node} {c : List DV} {i : Nat} {x : Node}, NVL I l c → l[i]? = some x → ∃ d rest, c.drop (i * 6) = d ++ rest ∧ NV I x d := by
 intro l c i x H hi
 have := H.drop i
 rw [jJ hi] at this
 obtain ⟨d, rest, e, N, _⟩ := this
 exact ⟨d, rest, e, N⟩
theorem NS.at {I : Im} {s : DV} {ks : List Node} (H : NS I s ks) {i : Nat} {x : Node} (hi : ks[i]? = some x) :
 ∃ b o c, (∀ h', aZ 6 s (.i .i64 (i : Int)) h' = some (.p b o, h')) ∧ NV I x c ∧ ∀ (J : Im) (A Q L : Ls) (h : Hp), ILe I J → Sy J A Q L h → aE 6 (.p b o) h = some (.a c, h) := by
 obtain ⟨_, cells, F, N⟩ := H
 obtain ⟨hlt, _⟩ := List.getElem?_eq_some_iff.1 hi
 obtain ⟨d, rest, e, Nd⟩ := N.at hi
 rcases F with ⟨_, h2, _⟩ | ⟨b, o, cap, k, row, rest2, rfl, h2, h3, h4, h5, h6⟩
 ·omega
 ·refine ⟨b, o + i * 6, d, fun h' => ?_, Nd, fun J A Q L h g S => ldA (S.im _ _ (g _ _ h3)) ?_⟩
  ·show (if 0 ≤ (i : Int) ∧ (i : Int) < (ks.length : Int) then some (DV.p b (o + (i : Int).toNat * 6), h') else none) = _
   rw [if_pos ⟨by omega, by omega⟩]
   rfl
  ·have hle : i * 6 ≤ cells.length := by rw [h5]; exact Nat.mul_le_mul_right _ (by omega)
   rw [← List.drop_drop, h4, List.drop_append_of_le_length hle, e, List.append_assoc]
   obtain ⟨s1, s2, _⟩ := Nd.shape
   exact gO d _ 6 s1 s2
theorem Fz.rest {I : Im} {sz : Nat} {s : DV} {len : Nat} {cells : List DV} (H : Fz I sz s len cells) {A Q L : Ls} {h : Hp} (S : Sy I A Q L h) {i : Nat} (hi : i ≤ len) (h0 : 0 < len) :
 ∃ s' h' J, cQ sz s (some (.i .i64 (Int.ofNat i))) none h = some (s', h') ∧ ILe I J ∧ Sy J A Q L h' ∧ Fz J sz s' (len - i) (cells.drop (i * sz)) ∧ s' ≠ .l0 := by
 rcases H with ⟨_, rfl, _⟩ | ⟨b, o, cap, k, row, rest, rfl, h2, h3, h4, h5, h6⟩
 ·omega
 ·have hle : i * sz ≤ cells.length := by rw [h5]; exact Nat.mul_le_mul_right _ (by omega)
  have hd : row.drop (o + i * sz) = cells.drop (i * sz) ++ rest := by
   rw [← List.drop_drop, h4, List.drop_append_of_le_length hle]
  have e1 : zB none len cap = some len := by simp [zB, h2]
  have e2 : loD (some (.i .i64 (Int.ofNat i))) len = some i := by
   show (if 0 ≤ (Int.ofNat i) ∧ (Int.ofNat i) ≤ (len : Int) then some (Int.ofNat i).toNat else none) = _
   have hi' : (Int.ofNat i) = (i : Int) := rfl
   rw [if_pos ⟨by omega, by omega⟩]
   rfl
  have hlen : (cells.drop (i * sz)).length = (len - i) * sz := by rw [List.length_drop, h5, Nat.sub_mul]
  by_cases hc : cap = i
  ·have hz : len - i = 0 := by omega
   have hnil : cells.drop (i * sz) = [] := List.eq_nil_of_length_eq_zero (by rw [hlen, hz]; simp)
   have hg := S.im _ _ h3
   have other : (k = .ro ∨ k = .ex) → cQ sz (.l b o len cap) (some (.i .i64 (Int.ofNat i))) none h = some (.l b o (len - i) (cap - i), h) := fun hk => by
    unfold cQ
    simp only [e1, e2, hg]
    rcases hk with rfl | rfl <;> simp [hc]
   have grow : (k ≠ .ro ∧ k ≠ .ex) → cQ sz (.l b o len cap) (some (.i .i64 (Int.ofNat i))) none h = some (.le, h) := fun hk => by
    unfold cQ
    simp only [e1, e2, hg]
    cases k with
    | ro => exact absurd rfl hk.1
    | ex => exact absurd rfl hk.2
    | gr es => simp [hc]
    | sp => simp [hc]
   by_cases hk : k = .ro ∨ k = .ex
   ·refine ⟨_, _, I, other hk, ILe.refl _, S, .inr ⟨b, o, cap - i, k, row, row.drop o, rfl, by omega, h3, ?_, hlen, fun v hv => h6 v (List.mem_of_mem_drop hv)⟩, by simp⟩
    rw [hnil]; rfl
   ·refine ⟨_, _, I, grow ⟨fun e => hk (.inl e), fun e => hk (.inr e)⟩, ILe.refl _, S, ?_, by simp⟩
    rw [hz, hnil]
    exact .inl ⟨.inr rfl, rfl, rfl⟩
  ·refine ⟨.l b (o + i * sz) (len - i) (cap - i), h, I, ?_, ILe.refl _, S, .inr ⟨b, o + i * sz, cap - i, k, row, rest, rfl, by omega, h3, hd, hlen, fun v hv => h6 v (List.mem_of_mem_drop hv)⟩, by simp⟩
   unfold cQ
   simp only [e1, e2, S.im _ _ h3]
   cases k <;> simp [hc]
theorem aQb {I : Im} {A Q L : Ls} {h : Hp} (S : Sy I A Q L h) {x : DV} {ks : List Node} (N : NS I x ks) :
 Ev (fun n => aL n 155 [x] h) (fun v h' => ∃ J, ILe I J ∧ Sy J A Q L h' ∧ NS J v ks) := by
 refine Ev.enter (fun n => aLc n _ h) ?_
 unfold s155
 have N0 := N
 obtain ⟨hl, cells, F, NL⟩ := N
 have F0 := F
 rcases F with ⟨rfl | rfl, h2, hc⟩ | ⟨b, o, cap, k, row, rest, rfl, _⟩
 ·refine Ev.op (show pEq (.slice 25) true .l0 .l0 h = some (.b true, h) from rfl) ?_
  refine yt ?_
  exact bOo ⟨I, ILe.refl _, S, N0⟩
 ·refine Ev.op (show pEq (.slice 25) true .le .l0 h = some (.b false, h) from rfl) ?_
  refine yj ?_
  refine bPl S (cs := []) rfl ?_
  intro b1 h1 S1
  have hks : ks = [] := List.eq_nil_of_length_eq_zero h2
  subst hks
  have hg := S1.memL (fO)
  have e : bN 6 104 (.l b1 0 0 0) .le h1 = some (.l b1 0 0 0, ⟨h1.next, Tr.set (.row .ex []) b1 h1.bl⟩) := by
   unfold bN
   simp only [lP]
   simp [fT, hg, Kind.writable, iS, oL]
  refine Ev.op e ?_
  have S2 : Sy I A Q ((b1, some (.row .ex [])) :: L) ⟨h1.next, Tr.set (.row .ex []) b1 h1.bl⟩ := S1.setL (Rpl.head _) rfl (fun c => bOy _ _ _ _)
  obtain ⟨J, gJ, S4, F4, _⟩ := Fz.built (sz := 6) (n := 0) S2 (by simp) bT
  exact bOo ⟨J, gJ, S4, by simp, [], F4, rfl⟩
 ·refine Ev.op (show pEq (.slice 25) true (.l b o ks.length cap) .l0 h = some (.b false, h) from rfl) ?_
  refine yj ?_
  refine bPl S (cs := []) rfl ?_
  intro b1 h1 S1
  by_cases hk : ks.length = 0
  ·have hks : ks = [] := List.eq_nil_of_length_eq_zero hk
   subst hks
   have hs : lP 6 (.l b o ([] : List Node).length cap) h1 = some (0, []) := by
    have hc : cells = [] := NL
    rw [F0.src S1.dropL, hc]
    rfl
   have hg := S1.memL (fO)
   have e : bN 6 104 (.l b1 0 0 0) (.l b o ([] : List Node).length cap) h1 = some (.l b1 0 0 0, ⟨h1.next, Tr.set (.row .ex []) b1 h1.bl⟩) := by
    unfold bN
    simp only [hs]
    simp [fT, hg, Kind.writable, iS, oL]
   refine Ev.op e ?_
   have S2 : Sy I A Q ((b1, some (.row .ex [])) :: L) ⟨h1.next, Tr.set (.row .ex []) b1 h1.bl⟩ := S1.setL (Rpl.head _) rfl (fun c => bOy _ _ _ _)
   obtain ⟨J, gJ, S4, F4, _⟩ := Fz.built (sz := 6) (n := 0) S2 (by simp) bT
   exact bOo ⟨J, gJ, S4, by simp, [], F4, rfl⟩
  ·obtain ⟨J, gJ, S4, F4, G4⟩ := Fz.built (sz := 6) (n := 0) S1 (by simp) bT
   obtain ⟨c1, c2⟩ := NL.shape
   have hr : (0 + ks.length) * 104 ≤ gA := by simp [gA, cA] at hl ⊢; omega
   obtain ⟨x5, h5, B5, e5, S5, G5⟩ := G4.app (A0 := A) S4 ((F0.mono gJ).src S4) c1 c2 hk hr
   refine Ev.op e5 ?_
   obtain ⟨K, gK, S6, F6⟩ := G5.freeze S5
   refine bOo ⟨K, gJ.trans gK, S6, hl, cells, by simpa using F6, (NL.mono gJ).mono gK⟩
theorem fV {I : Im} {A Q L : Ls} {h : Hp} {b : Pos} {kd : Kind} {l : List DV} {o : Nat} {v : DV} (S : Sy I A Q L h) (m : (b, some (.row kd l)) ∈ L) (e : l[o]? = some v) (hv : v.one = true) (hb : DV.beq v v = true) : cB (aB (.p b o) h) v = true := bBn (S := S) m e hv hb
theorem sB (t : List Nat) : DV.beq (.s t) (.s t) = true := by
 have e : sT t t = true := by rw [iU]
 simp [DV.beq, e]
theorem sN {I : Im} {A Q L : Ls} {h : Hp} (S : Sy I A Q L h) {x : Node} {cs : List DV} (N : NV I x cs) :
 Ev (fun n => aL n 138 [.a cs] h) (fun v h' => ∃ J ds, v = .a ds ∧ ILe I J ∧ Sy J A Q L h' ∧ NV J (fH x) ds) := by
 refine Ev.enter (fun n => aSa n _ h) ?_
 unfold s138
 have N0 := N
 obtain ⟨k, t, m, ns, ts, ks⟩ := x
 obtain ⟨s1, s2, s3, rfl, a, b, c, cells, F, NL⟩ := N
 have o1 := a.2.one
 have o2 := b.2.one
 have o3 := F.one
 refine wb fun _ _ _ => ?_; refine wa fun _ _ _ => ?_; refine wf ?_; refine wl ?_
 refine Ev.op (F.len _) ?_
 refine bOr (fun e1 => ?_) (fun e1 => ?_)
 ·refine yt ?_; refine ws ?_; refine wt fun _ _ => ?_; refine ws ?_
  refine bOo ⟨I, _, rfl, ILe.refl _, dp, ?_⟩
  have e2 : ks.length = 0 := by simp at e1; simp [e1]
  rw [show fH (.mk k t m ns ts ks) = .mk k t m ns ts ks by simp [fH, Node.kids, e2]]
  exact N0
 ·refine yj (wf ?_); refine wl ?_; refine wf ?_; refine wl ?_
  have e2 : ks.length ≠ 0 := fun e => e1 (by rw [e]; rfl)
  rename_i bb hh SX
  obtain ⟨s4, h4, J, e4, g4, S4, F4, n4⟩ := F.rest SX (i := 1) (by omega) (by omega)
  refine Ev.op e4 ?_
  have N4 : NS J s4 (ks.drop 1) := ⟨by simp; omega, cells.drop (1 * 6), by simpa using F4, (NL.mono g4).drop 1⟩
  refine bOm (aQb S4 N4) ?_
  rintro v5 h5 ⟨K, g5, S5, N5⟩
  have o5 := N5.one
  refine bPg ?_ ?_
  ·rw [Bool.and_true]; exact fV S5 (by repeat (first | exact fO | apply List.Mem.tail)) rfl rfl (sB _)
  refine wd ?_; refine wt fun _ _ => ?_; refine ws ?_
  refine bOo ⟨K, _, rfl, g4.trans g5, dp, ?_⟩
  rw [show fH (.mk k t m ns ts ks) = aH t (ks.drop 1) by simp [fH, Node.kids, Node.text, e2]]
  exact NV.of (SS.nil K) (SS.nil K) N5
end Go.Dd

namespace Go.Dd
open Go.Proofs
theorem aMr (n : Nat) (x : DV) (h : Hp) : aL (n + 1) 153 [x] h = s153 (aL n) n x h := by kernel_rfl
theorem aQy (n : Nat) (x : DV) (h : Hp) : aL (n + 1) 152 [x] h = s152 (aL n) n x h := by kernel_rfl
theorem aWz (n : Nat) (x : DV) (h : Hp) : aL (n + 1) 50 [x] h = s50 (aL n) n x h := by kernel_rfl
theorem aLb (n : Nat) (x : DV) (h : Hp) : aL (n + 1) 154 [x] h = s154 (aL n) n x h := by kernel_rfl
theorem aOz (n : Nat) (x : DV) (h : Hp) : aL (n + 1) 137 [x] h = s137 (aL n) n x h := by kernel_rfl
theorem aMm (n : Nat) (x y : DV) (h : Hp) : aL (n + 1) 135 [x, y] h = s135 (aL n) n x y h := by kernel_rfl
theorem aLx (n : Nat) (x y : DV) (h : Hp) : aL (n + 1) 134 [x, y] h = s134 (aL n) n x y h := by kernel_rfl
theorem aOl (n : Nat) (x : DV) (h : Hp) : aL (n + 1) 139 [x] h = s139 (aL n) n x h := by kernel_rfl
theorem aOk (n : Nat) (x : DV) (h : Hp) : aL (n + 1) 114 [x] h = s114 (aL n) n x h := by kernel_rfl
theorem aTq (n : Nat) (x : DV) (h : Hp) : aL (n + 1) 79 [x] h = s79 (aL n) n x h := by kernel_rfl
theorem aGk (rec : FuncId → List DV → Hp → aG) (x : DV) (h : Hp) : dP CF rec (.f 152 [x] []) [] h = rec 152 [x] h := by kernel_rfl
theorem aTn (rec : FuncId → List DV → Hp → aG) (x : DV) (h : Hp) : dP CF rec (.f 153 [x] []) [] h = rec 153 [x] h := by kernel_rfl
theorem aXb (rec : FuncId → List DV → Hp → aG) (x : DV) (h : Hp) : dP CF rec (.f 154 [x] []) [] h = rec 154 [x] h := by kernel_rfl
theorem aJs {E : PF} (HE : nJ 79 E) : nJ 153 (jT E) := by
 intro I A L h p s st x st' S T hm
 unfold jT at hm
 obtain ⟨⟨y, st1⟩, hy, hm⟩ := bD hm
 obtain ⟨⟨t, st2⟩, ht, hm⟩ := bD hm
 simp only [aW, bR] at hm
 obtain ⟨rfl, rfl⟩ := hm
 refine Ev.enter (fun n => aMr n _ h) ?_
 unfold s153
 refine wa fun _ _ _ => ?_
 refine bOm (HE _ _ _ _ _ _ _ _ _ (by assumption) T hy) ?_
 rintro _ _ ⟨J, s1, cs, rfl, g1, S1, T1, N1⟩
 obtain ⟨l1, o1, b1⟩ := N1.shape
 refine wa fun _ _ _ => ?_; refine wt fun _ _ => ?_
 refine bOm (lK (by assumption) T1 ht) ?_
 rintro _ _ ⟨rfl, s2, S2, T2⟩
 refine ws ?_; refine wt fun _ _ => ?_; refine ws ?_
 exact bOo ⟨J, s2, cs, rfl, g1, dp, T2, N1⟩
theorem kY {I : Im} {B A Q L : Ls} {h : Hp} {x : DV} {xs : List Node} {cells : List DV} (G : Gr I 6 B x xs.length cells) (NL : NVL I xs cells) {y : Node} {cs : List DV} (N : NV I y cs) {b : Pos}
 (S : Sy I (B ++ A) Q L h) (m : (b, some (.row .ex cs)) ∈ L) (hl : xs.length + 1 ≤ cA) :
 ∃ x' h' B' cells', bN 6 104 x (.l b 0 1 1) h = some (x', h') ∧ Sy I (B' ++ A) Q L h' ∧ Gr I 6 B' x' (xs ++ [y]).length cells' ∧ NVL I (xs ++ [y]) cells' := by
 obtain ⟨l1, o1, b1⟩ := N.shape
 have hr : (xs.length + 1) * 104 ≤ gA := by simp [gA, cA] at hl ⊢; omega
 obtain ⟨x4, h4, B4, e4, S4, G4⟩ := G.app S (nI S (n := 1) m (by omega) o1) (by omega) o1 (by omega) hr
 exact ⟨x4, h4, B4, cells ++ cs, e4, S4, by simpa using G4, NL.app (bOu N)⟩
theorem Gr.nodes {I : Im} {B A Q L : Ls} {h : Hp} {x : DV} {xs : List Node} {cells : List DV} (G : Gr I 6 B x xs.length cells) (NL : NVL I xs cells) (S : Sy I (B ++ A) Q L h) (hl : xs.length ≤ cA) :
 ∃ J, ILe I J ∧ Sy J A Q L h ∧ NS J x xs := by
 obtain ⟨J, gJ, S3, F3⟩ := G.freeze S
 exact ⟨J, gJ, S3, hl, cells, F3, NL.mono gJ⟩
theorem tG {E : PF} (HE : nJ 79 E) : ∀ (f j : Nat) (I : Im) (B A L : Ls) (h : Hp) (p : Pos) (s x : DV) (st : PSt) (xs ys : List Node) (cells : List DV) (st' : PSt), Sy I (B ++ A) [PS p s st] L h → Gr I 6 B x xs.length cells → NVL I xs cells →
 xs.length + f ≤ cA → TS' I s st.toks → dD E f xs st = some (ys, st') →
 Ev (fun n => mA (aL n) n (n - j) (.p p 0) x h) (fun v h' => ∃ J s', ILe I J ∧ Sy J A [PS p s' st'] L h' ∧ TS' J s' st'.toks ∧ NS J v ys)
 | 0, j, I, B, A, L, h, p, s, x, st, xs, ys, cells, st', S, G, NL, hl, T, hm => by cases hm
 | f + 1, j, I, B, A, L, h, p, s, x, st, xs, ys, cells, st', S, G, NL, hl, T, hm => by
  unfold dD at hm
  refine bOv j (ll := fun n m => mA (aL n) n m (.p p 0) x h) (bb := fun n m => xW (aL n) n (mA (aL n) n m) (.p p 0) x h) (fun _ _ => rfl) ?_
  have hs := T.2.one
  unfold xW gI
  refine wn (wf ?_); refine wq ?_
  have fin : ∀ h', Sy I (B ++ A) [PS p s st] L h' → some (xs, st) = some (ys, st') → Ev (fun _ => some (x, h')) (fun v h' => ∃ J s', ILe I J ∧ Sy J A [PS p s' st'] L h' ∧ TS' J s' st'.toks ∧ NS J v ys) := by
   intro h' S' hm
   simp only [aW, bR] at hm
   obtain ⟨rfl, rfl⟩ := hm
   obtain ⟨J, gJ, S3, N3⟩ := G.nodes NL S' (by omega)
   exact bOo ⟨J, s, gJ, S3, T.mono gJ, N3⟩
  refine bOr (fun e1 => ?_) (fun e1 => ?_)
  ·rw [if_pos (show st.err = 0 from e1)] at hm
   refine zt (wm (zt ?_))
   obtain ⟨c, hc, hm⟩ := bD hm
   refine bOm (eO (by assumption) T hc) ?_
   rintro _ _ ⟨rfl, S1⟩
   cases c with
   | true =>
    refine zt (an (ap (yf (yf (yf (aq (yj ?_)))))))
    exact fin _ S1 (by simpa using hm)
   | false =>
    refine zt (ao (ap (zt (wm (zt ?_)))))
    rw [if_neg (by simp)] at hm
    obtain ⟨c, hc, hm⟩ := bD hm
    refine bOm (eO (by assumption) T hc) ?_
    rintro _ _ ⟨rfl, S2⟩
    cases c with
    | true =>
     refine zt (an (ap (yj ?_)))
     exact fin _ S2 (by simpa using hm)
    | false =>
     refine zt (ao (ap (yt ?_)))
     rw [if_neg (by simp)] at hm
     obtain ⟨c, hc, hm⟩ := bD hm
     unfold bBm
     refine bOm (eO (by assumption) T hc) ?_
     rintro _ _ ⟨rfl, S3⟩
     unfold bBe
     cases c with
     | true =>
      refine yt ?_
      rw [if_pos rfl] at hm
      obtain ⟨⟨t, st1⟩, ht, hm⟩ := bD hm
      obtain ⟨⟨y, st2⟩, hy, hm⟩ := bD hm
      obtain ⟨d, hd, hm⟩ := bD hm
      unfold bAo
      refine bOm (cN S3 T ht) ?_
      rintro _ _ ⟨rfl, s4, S4, T4⟩
      unfold bBk
      refine bOm (HE _ _ _ _ _ _ _ _ _ S4 T4 hy) ?_
      rintro _ _ ⟨J, s5, cs, rfl, g5, S5, T5, N5⟩
      obtain ⟨l5, o5, b5⟩ := N5.shape
      refine bPl S5 (kO l5) ?_
      intro b6 h6 S6
      obtain ⟨K, g7, S7, F7, _⟩ := Fz.built (sz := 6) (n := 1) S6 (by omega) o5
      have N7 : NS K _ [y] := ⟨by simp [cA], cs, F7, bOu (N5.mono g7)⟩
      have o7 := N7.one
      refine wd ?_
      have N8 := NV.of (I := K) (k := 10) (t := []) (m := 0) (SS.nil K) (SS.nil K) N7
      obtain ⟨l8, o8, b8⟩ := N8.shape
      refine bPl S7 (kO l8) ?_
      intro b9 h9 S9
      obtain ⟨x10, h10, B10, cells10, e10, S10, G10, NL10⟩ := kY ((G.mono g5).mono g7) ((NL.mono g5).mono g7) N8 S9 (fO) (by omega)
      refine Ev.op e10 ?_
      unfold aSo aDv
      refine bOm (eO S10.dropL (T5.mono g7) hd) ?_
      rintro _ _ ⟨rfl, S11⟩
      have fin2 : ∀ h' s', Sy K (B10 ++ A) [PS p s' st'] L h' → TS' K s' st'.toks → ys = xs ++ [.mk 10 [] 0 [] [] [y]] → Ev (fun _ => some (x10, h')) (fun v h' => ∃ J s', ILe I J ∧ Sy J A [PS p s' st'] L h' ∧ TS' J s' st'.toks ∧ NS J v ys) := by
       intro h' s' S' T' e
       subst e
       obtain ⟨M, gM, S12, N12⟩ := G10.nodes NL10 S' (by simp; omega)
       exact bOo ⟨M, s', (g5.trans g7).trans gM, S12, T'.mono gM, N12⟩
      cases d with
      | true =>
       refine yt ?_
       rw [if_pos rfl] at hm
       obtain ⟨⟨t2, st3⟩, ht2, hm⟩ := bD hm
       simp only [aW, bR] at hm
       obtain ⟨rfl, rfl⟩ := hm
       refine bOm (cN S11 (T5.mono g7) ht2) ?_
       rintro _ _ ⟨rfl, s18, S13, T13⟩
       exact fin2 _ s18 S13 T13 rfl
      | false =>
       refine yj ?_
       rw [if_neg (by simp)] at hm
       simp only [aW, bR] at hm
       obtain ⟨rfl, rfl⟩ := hm
       exact fin2 _ s5 S11 (T5.mono g7) rfl
     | false =>
      refine yj ?_
      rw [if_neg (by simp)] at hm
      obtain ⟨⟨y, st2⟩, hy, hm⟩ := bD hm
      obtain ⟨d, hd, hm⟩ := bD hm
      unfold bAn
      refine bOm (HE _ _ _ _ _ _ _ _ _ S3 T hy) ?_
      rintro _ _ ⟨J, s5, cs, rfl, g5, S5, T5, N5⟩
      obtain ⟨l5, o5, b5⟩ := N5.shape
      refine bPl S5 (kO l5) ?_
      intro b6 h6 S6
      obtain ⟨x10, h10, B10, cells10, e10, S10, G10, NL10⟩ := kY (G.mono g5) (NL.mono g5) N5 S6 (fO) (by omega)
      refine Ev.op e10 ?_
      refine bOm (eO S10.dropL T5 hd) ?_
      rintro _ _ ⟨rfl, S11⟩
      cases d with
      | true =>
       refine an (yj ?_)
       rw [if_pos rfl] at hm
       obtain ⟨⟨t2, st3⟩, ht2, hm⟩ := bD hm
       refine bOm (cN S11 T5 ht2) ?_
       rintro _ _ ⟨rfl, s18, S13, T13⟩
       refine (tG HE f (j + 1) J B10 A L _ p s18 x10 st3 (xs ++ [y]) ys cells10 st' S13 G10 NL10 (by simp; omega) T13 hm).mono ?_
       rintro v h' ⟨M, s', gM, r⟩
       exact ⟨M, s', g5.trans gM, r⟩
      | false =>
       refine ao (yt ?_)
       rw [if_neg (by simp)] at hm
       simp only [aW, bR] at hm
       obtain ⟨rfl, rfl⟩ := hm
       obtain ⟨M, gM, S12, N12⟩ := G10.nodes NL10 S11 (by simp; omega)
       exact bOo ⟨M, s5, g5.trans gM, S12, T5.mono gM, N12⟩
  ·rw [if_neg (show ¬ st.err = 0 from e1)] at hm
   refine yf (yf (yf (aq (yf (yf (yf (aq (yj ?_))))))))
   exact fin _ (by assumption) hm
theorem zL {E : PF} (HE : nJ 79 E) {I : Im} {A L : Ls} {h : Hp} {p : Pos} {s : DV} {st : PSt} (f : Nat) (hf : f ≤ cA) (S : Sy I A [PS p s st] L h) (T : TS' I s st.toks) {ys : List Node} {st' : PSt} (hm : dD E f [] st = some (ys, st')) :
 Ev (fun n => aL n 50 [.p p 0] h) (fun v h' => ∃ J s', ILe I J ∧ Sy J A [PS p s' st'] L h' ∧ TS' J s' st'.toks ∧ NS J v ys) := by
 refine Ev.enter (fun n => aWz n _ h) ?_
 unfold s50 aGa aGh aKw
 exact tG HE f 0 I [] A L h p s .l0 st [] ys [] st' S (Gr.nil I 6) rfl (by simpa using hf) T hm
end Go.Dd

namespace Go.Dd
open Go.Proofs
theorem uN {LI : PF} (HL : nJ 152 LI) : ∀ (f j : Nat) (I : Im) (B A L : Ls) (h : Hp) (p : Pos) (s x : DV) (st : PSt) (xs ys : List Node) (cells z : List DV) (st' : PSt) (b2 b3 : Pos),
 Sy I (B ++ A) [PS p s st] ((b3, some (.row .ex [.i .i64 (Int.ofNat 4), .s [], .i .i64 (Int.ofNat 0), .l0, .l0, x])) :: (b2, some (.row .ex z)) :: L) h → Gr I 6 B x xs.length cells → NVL I xs cells → z.length = 6 → (∀ v ∈ z, v.one = true) →
 xs.length + f ≤ cA → TS' I s st.toks → (cY LI f xs st).bind (fun r => (aT r.2).bind fun q => some (r.1, q.2)) = some (ys, st') →
 Ev (fun n => gS (aL n) n (n - j) (.p p 0) (.p b2 0) (.p b3 0) h) (NPost I A L p (.mk 4 [] 0 [] [] ys) st')
 | 0, j, I, B, A, L, h, p, s, x, st, xs, ys, cells, z, st', b2, b3, S, G, NL, z1, z2, hl, T, hm => by cases hm
 | f + 1, j, I, B, A, L, h, p, s, x, st, xs, ys, cells, z, st', b2, b3, S, G, NL, z1, z2, hl, T, hm => by
  unfold cY at hm
  refine bOv j (ll := fun n m => gS (aL n) n m (.p p 0) (.p b2 0) (.p b3 0) h) (bb := fun n m => pZ (aL n) n (gS (aL n) n m) (.p p 0) (.p b2 0) (.p b3 0) h) (fun _ _ => rfl) ?_
  have hs := T.2.one
  have hx := G.one
  unfold pZ
  refine wn (wf ?_); refine wq ?_
  have fin : ∀ h', Sy I (B ++ A) [PS p s st] ((b3, some (.row .ex [.i .i64 (Int.ofNat 4), .s [], .i .i64 (Int.ofNat 0), .l0, .l0, x])) :: (b2, some (.row .ex z)) :: L) h' → (some (xs, st)).bind (fun r => (aT r.2).bind fun q => some (r.1, q.2)) = some (ys, st') →
   Ev (fun n => dW (aL n) n (.p p 0) (.p b2 0) (.p b3 0) h') (NPost I A L p (.mk 4 [] 0 [] [] ys) st') := by
   intro h' S' hm
   simp only [Option.bind_some] at hm
   obtain ⟨⟨t2, st2⟩, ht2, hm⟩ := bD hm
   simp only [aW, bR] at hm
   obtain ⟨rfl, rfl⟩ := hm
   unfold dW
   refine bOm (cN S' T ht2) ?_
   rintro _ _ ⟨rfl, s2, S2, T2⟩
   obtain ⟨J, gJ, S3, N3⟩ := G.nodes NL S2 (by omega)
   have o3 := N3.one
   refine ws ?_; refine wt fun _ _ => ?_; refine ws ?_
   exact bOo ⟨J, s2, _, rfl, gJ, dp, T2.mono gJ, NV.of (SS.nil J) (SS.nil J) N3⟩
  refine bOr (fun e1 => ?_) (fun e1 => ?_)
  ·rw [if_pos (show st.err = 0 from e1)] at hm
   refine zt (wm (zt ?_))
   rw [Option.bind_assoc] at hm
   obtain ⟨c, hc, hm⟩ := bD hm
   refine bOm (eO (by assumption) T hc) ?_
   rintro _ _ ⟨rfl, S1⟩
   cases c with
   | true =>
    refine zt (an (ap (yj ?_)))
    exact fin _ S1 (by simpa using hm)
   | false =>
    refine zt (ao (ap (yt ?_)))
    rw [if_neg (by simp), Option.bind_assoc] at hm
    obtain ⟨⟨⟨y, d⟩, st1⟩, hy, hm⟩ := bD hm
    unfold aLp
    refine bOm (zT S1 T hy) ?_
    rintro _ _ ⟨s2, cs, rfl, S2, T2, N2⟩
    obtain ⟨l2, o2, q2⟩ := N2.shape
    refine wx ?_; refine wx ?_; refine wa fun _ _ _ => ?_; refine wt fun _ _ => ?_
    unfold aSv
    have body : ∀ (J : Im) (h' : Hp) (b4 : Pos) (y' : Node) (cs' : List DV) (s' : DV) (st1' : PSt), ILe I J → Sy J (B ++ A) [PS p s' st1'] ((b4, some (.row .ex cs')) :: (b3, some (.row .ex [.i .i64 (Int.ofNat 4), .s [], .i .i64 (Int.ofNat 0), .l0, .l0, x])) :: (b2, some (.row .ex z)) :: L) h' →
     TS' J s' st1'.toks → NV J y' cs' → (cY LI f (xs ++ [y']) st1').bind (fun r => (aT r.2).bind fun q => some (r.1, q.2)) = some (ys, st') →
     Ev (fun n => mR (aL n) n (gS (aL n) n (n - (j + 1))) (.p p 0) (.p b2 0) (.p b3 0) (.p b4 0) h') (NPost I A L p (.mk 4 [] 0 [] [] ys) st') := by
     intro J h' b4 y' cs' s' st1' gJ S' T' N' hm
     obtain ⟨l', o', q'⟩ := N'.shape
     unfold mR
     refine wf ?_; refine wl ?_; refine ws ?_
     refine bPl S' (kO l') ?_
     intro b6 h6 S6
     obtain ⟨x10, h10, B10, cells10, e10, S10, G10, NL10⟩ := kY (G.mono gJ) (NL.mono gJ) N' S6 (fO) (by omega)
     have hx10 := G10.one
     refine Ev.op e10 ?_
     refine wf ?_; refine wu fun _ _ => ?_
     refine (uN HL f (j + 1) J B10 A L _ p s' x10 st1' (xs ++ [y']) ys cells10 z st' b2 b3 ?_ G10 NL10 z1 z2 (by simp; omega) T' hm).mono (NPost.le gJ)
     exact Sy.dropL (Sy.dropL (by assumption))
    cases d with
    | true =>
     refine yt ?_
     exact body I _ _ y cs s2 st1 (ILe.refl _) (by assumption) T2 N2 (by simpa using hm)
    | false =>
     refine yj ?_
     rw [if_neg (by simp), Option.bind_assoc] at hm
     obtain ⟨c1, hc1, hm⟩ := bD hm
     rw [Option.bind_assoc] at hm
     obtain ⟨c2, hc2, hm2⟩ := bD hm
     refine bOm (eO (by assumption) T2 hc1) ?_
     rintro _ _ ⟨rfl, S3⟩
     have more : ∀ (b4 : Pos) h', Sy I (B ++ A) [PS p s2 st1] ((b4, some (.row .ex cs)) :: (b3, some (.row .ex [.i .i64 (Int.ofNat 4), .s [], .i .i64 (Int.ofNat 0), .l0, .l0, x])) :: (b2, some (.row .ex z)) :: L) h' → (if c2 = true then (cF LI st1).bind fun q => cY LI f (xs ++ [q.1]) q.2 else (aX st1 0).bind fun t => cY LI f (xs ++ [y]) (cP st1 t 13)).bind (fun r => (aT r.2).bind fun q => some (r.1, q.2)) = some (ys, st') →
      Ev (fun n => cE (.b c2)
       (bnd (aL n 151 [.p p 0, .f 152 [.p p 0] []] h') fun v41 h41 => bnd (aC 6 (.p b4 0) v41 h41) fun _ h42 => mR (aL n) n (gS (aL n) n (n - (j + 1))) (.p p 0) (.p b2 0) (.p b3 0) (.p b4 0) h42)
       (bnd (aL n 81 [.p p 0, .i .i64 (Int.ofNat 0)] h') fun v43 h43 => bnd (aL n 80 [.p p 0, v43, .i .i64 (Int.ofNat 13)] h43) fun v44 h44 => mR (aL n) n (gS (aL n) n (n - (j + 1))) (.p p 0) (.p b2 0) (.p b3 0) (.p b4 0) h44))
       (NPost I A L p (.mk 4 [] 0 [] [] ys) st') := by
      intro b4 h' S' hm
      cases c2 with
      | true =>
       rw [if_pos rfl, Option.bind_assoc] at hm
       obtain ⟨⟨w, st2⟩, hw, hm⟩ := bD hm
       refine yt ?_
       refine bOm (lO aGk HL S' T2 hw) ?_
       rintro _ _ ⟨J, s5, ds, rfl, g5, S5, T5, N5⟩
       obtain ⟨l5, o5, q5⟩ := N5.shape
       refine wt fun _ _ => ?_
       exact body J _ _ w ds s5 st2 g5 (by assumption) T5 N5 hm
      | false =>
       rw [if_neg (by simp), Option.bind_assoc] at hm
       obtain ⟨t, ht, hm⟩ := bD hm
       refine yj ?_
       refine bOm (fS (k := 0) S' T2 ht) ?_
       rintro _ _ ⟨rfl, S5⟩
       refine bOm (jY S5 T2.2.one t _) ?_
       rintro _ _ ⟨rfl, S6⟩
       exact body I _ _ y cs s2 (cP st1 t 13) (ILe.refl _) S6 (by rw [cX]; exact T2) N2 hm
     cases c1 with
     | true =>
      simp only [if_true, aW] at hc2
      subst hc2
      have M := more _ _ S3 hm2
      refine yg (yg (ap (yt ?_)))
      exact M
     | false =>
      refine zf (wm (zf ?_))
      refine bOm (eO (by assumption) T2 (by simpa using hc2)) ?_
      rintro _ _ ⟨rfl, S4⟩
      have M := more _ _ S4 hm2
      refine aq ?_
      exact M
  ·rw [if_neg (show ¬ st.err = 0 from e1)] at hm
   refine yf (yf (yf (aq (yj ?_))))
   exact fin _ (by assumption) hm
theorem aBf {LI : PF} (HL : nJ 152 LI) (f : Nat) (hf : f ≤ cA) : nJ 152 (eQ LI f) := by
 intro I A L h p s st x st' S T hm
 unfold eQ at hm
 refine Ev.enter (fun n => aQy n _ h) ?_
 unfold s152 xD yB aDz
 refine wa fun _ _ _ => ?_; refine wd ?_; refine wa fun _ _ _ => ?_; refine wt fun _ _ => ?_
 obtain ⟨⟨ys, st1⟩, h1, hm⟩ := bD hm
 obtain ⟨⟨t, st2⟩, h2, hm⟩ := bD hm
 simp only [aW, bR] at hm
 obtain ⟨rfl, rfl⟩ := hm
 refine uN HL f 0 I [] A L _ p s .l0 st [] ys [] _ st2 _ _ (by assumption) (Gr.nil I 6) rfl rfl (by first | assumption | exact dK _ | (repeat (first | exact bT | refine bJ (by first | rfl | assumption | exact Fz.one (by assumption)) ?_))) (by simpa using hf) T ?_
 rw [h1]
 simp [h2]
theorem aMc : ∀ (f : Nat), f ≤ cA → nJ 152 (mO f)
 | 0, _ => fun I A L h p s st x st' S T hm => by cases hm
 | f + 1, hf => aBf (aMc f (by omega)) f (by omega)
end Go.Dd

namespace Go.Dd
open Go.Proofs
theorem qU {I : Im} {B A Q L : Ls} {h : Hp} {x : DV} {l : List (List Nat)} (G : Gr I 1 B x l.length (l.map .s)) {t : List Nat} {b : Pos} (S : Sy I (B ++ A) Q L h) (m : (b, some (.row .ex [.s t])) ∈ L) (hl : l.length + 1 ≤ cA) :
 ∃ x' h' B', bN 1 16 x (.l b 0 1 1) h = some (x', h') ∧ Sy I (B' ++ A) Q L h' ∧ Gr I 1 B' x' (l ++ [t]).length ((l ++ [t]).map .s) := by
 have hr : (l.length + 1) * 16 ≤ gA := by simp [gA, cA] at hl ⊢; omega
 obtain ⟨x4, h4, B4, e4, S4, G4⟩ := G.app S (nI S (n := 1) m rfl (bJ rfl bT)) rfl (bJ rfl bT) (by omega) hr
 exact ⟨x4, h4, B4, e4, S4, by simpa using G4⟩
theorem pL {P : DV → Hp → Prop} : ∀ (f j : Nat) (I : Im) (B A L : Ls) (h : Hp) (p : Pos) (s x : DV) (st : PSt) (l l' : List (List Nat)) (z : List DV) (st' : PSt) (b2 b3 : Pos),
 Sy I (B ++ A) [PS p s st] ((b3, some (.row .ex [.i .i64 (Int.ofNat 9), .s [], .i .i64 (Int.ofNat 0), x, .l0, .l0])) :: (b2, some (.row .ex z)) :: L) h → Gr I 1 B x l.length (l.map .s) → z.length = 6 → (∀ v ∈ z, v.one = true) →
 l.length + f ≤ cA → TS' I s st.toks → eH f l st = some (l', st') →
 (∀ (B' : Ls) (h' : Hp) (s' x' : DV), Sy I (B' ++ A) [PS p s' st'] ((b3, some (.row .ex [.i .i64 (Int.ofNat 9), .s [], .i .i64 (Int.ofNat 0), x', .l0, .l0])) :: (b2, some (.row .ex z)) :: L) h' → Gr I 1 B' x' l'.length (l'.map .s) → l'.length ≤ cA → TS' I s' st'.toks →
  Ev (fun n => dY (aL n) n (.p p 0) (.p b2 0) (.p b3 0) h') P) →
 Ev (fun n => jO (aL n) n (n - j) (.p p 0) (.p b2 0) (.p b3 0) h) P
 | 0, j, I, B, A, L, h, p, s, x, st, l, l', z, st', b2, b3, S, G, z1, z2, hl, T, hm, K => by cases hm
 | f + 1, j, I, B, A, L, h, p, s, x, st, l, l', z, st', b2, b3, S, G, z1, z2, hl, T, hm, K => by
  unfold eH at hm
  obtain ⟨c, hc, hm⟩ := bD hm
  refine bOv j (ll := fun n m => jO (aL n) n m (.p p 0) (.p b2 0) (.p b3 0) h) (bb := fun n m => qA (aL n) n (jO (aL n) n m) (.p p 0) (.p b2 0) (.p b3 0) h) (fun _ _ => rfl) ?_
  have hx := G.one
  unfold qA
  refine bOm (eO S T hc) ?_
  rintro _ _ ⟨rfl, S1⟩
  cases c with
  | false =>
   refine yj ?_
   rw [if_neg (by simp)] at hm
   simp only [aW, bR] at hm
   obtain ⟨rfl, rfl⟩ := hm
   exact K B _ s x S1 G (by omega) T
  | true =>
   refine yt (wf ?_)
   rw [if_pos rfl] at hm
   obtain ⟨⟨t, st1⟩, ht, hm⟩ := bD hm
   have Sr := S1.res
   refine wl ?_; refine wf ?_; refine wl ?_
   refine bOm (aUp Sr T G.len ht) ?_
   rintro _ _ ⟨rfl, s2, S2, T2⟩
   refine bPg ?_ ?_
   ·rw [Bool.and_true]; exact fV S2 (by repeat (first | exact fO | apply List.Mem.tail)) rfl hx G.beq
   refine bPo S2 (cs := [.s t]) (by repeat (first | exact Rpl.head _ | apply Rpl.tail)) rfl ?_
   intro h3 S3
   obtain ⟨x4, h4, B4, e4, S4, G4⟩ := qU G S3 (by repeat (first | exact fO | apply List.Mem.tail)) (by omega)
   have hx4 := G4.one
   refine Ev.op e4 ?_
   refine wf ?_; refine wu fun _ _ => ?_
   exact pL f (j + 1) I B4 A L _ p s2 x4 st1 (l ++ [t]) l' z st' b2 b3 (dp) G4 z1 z2 (by simp; omega) T2 hm K
theorem aQw {E : PF} (HE : nJ 79 E) (f : Nat) (hf : f ≤ cA) : nJ 154 (iX E f) := by
 intro I A L h p s st x st' S T hm
 unfold iX at hm
 obtain ⟨⟨l, st1⟩, h1, hm⟩ := bD hm
 obtain ⟨st2, h2, hm⟩ := bD hm
 obtain ⟨⟨ts, st3⟩, h3, hm⟩ := bD hm
 obtain ⟨⟨ks, st4⟩, h4, hm⟩ := bD hm
 obtain ⟨⟨t, st5⟩, h5, hm⟩ := bD hm
 simp only [aW, bR] at hm
 obtain ⟨rfl, rfl⟩ := hm
 refine Ev.enter (fun n => aLb n _ h) ?_
 unfold s154 yW wN aCo
 refine wa fun _ _ _ => ?_; refine wd ?_; refine wa fun _ _ _ => ?_; refine wt fun _ _ => ?_
 refine pL f 0 I [] A L _ p s .l0 st [] l _ st1 _ _ (by assumption) (Gr.nil I 1) rfl (by first | assumption | exact dK _ | (repeat (first | exact bT | refine bJ (by first | rfl | assumption | exact Fz.one (by assumption)) ?_))) (by simpa using hf) T h1 ?_
 intro B h' s' x' S1 G1 hl T1
 have hx := G1.one
 unfold dY
 have rest : ∀ (h' : Hp) (s' : DV) (b2 b3 : Pos) (z : List DV), z.length = 6 → (∀ v ∈ z, v.one = true) → Sy I (B ++ A) [PS p s' st2] ((b3, some (.row .ex [.i .i64 (Int.ofNat 9), .s [], .i .i64 (Int.ofNat 0), x', .l0, .l0])) :: (b2, some (.row .ex z)) :: L) h' → TS' I s' st2.toks →
  Ev (fun n => xL (aL n) n (.p p 0) (.p b2 0) (.p b3 0) h') (NPost I A L p (.mk 9 [] 0 l ts ks) st5) := by
  intro h' s' b2 b3 z z1 z2 S2 T2
  unfold xL
  obtain ⟨J, gJ, S3, F3⟩ := G1.freeze S2
  refine bOm (aBy f hf S3 (T2.mono gJ) h3) ?_
  rintro v4 h4' ⟨K, s4, g4, S4, T4, N4⟩
  have o4 := N4.2.one
  refine wf ?_; refine wu fun _ _ => ?_
  refine bOm (zL HE f hf (by assumption) T4 h4) ?_
  rintro v5 h5' ⟨M, s5, g5, S5, T5, N5⟩
  have o5 := N5.one
  refine wf ?_; refine wu fun _ _ => ?_
  refine bOm (lK (by assumption) T5 h5) ?_
  rintro _ _ ⟨rfl, s6, S6, T6⟩
  refine ws ?_; refine wt fun _ _ => ?_; refine ws ?_
  exact bOo ⟨M, s6, _, rfl, (gJ.trans g4).trans g5, dp, T6, NV.of ⟨hl, (F3.mono g4).mono g5⟩ (N4.mono g5) N5⟩
 refine wf ?_; refine wl ?_
 refine Ev.op (G1.len _) ?_
 unfold bar at h2
 refine bQj (fun e1 => ?_) (fun e1 => ?_)
 ·have e2 : 0 < l.length := by simp at e1; exact e1
  simp only [if_pos e2] at h2
  obtain ⟨c, hc, h2⟩ := bD h2
  refine zt (wm (zt ?_))
  refine bOm (eO (by assumption) T1 hc) ?_
  rintro _ _ ⟨rfl, S2⟩
  cases c with
  | true =>
   refine zt (an (ap (yj ?_)))
   simp only [if_true, aW] at h2
   subst h2
   exact rest _ s' _ _ _ rfl (by first | assumption | exact dK _ | (repeat (first | exact bT | refine bJ (by first | rfl | assumption | exact Fz.one (by assumption)) ?_))) S2 T1
  | false =>
   refine zt (ao (ap (yt ?_)))
   obtain ⟨⟨t2, st6⟩, ht2, h2⟩ := bD (by simpa using h2)
   simp only [aW] at h2
   subst h2
   refine bOm (lK (by assumption) T1 ht2) ?_
   rintro _ _ ⟨rfl, s3, S3, T3⟩
   exact rest _ s3 _ _ _ rfl (by first | assumption | exact dK _ | (repeat (first | exact bT | refine bJ (by first | rfl | assumption | exact Fz.one (by assumption)) ?_))) S3 T3
 ·have e2 : ¬ 0 < l.length := fun e => e1 (by show (0 : Int) < _; omega)
  simp only [if_neg e2, aW] at h2
  subst h2
  refine yf (yf (yf (aq (yj ?_))))
  exact rest _ s' _ _ _ rfl (by first | assumption | exact dK _ | (repeat (first | exact bT | refine bJ (by first | rfl | assumption | exact Fz.one (by assumption)) ?_))) S1 T1
theorem aCf {LI E : PF} (HL : nJ 152 LI) (HE : nJ 79 E) (f : Nat) (hf : f ≤ cA) : nJ 137 (cZ LI E f) := by
 intro I A L h p s st x st' S T hm
 unfold cZ at hm
 obtain ⟨⟨⟨y, d⟩, st1⟩, hy, hm⟩ := bD hm
 refine Ev.enter (fun n => aOz n _ h) ?_
 unfold s137 aMf
 refine wa fun _ _ _ => ?_
 refine bOm (zT (by assumption) T hy) ?_
 rintro _ _ ⟨s2, cs, rfl, S2, T2, N2⟩
 obtain ⟨l2, o2, q2⟩ := N2.shape
 have hs2 := T2.2.one
 refine wx ?_; refine wx ?_; refine wa fun _ _ _ => ?_; refine wt fun _ _ => ?_
 cases d with
 | true =>
  refine yt ?_; refine ws ?_; refine wt fun _ _ => ?_; refine ws ?_
  simp only [if_true, aW, bR] at hm
  obtain ⟨rfl, rfl⟩ := hm
  exact bOo ⟨I, s2, _, rfl, ILe.refl _, dp, T2, N2⟩
 | false =>
  refine yj ?_
  rw [if_neg (by simp)] at hm
  obtain ⟨t, ht, hm⟩ := bD hm
  unfold aSc aCz
  refine bOm (fS (k := 0) (by assumption) T2 ht) ?_
  rintro _ _ ⟨rfl, S3⟩
  refine wa fun _ _ _ => ?_; refine wt fun _ _ => ?_; refine wn (wf ?_); refine wq ?_
  refine bPq (fun e1 => ?_) (fun e1 => ?_)
  ·refine yt ?_; refine wd ?_; refine wt fun _ _ => ?_; refine ws ?_
   rw [if_neg (show ¬ st1.err = 0 from e1)] at hm
   simp only [aW, bR] at hm
   obtain ⟨rfl, rfl⟩ := hm
   exact bOo ⟨I, s2, _, rfl, ILe.refl _, dp, T2, NV.flat _ _ _⟩
  ·refine yj (wf ?_); refine wl ?_
   rw [if_pos (show st1.err = 0 from e1)] at hm
   refine bOr (fun e2 => ?_) (fun e2 => ?_)
   ·refine yt ?_
    rw [if_pos (show t.kind = 1 from e2)] at hm
    obtain ⟨⟨t1, st2⟩, ht1, hm⟩ := bD hm
    simp only [aW, bR] at hm
    obtain ⟨rfl, rfl⟩ := hm
    refine bOm (cN (by assumption) T2 ht1) ?_
    rintro _ _ ⟨rfl, s3, S3, T3⟩
    refine wp ?_; refine wd ?_; refine wt fun _ _ => ?_; refine ws ?_
    exact bOo ⟨I, s3, _, rfl, ILe.refl _, dp, T3, NV.flat _ _ _⟩
   ·refine yj (wf ?_); refine wl ?_
    rw [if_neg (show ¬ t.kind = 1 from e2)] at hm
    refine bOr (fun e3 => ?_) (fun e3 => ?_)
    ·refine yt ?_
     rw [if_pos (show t.kind = 7 from e3)] at hm
     refine bOm (lO aGk HL (by assumption) T2 hm) ?_
     rintro _ _ ⟨J, s5, ds, rfl, g5, S5, T5, N5⟩
     obtain ⟨l5, o5, q5⟩ := N5.shape
     refine wt fun _ _ => ?_; refine ws ?_
     exact bOo ⟨J, s5, _, rfl, g5, dp, T5, N5⟩
    ·refine yj ?_
     rw [if_neg (show ¬ t.kind = 7 from e3)] at hm
     obtain ⟨c, hc, hm⟩ := bD hm
     refine bOm (eO (by assumption) T2 hc) ?_
     rintro _ _ ⟨rfl, S4⟩
     cases c with
     | true =>
      refine yt ?_
      refine bOm (lO aTn (aJs HE) (by assumption) T2 hm) ?_
      rintro _ _ ⟨J, s5, ds, rfl, g5, S5, T5, N5⟩
      obtain ⟨l5, o5, q5⟩ := N5.shape
      refine wt fun _ _ => ?_; refine ws ?_
      exact bOo ⟨J, s5, _, rfl, g5, dp, T5, N5⟩
     | false =>
      refine yj ?_
      rw [if_neg (by simp)] at hm
      obtain ⟨c, hc, hm⟩ := bD hm
      refine bOm (eO (by assumption) T2 hc) ?_
      rintro _ _ ⟨rfl, S5⟩
      cases c with
      | true =>
       refine yt ?_
       refine bOm (lO aXb (aQw HE f hf) (by assumption) T2 hm) ?_
       rintro _ _ ⟨J, s5, ds, rfl, g5, S5, T5, N5⟩
       obtain ⟨l5, o5, q5⟩ := N5.shape
       refine wt fun _ _ => ?_; refine ws ?_
       exact bOo ⟨J, s5, _, rfl, g5, dp, T5, N5⟩
      | false =>
       refine yj ?_; refine ws ?_
       simp only [Bool.false_eq_true, if_false, aW, bR] at hm
       obtain ⟨rfl, rfl⟩ := hm
       refine bOm (jY (by assumption) T2.2.one t _) ?_
       rintro _ _ ⟨rfl, S6⟩
       refine wd ?_; refine wt fun _ _ => ?_; refine ws ?_
       exact bOo ⟨I, s2, _, rfl, ILe.refl _, dp, by rw [cX]; exact T2, NV.flat _ _ _⟩
theorem oV {P : PF} (HP : nJ 137 P) (g : Nat) : ∀ (f j : Nat) (I : Im) (A L : Ls) (h : Hp) (p : Pos) (s : DV) (st : PSt) (x y : Node) (cs z : List DV) (st' : PSt) (b3 b4 : Pos), Sy I A [PS p s st] ((b4, some (.row .ex z)) :: (b3, some (.row .ex cs)) :: L) h →
 z.length = 6 → (∀ v ∈ z, v.one = true) → TS' I s st.toks → NV I x cs → bM P g f x st = some (y, st') → Ev (fun n => kC (aL n) n (n - j) (.p p 0) (.p b3 0) (.p b4 0) h) (NPost I A L p y st')
 | 0, j, I, A, L, h, p, s, st, x, y, cs, z, st', b3, b4, S, z1, z2, T, N, hm => by cases hm
 | f + 1, j, I, A, L, h, p, s, st, x, y, cs, z, st', b3, b4, S, z1, z2, T, N, hm => by
  unfold bM at hm
  obtain ⟨c, hc, hm⟩ := bD hm
  refine bOv j (ll := fun n m => kC (aL n) n m (.p p 0) (.p b3 0) (.p b4 0) h) (bb := fun n m => pR (aL n) n (kC (aL n) n m) (.p p 0) (.p b3 0) (.p b4 0) h) (fun _ _ => rfl) ?_
  unfold pR eF
  obtain ⟨l1, o1, q1⟩ := N.shape
  refine bOm (eO S T hc) ?_
  rintro _ _ ⟨rfl, S1⟩
  cases c with
  | false =>
   refine yj ?_; refine ws ?_; refine wt fun _ _ => ?_; refine ws ?_
   rw [if_neg (by simp)] at hm
   simp only [aW, bR] at hm
   obtain ⟨rfl, rfl⟩ := hm
   exact bOo ⟨I, s, cs, rfl, ILe.refl _, dp, T, N⟩
  | true =>
   refine yt ?_
   rw [if_pos rfl] at hm
   obtain ⟨⟨t, st1⟩, ht, hm⟩ := bD hm
   obtain ⟨⟨y1, st2⟩, hy1, hm⟩ := bD hm
   obtain ⟨⟨y2, st3⟩, hy2, hm⟩ := bD hm
   refine bOm (cN S1 T ht) ?_
   rintro _ _ ⟨rfl, s2, S2, T2⟩
   refine wa fun _ _ _ => ?_; refine wt fun _ _ => ?_; refine wf ?_
   have Sr := Sy.res (by assumption)
   refine wl ?_; refine ws ?_
   refine bOm (HP _ _ _ _ _ _ _ _ _ Sr T2 hy1) ?_
   rintro _ _ ⟨J, s5, ds, rfl, g5, S5, T5, N5⟩
   refine bPg ?_ ?_
   ·rw [aAo S5 (by repeat (first | exact fO | apply List.Mem.tail)) l1 o1 q1, fV S5 (by repeat (first | exact fO | apply List.Mem.tail)) rfl rfl (sB _)]; rfl
   refine bOm (nO g _ _ _ _ _ _ _ _ _ _ _ S5 T5 N5 hy2) ?_
   rintro _ _ ⟨K, s6, es, rfl, g6, S6, T6, N6⟩
   obtain ⟨l6, o6, q6⟩ := N6.shape
   refine bPg ?_ ?_
   ·rw [aAo S6 (by repeat (first | exact fO | apply List.Mem.tail)) l1 o1 q1, fV S6 (by repeat (first | exact fO | apply List.Mem.tail)) rfl rfl (sB _)]; rfl
   refine bPo S6 (by repeat (first | exact Rpl.head _ | apply Rpl.tail)) (aDi l1 l6) ?_
   intro h7 S7
   have NL7 : NVL K [x, y2] (cs ++ es) := (bOu ((N.mono g5).mono g6)).app (bOu N6)
   obtain ⟨c1, c2⟩ := NL7.shape
   obtain ⟨M, g8, S8, F8, _⟩ := Fz.built (sz := 6) (n := 2) S7 c1 c2
   have N8 : NS M _ [x, y2] := ⟨by simp [cA], _, F8, NL7.mono g8⟩
   refine bOm (pO S8 N8) ?_
   rintro _ _ ⟨cs9, rfl, N9, S9⟩
   obtain ⟨l9, o9, q9⟩ := N9.shape
   refine wt fun _ _ => ?_
   refine (oV HP g f (j + 1) M A L _ p s6 st3 _ y cs9 z st' b3 b4 ?_ z1 z2 (T6.mono g8) N9 hm).mono (NPost.le ((g5.trans g6).trans g8))
   exact Sy.dropL (by assumption)
theorem tW {P : PF} (HP : nJ 137 P) (g f : Nat) : bCv 135 (bM P g f) := by
 intro I A L h p s st x y cs st' S T N hm
 refine Ev.enter (fun n => aMm n _ _ h) ?_
 unfold s135 vR aCr
 refine wb fun _ _ _ => ?_; refine wa fun _ _ _ => ?_
 exact oV HP g f 0 _ _ _ _ _ _ _ _ _ _ _ _ _ _ (by assumption) rfl (by first | assumption | exact dK _ | (repeat (first | exact bT | refine bJ (by first | rfl | assumption | exact Fz.one (by assumption)) ?_))) T N hm
end Go.Dd

namespace Go.Dd
open Go.Proofs
theorem Sy.swap {I : Im} {A Q L : Ls} {a b : Pos × Option Ob} {h : Hp} (S : Sy I A Q (a :: b :: L) h) : Sy I A Q (b :: a :: L) h :=
 zK ((List.Perm.refl _).append (List.Perm.swap _ _ _)) S
theorem bRx {I : Im} {A Q L : Ls} {a b : Pos × Option Ob} {h : Hp} (S : Sy I A Q (a :: b :: L) h) : Sy I A Q (a :: L) h := S.swap.dropL
theorem bRy {I : Im} {A Q L : Ls} {a b c : Pos × Option Ob} {h : Hp} (S : Sy I A Q (a :: b :: c :: L) h) : Sy I A Q (a :: b :: L) h :=
 bHf ((List.Sublist.refl _).append (((List.sublist_cons_self c L).cons_cons b).cons_cons a)) S
theorem bRz {I : Im} {A Q L L' : Ls} {h : Hp} {k : Nat → DV → Hp → aG} {P : DV → Hp → Prop} {b : Pos} {cs : List DV} (S : Sy I A Q L h) (r : Rpl b none (some (.row .ex cs)) L L')
 (H : ∀ h', Sy I A Q L' h' → Ev (fun m => k m (.p b 0) h') P) : Ev (fun m => bnd (oA b cs h) (k m)) P :=
 Ev.op (v := .p b 0) (h := ⟨h.next, Tr.set (.row .ex cs) b h.bl⟩) rfl (H _ (S.setL r rfl (fun c => bOy _ _ _ _)))
theorem aZr {I : Im} {A Q L : Ls} {h : Hp} (S : Sy I A Q L h) {t : List Nat} {x : DV} (hx : x.one = true) :
 Ev (fun n => aL n 149 [.s t, x] h) (fun v h' => v = .a [.i .i64 (Int.ofNat 7), .s t, .i .i64 (Int.ofNat 0), .l0, .l0, x] ∧ Sy I A Q L h') := by
 refine Ev.enter (fun n => aBp n _ _ h) ?_
 unfold s149
 refine wa fun _ _ _ => ?_; refine wd ?_; refine wt fun _ _ => ?_; refine ws ?_
 exact bOo ⟨rfl, dp⟩
theorem vD {P : PF} (HP : nJ 137 P) (g : Nat) : ∀ (f j : Nat) (I : Im) (B A L : Ls) (h : Hp) (p : Pos) (s x : DV) (st : PSt) (t : List Nat) (xs : List Node) (y : Node) (cells z : List DV) (st' : PSt) (b4 b5 : Pos),
 Sy I (B ++ A) [PS p s st] ((b5, some (.row .ex [.i .i64 (Int.ofNat 7), .s t, .i .i64 (Int.ofNat 0), .l0, .l0, x])) :: (b4, some (.row .ex z)) :: L) h → Gr I 6 B x xs.length cells → NVL I xs cells → z.length = 6 → (∀ v ∈ z, v.one = true) →
 xs.length + f ≤ cA → TS' I s st.toks → dG P g f t xs st = some (y, st') →
 Ev (fun n => kA (aL n) n (n - j) (.p p 0) (.p b4 0) (.p b5 0) h) (NPost I A L p y st')
 | 0, j, I, B, A, L, h, p, s, x, st, t, xs, y, cells, z, st', b4, b5, S, G, NL, z1, z2, hl, T, hm => by cases hm
 | f + 1, j, I, B, A, L, h, p, s, x, st, t, xs, y, cells, z, st', b4, b5, S, G, NL, z1, z2, hl, T, hm => by
  unfold dG at hm
  obtain ⟨c, hc, hm⟩ := bD hm
  refine bOv j (ll := fun n m => kA (aL n) n m (.p p 0) (.p b4 0) (.p b5 0) h) (bb := fun n m => qE (aL n) n (kA (aL n) n m) (.p p 0) (.p b4 0) (.p b5 0) h) (fun _ _ => rfl) ?_
  have hx := G.one
  unfold qE eC
  refine bOm (eO S T hc) ?_
  rintro _ _ ⟨rfl, S1⟩
  cases c with
  | false =>
   rw [if_neg (by simp)] at hm
   simp only [aW, bR] at hm
   obtain ⟨rfl, rfl⟩ := hm
   obtain ⟨J, gJ, S3, N3⟩ := G.nodes NL S1 (by omega)
   refine yj ?_; refine ws ?_; refine wt fun _ _ => ?_; refine ws ?_
   exact bOo ⟨J, s, _, rfl, gJ, dp, T.mono gJ, NV.of (SS.nil J) (SS.nil J) N3⟩
  | true =>
   rw [if_pos rfl] at hm
   obtain ⟨⟨t1, st1⟩, ht, hm⟩ := bD hm
   split at hm
   ·rename_i hlen
    obtain ⟨⟨y1, st2⟩, hy1, hm⟩ := bD hm
    obtain ⟨⟨y2, st3⟩, hy2, hm⟩ := bD hm
    obtain ⟨⟨y3, st4⟩, hy3, hm⟩ := bD hm
    refine yt (wf ?_); refine wl ?_
    refine bOm (cN S1 T ht) ?_
    rintro _ _ ⟨rfl, s2, S2, T2⟩
    refine bPg ?_ ?_
    ·rw [Bool.and_true]; exact fV S2 (by repeat (first | exact fO | apply List.Mem.tail)) rfl rfl (sB _)
    refine wp ?_
    refine bQd (by simp only [cA] at hlen; omega) ?_
    refine wf ?_; refine wu fun _ _ => ?_; refine wf ?_
    have Sr := Sy.res (by assumption)
    refine wl ?_
    refine bOm (HP _ _ _ _ _ _ _ _ _ Sr T2 hy1) ?_
    rintro _ _ ⟨J, s5, ds, rfl, g5, S5, T5, N5⟩
    refine bPg ?_ ?_
    ·rw [Bool.and_true]; exact fV S5 (by repeat (first | exact fO | apply List.Mem.tail)) rfl hx G.beq
    refine bOm (nO g _ _ _ _ _ _ _ _ _ _ _ S5 T5 N5 hy2) ?_
    rintro _ _ ⟨K, s6, es, rfl, g6, S6, T6, N6⟩
    refine bPg ?_ ?_
    ·rw [Bool.and_true]; exact fV S6 (by repeat (first | exact fO | apply List.Mem.tail)) rfl hx G.beq
    refine bOm (tW HP g g _ _ _ _ _ _ _ _ _ _ _ S6 T6 N6 hy3) ?_
    rintro _ _ ⟨M, s7, fs, rfl, g7, S7, T7, N7⟩
    obtain ⟨l7, o7, q7⟩ := N7.shape
    refine bPg ?_ ?_
    ·rw [Bool.and_true]; exact fV S7 (by repeat (first | exact fO | apply List.Mem.tail)) rfl hx G.beq
    refine bPo S7 (by repeat (first | exact Rpl.head _ | apply Rpl.tail)) (kO l7) ?_
    intro h8 S8
    have g57 := (g5.trans g6).trans g7
    obtain ⟨x10, h10, B10, cells10, e10, S10, G10, NL10⟩ := kY (G.mono g57) (NL.mono g57) N7 S8 (by repeat (first | exact fO | apply List.Mem.tail)) (by omega)
    have hx10 := G10.one
    refine Ev.op e10 ?_
    refine wf ?_; refine wu fun _ _ => ?_
    refine (vD HP g f (j + 1) M B10 A L _ p s7 x10 st4 (t ++ t1.text) (xs ++ [y3]) y cells10 z st' b4 b5 ?_ G10 NL10 z1 z2 (by simp; omega) T7 hm).mono (NPost.le g57)
    exact Sy.dropL (by assumption)
   ·cases hm
theorem aGb {P : PF} (HP : nJ 137 P) (g : Nat) (hg : g + 1 ≤ cA) : bCv 134 (gW P g) := by
 intro I A L h p s st x y cs st' S T N hm
 unfold gW at hm
 obtain ⟨c, hc, hm⟩ := bD hm
 obtain ⟨l1, o1, q1⟩ := N.shape
 refine Ev.enter (fun n => aLx n _ _ h) ?_
 unfold s134 wD
 refine wb fun _ _ _ => ?_; refine wa fun _ _ _ => ?_
 refine bOm (eO (by assumption) T hc) ?_
 rintro _ _ ⟨rfl, S1⟩
 cases c with
 | false =>
  refine ao (yt ?_); refine ws ?_; refine wt fun _ _ => ?_; refine ws ?_
  rw [if_neg (by simp)] at hm
  simp only [aW, bR] at hm
  obtain ⟨rfl, rfl⟩ := hm
  exact bOo ⟨I, s, cs, rfl, ILe.refl _, dp, T, N⟩
 | true =>
  rw [if_pos rfl] at hm
  unfold xH wW aCm
  refine an (yj ?_); refine ws ?_
  refine bPl S1 (kO l1) ?_
  intro b2 h2 S2
  obtain ⟨J, gJ, S4, F4, G4⟩ := Fz.built (sz := 6) (n := 1) S2 (by omega) o1
  refine bOm (aZr S4 rfl) ?_
  rintro _ _ ⟨rfl, S5⟩
  refine wa fun _ _ _ => ?_; refine wt fun _ _ => ?_
  exact (vD HP g g 0 J [] A L _ p s _ st [] [x] y cs _ st' _ _ (bRy (by assumption)) G4 (bOu (N.mono gJ)) (by rfl) (by first | assumption | exact dK _ | (repeat (first | exact bT | refine bJ (by first | rfl | assumption | exact Fz.one (by assumption)) ?_))) (by simp; omega) (T.mono gJ) hm).mono (NPost.le gJ)
theorem bFt {P : PF} (HP : nJ 137 P) (g : Nat) (hg : g + 1 ≤ cA) : nJ 139 (nB P g) := by
 intro I A L h p s st x st' S T hm
 unfold nB at hm
 obtain ⟨t, ht, hm⟩ := bD hm
 refine Ev.enter (fun n => aOl n _ h) ?_
 unfold s139
 refine wa fun _ _ _ => ?_; refine wa fun _ _ _ => ?_
 refine bOm (fS (k := 0) (by assumption) T ht) ?_
 rintro _ _ ⟨rfl, S1⟩
 refine wa fun _ _ _ => ?_; refine wt fun _ _ => ?_; refine wf ?_; refine wl ?_
 have NZ : ∀ J : Im, NV J zN [.i .i64 (Int.ofNat 0), .s [], .i .i64 (Int.ofNat 0), .l0, .l0, .l0] := fun J => NV.flat _ _ _
 have ZO : ∀ v ∈ [DV.i .i64 (Int.ofNat 0), .s [], .i .i64 (Int.ofNat 0), .l0, .l0, .l0], v.one = true := by first | assumption | exact dK _ | (repeat (first | exact bT | refine bJ (by first | rfl | assumption | exact Fz.one (by assumption)) ?_))
 refine bOr (fun e1 => ?_) (fun e1 => ?_)
 ·rw [if_pos (show t.kind = 1 from e1)] at hm
  obtain ⟨⟨t1, st1⟩, ht1, hm⟩ := bD hm
  simp only [aW, bR] at hm
  obtain ⟨rfl, rfl⟩ := hm
  refine yt ?_
  refine bOm (cN (by assumption) T ht1) ?_
  rintro _ _ ⟨rfl, s2, S2, T2⟩
  refine wf ?_; refine wl ?_; refine ws ?_
  refine bPl S2 (kO rfl) ?_
  intro b3 h3 S3
  obtain ⟨J, gJ, S4, F4, _⟩ := Fz.built (sz := 6) (n := 1) S3 rfl ZO
  have N4 : NS J _ [zN] := ⟨by simp [cA], _, F4, bOu (NZ J)⟩
  refine bOm (pO S4 N4) ?_
  rintro _ _ ⟨cs5, rfl, N5, S5⟩
  obtain ⟨l5, o5, b5⟩ := N5.shape
  refine wt fun _ _ => ?_; refine ws ?_
  exact bOo ⟨J, s2, _, rfl, gJ, dp, T2.mono gJ, N5⟩
 ·rw [if_neg (show ¬ t.kind = 1 from e1)] at hm
  refine yj ?_
  refine bOr (fun e2 => ?_) (fun e2 => ?_)
  ·rw [if_pos (show t.kind = 3 from e2)] at hm
   obtain ⟨⟨t1, st1⟩, ht1, hm⟩ := bD hm
   obtain ⟨⟨y1, st2⟩, hy1, hm⟩ := bD hm
   obtain ⟨⟨y2, st3⟩, hy2, hm⟩ := bD hm
   simp only [aW, bR] at hm
   obtain ⟨rfl, rfl⟩ := hm
   refine yt ?_
   refine bOm (cN (by assumption) T ht1) ?_
   rintro _ _ ⟨rfl, s2, S2, T2⟩
   have Sr := S2.res
   refine wf ?_; refine wl ?_; refine ws ?_
   refine bOm (HP _ _ _ _ _ _ _ _ _ Sr T2 hy1) ?_
   rintro _ _ ⟨J, s5, ds, rfl, g5, S5, T5, N5⟩
   refine bPg ?_ ?_
   ·rw [aAo (n := 6) S5 (by repeat (first | exact fO | apply List.Mem.tail)) rfl ZO (NZ J).shape.2.2, fV S5 (by repeat (first | exact fO | apply List.Mem.tail)) rfl rfl (sB _)]; rfl
   refine bOm (nO g _ _ _ _ _ _ _ _ _ _ _ S5 T5 N5 hy2) ?_
   rintro _ _ ⟨K, s6, es, rfl, g6, S6, T6, N6⟩
   obtain ⟨l6, o6, q6⟩ := N6.shape
   refine bPg ?_ ?_
   ·rw [aAo (n := 6) S6 (by repeat (first | exact fO | apply List.Mem.tail)) rfl ZO (NZ J).shape.2.2, fV S6 (by repeat (first | exact fO | apply List.Mem.tail)) rfl rfl (sB _)]; rfl
   refine bPo S6 (by repeat (first | exact Rpl.head _ | apply Rpl.tail)) (aDi rfl l6) ?_
   intro h7 S7
   have NL7 : NVL K [zN, y2] (_ ++ es) := (bOu (NZ K)).app (bOu N6)
   obtain ⟨c1, c2⟩ := NL7.shape
   obtain ⟨M, g8, S8, F8, _⟩ := Fz.built (sz := 6) (n := 2) S7 c1 c2
   have N8 : NS M _ [zN, y2] := ⟨by simp [cA], _, F8, NL7.mono g8⟩
   refine bOm (pO S8 N8) ?_
   rintro _ _ ⟨cs9, rfl, N9, S9⟩
   obtain ⟨l9, o9, q9⟩ := N9.shape
   refine wt fun _ _ => ?_; refine ws ?_
   exact bOo ⟨M, s6, _, rfl, (g5.trans g6).trans g8, dp, T6.mono g8, N9⟩
  ·rw [if_neg (show ¬ t.kind = 3 from e2)] at hm
   refine yj ?_
   refine bOr (fun e3 => ?_) (fun e3 => ?_)
   ·rw [if_pos (show t.kind = 2 from e3)] at hm
    refine yt ?_; refine ws ?_
    refine bOm (aGb HP g hg _ _ _ _ _ _ _ _ _ _ _ (by assumption) T (NZ I) hm) ?_
    rintro _ _ ⟨J, s5, ds, rfl, g5, S5, T5, N5⟩
    obtain ⟨l5, o5, q5⟩ := N5.shape
    refine wt fun _ _ => ?_; refine ws ?_
    exact bOo ⟨J, s5, _, rfl, g5, dp, T5, N5⟩
   ·rw [if_neg (show ¬ t.kind = 2 from e3)] at hm
    simp only [aW, bR] at hm
    obtain ⟨rfl, rfl⟩ := hm
    refine yj ?_; refine ws ?_
    refine bOm (jY (by assumption) T.2.one t _) ?_
    rintro _ _ ⟨rfl, S6⟩
    refine ws ?_; refine wt fun _ _ => ?_; refine ws ?_
    exact bOo ⟨I, s, _, rfl, ILe.refl _, dp, by rw [cX]; exact T, NZ I⟩
theorem aAq {P : PF} (HP : nJ 137 P) (g : Nat) (hg : g + 1 ≤ cA) : ∀ (f j : Nat) (I : Im) (B A L : Ls) (h : Hp) (p : Pos) (s x : DV) (st : PSt) (xs : List Node) (y : Node) (cells z : List DV) (st' : PSt) (b2 b4 : Pos),
 Sy I (B ++ A) [PS p s st] ((b4, some (.row .ex [.i .i64 (Int.ofNat 8), .s [], .i .i64 (Int.ofNat 0), .l0, .l0, x])) :: (b2, some (.row .ex z)) :: L) h → Gr I 6 B x xs.length cells → NVL I xs cells → z.length = 6 → (∀ v ∈ z, v.one = true) →
 xs.length + f ≤ cA → TS' I s st.toks → jC P g f xs st = some (y, st') →
 Ev (fun n => jX (aL n) n (n - j) (.p p 0) (.p b2 0) (.p b4 0) h) (NPost I A L p y st')
 | 0, j, I, B, A, L, h, p, s, x, st, xs, y, cells, z, st', b2, b4, S, G, NL, z1, z2, hl, T, hm => by cases hm
 | f + 1, j, I, B, A, L, h, p, s, x, st, xs, y, cells, z, st', b2, b4, S, G, NL, z1, z2, hl, T, hm => by
  unfold jC at hm
  obtain ⟨c, hc, hm⟩ := bD hm
  refine bOv j (ll := fun n m => jX (aL n) n m (.p p 0) (.p b2 0) (.p b4 0) h) (bb := fun n m => pY (aL n) n (jX (aL n) n m) (.p p 0) (.p b2 0) (.p b4 0) h) (fun _ _ => rfl) ?_
  have hx := G.one
  unfold pY eG
  refine bOm (eO S T hc) ?_
  rintro _ _ ⟨rfl, S1⟩
  cases c with
  | false =>
   rw [if_neg (by simp)] at hm
   simp only [aW, bR] at hm
   obtain ⟨rfl, rfl⟩ := hm
   obtain ⟨J, gJ, S3, N3⟩ := G.nodes NL S1 (by omega)
   refine yj ?_; refine ws ?_; refine wt fun _ _ => ?_; refine ws ?_
   exact bOo ⟨J, s, _, rfl, gJ, dp, T.mono gJ, NV.of (SS.nil J) (SS.nil J) N3⟩
  | true =>
   rw [if_pos rfl] at hm
   obtain ⟨⟨t1, st1⟩, ht, hm⟩ := bD hm
   obtain ⟨⟨y1, st2⟩, hy1, hm⟩ := bD hm
   refine yt ?_
   refine bOm (cN S1 T ht) ?_
   rintro _ _ ⟨rfl, s2, S2, T2⟩
   have Sr := S2.res
   refine wf ?_; refine wl ?_
   refine bOm (bFt HP g hg _ _ _ _ _ _ _ _ _ Sr T2 hy1) ?_
   rintro _ _ ⟨J, s5, ds, rfl, g5, S5, T5, N5⟩
   refine bPg ?_ ?_
   ·rw [Bool.and_true]; exact fV S5 (by repeat (first | exact fO | apply List.Mem.tail)) rfl hx G.beq
   refine bOm (sN S5 N5) ?_
   rintro _ _ ⟨K, es, rfl, g6, S6, N6⟩
   obtain ⟨l6, o6, q6⟩ := N6.shape
   refine bPg ?_ ?_
   ·rw [Bool.and_true]; exact fV S6 (by repeat (first | exact fO | apply List.Mem.tail)) rfl hx G.beq
   refine bPo S6 (by repeat (first | exact Rpl.head _ | apply Rpl.tail)) (kO l6) ?_
   intro h8 S8
   have g56 := g5.trans g6
   obtain ⟨x10, h10, B10, cells10, e10, S10, G10, NL10⟩ := kY (G.mono g56) (NL.mono g56) N6 S8 (by repeat (first | exact fO | apply List.Mem.tail)) (by omega)
   have hx10 := G10.one
   refine Ev.op e10 ?_
   refine wf ?_; refine wu fun _ _ => ?_
   refine (aAq HP g hg f (j + 1) K B10 A L _ p s5 x10 st2 (xs ++ [fH y1]) y cells10 z st' b2 b4 ?_ G10 NL10 z1 z2 (by simp; omega) (T5.mono g6) hm).mono (NPost.le g56)
   exact Sy.dropL (by assumption)
theorem aCx {P : PF} (HP : nJ 137 P) (g : Nat) (hg : g + 2 ≤ cA) : nJ 114 (fR P g) := by
 intro I A L h p s st x st' S T hm
 unfold fR at hm
 obtain ⟨⟨y1, st1⟩, hy1, hm⟩ := bD hm
 obtain ⟨⟨y2, st2⟩, hy2, hm⟩ := bD hm
 obtain ⟨⟨y3, st3⟩, hy3, hm⟩ := bD hm
 obtain ⟨⟨y4, st4⟩, hy4, hm⟩ := bD hm
 obtain ⟨c, hc, hm⟩ := bD hm
 refine Ev.enter (fun n => aOk n _ h) ?_
 unfold s114 oH
 refine wa fun _ _ _ => ?_
 refine bOm (HP _ _ _ _ _ _ _ _ _ (by assumption) T hy1) ?_
 rintro _ _ ⟨J1, s1, c1, rfl, g1, S1, T1, N1⟩
 refine bOm (nO g _ _ _ _ _ _ _ _ _ _ _ S1 T1 N1 hy2) ?_
 rintro _ _ ⟨J2, s2, c2, rfl, g2, S2, T2, N2⟩
 refine bOm (tW HP g g _ _ _ _ _ _ _ _ _ _ _ S2 T2 N2 hy3) ?_
 rintro _ _ ⟨J3, s3, c3, rfl, g3, S3, T3, N3⟩
 refine bOm (aGb HP g (by omega) _ _ _ _ _ _ _ _ _ _ _ S3 T3 N3 hy4) ?_
 rintro _ _ ⟨J4, s4, c4, rfl, g4, S4, T4, N4⟩
 have g14 := ((g1.trans g2).trans g3).trans g4
 obtain ⟨l4, o4, q4⟩ := N4.shape
 refine wa fun _ _ _ => ?_; refine wt fun _ _ => ?_
 unfold xQ
 refine bOm (eO (by assumption) T4 hc) ?_
 rintro _ _ ⟨rfl, S5⟩
 cases c with
 | false =>
  rw [if_neg (by simp)] at hm
  simp only [aW, bR] at hm
  obtain ⟨rfl, rfl⟩ := hm
  refine ao (yt ?_); refine ws ?_; refine wt fun _ _ => ?_; refine ws ?_
  exact bOo ⟨J4, s4, _, rfl, g14, dp, T4, N4⟩
 | true =>
  rw [if_pos rfl] at hm
  have N4' := N4
  obtain ⟨k, t, m, ns, ts, ks⟩ := y4
  obtain ⟨d1, d2, d3, rfl, a1, a2, a3, cells, F, NL⟩ := N4
  have o1 := a1.2.one
  have o2 := a2.2.one
  have o3 := F.one
  unfold yD
  refine an (yj (wf ?_)); refine wl ?_
  refine bPq (fun e1 => ?_) (fun e1 => ?_)
  ·rw [if_neg (show ¬ Node.kind (.mk k t m ns ts ks) = 7 from e1)] at hm
   obtain ⟨u, hu, hm⟩ := bD hm
   simp only [aW, bR] at hm
   obtain ⟨rfl, rfl⟩ := hm
   refine yt ?_
   refine bOm (fS (k := 0) (by assumption) T4 hu) ?_
   rintro _ _ ⟨rfl, S6⟩
   refine bOm (jY S6 T4.2.one u _) ?_
   rintro _ _ ⟨rfl, S7⟩
   refine ws ?_; refine wt fun _ _ => ?_; refine ws ?_
   exact bOo ⟨J4, s4, _, rfl, g14, dp, by rw [cX]; exact T4, N4'⟩
  ·rw [if_pos (show Node.kind (.mk k t m ns ts ks) = 7 from e1)] at hm
   obtain ⟨k0, hk0, hm⟩ := bD hm
   refine yj ?_
   unfold yV
   rename_i bx _ _ by' _ _ _ _
   have Sr : Sy J4 A [PS p s4 st4] ((_, none) :: (_, none) :: _) (iI 2 _) := S5.res.res
   have NS3 : NS J4 d3 ks := ⟨a3, cells, F, NL⟩
   obtain ⟨b6, o6, c6, i6, N6, L6⟩ := NS3.at (i := 0) hk0
   refine wf ?_; refine wl ?_
   refine Ev.op (i6 _) (Ev.op (L6 J4 _ _ _ _ (ILe.refl _) Sr) ?_)
   refine ws ?_
   refine bOm (sN Sr N4') ?_
   rintro _ _ ⟨K, es, rfl, g7, S7, N7⟩
   obtain ⟨l7, o7, q7⟩ := N7.shape
   obtain ⟨l6, o6', q6⟩ := N6.shape
   refine bPg ?_ ?_
   ·rw [L6 K _ _ _ _ g7 S7, fV S7 (by repeat (first | exact fO | apply List.Mem.tail)) rfl o3 F.beq]
    simpa [aJ, cB] using q6
   refine bPo S7 (by repeat (first | exact Rpl.head _ | apply Rpl.tail)) (aDi l6 l7) ?_
   intro h8 S8
   have NL8 : NVL K [k0, fH (.mk k t m ns ts ks)] (c6 ++ es) := (bOu (N6.mono g7)).app (bOu N7)
   obtain ⟨e8, e9⟩ := NL8.shape
   obtain ⟨M, g9, S9, F9, G9⟩ := Fz.built (sz := 6) (n := 2) S8.swap e8 e9
   refine wd ?_
   refine bRz S9 (Rpl.head _) ?_
   intro h10 S10
   refine wt fun _ _ => ?_
   unfold yK aCp
   refine (aAq HP g (by omega) g 0 M [] A L _ p s4 _ st4 [k0, fH (.mk k t m ns ts ks)] x (c6 ++ es) _ st' _ _ (bRx (by assumption)) G9 (NL8.mono g9) (by rfl) (by first | assumption | exact dK _ | (repeat (first | exact bT | refine bJ (by first | rfl | assumption | exact Fz.one (by assumption)) ?_))) (by simp; omega) ((T4.mono g7).mono g9) hm).mono (NPost.le ((g14.trans g7).trans g9))
theorem aWs {P E : PF} (HP : nJ 137 P) (HE : nJ 79 E) (g : Nat) (hg : g + 2 ≤ cA) : nJ 79 (kP P E g) := by
 intro I A L h p s st x st' S T hm
 unfold kP at hm
 obtain ⟨c, hc, hm⟩ := bD hm
 obtain ⟨d, hd, hm2⟩ := bD hm
 refine Ev.enter (fun n => aTq n _ h) ?_
 unfold s79
 refine wa fun _ _ _ => ?_
 refine bOm (eO (by assumption) T hc) ?_
 rintro _ _ ⟨rfl, S1⟩
 have cas : d = false → ∀ (b1 : Pos) (z : List DV) h', z.length = 6 → (∀ v ∈ z, v.one = true) → Sy I A [PS p s st] ((b1, some (.row .ex z)) :: L) h' →
  Ev (fun n => bnd (aL n 114 [.p p 0] h') fun v21 h21 => bnd (aC 6 (.p b1 0) v21 h21) fun _ h22 => bnd (aE 6 (.p b1 0) h22) fun v23 _ => some (v23, h22)) (NPost I A L p x st') := by
  intro hd0 b1 z h' z1 z2 S'
  subst hd0
  rw [if_neg (by simp)] at hm2
  refine bOm (aCx HP g hg _ _ _ _ _ _ _ _ _ S' T hm2) ?_
  rintro _ _ ⟨J, s5, ds, rfl, g5, S5, T5, N5⟩
  obtain ⟨l5, o5, q5⟩ := N5.shape
  refine wt fun _ _ => ?_; refine ws ?_
  exact bOo ⟨J, s5, _, rfl, g5, dp, T5, N5⟩
 cases c with
 | false =>
  simp only [Bool.false_eq_true, if_false, aW] at hd
  have C := cas hd.symm _ _ _ rfl (by first | assumption | exact dK _ | (repeat (first | exact bT | refine bJ (by first | rfl | assumption | exact Fz.one (by assumption)) ?_))) S1
  refine yf (yf (yf (yf (aq (yj ?_)))))
  exact C
 | true =>
  rw [if_pos rfl] at hd
  obtain ⟨t, ht, hd⟩ := bD hd
  simp only [aW] at hd
  refine zt (wm (zt ?_))
  refine bOm (fS (k := 1) S1 T ht) ?_
  rintro _ _ ⟨rfl, S2⟩
  refine zt ?_; refine wp ?_; refine zt ?_
  refine bOr (fun e1 => ?_) (fun e1 => ?_)
  ·rw [decide_eq_true (show t.kind = 9 from e1)] at hd
   subst hd
   rw [if_pos rfl] at hm2
   obtain ⟨⟨t1, st1⟩, ht1, hm2⟩ := bD hm2
   obtain ⟨⟨t2, st2⟩, ht2, hm2⟩ := bD hm2
   obtain ⟨⟨y, st3⟩, hy, hm2⟩ := bD hm2
   simp only [aW, bR] at hm2
   obtain ⟨rfl, rfl⟩ := hm2
   refine ap (yt ?_)
   refine bOm (cN S2 T ht1) ?_
   rintro _ _ ⟨rfl, s3, S3, T3⟩
   refine wp ?_; refine wd ?_; refine wa fun _ _ _ => ?_; refine wt fun _ _ => ?_
   refine bOm (cN (by assumption) T3 ht2) ?_
   rintro _ _ ⟨rfl, s4, S4, T4⟩
   refine bOm (HE _ _ _ _ _ _ _ _ _ S4 T4 hy) ?_
   rintro _ _ ⟨J, s5, ds, rfl, g5, S5, T5, N5⟩
   obtain ⟨l5, o5, q5⟩ := N5.shape
   refine bPl S5 (kO l5) ?_
   intro b6 h6 S6
   obtain ⟨K, g7, S7, F7, _⟩ := Fz.built (sz := 6) (n := 1) S6 (by omega) o5
   have N7 : NS K _ [y] := ⟨by simp [cA], ds, F7, bOu (N5.mono g7)⟩
   refine wf ?_; refine wu fun _ _ => ?_; refine ws ?_; refine wt fun _ _ => ?_; refine ws ?_
   exact bOo ⟨K, s5, _, rfl, g5.trans g7, dp, T5.mono g7, NV.of (SS.nil K) (SS.nil K) N7⟩
  ·rw [decide_eq_false (show ¬ t.kind = 9 from e1)] at hd
   have C := cas hd.symm _ _ _ rfl (by first | assumption | exact dK _ | (repeat (first | exact bT | refine bJ (by first | rfl | assumption | exact Fz.one (by assumption)) ?_))) S2
   refine ap (yj ?_)
   exact C
theorem rL : ∀ (f : Nat), f + 2 ≤ cA → nJ 79 (dU f)
 | 0, _ => fun I A L h p s st x st' S T hm => by cases hm
 | f + 1, hf => aWs (aCf (aMc f (by omega)) (rL f (by omega)) f (by omega)) (rL f (by omega)) f (by omega)
end Go.Dd

namespace Go.Dd
open Go.Proofs
def bF (c : Nat) : Bool := (decide (97 ≤ c) && decide (c ≤ 122)) || (decide (65 ≤ c) && decide (c ≤ 90))
def aS (c : Nat) : Bool := decide (48 ≤ c) && decide (c ≤ 57)
def cT (c : Nat) : Bool := bF c || aS c
def bW (c : Nat) : Bool := !decide (c = 39)
def cU (l : List Nat) (c : Nat) : Bool := l.contains c
section
variable {k : Nat → DV → Hp → aG} {P : DV → Hp → Prop} {h : Hp}
theorem bPn {l : List Nat} (H : Ev (fun n => k n (.i .i64 (l.length : Int)) h) P) : Ev (fun n => bnd (gN (.s l) h) (k n)) P := H
theorem bDv {l : List Nat} {i c : Nat} (e : l[i]? = some c) (h : Hp) : dX (.s l) (.i .i64 (i : Int)) h = some (.i .u8 (Int.ofNat c), h) := by
 show (if 0 ≤ (i : Int) then (match l[(i : Int).toNat]? with
  | some c => some (DV.i .u8 (c : Int), h)
  | none => none) else none) = _
 rw [if_pos (by omega), show (i : Int).toNat = i by omega, e]
 rfl
theorem bIa {l : List Nat} {a b : Nat} (h1 : a ≤ b) (h2 : b ≤ l.length) (h : Hp) : dS (.s l) (some (.i .i64 (a : Int))) (some (.i .i64 (b : Int))) h = some (.s ((l.take b).drop a), h) := by
 have e1 : zB (some (.i .i64 (b : Int))) l.length l.length = some b := by
  show (if 0 ≤ (b : Int) ∧ (b : Int) ≤ (l.length : Int) then some (b : Int).toNat else none) = _
  rw [if_pos ⟨by omega, by omega⟩]; rfl
 have e2 : loD (some (.i .i64 (a : Int))) b = some a := by
  show (if 0 ≤ (a : Int) ∧ (a : Int) ≤ (b : Int) then some (a : Int).toNat else none) = _
  rw [if_pos ⟨by omega, by omega⟩]; rfl
 simp only [dS, e1, e2]
theorem bMx {l : List Nat} {a : Nat} (h1 : a ≤ l.length) (h : Hp) : dS (.s l) (some (.i .i64 (a : Int))) none h = some (.s (l.drop a), h) := by
 have e1 : zB none l.length l.length = some l.length := by simp [zB]
 have e2 : loD (some (.i .i64 (a : Int))) l.length = some a := by
  show (if 0 ≤ (a : Int) ∧ (a : Int) ≤ (l.length : Int) then some (a : Int).toNat else none) = _
  rw [if_pos ⟨by omega, by omega⟩]; rfl
 simp only [dS, e1, e2, List.take_length]
end
theorem aPn (n : Nat) (x : DV) (h : Hp) : aL (n + 1) 107 [x] h = s107 (aL n) n x h := by kernel_rfl
theorem aOw (n : Nat) (x : DV) (h : Hp) : aL (n + 1) 110 [x] h = s110 (aL n) n x h := by kernel_rfl
theorem aNf (n : Nat) (x : DV) (h : Hp) : aL (n + 1) 132 [x] h = s132 (aL n) n x h := by kernel_rfl
theorem aJx (n : Nat) (x : DV) (h : Hp) : aL (n + 1) 133 [x] h = s133 (aL n) n x h := by kernel_rfl
theorem aKe (n : Nat) (x y : DV) (h : Hp) : aL (n + 1) 105 [x, y] h = s105 (aL n) n x y h := by kernel_rfl
theorem aVy (n : Nat) (x : DV) (h : Hp) : aL (n + 1) 75 [x] h = s75 (aL n) n x h := by kernel_rfl
theorem aWy (n : Nat) (x y : DV) (h : Hp) : aL (n + 1) 57 [x, y] h = s57 (aL n) n x y h := by kernel_rfl
theorem aYh (n : Nat) (x y : DV) (h : Hp) : aL (n + 1) 85 [x, y] h = s85 (aL n) n x y h := by kernel_rfl
theorem aNx (n : Nat) (x y : DV) (h : Hp) : aL (n + 1) 106 [x, y] h = s106 (aL n) n x y h := by kernel_rfl
theorem aTx (n : Nat) (x y z : DV) (h : Hp) : aL (n + 1) 74 [x, y, z] h = s74 (aL n) n x y z h := by kernel_rfl
theorem aPz (n : Nat) (x : DV) (h : Hp) : aL (n + 1) 108 [x] h = s108 (aL n) n x h := by kernel_rfl
theorem aLi (n : Nat) (x : DV) (h : Hp) : aL (n + 1) 109 [x] h = s109 (aL n) n x h := by kernel_rfl
theorem aUf (rec : FuncId → List DV → Hp → aG) (x y : DV) (h : Hp) : dP CF rec (.f 105 [] [y]) [x] h = rec 105 [x, y] h := by kernel_rfl
theorem aYq (rec : FuncId → List DV → Hp → aG) (x : DV) (h : Hp) : dP CF rec (.f 110 [] []) [x] h = rec 110 [x] h := by kernel_rfl
theorem aYw (rec : FuncId → List DV → Hp → aG) (x : DV) (h : Hp) : dP CF rec (.f 132 [] []) [x] h = rec 132 [x] h := by kernel_rfl
theorem aVm (rec : FuncId → List DV → Hp → aG) (x : DV) (h : Hp) : dP CF rec (.f 133 [] []) [x] h = rec 133 [x] h := by kernel_rfl
theorem jF (c : Nat) (h : Hp) : Ev (fun n => aL n 107 [.i .u8 (Int.ofNat c)] h) (fun v h' => v = .b (bF c) ∧ h' = h) := by
 refine Ev.enter (fun n => aPn n _ h) ?_
 unfold s107
 refine bPy (fun e1 => ?_) (fun e1 => ?_)
 ·refine zt (wm (zt ?_))
  refine bQm (fun e2 => ?_) (fun e2 => ?_)
  ·refine ap (yg (yg (yg (yu (yu (yg (ap ?_)))))))
   exact bOo ⟨by simp at e1 e2; simp [bF]; omega, rfl⟩
  ·refine ap (zf (wm (zf ?_)))
   refine bPy (fun e3 => ?_) (fun e3 => ?_)
   ·refine zf (wm (zt (wm (zt ?_))))
    refine bQm (fun e4 => ?_) (fun e4 => ?_)
    ·refine zf (ap (aq ?_))
     exact bOo ⟨by simp at e1 e2 e3 e4; omega, rfl⟩
    ·refine zf (ap (aq ?_))
     exact bOo ⟨by simp at e1 e2 e3 e4; simp [bF]; omega, rfl⟩
   ·refine zf (wm (yf (yf (zf (aq (aq ?_))))))
    exact bOo ⟨by simp at e1 e2 e3; omega, rfl⟩
 ·refine yf (yf (aq (zf (wm (zf ?_)))))
  refine bPy (fun e3 => ?_) (fun e3 => ?_)
  ·refine zf (wm (zt (wm (zt ?_))))
   refine bQm (fun e4 => ?_) (fun e4 => ?_)
   ·refine zf (ap (aq ?_))
    exact bOo ⟨by simp at e1 e3 e4; simp [bF]; omega, rfl⟩
   ·refine zf (ap (aq ?_))
    exact bOo ⟨by simp at e1 e3 e4; simp [bF]; omega, rfl⟩
  ·refine zf (wm (yf (yf (zf (aq (aq ?_))))))
   exact bOo ⟨by simp at e1 e3; simp [bF]; omega, rfl⟩
theorem sV (c : Nat) (h : Hp) : Ev (fun n => aL n 110 [.i .u8 (Int.ofNat c)] h) (fun v h' => v = .b (aS c) ∧ h' = h) := by
 refine Ev.enter (fun n => aOw n _ h) ?_
 unfold s110
 refine bPy (fun e1 => ?_) (fun e1 => ?_)
 ·refine zt (wm (zt ?_))
  refine bQm (fun e2 => ?_) (fun e2 => ?_)
  ·refine ap ?_
   exact bOo ⟨by simp at e1 e2; simp [aS]; omega, rfl⟩
  ·refine ap ?_
   exact bOo ⟨by simp at e1 e2; simp [aS]; omega, rfl⟩
 ·refine yf (yf (aq ?_))
  exact bOo ⟨by simp at e1; simp [aS]; omega, rfl⟩
def uK (I : Im) (f : DV) (so : Nat → Bool) : Prop := ∀ (J : Im) (A Q L : Ls) (h : Hp) (c : Nat), ILe I J → Sy J A Q L h → c < 256 → Ev (fun n => dP CF (aL n) f [.i .u8 (Int.ofNat c)] h) (fun v h' => v = .b (so c) ∧ h' = h)
theorem aXq (I : Im) : uK I (.f 110 [] []) aS := by
 intro J A Q L h c _ _ _
 simp only [aYq]
 exact sV c h
theorem bGk (I : Im) : uK I (.f 132 [] []) cT := by
 intro J A Q L h c _ _ _
 simp only [aYw]
 refine Ev.enter (fun n => aNf n _ h) ?_
 unfold s132
 refine bOm (jF c h) ?_
 rintro _ _ ⟨rfl, rfl⟩
 cases e : bF c with
 | true =>
  refine yg (yg (ap ?_))
  exact bOo ⟨by simp [cT, e], rfl⟩
 | false =>
  refine zf (wm (zf ?_))
  refine bOm (sV c _) ?_
  rintro _ _ ⟨rfl, rfl⟩
  refine aq ?_
  exact bOo ⟨by simp [cT, e], rfl⟩
theorem bHx (I : Im) : uK I (.f 133 [] []) bW := by
 intro J A Q L h c _ _ _
 simp only [aVm]
 refine Ev.enter (fun n => aJx n _ h) ?_
 unfold s133
 refine bPq (fun e1 => ?_) (fun e1 => ?_)
 ·exact bOo ⟨by simp at e1; simp [bW]; omega, rfl⟩
 ·exact bOo ⟨by simp at e1; simp [bW]; omega, rfl⟩
theorem aJy (c : Nat) : ∀ (l : List Nat) (i : Nat), decide (0 ≤ cO c l i) = l.contains c
 | [], i => rfl
 | x :: l, i => by
  have ih := aJy c l (i + 1)
  unfold cO
  cases e : Nat.beq x c with
  | true =>
   have e2 := Nat.eq_of_beq_eq_true e
   subst e2
   simp
  | false =>
   have e2 : ¬ x = c := fun e2 => by subst e2; simp at e
   simp only [cond_false, ih]
   have e3 : ¬ c = x := fun e3 => e2 e3.symm
   simp [e3]
theorem rH (l : List Nat) (c : Nat) (hc : c < 256) (h : Hp) : Ev (fun n => aL n 57 [.s l, .i .u8 (Int.ofNat c)] h) (fun v h' => v = .i .i64 (cO c l 0) ∧ h' = h) := by
 refine Ev.enter (fun n => aWy n _ _ h) ?_
 unfold s57
 refine bOm (F := fun n => aL n 85 [.s l, .i .u8 (Int.ofNat c)] h) (Q := fun v h' => v = .i .i64 (cO c l 0) ∧ h' = h) ?_ ?_
 ·refine Ev.enter (fun n => aYh n _ _ h) ?_
  unfold s85
  have e : aIr [.s l, .i .u8 (Int.ofNat c)] h = some (.i .i64 (cO c l 0), h) := by
   have e2 : Nat.blt c 256 = true := by simpa [aJ, Nat.blt_eq] using hc
   show (bif Nat.blt c 256 then some (DV.i IntKind.i64 (cO c l 0), h) else none) = _
   rw [e2]
   rfl
  refine Ev.op e ?_
  exact bOo ⟨rfl, rfl⟩
 ·rintro _ _ ⟨rfl, rfl⟩
  exact bOo ⟨rfl, rfl⟩
theorem uH {I : Im} {A Q L : Ls} {h : Hp} (S : Sy I A Q L h) (l : List Nat) :
 Ev (fun n => aL n 75 [.s l] h) (fun v h' => ∃ J, ILe I J ∧ Sy J A Q L h' ∧ uK J v (cU l)) := by
 refine Ev.enter (fun n => aVy n _ h) ?_
 unfold s75
 refine Ev.box S rfl ?_
 intro b h1 S1
 obtain ⟨S2, g⟩ := S1.freeze
 refine bOo ⟨_, g, S2, ?_⟩
 intro J A' Q' L' h' c gJ S' hc
 simp only [aUf]
 refine Ev.enter (fun n => aKe n _ _ h') ?_
 unfold s105
 refine bSc (S'.im _ _ (gJ _ _ (bPs _ _ _))) rfl rfl ?_
 refine bOm (rH l c hc h') ?_
 rintro _ _ ⟨rfl, rfl⟩
 refine Ev.op (gR .geq (.b (decide (cO c l 0 ≥ Int.ofNat 0))) rfl) ?_
 refine bOo ⟨?_, rfl⟩
 rw [show (decide (cO c l 0 ≥ Int.ofNat 0)) = l.contains c from aJy c l 0]
 rfl
def RS (r : Pos) (s : List Nat) (at_ : Nat) : Pos × Option Ob := (r, some (.row .ex [.s s, .i .i64 (at_ : Int)]))
def bH (so : Nat → Bool) : Nat → List Nat → Nat
 | 0, _ => 0
 | _ + 1, [] => 0
 | m + 1, c :: u => if so c then bH so m u + 1 else 0
def tU (s : List Nat) (i : Nat) : Nat := s.getD i 0
theorem nQ (so : Nat → Bool) : ∀ (m : Nat) (u : List Nat), bH so m u ≤ u.length
 | 0, _ => by simp [bH]
 | _ + 1, [] => by simp [bH]
 | m + 1, c :: u => by
  have := nQ so m u
  simp only [bH, List.length_cons]
  split <;> omega
section
variable {I : Im} {A L : Ls} {h : Hp} {r : Pos} {s : List Nat} {i : Nat}
theorem uT (n : Nat) (h : n ≤ 1000000000000) : IntKind.i64.wrap (n : Int) = (n : Int) := gE _ (by omega) (by omega)
theorem iA (S : Sy I A [RS r s i] L h) (hs : s.length ≤ cA) (hi : i ≤ s.length) (k : Nat) (hk : k ≤ 2) :
 Ev (fun n => aL n 106 [.p r 0, .i .i64 (Int.ofNat k)] h) (fun v h' => v = .i .u8 (Int.ofNat (tU s (i + k))) ∧ h' = h) := by
 refine Ev.enter (fun n => aNx n _ _ h) ?_
 unfold s106
 have e0 : IntKind.i64.wrap ((i : Int) + Int.ofNat k) = ((i + k : Nat) : Int) := by
  rw [show (i : Int) + Int.ofNat k = ((i + k : Nat) : Int) by simp]
  exact uT _ (by simp only [cA] at hs; omega)
 refine wn (wf ?_); refine wq ?_
 refine bOw ?_
 rw [e0]
 refine wn (wf ?_); refine wq ?_
 refine bPn ?_
 refine bPy (fun e1 => ?_) (fun e1 => ?_)
 ·refine yt ?_
  have e2 : s.length ≤ i + k := by omega
  exact bOo ⟨by simp [tU, List.getD, List.getElem?_eq_none e2], rfl⟩
 ·refine yj (wn (wf ?_)); refine wq ?_; refine wn (wf ?_); refine wq ?_
  refine bOw ?_
  rw [e0]
  have e2 : i + k < s.length := by omega
  refine Ev.op (bDv (c := s[i + k]) (by simp [e2]) _) ?_
  exact bOo ⟨by simp [tU, List.getD, e2], rfl⟩
theorem aSz {f : DV} {so : Nat → Bool} (C : uK I f so) (hs : s.length ≤ cA) (hb : ∀ c ∈ s, c < 256) (from_ : Nat) : ∀ (m j i : Nat) (h : Hp) (gY : Nat), Sy I A [RS r s i] L h → from_ ≤ i → i ≤ s.length → (i - from_) + m = gY → gY ≤ cA →
 Ev (fun n => jV (aL n) n (n - j) (.p r 0) f (.i .i64 (gY : Int)) (.i .i64 (from_ : Int)) h) (fun v h' => v = .s ((s.take (i + bH so m (s.drop i))).drop from_) ∧ Sy I A [RS r s (i + bH so m (s.drop i))] L h') := by
 intro m
 induction m with
 | zero =>
  intro j i h gY S h1 h2 h3 h4
  refine bOv j (ll := fun n m => jV (aL n) n m (.p r 0) f (.i .i64 (gY : Int)) (.i .i64 (from_ : Int)) h) (bb := fun n m => oB (aL n) n (jV (aL n) n m) (.p r 0) f (.i .i64 (gY : Int)) (.i .i64 (from_ : Int)) h) (fun _ _ => rfl) ?_
  unfold oB fU
  refine wn (wf ?_); refine wq ?_; refine wn (wf ?_); refine wq ?_
  refine bPn ?_
  have fin : Ev (fun n => bnd (dS (.s s) (some (.i .i64 (from_ : Int))) (some (.i .i64 (i : Int))) h) fun v7 h7 => some (v7, h7)) (fun v h' => v = .s ((s.take (i + bH so 0 (s.drop i))).drop from_) ∧ Sy I A [RS r s (i + bH so 0 (s.drop i))] L h') :=
   Ev.op (bIa h1 h2 h) (bOo ⟨by simp [bH], by simpa [aJ, bH] using S⟩)
  refine bPr (fun e1 => ?_) (fun e1 => ?_)
  ·refine zt (wm (zt (wn (zt (wf (zt ?_)))))); refine wq ?_; refine zt (wm (zt ?_))
   refine bQg ?_
   rw [show (i : Int) - (from_ : Int) = ((i - from_ : Nat) : Int) by omega, uT _ (by simp only [cA] at hs; omega)]
   refine zt (wm (zt ?_))
   refine bPr (fun e2 => ?_) (fun e2 => ?_)
   ·omega
   ·refine ap (yf (yf (yf (yf (yf (yf (yf (yf (yf (yf (yf (aq (yj (wn (wf ?_))))))))))))))); refine wq ?_; refine wn (wf ?_); refine wq ?_
    exact fin
  ·refine yf (yf (yf (yf (yf (yf (yf (yf (aq (yf (yf (yf (yf (yf (yf (yf (yf (yf (yf (yf (aq (yj (wn (wf ?_))))))))))))))))))))))); refine wq ?_; refine wn (wf ?_); refine wq ?_
   exact fin
 | succ m ih =>
  intro j i h gY S h1 h2 h3 h4
  refine bOv j (ll := fun n m => jV (aL n) n m (.p r 0) f (.i .i64 (gY : Int)) (.i .i64 (from_ : Int)) h) (bb := fun n m => oB (aL n) n (jV (aL n) n m) (.p r 0) f (.i .i64 (gY : Int)) (.i .i64 (from_ : Int)) h) (fun _ _ => rfl) ?_
  unfold oB fU
  refine wn (wf ?_); refine wq ?_; refine wn (wf ?_); refine wq ?_
  refine bPn ?_
  have fin : bH so (m + 1) (s.drop i) = 0 → Ev (fun n => bnd (dS (.s s) (some (.i .i64 (from_ : Int))) (some (.i .i64 (i : Int))) h) fun v7 h7 => some (v7, h7)) (fun v h' => v = .s ((s.take (i + bH so (m + 1) (s.drop i))).drop from_) ∧ Sy I A [RS r s (i + bH so (m + 1) (s.drop i))] L h') := fun e0 => by
   rw [e0]
   exact Ev.op (bIa h1 h2 h) (bOo ⟨rfl, S⟩)
  refine bPr (fun e1 => ?_) (fun e1 => ?_)
  ·have e1' : i < s.length := by omega
   have hd : s.drop i = s[i] :: s.drop (i + 1) := List.drop_eq_getElem_cons e1'
   refine zt (wm (zt (wn (zt (wf (zt ?_)))))); refine wq ?_; refine zt (wm (zt ?_))
   refine bQg ?_
   rw [show (i : Int) - (from_ : Int) = ((i - from_ : Nat) : Int) by omega, uT _ (by simp only [cA] at hs; omega)]
   refine zt (wm (zt ?_))
   refine bPr (fun e2 => ?_) (fun e2 => ?_)
   ·refine ap (zt (wm (zt (wm (zt (wn (zt (wf (zt ?_))))))))); refine wq ?_; refine zt (wm (zt (wn (zt (wf (zt ?_)))))); refine wq ?_; refine zt ?_
    refine Ev.op (bDv (c := s[i]) (by simp [e1']) _) ?_
    refine zt ?_
    refine bOm (C I _ _ _ _ s[i] (ILe.refl _) S (hb _ (List.getElem_mem e1'))) ?_
    rintro _ _ ⟨rfl, rfl⟩
    refine ap ?_
    cases e3 : so s[i] with
    | false =>
     refine yj (wn (wf ?_)); refine wq ?_; refine wn (wf ?_); refine wq ?_
     exact fin (by rw [hd]; simp [bH, e3])
    | true =>
     refine yt (wn (wf ?_)); refine wq ?_
     refine bOw ?_
     have e4 : IntKind.i64.wrap ((i : Int) + Int.ofNat 1) = ((i + 1 : Nat) : Int) := by
      rw [show (i : Int) + Int.ofNat 1 = ((i + 1 : Nat) : Int) by simp]
      exact uT _ (by simp only [cA] at hs; omega)
     rw [e4]
     refine wn (wf ?_); refine wv fun _ _ => ?_
     have := ih (j + 1) (i + 1) _ gY (by assumption) (by omega) (by omega) (by omega) h4
     have e5 : i + 1 + bH so m (s.drop (i + 1)) = i + bH so (m + 1) (s.drop i) := by
      rw [hd]
      simp [bH, e3]
      omega
     rw [e5] at this
     exact this
   ·omega
  ·refine yf (yf (yf (yf (yf (yf (yf (yf (aq (yf (yf (yf (yf (yf (yf (yf (yf (yf (yf (yf (aq (yj (wn (wf ?_))))))))))))))))))))))); refine wq ?_; refine wn (wf ?_); refine wq ?_
   have e1' : s.drop i = [] := List.drop_eq_nil_of_le (by omega)
   exact fin (by rw [e1']; rfl)
theorem mS {f : DV} {so : Nat → Bool} (C : uK I f so) (S : Sy I A [RS r s i] L h) (hs : s.length ≤ cA) (hb : ∀ c ∈ s, c < 256) (hi : i ≤ s.length) (gY : Nat) (hm : gY ≤ cA) :
 Ev (fun n => aL n 74 [.p r 0, f, .i .i64 (gY : Int)] h) (fun v h' => v = .s ((s.drop i).take (bH so gY (s.drop i))) ∧ Sy I A [RS r s (i + bH so gY (s.drop i))] L h') := by
 refine Ev.enter (fun n => aTx n _ _ _ h) ?_
 unfold s74 aEn aHe aLs
 refine wn (wf ?_); refine wq ?_
 refine (aSz C hs hb i gY 0 i h gY S (Nat.le_refl _) hi (by omega) hm).mono ?_
 rintro v h' ⟨rfl, S'⟩
 refine ⟨?_, S'⟩
 rw [List.drop_take, Nat.add_sub_cancel_left]
end
end Go.Dd

namespace Go.Dd
open Go.Proofs
theorem nG (so : Nat → Bool) : ∀ (u : List Nat) (m : Nat), u.length ≤ m → bH so m u = (u.takeWhile so).length
 | [], 0, _ => rfl
 | [], _ + 1, _ => rfl
 | c :: u, 0, h => by simp at h
 | c :: u, m + 1, h => by
  have := nG so u m (by simpa using h)
  simp only [bH, this]
  cases e : so c <;> simp [e]
theorem nA (so : Nat → Bool) : ∀ (u : List Nat), u.take (u.takeWhile so).length = u.takeWhile so
 | [] => rfl
 | c :: u => by
  have := nA so u
  cases e : so c <;> simp [e, this]
theorem mZ (so : Nat → Bool) : ∀ (u : List Nat), (u.takeWhile so).length ≤ u.length
 | [] => Nat.le_refl _
 | c :: u => by
  have := mZ so u
  cases e : so c <;> simp [e]
  omega
theorem qO (so : Nat → Bool) : ∀ (u : List Nat) (c : Nat), c ∈ u.takeWhile so → so c = true
 | [], c, h => by simp at h
 | d :: u, c, h => by
  cases e : so d with
  | false => simp [e] at h
  | true =>
   simp [e] at h
   rcases h with rfl | h
   ·exact e
   ·exact qO so u c h
def nx (u : List Nat) (k : Nat) : Nat := u.getD k 0
def aI (u : List Nat) : List Nat × Int × Nat := if 24 < (u.takeWhile cT).length then ([], 12, (u.takeWhile cT).length) else (u.takeWhile cT, 0, (u.takeWhile cT).length)
def cK (u : List Nat) : Bool := decide (nx u 0 = 58) && !decide (nx u 1 = 61)
def fB : Int → List Nat → Int × Int
 | n, [] => (n, 0)
 | n, c :: w => if 115292150460684697 < n then (0, 2) else if 1152921504606846976 < n * 10 + ((c : Int) - 48) then (0, 2) else fB (n * 10 + ((c : Int) - 48)) w
def cV (u : List Nat) : Int × Int × Nat := ((fB 0 (u.takeWhile aS)).1, (fB 0 (u.takeWhile aS)).2, (u.takeWhile aS).length)
def iO : Nat → List Nat → List Nat → Option (List Nat × Int × Nat)
 | 0, _, _ => none
 | f + 1, out, u =>
  if (u.takeWhile bW).length = u.length then some ([], 11, u.length)
  else if nx u ((u.takeWhile bW).length + 1) = 39 then
   (iO f (out ++ u.takeWhile bW ++ [39]) (u.drop ((u.takeWhile bW).length + 2))).bind fun r => some (r.1, r.2.1, r.2.2 + ((u.takeWhile bW).length + 2))
  else some (out ++ u.takeWhile bW, 0, (u.takeWhile bW).length + 1)
def signs : List Nat := [43, 45, 42, 47, 60, 62, 61, 126, 44, 64, 38, 37]
def dE : List Nat := [94, 46, 59, 40, 41, 91, 93, 124]
def bS : List Nat := [9, 10, 13, 32]
def lS : Nat → List Nat → List Nat → Option (List Nat × Int × Nat)
 | 0, _, _ => none
 | f + 1, out, u =>
  if bF (nx u 0) then
   if cK (u.drop (aI u).2.2) then
    if (aI u).2.1 = 0 then (lS f (out ++ ((aI u).1 ++ [58])) (u.drop ((aI u).2.2 + 1))).bind fun r => some (r.1, r.2.1, r.2.2 + ((aI u).2.2 + 1))
    else some ([], (aI u).2.1, (aI u).2.2 + 1)
   else some (out, 0, 0)
  else some (out, 0, 0)
def dF (f : Nat) (u : List Nat) : Option (List Nat × Int × Nat) :=
 if bH (cU signs) 2 u = 0 then
  if bF (nx u 0) then
   if (aI u).2.1 = 0 then
    if cK (u.drop (aI u).2.2) then (lS f ((aI u).1 ++ [58]) (u.drop ((aI u).2.2 + 1))).bind fun r => some (r.1, r.2.1, r.2.2 + ((aI u).2.2 + 1))
    else some ((aI u).1, 0, (aI u).2.2)
   else some ((aI u).1, (aI u).2.1, (aI u).2.2)
  else some ([], 10, 0)
 else some (u.take (bH (cU signs) 2 u), 0, bH (cU signs) 2 u)
theorem iF (s : List Nat) (i k : Nat) : tU s (i + k) = nx (s.drop i) k := by simp [tU, nx, List.getD, List.getElem?_drop]
theorem iL (u : List Nat) : (aI u).2.2 ≤ u.length := by
 unfold aI
 have := mZ cT u
 split <;> exact this
section
variable {I : Im} {A L : Ls} {h : Hp} {r : Pos} {s : List Nat} {i : Nat}
theorem aHa (S : Sy I A [RS r s i] L h) (hs : s.length ≤ cA) (hb : ∀ c ∈ s, c < 256) (hi : i ≤ s.length) :
 Ev (fun n => aL n 108 [.p r 0] h) (fun v h' => v = .t [.s (aI (s.drop i)).1, .i .i64 (aI (s.drop i)).2.1] ∧ Sy I A [RS r s (i + (aI (s.drop i)).2.2)] L h') := by
 refine Ev.enter (fun n => aPz n _ h) ?_
 unfold s108
 refine wn (wf ?_); refine wq ?_
 refine bPn ?_
 refine bOm (mS (bGk I) S hs hb hi s.length hs) ?_
 rintro _ h1 ⟨rfl, S1⟩
 have e0 : bH cT s.length (s.drop i) = ((s.drop i).takeWhile cT).length := nG _ _ _ (by simp)
 rw [e0] at S1 ⊢
 rw [nA]
 refine bPn ?_
 unfold aI
 refine bQj (fun e1 => ?_) (fun e1 => ?_)
 ·refine yt ?_
  have e2 : 24 < ((s.drop i).takeWhile cT).length := by simp at e1; omega
  rw [if_pos e2]
  exact bOo ⟨rfl, S1⟩
 ·refine yj ?_
  have e2 : ¬ 24 < ((s.drop i).takeWhile cT).length := by simp at e1; omega
  rw [if_neg e2]
  exact bOo ⟨rfl, S1⟩
theorem tP {i : Nat} (k : Nat) (hs : i + k ≤ 1000000000000) : IntKind.i64.wrap ((i : Int) + Int.ofNat k) = ((i + k : Nat) : Int) := by
 rw [show (i : Int) + Int.ofNat k = ((i + k : Nat) : Int) by simp]
 exact uT _ hs
theorem aDy (S : Sy I A [RS r s i] L h) (hs : s.length ≤ cA) (hi : i ≤ s.length) :
 Ev (fun n => aL n 109 [.p r 0] h) (fun v h' => v = .b (cK (s.drop i)) ∧ Sy I A [RS r s (if cK (s.drop i) then i + 1 else i)] L h') := by
 refine Ev.enter (fun n => aLi n _ h) ?_
 unfold s109
 refine bOm (iA S hs hi 0 (by omega)) ?_
 rintro _ _ ⟨rfl, rfl⟩
 rw [iF]
 unfold cK
 refine bPq (fun e1 => ?_) (fun e1 => ?_)
 ·refine yg (yg (yg (ap (yt ?_))))
  have e2 : ¬ nx (s.drop i) 0 = 58 := by simp at e1; omega
  simp only [e2, decide_false, Bool.false_and, Bool.false_eq_true, if_false]
  exact bOo ⟨rfl, S⟩
 ·refine zf (wm (zf ?_))
  have e2 : nx (s.drop i) 0 = 58 := by simp at e1; omega
  refine bOm (iA S hs hi 1 (by omega)) ?_
  rintro _ _ ⟨rfl, rfl⟩
  rw [iF]
  refine zf ?_
  refine bOr (fun e3 => ?_) (fun e3 => ?_)
  ·refine aq (yt ?_)
   have e4 : nx (s.drop i) 1 = 61 := by simp at e3; omega
   simp only [e2, e4, decide_true, Bool.not_true, Bool.and_false, Bool.false_eq_true, if_false]
   exact bOo ⟨rfl, S⟩
  ·refine aq (yj (wn (wf ?_))); refine wq ?_
   have e4 : ¬ nx (s.drop i) 1 = 61 := by simp at e3; omega
   simp only [e2, e4, decide_true, decide_false, Bool.not_false, Bool.and_true, if_true]
   refine bOw ?_
   rw [tP 1 (by simp only [cA] at hs; omega)]
   refine wn (wf ?_); refine wv fun _ _ => ?_
   exact bOo ⟨rfl, by assumption⟩
theorem gX {u : List Nat} (h : cK u = true) : 1 ≤ u.length := by
 unfold cK at h
 cases u with
 | nil => simp [nx] at h
 | cons => simp
end
theorem bCj {I : Im} {A Q L L' : Ls} {h : Hp} {k : Nat → DV → Hp → aG} {P : DV → Hp → Prop} {b : Pos} {l : List Nat} {pos c : Nat} (S : Sy I A Q L h) (r : Rpl b (some (.it l pos)) (some (.it l (pos + 1))) L L') (e : l[pos]? = some c) (hc : c < 128)
 (H : ∀ h', Sy I A Q L' h' → Ev (fun m => k m (.t [.b true, .i .i64 (pos : Int), .i .i32 (c : Int)]) h') P) : Ev (fun m => bnd (pC (.p b 0) h) (k m)) P := by
 refine Ev.op (v := .t [.b true, .i .i64 (pos : Int), .i .i32 (c : Int)]) (h := ⟨h.next, Tr.set (.it l (pos + 1)) b h.bl⟩) ?_ (H _ (S.setL r rfl (fun c => bOy _ _ _ _)))
 simp [pC, S.memL r.at.1, e, hc]
theorem bKd {I : Im} {A Q L : Ls} {h : Hp} {k : Nat → DV → Hp → aG} {P : DV → Hp → Prop} {b : Pos} {l : List Nat} {pos : Nat} (S : Sy I A Q L h) (r : (b, some (.it l pos)) ∈ L) (e : l[pos]? = none)
 (H : Ev (fun m => k m (.t [.b false]) h) P) : Ev (fun m => bnd (pC (.p b 0) h) (k m)) P := by
 refine Ev.op (v := .t [.b false]) (h := h) ?_ H
 simp [pC, S.memL r, e]
theorem aRc (n : Nat) (x : DV) (h : Hp) : aL (n + 1) 111 [x] h = s111 (aL n) n x h := by kernel_rfl
theorem aPp (n : Nat) (x : DV) (h : Hp) : aL (n + 1) 112 [x] h = s112 (aL n) n x h := by kernel_rfl
theorem aLa (n : Nat) (x : DV) (h : Hp) : aL (n + 1) 113 [x] h = s113 (aL n) n x h := by kernel_rfl
theorem aUs (n : Nat) (x : DV) (h : Hp) : aL (n + 1) 76 [x] h = s76 (aL n) n x h := by kernel_rfl
theorem aVj (n : Nat) (x : DV) (h : Hp) : aL (n + 1) 48 [x] h = s48 (aL n) n x h := by kernel_rfl
theorem aOi {I : Im} {A Q L : Ls} {b : Pos} {l : List Nat} (hd : ∀ c ∈ l, aS c = true) : ∀ (w : List Nat) (j pos : Nat) (h : Hp) (x : Int), Sy I A Q ((b, some (.it l pos)) :: L) h → l.drop pos = w → 0 ≤ x → x ≤ 1152921504606846976 →
 Ev (fun n => iD (aL n) n (n - j) (.i .i64 x) (.p b 0) h) (fun v h' => v = .t [.i .i64 (fB x w).1, .i .i64 (fB x w).2] ∧ Sy I A Q L h') := by
 intro w
 induction w with
 | nil =>
  intro j pos h x S hw h0 h1
  refine bOv j (ll := fun n m => iD (aL n) n m (.i .i64 x) (.p b 0) h) (bb := fun n m => lI (aL n) n (iD (aL n) n m) (.i .i64 x) (.p b 0) h) (fun _ _ => rfl) ?_
  unfold lI dT
  refine bKd S (fO) (List.getElem?_eq_none (by simpa using hw)) ?_
  refine wx ?_; refine yj ?_
  exact bOo ⟨rfl, S.dropL⟩
 | cons c w ih =>
  intro j pos h x S hw h0 h1
  have hg : l[pos]? = some c := by
   have : (l.drop pos)[0]? = some c := by rw [hw]; rfl
   simpa [aJ] using this
  have hw' : l.drop (pos + 1) = w := by
   rw [← List.drop_drop, hw]; rfl
  have hdc := hd c (List.mem_of_getElem? hg)
  simp [aS] at hdc
  refine bOv j (ll := fun n m => iD (aL n) n m (.i .i64 x) (.p b 0) h) (bb := fun n m => lI (aL n) n (iD (aL n) n m) (.i .i64 x) (.p b 0) h) (fun _ _ => rfl) ?_
  unfold lI
  refine bCj S (Rpl.head _) hg (by omega) ?_
  intro h2 S2
  refine wx ?_; refine yt ?_; refine wx ?_
  unfold fB
  refine bQj (fun e1 => ?_) (fun e1 => ?_)
  ·refine yt ?_
   rw [if_pos (show (115292150460684697 : Int) < x from e1)]
   exact bOo ⟨rfl, S2.dropL⟩
  ·rw [if_neg (show ¬ (115292150460684697 : Int) < x from e1)]
   have e1' : x ≤ 115292150460684697 := by
    have : ¬ (115292150460684697 : Int) < x := e1
    omega
   refine yj ?_
   refine bSb ?_
   refine bQg ?_
   have a1 : IntKind.i64.wrap (x * Int.ofNat 10) = x * 10 := gE _ (by show -9223372036854775808 ≤ x * 10; omega) (by show x * 10 ≤ _; omega)
   have a2 : IntKind.i32.wrap ((c : Int) - Int.ofNat 48) = (c : Int) - 48 := by
    show IntKind.i32.wrap ((c : Int) - 48) = _
    unfold IntKind.wrap
    simp [IntKind.bits, IntKind.signed, IntKind.min, IntKind.max]
    omega
   have a3 : ∀ h, oD .i64 (.i .i32 ((c : Int) - 48)) h = some (.i .i64 ((c : Int) - 48), h) := fun h => by
    show some (DV.i .i64 (IntKind.i64.wrap ((c : Int) - 48)), h) = _
    rw [gE _ (by omega) (by omega)]
   rw [a1, a2]
   refine Ev.op (a3 _) ?_
   refine bOw ?_
   rw [gE _ (by omega) (by omega)]
   refine bQj (fun e2 => ?_) (fun e2 => ?_)
   ·refine yt ?_
    rw [if_pos (show (1152921504606846976 : Int) < x * 10 + ((c : Int) - 48) from e2)]
    exact bOo ⟨rfl, S2.dropL⟩
   ·refine yj ?_
    rw [if_neg (show ¬ (1152921504606846976 : Int) < x * 10 + ((c : Int) - 48) from e2)]
    have e2' : ¬ (1152921504606846976 : Int) < x * 10 + ((c : Int) - 48) := e2
    exact ih (j + 1) (pos + 1) h2 _ S2 hw' (by omega) (by omega)
section
variable {I : Im} {A L : Ls} {h : Hp} {r : Pos} {s : List Nat} {i : Nat}
theorem bCr (S : Sy I A [RS r s i] L h) (hs : s.length ≤ cA) (hb : ∀ c ∈ s, c < 256) (hi : i ≤ s.length) :
 Ev (fun n => aL n 111 [.p r 0] h) (fun v h' => v = .t [.i .i64 (cV (s.drop i)).1, .i .i64 (cV (s.drop i)).2.1] ∧ Sy I A [RS r s (i + (cV (s.drop i)).2.2)] L h') := by
 refine Ev.enter (fun n => aRc n _ h) ?_
 unfold s111 yL xT xP aCn
 refine wn (wf ?_); refine wq ?_
 refine bPn ?_
 refine bOm (mS (aXq I) S hs hb hi s.length hs) ?_
 rintro _ h1 ⟨rfl, S1⟩
 have e0 : bH aS s.length (s.drop i) = ((s.drop i).takeWhile aS).length := nG _ _ _ (by simp)
 rw [e0] at S1 ⊢
 rw [nA]
 refine Ev.op (v := .p h1.next 0) (h := nw (.it ((s.drop i).takeWhile aS) 0) h1) rfl ?_
 have S2 := S1.new (.it ((s.drop i).takeWhile aS) 0)
 exact aOi (fun c hc => qO aS _ c hc) _ 0 0 _ 0 S2 rfl (by omega) (by omega)
theorem aJp (hs : s.length ≤ cA) (hb : ∀ c ∈ s, c < 256) : ∀ (f j i : Nat) (h : Hp) (out : List Nat) (res : List Nat × Int × Nat), Sy I A [RS r s i] L h → i ≤ s.length → out.length ≤ 3 * i → iO f out (s.drop i) = some res →
 Ev (fun n => kE (aL n) n (n - j) (.p r 0) (.s out) h) (fun v h' => v = .t [.s res.1, .i .i64 res.2.1] ∧ Sy I A [RS r s (i + res.2.2)] L h') := by
 intro f
 induction f with
 | zero => intro j i h out res S hi ho hm; cases hm
 | succ f ih =>
  intro j i h out res S hi ho hm
  unfold iO at hm
  have hlen := mZ bW (s.drop i)
  have hd : (s.drop i).length = s.length - i := by simp
  refine bOv j (ll := fun n m => kE (aL n) n m (.p r 0) (.s out) h) (bb := fun n m => qB (aL n) n (kE (aL n) n m) (.p r 0) (.s out) h) (fun _ _ => rfl) ?_
  unfold qB
  refine wn (wf ?_); refine wq ?_
  refine bPn ?_
  refine bOm (mS (bHx I) S hs hb hi s.length hs) ?_
  rintro _ h1 ⟨rfl, S1⟩
  have e0 : bH bW s.length (s.drop i) = ((s.drop i).takeWhile bW).length := nG _ _ _ (by simp)
  rw [e0] at S1 ⊢
  rw [nA]
  generalize hw : (s.drop i).takeWhile bW = w at hm S1 hlen ⊢
  simp only [cA] at hs
  refine bQd (by omega) ?_
  refine wn (wf ?_); refine wq ?_; refine wn (wf ?_); refine wq ?_
  refine bPn ?_
  refine bPy (fun e1 => ?_) (fun e1 => ?_)
  ·refine yt ?_
   have e2 : w.length = (s.drop i).length := by omega
   rw [if_pos e2] at hm
   cases hm
   exact bOo ⟨rfl, by rw [← e2]; exact S1⟩
  ·have e2 : ¬ w.length = (s.drop i).length := by omega
   rw [if_neg e2] at hm
   refine yj (wn (wf ?_)); refine wq ?_
   refine bOw ?_
   rw [tP 1 (by omega)]
   refine wn (wf ?_); refine wv fun _ _ => ?_
   rename_i h2 S2
   refine bOm (iA S2 hs (by omega) 0 (by omega)) ?_
   rintro _ _ ⟨rfl, rfl⟩
   have e3 : tU s (i + w.length + 1 + 0) = nx (s.drop i) (w.length + 1) := by rw [show i + w.length + 1 + 0 = i + (w.length + 1) by omega, iF]
   rw [e3]
   refine bPq (fun e4 => ?_) (fun e4 => ?_)
   ·refine yt ?_
    rw [if_neg (show ¬ nx (s.drop i) (w.length + 1) = 39 by simp at e4; omega)] at hm
    cases hm
    exact bOo ⟨rfl, S2⟩
   ·have e5 : nx (s.drop i) (w.length + 1) = 39 := by simp at e4; omega
    rw [if_pos e5] at hm
    obtain ⟨res', hr, hm⟩ := bD hm
    simp only [aW] at hm
    subst hm
    have e6 : i + w.length + 2 ≤ s.length := by
     have : w.length + 1 < (s.drop i).length := by
      apply Decidable.byContradiction
      intro hn
      rw [nx, List.getD, List.getElem?_eq_none (by omega)] at e5
      cases e5
     omega
    refine yj ?_
    refine bQd (by simp; omega) ?_
    refine wn (wf ?_); refine wq ?_
    refine bOw ?_
    rw [tP 1 (by omega)]
    refine wn (wf ?_); refine wv fun _ _ => ?_
    refine (ih (j + 1) (i + w.length + 1 + 1) _ (out ++ w ++ [39]) res' (by assumption) (by omega) (by simp; omega) ?_).mono ?_
    ·rw [← hr, List.drop_drop]
     congr 2
    ·rintro v h' ⟨rfl, S'⟩
     refine ⟨rfl, ?_⟩
     have e7 : i + w.length + 1 + 1 + res'.2.2 = i + (res'.2.2 + (w.length + 2)) := by omega
     rw [← e7]; exact S'
theorem aYy (S : Sy I A [RS r s i] L h) (hs : s.length ≤ cA) (hb : ∀ c ∈ s, c < 256) (hi : i ≤ s.length) (f : Nat) (res : List Nat × Int × Nat) (hm : iO f [] (s.drop i) = some res) :
 Ev (fun n => aL n 112 [.p r 0] h) (fun v h' => v = .t [.s res.1, .i .i64 res.2.1] ∧ Sy I A [RS r s (i + res.2.2)] L h') := by
 refine Ev.enter (fun n => aPp n _ h) ?_
 unfold s112 xK vO aDd
 exact aJp hs hb f 0 i h [] res S hi (by simp) hm
end
end Go.Dd

namespace Go.Dd
open Go.Proofs
def aY (f : Nat) (u : List Nat) : Option (Int × List Nat × Int × Int × Nat) :=
 if bF (nx u 0) then
  if (aI u).2.1 = 0 then
   if cK (u.drop (aI u).2.2) then some (2, (aI u).1 ++ [58], 0, 0, (aI u).2.2 + 1) else some (1, (aI u).1, 0, 0, (aI u).2.2)
  else some (1, (aI u).1, 0, (aI u).2.1, (aI u).2.2)
 else if aS (nx u 0) then some (4, [], (cV u).1, (cV u).2.1, (cV u).2.2)
 else if nx u 0 = 39 then (iO f [] (u.drop 1)).bind fun r => some (5, r.1, 0, r.2.1, r.2.2 + 1)
 else if nx u 0 = 35 then
  if nx u 1 = 40 then some (7, [], 0, 0, 2) else (dF f (u.drop 1)).bind fun r => some (6, r.1, 0, r.2.1, r.2.2 + 1)
 else if nx u 0 = 58 ∧ nx u 1 = 61 then some (9, [], 0, 0, 2)
 else if nx u 0 = 58 ∧ bF (nx u 1) then some (8, (aI (u.drop 1)).1, 0, (aI (u.drop 1)).2.1, (aI (u.drop 1)).2.2 + 1)
 else if cU signs (nx u 0) then some (3, u.take (bH (cU signs) 2 u), 0, 0, bH (cU signs) 2 u)
 else if cU dE (nx u 0) then some (10, u.take (bH (cU dE) 1 u), 0, 0, bH (cU dE) 1 u)
 else some (0, [], 0, 10, 0)
def hU (g : Nat) (s : List Nat) : Nat → Nat → List Tok → Option (List Tok × Int × Int)
 | 0, _, _ => none
 | f + 1, i, out =>
  if s.length ≤ i + ((s.drop i).takeWhile (cU bS)).length then some (out ++ [⟨0, [], 0, (s.length : Int)⟩], 0, 0)
  else if nx s (i + ((s.drop i).takeWhile (cU bS)).length) = 34 then
   if cO 34 (s.drop (i + ((s.drop i).takeWhile (cU bS)).length + 1)) 0 < 0 then some ([], ((i + ((s.drop i).takeWhile (cU bS)).length : Nat) : Int), 11)
   else hU g s f (i + ((s.drop i).takeWhile (cU bS)).length + (cO 34 (s.drop (i + ((s.drop i).takeWhile (cU bS)).length + 1)) 0).toNat + 2) out
  else (aY g (s.drop (i + ((s.drop i).takeWhile (cU bS)).length))).bind fun r =>
   if r.2.2.2.1 = 0 then if (s.drop (i + ((s.drop i).takeWhile (cU bS)).length)).length < r.2.2.2.2 then none else hU g s f (i + ((s.drop i).takeWhile (cU bS)).length + r.2.2.2.2) (out ++ [⟨r.1, r.2.1, r.2.2.1, ((i + ((s.drop i).takeWhile (cU bS)).length : Nat) : Int)⟩])
   else some ([], ((i + ((s.drop i).takeWhile (cU bS)).length : Nat) : Int), r.2.2.2.1)
def nM (g f : Nat) (s : List Nat) : Option (List Tok × Int × Int) := if 2000 < s.length then some ([], 0, 12) else hU g s f 0 []
theorem jD (u : List Nat) : (aI u).1.length ≤ (aI u).2.2 := by
 unfold aI
 split <;> simp
section
variable {I : Im} {A L : Ls} {h : Hp} {r : Pos} {s : List Nat} {i : Nat}
theorem aQh (hs : s.length ≤ cA) (hb : ∀ c ∈ s, c < 256) : ∀ (f j i : Nat) (h : Hp) (out : List Nat) (res : List Nat × Int × Nat), Sy I A [RS r s i] L h → i ≤ s.length → out.length ≤ 3 * i → lS f out (s.drop i) = some res →
 Ev (fun n => jR (aL n) n (n - j) (.p r 0) (.s out) h) (fun v h' => v = .t [.s res.1, .i .i64 res.2.1] ∧ Sy I A [RS r s (i + res.2.2)] L h') := by
 intro f
 induction f with
 | zero => intro j i h out res S hi ho hm; cases hm
 | succ f ih =>
  intro j i h out res S hi ho hm
  unfold lS at hm
  refine bOv j (ll := fun n m => jR (aL n) n m (.p r 0) (.s out) h) (bb := fun n m => qF (aL n) n (jR (aL n) n m) (.p r 0) (.s out) h) (fun _ _ => rfl) ?_
  unfold qF eD
  refine bOm (iA S hs hi 0 (by omega)) ?_
  rintro _ _ ⟨rfl, rfl⟩
  rw [iF]
  refine bOm (jF _ _) ?_
  rintro _ _ ⟨rfl, rfl⟩
  cases e1 : bF (nx (s.drop i) 0) with
  | false =>
   refine yj ?_
   rw [if_neg (by simp [e1])] at hm
   cases hm
   exact bOo ⟨rfl, S⟩
  | true =>
   rw [if_pos e1] at hm
   refine yt (wn (wf ?_)); refine wq ?_
   refine bOm (aHa S hs hb hi) ?_
   rintro _ _ ⟨rfl, S1⟩
   have hn := iL (s.drop i)
   have hn1 := jD (s.drop i)
   have hd : (s.drop i).length = s.length - i := by simp
   have hdd : s.drop (i + (aI (s.drop i)).2.2) = (s.drop i).drop (aI (s.drop i)).2.2 := by rw [List.drop_drop]
   generalize hN : aI (s.drop i) = N at hm S1 hn hn1 hdd ⊢
   refine wx ?_; refine wx ?_
   refine bOm (aDy S1 hs (by omega)) ?_
   rintro _ _ ⟨rfl, S2⟩
   rw [hdd] at S2 ⊢
   cases e2 : cK ((s.drop i).drop N.2.2) with
   | false =>
    rw [e2] at hm S2
    simp only [Bool.false_eq_true, if_false, aW] at hm
    subst hm
    refine ao (yt (wn (wf ?_))); refine wv fun _ _ => ?_
    exact bOo ⟨rfl, by assumption⟩
   | true =>
    rw [if_pos e2] at hm
    rw [e2, if_pos rfl] at S2
    have hc := gX e2
    have hc2 : i + N.2.2 + 1 ≤ s.length := by simp at hc; omega
    refine an (yj ?_)
    refine bPq (fun e3 => ?_) (fun e3 => ?_)
    ·rw [if_neg (show ¬ N.2.1 = 0 from e3)] at hm
     cases hm
     refine yt ?_
     exact bOo ⟨rfl, S2⟩
    ·rw [if_pos (show N.2.1 = 0 from e3)] at hm
     obtain ⟨res', hr, hm⟩ := bD hm
     simp only [aW] at hm
     subst hm
     simp only [cA] at hs
     refine yj ?_
     refine bQd (by simp; omega) ?_
     refine bQd (by simp; omega) ?_
     refine (ih (j + 1) (i + N.2.2 + 1) _ (out ++ (N.1 ++ [58])) res' S2 hc2 (by simp; omega) ?_).mono ?_
     ·rw [← hr, List.drop_drop, Nat.add_assoc]
     ·rintro v h' ⟨rfl, S'⟩
      refine ⟨rfl, ?_⟩
      have e7 : i + N.2.2 + 1 + res'.2.2 = i + (res'.2.2 + (N.2.2 + 1)) := by omega
      rw [← e7]; exact S'
theorem aIz (S : Sy I A [RS r s i] L h) (hs : s.length ≤ cA) (hb : ∀ c ∈ s, c < 256) (hi : i ≤ s.length) (f : Nat) (res : List Nat × Int × Nat) (hm : dF f (s.drop i) = some res) :
 Ev (fun n => aL n 113 [.p r 0] h) (fun v h' => v = .t [.s res.1, .i .i64 res.2.1] ∧ ∃ J, ILe I J ∧ Sy J A [RS r s (i + res.2.2)] L h') := by
 refine Ev.enter (fun n => aLa n _ h) ?_
 unfold dF at hm
 unfold s113 yO
 refine bOm (uH S signs) ?_
 rintro cl h1 ⟨J, gJ, S1, C1⟩
 refine bOm (mS C1 S1 hs hb hi 2 (by simp [cA])) ?_
 rintro _ h2 ⟨rfl, S2⟩
 have hd : (s.drop i).length = s.length - i := by simp
 have hr := nQ (cU signs) 2 (s.drop i)
 refine bRq (fun e1 => ?_) (fun e1 => ?_)
 ·refine yt ?_
  have e2 : ¬ bH (cU signs) 2 (s.drop i) = 0 := fun e => e1 (by rw [e]; rfl)
  rw [if_neg e2] at hm
  cases hm
  exact bOo ⟨rfl, J, gJ, S2⟩
 ·have e2 : bH (cU signs) 2 (s.drop i) = 0 := by
   have := congrArg List.length e1
   rw [List.length_take] at this
   simp only [List.length_nil] at this
   omega
  rw [if_pos e2] at hm
  rw [e2, Nat.add_zero] at S2
  refine yj ?_
  unfold xN
  refine bOm (iA S2 hs hi 0 (by omega)) ?_
  rintro _ _ ⟨rfl, rfl⟩
  rw [iF]
  refine bOm (jF _ _) ?_
  rintro _ _ ⟨rfl, rfl⟩
  cases e3 : bF (nx (s.drop i) 0) with
  | false =>
   refine ao (yt ?_)
   rw [if_neg (by simp [e3])] at hm
   cases hm
   exact bOo ⟨rfl, J, gJ, S2⟩
  | true =>
   rw [if_pos e3] at hm
   refine an (yj ?_)
   unfold yU
   refine bOm (aHa S2 hs hb hi) ?_
   rintro _ _ ⟨rfl, S3⟩
   have hn := iL (s.drop i)
   have hn1 := jD (s.drop i)
   have hdd : s.drop (i + (aI (s.drop i)).2.2) = (s.drop i).drop (aI (s.drop i)).2.2 := by rw [List.drop_drop]
   generalize hN : aI (s.drop i) = N at hm S3 hn hn1 hdd ⊢
   refine wx ?_; refine wx ?_
   unfold wC
   refine bPq (fun e4 => ?_) (fun e4 => ?_)
   ·rw [if_neg (show ¬ N.2.1 = 0 from e4)] at hm
    cases hm
    refine yg (yg (yg (ap (yt ?_))))
    exact bOo ⟨rfl, J, gJ, S3⟩
   ·rw [if_pos (show N.2.1 = 0 from e4)] at hm
    refine zf (wm (zf ?_))
    refine bOm (aDy S3 hs (by omega)) ?_
    rintro _ _ ⟨rfl, S4⟩
    rw [hdd] at S4 ⊢
    cases e5 : cK ((s.drop i).drop N.2.2) with
    | false =>
     rw [e5] at hm S4
     simp only [Bool.false_eq_true, if_false, aW] at hm
     subst hm
     refine zf (ao (aq (yt ?_)))
     refine bOo ⟨?_, J, gJ, S4⟩
     rw [show N.2.1 = 0 from e4]
    | true =>
     rw [e5] at hm S4
     simp only [if_true] at hm
     rw [if_pos rfl] at S4
     obtain ⟨res', hr', hm⟩ := bD hm
     simp only [aW] at hm
     subst hm
     have hc := gX e5
     have hc2 : i + N.2.2 + 1 ≤ s.length := by simp at hc; omega
     have hs' := hs
     simp only [cA] at hs
     refine zf (an (aq (yj ?_)))
     unfold yQ wU aBz
     refine bQd (by simp; omega) ?_
     refine (aQh hs' hb f 0 (i + N.2.2 + 1) _ (N.1 ++ [58]) res' S4 hc2 (by simp; omega) ?_).mono ?_
     ·rw [← hr', List.drop_drop, Nat.add_assoc]
     ·rintro v h' ⟨rfl, S'⟩
      refine ⟨rfl, J, gJ, ?_⟩
      have e7 : i + N.2.2 + 1 + res'.2.2 = i + (res'.2.2 + (N.2.2 + 1)) := by omega
      rw [← e7]; exact S'
end
end Go.Dd

namespace Go.Dd
open Go.Proofs
section
variable {I : Im} {A L : Ls} {h : Hp} {r : Pos} {s : List Nat} {i : Nat}
theorem bGr (S : Sy I A [RS r s i] L h) (hs : s.length ≤ cA) (hb : ∀ c ∈ s, c < 256) (hi : i < s.length) (f : Nat) (res : Int × List Nat × Int × Int × Nat) (hm : aY f (s.drop i) = some res) :
 Ev (fun n => aL n 76 [.p r 0] h) (fun v h' => v = .t [.a (tc ⟨res.1, res.2.1, res.2.2.1, (i : Int)⟩), .i .i64 res.2.2.2.1] ∧ ∃ J, ILe I J ∧ Sy J A [RS r s (i + res.2.2.2.2)] L h') := by
 refine Ev.enter (fun n => aUs n _ h) ?_
 unfold aY at hm
 unfold s76 bAk
 refine wa fun _ _ _ => ?_; refine wn (wf ?_); refine wq ?_; refine wd ?_; refine wa fun _ _ _ => ?_; refine wt fun _ _ => ?_
 unfold bAx bAs
 rename_i h0 S0
 have hd : (s.drop i).length = s.length - i := by simp
 have hs' := hs
 simp only [cA] at hs'
 have hcd : s.drop i = s[i] :: s.drop (i + 1) := List.drop_eq_getElem_cons hi
 have hn0 : nx (s.drop i) 0 < 256 := by rw [hcd]; exact hb _ (List.getElem_mem hi)
 refine bOm (iA S0 hs (by omega) 0 (by omega)) ?_
 rintro _ _ ⟨rfl, rfl⟩
 rw [iF]
 unfold bAz
 refine bOm (jF _ _) ?_
 rintro _ _ ⟨rfl, rfl⟩
 cases e1 : bF (nx (s.drop i) 0) with
 | true =>
  rw [if_pos e1] at hm
  refine yt (wf ?_); refine wu fun _ _ => ?_
  refine bOm (aHa (by assumption) hs hb (by omega)) ?_
  rintro _ _ ⟨rfl, S1⟩
  have hn := iL (s.drop i)
  have hn1 := jD (s.drop i)
  have hdd : s.drop (i + (aI (s.drop i)).2.2) = (s.drop i).drop (aI (s.drop i)).2.2 := by rw [List.drop_drop]
  generalize hN : aI (s.drop i) = N at hm S1 hn hn1 hdd ⊢
  refine wx ?_; refine wx ?_; refine wf ?_; refine wu fun _ _ => ?_
  unfold eK
  refine bOr (fun e2 => ?_) (fun e2 => ?_)
  ·rw [if_pos (show N.2.1 = 0 from e2)] at hm
   refine zt (wm (zt ?_))
   refine bOm (aDy (by assumption) hs (by omega)) ?_
   rintro _ _ ⟨rfl, S2⟩
   rw [hdd] at S2 ⊢
   cases e3 : cK ((s.drop i).drop N.2.2) with
   | true =>
    rw [e3] at hm S2
    simp only [if_true, aW] at hm
    subst hm
    rw [if_pos rfl] at S2
    refine ap (yt (wf ?_)); refine wl ?_
    refine bQd (by simp; omega) ?_
    refine wf ?_; refine wu fun _ _ => ?_; refine wf ?_; refine wu fun _ _ => ?_; refine ws ?_; refine wt fun _ _ => ?_; refine ws ?_
    refine bOo ⟨?_, I, ILe.refl _, dp⟩
    rw [show N.2.1 = 0 from e2]; rfl
   | false =>
    rw [e3] at hm S2
    simp only [Bool.false_eq_true, if_false, aW] at hm
    subst hm
    refine ap (yj ?_); refine ws ?_; refine wt fun _ _ => ?_; refine ws ?_
    refine bOo ⟨?_, I, ILe.refl _, dp⟩
    rw [show N.2.1 = 0 from e2]; rfl
  ·rw [if_neg (show ¬ N.2.1 = 0 from e2)] at hm
   cases hm
   refine yf (yf (aq (yj ?_))); refine ws ?_; refine wt fun _ _ => ?_; refine ws ?_
   exact bOo ⟨rfl, I, ILe.refl _, dp⟩
 | false =>
 rw [if_neg (by simp [e1])] at hm
 refine yj ?_
 refine bOm (sV _ _) ?_
 rintro _ _ ⟨rfl, rfl⟩
 cases e2 : aS (nx (s.drop i) 0) with
 | true =>
  rw [if_pos e2] at hm
  cases hm
  refine yt (wf ?_); refine wu fun _ _ => ?_
  refine bOm (bCr (by assumption) hs hb (by omega)) ?_
  rintro _ _ ⟨rfl, S1⟩
  refine wx ?_; refine wx ?_; refine wf ?_; refine wu fun _ _ => ?_
  unfold eK
  refine ws ?_; refine wt fun _ _ => ?_; refine ws ?_
  exact bOo ⟨rfl, I, ILe.refl _, dp⟩
 | false =>
 rw [if_neg (by simp [e2])] at hm
 refine yj ?_
 refine bOr (fun e3 => ?_) (fun e3 => ?_)
 ·rw [if_pos (show nx (s.drop i) 0 = 39 by simp at e3; omega)] at hm
  obtain ⟨res', hr, hm⟩ := bD hm
  simp only [aW] at hm
  subst hm
  refine yt (wn (wf ?_)); refine wq ?_
  refine bOw ?_
  rw [tP 1 (by omega)]
  refine wn (wf ?_); refine wv fun _ _ => ?_; refine wf ?_; refine wu fun _ _ => ?_
  refine bOm (aYy (by assumption) hs hb (by omega) f res' (by rw [← hr, List.drop_drop])) ?_
  rintro _ _ ⟨rfl, S1⟩
  refine wx ?_; refine wx ?_; refine wf ?_; refine wu fun _ _ => ?_
  unfold eK
  refine ws ?_; refine wt fun _ _ => ?_; refine ws ?_
  refine bOo ⟨rfl, I, ILe.refl _, ?_⟩
  rw [show i + (res'.2.2 + 1) = i + 1 + res'.2.2 by omega]
  exact dp
 rw [if_neg (show ¬ nx (s.drop i) 0 = 39 by simp at e3; omega)] at hm
 refine yj ?_
 refine bOr (fun e4 => ?_) (fun e4 => ?_)
 ·rw [if_pos (show nx (s.drop i) 0 = 35 by simp at e4; omega)] at hm
  refine zt (wm (zt ?_))
  refine bOm (iA (by assumption) hs (by omega) 1 (by omega)) ?_
  rintro _ _ ⟨rfl, rfl⟩
  rw [iF]
  refine zt ?_
  refine bOr (fun e5 => ?_) (fun e5 => ?_)
  ·have e5' : nx (s.drop i) 1 = 40 := by simp at e5; omega
   rw [if_pos e5'] at hm
   cases hm
   refine ap (yt (wn (wf ?_))); refine wq ?_
   refine bOw ?_
   rw [tP 2 (by omega)]
   refine wn (wf ?_); refine wv fun _ _ => ?_; refine wf ?_; refine wu fun _ _ => ?_
   unfold eK
   refine ws ?_; refine wt fun _ _ => ?_; refine ws ?_
   exact bOo ⟨rfl, I, ILe.refl _, dp⟩
  ·rw [if_neg (show ¬ nx (s.drop i) 1 = 40 by simp at e5; omega)] at hm
   obtain ⟨res', hr, hm⟩ := bD hm
   simp only [aW] at hm
   subst hm
   refine ap (yj ?_)
   refine bOr (fun e6 => ?_) (fun e6 => absurd e4 e6)
   refine yt (wn (wf ?_)); refine wq ?_
   refine bOw ?_
   rw [tP 1 (by omega)]
   refine wn (wf ?_); refine wv fun _ _ => ?_; refine wf ?_; refine wu fun _ _ => ?_
   refine bOm (aIz (by assumption) hs hb (by omega) f res' (by rw [← hr, List.drop_drop])) ?_
   rintro _ _ ⟨rfl, J, gJ, S1⟩
   refine wx ?_; refine wx ?_; refine wf ?_; refine wu fun _ _ => ?_
   unfold eK
   refine ws ?_; refine wt fun _ _ => ?_; refine ws ?_
   refine bOo ⟨rfl, J, gJ, ?_⟩
   rw [show i + (res'.2.2 + 1) = i + 1 + res'.2.2 by omega]
   exact dp
 rw [if_neg (show ¬ nx (s.drop i) 0 = 35 by simp at e4; omega)] at hm
 refine yf (yf (yf (aq (yj ?_))))
 refine bOr (fun e6 => absurd e6 e4) (fun e6 => ?_)
 refine yj ?_
 have fin : ¬ (nx (s.drop i) 0 = 58 ∧ nx (s.drop i) 1 = 61) → ¬ (nx (s.drop i) 0 = 58 ∧ bF (nx (s.drop i) 1) = true) → ∀ (h' : Hp) (b2 b4 : Pos),
  Sy I A [RS r s i] ((b4, some (.row .ex [.i .i64 (Int.ofNat 0), .s [], .i .i64 (Int.ofNat 0), .i .i64 (i : Int)])) :: (b2, some (.row .ex [.i .i64 (Int.ofNat 0), .s [], .i .i64 (Int.ofNat 0), .i .i64 (Int.ofNat 0)])) :: L) h' →
  Ev (fun n => bnd (aL n 75 [.s [43, 45, 42, 47, 60, 62, 61, 126, 44, 64, 38, 37]] h') fun v111 h111 =>
   bnd (dP CF (aL n) v111 [.i .u8 (Int.ofNat (nx (s.drop i) 0))] h111) fun v112 h112 =>
   cE v112 (
    bnd (aL n 75 [.s [43, 45, 42, 47, 60, 62, 61, 126, 44, 64, 38, 37]] h112) fun v113 h113 =>
    bnd (aL n 74 [.p r 0, v113, .i .i64 (Int.ofNat 2)] h113) fun v114 h114 =>
    bnd (aA 0 (.p b4 0) h114) fun v115 h115 =>
    bnd (aC 1 v115 (.i .i64 (Int.ofNat 3)) h115) fun _ h116 =>
    bnd (aA 1 (.p b4 0) h116) fun v117 h117 =>
    bnd (aC 1 v117 v114 h117) fun _ h118 =>
    eK (aL n) n (.p b2 0) (.p b4 0) (.i .i64 (Int.ofNat 0)) h118) (
    bnd (aL n 75 [.s [94, 46, 59, 40, 41, 91, 93, 124]] h112) fun v119 h119 =>
    bnd (dP CF (aL n) v119 [.i .u8 (Int.ofNat (nx (s.drop i) 0))] h119) fun v120 h120 =>
    cE v120 (
     bnd (aL n 75 [.s [94, 46, 59, 40, 41, 91, 93, 124]] h120) fun v121 h121 =>
     bnd (aL n 74 [.p r 0, v121, .i .i64 (Int.ofNat 1)] h121) fun v122 h122 =>
     bnd (aA 0 (.p b4 0) h122) fun v123 h123 =>
     bnd (aC 1 v123 (.i .i64 (Int.ofNat 10)) h123) fun _ h124 =>
     bnd (aA 1 (.p b4 0) h124) fun v125 h125 =>
     bnd (aC 1 v125 v122 h125) fun _ h126 =>
     eK (aL n) n (.p b2 0) (.p b4 0) (.i .i64 (Int.ofNat 0)) h126) (
     eK (aL n) n (.p b2 0) (.p b4 0) (.i .i64 (Int.ofNat 10)) h120)))
   (fun v h' => v = .t [.a (tc ⟨res.1, res.2.1, res.2.2.1, (i : Int)⟩), .i .i64 res.2.2.2.1] ∧ ∃ J, ILe I J ∧ Sy J A [RS r s (i + res.2.2.2.2)] L h') := by
  intro n1 n2 h' b2 b4 S'
  rw [if_neg n1, if_neg n2] at hm
  refine bOm (uH S' signs) ?_
  rintro cl h1 ⟨J, gJ, S1, C1⟩
  refine bOm (C1 J _ _ _ _ _ (ILe.refl _) S1 hn0) ?_
  rintro _ _ ⟨rfl, rfl⟩
  cases e7 : cU signs (nx (s.drop i) 0) with
  | true =>
   rw [if_pos e7] at hm
   cases hm
   refine yt ?_
   refine bOm (uH S1 signs) ?_
   rintro cl2 h2 ⟨K, gK, S2, C2⟩
   refine bOm (mS C2 S2 hs hb (by omega) 2 (by simp [cA])) ?_
   rintro _ h3 ⟨rfl, S3⟩
   refine wf ?_; refine wu fun _ _ => ?_; refine wf ?_; refine wu fun _ _ => ?_
   unfold eK
   refine ws ?_; refine wt fun _ _ => ?_; refine ws ?_
   exact bOo ⟨rfl, K, gJ.trans gK, dp⟩
  | false =>
   rw [if_neg (by simp [e7])] at hm
   refine yj ?_
   refine bOm (uH S1 dE) ?_
   rintro cl2 h2 ⟨K, gK, S2, C2⟩
   refine bOm (C2 K _ _ _ _ _ (ILe.refl _) S2 hn0) ?_
   rintro _ _ ⟨rfl, rfl⟩
   cases e8 : cU dE (nx (s.drop i) 0) with
   | true =>
    rw [if_pos e8] at hm
    cases hm
    refine yt ?_
    refine bOm (uH S2 dE) ?_
    rintro cl3 h3 ⟨M, gM, S3, C3⟩
    refine bOm (mS C3 S3 hs hb (by omega) 1 (by simp [cA])) ?_
    rintro _ h4 ⟨rfl, S4⟩
    refine wf ?_; refine wu fun _ _ => ?_; refine wf ?_; refine wu fun _ _ => ?_
    unfold eK
    refine ws ?_; refine wt fun _ _ => ?_; refine ws ?_
    exact bOo ⟨rfl, M, (gJ.trans gK).trans gM, dp⟩
   | false =>
    rw [if_neg (by simp [e8])] at hm
    cases hm
    refine yj ?_
    unfold eK
    refine ws ?_; refine wt fun _ _ => ?_; refine ws ?_
    exact bOo ⟨rfl, K, gJ.trans gK, dp⟩
 refine bOr (fun e7 => ?_) (fun e7 => ?_)
 ·have e7' : nx (s.drop i) 0 = 58 := by simp at e7; omega
  refine zt (wm (zt ?_))
  refine bOm (iA (by assumption) hs (by omega) 1 (by omega)) ?_
  rintro _ _ ⟨rfl, rfl⟩
  rw [iF]
  refine zt ?_
  refine bOr (fun e8 => ?_) (fun e8 => ?_)
  ·have e8' : nx (s.drop i) 1 = 61 := by simp at e8; omega
   rw [if_pos ⟨e7', e8'⟩] at hm
   cases hm
   refine ap (yt (wn (wf ?_))); refine wq ?_
   refine bOw ?_
   rw [tP 2 (by omega)]
   refine wn (wf ?_); refine wv fun _ _ => ?_; refine wf ?_; refine wu fun _ _ => ?_
   unfold eK
   refine ws ?_; refine wt fun _ _ => ?_; refine ws ?_
   exact bOo ⟨rfl, I, ILe.refl _, dp⟩
  ·have e8' : ¬ nx (s.drop i) 1 = 61 := by simp at e8; omega
   refine ap (yj ?_)
   refine bOr (fun e9 => ?_) (fun e9 => absurd e7 e9)
   refine zt (wm (zt ?_))
   refine bOm (iA (by assumption) hs (by omega) 1 (by omega)) ?_
   rintro _ _ ⟨rfl, rfl⟩
   rw [iF]
   refine zt ?_
   refine bOm (jF _ _) ?_
   rintro _ _ ⟨rfl, rfl⟩
   cases e10 : bF (nx (s.drop i) 1) with
   | true =>
    rw [if_neg (fun q => e8' q.2), if_pos ⟨e7', e10⟩] at hm
    cases hm
    refine ap (yt (wn (wf ?_))); refine wq ?_
    refine bOw ?_
    rw [tP 1 (by omega)]
    refine wn (wf ?_); refine wv fun _ _ => ?_; refine wf ?_; refine wu fun _ _ => ?_
    refine bOm (aHa (by assumption) hs hb (by omega)) ?_
    rintro _ _ ⟨rfl, S1⟩
    have hdd : s.drop (i + 1) = (s.drop i).drop 1 := by rw [List.drop_drop]
    rw [hdd] at S1 ⊢
    refine wx ?_; refine wx ?_; refine wf ?_; refine wu fun _ _ => ?_
    unfold eK
    refine ws ?_; refine wt fun _ _ => ?_; refine ws ?_
    refine bOo ⟨rfl, I, ILe.refl _, ?_⟩
    rw [show i + ((aI ((s.drop i).drop 1)).2.2 + 1) = i + 1 + (aI ((s.drop i).drop 1)).2.2 by omega]
    exact dp
   | false =>
    have F := fin (fun q => e8' q.2) (fun q => by rw [e10] at q; exact absurd q.2 (by simp)) _ _ _ S0
    refine ap (yj ?_)
    exact F
 ·have e7' : ¬ nx (s.drop i) 0 = 58 := by simp at e7; omega
  refine yf (yf (yf (aq (yj ?_))))
  refine bOr (fun e9 => absurd e9 e7) (fun e9 => ?_)
  have F := fin (fun q => e7' q.1) (fun q => e7' q.1) _ _ _ S0
  refine yf (yf (yf (aq (yj ?_))))
  exact F
end
theorem kM (c : Nat) : ∀ (l : List Nat) (i : Nat), ¬ cO c l i < 0 → ∃ k : Nat, k < l.length ∧ cO c l i = ((i + k : Nat) : Int)
 | [], i, h => absurd (by show Int.negSucc 0 < 0; decide) h
 | x :: l, i, h => by
  unfold cO at h ⊢
  cases e : Nat.beq x c with
  | true => exact ⟨0, by simp, by simp⟩
  | false =>
   rw [e] at h
   obtain ⟨k, h1, h2⟩ := kM c l (i + 1) h
   refine ⟨k + 1, by simpa using h1, ?_⟩
   simp only [cond_false, h2]
   omega
theorem aHx {I : Im} {B A Q L : Ls} {h : Hp} {x : DV} {l : List Tok} (G : Gr I 4 B x l.length (l.map tc).flatten) {t : Tok} {b : Pos} (S : Sy I (B ++ A) Q L h) (m : (b, some (.row .ex (tc t))) ∈ L) (hl : l.length + 1 ≤ cA) :
 ∃ x' h' B', bN 4 40 x (.l b 0 1 1) h = some (x', h') ∧ Sy I (B' ++ A) Q L h' ∧ Gr I 4 B' x' (l ++ [t]).length ((l ++ [t]).map tc).flatten := by
 have hr : (l.length + 1) * 40 ≤ gA := by simp [gA, cA] at hl ⊢; omega
 obtain ⟨x4, h4, B4, e4, S4, G4⟩ := G.app S (nI S (n := 1) m rfl (dK t)) rfl (dK t) (by omega) hr
 exact ⟨x4, h4, B4, e4, S4, by simpa using G4⟩
theorem bAj (t : Tok) : cJ [(.i .i64 (Int.ofNat 0)), (.s []), (.i .i64 (Int.ofNat 0)), (.i .i64 (Int.ofNat 0))] [(0, 4, .a (tc t))] = some (tc t) := by
 simp [cJ, cD, tc]
def bAu (I : Im) (A Q L : Ls) (res : List Tok × Int × Int) (v : DV) (h : Hp) : Prop :=
 ∃ J x, v = .t [x, .i .i64 res.2.1, .i .i64 res.2.2] ∧ ILe I J ∧ Sy J A Q L h ∧ TS' J x res.1
theorem TS'.nil (I : Im) : TS' I .l0 [] := ⟨by simp, .inl ⟨.inl rfl, rfl, rfl⟩⟩
theorem aJd {A L : Ls} {s : List Nat} (hs : s.length ≤ cA) (hb : ∀ c ∈ s, c < 256) (g : Nat) {r : Pos} : ∀ (f j i : Nat) (I : Im) (B : Ls) (h : Hp) (x : DV) (out : List Tok) (res : List Tok × Int × Int), Sy I (B ++ A) [RS r s i] L h → Gr I 4 B x out.length (out.map tc).flatten →
 i ≤ s.length → out.length + f ≤ cA → hU g s f i out = some res →
 Ev (fun n => mI (aL n) n (n - j) (.s s) (.p r 0) x h) (bAu I A [] L res) := by
 intro f
 induction f with
 | zero => intro j i I B h x out res S G hi hl hm; cases hm
 | succ f ih =>
  intro j i I B h x out res S G hi hl hm
  unfold hU at hm
  refine bOv j (ll := fun n m => mI (aL n) n m (.s s) (.p r 0) x h) (bb := fun n m => wI (aL n) n (mI (aL n) n m) (.s s) (.p r 0) x h) (fun _ _ => rfl) ?_
  unfold wI
  refine bOm (uH S bS) ?_
  rintro cl h1 ⟨J, gJ, S1, C1⟩
  refine bPn ?_
  refine bOm (mS C1 S1 hs hb hi s.length hs) ?_
  rintro _ h2 ⟨rfl, S2⟩
  have e0 : bH (cU bS) s.length (s.drop i) = ((s.drop i).takeWhile (cU bS)).length := nG _ _ _ (by simp)
  rw [e0] at S2
  have hle := mZ (cU bS) (s.drop i)
  have hdl : (s.drop i).length = s.length - i := by simp
  generalize hw : ((s.drop i).takeWhile (cU bS)).length = w at hm S2 hle
  have hi2 : i + w ≤ s.length := by omega
  generalize hi3 : i + w = i' at hm S2 hi2
  have hdrop : ∀ {K : Im} {e : Pos × Option Ob} {M : Ls} {h'' : Hp}, Sy K A [e] M h'' → Sy K A [] M h'' := fun S => Sy.dropL (bSi (Q := []) S)
  have hs' := hs
  simp only [cA] at hs'
  refine wn (wf ?_); refine wq ?_
  refine bPn ?_
  refine bPy (fun e1 => ?_) (fun e1 => ?_)
  ·have e1' : s.length ≤ i' := by omega
   rw [if_pos e1'] at hm
   cases hm
   refine yt ?_
   unfold gH
   refine bPn ?_
   refine wd ?_
   refine bPl S2 (bAj ⟨0, [], 0, (s.length : Int)⟩) ?_
   intro b3 h3 S3
   obtain ⟨x4, h4, B4, e4, S4, G4⟩ := aHx (G.mono gJ) S3 (fO) (by omega)
   refine Ev.op e4 ?_
   obtain ⟨K, gK, S5, F5⟩ := G4.freeze S4
   exact bOo ⟨K, x4, rfl, gJ.trans gK, hdrop S5.dropL, by simp; omega, F5⟩
  ·have e1' : i' < s.length := by omega
   rw [if_neg (by omega)] at hm
   refine yj (wn (wf ?_)); refine wq ?_
   refine Ev.op (bDv (c := s[i']) (by simp [e1']) _) ?_
   have hnx : nx s i' = s[i'] := by simp [nx, List.getD, e1']
   refine bOr (fun e2 => ?_) (fun e2 => ?_)
   ·have e2' : nx s i' = 34 := by rw [hnx]; simp at e2; omega
    rw [if_pos e2'] at hm
    refine yt (wn (wf ?_)); refine wq ?_
    refine bOw ?_
    rw [tP 1 (by omega)]
    refine Ev.op (bMx (by omega) _) ?_
    refine bOm (rH _ 34 (by omega) _) ?_
    rintro _ _ ⟨rfl, rfl⟩
    refine bPr (fun e3 => ?_) (fun e3 => ?_)
    ·rw [if_pos (show cO 34 (s.drop (i' + 1)) 0 < 0 from e3)] at hm
     cases hm
     refine yt (wn (wf ?_)); refine wq ?_
     obtain ⟨K, gK, S5, F5⟩ := (G.mono gJ).freeze S2
     exact bOo ⟨K, .l0, rfl, gJ.trans gK, hdrop S5, TS'.nil K⟩
    ·have e3' : ¬ cO 34 (s.drop (i' + 1)) 0 < 0 := e3
     rw [if_neg e3'] at hm
     obtain ⟨k, hk1, hk2⟩ := kM 34 _ _ e3'
     rw [hk2] at hm ⊢
     have hk3 : k < s.length - (i' + 1) := by simpa using hk1
     simp only [Nat.zero_add, Int.toNat_natCast] at hm
     refine yj (wn (wf ?_)); refine wq ?_
     refine bOw ?_
     rw [Nat.zero_add, tP 2 (by omega)]
     refine bOw ?_
     rw [show (i' : Int) + ((k + 2 : Nat) : Int) = ((i' + k + 2 : Nat) : Int) by omega, uT _ (by omega)]
     refine wn (wf ?_); refine wv fun _ _ => ?_
     refine (ih (j + 1) (i' + k + 2) J B _ x out res (by assumption) (G.mono gJ) (by omega) (by omega) hm).mono ?_
     rintro v h' ⟨K, y, a1, a2, a3⟩
     exact ⟨K, y, a1, gJ.trans a2, a3⟩
   ·have e2' : ¬ nx s i' = 34 := by rw [hnx]; simp at e2; omega
    rw [if_neg e2'] at hm
    obtain ⟨rs, hr, hm⟩ := bD hm
    refine yj ?_
    refine bOm (bGr S2 hs hb e1' g rs hr) ?_
    rintro _ h3 ⟨rfl, K, gK, S3⟩
    refine wx ?_; refine wx ?_; refine wa fun _ _ _ => ?_; refine wt fun _ _ => ?_
    refine bPq (fun e3 => ?_) (fun e3 => ?_)
    ·rw [if_neg (show ¬ rs.2.2.2.1 = 0 from e3)] at hm
     cases hm
     refine yt (wf ?_); refine wl ?_
     obtain ⟨M, gM, S5, F5⟩ := ((G.mono gJ).mono gK).freeze (by assumption)
     exact bOo ⟨M, .l0, rfl, (gJ.trans gK).trans gM, hdrop S5.dropL, TS'.nil M⟩
    ·rw [if_pos (show rs.2.2.2.1 = 0 from e3)] at hm
     split at hm
     ·cases hm
     ·rename_i hfit
      refine yj ?_; refine ws ?_
      refine bPl (by assumption) (bAj ⟨rs.1, rs.2.1, rs.2.2.1, (i' : Int)⟩) ?_
      intro b4 h4 S4
      obtain ⟨x5, h5, B5, e5, S5, G5⟩ := aHx ((G.mono gJ).mono gK) S4 (fO) (by omega)
      refine Ev.op e5 ?_
      refine (ih (j + 1) (i' + rs.2.2.2.2) K B5 h5 x5 _ res S5.dropL.dropL G5 (by simp at hfit; omega) (by simp; omega) hm).mono ?_
      rintro v h' ⟨M, y, a1, a2, a3⟩
      exact ⟨M, y, a1, (gJ.trans gK).trans a2, a3⟩
theorem bDo {I : Im} {A L : Ls} {h : Hp} (S : Sy I A [] L h) {s : List Nat} (hs : s.length ≤ cA) (hb : ∀ c ∈ s, c < 256) (g f : Nat) (hf : f ≤ cA) (res : List Tok × Int × Int) (hm : nM g f s = some res) :
 Ev (fun n => aL n 48 [.s s] h) (bAu I A [] L res) := by
 unfold nM at hm
 refine Ev.enter (fun n => aVj n _ h) ?_
 unfold s48 aGg
 refine bPn ?_
 refine bQj (fun e1 => ?_) (fun e1 => ?_)
 ·rw [if_pos (show 2000 < s.length by simp at e1; omega)] at hm
  cases hm
  refine yt ?_
  exact bOo ⟨I, .l0, rfl, ILe.refl _, S, TS'.nil I⟩
 ·rw [if_neg (show ¬ 2000 < s.length by simp at e1; omega)] at hm
  refine yj ?_
  unfold aGd aHm aHw aGc aNl
  refine wd ?_; refine wb fun _ _ _ => ?_
  rename_i r h1 S1
  exact aJd hs hb g f 0 0 I [] _ .l0 [] res (bSh S1) (Gr.nil I 4) (by omega) (by simpa using hf) hm
end Go.Dd

namespace Go.Dd
open Go.Proofs
def pI : PF := fun st => some (.mk 11 [100, 111, 73, 116] 0 [] [] [], st)
def Node.with (x : Node) (ts : List (List Nat)) (ks : List Node) : Node := match x with
 | .mk k t m ns _ _ => .mk k t m ns ts ks
def iW (H : PF) (f : Nat) (lx : List Tok × Int × Int) : Option (Node × Int × Int) :=
 if lx.2.2 = 0 then (H ⟨lx.1, 0, 0, 0⟩).bind fun a => (hO f a.2).bind fun b => (dD (dU f) f [] b.2).bind fun c => (dZ c.2 0 []).bind fun d =>
  if d.2.err = 0 then some (a.1.with b.1 c.1, 0, 0) else some (zN, d.2.pos, d.2.err)
 else some (zN, lx.2.1, lx.2.2)
theorem aUe (n : Nat) (x : DV) (h : Hp) : aL (n + 1) 27 [x] h = s27 (aL n) n x h := by kernel_rfl
theorem bAb (n : Nat) (x y : DV) (h : Hp) : aL (n + 1) 26 [x, y] h = s26 (aL n) n x y h := by kernel_rfl
theorem bAa (n : Nat) (x : DV) (h : Hp) : aL (n + 1) 14 [x] h = s14 (aL n) n x h := by kernel_rfl
theorem bGy (rec : FuncId → List DV → Hp → aG) (x : DV) (h : Hp) : dP CF rec (.f 27 [] []) [x] h = rec 27 [x] h := by kernel_rfl
theorem aXg : nJ 27 pI := by
 intro I A L h p s st x st' S T hm
 cases hm
 refine Ev.enter (fun n => aUe n _ h) ?_
 unfold s27
 refine wa fun _ _ _ => ?_; refine wd ?_; refine wt fun _ _ => ?_; refine ws ?_
 exact bOo ⟨I, s, _, rfl, ILe.refl _, dp, T, NV.flat _ _ _⟩
def bBj (I : Im) (A L : Ls) (res : Node × Int × Int) (v : DV) (h : Hp) : Prop :=
 ∃ J cs, v = .t [.a cs, .i .i64 res.2.1, .i .i64 res.2.2] ∧ ILe I J ∧ Sy J A [] L h ∧ NV J res.1 cs
theorem aYr {I : Im} {A L : Ls} {h : Hp} {gh : FuncId} {H : PF} (hg : ∀ (rec : FuncId → List DV → Hp → aG) (x : DV) (h : Hp), dP CF rec (.f gh [] []) [x] h = rec gh [x] h) (HH : nJ gh H) (S : Sy I A [] L h) {s : List Nat} (hs : s.length ≤ cA) (hb : ∀ c ∈ s, c < 256) (g fl f : Nat) (hfl : fl ≤ cA) (hf : f + 2 ≤ cA)
 (lx : List Tok × Int × Int) (hl : nM g fl s = some lx) (res : Node × Int × Int) (hm : iW H f lx = some res) :
 Ev (fun n => aL n 26 [.s s, .f gh [] []] h) (bBj I A L res) := by
 refine Ev.enter (fun n => bAb n _ _ h) ?_
 unfold s26
 simp only [hg]
 unfold iW at hm
 refine wa fun _ _ _ => ?_
 refine bOm (bDo (by assumption) hs hb g fl hfl lx hl) ?_
 rintro _ h1 ⟨J, x1, rfl, g1, S1, T1⟩
 have o1 := T1.2.one
 refine wx ?_; refine wx ?_; refine wx ?_
 refine bPq (fun e1 => ?_) (fun e1 => ?_)
 ·rw [if_neg (show ¬ lx.2.2 = 0 from e1)] at hm
  cases hm
  refine yt ?_; refine wd ?_; refine wt fun _ _ => ?_; refine ws ?_
  exact bOo ⟨J, _, rfl, g1, dp, NV.flat _ _ _⟩
 ·rw [if_pos (show lx.2.2 = 0 from e1)] at hm
  obtain ⟨⟨y, st1⟩, hy, hm⟩ := bD hm
  obtain ⟨⟨ts, st2⟩, h2, hm⟩ := bD hm
  obtain ⟨⟨ks, st3⟩, h3, hm⟩ := bD hm
  obtain ⟨⟨t, st4⟩, h4, hm⟩ := bD hm
  refine yj ?_; refine wd ?_; refine wb fun _ _ _ => ?_
  rename_i p hp Sp
  refine bOm (HH _ _ _ _ p x1 ⟨lx.1, 0, 0, 0⟩ _ _ (bSh Sp) T1 hy) ?_
  rintro _ _ ⟨K, s2, cs, rfl, g2, S2, T2, N2⟩
  obtain ⟨k, tt, mm, ns, ts0, ks0⟩ := y
  obtain ⟨d1, d2, d3, rfl, a1, a2, a3, cells, F, NL⟩ := N2
  have q1 := a1.2.one
  have q2 := a2.2.one
  have q3 := F.one
  refine wa fun _ _ _ => ?_; refine wt fun _ _ => ?_
  refine bOm (aBy f (by omega) (by assumption) T2 h2) ?_
  rintro v3 _ ⟨M, s3, g3, S3, T3, N3⟩
  have q4 := N3.2.one
  refine wf ?_; refine wu fun _ _ => ?_
  refine bOm (zL (rL f hf) f (by omega) (by assumption) T3 h3) ?_
  rintro v4 _ ⟨O, s4, g4, S4, T4, N4⟩
  have q5 := N4.one
  refine wf ?_; refine wu fun _ _ => ?_
  refine bOm (lK (by assumption) T4 h4) ?_
  rintro _ _ ⟨rfl, s5, S5, T5⟩
  have q6 := T5.2.one
  have hdrop : ∀ {K : Im} {e : Pos × Option Ob} {M : Ls} {h'' : Hp}, Sy K A [e] M h'' → Sy K A [] M h'' := fun S => Sy.dropL (bSi (Q := []) S)
  refine wn (wf ?_); refine wq ?_
  refine bPq (fun e2 => ?_) (fun e2 => ?_)
  ·rw [if_neg (show ¬ st4.err = 0 from e2)] at hm
   cases hm
   refine yt ?_; refine wd ?_; refine wn (wf ?_); refine wq ?_; refine wn (wf ?_); refine wq ?_; refine wt fun _ _ => ?_
   refine bPg ?_ ?_
   ·rename_i hq Sq
    rw [ld1 (Sq.memQ (fO)) rfl rfl, ld1 (Sq.memQ (fO)) rfl rfl]
    simp [cB, DV.beq]
   refine ws ?_
   exact bOo ⟨O, _, rfl, ((g1.trans g2).trans g3).trans g4, hdrop (dp), NV.flat _ _ _⟩
  ·rw [if_pos (show st4.err = 0 from e2)] at hm
   cases hm
   refine yj ?_; refine ws ?_; refine wt fun _ _ => ?_; refine ws ?_
   refine bOo ⟨O, _, rfl, ((g1.trans g2).trans g3).trans g4, hdrop (dp), ?_⟩
   exact NV.of ((a1.mono g3).mono g4) (N3.mono g4) N4
theorem wV {I : Im} {A L : Ls} {h : Hp} (S : Sy I A [] L h) {s : List Nat} (hs : s.length ≤ cA) (hb : ∀ c ∈ s, c < 256) (g fl f : Nat) (hfl : fl ≤ cA) (hf : f + 2 ≤ cA)
 (lx : List Tok × Int × Int) (hl : nM g fl s = some lx) (res : Node × Int × Int) (hm : iW pI f lx = some res) :
 Ev (fun n => aL n 14 [.s s] h) (bBj I A L res) := by
 refine Ev.enter (fun n => bAa n _ h) ?_
 unfold s14
 refine wa fun _ _ _ => ?_
 refine bOm (aYr bGy aXg (by assumption) hs hb g fl f hfl hf lx hl res hm) ?_
 rintro _ h1 ⟨J, cs, rfl, g1, S1, N1⟩
 obtain ⟨l1, o1, b1⟩ := N1.shape
 refine wx ?_; refine wx ?_; refine wx ?_; refine wt fun _ _ => ?_; refine ws ?_
 exact bOo ⟨J, cs, rfl, g1, dp, N1⟩
end Go.Dd

namespace Go.Dd
def Good (l : List Tok) : Prop := ∃ a e, l = a ++ [e] ∧ e.kind = 0 ∧ (∀ t ∈ a, t.kind ≠ 0) ∧ ∀ t ∈ a ++ [e], t.text.length ≤ 10000
def T1 (t : Tok) : Nat := if t.kind = 1 ∨ t.kind = 4 ∨ t.kind = 5 ∨ t.kind = 6 ∨ t.kind = 8 then 1 else 0
def T2 (t : Tok) : Nat := if t.kind = 1 ∨ t.kind = 4 ∨ t.kind = 5 ∨ t.kind = 6 ∨ t.kind = 8 ∨ t.kind = 2 ∨ t.kind = 3 then 1 else 0
def oX (l : List Tok) : Nat := (l.map T1).sum
def gY (l : List Tok) : Nat := (l.map T2).sum
mutual
def fA : Node → Nat
 | .mk k _ _ ns ts ks => (if k ≠ 9 ∧ k ≠ 8 ∧ k ≠ 10 ∧ k ≠ 11 ∧ k ≠ 4 then 1 else 0) + ns.length + ts.length + eM ks
def eM : List Node → Nat
 | [] => 0
 | x :: l => fA x + eM l
end
theorem eZ : ∀ (a b : List Node), eM (a ++ b) = eM a + eM b
 | [], b => by simp [eM]
 | x :: a, b => by simp [eM, eZ a b]; omega
theorem Good.head {l : List Tok} (h : Good l) : ∃ t r, l = t :: r ∧ (t.kind = 0 → r = []) ∧ (t.kind ≠ 0 → Good r ∧ 1 ≤ r.length) := by
 obtain ⟨a, e, rfl, he, ha, hb⟩ := h
 cases a with
 | nil => exact ⟨e, [], rfl, fun _ => rfl, fun h => absurd he h⟩
 | cons t a =>
  refine ⟨t, a ++ [e], rfl, fun h => absurd h (ha t (by simp)), fun _ => ⟨⟨a, e, rfl, he, fun u hu => ha u (by simp [hu]), fun u hu => hb u (by simp at hu ⊢; exact .inr hu)⟩, by simp⟩⟩
theorem Good.text {l : List Tok} (h : Good l) {t : Tok} {r : List Tok} (e : l = t :: r) : t.text.length ≤ 10000 := by
 obtain ⟨a, e', rfl, he, ha, hb⟩ := h
 exact hb t (by rw [e]; simp)
structure Stp (a b : PSt) (k : Nat) : Prop where
 good : Good b.toks
 err : a.err ≠ 0 → b.err ≠ 0
 run : ∃ c, a.toks = c ++ b.toks ∧ (b.err = 0 → oX c ≤ k ∧ k ≤ gY c)
theorem Stp.ok {a b : PSt} {k : Nat} (h : Stp a b k) (e : b.err = 0) : a.err = 0 := Decidable.byContradiction fun n => h.err n e
theorem Stp.refl {a : PSt} (h : Good a.toks) : Stp a a 0 := ⟨h, id, [], rfl, fun _ => by simp [oX, gY]⟩
theorem Stp.trans {a b c : PSt} {j k : Nat} (h : Stp a b j) (g : Stp b c k) : Stp a c (j + k) := by
 obtain ⟨x, hx, h1⟩ := h.run
 obtain ⟨y, hy, h2⟩ := g.run
 refine ⟨g.good, fun e => g.err (h.err e), x ++ y, by rw [hx, hy, List.append_assoc], fun e => ?_⟩
 have e' := g.ok e
 obtain ⟨a1, a2⟩ := h1 e'
 obtain ⟨b1, b2⟩ := h2 e
 simp only [oX, gY, List.map_append, List.sum_append] at *
 omega
theorem Stp.any {a b : PSt} {j : Nat} (h : Stp a b j) (e : b.err ≠ 0) (k : Nat) : Stp a b k := ⟨h.good, h.err, by
 obtain ⟨x, hx, h1⟩ := h.run
 exact ⟨x, hx, fun e' => absurd e' e⟩⟩
theorem Stp.cast {a b : PSt} {j k : Nat} (h : Stp a b j) (e : b.err = 0 → j = k) : Stp a b k := by
 by_cases hb : b.err = 0
 ·rw [← e hb]; exact h
 ·exact h.any hb k
theorem Stp.len {a b : PSt} {k : Nat} (h : Stp a b k) : b.toks.length ≤ a.toks.length := by
 obtain ⟨x, hx, _⟩ := h.run
 rw [hx]; simp
theorem Stp.same {a b : PSt} (h : Good b.toks) (e1 : b.toks = a.toks) (e2 : b.err = a.err) : Stp a b 0 := ⟨h, fun e => by rw [e2]; exact e, [], by simp [e1], fun _ => by simp [oX, gY]⟩
theorem eL {st : PSt} (h : Good st.toks) : ∃ t r, st.toks = t :: r ∧ aX st 0 = some t ∧ (t.kind = 0 → r = []) ∧ (t.kind ≠ 0 → Good r ∧ 1 ≤ r.length) := by
 obtain ⟨t, r, e, h1, h2⟩ := h.head
 exact ⟨t, r, e, by simp [aX, e], h1, h2⟩
theorem bAe {st : PSt} (h : Good st.toks) : ∃ t, aX st 1 = some t := by
 obtain ⟨t, r, e, h1, h2⟩ := h.head
 unfold aX
 have : min 1 (st.toks.length - 1) < st.toks.length := by rw [e]; simp; omega
 exact ⟨st.toks[min 1 (st.toks.length - 1)], by simp [this]⟩
def nS (st : PSt) (t : Tok) (kind : Int) (text : List Nat) : Bool := decide (st.err = 0) && decide (t.kind = kind) && (decide (text = []) || decide (t.text = text))
theorem pF {st : PSt} {t : Tok} (h : aX st 0 = some t) (kind : Int) (text : List Nat) : dQ st kind text = some (nS st t kind text) := by
 unfold dQ; rw [h]; rfl
theorem dN {st : PSt} {t : Tok} {kind : Int} {text : List Nat} (h : nS st t kind text = true) : st.err = 0 ∧ t.kind = kind := by
 simp [nS] at h
 exact h.1
theorem bAi {st : PSt} (h : Good st.toks) {t : Tok} {r : List Tok} (e : st.toks = t :: r) (hk : t.kind ≠ 0) : aT st = some (t, { st with toks := r }) ∧ Good r := by
 obtain ⟨t', r', e', h1, h2⟩ := h.head
 rw [e] at e'
 cases e'
 obtain ⟨g1, g2⟩ := h2 hk
 refine ⟨?_, g1⟩
 unfold aT
 have : aX st 0 = some t := by simp [aX, e]
 simp only [this, Option.bind_some, if_neg hk]
 rw [if_pos (by rw [e]; simp; omega), e]
 rfl
theorem aOj {st : PSt} (h : Good st.toks) {t : Tok} {r : List Tok} (e : st.toks = t :: r) (hk : t.kind = 0) : aT st = some (t, st) := by
 unfold aT
 have : aX st 0 = some t := by simp [aX, e]
 simp [this, hk]
theorem eS {st : PSt} (h : Good st.toks) {t : Tok} (ht : aX st 0 = some t) (hk : t.kind ≠ 0) : ∃ st', aT st = some (t, st') ∧ st'.err = st.err ∧ st'.deep = st.deep ∧ st'.pos = st.pos ∧ st'.toks.length + 1 = st.toks.length ∧ Good st'.toks ∧ st.toks = t :: st'.toks ∧ ∀ k, T1 t ≤ k → k ≤ T2 t → Stp st st' k := by
 obtain ⟨t', r, e, h1, _, _⟩ := eL h
 rw [h1] at ht
 cases ht
 obtain ⟨a1, a2⟩ := bAi h e hk
 refine ⟨_, a1, rfl, rfl, rfl, by rw [e]; simp, a2, e, fun k k1 k2 => ⟨a2, id, [t], by simp [e], fun _ => by simp [oX, gY]; omega⟩⟩
theorem bBt {st : PSt} (h : Good st.toks) : ∃ t st', aT st = some (t, st') ∧ st'.err = st.err ∧ Good st'.toks ∧ ∃ c, st.toks = c ++ st'.toks ∧ (c = [] ∨ c = [t]) := by
 obtain ⟨t, r, e, h1, h2, h3⟩ := eL h
 by_cases hk : t.kind = 0
 ·exact ⟨t, st, aOj h e hk, rfl, h, [], rfl, .inl rfl⟩
 ·obtain ⟨a1, a2⟩ := bAi h e hk
  exact ⟨t, _, a1, rfl, a2, [t], by simp [e], .inr rfl⟩
theorem pH {st : PSt} (h : Good st.toks) (t : Tok) (e : Int) (he : e ≠ 0) (k : Nat) : Stp st (cP st t e) k ∧ (cP st t e).err ≠ 0 := by
 have : (cP st t e).err ≠ 0 := by
  unfold cP
  split
  ·exact he
  ·rename_i h; exact h
 refine ⟨⟨by rw [cX]; exact h, fun _ => this, [], by rw [cX]; simp, fun e' => absurd e' this⟩, this⟩
theorem vA {st : PSt} (h : Good st.toks) (kd : Int) (tx : List Nat) (k : Nat) (hk : kd ≠ 0 → ∀ t : Tok, t.kind = kd → T1 t ≤ k ∧ k ≤ T2 t) (h0 : kd = 0 → k = 0) :
 ∃ t st', dZ st kd tx = some (t, st') ∧ Stp st st' k ∧ (st'.err = 0 → st.err = 0 ∧ t.kind = kd) := by
 obtain ⟨t, r, e, h1, h2, h3⟩ := eL h
 unfold dZ
 rw [pF h1]
 simp only [Option.bind_some]
 cases hc : nS st t kd tx with
 | true =>
  obtain ⟨c1, c2⟩ := dN hc
  by_cases hz : t.kind = 0
  ·refine ⟨t, st, by simp [aOj h e hz], ?_, fun _ => ⟨c1, c2⟩⟩
   rw [h0 (by rw [← c2]; exact hz)]
   exact Stp.refl h
  ·obtain ⟨st', a1, a2, a3, a4, a5, a6, a7, a8⟩ := eS h h1 hz
   obtain ⟨k1, k2⟩ := hk (by rw [← c2]; exact hz) t c2
   exact ⟨t, st', by simp [a1], a8 k k1 k2, fun _ => ⟨c1, c2⟩⟩
 | false =>
  obtain ⟨f1, f2⟩ := pH h t 13 (by decide) k
  exact ⟨z4, _, by simp [h1], f1, fun e => absurd e f2⟩
theorem tIn {j : Int} {k : Nat} (h : (j = 1 ∨ j = 4 ∨ j = 5 ∨ j = 6 ∨ j = 8) ∧ k = 1 ∨ (j = 2 ∨ j = 3) ∧ k ≤ 1 ∨ (j = 7 ∨ j = 9 ∨ j = 10) ∧ k = 0) : ∀ t : Tok, t.kind = j → T1 t ≤ k ∧ k ≤ T2 t := by
 intro t ht
 unfold T1 T2
 rw [ht]
 rcases h with ⟨rfl | rfl | rfl | rfl | rfl, rfl⟩ | ⟨rfl | rfl, hk⟩ | ⟨rfl | rfl | rfl, rfl⟩ <;> simp <;> omega
theorem bKx {st : PSt} (h : Good st.toks) (kd : Int) (hk : kd = 1 ∨ kd = 8) (len : Nat) : ∃ t st', nC st kd len = some (t, st') ∧ Stp st st' 1 ∧ st'.toks.length ≤ st.toks.length := by
 obtain ⟨t, st1, h1, h2, h3⟩ := vA h kd [] 1 (fun _ => tIn (by rcases hk with rfl | rfl <;> simp)) (by rcases hk with rfl | rfl <;> simp)
 unfold nC
 rw [h1]
 simp only [Option.bind_some]
 by_cases hl : len = 4
 ·obtain ⟨f1, f2⟩ := pH h2.good t 18 (by decide) 0
  refine ⟨_, _, rfl, ?_, ?_⟩
  ·simp only [hl, if_true]; exact h2.trans f1
  ·simp only [hl, if_true, cX]; exact h2.len
 ·refine ⟨_, _, rfl, ?_, ?_⟩
  ·simp only [hl, if_false]; exact h2
  ·simp only [hl, if_false]; exact h2.len
theorem bMy {st : PSt} (h : Good st.toks) : ∃ c, oK st = some c ∧ (c = true → st.err = 0 ∧ ∃ t u r, st.toks = t :: u :: r ∧ t.kind = 3 ∧ u.kind = 4) := by
 obtain ⟨t, r, e, h1, h2, h3⟩ := eL h
 obtain ⟨u, hu⟩ := bAe h
 unfold oK
 rw [hu, pF h1, h1]
 refine ⟨_, rfl, fun hc => ?_⟩
 simp at hc
 obtain ⟨⟨c1, c2⟩, _⟩ := hc
 obtain ⟨d1, d2⟩ := dN c1
 refine ⟨d1, t, u, r.drop 1, ?_, d2, c2⟩
 obtain ⟨_, hl⟩ := h3 (by rw [d2]; decide)
 cases r with
 | nil => simp at hl
 | cons v r =>
  have : u = v := by
   unfold aX at hu
   rw [e] at hu
   simp at hu
   exact hu.symm
  rw [e, this]; rfl
theorem aDn {st : PSt} (h : Good st.toks) : ∃ x c st', dO st = some ((x, c), st') ∧ (c = true → Stp st st' (fA x) ∧ st'.toks.length < st.toks.length ∧ st.err = 0 ∧ st'.err = 0) ∧ (c = false → st' = st) ∧ x.kind ≠ 7 := by
 obtain ⟨t, r, e, h1, h2, h3⟩ := eL h
 unfold dO
 rw [h1]
 simp only [Option.bind_some]
 by_cases he : st.err = 0
 ·rw [if_pos he]
  obtain ⟨c, hc, hc2⟩ := bMy h
  rw [hc]
  simp only [Option.bind_some]
  cases c with
  | true =>
   obtain ⟨_, t', u, r', e', k1, k2⟩ := hc2 rfl
   have ht' : t = t' := by rw [e] at e'; exact (List.cons.inj e').1
   subst ht'
   obtain ⟨s1, a1, a2, a3, a4, a5, a6, a7, a8⟩ := eS h h1 (by rw [k1]; decide)
   have hr : s1.toks = u :: r' := by
    rw [a7] at e'; exact (List.cons.inj e').2
   have hl : aX s1 0 = some u := by simp [aX, hr]
   obtain ⟨s2, b1, b2, b3, b4, b5, b6, b7, b8⟩ := eS a6 hl (by rw [k2]; decide)
   simp only [if_true, a1, Option.bind_some, b1]
   refine ⟨_, _, _, rfl, fun _ => ⟨?_, by show s2.toks.length < _; omega, he, by show s2.err = 0; rw [b2, a2]; exact he⟩, (fun h => by cases h), ?_⟩
   rotate_left
   ·show (1 : Int) ≠ 7
    decide
   have S1 := a8 0 (by simp [T1, k1]) (by simp)
   have S2 := b8 1 (by simp [T1, k2]) (by simp [T2, k2])
   have : fA (.mk 1 [] (jB (0 - u.num)) [] [] []) = 0 + 1 := by simp [fA, eM]
   rw [this]
   exact S1.trans S2
  | false =>
   simp only [Bool.false_eq_true, if_false]
   have one : ∀ (j : Int) (kk : Int), (j = 4 ∨ j = 5 ∨ j = 6) → (kk ≠ 9 ∧ kk ≠ 8 ∧ kk ≠ 10 ∧ kk ≠ 11 ∧ kk ≠ 4) ∧ kk ≠ 7 → t.kind = j →
    ∃ x c st', ((aT st).bind fun r => some ((Node.mk kk t.text t.num [] [] [], true), r.2)) = some ((x, c), st') ∧ (c = true → Stp st st' (fA x) ∧ st'.toks.length < st.toks.length ∧ st.err = 0 ∧ st'.err = 0) ∧ (c = false → st' = st) ∧ x.kind ≠ 7 := by
    intro j kk hj hkk ht
    obtain ⟨s1, a1, a2, a3, a4, a5, a6, a7, a8⟩ := eS h h1 (by rw [ht]; omega)
    rw [a1]
    refine ⟨_, _, _, rfl, fun _ => ⟨?_, by show s1.toks.length < _; omega, he, by show s1.err = 0; rw [a2]; exact he⟩, (fun h => by cases h), ?_⟩
    rotate_left
    ·exact hkk.2
    have : fA (.mk kk t.text t.num [] [] []) = 1 := by simp [fA, eM]; omega
    rw [this]
    exact a8 1 (by simp [T1]; split <;> omega) (by simp [T2]; rcases hj with rfl | rfl | rfl <;> simp [ht])
   by_cases h4 : t.kind = 4
   ·rw [if_pos h4]; exact one 4 1 (by simp) (by decide) h4
   ·rw [if_neg h4]
    by_cases h5 : t.kind = 5
    ·rw [if_pos h5]; exact one 5 2 (by simp) (by decide) h5
    ·rw [if_neg h5]
     by_cases h6 : t.kind = 6
     ·rw [if_pos h6]; exact one 6 3 (by simp) (by decide) h6
     ·rw [if_neg h6]
      exact ⟨_, _, _, rfl, (fun h => by cases h), fun _ => rfl, by show (0 : Int) ≠ 7; decide⟩
 ·rw [if_neg he]
  exact ⟨_, _, _, rfl, (fun h => by cases h), fun _ => rfl, by show (0 : Int) ≠ 7; decide⟩
end Go.Dd

namespace Go.Dd
def Shp (x : Node) : Prop := x.kind = 7 → ∃ t ks, x = aH t ks ∧ ks ≠ []
def pJ (f : PF) (b : Nat) : Prop := ∀ st, Good st.toks → (st.err = 0 → st.toks.length ≤ b) → ∃ x st', f st = some (x, st') ∧ Stp st st' (fA x) ∧ Shp x
def gC (f : PF) (b : Nat) : Prop := ∀ st, Good st.toks → (st.err = 0 → st.toks.length ≤ b) → ∃ x st', f st = some (x, st') ∧ Stp st st' (fA x) ∧ Shp x ∧ (st'.err = 0 → st'.toks.length < st.toks.length)
theorem Shp.flat (k : Int) (t : List Nat) (m : Int) (ns ts : List (List Nat)) (ks : List Node) (h : k ≠ 7) : Shp (.mk k t m ns ts ks) := fun e => absurd e h
theorem Shp.send (t : List Nat) (x : Node) (ks : List Node) : Shp (aH t (x :: ks)) := fun _ => ⟨t, _, rfl, by simp⟩
theorem fY (t : List Nat) (ks : List Node) : fA (aH t ks) = 1 + eM ks := by simp [aH, fA]
theorem bY (x : Node) (l : List Node) : eM (x :: l) = fA x + eM l := by simp [eM]
theorem dJ : eM [] = 0 := by simp [eM]
theorem qG {f : PF} {b : Nat} (Hf : pJ f b) {st : PSt} (h : Good st.toks) {t : Tok} (ht : aX st 0 = some t) (hk : t.kind = 7 ∨ t.kind = 10) (hb : st.err = 0 → st.toks.length ≤ b + 1) :
 ∃ x st', cF f st = some (x, st') ∧ Stp st st' (fA x) ∧ Shp x ∧ (st'.err = 0 → st'.toks.length < st.toks.length) := by
 obtain ⟨s1, a1, a2, a3, a4, a5, a6, a7, a8⟩ := eS h ht (by omega)
 have S1 := a8 0 (by unfold T1; split <;> omega) (by omega)
 unfold cF
 rw [a1]
 simp only [Option.bind_some]
 by_cases hd : s1.deep = 20
 ·rw [if_pos hd]
  obtain ⟨f1, f2⟩ := pH a6 t 14 (by decide) (fA zN)
  refine ⟨_, _, rfl, ?_, Shp.flat _ _ _ _ _ _ (by decide), fun e => absurd e f2⟩
  have := S1.trans f1
  rwa [Nat.zero_add] at this
 ·rw [if_neg hd]
  obtain ⟨x, s2, b1, b2, b3⟩ := Hf { s1 with deep := jB (s1.deep + 1) } a6 (fun e => by
   have : st.err = 0 := by rw [← a2]; exact e
   have := hb this
   show s1.toks.length ≤ b
   omega)
  rw [b1]
  refine ⟨_, _, rfl, ?_, b3, fun e => ?_⟩
  ·have S0 : Stp s1 { s1 with deep := jB (s1.deep + 1) } 0 := Stp.same a6 rfl rfl
   have S3 : Stp s2 { s2 with deep := jB (s2.deep - 1) } 0 := Stp.same b2.good rfl rfl
   have := ((S1.trans S0).trans b2).trans S3
   have e0 : 0 + 0 + fA x + 0 = fA x := by omega
   rwa [e0] at this
  ·have := b2.len
   have this : s2.toks.length ≤ s1.toks.length := this
   show s2.toks.length < _
   omega
theorem xX : ∀ (f : Nat) (st : PSt) (x : Node), Good st.toks → (st.err = 0 → st.toks.length ≤ f) → 1 ≤ f → ∃ y st' k, bO f x st = some (y, st') ∧ Stp st st' k ∧ fA y = fA x + k ∧ (Shp x → Shp y)
 | 0, st, x, h, hf, h1 => by omega
 | f + 1, st, x, h, hf, h1 => by
  obtain ⟨t, r, e, ht, h2, h3⟩ := eL h
  unfold bO
  rw [pF ht]
  simp only [Option.bind_some]
  cases hc : nS st t 1 [] with
  | false => exact ⟨x, st, 0, by simp, Stp.refl h, by simp, id⟩
  | true =>
   obtain ⟨c1, c2⟩ := dN hc
   obtain ⟨s1, a1, a2, a3, a4, a5, a6, a7, a8⟩ := eS h ht (by omega)
   have hl := hf c1
   have hr : 1 ≤ s1.toks.length := by
    obtain ⟨t', r', e', _⟩ := a6.head
    rw [e']; simp
   obtain ⟨y, st', k, b1, b2, b3, b4⟩ := xX f s1 (aH t.text [x]) a6 (fun _ => by omega) (by omega)
   refine ⟨y, st', 1 + k, by simp [a1, b1], (a8 1 (by simp [T1, c2]) (by simp [T2, c2])).trans b2, ?_, fun _ => b4 (Shp.send _ _ _)⟩
   rw [b3, fY, bY, dJ]
   omega
theorem aGe : ∀ (f : Nat) (st : PSt) (l : List (List Nat)), Good st.toks → (st.err = 0 → st.toks.length ≤ f) → 1 ≤ f → ∃ l' st' k, eU f l st = some (l', st') ∧ Stp st st' k ∧ l'.length = l.length + k
 | 0, st, l, h, hf, h1 => by omega
 | f + 1, st, l, h, hf, h1 => by
  obtain ⟨t, r, e, ht, h2, h3⟩ := eL h
  unfold eU
  rw [pF ht]
  simp only [Option.bind_some]
  cases hc : nS st t 1 [] with
  | false =>
   obtain ⟨u, s1, a1, a2, a3⟩ := vA h 10 [124] 0 (fun _ => tIn (by simp)) (by simp)
   exact ⟨l, s1, 0, by simp [a1], a2, by simp⟩
  | true =>
   obtain ⟨c1, c2⟩ := dN hc
   obtain ⟨s1, a1, a2, a3, a4, a5, a6, a7, a8⟩ := eS h ht (by omega)
   have hl := hf c1
   have hr : 1 ≤ s1.toks.length := by
    obtain ⟨t', r', e', _⟩ := a6.head
    rw [e']; simp
   obtain ⟨l', st', k, b1, b2, b3⟩ := aGe f s1 (l ++ [t.text]) a6 (fun _ => by omega) (by omega)
   refine ⟨l', st', 1 + k, by simp [a1, b1], (a8 1 (by simp [T1, c2]) (by simp [T2, c2])).trans b2, ?_⟩
   rw [b3]; simp; omega
theorem aSy {f : Nat} {st : PSt} (h : Good st.toks) (hf : st.err = 0 → st.toks.length ≤ f) (h1 : 1 ≤ f) : ∃ l st', hO f st = some (l, st') ∧ Stp st st' l.length := by
 obtain ⟨t, r, e, ht, h2, h3⟩ := eL h
 unfold hO
 rw [pF ht]
 simp only [Option.bind_some]
 cases hc : nS st t 10 [124] with
 | false => exact ⟨[], st, by simp, Stp.refl h⟩
 | true =>
  obtain ⟨c1, c2⟩ := dN hc
  obtain ⟨s1, a1, a2, a3, a4, a5, a6, a7, a8⟩ := eS h ht (by omega)
  obtain ⟨l, st', k, b1, b2, b3⟩ := aGe f s1 [] a6 (fun e => by have := hf c1; omega) h1
  have S1 := (a8 0 (by simp [T1, c2]) (by omega)).trans b2
  refine ⟨l, st', by simp [a1, b1], ?_⟩
  rw [show l.length = 0 + k by rw [b3]; simp]
  exact S1
theorem aHl : ∀ (f : Nat) (st : PSt) (l : List (List Nat)), Good st.toks → (st.err = 0 → st.toks.length ≤ f) → 1 ≤ f → ∃ l' st' k, eH f l st = some (l', st') ∧ Stp st st' k ∧ l'.length = l.length + k
 | 0, st, l, h, hf, h1 => by omega
 | f + 1, st, l, h, hf, h1 => by
  obtain ⟨t, r, e, ht, h2, h3⟩ := eL h
  unfold eH
  rw [pF ht]
  simp only [Option.bind_some]
  cases hc : nS st t 8 [] with
  | false => exact ⟨l, st, 0, by simp, Stp.refl h, by simp⟩
  | true =>
   obtain ⟨c1, c2⟩ := dN hc
   have hl := hf c1
   obtain ⟨s0, z1, z2, z3, z4, z5, z6, z7, z8⟩ := eS h ht (by omega)
   obtain ⟨tx, s1, a1, a2, a3⟩ := bKx h 8 (.inr rfl) l.length
   have hlen : s1.toks.length + 1 ≤ st.toks.length := by
    unfold nC dZ at a1
    rw [pF ht, hc] at a1
    simp only [Option.bind_some, if_true, z1, aW, bR] at a1
    obtain ⟨_, rfl⟩ := a1
    split
    ·rw [cX]; omega
    ·omega
   have hr : 1 ≤ s1.toks.length := by
    obtain ⟨t', r', e', _⟩ := a2.good.head
    rw [e']; simp
   obtain ⟨l', st', k, b1, b2, b3⟩ := aHl f s1 (l ++ [tx]) a2.good (fun _ => by omega) (by omega)
   refine ⟨l', st', 1 + k, by simp [a1, b1], a2.trans b2, ?_⟩
   rw [b3]; simp; omega
theorem bHu {E : PF} {b : Nat} (HE : gC E b) : pJ (jT E) b := by
 intro st h hb
 obtain ⟨x, s1, a1, a2, a3, a4⟩ := HE st h hb
 obtain ⟨u, s2, c1, c2, c3⟩ := vA a2.good 10 [41] 0 (fun _ => tIn (by simp)) (by simp)
 refine ⟨x, s2, by simp [jT, a1, c1], ?_, a3⟩
 exact a2.trans c2
theorem zV {LI : PF} {b : Nat} (HL : pJ LI b) : ∀ (f : Nat) (st : PSt) (xs : List Node), Good st.toks → (st.err = 0 → st.toks.length < f ∧ st.toks.length ≤ b + 1) → 1 ≤ f → ∃ ys st' k, cY LI f xs st = some (ys, st') ∧ Stp st st' k ∧ eM ys = eM xs + k ∧ (st'.err = 0 → ∃ t, aX st' 0 = some t ∧ t.kind = 10)
 | 0, st, xs, h, hf, h1 => by omega
 | f + 1, st, xs, h, hf, h1 => by
  obtain ⟨t, r, e, ht, h2, h3⟩ := eL h
  unfold cY
  by_cases he : st.err = 0
  ·rw [if_pos he, pF ht]
   simp only [Option.bind_some]
   obtain ⟨hl1, hl2⟩ := hf he
   cases hc : nS st t 10 [41] with
   | true => exact ⟨xs, st, 0, by simp, Stp.refl h, by simp, fun _ => ⟨t, ht, (dN hc).2⟩⟩
   | false =>
    simp only [Bool.false_eq_true, if_false]
    obtain ⟨x, c, s1, a1, a2, a3, _⟩ := aDn h
    rw [a1]
    simp only [Option.bind_some]
    cases c with
    | true =>
     obtain ⟨b1, b2, b3, b4⟩ := a2 rfl
     have hr : 1 ≤ s1.toks.length := by
      obtain ⟨t', r', e', _⟩ := b1.good.head
      rw [e']; simp
     obtain ⟨ys, st', k, d1, d2, d3, d4⟩ := zV HL f s1 (xs ++ [x]) b1.good (fun _ => by omega) (by omega)
     refine ⟨ys, st', fA x + k, by simp [d1], b1.trans d2, ?_, d4⟩
     rw [d3, eZ, bY, dJ]; omega
    | false =>
     have := a3 rfl
     subst this
     simp only [Bool.false_eq_true, if_false]
     rw [pF ht]
     simp only [Option.bind_some]
     have nest : (t.kind = 7 ∨ t.kind = 10) → ∃ ys st' k, ((cF LI s1).bind fun q => cY LI f (xs ++ [q.1]) q.2) = some (ys, st') ∧ Stp s1 st' k ∧ eM ys = eM xs + k ∧ (st'.err = 0 → ∃ t, aX st' 0 = some t ∧ t.kind = 10) := by
      intro hk
      obtain ⟨y, s2, b1, b2, b3, b4⟩ := qG HL h ht hk (fun _ => hl2)
      by_cases he2 : s2.err = 0
      ·have := b4 he2
       have hr : 1 ≤ s2.toks.length := by
        obtain ⟨t', r', e', _⟩ := b2.good.head
        rw [e']; simp
       obtain ⟨ys, st', k, d1, d2, d3, d4⟩ := zV HL f s2 (xs ++ [y]) b2.good (fun _ => by omega) (by omega)
       refine ⟨ys, st', fA y + k, by simp [b1, d1], b2.trans d2, ?_, d4⟩
       rw [d3, eZ, bY, dJ]; omega
      ·have hr : 1 ≤ f := by
        rw [e] at hl1
        simp at hl1
        omega
       obtain ⟨ys, st', k, d1, d2, d3, d4⟩ := zV HL f s2 (xs ++ [y]) b2.good (fun e => absurd e he2) hr
       refine ⟨ys, st', fA y + k, by simp [b1, d1], b2.trans d2, ?_, d4⟩
       rw [d3, eZ, bY, dJ]; omega
     cases hc1 : nS s1 t 7 [] with
     | true =>
      simp only [if_true, Option.bind_some]
      exact nest (.inl (dN hc1).2)
     | false =>
      simp only [Bool.false_eq_true, if_false]
      rw [pF ht]
      simp only [Option.bind_some]
      cases hc2 : nS s1 t 10 [40] with
      | true =>
       simp only [if_true]
       exact nest (.inr (dN hc2).2)
      | false =>
       simp only [Bool.false_eq_true, if_false, ht, Option.bind_some]
       obtain ⟨f1, f2⟩ := pH h t 13 (by decide) (fA x)
       have hr : 1 ≤ f := by rw [e] at hl1; simp at hl1; omega
       obtain ⟨ys, st', k, d1, d2, d3, d4⟩ := zV HL f (cP s1 t 13) (xs ++ [x]) (by rw [cX]; exact h) (fun e => absurd e f2) hr
       refine ⟨ys, st', fA x + k, d1, f1.trans d2, ?_, d4⟩
       rw [d3, eZ, bY, dJ]; omega
  ·rw [if_neg he]
   exact ⟨xs, st, 0, rfl, Stp.refl h, by simp, fun e => absurd e he⟩
end Go.Dd

namespace Go.Dd
theorem Good.pos {l : List Tok} (h : Good l) : 1 ≤ l.length := by
 obtain ⟨t, r, e, _⟩ := h.head
 rw [e]; simp
theorem aIu {LI : PF} {b f : Nat} (HL : pJ LI b) (hf : b + 1 < f) : pJ (eQ LI f) (b + 1) := by
 intro st h hb
 obtain ⟨ys, s1, k, a1, a2, a3, a4⟩ := zV HL f st [] h (fun e => ⟨by have := hb e; omega, hb e⟩) (by omega)
 have hc : fA (.mk 4 [] 0 [] [] ys) = k := by simp [fA, a3, eM]
 by_cases he : s1.err = 0
 ·obtain ⟨t, ht, hk⟩ := a4 he
  obtain ⟨s2, b1, b2, b3, b4, b5, b6, b7, b8⟩ := eS a2.good ht (by omega)
  refine ⟨.mk 4 [] 0 [] [] ys, s2, by simp [eQ, a1, b1], ?_, Shp.flat _ _ _ _ _ _ (by decide)⟩
  rw [hc]
  exact a2.trans (b8 0 (by simp [T1, hk]) (by omega))
 ·obtain ⟨t, s2, b1, b2, b3, c, b4, b5⟩ := bBt a2.good
  refine ⟨.mk 4 [] 0 [] [] ys, s2, by simp [eQ, a1, b1], ?_, Shp.flat _ _ _ _ _ _ (by decide)⟩
  have he2 : s2.err ≠ 0 := by rw [b2]; exact he
  have : Stp s1 s2 0 := ⟨b3, fun _ => he2, c, b4, fun e => absurd e he2⟩
  exact (a2.trans this).any he2 _
theorem aDw {E : PF} {b : Nat} (HE : gC E b) : ∀ (f : Nat) (st : PSt) (xs : List Node), Good st.toks → (st.err = 0 → st.toks.length ≤ f ∧ st.toks.length ≤ b) → 1 ≤ f → ∃ ys st' k, dD E f xs st = some (ys, st') ∧ Stp st st' k ∧ eM ys = eM xs + k
 | 0, st, xs, h, hf, h1 => by omega
 | f + 1, st, xs, h, hf, h1 => by
  obtain ⟨t, r, e, ht, h2, h3⟩ := eL h
  unfold dD
  by_cases he : st.err = 0
  ·rw [if_pos he, pF ht]
   simp only [Option.bind_some]
   obtain ⟨hl1, hl2⟩ := hf he
   have fin : ∃ ys st' k, some (xs, st) = some (ys, st') ∧ Stp st st' k ∧ eM ys = eM xs + k := ⟨xs, st, 0, rfl, Stp.refl h, by simp⟩
   cases hc : nS st t 0 [] with
   | true => simpa using fin
   | false =>
    simp only [Bool.false_eq_true, if_false]
    rw [pF ht]
    simp only [Option.bind_some]
    cases hc2 : nS st t 10 [93] with
    | true => simpa using fin
    | false =>
     simp only [Bool.false_eq_true, if_false]
     rw [pF ht]
     simp only [Option.bind_some]
     cases hc3 : nS st t 10 [94] with
     | true =>
      simp only [if_true]
      obtain ⟨c1, c2⟩ := dN hc3
      obtain ⟨s1, a1, a2, a3, a4, a5, a6, a7, a8⟩ := eS h ht (by omega)
      obtain ⟨x, s2, b1, b2, b3, b4⟩ := HE s1 a6 (fun _ => by omega)
      obtain ⟨u, r2, e2, hu, _, _⟩ := eL b2.good
      have S1 := (a8 0 (by simp [T1, c2]) (by omega)).trans b2
      have hcn : eM (xs ++ [Node.mk 10 [] 0 [] [] [x]]) = eM xs + (0 + fA x) := by rw [eZ, bY, dJ]; simp [fA, eM]
      rw [a1]
      simp only [Option.bind_some, b1]
      rw [pF hu]
      simp only [Option.bind_some]
      cases hc4 : nS s2 u 10 [46] with
      | false => exact ⟨xs ++ [Node.mk 10 [] 0 [] [] [x]], s2, _, by simp, S1, hcn⟩
      | true =>
       obtain ⟨d1, d2⟩ := dN hc4
       obtain ⟨s3, g1, g2, g3, g4, g5, g6, g7, g8⟩ := eS b2.good hu (by omega)
       refine ⟨xs ++ [Node.mk 10 [] 0 [] [] [x]], s3, _, by simp [g1], S1.trans (g8 0 (by simp [T1, d2]) (by omega)), by rw [hcn]; omega⟩
     | false =>
      simp only [Bool.false_eq_true, if_false]
      obtain ⟨x, s2, b1, b2, b3, b4⟩ := HE st h (fun _ => hl2)
      obtain ⟨u, r2, e2, hu, _, _⟩ := eL b2.good
      have hcn : eM (xs ++ [x]) = eM xs + fA x := by rw [eZ, bY, dJ]; omega
      rw [b1]
      simp only [Option.bind_some]
      rw [pF hu]
      simp only [Option.bind_some]
      cases hc4 : nS s2 u 10 [46] with
      | false => exact ⟨xs ++ [x], s2, _, by simp, b2, hcn⟩
      | true =>
       obtain ⟨d1, d2⟩ := dN hc4
       obtain ⟨s3, g1, g2, g3, g4, g5, g6, g7, g8⟩ := eS b2.good hu (by omega)
       have hlt := b4 d1
       have hp := g6.pos
       obtain ⟨ys, st', k, k1, k2, k3⟩ := aDw HE f s3 (xs ++ [x]) g6 (fun _ => by omega) (by omega)
       refine ⟨ys, st', _, by simp [g1, k1], (b2.trans (g8 0 (by simp [T1, d2]) (by omega))).trans k2, by rw [k3, hcn]; omega⟩
  ·rw [if_neg he]
   exact ⟨xs, st, 0, rfl, Stp.refl h, by simp⟩
theorem bMa {l : List (List Nat)} {st : PSt} (h : Good st.toks) : ∃ st', bar l st = some st' ∧ Stp st st' 0 := by
 obtain ⟨t, r, e, ht, h2, h3⟩ := eL h
 unfold bar
 by_cases hl : 0 < l.length
 ·rw [if_pos hl, pF ht]
  simp only [Option.bind_some]
  cases hc : nS st t 10 [93] with
  | true => exact ⟨st, by simp, Stp.refl h⟩
  | false =>
   obtain ⟨u, s1, a1, a2, a3⟩ := vA h 10 [124] 0 (fun _ => tIn (by simp)) (by simp)
   exact ⟨s1, by simp [a1], a2⟩
 ·rw [if_neg hl]
  exact ⟨st, rfl, Stp.refl h⟩
theorem bCh {E : PF} {b f : Nat} (HE : gC E b) (hf : b ≤ f) (h1 : 1 ≤ f) : pJ (iX E f) b := by
 intro st h hb
 obtain ⟨l, s1, k, a1, a2, a3⟩ := aHl f st [] h (fun e => by have := hb e; omega) h1
 obtain ⟨s2, b1, b2⟩ := bMa (l := l) a2.good
 have S2 := a2.trans b2
 have lt : ∀ s : PSt, (∃ k, Stp st s k) → s.err = 0 → s.toks.length ≤ b := fun s ⟨k, S⟩ e => by
  have h1 := hb (S.ok e)
  have := S.len
  omega
 obtain ⟨ts, s3, c1, c2⟩ := aSy (f := f) S2.good (fun e => by have := lt s2 ⟨_, S2⟩ e; omega) h1
 have S3 := S2.trans c2
 obtain ⟨ks, s4, k4, d1, d2, d3⟩ := aDw HE f s3 [] S3.good (fun e => by have := lt s3 ⟨_, S3⟩ e; omega) h1
 have S4 := S3.trans d2
 obtain ⟨u, s5, e1, e2, e3⟩ := vA S4.good 10 [93] 0 (fun _ => tIn (by simp)) (by simp)
 have S5 := S4.trans e2
 refine ⟨.mk 9 [] 0 l ts ks, s5, by simp [iX, a1, b1, c1, d1, e1], ?_, Shp.flat _ _ _ _ _ _ (by decide)⟩
 have : fA (.mk 9 [] 0 l ts ks) = k + 0 + ts.length + k4 + 0 := by
  simp [fA, d3, eM] at a3 ⊢
  omega
 rw [this]
 exact S5
theorem aLg {LI E : PF} {b f : Nat} (HL : pJ LI b) (HE : gC E b) (hf : b ≤ f) (h1 : 1 ≤ f) : gC (cZ LI E f) (b + 1) := by
 intro st h hb
 obtain ⟨t, r, e, ht, h2, h3⟩ := eL h
 obtain ⟨x, c, s1, a1, a2, a3, a7⟩ := aDn h
 unfold cZ
 rw [a1]
 simp only [Option.bind_some]
 cases c with
 | true =>
  obtain ⟨b1, b2, b3, b4⟩ := a2 rfl
  exact ⟨x, s1, by simp, b1, fun e7 => absurd e7 a7, fun _ => b2⟩
 | false =>
  have := a3 rfl
  subst this
  simp only [Bool.false_eq_true, if_false, ht, Option.bind_some]
  by_cases he : s1.err = 0
  ·rw [if_pos he]
   by_cases k1 : t.kind = 1
   ·rw [if_pos k1]
    obtain ⟨s2, c1, c2, c3, c4, c5, c6, c7, c8⟩ := eS h ht (by omega)
    rw [c1]
    refine ⟨_, _, rfl, ?_, Shp.flat _ _ _ _ _ _ (by decide), fun _ => by show s2.toks.length < _; omega⟩
    have : fA (.mk 5 t.text 0 [] [] []) = 1 := by simp [fA, eM]
    rw [this]
    exact c8 1 (by simp [T1, k1]) (by simp [T2, k1])
   ·rw [if_neg k1]
    by_cases k7 : t.kind = 7
    ·rw [if_pos k7]
     exact qG HL h ht (.inl k7) hb
    ·rw [if_neg k7, pF ht]
     simp only [Option.bind_some]
     cases hc : nS s1 t 10 [40] with
     | true =>
      simp only [if_true]
      exact qG (bHu HE) h ht (.inr (dN hc).2) hb
     | false =>
      simp only [Bool.false_eq_true, if_false]
      rw [pF ht]
      simp only [Option.bind_some]
      cases hc2 : nS s1 t 10 [91] with
      | true =>
       simp only [if_true]
       exact qG (bCh HE hf h1) h ht (.inr (dN hc2).2) hb
      | false =>
       simp only [Bool.false_eq_true, if_false]
       obtain ⟨f1, f2⟩ := pH h t 13 (by decide) (fA zN)
       exact ⟨_, _, rfl, f1, Shp.flat _ _ _ _ _ _ (by decide), fun e => absurd e f2⟩
  ·rw [if_neg he]
   exact ⟨_, _, rfl, (Stp.refl h).any he _, Shp.flat _ _ _ _ _ _ (by decide), fun e => absurd e he⟩
theorem aFx {P : PF} {b g : Nat} (HP : gC P b) (hg : b ≤ g) (hg1 : 1 ≤ g) : ∀ (f : Nat) (st : PSt) (x : Node), Good st.toks → (st.err = 0 → st.toks.length ≤ f ∧ st.toks.length ≤ b + 1) → 1 ≤ f →
 ∃ y st' k, bM P g f x st = some (y, st') ∧ Stp st st' k ∧ fA y = fA x + k ∧ (Shp x → Shp y)
 | 0, st, x, h, hf, h1 => by omega
 | f + 1, st, x, h, hf, h1 => by
  obtain ⟨t, r, e, ht, h2, h3⟩ := eL h
  unfold bM
  rw [pF ht]
  simp only [Option.bind_some]
  cases hc : nS st t 3 [] with
  | false => exact ⟨x, st, 0, by simp, Stp.refl h, by simp, id⟩
  | true =>
   obtain ⟨c1, c2⟩ := dN hc
   obtain ⟨hl1, hl2⟩ := hf c1
   obtain ⟨s1, a1, a2, a3, a4, a5, a6, a7, a8⟩ := eS h ht (by omega)
   have hp := a6.pos
   obtain ⟨q, s2, b1, b2, b3, b4⟩ := HP s1 a6 (fun _ => by omega)
   have hl := b2.len
   obtain ⟨u, s3, ku, d1, d2, d3, d4⟩ := xX g s2 q b2.good (fun _ => by omega) hg1
   have hl3 := d2.len
   obtain ⟨y, st', k, k1, k2, k3, k4⟩ := aFx HP hg hg1 f s3 (aH t.text [x, u]) d2.good (fun _ => by omega) (by omega)
   refine ⟨y, st', 1 + fA q + ku + k, by simp [a1, b1, d1, k1], (((a8 1 (by simp [T1, c2]) (by simp [T2, c2])).trans b2).trans d2).trans k2, ?_, fun _ => k4 (Shp.send _ _ _)⟩
   rw [k3, fY, bY, bY, dJ, d3]
   omega
theorem bHn {P : PF} {b g : Nat} (HP : gC P b) (hg : b + 1 ≤ g) {st : PSt} (h : Good st.toks) (hb : st.err = 0 → st.toks.length ≤ b) :
 ∃ q s2 u s3 w s4, P st = some (q, s2) ∧ bO g q s2 = some (u, s3) ∧ bM P g g u s3 = some (w, s4) ∧ Stp st s4 (fA w) ∧ Shp w ∧ (s4.err = 0 → s4.toks.length < st.toks.length) := by
 obtain ⟨q, s2, b1, b2, b3, b4⟩ := HP st h hb
 have hl2 := b2.len
 obtain ⟨u, s3, ku, d1, d2, d3, d4⟩ := xX g s2 q b2.good (fun e => by have := hb (b2.ok e); omega) (by omega)
 have hl3 := d2.len
 obtain ⟨w, s4, k, k1, k2, k3, k4⟩ := aFx (g := g) HP (by omega) (by omega) g s3 u d2.good (fun e => by have := hb (b2.ok (d2.ok e)); omega) (by omega)
 have hl4 := k2.len
 refine ⟨q, s2, u, s3, w, s4, b1, d1, k1, ?_, k4 (d4 b3), fun e => ?_⟩
 ·rw [k3, d3]
  exact (b2.trans d2).trans k2
 ·have := b4 (d2.ok (k2.ok e))
  omega
theorem aRl {P : PF} {b g : Nat} (HP : gC P b) (hg : b + 1 ≤ g) : ∀ (f : Nat) (st : PSt) (t : List Nat) (ks : List Node), Good st.toks → (st.err = 0 → st.toks.length ≤ f ∧ st.toks.length ≤ b + 1 ∧ t.length + st.toks.length * 10000 ≤ cA) → 1 ≤ f → ks ≠ [] →
 ∃ y st' k, dG P g f t ks st = some (y, st') ∧ Stp st st' k ∧ fA y = 1 + eM ks + k ∧ Shp y
 | 0, st, t, ks, h, hf, h1, hk => by omega
 | f + 1, st, t, ks, h, hf, h1, hk => by
  obtain ⟨u, r, e, ht, h2, h3⟩ := eL h
  unfold dG
  rw [pF ht]
  simp only [Option.bind_some]
  cases hc : nS st u 2 [] with
  | false => exact ⟨aH t ks, st, 0, by simp, Stp.refl h, by rw [fY]; rfl, fun _ => ⟨t, ks, rfl, hk⟩⟩
  | true =>
   obtain ⟨c1, c2⟩ := dN hc
   obtain ⟨hl1, hl2, hl3⟩ := hf c1
   obtain ⟨s1, a1, a2, a3, a4, a5, a6, a7, a8⟩ := eS h ht (by omega)
   have hp := a6.pos
   have htx := h.text a7
   obtain ⟨q, s2, w, s3, v, s4, b1, b2, b3, b4, b5, b6⟩ := bHn HP hg a6 (fun _ => by omega)
   have hl4 := b4.len
   obtain ⟨y, st', k, k1, k2, k3, k4⟩ := aRl HP hg f s4 (t ++ u.text) (ks ++ [v]) b4.good (fun _ => ⟨by omega, by omega, by
    have : s4.toks.length * 10000 ≤ s1.toks.length * 10000 := Nat.mul_le_mul_right _ hl4
    have e2 : st.toks.length * 10000 = s1.toks.length * 10000 + 10000 := by rw [← a5]; omega
    simp
    omega⟩) (by omega) (by simp)
   refine ⟨y, st', 0 + fA v + k, ?_, ((a8 0 (by simp [T1, c2]) (by omega)).trans b4).trans k2, ?_, k4⟩
   ·simp only [if_true, a1, Option.bind_some]
    rw [if_pos (by omega)]
    simp [b1, b2, b3, k1]
   ·rw [k3, eZ, bY, dJ]; omega
theorem bBa {P : PF} {b g : Nat} (HP : gC P b) (hg : b + 2 ≤ g) (hb : b ≤ 1000000) {st : PSt} {x : Node} (h : Good st.toks) (hf : st.err = 0 → st.toks.length ≤ b + 1) :
 ∃ y st' k, gW P g x st = some (y, st') ∧ Stp st st' k ∧ fA y = fA x + k ∧ (Shp x → Shp y) ∧ ((∃ t, aX st 0 = some t ∧ nS st t 2 [] = true) → ∃ t ks, y = aH t (x :: ks)) := by
 obtain ⟨u, r, e, ht, h2, h3⟩ := eL h
 unfold gW
 rw [pF ht]
 simp only [Option.bind_some]
 cases hc : nS st u 2 [] with
 | false =>
  refine ⟨x, st, 0, by simp, Stp.refl h, by simp, id, ?_⟩
  rintro ⟨t, q1, q2⟩
  rw [ht] at q1
  cases q1
  rw [hc] at q2
  cases q2
 | true =>
  obtain ⟨c1, c2⟩ := dN hc
  have hl := hf c1
  obtain ⟨s1, a1, a2, a3, a4, a5, a6, a7, a8⟩ := eS h ht (by omega)
  have hp := a6.pos
  have htx := h.text a7
  obtain ⟨q, s2, w, s3, v, s4, b1, b2, b3, b4, b5, b6⟩ := bHn (g := g) HP (by omega) a6 (fun _ => by omega)
  have hl4 := b4.len
  obtain ⟨g', rfl⟩ : ∃ g', g = g' + 1 := ⟨g - 1, by omega⟩
  have all : ∀ (f : Nat) (st : PSt) (t : List Nat) (ks : List Node) (y : Node) (st' : PSt), dG P (g' + 1) f t (x :: ks) st = some (y, st') → ∃ t ks, y = aH t (x :: ks) := by
   intro f
   induction f with
   | zero => intro st t ks y st' hk; cases hk
   | succ f ih =>
    intro st t ks y st' hk
    unfold dG at hk
    obtain ⟨c, _, hk⟩ := bD hk
    split at hk
    ·obtain ⟨_, _, hk⟩ := bD hk
     split at hk
     ·obtain ⟨_, _, hk⟩ := bD hk
      obtain ⟨_, _, hk⟩ := bD hk
      obtain ⟨_, _, hk⟩ := bD hk
      exact ih _ _ _ _ _ hk
     ·cases hk
    ·cases hk
     exact ⟨_, _, rfl⟩
  obtain ⟨y, st', k, k1, k2, k3, k4⟩ := aRl (g := g' + 1) HP (by omega) g' s4 ([] ++ u.text) ([x] ++ [v]) b4.good (fun _ => ⟨by omega, by omega, by
   have : s4.toks.length * 10000 ≤ 1000001 * 10000 := Nat.mul_le_mul_right _ (by omega)
   simp [cA]
   omega⟩) (by omega) (by simp)
  have hres : dG P (g' + 1) (g' + 1) [] [x] st = some (y, st') := by
   unfold dG
   rw [pF ht, hc]
   simp only [Option.bind_some, if_true, a1]
   rw [if_pos (by simp [cA]; omega)]
   simp only [Option.bind_some, b1, b2, b3]
   exact k1
  refine ⟨y, st', 1 + fA v + k, by simpa using hres, ((a8 1 (by simp [T1, c2]) (by simp [T2, c2])).trans b4).trans k2, ?_, fun _ => k4, fun _ => all _ _ _ _ _ _ hres⟩
  rw [k3, eZ, bY, bY, dJ]; omega
theorem bDm : fA zN = 1 := by simp [zN, fA, eM]
theorem lD (t : List Nat) (x : Node) (ks : List Node) : fH (aH t (x :: ks)) = aH t ks := by simp [fH, aH, Node.kids, Node.text]
theorem bNl {P : PF} {b g : Nat} (HP : gC P b) (hg : b + 2 ≤ g) (hb : b ≤ 1000000) {st : PSt} (h : Good st.toks) (hf : st.err = 0 → st.toks.length ≤ b + 1) :
 ∃ y st', nB P g st = some (y, st') ∧ Stp st st' (fA (fH y)) := by
 obtain ⟨t, r, e, ht, h2, h3⟩ := eL h
 unfold nB
 rw [ht]
 simp only [Option.bind_some]
 have any : ∀ {y : Node} {st' : PSt} {k : Nat}, Stp st st' k → (st.err = 0 → k = fA (fH y)) → Stp st st' (fA (fH y)) := fun S hk => S.cast (fun e => hk (S.ok e))
 by_cases k1 : t.kind = 1
 ·rw [if_pos k1]
  obtain ⟨s1, a1, a2, a3, a4, a5, a6, a7, a8⟩ := eS h ht (by omega)
  rw [a1]
  refine ⟨_, _, rfl, ?_⟩
  rw [lD, fY, dJ]
  exact a8 1 (by simp [T1, k1]) (by simp [T2, k1])
 ·rw [if_neg k1]
  by_cases k3 : t.kind = 3
  ·rw [if_pos k3]
   obtain ⟨s1, a1, a2, a3, a4, a5, a6, a7, a8⟩ := eS h ht (by omega)
   have hp := a6.pos
   obtain ⟨q, s2, b1, b2, b3, b4⟩ := HP s1 a6 (fun e => by have := hf (by rw [← a2]; exact e); omega)
   have hl := b2.len
   obtain ⟨u, s3, ku, d1, d2, d3, d4⟩ := xX g s2 q b2.good (fun e => by have := hf (by rw [← a2]; exact b2.ok e); omega) (by omega)
   simp only [a1, Option.bind_some, b1, d1]
   refine ⟨_, _, rfl, ?_⟩
   rw [lD, fY, bY, dJ, d3]
   have := ((a8 1 (by simp [T1, k3]) (by simp [T2, k3])).trans b2).trans d2
   have e2 : 1 + fA q + ku = 1 + (fA q + ku + 0) := by omega
   rwa [e2] at this
  ·rw [if_neg k3]
   by_cases k2 : t.kind = 2
   ·rw [if_pos k2]
    obtain ⟨y, st', k, b1, b2, b3, b4, b5⟩ := bBa (x := zN) HP hg hb h hf
    refine ⟨y, st', b1, b2.cast fun e => ?_⟩
    have he := b2.ok e
    obtain ⟨tt, ks, rfl⟩ := b5 ⟨t, ht, by simp [nS, he, k2]⟩
    rw [lD, fY]
    rw [fY, bY, bDm] at b3
    omega
   ·rw [if_neg k2]
    obtain ⟨f1, f2⟩ := pH h t 13 (by decide) (fA (fH zN))
    exact ⟨_, _, rfl, f1⟩
theorem bJu {P : PF} {b g : Nat} (HP : gC P b) (hg : b + 2 ≤ g) (hb : b ≤ 1000000) : ∀ (f : Nat) (st : PSt) (ks : List Node), Good st.toks → (st.err = 0 → st.toks.length ≤ f ∧ st.toks.length ≤ b + 1) → 1 ≤ f →
 ∃ y st' k, jC P g f ks st = some (y, st') ∧ Stp st st' k ∧ fA y = eM ks + k ∧ Shp y
 | 0, st, ks, h, hf, h1 => by omega
 | f + 1, st, ks, h, hf, h1 => by
  obtain ⟨t, r, e, ht, h2, h3⟩ := eL h
  unfold jC
  rw [pF ht]
  simp only [Option.bind_some]
  cases hc : nS st t 10 [59] with
  | false => exact ⟨.mk 8 [] 0 [] [] ks, st, 0, by simp, Stp.refl h, by simp [fA], Shp.flat _ _ _ _ _ _ (by decide)⟩
  | true =>
   obtain ⟨c1, c2⟩ := dN hc
   obtain ⟨hl1, hl2⟩ := hf c1
   obtain ⟨s1, a1, a2, a3, a4, a5, a6, a7, a8⟩ := eS h ht (by omega)
   have hp := a6.pos
   obtain ⟨q, s2, b1, b2⟩ := bNl HP hg hb a6 (fun _ => by omega)
   have hl := b2.len
   obtain ⟨y, st', k, k1, k2, k3, k4⟩ := bJu HP hg hb f s2 (ks ++ [fH q]) b2.good (fun _ => by omega) (by omega)
   refine ⟨y, st', 0 + fA (fH q) + k, by simp [a1, b1, k1], ((a8 0 (by simp [T1, c2]) (by omega)).trans b2).trans k2, ?_, k4⟩
   rw [k3, eZ, bY, dJ]; omega
theorem aBd {P : PF} {b g : Nat} (HP : gC P b) (hg : b + 2 ≤ g) (hb : b ≤ 1000000) : gC (fR P g) b := by
 intro st h hbd
 obtain ⟨q, s2, u, s3, w, s4, b1, b2, b3, b4, b5, b6⟩ := bHn (g := g) HP (by omega) h hbd
 have hl4 := b4.len
 obtain ⟨y, s5, k, d1, d2, d3, d4, d5⟩ := bBa (x := w) HP hg hb b4.good (fun e => by have := hbd (b4.ok e); omega)
 have hl5 := d2.len
 obtain ⟨t, r, e, ht, h2, h3⟩ := eL d2.good
 have S5 := b4.trans d2
 have hS : Stp st s5 (fA y) := by rw [d3]; exact S5
 have hlt : s5.err = 0 → s5.toks.length < st.toks.length := fun e => by
  have := b6 (d2.ok e)
  omega
 unfold fR
 simp only [b1, Option.bind_some, b2, b3, d1]
 rw [pF ht]
 simp only [Option.bind_some]
 cases hc : nS s5 t 10 [59] with
 | false => exact ⟨y, s5, by simp, hS, d4 b5, hlt⟩
 | true =>
  obtain ⟨c1, c2⟩ := dN hc
  simp only [if_true]
  by_cases k7 : y.kind = 7
  ·rw [if_pos k7]
   obtain ⟨tx, ks, rfl, hks⟩ := d4 b5 k7
   cases ks with
   | nil => exact absurd rfl hks
   | cons k0 ks =>
    have : (aH tx (k0 :: ks)).kids[0]? = some k0 := rfl
    rw [this]
    simp only [Option.bind_some, lD]
    have hl := hbd (S5.ok c1)
    obtain ⟨z, s6, k6, e1, e2, e3, e4⟩ := bJu HP hg hb g s5 [k0, aH tx ks] d2.good (fun _ => by omega) (by omega)
    have hl6 := e2.len
    refine ⟨z, s6, e1, ?_, e4, fun e => by have := hlt (e2.ok e); omega⟩
    have := hS.trans e2
    have ec : fA (aH tx (k0 :: ks)) + k6 = fA z := by
     rw [e3, fY, bY, bY, bY, dJ, fY]; omega
    rwa [ec] at this
  ·rw [if_neg k7, ht]
   simp only [Option.bind_some]
   obtain ⟨f1, f2⟩ := pH d2.good t 13 (by decide) 0
   exact ⟨_, _, rfl, hS.trans f1, d4 b5, fun e => absurd e f2⟩
theorem bBc {P E : PF} {b g : Nat} (HP : gC P b) (HE : b = 0 ∨ gC E (b - 1)) (hg : b + 2 ≤ g) (hb : b ≤ 1000000) : gC (kP P E g) b := by
 intro st h hbd
 obtain ⟨t, r, e, ht, h2, h3⟩ := eL h
 obtain ⟨u, hu⟩ := bAe h
 unfold kP
 rw [pF ht]
 simp only [Option.bind_some]
 cases hc : nS st t 1 [] with
 | false =>
  simp only [Bool.false_eq_true, if_false, Option.bind_some]
  exact aBd HP hg hb st h hbd
 | true =>
  simp only [if_true, hu, Option.bind_some]
  by_cases k9 : u.kind = 9
  ·rw [decide_eq_true k9]
   simp only [if_true]
   obtain ⟨c1, c2⟩ := dN hc
   obtain ⟨s1, a1, a2, a3, a4, a5, a6, a7, a8⟩ := eS h ht (by omega)
   have hu1 : aX s1 0 = some u := by
    have hp := a6.pos
    have e1 : st.toks.length - 1 = s1.toks.length := by omega
    unfold aX at hu ⊢
    rw [a7] at hu
    simp at hu ⊢
    rw [show min 1 s1.toks.length = 0 + 1 by omega] at hu
    simpa using hu
   obtain ⟨s2, b1, b2, b3, b4, b5, b6, b7, b8⟩ := eS a6 hu1 (by omega)
   have hl := hbd c1
   have hp := b6.pos
   have HE' : gC E (b - 1) := HE.resolve_left (by omega)
   obtain ⟨x, s3, d1, d2, d3, d4⟩ := HE' s2 b6 (fun _ => by omega)
   have hl3 := d2.len
   simp only [a1, Option.bind_some, b1, d1]
   refine ⟨_, _, rfl, ?_, Shp.flat _ _ _ _ _ _ (by decide), fun e => by show s3.toks.length < _; omega⟩
   have : fA (.mk 6 t.text 0 [] [] [x]) = 1 + 0 + fA x := by simp [fA, eM]
   rw [this]
   exact ((a8 1 (by simp [T1, c2]) (by simp [T2, c2])).trans (b8 0 (by simp [T1, k9]) (by omega))).trans d2
  ·rw [decide_eq_false k9]
   simp only [Bool.false_eq_true, if_false]
   exact aBd HP hg hb st h hbd
theorem bAm : ∀ (f : Nat), 3 ≤ f → pJ (mO f) (f - 3)
 | 0, h => by omega
 | f + 1, h => by
  by_cases h3 : f = 2
  ·subst h3
   intro st g hb
   have he : st.err ≠ 0 := fun e => by have := hb e; have := g.pos; omega
   unfold mO eQ cY
   rw [if_neg he]
   obtain ⟨t, s2, b1, b2, b3, c, b4, b5⟩ := bBt g
   have he2 : s2.err ≠ 0 := by rw [b2]; exact he
   refine ⟨.mk 4 [] 0 [] [] [], s2, by simp [b1], ⟨b3, fun _ => he2, c, b4, fun e => absurd e he2⟩, Shp.flat _ _ _ _ _ _ (by decide)⟩
  ·have := aIu (f := f) (bAm f (by omega)) (by omega)
   rw [show f - 3 + 1 = f + 1 - 3 by omega] at this
   exact this
theorem aDm (LI E : PF) (f : Nat) : gC (cZ LI E f) 0 := by
 intro st h hb
 have he : st.err ≠ 0 := fun e => by have := hb e; have := h.pos; omega
 obtain ⟨t, r, e, ht, h2, h3⟩ := eL h
 obtain ⟨x, c, s1, a1, a2, a3, a7⟩ := aDn h
 unfold cZ
 rw [a1]
 simp only [Option.bind_some]
 cases c with
 | true => exact absurd (a2 rfl).2.2.1 he
 | false =>
  have := a3 rfl
  subst this
  simp only [Bool.false_eq_true, if_false, ht, Option.bind_some]
  rw [if_neg he]
  exact ⟨_, _, rfl, (Stp.refl h).any he _, Shp.flat _ _ _ _ _ _ (by decide), fun e => absurd e he⟩
theorem aQp : ∀ (f : Nat), 3 ≤ f → f ≤ 1000000 → gC (dU f) (f - 3)
 | 0, h, _ => by omega
 | f + 1, h, hm => by
  by_cases h3 : f = 2
  ·subst h3
   exact bBc (b := 0) (g := 2) (aDm (mO 2) (dU 2) 2) (.inl rfl) (by decide) (by decide)
  ·have HE := aQp f (by omega) (by omega)
   have HL := bAm f (by omega)
   have := bBc (P := cZ (mO f) (dU f) f) (E := dU f) (b := f - 3 + 1) (g := f) (aLg HL HE (by omega) (by omega)) (.inr HE) (by omega) (by omega)
   rw [show f - 3 + 1 = f + 1 - 3 by omega] at this
   exact this
theorem bKv {f : Nat} {l : List Tok} (h : Good l) (hf : l.length + 3 ≤ f) (hm : f ≤ 1000000) : ∃ x at_ e, iW pI f (l, 0, 0) = some (x, at_, e) ∧ (e = 0 → oX l ≤ fA x ∧ fA x ≤ gY l) := by
 unfold iW
 rw [if_pos rfl]
 have h0 : Good (⟨l, 0, 0, 0⟩ : PSt).toks := h
 obtain ⟨ts, s2, b1, b2⟩ := aSy (f := f) h0 (fun _ => by show l.length ≤ f; omega) (by omega)
 have hl2 := b2.len
 have hl2 : s2.toks.length ≤ l.length := hl2
 obtain ⟨ks, s3, k, c1, c2, c3⟩ := aDw (aQp f (by omega) hm) f s2 [] b2.good (fun _ => by omega) (by omega)
 obtain ⟨u, s4, d1, d2, d3⟩ := vA c2.good 0 [] 0 (fun h => absurd rfl h) (fun _ => rfl)
 simp only [pI, Option.bind_some, b1, c1, d1]
 by_cases he : s4.err = 0
 ·rw [if_pos he]
  refine ⟨_, _, _, rfl, fun _ => ?_⟩
  have S := (b2.trans c2).trans d2
  obtain ⟨c, e1, e2⟩ := S.run
  have e1 : l = c ++ s4.toks := e1
  obtain ⟨e3, e4⟩ := e2 he
  obtain ⟨f1, f2⟩ := d3 he
  have hcn : fA (Node.with (.mk 11 [100, 111, 73, 116] 0 [] [] []) ts ks) = ts.length + k + 0 := by
   simp [Node.with, fA, c3, eM]
  have hrest : s4.toks = s3.toks ∧ ∃ t, s3.toks = [t] ∧ t.kind = 0 := by
   obtain ⟨t, r, e, ht, h2, h3⟩ := eL c2.good
   unfold dZ at d1
   rw [pF ht] at d1
   simp only [Option.bind_some] at d1
   cases hc : nS s3 t 0 [] with
   | false =>
    rw [hc] at d1
    simp only [Bool.false_eq_true, if_false, ht, Option.bind_some, aW, bR] at d1
    obtain ⟨_, rfl⟩ := d1
    exact absurd he (pH c2.good t 13 (by decide) 0).2
   | true =>
    rw [hc] at d1
    have hk := (dN hc).2
    rw [if_pos rfl, aOj c2.good e hk] at d1
    simp only [aW, bR] at d1
    obtain ⟨_, rfl⟩ := d1
    exact ⟨rfl, t, by rw [e, h2 hk], hk⟩
  obtain ⟨r1, t, r2, r3⟩ := hrest
  rw [r1, r2] at e1
  rw [e1, hcn]
  simp only [oX, gY, List.map_append, List.sum_append, List.map_cons, List.map_nil, List.sum_cons, List.sum_nil] at e3 e4 ⊢
  have z1 : T1 t = 0 := by simp [T1, r3]
  have z2 : T2 t = 0 := by simp [T2, r3]
  omega
 ·rw [if_neg he]
  exact ⟨_, _, _, rfl, fun e => absurd e he⟩
end Go.Dd

namespace Go.Dd
open Go.Proofs
end Go.Dd

namespace Go.Dd
open Go.Proofs
end Go.Dd

namespace Go.Dd
open Go.Proofs
section
variable {I : Im} {A Q L : Ls} {s : List Nat} {p0 : Int} {k0 : Int} {m0 : Int} {b3 b4 : Pos} {z : List DV}
end
end Go.Dd

namespace Go.Dd
open Go.Proofs
theorem gP {u : List Nat} (h : (aI u).2.1 = 0) : (aI u).1 = u.take (aI u).2.2 := by
 unfold aI at h ⊢
 split at h
 ·cases h
 ·rename_i hn
  rw [if_neg hn]
  exact (nA cT u).symm
theorem uI (u : List Nat) : (aI u).2.2 = (u.takeWhile cT).length := by
 unfold aI; split <;> rfl
theorem aCi {u : List Nat} (h : cK u = true) : ∃ v, u = 58 :: v := by
 unfold cK at h
 cases u with
 | nil => simp [nx] at h
 | cons c v =>
  simp [nx] at h
  exact ⟨v, by rw [h.1]⟩
theorem mU {u : List Nat} {n : Nat} (h : cK (u.drop n) = true) : u.take (n + 1) = u.take n ++ [58] := by
 obtain ⟨v, e⟩ := aCi h
 have : u[n]? = some 58 := by
  have : (u.drop n)[0]? = some 58 := by rw [e]; rfl
  simpa [aJ] using this
 rw [List.take_add_one, this]
 rfl
theorem lF : ∀ (f : Nat) (out u : List Nat) (res : List Nat × Int × Nat), lS f out u = some res → res.2.2 ≤ u.length ∧ (res.2.1 = 0 → res.1 = out ++ u.take res.2.2) := by
 intro f
 induction f with
 | zero => intro out u res h; cases h
 | succ f ih =>
  intro out u res h
  unfold lS at h
  have hn := iL u
  split at h
  ·split at h
   ·rename_i h1 h2
    have hc := gX h2
    simp at hc
    split at h
    ·rename_i h3
     obtain ⟨r, hr, h⟩ := bD h
     cases h
     obtain ⟨a1, a2⟩ := ih _ _ _ hr
     simp at a1
     refine ⟨by show r.2.2 + ((aI u).2.2 + 1) ≤ _; omega, fun he => ?_⟩
     show r.1 = out ++ u.take (r.2.2 + ((aI u).2.2 + 1))
     rw [a2 he, gP h3, Nat.add_comm r.2.2, List.take_add, mU h2]
     simp
    ·cases h
     refine ⟨by show (aI u).2.2 + 1 ≤ _; omega, fun he => ?_⟩
     rename_i h3
     exact absurd he h3
   ·cases h
    exact ⟨by simp, fun _ => by simp⟩
  ·cases h
   exact ⟨by simp, fun _ => by simp⟩
theorem jN {f : Nat} {u : List Nat} {res : List Nat × Int × Nat} (h : dF f u = some res) : res.2.2 ≤ u.length ∧ (res.2.1 = 0 → res.1 = u.take res.2.2) := by
 unfold dF at h
 have hn := iL u
 split at h
 ·split at h
  ·split at h
   ·rename_i h3
    split at h
    ·rename_i h4
     obtain ⟨r, hr, h⟩ := bD h
     cases h
     have hc := gX h4
     simp at hc
     obtain ⟨a1, a2⟩ := lF _ _ _ _ hr
     simp at a1
     refine ⟨by show r.2.2 + ((aI u).2.2 + 1) ≤ _; omega, fun he => ?_⟩
     show r.1 = u.take (r.2.2 + ((aI u).2.2 + 1))
     rw [a2 he, gP h3, Nat.add_comm r.2.2, List.take_add, mU h4]
    ·cases h
     exact ⟨hn, fun _ => gP h3⟩
   ·cases h
    rename_i h3
    exact ⟨hn, fun he => absurd he h3⟩
  ·cases h
   exact ⟨by simp, fun he => (by cases he)⟩
 ·cases h
  exact ⟨nQ _ _ _, fun _ => rfl⟩
section
variable {I : Im} {A Q L : Ls} {s : List Nat} {b3 b4 : Pos} {z : List DV}
end
end Go.Dd

namespace Go.Dd
theorem bBl : ∀ (f : Nat) (out u : List Nat), u.length < f → ∃ res, iO f out u = some res ∧ res.2.2 ≤ u.length ∧ (res.2.1 = 0 → 1 ≤ res.2.2 ∧ res.1.length ≤ out.length + u.length)
 | 0, out, u, h => by omega
 | f + 1, out, u, h => by
  have hl := mZ bW u
  unfold iO
  by_cases h1 : (u.takeWhile bW).length = u.length
  ·rw [if_pos h1]
   exact ⟨_, rfl, Nat.le_refl _, fun e => by cases e⟩
  ·rw [if_neg h1]
   by_cases h2 : nx u ((u.takeWhile bW).length + 1) = 39
   ·rw [if_pos h2]
    have h3 : (u.takeWhile bW).length + 1 < u.length := by
     apply Decidable.byContradiction
     intro hn
     rw [nx, List.getD, List.getElem?_eq_none (by omega)] at h2
     cases h2
    obtain ⟨res, a1, a2, a3⟩ := bBl f (out ++ u.takeWhile bW ++ [39]) (u.drop ((u.takeWhile bW).length + 2)) (by simp; omega)
    rw [a1]
    simp at a2
    refine ⟨_, rfl, by show res.2.2 + _ ≤ _; omega, fun e => ?_⟩
    obtain ⟨b1, b2⟩ := a3 e
    simp at b2
    refine ⟨by show 1 ≤ res.2.2 + _; omega, ?_⟩
    show res.1.length ≤ _
    omega
   ·rw [if_neg h2]
    refine ⟨_, rfl, by show _ + 1 ≤ _; omega, fun _ => ⟨by show 1 ≤ _ + 1; omega, ?_⟩⟩
    show (out ++ u.takeWhile bW).length ≤ _
    simp
    omega
theorem bBp : ∀ (f : Nat) (out u : List Nat), u.length < f → ∃ res, lS f out u = some res
 | 0, out, u, h => by omega
 | f + 1, out, u, h => by
  unfold lS
  split
  ·split
   ·rename_i h1 h2
    split
    ·have hc := gX h2
     simp at hc
     obtain ⟨res, a1⟩ := bBp f (out ++ ((aI u).1 ++ [58])) (u.drop ((aI u).2.2 + 1)) (by simp; omega)
     rw [a1]
     exact ⟨_, rfl⟩
    ·exact ⟨_, rfl⟩
   ·exact ⟨_, rfl⟩
  ·exact ⟨_, rfl⟩
theorem nP {u : List Nat} (h : bF (nx u 0) = true) : 1 ≤ (aI u).2.2 := by
 rw [uI]
 cases u with
 | nil => simp [nx, bF] at h
 | cons c u =>
  have : cT c = true := by
   have : bF c = true := h
   simp [cT, this]
  simp [this]
theorem aTz {f : Nat} {u : List Nat} (h : u.length < f) : ∃ res, dF f u = some res := by
 unfold dF
 split
 ·split
  ·split
   ·split
    ·obtain ⟨res, a1⟩ := bBp f ((aI u).1 ++ [58]) (u.drop ((aI u).2.2 + 1)) (by simp; omega)
     rw [a1]
     exact ⟨_, rfl⟩
    ·exact ⟨_, rfl⟩
   ·exact ⟨_, rfl⟩
  ·exact ⟨_, rfl⟩
 ·exact ⟨_, rfl⟩
theorem aGy {l : List Nat} {m : Nat} (hm : 1 ≤ m) {u : List Nat} (hu : u ≠ []) (h : cU l (nx u 0) = true) : 1 ≤ bH (cU l) m u := by
 obtain ⟨m, rfl⟩ : ∃ k, m = k + 1 := ⟨m - 1, by omega⟩
 cases u with
 | nil => exact absurd rfl hu
 | cons c u =>
  have : cU l c = true := h
  simp [bH, this]
theorem aKg {f : Nat} {u : List Nat} (hu : u ≠ []) (h : u.length < f) : ∃ res, aY f u = some res ∧ (res.2.2.2.1 = 0 → 1 ≤ res.2.2.2.2 ∧ res.2.2.2.2 ≤ u.length ∧ res.1 ≠ 0 ∧ res.2.1.length ≤ u.length) := by
 have hn := iL u
 have hf := jD u
 have hpos : 1 ≤ u.length := by cases u with
  | nil => exact absurd rfl hu
  | cons => simp
 unfold aY
 by_cases h1 : bF (nx u 0) = true
 ·have hp := nP h1
  rw [if_pos h1]
  by_cases h2 : (aI u).2.1 = 0
  ·rw [if_pos h2]
   by_cases h3 : cK (u.drop (aI u).2.2) = true
   ·rw [if_pos h3]
    have hc := gX h3
    simp at hc
    refine ⟨_, rfl, fun _ => ⟨by show 1 ≤ _ + 1; omega, by show _ + 1 ≤ _; omega, by show (2 : Int) ≠ 0; decide, ?_⟩⟩
    show ((aI u).1 ++ [58]).length ≤ _
    simp; omega
   ·rw [if_neg h3]
    exact ⟨_, rfl, fun _ => ⟨hp, hn, by show (1 : Int) ≠ 0; decide, by show (aI u).1.length ≤ _; omega⟩⟩
  ·rw [if_neg h2]
   exact ⟨_, rfl, fun e => absurd e h2⟩
 ·rw [if_neg h1]
  by_cases h2 : aS (nx u 0) = true
  ·rw [if_pos h2]
   have hl := mZ aS u
   refine ⟨_, rfl, fun _ => ⟨?_, hl, by show (4 : Int) ≠ 0; decide, by simp⟩⟩
   show 1 ≤ (u.takeWhile aS).length
   cases u with
   | nil => exact absurd rfl hu
   | cons c u =>
    have : aS c = true := h2
    simp [this]
  ·rw [if_neg h2]
   by_cases h3 : nx u 0 = 39
   ·rw [if_pos h3]
    obtain ⟨res, a1, a2, a3⟩ := bBl f [] (u.drop 1) (by simp; omega)
    rw [a1]
    simp at a2
    refine ⟨_, rfl, fun e => ?_⟩
    obtain ⟨b1, b2⟩ := a3 e
    simp at b2
    exact ⟨by show 1 ≤ res.2.2 + 1; omega, by show res.2.2 + 1 ≤ _; omega, by show (5 : Int) ≠ 0; decide, by show res.1.length ≤ _; omega⟩
   ·rw [if_neg h3]
    by_cases h4 : nx u 0 = 35
    ·rw [if_pos h4]
     by_cases h5 : nx u 1 = 40
     ·rw [if_pos h5]
      have : 1 < u.length := by
       apply Decidable.byContradiction
       intro hn
       rw [nx, List.getD, List.getElem?_eq_none (by omega)] at h5
       cases h5
      exact ⟨_, rfl, fun _ => ⟨by show 1 ≤ 2; omega, by show 2 ≤ _; omega, by show (7 : Int) ≠ 0; decide, by simp⟩⟩
     ·rw [if_neg h5]
      obtain ⟨res, a1⟩ := aTz (f := f) (u := u.drop 1) (by simp; omega)
      obtain ⟨b1, b2⟩ := jN a1
      rw [a1]
      simp at b1
      refine ⟨_, rfl, fun e => ⟨by show 1 ≤ res.2.2 + 1; omega, by show res.2.2 + 1 ≤ _; omega, by show (6 : Int) ≠ 0; decide, ?_⟩⟩
      show res.1.length ≤ _
      rw [b2 e]
      simp; omega
    ·rw [if_neg h4]
     by_cases h5 : nx u 0 = 58 ∧ nx u 1 = 61
     ·rw [if_pos h5]
      have : 1 < u.length := by
       apply Decidable.byContradiction
       intro hn
       have := h5.2
       rw [nx, List.getD, List.getElem?_eq_none (by omega)] at this
       cases this
      exact ⟨_, rfl, fun _ => ⟨by show 1 ≤ 2; omega, by show 2 ≤ _; omega, by show (9 : Int) ≠ 0; decide, by simp⟩⟩
     ·rw [if_neg h5]
      by_cases h6 : nx u 0 = 58 ∧ bF (nx u 1) = true
      ·rw [if_pos h6]
       have n1 := iL (u.drop 1)
       have n2 := jD (u.drop 1)
       rw [List.length_drop] at n1
       exact ⟨_, rfl, fun _ => ⟨by show 1 ≤ _ + 1; omega, by show _ + 1 ≤ _; omega, by show (8 : Int) ≠ 0; decide, by show (aI (u.drop 1)).1.length ≤ _; omega⟩⟩
      ·rw [if_neg h6]
       by_cases h7 : cU signs (nx u 0) = true
       ·rw [if_pos h7]
        have r1 := aGy (m := 2) (by omega) hu h7
        have r2 := nQ (cU signs) 2 u
        refine ⟨_, rfl, fun _ => ⟨r1, r2, by show (3 : Int) ≠ 0; decide, ?_⟩⟩
        show (u.take _).length ≤ _
        simp; omega
       ·rw [if_neg h7]
        by_cases h8 : cU dE (nx u 0) = true
        ·rw [if_pos h8]
         have r1 := aGy (m := 1) (by omega) hu h8
         have r2 := nQ (cU dE) 1 u
         refine ⟨_, rfl, fun _ => ⟨r1, r2, by show (10 : Int) ≠ 0; decide, ?_⟩⟩
         show (u.take _).length ≤ _
         simp; omega
        ·rw [if_neg h8]
         exact ⟨_, rfl, fun e => (by cases e)⟩
theorem aNd {g : Nat} {s : List Nat} (hg : s.length < g) (hs : s.length ≤ 10000) : ∀ (f i : Nat) (out : List Tok), i ≤ s.length → s.length < f + i → ∃ res, hU g s f i out = some res ∧
 (res.2.2 = 0 → ∃ l e, res.1 = out ++ l ++ [e] ∧ e.kind = 0 ∧ e.text = [] ∧ (∀ t ∈ l, t.kind ≠ 0 ∧ t.text.length ≤ 10000) ∧ l.length + i ≤ s.length)
 | 0, i, out, hi, hf => by omega
 | f + 1, i, out, hi, hf => by
  unfold hU
  have hle := mZ (cU bS) (s.drop i)
  have hdl : (s.drop i).length = s.length - i := by simp
  generalize hw : ((s.drop i).takeWhile (cU bS)).length = w at hle
  by_cases h1 : s.length ≤ i + w
  ·rw [if_pos h1]
   exact ⟨_, rfl, fun _ => ⟨[], _, by simp; rfl, rfl, rfl, by simp, by simp; omega⟩⟩
  ·rw [if_neg h1]
   by_cases h2 : nx s (i + w) = 34
   ·rw [if_pos h2]
    by_cases h3 : cO 34 (s.drop (i + w + 1)) 0 < 0
    ·rw [if_pos h3]
     exact ⟨_, rfl, fun e => (by cases e)⟩
    ·rw [if_neg h3]
     obtain ⟨k, k1, k2⟩ := kM 34 _ _ h3
     rw [k2]
     simp at k1
     simp only [Nat.zero_add, Int.toNat_natCast]
     obtain ⟨res, a1, a2⟩ := aNd hg hs f (i + w + k + 2) out (by omega) (by omega)
     refine ⟨res, a1, fun e => ?_⟩
     obtain ⟨l, e', b1, b2, b3, b4, b5⟩ := a2 e
     exact ⟨l, e', b1, b2, b3, b4, by omega⟩
   ·rw [if_neg h2]
    have hu : s.drop (i + w) ≠ [] := by
     intro h
     have := congrArg List.length h
     simp at this
     omega
    obtain ⟨rs, c1, c2⟩ := aKg (f := g) hu (by simp; omega)
    rw [c1]
    simp only [Option.bind_some]
    by_cases h4 : rs.2.2.2.1 = 0
    ·rw [if_pos h4]
     obtain ⟨d1, d2, d3, d4⟩ := c2 h4
     rw [if_neg (by omega)]
     simp at d2 d4
     obtain ⟨res, a1, a2⟩ := aNd hg hs f (i + w + rs.2.2.2.2) (out ++ [⟨rs.1, rs.2.1, rs.2.2.1, ((i + w : Nat) : Int)⟩]) (by omega) (by omega)
     refine ⟨res, a1, fun e => ?_⟩
     obtain ⟨l, e', b1, b2, b3, b4, b5⟩ := a2 e
     refine ⟨⟨rs.1, rs.2.1, rs.2.2.1, ((i + w : Nat) : Int)⟩ :: l, e', by rw [b1]; simp, b2, b3, ?_, by simp; omega⟩
     intro t ht
     rcases List.mem_cons.1 ht with rfl | ht
     ·exact ⟨d3, by show rs.2.1.length ≤ _; omega⟩
     ·exact b4 t ht
    ·rw [if_neg h4]
     exact ⟨_, rfl, fun e => absurd e h4⟩
theorem bKo {s : List Nat} (hs : s.length ≤ 2000) : ∃ res, nM 2001 2001 s = some res ∧ (res.2.2 = 0 → Good res.1 ∧ res.1.length ≤ 2001) := by
 unfold nM
 rw [if_neg (by omega)]
 obtain ⟨res, a1, a2⟩ := aNd (g := 2001) (s := s) (by omega) (by omega) 2001 0 [] (by omega) (by omega)
 refine ⟨res, a1, fun e => ?_⟩
 obtain ⟨l, e', b1, b2, b3, b4, b5⟩ := a2 e
 rw [b1]
 simp only [List.nil_append]
 refine ⟨⟨l, e', rfl, b2, fun t ht => (b4 t ht).1, fun t ht => ?_⟩, by simp; omega⟩
 rcases List.mem_append.1 ht with ht | ht
 ·exact (b4 t ht).2
 ·simp at ht
  subst ht
  rw [b3]; simp
end Go.Dd

namespace Go.Dd
open Go.Proofs
section
variable {I : Im} {A Q L : Ls} {s : List Nat} {b4 b7 : Pos} {z : List DV}
end
end Go.Dd

namespace Go.Dd
open Go.Proofs
theorem bJa {a b : Nat} (h : a + b ≤ cA) : IntKind.i64.wrap ((a : Int) + (b : Int)) = ((a + b : Nat) : Int) := by
 rw [gE _ (by omega) (by simp [cA] at h ⊢; omega)]
 omega
theorem aBx {a : Nat} (h : a + 1 ≤ cA) : IntKind.i64.wrap ((a : Int) + Int.ofNat 1) = ((a + 1 : Nat) : Int) := bJa (b := 1) h
end Go.Dd

namespace Go.Dd
open Go.Proofs
mutual
def nEq : Node → Node → Bool
 | .mk k t m ns ts ks, .mk k' t' m' ns' ts' ks' => decide (ns = ns') && decide (ts = ts') && decide (k = k') && decide (t = t') && decide (m = m') && oT ks ks'
def oT : List Node → List Node → Bool
 | [], [] => true
 | x :: l, y :: l' => nEq x y && oT l l'
 | _, _ => false
end
mutual
theorem aAv : ∀ (x : Node), nEq x x = true
 | .mk k t m ns ts ks => by simp [nEq, uX ks]
theorem uX : ∀ (x : List Node), oT x x = true
 | [] => rfl
 | x :: l => by simp [oT, aAv x, uX l]
end
theorem zO : ∀ (x y : List Node), x.length ≠ y.length → oT x y = false
 | [], [], h => absurd rfl h
 | [], _ :: _, h => rfl
 | _ :: _, [], h => rfl
 | x :: l, y :: l', h => by
  simp at h
  simp [oT, zO l l' h]
theorem SS.at {I : Im} {s : DV} {l : List (List Nat)} (H : SS I s l) {A Q L : Ls} {h : Hp} (S : Sy I A Q L h) {i : Nat} {x : List Nat} (hi : l[i]? = some x) :
 ∃ b o, (∀ h', aZ 1 s (.i .i64 (i : Int)) h' = some (.p b o, h')) ∧ aB (.p b o) h = some (.s x, h) := by
 obtain ⟨hlt, hg⟩ := List.getElem?_eq_some_iff.1 hi
 obtain ⟨b, o, e, k, row, g, rest, d⟩ := H.2.at S hlt
 refine ⟨b, o, e, ld1 g ?_ rfl⟩
 have e2 : row[o]? = (row.drop o)[0]? := by simp
 rw [e2, d, Nat.mul_one, List.drop_eq_getElem_cons (by simpa using hlt)]
 simp [hg]
section
variable {I : Im} {A Q L : Ls}
end
end Go.Dd

namespace Go.Dd
def nF (c : Nat) : Bool := (decide (97 ≤ c) && decide (c ≤ 122)) || (decide (65 ≤ c) && decide (c ≤ 90))
def bX (s : List Nat) : Nat := if 0 ≤ cO 58 s 0 then 3 else match s with
 | [] => 2
 | c :: _ => if nF c = true then 1 else 2
def iR (k : Int) (t : List Nat) : Nat := if k = 7 then bX t else if k = 8 then 4 else if k = 6 then 5 else 0
def fZ (s : List Nat) : List (List Nat) := (cH 58 [] s).dropLast
def bI (l : List (Nat × List Nat)) (i h : Nat) : List Nat := match l[i]? with
 | none => []
 | some (own, x) => if own > h then 40 :: (x ++ [41]) else x
def eX (ps : List (List Nat)) (args : List (Nat × List Nat)) (i : Nat) : List (List Nat) := match ps with
 | [] => []
 | p :: ps => (p ++ 32 :: bI args i 2) :: eX ps args (i + 1)
def aQ (s : List Nat) (args : List (Nat × List Nat)) : List Nat :=
 if bX s = 1 then s else if bX s = 2 then s ++ 32 :: bI args 0 1 else aF [32] (eX (fZ s) args 0)
def eP (s : List Nat) (kids : List (Nat × List Nat)) : List Nat :=
 if kids.length = 0 then [] else bI kids 0 (if bX s = 1 then 1 else 2) ++ 32 :: aQ s (kids.drop 1)
def aV (ts : List (List Nat)) (kids : List (List Nat)) : List Nat :=
 (if ts.length = 0 then [] else 124 :: 32 :: (aF [32] ts ++ [32, 124, 32])) ++ aF [46, 32] kids
structure Nf where
 k : Int
 t : List Nat
 tx : List Nat
 ks : List (Nat × List Nat)
def Nf.ht (x : Nf) : Nat × List Nat := (iR x.k x.t, x.tx)
def iN (l : List Nf) : List Nat := match l with
 | a :: b :: r => eP b.t (a.ht :: b.ks) ++ aF [] (r.map fun x => 59 :: 32 :: aQ x.t x.ks)
 | _ => []
def bC : List (List Nat) → List Nat
 | [] => []
 | p :: l => 58 :: (p ++ 32 :: bC l)
def tN (k : Int) (t : List Nat) (m : Int) (ns ts : List (List Nat)) (l : List Nf) : List Nat :=
 if k = 1 then iV m
 else if k = 2 then 39 :: (cS 39 [39, 39] t ++ [39])
 else if k = 3 then 35 :: t
 else if k = 4 then 35 :: 40 :: (aF [32] (l.map Nf.tx) ++ [41])
 else if k = 6 then t ++ 32 :: 58 :: 61 :: 32 :: aF [] (l.map Nf.tx)
 else if k = 10 then 94 :: aF [] (l.map Nf.tx)
 else if k = 7 then eP t (l.map Nf.ht)
 else if k = 8 then iN l
 else if k = 9 then 91 :: ((if bC ns = [] then [] else bC ns ++ [124, 32]) ++ (aV ts (l.map Nf.tx) ++ [93]))
 else t
mutual
def nf : Node → Nf
 | .mk k t m ns ts ks => ⟨k, t, tN k t m ns ts (oE ks), (oE ks).map Nf.ht⟩
def oE : List Node → List Nf
 | [] => []
 | x :: l => nf x :: oE l
end
theorem nV : ∀ l, oE l = l.map nf
 | [] => rfl
 | x :: l => by simp [oE, nV l]
end Go.Dd

namespace Go.Dd
open Go.Proofs
theorem aYs (n : Nat) (x : DV) (h : Hp) : aL (n + 1) 32 [x] h = s32 (aL n) n x h := by kernel_rfl
theorem aJz (n : Nat) (x : DV) (h : Hp) : aL (n + 1) 126 [x] h = s126 (aL n) n x h := by kernel_rfl
theorem aVb (n : Nat) (x : DV) (h : Hp) : aL (n + 1) 33 [x] h = s33 (aL n) n x h := by kernel_rfl
theorem aXt (n : Nat) (x y : DV) (h : Hp) : aL (n + 1) 58 [x, y] h = s58 (aL n) n x y h := by kernel_rfl
theorem aTo (n : Nat) (x : DV) (h : Hp) : aL (n + 1) 19 [x] h = s19 (aL n) n x h := by kernel_rfl
theorem aTs {c : Nat} (h : (97 ≤ c ∧ c ≤ 122) ∨ (65 ≤ c ∧ c ≤ 90)) : nF c = true := by simp [nF]; omega
theorem aVh {c : Nat} (h : ¬ ((97 ≤ c ∧ c ≤ 122) ∨ (65 ≤ c ∧ c ≤ 90))) : nF c = false := by
 cases e : nF c with
 | false => rfl
 | true => exfalso; apply h; simp [nF] at e; omega
theorem oN (s : List Nat) (h : Hp) : Ev (fun n => aL n 32 [.s s] h) (fun v h' => v = .i .i64 (bX s : Int) ∧ h' = h) := by
 refine Ev.enter (fun n => aYs n _ h) ?_
 unfold s32
 refine bOm (rH s 58 (by decide) h) ?_
 rintro _ h ⟨rfl, rfl⟩
 refine bPy (fun e => ?_) (fun e => ?_)
 ·have e' : (0 : Int) ≤ cO 58 s 0 := e
  refine yt ?_
  refine bOo ⟨?_, rfl⟩
  unfold bX
  rw [if_pos e']; rfl
 ·have e' : ¬ (0 : Int) ≤ cO 58 s 0 := e
  refine yj ?_
  cases s with
  | nil =>
   refine Ev.op (show gF .neq (.s []) (.s []) h = some (.b false, h) from rfl) ?_
   refine yf (yf (yf (yf (yu (yu (yu (yf (yf (yu (yu (yu (yu (yu (yu (yu (yu (yf (aq (yj ?_)))))))))))))))))))
   refine bOo ⟨?_, rfl⟩
   unfold bX
   rw [if_neg e']; rfl
  | cons c l =>
   have ei : dX (.s (c :: l)) (.i .i64 (Int.ofNat 0)) h = some (.i .u8 (c : Int), h) := by simp [dX]
   have ek : bX (c :: l) = if nF c = true then 1 else 2 := by
    unfold bX
    rw [if_neg e']
   have k1 : ((97 ≤ c ∧ c ≤ 122) ∨ (65 ≤ c ∧ c ≤ 90)) → (bX (c :: l) : Int) = Int.ofNat 1 := fun hh => by rw [ek, aTs hh]; rfl
   have k2 : ¬ ((97 ≤ c ∧ c ≤ 122) ∨ (65 ≤ c ∧ c ≤ 90)) → (bX (c :: l) : Int) = Int.ofNat 2 := fun hh => by rw [ek, aVh hh]; rfl
   refine Ev.op (show gF .neq (.s (c :: l)) (.s []) h = some (.b true, h) from rfl) ?_
   refine zt (wm (zt ?_))
   refine Ev.op ei ?_
   refine zt ?_
   refine bPy (fun e1 => ?_) (fun e1 => ?_)
   ·have e1' : 97 ≤ c := by have h0 := e1; simp at h0; omega
    refine zt (wm (zt (wm (zt ?_))))
    refine Ev.op ei ?_
    refine zt ?_
    refine bQm (fun e2 => ?_) (fun e2 => ?_)
    ·have e2' : c ≤ 122 := by have h0 := e2; simp at h0; omega
     refine zt (ap (zt (wm (yg (yg (yg (yg (yu (yu (yu (yg (zt (ap (ap (yt ?_)))))))))))))))
     exact bOo ⟨by rw [k1 (by omega)], rfl⟩
    ·have e2' : ¬ c ≤ 122 := by have h0 := e2; simp at h0; omega
     refine zt (ap (zt (wm (zf (wm (zf ?_))))))
     refine Ev.op ei ?_
     refine zf ?_
     refine bPy (fun e3 => ?_) (fun e3 => ?_)
     ·refine zf (wm (zt (wm (zt ?_))))
      refine Ev.op ei ?_
      refine zt ?_
      refine bQm (fun e4 => ?_) (fun e4 => ?_)
      ·have e4' : c ≤ 90 := by have h0 := e4; simp at h0; omega
       omega
      ·refine zf (ap (zt (aq (ap (yj ?_)))))
       exact bOo ⟨by rw [k2 (by omega)], rfl⟩
     ·have e3' : ¬ 65 ≤ c := by have h0 := e3; simp at h0; omega
      omega
   ·have e1' : ¬ 97 ≤ c := by have h0 := e1; simp at h0; omega
    refine zt (wm (yf (yf (yf (zt (aq (zt (wm (zf (wm (zf ?_)))))))))))
    refine Ev.op ei ?_
    refine zf ?_
    refine bPy (fun e3 => ?_) (fun e3 => ?_)
    ·have e3' : 65 ≤ c := by have h0 := e3; simp at h0; omega
     refine zf (wm (zt (wm (zt ?_))))
     refine Ev.op ei ?_
     refine zt ?_
     refine bQm (fun e4 => ?_) (fun e4 => ?_)
     ·have e4' : c ≤ 90 := by have h0 := e4; simp at h0; omega
      refine zf (ap (zt (aq (ap (yt ?_)))))
      exact bOo ⟨by rw [k1 (by omega)], rfl⟩
     ·have e4' : ¬ c ≤ 90 := by have h0 := e4; simp at h0; omega
      refine zf (ap (zt (aq (ap (yj ?_)))))
      exact bOo ⟨by rw [k2 (by omega)], rfl⟩
    ·have e3' : ¬ 65 ≤ c := by have h0 := e3; simp at h0; omega
     refine zf (wm (yf (yf (yf (zf (aq (zt (aq (ap (yj ?_))))))))))
     exact bOo ⟨by rw [k2 (by omega)], rfl⟩
theorem aAu {I : Im} {A Q L : Ls} {h : Hp} (S : Sy I A Q L h) {x : Node} {cs : List DV} (N : NV I x cs) :
 Ev (fun n => aL n 126 [.a cs] h) (fun v h' => v = .i .i64 (((nf x).ht).1 : Int) ∧ Sy I A Q L h') := by
 refine Ev.enter (fun n => aJz n _ h) ?_
 unfold s126
 obtain ⟨k, t, m, ns, ts, ks⟩ := x
 obtain ⟨s1, s2, s3, rfl, a, b, c, cells, F, NL⟩ := N
 have o1 := a.2.one
 have o2 := b.2.one
 have o3 := F.one
 have eh : ((nf (.mk k t m ns ts ks)).ht).1 = iR k t := by simp [nf, Nf.ht]
 rw [eh]
 refine wb fun _ _ _ => ?_; refine wf ?_; refine wl ?_
 refine bOr (fun e1 => ?_) (fun e1 => ?_)
 ·refine yt (wf ?_); refine wl ?_
  refine bOm (oN t _) ?_
  rintro _ h1 ⟨rfl, rfl⟩
  refine bOo ⟨?_, dp⟩
  rw [iR, if_pos (by simpa using e1)]
 ·refine bPk ?_
  refine bOr (fun e2 => ?_) (fun e2 => ?_)
  ·refine yt ?_
   refine bOo ⟨?_, dp⟩
   rw [iR, if_neg (by simpa using e1), if_pos (by simpa using e2)]; rfl
  ·refine bPk ?_
   refine bOr (fun e3 => ?_) (fun e3 => ?_)
   ·refine yt ?_
    refine bOo ⟨?_, dp⟩
    rw [iR, if_neg (by simpa using e1), if_neg (by simpa using e2), if_pos (by simpa using e3)]; rfl
   ·refine yj ?_
    refine bOo ⟨?_, dp⟩
    rw [iR, if_neg (by simpa using e1), if_neg (by simpa using e2), if_neg (by simpa using e3)]; rfl
end Go.Dd

namespace Go.Dd
open Go.Proofs
theorem uM : ∀ l : List (List Nat), kW (l.map .s) = some l
 | [] => rfl
 | x :: l => by simp [kW, uM l]
theorem aIi {x : DV} {h : Hp} {n : Nat} {l : List (List Nat)} {sep : List Nat} (hx : ∀ t, x ≠ .s t) (e : lP 1 x h = some (n, l.map .s)) (h1 : (aF sep l).length ≤ 100000000000) (h2 : n ≤ 100000000000) (hc : aOq x = true) :
 kI [x, .s sep] h = some (.s (aF sep l), h) := by
 have e1 : Nat.ble (aF sep l).length 100000000000 = true := Nat.ble_eq_true_of_le h1
 have e2 : Nat.ble n 100000000000 = true := Nat.ble_eq_true_of_le h2
 have key : kI [x, .s sep] h = (match lP 1 x h with
  | some (n, cells) => match kW cells with
   | some l => bif Nat.ble (aF sep l).length 100000000000 then (bif Nat.ble n 100000000000 && aOq x then some (.s (aF sep l), h) else none) else none
   | none => none
  | none => none) := by
  cases x <;> first | rfl | exact absurd rfl (hx _)
 rw [key, e]
 simp only [uM, e1, e2, hc, cond_true, Bool.and_self]
theorem Fz.cap {I : Im} {sz : Nat} {s : DV} {len : Nat} {cells : List DV} (H : Fz I sz s len cells) : aOq s = true ∧ ∀ t, s ≠ .s t := by
 rcases H with ⟨rfl | rfl, _⟩ | ⟨b, o, cap, k, row, rest, rfl, h2, _⟩
 ·exact ⟨rfl, fun t e => by cases e⟩
 ·exact ⟨rfl, fun t e => by cases e⟩
 ·exact ⟨Nat.ble_eq_true_of_le h2, fun t e => by cases e⟩
theorem SS.join {I : Im} {s : DV} {l : List (List Nat)} (H : SS I s l) {A Q L : Ls} {h : Hp} (S : Sy I A Q L h) {sep : List Nat} (h1 : (aF sep l).length ≤ 100000000000) : kI [s, .s sep] h = some (.s (aF sep l), h) := by
 obtain ⟨hl, F⟩ := H
 exact aIi F.cap.2 (F.src S) h1 (by simp [cA] at hl; omega) F.cap.1
theorem eV {I : Im} {A Q L : Ls} {h : Hp} {b : Pos} {n : Nat} (l : List (List Nat)) (S : Sy I A Q L h) (m : (b, some (.row .ex (l.map .s))) ∈ L) (hn : n = l.length) (h1 : (aF [] l).length ≤ 100000000000) (h2 : l.length ≤ 1000) :
 Ev (fun k => aL k 19 [.l b 0 n n] h) (fun v h' => v = .s (aF [] l) ∧ h' = h) := by
 refine Ev.enter (fun n => aTo n _ h) ?_
 unfold s19
 have e : lP 1 (.l b 0 n n) h = some (n, l.map .s) := nI S m (by simp [hn]) (fun v hv => by
  obtain ⟨t, _, rfl⟩ := List.mem_map.1 hv
  rfl)
 have e2 : kI [.l b 0 n n, .s []] h = some (.s (aF [] l), h) := aIi (fun t e => by cases e) e h1 (by omega) (Nat.ble_eq_true_of_le (Nat.le_refl _))
 refine Ev.op e2 ?_
 exact bOo ⟨rfl, rfl⟩
theorem mV (c : Nat) : ∀ (s acc : List Nat), 1 ≤ (cH c acc s).length ∧ (cH c acc s).length ≤ s.length + 1
 | [], acc => by simp [cH]
 | x :: s, acc => by
  unfold cH
  cases Nat.beq x c with
  | true => have := mV c s []; simp; omega
  | false => have := mV c s (acc ++ [x]); simp; omega
theorem aJv {I : Im} {A Q L : Ls} {h : Hp} (S : Sy I A Q L h) {s : List Nat} (hs : s.length ≤ 1000000000) :
 Ev (fun n => aL n 33 [.s s] h) (fun v h' => ∃ J, ILe I J ∧ Sy J A Q L h' ∧ SS J v (fZ s)) := by
 refine Ev.enter (fun n => aVb n _ h) ?_
 unfold s33
 obtain ⟨p1, p2⟩ := mV 58 s []
 generalize hps : cH 58 [] s = ps at p1 p2
 have e58 : Ev (fun n => aL n 58 [.s s, .s [58]] h) (fun v h' => v = .l h.next 0 ps.length ps.length ∧ h' = nw (.row .ex (ps.map .s)) h) := by
  refine Ev.enter (fun n => aXt n _ _ h) ?_
  unfold s58
  refine Ev.op (show gN (.s [58]) h = some (.i .i64 1, h) from rfl) ?_
  have e1 : Nat.ble s.length 4000000000 = true := Nat.ble_eq_true_of_le (by omega)
  have e : nW [.s s, .s [58], .i .i64 1, .i .i64 (Int.negSucc 0)] h = some (.l h.next 0 ps.length ps.length, nw (.row .ex (ps.map .s)) h) := by
   show (bif Nat.blt 58 256 then (bif Nat.ble s.length 4000000000 then (fun l => some (DV.l h.next 0 l.length l.length, (⟨h.next.succ, Tr.set (.row .ex (l.map DV.s)) h.next h.bl⟩ : Hp))) (cH 58 [] s) else none) else none) = _
   rw [e1, hps]
   rfl
  refine Ev.op e ?_
  exact bOo ⟨rfl, rfl⟩
 refine bOm e58 ?_
 rintro _ _ ⟨rfl, rfl⟩
 refine Ev.op (show gZ (.l h.next 0 ps.length ps.length) (nw (.row .ex (ps.map .s)) h) = some (.i .i64 (ps.length : Int), nw (.row .ex (ps.map .s)) h) from rfl) ?_
 refine bQg ?_
 have S1 := S.new (.row .ex (ps.map DV.s))
 obtain ⟨S2, g⟩ := S1.freeze
 have hw : IntKind.i64.wrap ((ps.length : Int) - Int.ofNat 1) = ((ps.length - 1 : Nat) : Int) := by
  rw [show (ps.length : Int) - Int.ofNat 1 = ((ps.length - 1 : Nat) : Int) by simp; omega]
  have := bJa (a := ps.length - 1) (b := 0) (by simp only [cA]; omega)
  simpa [aJ] using this
 rw [hw]
 have e : cQ 1 (.l h.next 0 ps.length ps.length) none (some (.i .i64 ((ps.length - 1 : Nat) : Int))) (nw (.row .ex (ps.map DV.s)) h) = some (.l h.next 0 (ps.length - 1) ps.length, nw (.row .ex (ps.map DV.s)) h) := by
  have hg : (nw (.row .ex (ps.map DV.s)) h).bl.get h.next = some (.row .ex (ps.map DV.s)) := bEw h _
  have e1 : zB (some (.i .i64 ((ps.length - 1 : Nat) : Int))) ps.length ps.length = some (ps.length - 1) := by
   show (if 0 ≤ ((ps.length - 1 : Nat) : Int) ∧ ((ps.length - 1 : Nat) : Int) ≤ (ps.length : Int) then some ((ps.length - 1 : Nat) : Int).toNat else none) = _
   rw [if_pos ⟨by omega, by omega⟩]
   rfl
  have e2 : loD none (ps.length - 1) = some 0 := rfl
  unfold cQ
  simp only [e1, e2, hg]
  simp
 refine Ev.op e ?_
 have hpl : (fZ s).length = ps.length - 1 := by simp [fZ, hps]
 refine bOo ⟨_, g, S2, ?_, .inr ⟨h.next, 0, ps.length, .ex, ps.map .s, [.s (ps.getLast (by intro e0; rw [e0] at p1; simp at p1))], ?_, by omega, bPs _ _ _, ?_, ?_, ?_⟩⟩
 ·rw [hpl]; simp only [cA]; omega
 ·rw [hpl]
 ·have := List.dropLast_concat_getLast (l := ps) (by intro e0; rw [e0] at p1; simp at p1)
  simp only [fZ, hps, List.drop_zero]
  conv => lhs; rw [← this]
  simp
 ·simp [fZ, hps]
 ·intro v hv
  obtain ⟨t, _, rfl⟩ := List.mem_map.1 hv
  rfl
end Go.Dd

namespace Go.Dd
open Go.Proofs
theorem Sy.weak {I J : Im} {A Q L : Ls} {h : Hp} (S : Sy J A Q L h) (g : ILe I J) : Sy I A Q L h where
 wf := S.wf
 im := fun b o m => S.im b o (g b o m)
 loc := S.loc
 lt := S.lt
 nd := S.nd
 dj := fun b o m => by
  have := S.dj b o m
  cases e : I b with
  | none => rfl
  | some q => rw [g b q e] at this; cases this
def kK (x : Node) : Prop := ∀ (I : Im) (A Q L : Ls) (h : Hp) (cs : List DV), Sy I A Q L h → NV I x cs → (nf x).tx.length ≤ 100000000000 →
 Ev (fun n => aL n 36 [.a cs] h) (fun v h' => v = .s (nf x).tx ∧ Sy I A Q L h')
theorem aWh (n : Nat) (x y z : DV) (h : Hp) : aL (n + 1) 89 [x, y, z] h = s89 (aL n) n x y z h := by kernel_rfl
theorem aVp (n : Nat) (x y : DV) (h : Hp) : aL (n + 1) 90 [x, y] h = s90 (aL n) n x y h := by kernel_rfl
theorem aUn (n : Nat) (x y : DV) (h : Hp) : aL (n + 1) 61 [x, y] h = s61 (aL n) n x y h := by kernel_rfl
def dC (ks : List Node) : List (Nat × List Nat) := ks.map fun x => (nf x).ht
theorem kX {I : Im} {A Q L : Ls} {h : Hp} (S : Sy I A Q L h) {s : DV} {ks : List Node} (N : NS I s ks) (T : ∀ x ∈ ks, kK x) (i hh : Nat) (hl : (bI (dC ks) i hh).length ≤ 100000000000) :
 Ev (fun n => aL n 89 [s, .i .i64 (i : Int), .i .i64 (hh : Int)] h) (fun v h' => v = .s (bI (dC ks) i hh) ∧ Sy I A Q L h') := by
 refine Ev.enter (fun n => aWh n _ _ _ h) ?_
 unfold s89
 refine Ev.op (N.len _) ?_
 refine bPy (fun e1 => ?_) (fun e1 => ?_)
 ·refine yt ?_
  refine bOo ⟨?_, S⟩
  have : ks.length ≤ i := by omega
  simp [bI, dC, List.getElem?_eq_none this]
 ·refine yj ?_
  have hi : i < ks.length := by omega
  have hx : ks[i]? = some ks[i] := by simp [hi]
  generalize ks[i] = x at hx
  have Tx := T x (List.mem_of_getElem? hx)
  obtain ⟨b, o, c, ei, Nx, el⟩ := N.at hx
  have ew : bI (dC ks) i hh = if (nf x).ht.1 > hh then 40 :: ((nf x).tx ++ [41]) else (nf x).tx := by
   simp [bI, dC, hx, Nf.ht]
  rw [ew] at hl ⊢
  refine Ev.op (ei _) ?_
  refine Ev.op (el _ _ _ _ _ (ILe.refl _) S) ?_
  refine bOm (aAu S Nx) ?_
  rintro _ h5 ⟨rfl, S5⟩
  refine bQj (fun e2 => ?_) (fun e2 => ?_)
  ·have e2' : (nf x).ht.1 > hh := by omega
   rw [if_pos e2'] at hl ⊢
   refine yt ?_
   refine Ev.op (ei _) ?_
   refine Ev.op (el _ _ _ _ _ (ILe.refl _) S5) ?_
   refine bOm (Tx _ _ _ _ _ _ S5 Nx (by simp at hl; omega)) ?_
   rintro _ h9 ⟨rfl, S9⟩
   refine bPl S9 (cs := [.s [40], .s (nf x).tx, .s [41]]) (by simp [cJ, cD]) ?_
   intro b1 h10 S10
   refine bOm (eV [[40], (nf x).tx, [41]] S10 (fO) rfl (by simp [aF] at hl ⊢; omega) (by simp)) ?_
   rintro _ _ ⟨rfl, rfl⟩
   refine bOo ⟨?_, S10.dropL⟩
   simp [aF]
  ·have e2' : ¬ (nf x).ht.1 > hh := by omega
   rw [if_neg e2'] at hl ⊢
   refine yj ?_
   refine Ev.op (ei _) ?_
   refine Ev.op (el _ _ _ _ _ (ILe.refl _) S5) ?_
   refine bOm (Tx _ _ _ _ _ _ S5 Nx hl) ?_
   rintro _ h9 ⟨rfl, S9⟩
   exact bOo ⟨rfl, S9⟩
theorem rY (sep : List Nat) : ∀ (l : List (List Nat)) (x : List Nat), x ∈ l → x.length ≤ (aF sep l).length
 | [], x, h => by simp at h
 | [y], x, h => by simp at h; subst h; simp [aF]
 | y :: z :: l, x, h => by
  rcases List.mem_cons.1 h with rfl | h
  ·simp [aF]
  ·have := rY sep (z :: l) x h
   simp only [aF, List.length_append]
   omega
section
variable {I : Im} {A Q L : Ls} {s y : DV} {ks : List Node} {ps : List (List Nat)}
theorem aAt (N : NS I s ks) (T : ∀ x ∈ ks, kK x) (Y : SS I y ps) : ∀ (r : List (List Nat)) (i j : Nat) (B : Ls) (h : Hp) (x : DV) (acc : List (List Nat)), ps.drop i = r → i ≤ ps.length → Sy I (B ++ A) Q L h → Gr I 1 B x acc.length (acc.map .s) →
 (aF [32] (acc ++ eX r (dC ks) i)).length ≤ 100000000000 → acc.length + r.length ≤ cA →
 Ev (fun n => jZ (aL n) n (n - j) s x y (.i .i64 (ps.length : Int)) (.i .i64 (i : Int)) h) (fun v h' => v = .s (aF [32] (acc ++ eX r (dC ks) i)) ∧ Sy I A Q L h')
 | [], i, j, B, h, x, acc, hr, hi, S, G, hl, hc => by
  refine bOv j (ll := fun n m => jZ (aL n) n m s x y (.i .i64 (ps.length : Int)) (.i .i64 (i : Int)) h) (bb := fun n m => oJ (aL n) n (jZ (aL n) n m) s x y (.i .i64 (ps.length : Int)) (.i .i64 (i : Int)) h) (fun _ _ => rfl) ?_
  unfold oJ
  have hle : ps.length ≤ i := List.drop_eq_nil_iff.1 hr
  refine bPr (fun e1 => absurd e1 (by omega)) (fun e1 => ?_)
  refine bPk ?_
  unfold fL
  simp only [eX, List.append_nil] at hl ⊢
  obtain ⟨J, gJ, S3, F3⟩ := G.freeze S
  refine Ev.op (SS.join (I := J) ⟨by simpa using hc, F3⟩ S3 hl) ?_
  exact bOo ⟨rfl, S3.weak gJ⟩
 | p :: r, i, j, B, h, x, acc, hr, hi, S, G, hl, hc => by
  refine bOv j (ll := fun n m => jZ (aL n) n m s x y (.i .i64 (ps.length : Int)) (.i .i64 (i : Int)) h) (bb := fun n m => oJ (aL n) n (jZ (aL n) n m) s x y (.i .i64 (ps.length : Int)) (.i .i64 (i : Int)) h) (fun _ _ => rfl) ?_
  unfold oJ
  have hlim : ps.length ≤ cA := Y.1
  have hi' : i < ps.length := by
   rcases Nat.lt_or_ge i ps.length with h | h
   ·exact h
   ·rw [List.drop_eq_nil_of_le h] at hr; cases hr
  have hx : ps[i]? = some p := by
   have : (ps.drop i)[0]? = some p := by rw [hr]; rfl
   simpa [aJ] using this
  have hr2 : ps.drop (i + 1) = r := by
   have := jJ hx
   rw [hr] at this
   simpa [aJ] using this.symm
  refine bPr (fun e1 => ?_) (fun e1 => absurd (show (i : Int) < ps.length by omega) e1)
  refine bQa ?_
  obtain ⟨b, o, ei, el⟩ := Y.at S hx
  refine Ev.op (ei _) ?_
  refine Ev.op el ?_
  have hmem : (p ++ 32 :: bI (dC ks) i 2) ∈ acc ++ eX (p :: r) (dC ks) i := by simp [eX]
  have hp := rY [32] _ _ hmem
  have hp' : (p ++ 32 :: bI (dC ks) i 2).length ≤ 100000000000 := Nat.le_trans hp hl
  simp only [List.length_append, List.length_cons] at hp'
  refine bOm (kX S N T i 2 (by omega)) ?_
  rintro _ h6 ⟨rfl, S6⟩
  refine bPl S6 (cs := [.s p, .s [32], .s (bI (dC ks) i 2)]) (by simp [cJ, cD]) ?_
  intro b1 h7 S7
  refine bOm (eV [p, [32], bI (dC ks) i 2] S7 (fO) rfl (by simp [aF]; omega) (by simp)) ?_
  rintro _ _ ⟨rfl, rfl⟩
  have ej : aF [] [p, [32], bI (dC ks) i 2] = p ++ 32 :: bI (dC ks) i 2 := by simp [aF]
  rw [ej]
  refine bPl S7 (cs := [.s (p ++ 32 :: bI (dC ks) i 2)]) rfl ?_
  intro b2 h9 S9
  obtain ⟨x4, h4, B4, e4, S4, G4⟩ := qU G S9 (fO) (by simp at hc; omega)
  refine Ev.op e4 ?_
  refine bOw ?_
  rw [aBx (by omega)]
  have := aAt N T Y r (i + 1) (j + 1) B4 h4 x4 (acc ++ [p ++ 32 :: bI (dC ks) i 2]) hr2 (by omega) S4.dropL.dropL G4 (by simpa [aJ, eX] using hl) (by simp at hc ⊢; omega)
  simpa [aJ, eX] using this
end
end Go.Dd

namespace Go.Dd
open Go.Proofs
theorem Fz.restA {I : Im} {sz : Nat} {s : DV} {len : Nat} {cells : List DV} (H : Fz I sz s len cells) {i : Nat} (hi : i ≤ len) (h0 : 0 < len) :
 ∃ s', (∀ (A Q L : Ls) (h : Hp), Sy I A Q L h → cQ sz s (some (.i .i64 (Int.ofNat i))) none h = some (s', h)) ∧ Fz I sz s' (len - i) (cells.drop (i * sz)) := by
 rcases H with ⟨_, rfl, _⟩ | ⟨b, o, cap, k, row, rest, rfl, h2, h3, h4, h5, h6⟩
 ·omega
 ·have hle : i * sz ≤ cells.length := by rw [h5]; exact Nat.mul_le_mul_right _ (by omega)
  have hd : row.drop (o + i * sz) = cells.drop (i * sz) ++ rest := by
   rw [← List.drop_drop, h4, List.drop_append_of_le_length hle]
  have e1 : zB none len cap = some len := by simp [zB, h2]
  have e2 : loD (some (.i .i64 (Int.ofNat i))) len = some i := by
   show (if 0 ≤ (Int.ofNat i) ∧ (Int.ofNat i) ≤ (len : Int) then some (Int.ofNat i).toNat else none) = _
   have hi' : (Int.ofNat i) = (i : Int) := rfl
   rw [if_pos ⟨by omega, by omega⟩]
   rfl
  have hlen : (cells.drop (i * sz)).length = (len - i) * sz := by rw [List.length_drop, h5, Nat.sub_mul]
  by_cases hc : cap = i
  ·have hz : len - i = 0 := by omega
   have hnil : cells.drop (i * sz) = [] := List.eq_nil_of_length_eq_zero (by rw [hlen, hz]; simp)
   by_cases hk : k = .ro ∨ k = .ex
   ·refine ⟨.l b o (len - i) (cap - i), fun A Q L h S => ?_, .inr ⟨b, o, cap - i, k, row, row.drop o, rfl, by omega, h3, ?_, hlen, fun v hv => h6 v (List.mem_of_mem_drop hv)⟩⟩
    ·have hg := S.im _ _ h3
     unfold cQ
     simp only [e1, e2, hg]
     rcases hk with rfl | rfl <;> simp [hc]
    ·rw [hnil]; rfl
   ·refine ⟨.le, fun A Q L h S => ?_, ?_⟩
    ·have hg := S.im _ _ h3
     unfold cQ
     simp only [e1, e2, hg]
     cases k with
     | ro => exact absurd (.inl rfl) hk
     | ex => exact absurd (.inr rfl) hk
     | gr es => simp [hc]
     | sp => simp [hc]
    ·rw [hz, hnil]
     exact .inl ⟨.inr rfl, rfl, rfl⟩
  ·refine ⟨.l b (o + i * sz) (len - i) (cap - i), fun A Q L h S => ?_, .inr ⟨b, o + i * sz, cap - i, k, row, rest, rfl, by omega, h3, hd, hlen, fun v hv => h6 v (List.mem_of_mem_drop hv)⟩⟩
   unfold cQ
   simp only [e1, e2, S.im _ _ h3]
   cases k <;> simp [hc]
theorem NS.restA {I : Im} {s : DV} {ks : List Node} (N : NS I s ks) {i : Nat} (hi : i ≤ ks.length) (h0 : 0 < ks.length) :
 ∃ s', (∀ (A Q L : Ls) (h : Hp), Sy I A Q L h → cQ 6 s (some (.i .i64 (Int.ofNat i))) none h = some (s', h)) ∧ NS I s' (ks.drop i) := by
 obtain ⟨hl, cells, F, NL⟩ := N
 obtain ⟨s', e, F'⟩ := F.restA hi h0
 exact ⟨s', e, by rw [List.length_drop]; omega, cells.drop (i * 6), by simpa using F', NL.drop i⟩
section
variable {I : Im} {A Q L : Ls} {h : Hp} {s : DV} {ks : List Node} {t : List Nat}
theorem nN (S : Sy I A Q L h) (N : NS I s ks) (T : ∀ x ∈ ks, kK x) (hs : t.length ≤ 1000000000) (hl : (aQ t (dC ks)).length ≤ 100000000000) :
 Ev (fun n => aL n 90 [.s t, s] h) (fun v h' => v = .s (aQ t (dC ks)) ∧ Sy I A Q L h') := by
 refine Ev.enter (fun n => aVp n _ _ h) ?_
 unfold s90 aFn
 refine bOm (oN t h) ?_
 rintro _ h ⟨rfl, rfl⟩
 refine bOr (fun e1 => ?_) (fun e1 => ?_)
 ·have e1' : bX t = 1 := by have h0 := e1; simp at h0; omega
  refine bQa ?_
  refine bOo ⟨?_, S⟩
  rw [aQ, if_pos e1']
 ·have e1' : ¬ bX t = 1 := by have h0 := e1; simp at h0; omega
  refine bPk ?_
  refine bOr (fun e2 => ?_) (fun e2 => ?_)
  ·have e2' : bX t = 2 := by have h0 := e2; simp at h0; omega
   have em : aQ t (dC ks) = t ++ 32 :: bI (dC ks) 0 1 := by rw [aQ, if_neg e1', if_pos e2']
   rw [em] at hl ⊢
   simp only [List.length_append, List.length_cons] at hl
   refine bQa ?_
   refine bOm (kX S N T 0 1 (by omega)) ?_
   rintro _ h6 ⟨rfl, S6⟩
   refine bPl S6 (cs := [.s t, .s [32], .s (bI (dC ks) 0 1)]) (by simp [cJ, cD]) ?_
   intro b1 h7 S7
   refine bOm (eV [t, [32], bI (dC ks) 0 1] S7 (fO) rfl (by simp [aF]; omega) (by simp)) ?_
   rintro _ _ ⟨rfl, rfl⟩
   refine bOo ⟨?_, S7.dropL⟩
   simp [aF]
  ·have e2' : ¬ bX t = 2 := by have h0 := e2; simp at h0; omega
   have em : aQ t (dC ks) = aF [32] (eX (fZ t) (dC ks) 0) := by rw [aQ, if_neg e1', if_neg e2']
   rw [em] at hl ⊢
   refine bPk ?_
   unfold aGt aEt
   refine bOm (aJv S hs) ?_
   rintro v h1 ⟨J, g, S1, Y⟩
   refine Ev.op (Y.2.len _) ?_
   unfold aEi aKy
   refine (aAt (A := A) (N.mono g) T Y (fZ t) 0 0 [] h1 .l0 [] rfl (Nat.zero_le _) S1 (Gr.nil J 1) (by simpa using hl) (by simpa using Y.1)).mono ?_
   rintro v h' ⟨e, S2⟩
   exact ⟨by simpa using e, S2.weak g⟩
theorem uJ (S : Sy I A Q L h) (N : NS I s ks) (T : ∀ x ∈ ks, kK x) (hs : t.length ≤ 1000000000) (hl : (eP t (dC ks)).length ≤ 100000000000) :
 Ev (fun n => aL n 61 [.s t, s] h) (fun v h' => v = .s (eP t (dC ks)) ∧ Sy I A Q L h') := by
 refine Ev.enter (fun n => aUn n _ _ h) ?_
 unfold s61 bAq
 have hil : (dC ks).length = ks.length := by simp [dC]
 refine Ev.op (N.len _) ?_
 refine bOr (fun e1 => ?_) (fun e1 => ?_)
 ·have e1' : ks.length = 0 := by have h0 := e1; simp at h0; simp [h0]
  refine bQa ?_
  refine bOo ⟨?_, S⟩
  rw [eP, if_pos (by omega)]
 ·have e1' : ¬ ks.length = 0 := fun e => e1 (by rw [e]; rfl)
  refine bPk ?_
  unfold bAf bBv
  have go : ∀ (hh : Nat), hh = (if bX t = 1 then 1 else 2) → Ev (fun n => aIk (aL n) n (.s t) s (.i .i64 (hh : Int)) h) (fun v h' => v = .s (eP t (dC ks)) ∧ Sy I A Q L h') := by
   intro hh eh
   have em : eP t (dC ks) = bI (dC ks) 0 hh ++ 32 :: aQ t (dC (ks.drop 1)) := by
    rw [eP, if_neg (by omega), eh]
    simp [dC]
   rw [em] at hl ⊢
   simp only [List.length_append, List.length_cons] at hl
   unfold aIk
   obtain ⟨s', er, N'⟩ := N.restA (i := 1) (by omega) (by omega)
   have Sr := S.res
   refine bOm (kX Sr N T 0 hh (by omega)) ?_
   rintro _ h1 ⟨rfl, S1⟩
   refine Ev.op (er _ _ _ _ S1) ?_
   refine bPg ?_ ?_
   ·rw [er _ _ _ _ Sr]
    have : DV.beq s' s' = true := N'.2.choose_spec.1.beq
    simp [cB, this]
   refine bOm (nN S1 N' (fun x hx => T x (List.mem_of_mem_drop hx)) hs (by omega)) ?_
   rintro _ h3 ⟨rfl, S3⟩
   refine bPo S3 (cs := [.s (bI (dC ks) 0 hh), .s [32], .s (aQ t (dC (ks.drop 1)))]) (Rpl.head _) (by simp [cJ, cD]) ?_
   intro h4 S4
   refine bOm (eV [bI (dC ks) 0 hh, [32], aQ t (dC (ks.drop 1))] S4 (fO) rfl (by simp [aF] at hl ⊢; omega) (by simp)) ?_
   rintro _ _ ⟨rfl, rfl⟩
   refine bOo ⟨?_, S4.dropL⟩
   simp [aF]
  refine bOm (oN t h) ?_
  rintro _ h ⟨rfl, rfl⟩
  refine bOr (fun e2 => ?_) (fun e2 => ?_)
  ·have e2' : bX t = 1 := by have h0 := e2; simp at h0; omega
   refine bQa ?_
   exact go 1 (by rw [if_pos e2'])
  ·have e2' : ¬ bX t = 1 := by have h0 := e2; simp at h0; omega
   refine bPk ?_
   exact go 2 (by rw [if_neg e2'])
end
end Go.Dd

namespace Go.Dd
open Go.Proofs
theorem aTr (n : Nat) (x y z : DV) (h : Hp) : aL (n + 1) 35 [x, y, z] h = s35 (aL n) n x y z h := by kernel_rfl
theorem bGq (rec : FuncId → List DV → Hp → aG) (x : DV) (h : Hp) : dP CF rec (.f 36 [] []) [x] h = rec 36 [x] h := by kernel_rfl
def HowOk (hw : DV) (g : Node → List Nat) (x : Node) : Prop := ∀ (I : Im) (A Q L : Ls) (h : Hp) (cs : List DV), Sy I A Q L h → NV I x cs → (g x).length ≤ 100000000000 →
 Ev (fun n => dP CF (aL n) hw [.a cs] h) (fun v h' => v = .s (g x) ∧ Sy I A Q L h')
theorem HowOk.text {x : Node} (T : kK x) : HowOk (.f 36 [] []) (fun x => (nf x).tx) x := by
 intro I A Q L h cs S N hl
 have := T I A Q L h cs S N hl
 have e : (fun n => dP CF (aL n) (.f 36 [] []) [.a cs] h) = fun n => aL n 36 [.a cs] h := funext fun n => bGq _ _ _
 rw [e]
 exact this
section
variable {I : Im} {A Q L : Ls} {s hw : DV} {ks : List Node} {sep : List Nat} {g : Node → List Nat}
theorem zD (N : NS I s ks) (T : ∀ x ∈ ks, HowOk hw g x) : ∀ (r : List Node) (i j : Nat) (B : Ls) (h : Hp) (x : DV) (acc : List (List Nat)), ks.drop i = r → Sy I (B ++ A) Q L h → Gr I 1 B x acc.length (acc.map .s) →
 (aF sep (acc ++ r.map g)).length ≤ 100000000000 → acc.length + r.length ≤ cA →
 Ev (fun n => jU (aL n) n (n - j) (.s sep) hw x s (.i .i64 (ks.length : Int)) (.i .i64 (i : Int)) h) (fun v h' => v = .s (aF sep (acc ++ r.map g)) ∧ Sy I A Q L h')
 | [], i, j, B, h, x, acc, hr, S, G, hl, hc => by
  refine bOv j (ll := fun n m => jU (aL n) n m (.s sep) hw x s (.i .i64 (ks.length : Int)) (.i .i64 (i : Int)) h) (bb := fun n m => oM (aL n) n (jU (aL n) n m) (.s sep) hw x s (.i .i64 (ks.length : Int)) (.i .i64 (i : Int)) h) (fun _ _ => rfl) ?_
  unfold oM
  have hle : ks.length ≤ i := List.drop_eq_nil_iff.1 hr
  refine bPr (fun e1 => absurd e1 (by omega)) (fun e1 => ?_)
  refine bPk ?_
  unfold fI
  simp only [List.map_nil, List.append_nil] at hl ⊢
  obtain ⟨J, gJ, S3, F3⟩ := G.freeze S
  refine Ev.op (SS.join (I := J) ⟨by simpa using hc, F3⟩ S3 hl) ?_
  exact bOo ⟨rfl, S3.weak gJ⟩
 | y :: r, i, j, B, h, x, acc, hr, S, G, hl, hc => by
  refine bOv j (ll := fun n m => jU (aL n) n m (.s sep) hw x s (.i .i64 (ks.length : Int)) (.i .i64 (i : Int)) h) (bb := fun n m => oM (aL n) n (jU (aL n) n m) (.s sep) hw x s (.i .i64 (ks.length : Int)) (.i .i64 (i : Int)) h) (fun _ _ => rfl) ?_
  unfold oM
  have hlim : ks.length ≤ cA := N.1
  have hi' : i < ks.length := by
   rcases Nat.lt_or_ge i ks.length with h | h
   ·exact h
   ·rw [List.drop_eq_nil_of_le h] at hr; cases hr
  have hx : ks[i]? = some y := by
   have : (ks.drop i)[0]? = some y := by rw [hr]; rfl
   simpa [aJ] using this
  have hr2 : ks.drop (i + 1) = r := by
   have := jJ hx
   rw [hr] at this
   simpa [aJ] using this.symm
  refine bPr (fun e1 => ?_) (fun e1 => absurd (show (i : Int) < ks.length by omega) e1)
  refine bQa ?_
  obtain ⟨b, o, c, ei, Nx, el⟩ := N.at hx
  obtain ⟨c1, o1, b1⟩ := Nx.shape
  have hmem : g y ∈ acc ++ (y :: r).map g := by simp
  have hp := Nat.le_trans (rY sep _ _ hmem) hl
  refine Ev.op (ei _) ?_
  refine Ev.op (el _ _ _ _ _ (ILe.refl _) S) ?_
  refine wa fun _ _ _ => ?_; refine wt fun _ _ => ?_; refine ws ?_
  refine bOm (T y (List.mem_of_getElem? hx) _ _ _ _ _ _ (by assumption) Nx hp) ?_
  rintro _ h9 ⟨rfl, S9⟩
  refine bPl S9 (cs := [.s (g y)]) rfl ?_
  intro b2 h10 S10
  obtain ⟨x4, h4, B4, e4, S4, G4⟩ := qU G S10 (fO) (by simp at hc; omega)
  refine Ev.op e4 ?_
  refine bOw ?_
  rw [aBx (by omega)]
  have := zD N T r (i + 1) (j + 1) B4 h4 x4 (acc ++ [g y]) hr2 (dp) G4 (by simpa using hl) (by simp at hc ⊢; omega)
  simpa [aJ] using this
theorem tF {h : Hp} (S : Sy I A Q L h) (N : NS I s ks) (T : ∀ x ∈ ks, HowOk hw g x) (hl : (aF sep (ks.map g)).length ≤ 100000000000) :
 Ev (fun n => aL n 35 [s, .s sep, hw] h) (fun v h' => v = .s (aF sep (ks.map g)) ∧ Sy I A Q L h') := by
 refine Ev.enter (fun n => aTr n _ _ _ h) ?_
 unfold s35 aHz aEx
 refine Ev.op (N.len _) ?_
 unfold aFp aKp
 have := zD (A := A) (Q := Q) (L := L) (sep := sep) N T ks 0 0 [] h .l0 [] rfl S (Gr.nil I 1) (by simpa using hl) (by simpa using N.1)
 simpa [aJ] using this
end
end Go.Dd

namespace Go.Dd
open Go.Proofs
theorem aZp (n : Nat) (x : DV) (h : Hp) : aL (n + 1) 21 [x] h = s21 (aL n) n x h := by kernel_rfl
def iG (ks : List Node) : List (List Nat) := ks.map fun x => (nf x).tx
section
variable {I : Im} {A Q L : Ls} {h : Hp} {k m : Int} {t : List Nat} {ns ts : List (List Nat)} {ks : List Node} {cs : List DV}
theorem tV (S : Sy I A Q L h) (N : NV I (.mk k t m ns ts ks) cs) (T : ∀ x ∈ ks, kK x) (hl : (aV ts (iG ks)).length ≤ 100000000000) :
 Ev (fun n => aL n 21 [.a cs] h) (fun v h' => v = .s (aV ts (iG ks)) ∧ Sy I A Q L h') := by
 refine Ev.enter (fun n => aZp n _ h) ?_
 unfold s21 bBi bAp
 obtain ⟨s1, s2, s3, rfl, a, b, c, cells, F, NL⟩ := N
 have N3 : NS I s3 ks := ⟨c, cells, F, NL⟩
 have o1 := a.2.one
 have o2 := b.2.one
 have o3 := F.one
 refine Ev.box S rfl ?_
 intro b1 h1 S1
 have eb : aV ts (iG ks) = (if ts.length = 0 then [] else 124 :: 32 :: (aF [32] ts ++ [32, 124, 32])) ++ aF [46, 32] (iG ks) := rfl
 have fin : ∀ (pre : List Nat) (h : Hp), Sy I A Q ((b1, some (.row .ex [.i .i64 k, .s t, .i .i64 m, s1, s2, s3])) :: L) h → (pre ++ aF [46, 32] (iG ks)).length ≤ 100000000000 →
  Ev (fun n => aEr (aL n) n (.p b1 0) (.s pre) h) (fun v h' => v = .s (pre ++ aF [46, 32] (iG ks)) ∧ Sy I A Q L h') := by
  intro pre h S hl
  unfold aEr
  simp only [List.length_append] at hl
  refine wf ?_; refine wl ?_
  refine bOm (tF (sep := [46, 32]) S N3 (fun x hx => HowOk.text (T x hx)) (by simp only [iG] at hl; omega)) ?_
  rintro _ h3 ⟨rfl, S3⟩
  refine bPl S3 (cs := [.s pre, .s (aF [46, 32] (iG ks))]) (by simp [cJ, cD, iG]) ?_
  intro b2 h4 S4
  refine bOm (eV [pre, aF [46, 32] (iG ks)] S4 (fO) rfl (by simp [aF]; omega) (by simp)) ?_
  rintro _ _ ⟨rfl, rfl⟩
  refine bOo ⟨?_, S4.dropL.dropL⟩
  simp [aF]
 rw [eb] at hl ⊢
 refine wf ?_; refine wl ?_
 refine Ev.op (b.2.len _) ?_
 refine bQj (fun e1 => ?_) (fun e1 => ?_)
 ·have e1' : ¬ ts.length = 0 := by have h0 := e1; simp at h0; intro h9; simp [h9] at h0
  rw [if_neg e1'] at hl ⊢
  have hl2 : (aF [32] ts).length ≤ 100000000000 := by simp at hl; omega
  refine yt (wf ?_); refine wl ?_
  refine Ev.op (SS.join b S1 hl2) ?_
  refine bPl S1 (cs := [.s [124, 32], .s (aF [32] ts), .s [32, 124, 32]]) (by simp [cJ, cD]) ?_
  intro b2 h4 S4
  refine bOm (eV [[124, 32], aF [32] ts, [32, 124, 32]] S4 (fO) rfl (by simp [aF] at hl ⊢; omega) (by simp)) ?_
  rintro _ _ ⟨rfl, rfl⟩
  have ej : aF [] [[124, 32], aF [32] ts, [32, 124, 32]] = 124 :: 32 :: (aF [32] ts ++ [32, 124, 32]) := by simp [aF]
  rw [ej]
  exact fin _ _ S4.dropL hl
 ·have e1' : ts.length = 0 := by have h0 := e1; simp at h0; simpa using h0
  rw [if_pos e1'] at hl ⊢
  refine yj ?_
  exact fin _ _ S1 hl
end
end Go.Dd

namespace Go.Dd
open Go.Proofs
theorem aVl (n : Nat) (x : DV) (h : Hp) : aL (n + 1) 91 [x] h = s91 (aL n) n x h := by kernel_rfl
theorem aUg (n : Nat) (x : DV) (h : Hp) : aL (n + 1) 62 [x] h = s62 (aL n) n x h := by kernel_rfl
theorem aTf (n : Nat) (x : DV) (h : Hp) : aL (n + 1) 36 [x] h = s36 (aL n) n x h := by kernel_rfl
theorem bHe (rec : FuncId → List DV → Hp → aG) (x : DV) (h : Hp) : dP CF rec (.f 91 [] []) [x] h = rec 91 [x] h := by kernel_rfl
theorem aSg (k m : Int) (t : List Nat) (ns ts : List (List Nat)) (ks : List Node) : (nf (.mk k t m ns ts ks)).ks = dC ks ∧ (nf (.mk k t m ns ts ks)).t = t := by
 simp [nf, nV, dC]
def eA (x : Node) : List Nat := 59 :: 32 :: aQ (nf x).t (nf x).ks
theorem bJm {x : Node} (T : ∀ y ∈ x.kids, kK y) (hs : x.text.length ≤ 1000000000) : HowOk (.f 91 [] []) eA x := by
 intro I A Q L h cs S N hl
 have e : (fun n => dP CF (aL n) (.f 91 [] []) [.a cs] h) = fun n => aL n 91 [.a cs] h := funext fun n => bHe _ _ _
 rw [e]
 obtain ⟨k, t, m, ns, ts, ks⟩ := x
 obtain ⟨q1, q2⟩ := aSg k m t ns ts ks
 have ef : eA (.mk k t m ns ts ks) = 59 :: 32 :: aQ t (dC ks) := by rw [eA, q1, q2]
 rw [ef] at hl ⊢
 simp only [List.length_cons] at hl
 refine Ev.enter (fun n => aVl n _ h) ?_
 unfold s91
 obtain ⟨s1, s2, s3, rfl, a, b, c, cells, F, NL⟩ := N
 have N3 : NS I s3 ks := ⟨c, cells, F, NL⟩
 have o1 := a.2.one
 have o2 := b.2.one
 have o3 := F.one
 refine Ev.box S rfl ?_
 intro b1 h1 S1
 refine wf ?_; refine wl ?_; refine wf ?_; refine wl ?_
 refine bOm (nN S1 N3 T hs (by omega)) ?_
 rintro _ h3 ⟨rfl, S3⟩
 refine bPl S3 (cs := [.s [59, 32], .s (aQ t (dC ks))]) (by simp [cJ, cD]) ?_
 intro b2 h4 S4
 refine bOm (eV [[59, 32], aQ t (dC ks)] S4 (fO) rfl (by simp [aF]; omega) (by simp)) ?_
 rintro _ _ ⟨rfl, rfl⟩
 refine bOo ⟨?_, S4.dropL.dropL⟩
 simp [aF]
end Go.Dd

namespace Go.Dd
open Go.Proofs
theorem wY {b : Pos} {o j : Nat} {c : List DV} {v : DV} {h : Hp} (e : aE 6 (.p b o) h = some (.a c, h)) (hv : c[j]? = some v) : aB (.p b (o + j)) h = some (v, h) := by
 simp only [aE, dR] at e
 cases hr : kJ b h with
 | none => rw [hr] at e; cases e
 | some l =>
  rw [hr] at e
  simp only at e
  cases ht : hZ 6 (l.drop o) with
  | none => rw [ht] at e; cases e
  | some cs =>
   rw [ht] at e
   simp only [aW, bR, DV.a.injEq, and_true] at e
   subst e
   obtain ⟨h1, h2, h3, h4⟩ := mW 6 _ _ ht
   have hj : j < 6 := by
    have := (gLt hv)
    omega
   have ev : l[o + j]? = some v := by
    rw [h3] at hv
    rw [List.getElem?_take_of_lt hj, List.getElem?_drop] at hv
    exact hv
   have ho := h4 v (List.mem_of_getElem? hv)
   simp [aB, aAc, hr, ev, ho]
theorem aNq {I : Im} {A Q L : Ls} {h : Hp} {b : Pos} {y : Node} {ca : List DV} {s3 : DV} {ks : List Node} (S : Sy I A Q ((b, some (.row .ex ca)) :: L) h) (Ny : NV I y ca) (N3 : NS I s3 ks) (hl : ks.length + 1 ≤ cA) :
 ∃ x h' J, bN 6 104 (.l b 0 1 1) s3 h = some (x, h') ∧ ILe I J ∧ Sy J A Q L h' ∧ NS J x (y :: ks) := by
 obtain ⟨c1, c2, _⟩ := Ny.shape
 have N3' := N3
 obtain ⟨hk, cells, F, NL⟩ := N3
 by_cases h0 : ks.length = 0
 ·have hks : ks = [] := List.eq_nil_of_length_eq_zero h0
  subst hks
  have hc : cells = [] := NL
  have hs : lP 6 s3 h = some (0, []) := by
   rw [F.src S.dropL, hc]
   rfl
  have hg := S.memL (fO)
  have e : bN 6 104 (.l b 0 1 1) s3 h = some (.l b 0 1 1, ⟨h.next, Tr.set (.row .ex ca) b h.bl⟩) := by
   obtain ⟨k, t, m, ns, ts, ks'⟩ := y
   obtain ⟨s1, s2, s4, rfl, _⟩ := Ny
   unfold bN
   simp only [hs]
   simp [fT, hg, Kind.writable, iS, oL]
  have S2 : Sy I A Q ((b, some (.row .ex ca)) :: L) ⟨h.next, Tr.set (.row .ex ca) b h.bl⟩ := S.setL (Rpl.head _) rfl (fun c => bOy _ _ _ _)
  obtain ⟨J, gJ, S4, F4, _⟩ := Fz.built (sz := 6) (n := 1) S2 (by simpa using c1) c2
  exact ⟨_, _, J, e, gJ, S4, by simp [cA], ca, F4, bOu (Ny.mono gJ)⟩
 ·obtain ⟨J, gJ, S4, F4, G4⟩ := Fz.built (sz := 6) (n := 1) S (by simpa using c1) c2
  obtain ⟨d1, d2⟩ := NL.shape
  have hr : (1 + ks.length) * 104 ≤ gA := by simp [gA, cA] at hl ⊢; omega
  obtain ⟨x5, h5, B5, e5, S5, G5⟩ := G4.app (A0 := A) S4 ((F.mono gJ).src S4) d1 d2 h0 hr
  obtain ⟨K, gK, S6, F6⟩ := G5.freeze S5
  refine ⟨x5, h5, K, e5, gJ.trans gK, S6, by simpa using hl, ca ++ cells, by simpa [aJ, Nat.add_comm] using F6, ?_⟩
  exact NVL.app (bOu ((Ny.mono gJ).mono gK)) ((NL.mono gJ).mono gK)
end Go.Dd

namespace Go.Dd
open Go.Proofs
theorem aJo (a b : Node) (r : List Node) : iN (oE (a :: b :: r)) = eP (nf b).t (dC (a :: b.kids)) ++ aF [] (r.map eA) := by
 obtain ⟨k, t, m, ns, ts, ks⟩ := b
 obtain ⟨q1, q2⟩ := aSg k m t ns ts ks
 have e : ((oE r).map fun x => 59 :: 32 :: aQ x.t x.ks) = r.map eA := by
  rw [nV, List.map_map]
  rfl
 simp only [oE, iN, e, q1]
 rfl
section
variable {I : Im} {A Q L : Ls} {h : Hp} {s : DV} {ks : List Node}
theorem aJl (S : Sy I A Q L h) (N : NS I s ks) (T : ∀ x ∈ ks, kK x) (K : ∀ x ∈ ks, (∀ y ∈ x.kids, kK y) ∧ x.text.length ≤ 1000000000 ∧ x.kids.length + 1 ≤ cA) (hl : (iN (oE ks)).length ≤ 100000000000) :
 Ev (fun n => aL n 62 [s] h) (fun v h' => v = .s (iN (oE ks)) ∧ Sy I A Q L h') := by
 refine Ev.enter (fun n => aUg n _ h) ?_
 unfold s62
 refine Ev.op (N.len _) ?_
 refine bPr (fun e1 => ?_) (fun e1 => ?_)
 ·refine bQa ?_
  refine bOo ⟨?_, S⟩
  match ks, e1 with
  | [], _ => rfl
  | [_], _ => rfl
  | _ :: _ :: _, e1 => simp at e1; omega
 ·match ks, N, T, K, hl, e1 with
  | [], _, _, _, _, e1 => simp at e1
  | [_], _, _, _, _, e1 => simp at e1
  | a :: b :: r, N, T, K, hl, e1 =>
   rw [aJo] at hl ⊢
   simp only [List.length_append] at hl
   refine bPk ?_
   obtain ⟨p0, o0, ca, ei0, Na, el0⟩ := N.at (i := 0) (x := a) rfl
   obtain ⟨p1, o1, cb, ei1, Nb, el1⟩ := N.at (i := 1) (x := b) rfl
   have Sr := S.res
   obtain ⟨c1, c2, _⟩ := Na.shape
   obtain ⟨kb, tb, mb, nsb, tsb, ksb⟩ := b
   obtain ⟨K1, K2, K3⟩ := K (.mk kb tb mb nsb tsb ksb) (by simp)
   obtain ⟨q1, q2⟩ := aSg kb mb tb nsb tsb ksb
   rw [q2] at hl ⊢
   have hl' : (eP tb (dC (a :: ksb))).length + (aF [] (r.map eA)).length ≤ 100000000000 := hl
   obtain ⟨s1, s2, s3, rfl, ya, yb, yc, cells, F, NL⟩ := Nb
   have N3 : NS I s3 ksb := ⟨yc, cells, F, NL⟩
   refine Ev.op (ei0 _) ?_
   refine Ev.op (el0 _ _ _ _ _ (ILe.refl _) Sr) ?_
   refine bPo Sr (Rpl.head _) (kO c1) ?_
   intro h4 S4
   refine Ev.op (ei1 _) ?_
   refine bRd ?_
   refine Ev.op (wY (j := 5) (el1 _ _ _ _ _ (ILe.refl _) S4) rfl) ?_
   refine bPg ?_ ?_
   ·rw [wY (j := 5) (el1 _ _ _ _ _ (ILe.refl _) Sr) rfl]
    have : DV.beq s3 s3 = true := F.beq
    simp [cB, this]
   obtain ⟨x9, h9, J, e9, g9, S9, N9⟩ := aNq S4 Na N3 K3
   refine Ev.op e9 ?_
   obtain ⟨s', er, N'⟩ := N.restA (i := 2) (by simp) (by simp)
   refine Ev.op (er _ _ _ _ (S9.weak g9)) ?_
   refine bOm (tF (g := eA) (sep := []) S9 (N'.mono g9) (fun x hx => ?_) (by simpa using (by omega : (aF [] (r.map eA)).length ≤ 100000000000))) ?_
   ·have hx' : x ∈ r := by simpa using hx
    obtain ⟨k1, k2, _⟩ := K x (by simp [hx'])
    exact bJm k1 k2
   rintro _ h11 ⟨rfl, S11⟩
   refine Ev.op (ei1 _) ?_
   refine bRd ?_
   refine Ev.op (wY (j := 1) (el1 _ _ _ _ _ g9 S11) rfl) ?_
   refine bOm (uJ S11 N9 (fun x hx => ?_) K2 (by omega)) ?_
   ·rcases List.mem_cons.1 hx with rfl | hx
    ·exact T _ (by simp)
    ·exact K1 x hx
   rintro _ h15 ⟨rfl, S15⟩
   have ed : (List.drop 2 (a :: Node.mk kb tb mb nsb tsb ksb :: r)) = r := rfl
   rw [ed]
   refine bPl S15 (cs := [.s (eP tb (dC (a :: ksb))), .s (aF [] (r.map eA))]) (by simp [cJ, cD]) ?_
   intro b2 h16 S16
   refine bOm (eV [eP tb (dC (a :: ksb)), aF [] (r.map eA)] S16 (fO) rfl (by simp [aF]; omega) (by simp)) ?_
   rintro _ _ ⟨rfl, rfl⟩
   refine bOo ⟨?_, S16.dropL.weak g9⟩
   simp [aF, Node.kids]
end
end Go.Dd

namespace Go.Dd
open Go.Proofs
theorem aVt {m : Int} (h0 : -9223372036854775808 ≤ m) (h1 : m ≤ 9223372036854775807) (h : Hp) : vB [.i .i64 m] h = some (.s (iV m), h) := by
 show (bif decide (-9223372036854775808 ≤ m) && decide (m ≤ 9223372036854775807) then some (DV.s (iV m), h) else none) = _
 simp [h0, h1]
theorem aWj {t : List Nat} (ht : t.length ≤ 1000000000) (h : Hp) : uZ [.s t, .s [39], .s [39, 39]] h = some (.s (cS 39 [39, 39] t), h) := by
 have e1 : Nat.ble t.length 4000000000 = true := Nat.ble_eq_true_of_le (by omega)
 show (bif Nat.blt 39 256 then (bif Nat.ble t.length 4000000000 then (bif Nat.ble [39, 39].length 1000 then some (DV.s (cS 39 [39, 39] t), h) else none) else none) else none) = _
 rw [e1]
 rfl
theorem bCb (ks : List Node) : (oE ks).map Nf.tx = iG ks ∧ (oE ks).map Nf.ht = dC ks := by
 rw [nV]
 simp [iG, dC]
end Go.Dd

namespace Go.Dd
open Go.Proofs
section
variable {I : Im} {A Q L : Ls} {s1 y : DV} {ns : List (List Nat)} {P : DV → Hp → Prop}
theorem aFl (N : SS I s1 ns) : ∀ (r : List (List Nat)) (i j : Nat) (h : Hp) (acc : List Nat), ns.drop i = r → Sy I A Q L h → (acc ++ bC r).length ≤ 100000000000 →
 (∀ h, Sy I A Q L h → Ev (fun n => dM (aL n) n y (.s (acc ++ bC r)) h) P) →
 Ev (fun n => iC (aL n) n (n - j) y (.s acc) s1 (.i .i64 (ns.length : Int)) (.i .i64 (i : Int)) h) P
 | [], i, j, h, acc, hr, S, hl, fin => by
  refine bOv j (ll := fun n m => iC (aL n) n m y (.s acc) s1 (.i .i64 (ns.length : Int)) (.i .i64 (i : Int)) h) (bb := fun n m => lJ (aL n) n (iC (aL n) n m) y (.s acc) s1 (.i .i64 (ns.length : Int)) (.i .i64 (i : Int)) h) (fun _ _ => rfl) ?_
  unfold lJ
  have hle : ns.length ≤ i := List.drop_eq_nil_iff.1 hr
  refine bPr (fun e1 => absurd e1 (by omega)) (fun e1 => ?_)
  refine bPk ?_
  have := fin h S
  simpa [aJ, bC] using this
 | p :: r, i, j, h, acc, hr, S, hl, fin => by
  refine bOv j (ll := fun n m => iC (aL n) n m y (.s acc) s1 (.i .i64 (ns.length : Int)) (.i .i64 (i : Int)) h) (bb := fun n m => lJ (aL n) n (iC (aL n) n m) y (.s acc) s1 (.i .i64 (ns.length : Int)) (.i .i64 (i : Int)) h) (fun _ _ => rfl) ?_
  unfold lJ
  have hlim : ns.length ≤ cA := N.1
  have hi' : i < ns.length := by
   rcases Nat.lt_or_ge i ns.length with h | h
   ·exact h
   ·rw [List.drop_eq_nil_of_le h] at hr; cases hr
  have hx : ns[i]? = some p := by
   have : (ns.drop i)[0]? = some p := by rw [hr]; rfl
   simpa [aJ] using this
  have hr2 : ns.drop (i + 1) = r := by
   have := jJ hx
   rw [hr] at this
   simpa [aJ] using this.symm
  refine bPr (fun e1 => ?_) (fun e1 => absurd (show (i : Int) < ns.length by omega) e1)
  refine bQa ?_
  obtain ⟨b, o, ei, el⟩ := N.at S hx
  refine Ev.op (ei _) ?_
  refine Ev.op el ?_
  refine bPl S (cs := [.s acc, .s [58], .s p, .s [32]]) (by simp [cJ, cD]) ?_
  intro b1 h7 S7
  have hl' : acc.length + (p.length + (bC r).length) ≤ 100000000000 - 2 := by simp [bC] at hl; omega
  refine bOm (eV [acc, [58], p, [32]] S7 (fO) rfl (by simp [aF]; omega) (by simp)) ?_
  rintro _ _ ⟨rfl, rfl⟩
  have ej : aF [] [acc, [58], p, [32]] = acc ++ (58 :: (p ++ [32])) := by simp [aF]
  rw [ej]
  refine bOw ?_
  rw [aBx (by omega)]
  have ea : (acc ++ (58 :: (p ++ [32]))) ++ bC r = acc ++ bC (p :: r) := by simp [bC]
  exact aFl N r (i + 1) (j + 1) _ (acc ++ (58 :: (p ++ [32]))) hr2 S7.dropL (by rw [ea]; exact hl) (fun h S => by rw [ea]; exact fin h S)
end
end Go.Dd

namespace Go.Dd
open Go.Proofs
theorem aIs {k m : Int} {t : List Nat} {ns ts : List (List Nat)} {ks : List Node} (T : ∀ y ∈ ks, kK y) (K : ∀ z ∈ ks, (∀ y ∈ z.kids, kK y) ∧ z.text.length ≤ 1000000000 ∧ z.kids.length + 1 ≤ cA)
 (hs : t.length ≤ 1000000000) (hm0 : -9223372036854775808 ≤ m) (hm1 : m ≤ 9223372036854775807) : kK (.mk k t m ns ts ks) := by
 intro I A Q L h cs S N hl
 have N0 := N
 obtain ⟨etx, eht⟩ := bCb ks
 have ex : (nf (.mk k t m ns ts ks)).tx = tN k t m ns ts (oE ks) := by simp [nf]
 rw [ex] at hl ⊢
 refine Ev.enter (fun n => aTf n _ h) ?_
 unfold s36
 obtain ⟨s1, s2, s3, rfl, a, b, c, cells, F, NL⟩ := N
 have N3 : NS I s3 ks := ⟨c, cells, F, NL⟩
 have o1 := a.2.one
 have o2 := b.2.one
 have o3 := F.one
 refine Ev.box S rfl ?_
 intro b1 h1 S1
 unfold aGq
 refine wf ?_; refine wl ?_
 unfold aFy
 unfold tN at hl ⊢
 refine bOr (fun e1 => ?_) (fun e1 => ?_)
 ·replace e1 : k = 1 := e1
  rw [if_pos e1] at hl ⊢
  unfold aAi
  refine yt (wf ?_); refine wl ?_
  refine Ev.op (aVt hm0 hm1 _) ?_
  exact bOo ⟨rfl, S1.dropL⟩
 replace e1 : ¬ k = 1 := e1
 rw [if_neg e1] at hl ⊢
 unfold aAi aSt
 refine bPk ?_
 refine bOr (fun e2 => ?_) (fun e2 => ?_)
 ·replace e2 : k = 2 := e2
  rw [if_pos e2] at hl ⊢
  unfold aAb
  refine yt (wf ?_); refine wl ?_
  refine Ev.op (aWj hs _) ?_
  refine bPl S1 (cs := [.s [39], .s (cS 39 [39, 39] t), .s [39]]) (by simp [cJ, cD]) ?_
  intro b2 h2 S2
  refine bOm (eV [[39], cS 39 [39, 39] t, [39]] S2 (fO) rfl (by simp [aF] at hl ⊢; omega) (by simp)) ?_
  rintro _ _ ⟨rfl, rfl⟩
  refine bOo ⟨?_, S2.dropL.dropL⟩
  simp [aF]
 replace e2 : ¬ k = 2 := e2
 rw [if_neg e2] at hl ⊢
 unfold aAb aOu
 refine bPk ?_
 refine bOr (fun e3 => ?_) (fun e3 => ?_)
 ·replace e3 : k = 3 := e3
  rw [if_pos e3] at hl ⊢
  unfold zC
  refine yt (wf ?_); refine wl ?_
  refine bPl S1 (cs := [.s [35], .s t]) (by simp [cJ, cD]) ?_
  intro b2 h2 S2
  refine bOm (eV [[35], t] S2 (fO) rfl (by simp [aF] at hl ⊢; omega) (by simp)) ?_
  rintro _ _ ⟨rfl, rfl⟩
  refine bOo ⟨?_, S2.dropL.dropL⟩
  simp [aF]
 replace e3 : ¬ k = 3 := e3
 rw [if_neg e3] at hl ⊢
 unfold zC aQc
 refine bPk ?_
 refine bOr (fun e4 => ?_) (fun e4 => ?_)
 ·replace e4 : k = 4 := e4
  rw [if_pos e4, etx] at hl ⊢
  unfold rX
  refine yt (wf ?_); refine wl ?_
  refine bOm (tF (sep := [32]) S1 N3 (fun x hx => HowOk.text (T x hx)) (by simp only [iG] at hl; simp at hl ⊢; omega)) ?_
  rintro _ h2 ⟨rfl, S2⟩
  refine bPl S2 (cs := [.s [35, 40], .s (aF [32] (iG ks)), .s [41]]) (by simp [cJ, cD, iG]) ?_
  intro b2 h3 S3
  refine bOm (eV [[35, 40], aF [32] (iG ks), [41]] S3 (fO) rfl (by simp [aF] at hl ⊢; omega) (by simp)) ?_
  rintro _ _ ⟨rfl, rfl⟩
  refine bOo ⟨?_, S3.dropL.dropL⟩
  simp [aF]
 replace e4 : ¬ k = 4 := e4
 rw [if_neg e4] at hl ⊢
 unfold rX aDe
 refine bPk ?_
 refine bOr (fun e5 => ?_) (fun e5 => ?_)
 ·replace e5 : k = 6 := e5
  rw [if_pos e5, etx] at hl ⊢
  unfold sS
  refine bQa ?_
  have Sr := S1.res
  generalize hh : iI 1 h1 = hr at Sr
  refine bRd ?_
  refine bRr Sr (List.Mem.tail _ (fO)) rfl rfl ?_
  refine bRd ?_
  refine bRr Sr (List.Mem.tail _ (fO)) rfl o3 ?_
  refine bOm (tF (sep := []) Sr N3 (fun x hx => HowOk.text (T x hx)) (by simp only [iG] at hl; simp at hl ⊢; omega)) ?_
  rintro _ h2 ⟨rfl, S2⟩
  refine bPg ?_ ?_
  ·rw [Bool.and_true]; exact fV S2 (List.Mem.tail _ (fO)) rfl rfl (sB _)
  refine bPo S2 (cs := [.s t, .s [32, 58, 61, 32], .s (aF [] (iG ks))]) (Rpl.head _) (by simp [cJ, cD, iG]) ?_
  intro h3 S3
  refine bOm (eV [t, [32, 58, 61, 32], aF [] (iG ks)] S3 (fO) rfl (by simp [aF] at hl ⊢; omega) (by simp)) ?_
  rintro _ _ ⟨rfl, rfl⟩
  refine bOo ⟨?_, S3.dropL.dropL⟩
  simp [aF]
 replace e5 : ¬ k = 6 := e5
 rw [if_neg e5] at hl ⊢
 unfold sS aDr
 refine bPk ?_
 refine bOr (fun e6 => ?_) (fun e6 => ?_)
 ·replace e6 : k = 10 := e6
  rw [if_pos e6, etx] at hl ⊢
  unfold sU
  refine yt (wf ?_); refine wl ?_
  refine bOm (tF (sep := []) S1 N3 (fun x hx => HowOk.text (T x hx)) (by simp only [iG] at hl; simp at hl ⊢; omega)) ?_
  rintro _ h2 ⟨rfl, S2⟩
  refine bPl S2 (cs := [.s [94], .s (aF [] (iG ks))]) (by simp [cJ, cD, iG]) ?_
  intro b2 h3 S3
  refine bOm (eV [[94], aF [] (iG ks)] S3 (fO) rfl (by simp [aF] at hl ⊢; omega) (by simp)) ?_
  rintro _ _ ⟨rfl, rfl⟩
  refine bOo ⟨?_, S3.dropL.dropL⟩
  simp [aF]
 replace e6 : ¬ k = 10 := e6
 rw [if_neg e6] at hl ⊢
 unfold sU aCa
 refine bPk ?_
 refine bOr (fun e7 => ?_) (fun e7 => ?_)
 ·replace e7 : k = 7 := e7
  rw [if_pos e7, eht] at hl ⊢
  unfold qN
  refine yt (wf ?_); refine wl ?_; refine wf ?_; refine wl ?_
  refine bOm (uJ S1 N3 T hs hl) ?_
  rintro _ h2 ⟨rfl, S2⟩
  exact bOo ⟨rfl, S2.dropL⟩
 replace e7 : ¬ k = 7 := e7
 rw [if_neg e7] at hl ⊢
 unfold qN aCk
 refine bPk ?_
 refine bOr (fun e8 => ?_) (fun e8 => ?_)
 ·replace e8 : k = 8 := e8
  rw [if_pos e8] at hl ⊢
  unfold sW
  refine yt (wf ?_); refine wl ?_
  refine bOm (aJl S1 N3 T K hl) ?_
  rintro _ h2 ⟨rfl, S2⟩
  exact bOo ⟨rfl, S2.dropL⟩
 replace e8 : ¬ k = 8 := e8
 rw [if_neg e8] at hl ⊢
 unfold sW aDl
 refine bPk ?_
 refine bOr (fun e9 => ?_) (fun e9 => ?_)
 ·replace e9 : k = 9 := e9
  rw [if_pos e9, etx] at hl ⊢
  unfold qJ
  refine bQa ?_
  unfold aDt wB
  have hbody : (aV ts (iG ks)).length ≤ 100000000000 := by simp at hl; omega
  have fin : ∀ (pre : List Nat) (h : Hp), Sy I A Q ((b1, some (.row .ex [.i .i64 k, .s t, .i .i64 m, s1, s2, s3])) :: L) h → pre.length + (aV ts (iG ks)).length + 2 ≤ 100000000000 →
   Ev (fun n => xE (aL n) n (.p b1 0) (.s pre) h) (fun v h' => v = .s (91 :: (pre ++ (aV ts (iG ks) ++ [93]))) ∧ Sy I A Q L h') := by
   intro pre h S hp
   unfold xE
   refine bQz S (fO) rfl (N0.shape.2.1) ?_
   refine bOm (tV S N0 T hbody) ?_
   rintro _ h2 ⟨rfl, S2⟩
   refine bPl S2 (cs := [.s [91], .s pre, .s (aV ts (iG ks)), .s [93]]) (by simp [cJ, cD]) ?_
   intro b2 h3 S3
   refine bOm (eV [[91], pre, aV ts (iG ks), [93]] S3 (fO) rfl (by simp [aF]; omega) (by simp)) ?_
   rintro _ _ ⟨rfl, rfl⟩
   refine bOo ⟨?_, S3.dropL.dropL⟩
   simp [aF]
  refine wf ?_; refine wl ?_
  refine Ev.op (a.2.len _) ?_
  unfold yM aCc
  have hn : (bC ns).length ≤ 100000000000 := by
   by_cases h9 : bC ns = []
   ·rw [h9]; simp
   ·rw [if_neg h9] at hl; simp at hl; omega
  refine aFl a ns 0 0 _ [] rfl S1 (by simpa using hn) ?_
  intro h2 S2
  simp only [List.nil_append]
  unfold dM
  refine bRq (fun h9 => ?_) (fun h9 => ?_)
  ·rw [if_neg h9] at hl ⊢
   refine bQa ?_
   refine bPl S2 (cs := [.s (bC ns), .s [124, 32]]) (by simp [cJ, cD]) ?_
   intro b2 h3 S3
   refine bOm (eV [bC ns, [124, 32]] S3 (fO) rfl (by simp [aF] at hl ⊢; omega) (by simp)) ?_
   rintro _ _ ⟨rfl, rfl⟩
   have ej : aF [] [bC ns, [124, 32]] = bC ns ++ [124, 32] := by simp [aF]
   rw [ej]
   exact fin _ _ S3.dropL (by simp at hl ⊢; omega)
  ·rw [if_pos h9] at hl ⊢
   refine bPk ?_
   rw [h9]
   exact fin _ _ S2 (by simp at hl ⊢; omega)
 replace e9 : ¬ k = 9 := e9
 rw [if_neg e9] at hl ⊢
 unfold qJ aD
 refine yj (wf ?_); refine wl ?_
 exact bOo ⟨rfl, S1.dropL⟩
end Go.Dd

namespace Go.Dd
open Go.Proofs
mutual
def Sk : Node → Prop
 | .mk k t m ns ts ks => t.length ≤ 1000000000 ∧ -9223372036854775808 ≤ m ∧ m ≤ 9223372036854775807 ∧ ks.length + 1 ≤ cA ∧ SkL ks
def SkL : List Node → Prop
 | [] => True
 | x :: l => Sk x ∧ SkL l
end
mutual
theorem aAj : ∀ x, Sk x → kK x ∧ (∀ y ∈ x.kids, kK y) ∧ x.text.length ≤ 1000000000 ∧ x.kids.length + 1 ≤ cA
 | .mk k t m ns ts ks, h => by
  unfold Sk at h
  obtain ⟨h1, h2, h3, h4, h5⟩ := h
  have T := uQ ks h5
  exact ⟨aIs (fun y hy => (T y hy).1) (fun z hz => (T z hz).2) h1 h2 h3, fun y hy => (T y hy).1, h1, h4⟩
theorem uQ : ∀ l, SkL l → ∀ y ∈ l, kK y ∧ (∀ z ∈ y.kids, kK z) ∧ y.text.length ≤ 1000000000 ∧ y.kids.length + 1 ≤ cA
 | [], _ => fun y hy => by cases hy
 | x :: l, h => by
  unfold SkL at h
  have p := aAj x h.1
  have q := uQ l h.2
  intro y hy
  rcases List.mem_cons.1 hy with e | hy
  ·rw [e]; exact p
  ·exact q y hy
end
end Go.Dd

namespace Go.Dd
open Go.Proofs
section
variable {I : Im} {A Q L : Ls}
theorem aPs {h : Hp} {s1 s2 : DV} {l1 l2 : List (List Nat)} (S : Sy I A Q L h) (N1 : SS I s1 l1) (N2 : SS I s2 l2) : ∀ (r1 r2 : List (List Nat)) (i j : Nat), l1.drop i = r1 → l2.drop i = r2 → r1.length = r2.length → i ≤ l1.length →
 Ev (fun n => jQ (aL n) n (n - j) s1 s2 (.i .i64 (l1.length : Int)) (.i .i64 (i : Int)) h) (fun v h' => v = .b (decide (r1 = r2)) ∧ h' = h) := by
 intro r1
 induction r1 with
 | nil =>
  intro r2 i j e1 e2 hl hi
  refine bOv j (ll := fun n p => jQ (aL n) n p s1 s2 (.i .i64 (l1.length : Int)) (.i .i64 (i : Int)) h) (bb := fun n p => oU (aL n) n (jQ (aL n) n p) s1 s2 (.i .i64 (l1.length : Int)) (.i .i64 (i : Int)) h) (fun _ _ => rfl) ?_
  have h2 : r2 = [] := by cases r2 with
   | nil => rfl
   | cons => simp at hl
  subst h2
  have hl2 : i = l1.length := by
   have := congrArg List.length e1
   simp at this
   omega
  unfold oU
  refine bPr (fun k => ?_) (fun k => ?_)
  ·omega
  ·refine yj ?_
   unfold fN
   exact bOo ⟨by simp, rfl⟩
 | cons x r1 ih =>
  intro r2 i j e1 e2 hl hi
  refine bOv j (ll := fun n p => jQ (aL n) n p s1 s2 (.i .i64 (l1.length : Int)) (.i .i64 (i : Int)) h) (bb := fun n p => oU (aL n) n (jQ (aL n) n p) s1 s2 (.i .i64 (l1.length : Int)) (.i .i64 (i : Int)) h) (fun _ _ => rfl) ?_
  obtain ⟨y, r2, rfl⟩ : ∃ y r, r2 = y :: r := by cases r2 with
   | nil => simp at hl
   | cons y r => exact ⟨y, r, rfl⟩
  have hx : l1[i]? = some x := dA0 e1
  have hy : l2[i]? = some y := dA0 e2
  have hlt := (gLt hx)
  have e1' : l1.drop (i + 1) = r1 := dA1 e1
  have e2' : l2.drop (i + 1) = r2 := dA1 e2
  obtain ⟨b1, o1, p1, q1⟩ := N1.at S hx
  obtain ⟨b2, o2, p2, q2⟩ := N2.at S hy
  have hb := N1.1
  unfold oU
  refine bPr (fun k => ?_) (fun k => ?_)
  ·refine yt ?_
   refine Ev.op (p1 _) (Ev.op q1 (Ev.op (p2 _) (Ev.op q2 ?_)))
   refine bRq (fun k2 => ?_) (fun k2 => ?_)
   ·refine yt ?_
    exact bOo ⟨by simp [k2], rfl⟩
   ·refine yj ?_
    refine bOw ?_
    rw [aBx (by omega)]
    refine (ih r2 (i + 1) (j + 1) e1' e2' (by simpa using hl) (by omega)).mono ?_
    rintro v h' ⟨rfl, rfl⟩
    exact ⟨by simp [k2], rfl⟩
  ·omega
theorem aMs (n : Nat) (x y : DV) (h : Hp) : aL (n + 1) 63 [x, y] h = s63 (aL n) n x y h := by kernel_rfl
theorem aSh {h : Hp} {s1 s2 : DV} {l1 l2 : List (List Nat)} (S : Sy I A Q L h) (N1 : SS I s1 l1) (N2 : SS I s2 l2) :
 Ev (fun n => aL n 63 [s1, s2] h) (fun v h' => v = .b (decide (l1 = l2)) ∧ h' = h) := by
 refine Ev.enter (fun n => aMs n _ _ h) ?_
 unfold s63 aEh
 refine Ev.op (N1.2.len _) (Ev.op (N2.2.len _) (bPq (fun e => ?_) (fun e => ?_)))
 ·refine yt ?_
  refine bOo ⟨?_, rfl⟩
  have : l1 ≠ l2 := fun h => e (by rw [h])
  simp [this]
 ·refine yj ?_
  unfold aFq
  refine Ev.op (N1.2.len _) ?_
  unfold aFz aRt
  exact aPs S N1 N2 l1 l2 0 0 (by simp) (by simp) (by omega) (by omega)
end
end Go.Dd

namespace Go.Dd
open Go.Proofs
theorem aPd (n : Nat) (x y z : DV) (h : Hp) : aL (n + 1) 64 [x, y, z] h = s64 (aL n) n x y z h := by kernel_rfl
theorem aOh (n : Nat) (x y : DV) (h : Hp) : aL (n + 1) 37 [x, y] h = s37 (aL n) n x y h := by kernel_rfl
theorem aUk (rec : FuncId → List DV → Hp → aG) (x y : DV) (h : Hp) : dP CF rec (.f 37 [] []) [x, y] h = rec 37 [x, y] h := by kernel_rfl
theorem bGp (k k' m m' : Int) (t t' : List Nat) (ns ns' ts ts' : List (List Nat)) (ks ks' : List Node) :
 nEq (.mk k t m ns ts ks) (.mk k' t' m' ns' ts' ks') = (decide (k = k') && decide (t = t') && decide (m = m') && decide (ns = ns') && decide (ts = ts') && oT ks ks') := by
 show (decide (ns = ns') && decide (ts = ts') && decide (k = k') && decide (t = t') && decide (m = m') && oT ks ks') = _
 generalize decide (ns = ns') = a
 generalize decide (ts = ts') = b
 generalize decide (k = k') = c
 generalize decide (t = t') = d
 generalize decide (m = m') = e
 cases a <;> cases b <;> cases c <;> cases d <;> cases e <;> rfl
theorem bDh {ks ks' : List Node} {I : Im} {A Q L : Ls} {h : Hp} {s s' : DV} (N : NS I s ks) (N' : NS I s' ks') (S : Sy I A Q L h)
 (lp : ks.length = ks'.length → Ev (fun n => iZ (aL n) n (n - 0) s' (.f 37 [] []) s (.i .i64 (ks.length : Int)) (.i .i64 ((0 : Nat) : Int)) h) (fun v h' => v = .b (oT ks ks') ∧ Sy I A Q L h')) :
 Ev (fun n => aL n 64 [s, s', .f 37 [] []] h) (fun v h' => v = .b (oT ks ks') ∧ Sy I A Q L h') := by
 refine Ev.enter (fun n => aPd n _ _ _ h) ?_
 unfold s64 aIe
 refine Ev.op (N.len _) (Ev.op (N'.len _) (bPq (fun e => ?_) (fun e => ?_)))
 ·refine yt ?_
  refine bOo ⟨?_, S⟩
  rw [zO ks ks' (by omega)]
 ·refine yj ?_
  unfold aHi
  refine Ev.op (N.len _) ?_
  unfold aFd aJr
  exact lp (by omega)
mutual
theorem aAp : ∀ (x y : Node) (I : Im) (A Q L : Ls) (h : Hp) (cs cs' : List DV), Sy I A Q L h → NV I x cs → NV I y cs' → Ev (fun n => aL n 37 [.a cs, .a cs'] h) (fun v h' => v = .b (nEq x y) ∧ Sy I A Q L h')
 | .mk k t m ns ts ks, .mk k' t' m' ns' ts' ks', I, A, Q, L, h, cs, cs', S, ⟨s1, s2, s3, e, a1, a2, a3, cells, F, NL⟩, ⟨s1', s2', s3', e', a1', a2', a3', cells', F', NL'⟩ => by
  subst e
  subst e'
  have o1 := a1.2.one
  have o2 := a2.2.one
  have o3 := F.one
  have o1' := a1'.2.one
  have o2' := a2'.2.one
  have o3' := F'.one
  refine Ev.enter (fun n => aOh n _ _ h) ?_
  unfold s37
  refine Ev.box S rfl (fun b h1 S1 => ?_)
  refine Ev.box S1 rfl (fun b' h2 S2 => ?_)
  rw [bGp]
  refine wf ?_; refine wl ?_; refine wf ?_; refine wl ?_
  refine bOr (fun e1 => ?_) (fun e1 => ?_)
  ·refine zt (wf (zt ?_)); refine wl ?_; refine zt (wf (zt ?_)); refine wl ?_; refine zt ?_
   refine bRp (fun e2 => ?_) (fun e2 => ?_)
   ·refine ap (zt (wf (zt ?_))); refine wl ?_; refine zt (wf (zt ?_)); refine wl ?_; refine zt ?_
    refine bOr (fun e3 => ?_) (fun e3 => ?_)
    ·refine ap (zt (wf (zt ?_))); refine wl ?_; refine zt (wf (zt ?_)); refine wl ?_; refine zt ?_
     refine bOm (aSh S2 a1 a1') ?_
     rintro _ _ ⟨rfl, rfl⟩
     by_cases e4 : ns = ns'
     ·rw [decide_eq_true e4]
      refine ap (zt (wf (zt ?_))); refine wl ?_; refine zt (wf (zt ?_)); refine wl ?_; refine zt ?_
      refine bOm (aSh S2 a2 a2') ?_
      rintro _ _ ⟨rfl, rfl⟩
      by_cases e5 : ts = ts'
      ·rw [decide_eq_true e5]
       refine ap (zt (wf (zt ?_))); refine wl ?_; refine zt (wf (zt ?_)); refine wl ?_; refine zt ?_
       refine bOm (bDh ⟨a3, cells, F, NL⟩ ⟨a3', cells', F', NL'⟩ S2 (fun hl => aBb ks ks' I A Q _ _ s3 s3' ks ks' 0 0 ⟨a3, cells, F, NL⟩ ⟨a3', cells', F', NL'⟩ (by simp) (by simp) hl (by omega) S2)) ?_
       rintro _ h9 ⟨rfl, S9⟩
       simp only [e1, e2, e3, decide_true, Bool.true_and]
       generalize oT ks ks' = c
       cases c with
       | true =>
        refine ap ?_
        exact bOo ⟨rfl, dp⟩
       | false =>
        refine ap ?_
        exact bOo ⟨rfl, dp⟩
      ·rw [decide_eq_false e5]
       refine ap (yf (yf (yf (yf (yf (aq ?_))))))
       exact bOo ⟨by simp, dp⟩
     ·rw [decide_eq_false e4]
      refine ap (yf (yf (yf (yf (yf (aq (yf (yf (yf (yf (yf (aq ?_))))))))))))
      exact bOo ⟨by simp, dp⟩
    ·refine ap (yf (yf (yf (yf (yf (aq (yf (yf (yf (yf (yf (aq (yf (yf (yf (yf (yf (aq ?_))))))))))))))))))
     exact bOo ⟨by simp [e3], dp⟩
   ·refine ap (yf (yf (yf (yf (yf (aq (yf (yf (yf (yf (yf (aq (yf (yf (yf (yf (yf (aq (yf (yf (yf (yf (yf (aq ?_))))))))))))))))))))))))
    exact bOo ⟨by simp [e2], dp⟩
  ·refine yf (yf (yf (yf (yf (aq (yf (yf (yf (yf (yf (aq (yf (yf (yf (yf (yf (aq (yf (yf (yf (yf (yf (aq (yf (yf (yf (yf (yf (aq ?_)))))))))))))))))))))))))))))
   exact bOo ⟨by simp [e1], dp⟩
theorem aBb : ∀ (r r' : List Node) (I : Im) (A Q L : Ls) (h : Hp) (s s' : DV) (ks ks' : List Node) (i j : Nat), NS I s ks → NS I s' ks' → ks.drop i = r → ks'.drop i = r' → r.length = r'.length → i ≤ ks.length → Sy I A Q L h →
 Ev (fun n => iZ (aL n) n (n - j) s' (.f 37 [] []) s (.i .i64 (ks.length : Int)) (.i .i64 (i : Int)) h) (fun v h' => v = .b (oT r r') ∧ Sy I A Q L h')
 | [], r', I, A, Q, L, h, s, s', ks, ks', i, j, N, N', hr, hr', hl, hi, S => by
  have h2 : r' = [] := by cases r' with
   | nil => rfl
   | cons => simp at hl
  subst h2
  refine bOv j (ll := fun n p => iZ (aL n) n p s' (.f 37 [] []) s (.i .i64 (ks.length : Int)) (.i .i64 (i : Int)) h) (bb := fun n p => nT (aL n) n (iZ (aL n) n p) s' (.f 37 [] []) s (.i .i64 (ks.length : Int)) (.i .i64 (i : Int)) h) (fun _ _ => rfl) ?_
  have hl2 : i = ks.length := by
   have := congrArg List.length hr
   simp at this
   omega
  unfold nT
  refine bPr (fun e1 => ?_) (fun e1 => ?_)
  ·omega
  ·refine yj ?_
   unfold fJ
   exact bOo ⟨rfl, S⟩
 | x :: r, r', I, A, Q, L, h, s, s', ks, ks', i, j, N, N', hr, hr', hl, hi, S => by
  obtain ⟨y, r', rfl⟩ : ∃ y q, r' = y :: q := by cases r' with
   | nil => simp at hl
   | cons y q => exact ⟨y, q, rfl⟩
  refine bOv j (ll := fun n p => iZ (aL n) n p s' (.f 37 [] []) s (.i .i64 (ks.length : Int)) (.i .i64 (i : Int)) h) (bb := fun n p => nT (aL n) n (iZ (aL n) n p) s' (.f 37 [] []) s (.i .i64 (ks.length : Int)) (.i .i64 (i : Int)) h) (fun _ _ => rfl) ?_
  have hx : ks[i]? = some x := dA0 hr
  have hy : ks'[i]? = some y := by
   have := congrArg (fun l => l[0]?) hr'
   simpa [aJ] using this
  have hlt := (gLt hx)
  have e1' : ks.drop (i + 1) = r := dA1 hr
  have e2' : ks'.drop (i + 1) = r' := by
   have := congrArg (List.drop 1) hr'
   simpa [aJ, List.drop_drop] using this
  have hb := N.1
  unfold nT
  refine bPr (fun e1 => ?_) (fun e1 => ?_)
  ·refine yt ?_
   obtain ⟨p1, q1, d1, u1, u2, u3⟩ := N.at hx
   obtain ⟨p2, q2, d2, v1, v2, v3⟩ := N'.at hy
   obtain ⟨l1, k1, m1⟩ := u2.shape
   obtain ⟨l2, k2, m2⟩ := v2.shape
   refine Ev.op (u1 _) (Ev.op (u3 _ _ _ _ _ (ILe.refl _) S) ?_)
   refine wa fun _ _ _ => ?_; refine wt fun _ _ => ?_
   refine Ev.op (v1 _) (Ev.op (v3 _ _ _ _ _ (ILe.refl _) (by assumption)) ?_)
   refine wa fun _ _ _ => ?_; refine wt fun _ _ => ?_; refine ws ?_; refine ws ?_
   simp only [aUk]
   refine bOm (aAp x y I A Q _ _ d1 d2 (by assumption) u2 v2) ?_
   rintro _ h1 ⟨rfl, S1⟩
   simp only [oT]
   cases e : nEq x y with
   | false =>
    refine ao (yt ?_)
    exact bOo ⟨by simp, dp⟩
   | true =>
    refine an (yj ?_)
    refine bOw ?_
    rw [aBx (by omega)]
    refine (aBb r r' I A Q L h1 s s' ks ks' (i + 1) (j + 1) N N' e1' e2' (by simpa using hl) (by omega) (dp)).mono ?_
    rintro v h' ⟨rfl, S2⟩
    exact ⟨by simp, S2⟩
  ·omega
end
end Go.Dd

namespace Go.Dd
open Go.Proofs
section
variable {I : Im} {A Q L : Ls}
end
end Go.Dd

namespace Go.Dd
open Go.Proofs
theorem bMn {l : List Nat} {b : Nat} (h2 : b ≤ l.length) (h : Hp) : dS (.s l) none (some (.i .i64 (Int.ofNat b))) h = some (.s (l.take b), h) := by
 have e1 : loD none b = some 0 := by simp [loD]
 have e2 : zB (some (.i .i64 (Int.ofNat b))) l.length l.length = some b := by
  show (if 0 ≤ (Int.ofNat b) ∧ (Int.ofNat b) ≤ (l.length : Int) then some (Int.ofNat b).toNat else none) = _
  have hi' : (Int.ofNat b) = (b : Int) := rfl
  rw [if_pos ⟨by omega, by omega⟩]
  rfl
 simp only [dS, e1, e2, List.drop_zero]
theorem aMe {H : PF} {f : Nat} {lx : List Tok × Int × Int} (h : lx.2.2 = 0) : iW H f lx = iW H f (lx.1, 0, 0) := by
 unfold iW
 rw [if_pos h, if_pos rfl]
theorem bJs {u : List Nat} (hu : u.length ≤ 2000) : ∃ lx res, nM 2001 2001 u = some lx ∧ iW pI 2004 lx = some res ∧ (res.2.2 = 0 → lx.2.2 = 0 ∧ lx.1.length ≤ 2001 ∧ Good lx.1 ∧ oX lx.1 ≤ fA res.1 ∧ fA res.1 ≤ gY lx.1) := by
 obtain ⟨lx, hl, hg⟩ := bKo hu
 by_cases e : lx.2.2 = 0
 ·obtain ⟨g1, g2⟩ := hg e
  obtain ⟨x, a, e', h1, h2⟩ := bKv (f := 2004) g1 (by omega) (by omega)
  refine ⟨lx, _, hl, (aMe e).trans h1, fun h => ⟨e, g2, g1, h2 h⟩⟩
 ·refine ⟨lx, (zN, lx.2.1, lx.2.2), hl, ?_, fun h => absurd h e⟩
  unfold iW
  rw [if_neg e]
end Go.Dd

namespace Go.Dd
section
variable {α β : Type} {V : α → α → Prop} {W : β → β → Prop}
end
variable {s s' : PSt}
end Go.Dd

namespace Go.Dd
def aSw (c : Nat) : Prop := cT c = false ∧ c ≠ 58 ∧ c ≠ 61 ∧ cU signs c = false ∧ c ≠ 39
def Stop (v : List Nat) : Prop := aSw (nx v 0)
def aFh (v : List Nat) : Prop := cU signs (nx v 0) = false
theorem Stop.three {v : List Nat} (h : Stop v) : aFh v := by
 exact h.2.2.2.1
theorem zW {c : Nat} (h : cT c = false) : bF c = false := by
 unfold cT at h
 cases e : bF c with
 | false => rfl
 | true => rw [e] at h; simp at h
theorem aDb (so : Nat → Bool) : ∀ (u : List Nat) (k : Nat) (v : List Nat), (∀ c r, v = c :: r → so c = false) → (u.takeWhile so).length ≤ k → k ≤ u.length → (u.take k ++ v).takeWhile so = u.takeWhile so
 | [], k, v, hv, h1, h2 => by
  have : k = 0 := by simpa using h2
  subst this
  cases v with
  | nil => rfl
  | cons c r => simp [hv c r rfl]
 | a :: u, 0, v, hv, h1, h2 => by
  have ha : so a = false := by
   cases e : so a with
   | false => rfl
   | true => simp [e] at h1
  cases v with
  | nil => simp [ha]
  | cons c r => simp [hv c r rfl, ha]
 | a :: u, k + 1, v, hv, h1, h2 => by
  cases e : so a with
  | false => simp [e]
  | true =>
   simp [e] at h1 h2
   have := aDb so u k v hv h1 h2
   simp [e, this]
theorem wH (so : Nat → Bool) : ∀ (u : List Nat) (k : Nat) (v : List Nat), (u.takeWhile so).length < k → k ≤ u.length → (u.take k ++ v).takeWhile so = u.takeWhile so
 | [], k, v, h1, h2 => by simp at h1 h2; omega
 | a :: u, 0, v, h1, h2 => by omega
 | a :: u, k + 1, v, h1, h2 => by
  cases e : so a with
  | false => simp [e]
  | true =>
   simp [e] at h1 h2
   have := wH so u k v h1 h2
   simp [e, this]
theorem vV (so : Nat → Bool) : ∀ (m : Nat) (u : List Nat) (k : Nat) (v : List Nat), (∀ c r, v = c :: r → so c = false) → bH so m u ≤ k → k ≤ u.length → bH so m (u.take k ++ v) = bH so m u
 | 0, u, k, v, hv, h1, h2 => rfl
 | m + 1, [], k, v, hv, h1, h2 => by
  have : k = 0 := by simpa using h2
  subst this
  cases v with
  | nil => rfl
  | cons c r => simp [bH, hv c r rfl]
 | m + 1, a :: u, 0, v, hv, h1, h2 => by
  have ha : so a = false := by
   cases e : so a with
   | false => rfl
   | true => simp [bH, e] at h1
  cases v with
  | nil => simp [bH, ha]
  | cons c r => simp [bH, hv c r rfl, ha]
 | m + 1, a :: u, k + 1, v, hv, h1, h2 => by
  cases e : so a with
  | false => simp [bH, e]
  | true =>
   simp [bH, e] at h1 h2
   have := vV so m u k v hv h1 h2
   simp [bH, e, this]
theorem gB {u v : List Nat} {k j : Nat} (h : j < k) (hk : k ≤ u.length) : nx (u.take k ++ v) j = nx u j := by
 unfold nx
 rw [List.getD, List.getD, List.getElem?_append_left (by simp; omega), List.getElem?_take_of_lt h]
theorem aFs {u v : List Nat} {k : Nat} (hk : k ≤ u.length) : nx (u.take k ++ v) k = nx v 0 := by
 unfold nx
 rw [List.getD, List.getD, List.getElem?_append_right (by simp; omega)]
 simp [Nat.min_eq_left hk]
theorem gU {u v : List Nat} {k j : Nat} (h : j ≤ k) (hk : k ≤ u.length) : (u.take k ++ v).drop j = (u.drop j).take (k - j) ++ v := by
 rw [List.drop_append_of_le_length (by simp; omega), List.drop_take]
theorem nxd (u : List Nat) (j k : Nat) : nx (u.drop j) k = nx u (j + k) := by
 unfold nx
 rw [List.getD, List.getD, List.getElem?_drop]
theorem oF {u v : List Nat} {k : Nat} (hv : ∀ c r, v = c :: r → cT c = false) (h1 : (aI u).2.2 ≤ k) (h2 : k ≤ u.length) : aI (u.take k ++ v) = aI u := by
 rw [uI] at h1
 unfold aI
 rw [aDb cT u k v hv h1 h2]
theorem Stop.name {v : List Nat} (h : Stop v) : ∀ c r, v = c :: r → cT c = false := by
 intro c r e
 subst e
 exact h.1
theorem bQq {v : List Nat} (h : aFh v) : ∀ c r, v = c :: r → cU signs c = false := by
 intro c r e
 subst e
 exact h
theorem Stop.head {v : List Nat} (h : Stop v) : aSw (nx v 0) := h
theorem rQ {v : List Nat} (h : Stop v) : cK v = false := by
 unfold cK
 simp [h.head.2.1]
theorem aJf {u v : List Nat} {n : Nat} (hn : n + 1 ≤ u.length) (h : Stop v) : cK ((u.take (n + 1) ++ v).drop n) = decide (nx u n = 58) := by
 unfold cK
 rw [nxd, nxd, gB (by omega) hn, aFs hn]
 simp [h.head.2.2.1]
theorem nZ {u : List Nat} {n : Nat} (h : cK (u.drop n) = true) : nx u n = 58 := by
 unfold cK at h
 rw [nxd] at h
 simp at h
 exact h.1
theorem aDh {c : Nat} (h : aS c = true) : cU signs c = false ∧ c ≠ 39 ∧ c ≠ 34 := by
 simp [aS] at h
 refine ⟨?_, by omega, by omega⟩
 cases e : cU signs c with
 | false => rfl
 | true =>
  exfalso
  simp [cU, signs] at e
  omega
theorem aBr : ∀ (f : Nat) (out u : List Nat) (res : List Nat × Int × Nat), iO f out u = some res → res.2.2 ≤ u.length ∧ (res.2.1 = 0 → ∀ v, nx v 0 ≠ 39 → iO f out (u.take res.2.2 ++ v) = some res)
 | 0, out, u, res, h => by cases h
 | f + 1, out, u, res, h => by
  have hl := mZ bW u
  unfold iO at h
  by_cases h1 : (u.takeWhile bW).length = u.length
  ·rw [if_pos h1] at h
   cases h
   exact ⟨Nat.le_refl _, fun e => by cases e⟩
  ·rw [if_neg h1] at h
   by_cases h2 : nx u ((u.takeWhile bW).length + 1) = 39
   ·rw [if_pos h2] at h
    obtain ⟨r, e1, e2⟩ := bD h
    cases e2
    obtain ⟨a1, a2⟩ := aBr f _ _ r e1
    have h3 : (u.takeWhile bW).length + 1 < u.length := by
     apply Decidable.byContradiction
     intro hn
     rw [nx, List.getD, List.getElem?_eq_none (by omega)] at h2
     cases h2
    simp at a1
    refine ⟨by show r.2.2 + _ ≤ _; omega, fun e v hv => ?_⟩
    have e0 : (r.1, r.2.1, r.2.2 + ((u.takeWhile bW).length + 2)).2.2 = r.2.2 + ((u.takeWhile bW).length + 2) := rfl
    rw [e0]
    have ht : (u.take (r.2.2 + ((u.takeWhile bW).length + 2)) ++ v).takeWhile bW = u.takeWhile bW := wH bW u _ v (by omega) (by omega)
    unfold iO
    rw [ht]
    rw [if_neg (by simp; omega), gB (by omega) (by omega), if_pos h2, gU (by omega) (by omega)]
    rw [show r.2.2 + ((u.takeWhile bW).length + 2) - ((u.takeWhile bW).length + 2) = r.2.2 by omega, a2 e v hv]
    rfl
   ·rw [if_neg h2] at h
    cases h
    refine ⟨by show _ + 1 ≤ _; omega, fun _ v hv => ?_⟩
    show iO (f + 1) out (u.take ((u.takeWhile bW).length + 1) ++ v) = _
    have hk : (u.takeWhile bW).length + 1 ≤ u.length := by omega
    have ht : (u.take ((u.takeWhile bW).length + 1) ++ v).takeWhile bW = u.takeWhile bW := wH bW u _ v (by omega) hk
    unfold iO
    rw [ht, if_neg (by simp; omega), aFs hk, if_neg hv]
theorem zF : ∀ (f : Nat) (out u : List Nat) (res : List Nat × Int × Nat), lS f out u = some res → res.2.1 = 0 → ∀ v, Stop v → lS f out (u.take res.2.2 ++ v) = some res
 | 0, out, u, res, h => by cases h
 | f + 1, out, u, res, h => by
  intro he v hv
  have hlen := (lF (f + 1) out u res h).1
  have fin : res = (out, 0, 0) → lS (f + 1) out (u.take res.2.2 ++ v) = some res := by
   rintro rfl
   show lS (f + 1) out (u.take 0 ++ v) = _
   rw [List.take_zero, List.nil_append]
   unfold lS
   rw [if_neg (by simp [zW hv.head.1])]
  unfold lS at h
  split at h
  ·rename_i h1
   split at h
   ·rename_i h2
    split at h
    ·rename_i h3
     obtain ⟨r, e1, e2⟩ := bD h
     cases e2
     have hc := gX h2
     simp at hc
     have hlr := (lF f _ _ r e1).1
     simp at hlr
     have ih := zF f _ _ r e1 he v hv
     show lS (f + 1) out (u.take (r.2.2 + ((aI u).2.2 + 1)) ++ v) = _
     have hk : r.2.2 + ((aI u).2.2 + 1) ≤ u.length := by omega
     have en : aI (u.take (r.2.2 + ((aI u).2.2 + 1)) ++ v) = aI u := oF hv.name (by omega) hk
     unfold lS
     rw [gB (by omega) hk, if_pos h1, en]
     have ec : cK ((u.take (r.2.2 + ((aI u).2.2 + 1)) ++ v).drop (aI u).2.2) = true := by
      have hd := nZ h2
      unfold cK at h2 ⊢
      rw [nxd, nxd] at h2 ⊢
      rw [gB (by omega) hk]
      by_cases hr : r.2.2 = 0
      ·rw [hr, Nat.zero_add, aFs (by omega)]
       simp [hd, hv.head.2.2.1]
      ·rw [gB (by omega) hk]
       exact h2
     rw [if_pos ec, if_pos h3, gU (by omega) hk, show r.2.2 + ((aI u).2.2 + 1) - ((aI u).2.2 + 1) = r.2.2 by omega, ih]
     rfl
    ·rename_i h3
     cases h
     exact absurd he h3
   ·cases h; exact fin rfl
  ·cases h; exact fin rfl
theorem sJ {f : Nat} {u : List Nat} {res : List Nat × Int × Nat} (h : dF f u = some res) (he : res.2.1 = 0) : 1 ≤ res.2.2 := by
 unfold dF at h
 split at h
 ·split at h
  ·rename_i h1
   have := nP h1
   split at h
   ·split at h
    ·obtain ⟨r, e1, e2⟩ := bD h
     cases e2
     show 1 ≤ r.2.2 + _
     omega
    ·cases h; exact this
   ·cases h; exact this
  ·cases h; cases he
 ·rename_i h1
  cases h
  show 1 ≤ bH _ _ _
  omega
theorem aCg {f : Nat} {u : List Nat} {res : List Nat × Int × Nat} (h : dF f u = some res) (he : res.2.1 = 0) {v : List Nat} (hv : Stop v) : dF f (u.take res.2.2 ++ v) = some res := by
 have hlen := (jN h).1
 have hpos := sJ h he
 have hs : bH (cU signs) 2 u ≤ res.2.2 → bH (cU signs) 2 (u.take res.2.2 ++ v) = bH (cU signs) 2 u := fun hh => vV _ 2 u _ v (bQq hv.three) hh hlen
 unfold dF at h
 by_cases h0 : bH (cU signs) 2 u = 0
 ·rw [if_pos h0] at h
  have hs := hs (by omega)
  split at h
  ·rename_i h1
   split at h
   ·rename_i h2
    split at h
    ·rename_i h3
     obtain ⟨r, e1, e2⟩ := bD h
     cases e2
     have hc := gX h3
     simp at hc
     have hlr := (lF f _ _ r e1).1
     simp at hlr
     have ih := zF f _ _ r e1 he v hv
     have hk : r.2.2 + ((aI u).2.2 + 1) ≤ u.length := by omega
     have en : aI (u.take (r.2.2 + ((aI u).2.2 + 1)) ++ v) = aI u := oF hv.name (by omega) hk
     show dF f (u.take (r.2.2 + ((aI u).2.2 + 1)) ++ v) = _
     unfold dF
     rw [show bH (cU signs) 2 (u.take (r.2.2 + ((aI u).2.2 + 1)) ++ v) = 0 from hs.trans h0, if_pos rfl, gB (by omega) hk, if_pos h1, en, if_pos h2]
     have ec : cK ((u.take (r.2.2 + ((aI u).2.2 + 1)) ++ v).drop (aI u).2.2) = true := by
      have hd := nZ h3
      unfold cK at h3 ⊢
      rw [nxd, nxd] at h3 ⊢
      rw [gB (by omega) hk]
      by_cases hr : r.2.2 = 0
      ·rw [hr, Nat.zero_add, aFs (by omega)]
       simp [hd, hv.head.2.2.1]
      ·rw [gB (by omega) hk]
       exact h3
     rw [if_pos ec, gU (by omega) hk, show r.2.2 + ((aI u).2.2 + 1) - ((aI u).2.2 + 1) = r.2.2 by omega, ih]
     rfl
    ·rename_i h3
     cases h
     show dF f (u.take (aI u).2.2 ++ v) = _
     have hlen : (aI u).2.2 ≤ u.length := hlen
     have en : aI (u.take (aI u).2.2 ++ v) = aI u := oF hv.name (Nat.le_refl _) hlen
     unfold dF
     rw [show bH (cU signs) 2 (u.take (aI u).2.2 ++ v) = 0 from hs.trans h0, if_pos rfl, gB (nP h1) hlen, if_pos h1, en, if_pos h2, gU (Nat.le_refl _) hlen, Nat.sub_self]
     rw [show cK (List.take 0 (u.drop (aI u).2.2) ++ v) = false from rQ hv]
     rfl
   ·rename_i h2
    cases h
    exact absurd he h2
  ·cases h; cases he
 ·rw [if_neg h0] at h
  cases h
  show dF f (u.take (bH (cU signs) 2 u) ++ v) = _
  have hs := hs (Nat.le_refl _)
  have hlen : bH (cU signs) 2 u ≤ u.length := hlen
  have hs : bH (cU signs) 2 (u.take (bH (cU signs) 2 u) ++ v) = bH (cU signs) 2 u := hs
  unfold dF
  rw [hs, if_neg h0, List.take_append_of_le_length (by simp; omega), List.take_take, Nat.min_self]
theorem aIq {f : Nat} {u : List Nat} {rs : Int × List Nat × Int × Int × Nat} (h : aY f u = some rs) (he : rs.2.2.2.1 = 0) (hp : 1 ≤ rs.2.2.2.2) (hl : rs.2.2.2.2 ≤ u.length) {v : List Nat} (h3 : rs.1 = 3 → aFh v) (hv : rs.1 ≠ 3 → Stop v) :
 aY f (u.take rs.2.2.2.2 ++ v) = some rs := by
 have n0 : nx (u.take rs.2.2.2.2 ++ v) 0 = nx u 0 := gB hp hl
 unfold aY at h
 by_cases h1 : bF (nx u 0) = true
 ·rw [if_pos h1] at h
  by_cases h2 : (aI u).2.1 = 0
  ·rw [if_pos h2] at h
   by_cases hc : cK (u.drop (aI u).2.2) = true
   ·rw [if_pos hc] at h
    cases h
    have hv := hv (by show (2 : Int) ≠ 3; decide)
    have hl : (aI u).2.2 + 1 ≤ u.length := hl
    have n0 : nx (u.take ((aI u).2.2 + 1) ++ v) 0 = nx u 0 := n0
    show aY f (u.take ((aI u).2.2 + 1) ++ v) = _
    unfold aY
    rw [n0, if_pos h1, oF hv.name (by omega) hl, if_pos h2, aJf hl hv, nZ hc]
    rfl
   ·rw [if_neg hc] at h
    cases h
    have hv := hv (by show (1 : Int) ≠ 3; decide)
    have hl : (aI u).2.2 ≤ u.length := hl
    have n0 : nx (u.take (aI u).2.2 ++ v) 0 = nx u 0 := n0
    show aY f (u.take (aI u).2.2 ++ v) = _
    unfold aY
    rw [n0, if_pos h1, oF hv.name (Nat.le_refl _) hl, if_pos h2, gU (Nat.le_refl _) hl, Nat.sub_self]
    rw [show cK (List.take 0 (u.drop (aI u).2.2) ++ v) = false from rQ hv]
    rfl
  ·rw [if_neg h2] at h
   cases h
   exact absurd he h2
 ·rw [if_neg h1] at h
  by_cases hd : aS (nx u 0) = true
  ·rw [if_pos hd] at h
   cases h
   have hv := hv (by show (4 : Int) ≠ 3; decide)
   have hl : (u.takeWhile aS).length ≤ u.length := hl
   have n0 : nx (u.take (u.takeWhile aS).length ++ v) 0 = nx u 0 := n0
   show aY f (u.take (u.takeWhile aS).length ++ v) = _
   have ht : (u.take (u.takeWhile aS).length ++ v).takeWhile aS = u.takeWhile aS := aDb aS u _ v (fun c r e => by
    have := hv.name c r e
    unfold cT at this
    cases e2 : aS c with
    | false => rfl
    | true => rw [e2] at this; simp at this) (Nat.le_refl _) hl
   unfold aY cV
   rw [n0, if_neg h1, if_pos hd, ht]
  ·rw [if_neg hd] at h
   by_cases hq : nx u 0 = 39
   ·rw [if_pos hq] at h
    obtain ⟨r, e1, e2⟩ := bD h
    cases e2
    have hv := hv (by show (5 : Int) ≠ 3; decide)
    have hl : r.2.2 + 1 ≤ u.length := hl
    have n0 : nx (u.take (r.2.2 + 1) ++ v) 0 = nx u 0 := n0
    show aY f (u.take (r.2.2 + 1) ++ v) = _
    unfold aY
    rw [n0, if_neg h1, if_neg hd, if_pos hq, gU (by omega) hl, Nat.add_sub_cancel, (aBr f _ _ r e1).2 he v hv.head.2.2.2.2]
    rfl
   ·rw [if_neg hq] at h
    by_cases hh : nx u 0 = 35
    ·rw [if_pos hh] at h
     by_cases h40 : nx u 1 = 40
     ·rw [if_pos h40] at h
      cases h
      have hl : 2 ≤ u.length := hl
      have n0 : nx (u.take 2 ++ v) 0 = nx u 0 := n0
      show aY f (u.take 2 ++ v) = _
      unfold aY
      rw [n0, if_neg h1, if_neg hd, if_neg hq, if_pos hh, gB (by omega) hl, if_pos h40]
     ·rw [if_neg h40] at h
      obtain ⟨r, e1, e2⟩ := bD h
      cases e2
      have hv := hv (by show (6 : Int) ≠ 3; decide)
      have hl : r.2.2 + 1 ≤ u.length := hl
      have n0 : nx (u.take (r.2.2 + 1) ++ v) 0 = nx u 0 := n0
      have hp := sJ e1 he
      show aY f (u.take (r.2.2 + 1) ++ v) = _
      unfold aY
      rw [n0, if_neg h1, if_neg hd, if_neg hq, if_pos hh, gB (by omega) hl, if_neg h40, gU (by omega) hl, Nat.add_sub_cancel, aCg e1 he hv]
      rfl
    ·rw [if_neg hh] at h
     by_cases ha : nx u 0 = 58 ∧ nx u 1 = 61
     ·rw [if_pos ha] at h
      cases h
      have hl : 2 ≤ u.length := hl
      have n0 : nx (u.take 2 ++ v) 0 = nx u 0 := n0
      show aY f (u.take 2 ++ v) = _
      unfold aY
      rw [n0, if_neg h1, if_neg hd, if_neg hq, if_neg hh, gB (by omega) hl, if_pos ha]
     ·rw [if_neg ha] at h
      by_cases hb : nx u 0 = 58 ∧ bF (nx u 1) = true
      ·rw [if_pos hb] at h
       cases h
       have hv := hv (by show (8 : Int) ≠ 3; decide)
       have hl : (aI (u.drop 1)).2.2 + 1 ≤ u.length := hl
       have n0 : nx (u.take ((aI (u.drop 1)).2.2 + 1) ++ v) 0 = nx u 0 := n0
       have hp : 1 ≤ (aI (u.drop 1)).2.2 := nP (by rw [nxd]; exact hb.2)
       show aY f (u.take ((aI (u.drop 1)).2.2 + 1) ++ v) = _
       unfold aY
       rw [n0, if_neg h1, if_neg hd, if_neg hq, if_neg hh, gB (by omega) hl, if_neg ha, if_pos hb, gU (by omega) hl, Nat.add_sub_cancel, oF hv.name (Nat.le_refl _) (by rw [List.length_drop]; omega)]
      ·rw [if_neg hb] at h
       have z58 : (cU signs (nx u 0) = true ∨ cU dE (nx u 0) = true) → nx u 0 ≠ 58 := by
        intro hh e
        rw [e] at hh
        rcases hh with hh | hh <;> exact absurd hh (by decide)
       by_cases hs : cU signs (nx u 0) = true
       ·rw [if_pos hs] at h
        cases h
        have h3 := h3 rfl
        have hl : bH (cU signs) 2 u ≤ u.length := hl
        have n0 : nx (u.take (bH (cU signs) 2 u) ++ v) 0 = nx u 0 := n0
        have z := z58 (.inl hs)
        show aY f (u.take (bH (cU signs) 2 u) ++ v) = _
        unfold aY
        rw [n0, if_neg h1, if_neg hd, if_neg hq, if_neg hh, if_neg (fun x => z x.1), if_neg (fun x => z x.1), if_pos hs, vV _ 2 u _ v (bQq h3) (Nat.le_refl _) hl,
         List.take_append_of_le_length (by simp; omega), List.take_take, Nat.min_self]
       ·rw [if_neg hs] at h
        by_cases hm : cU dE (nx u 0) = true
        ·rw [if_pos hm] at h
         cases h
         have hl : bH (cU dE) 1 u ≤ u.length := hl
         have n0 : nx (u.take (bH (cU dE) 1 u) ++ v) 0 = nx u 0 := n0
         have z := z58 (.inr hm)
         have r1 : bH (cU dE) 1 u = 1 := by
          cases u with
          | nil => simp [bH] at hp
          | cons c u =>
           have : cU dE c = true := hm
           simp [bH, this]
         show aY f (u.take (bH (cU dE) 1 u) ++ v) = _
         have r2 : bH (cU dE) 1 (u.take (bH (cU dE) 1 u) ++ v) = 1 := by
          rw [r1]
          cases u with
          | nil => simp [bH] at r1
          | cons c u =>
           have : cU dE c = true := hm
           simp [bH, this]
         unfold aY
         rw [n0, if_neg h1, if_neg hd, if_neg hq, if_neg hh, if_neg (fun x => z x.1), if_neg (fun x => z x.1), if_neg hs, if_pos hm, r2, r1]
         rw [List.take_append_of_le_length (by simp; omega), List.take_take, Nat.min_self]
        ·rw [if_neg hm] at h
         cases h
         cases he
theorem aCj {f : Nat} {u : List Nat} {rs : Int × List Nat × Int × Int × Nat} (h : aY f u = some rs) (he : rs.2.2.2.1 = 0) : cU bS (nx u 0) = false ∧ nx u 0 ≠ 34 ∧ (rs.1 = 4 → aS (nx u 0) = true) := by
 have no : (cU bS (nx u 0) = true ∨ nx u 0 = 34) → False := by
  intro hh
  have hc : nx u 0 = 9 ∨ nx u 0 = 10 ∨ nx u 0 = 13 ∨ nx u 0 = 32 ∨ nx u 0 = 34 := by
   rcases hh with hh | hh
   ·simp [cU, bS] at hh; omega
   ·omega
  unfold aY at h
  generalize hx : nx u 0 = x at *
  rcases hc with rfl | rfl | rfl | rfl | rfl <;>
  ·simp (config := { decide := true }) only [if_false, false_and] at h
   simp [cU, signs, dE, bF, aS] at h
   rw [← h] at he
   cases he
 refine ⟨?_, fun e => no (.inr e), fun e => ?_⟩
 ·cases e : cU bS (nx u 0) with
  | false => rfl
  | true => exact (no (.inl e)).elim
 ·apply Decidable.byContradiction
  intro hd
  unfold aY at h
  rw [if_neg hd] at h
  repeat' split at h
  all_goals first
   | (cases h; simp at e)
   | (obtain ⟨r, e1, e2⟩ := bD h; cases e2; simp at e)
end Go.Dd

namespace Go.Dd
inductive Gap : List Nat → Prop
 | nil : Gap []
 | blank (c : Nat) (w : List Nat) : cU bS c = true → Gap w → Gap (c :: w)
 | rem (r w : List Nat) : (∀ c ∈ r, c ≠ 34) → Gap w → Gap (34 :: (r ++ 34 :: w))
theorem Gap.app {a b : List Nat} (h : Gap a) (k : Gap b) : Gap (a ++ b) := by
 induction h with
 | nil => exact k
 | blank c w hc _ ih => exact .blank c _ hc ih
 | rem r w hr _ ih => simpa using Gap.rem r (w ++ b) hr ih
inductive Lx (g : Nat) : List Nat → Nat → List Tok → Prop
 | fin (w : List Nat) (p : Nat) : Gap w → Lx g w p [⟨0, [], 0, ((p + w.length : Nat) : Int)⟩]
 | tok (w u : List Nat) (p k : Nat) (rs : Int × List Nat × Int × Int × Nat) (l : List Tok) : Gap w → aY g u = some rs → rs.2.2.2.1 = 0 → rs.2.2.2.2 = k → 1 ≤ k → k ≤ u.length → rs.1 ≠ 0 →
  Lx g (u.drop k) (p + w.length + k) l → Lx g (w ++ u) p (⟨rs.1, rs.2.1, rs.2.2.1, ((p + w.length : Nat) : Int)⟩ :: l)
theorem bSa {g : Nat} {u : List Nat} {p : Nat} {l : List Tok} {w : List Nat} (h : Lx g u (p + w.length) l) (k : Gap w) : Lx g (w ++ u) p l := by
 generalize hp : p + w.length = q at h
 cases h with
 | fin _ _ g' =>
  have := Lx.fin (g := g) (w ++ u) p (k.app g')
  rw [List.length_append, ← Nat.add_assoc, hp] at this
  exact this
 | tok w' u _ k' rs l g' h1 h2 h3 h4 h5 h6 h7 =>
  have := Lx.tok (g := g) (w ++ w') u p k' rs l (k.app g') h1 h2 h3 h4 h5 h6 (by rw [List.length_append, ← Nat.add_assoc, hp]; exact h7)
  rw [List.length_append, ← Nat.add_assoc, hp, List.append_assoc] at this
  exact this
theorem Lx.first {g : Nat} {v : List Nat} {m : Nat} {ll : List Tok} (h : Lx g v m ll) : ∃ a b, ll = a :: b ∧ ∃ w, Gap w ∧ a.pos = ((m + w.length : Nat) : Int) ∧ v.take w.length = w ∧ w.length ≤ v.length := by
 cases h with
 | fin _ _ hw => exact ⟨_, _, rfl, v, hw, rfl, by simp, Nat.le_refl _⟩
 | tok w u _ _ _ _ hw => exact ⟨_, _, rfl, w, hw, rfl, by simp, by simp⟩
theorem zQ (r v : List Nat) (c : Nat) : (r ++ c :: v).drop (r.length + 1) = v := by
 rw [show r.length + 1 = (r ++ [c]).length by simp, show r ++ c :: v = (r ++ [c]) ++ v by simp, List.drop_left]
theorem rO : ∀ (u : List Nat), Gap (u.takeWhile (cU bS))
 | [] => .nil
 | c :: u => by
  cases e : cU bS c with
  | false => simp [e]; exact .nil
  | true => simp [e]; exact .blank c _ e (rO u)
theorem uV : ∀ (u : List Nat) (i k : Nat), cO 34 u i = ((i + k : Nat) : Int) → ∃ r w, u = r ++ 34 :: w ∧ r.length = k ∧ ∀ c ∈ r, c ≠ 34
 | [], i, k, h => by
  have : cO 34 [] i = -1 := rfl
  omega
 | c :: u, i, k, h => by
  have e : cO 34 (c :: u) i = bif Nat.beq c 34 then Int.ofNat i else cO 34 u (i + 1) := rfl
  cases hc : Nat.beq c 34 with
  | true =>
   rw [e, hc] at h
   have : c = 34 := Nat.eq_of_beq_eq_true hc
   subst this
   have h : (i : Int) = ((i + k : Nat) : Int) := h
   exact ⟨[], u, rfl, by simp; omega, by simp⟩
  | false =>
   rw [e, hc] at h
   have h : cO 34 u (i + 1) = ((i + k : Nat) : Int) := h
   have hne : c ≠ 34 := fun e2 => by rw [e2] at hc; cases hc
   have hk : 1 ≤ k := by
    apply Decidable.byContradiction
    intro hn
    have hge := kM 34 u (i + 1) (by omega)
    obtain ⟨k', h1, h2⟩ := hge
    omega
   obtain ⟨r, w, a, b, d⟩ := uV u (i + 1) (k - 1) (by rw [h]; congr 1; omega)
   refine ⟨c :: r, w, by rw [a]; rfl, by simp [b]; omega, fun x hx => ?_⟩
   rcases List.mem_cons.1 hx with rfl | hx
   ·exact hne
   ·exact d x hx
theorem aZk (so : Nat → Bool) (u : List Nat) : u = u.takeWhile so ++ u.drop (u.takeWhile so).length := by
 induction u with
 | nil => rfl
 | cons c u ih =>
  cases e : so c with
  | false => simp [e]
  | true =>
   simp [e]
   exact ih
theorem yY {g : Nat} {s : List Nat} (hg : s.length < g) : ∀ (f i : Nat) (out : List Tok) (res : List Tok × Int × Int), i ≤ s.length → hU g s f i out = some res → res.2.2 = 0 → ∃ l, res = (out ++ l, 0, 0) ∧ Lx g (s.drop i) i l
 | 0, i, out, res, hi, h => by cases h
 | f + 1, i, out, res, hi, h => by
  intro he
  have hle := mZ (cU bS) (s.drop i)
  have hdl : (s.drop i).length = s.length - i := by simp
  have hsp := aZk (cU bS) (s.drop i)
  have hgap := rO (s.drop i)
  unfold hU at h
  generalize hw : (s.drop i).takeWhile (cU bS) = w at *
  rw [List.drop_drop] at hsp
  by_cases h1 : s.length ≤ i + w.length
  ·rw [if_pos h1] at h
   cases h
   refine ⟨_, rfl, ?_⟩
   rw [List.drop_eq_nil_of_le h1, List.append_nil] at hsp
   rw [hsp, show s.length = i + w.length by omega]
   exact .fin w i hgap
  ·rw [if_neg h1] at h
   by_cases h2 : nx s (i + w.length) = 34
   ·rw [if_pos h2] at h
    by_cases h3 : cO 34 (s.drop (i + w.length + 1)) 0 < 0
    ·rw [if_pos h3] at h
     cases h
     cases he
    ·rw [if_neg h3] at h
     obtain ⟨k, k1, k2⟩ := kM 34 _ _ h3
     obtain ⟨r, w', a1, a2, a3⟩ := uV _ 0 k k2
     rw [k2] at h
     simp only [Nat.zero_add, Int.toNat_natCast] at h
     simp at k1
     obtain ⟨l, b1, b2⟩ := yY hg f _ out res (by omega) h he
     refine ⟨l, b1, ?_⟩
     rw [hsp]
     have hd : s.drop (i + w.length) = 34 :: (r ++ 34 :: w') := by
      rw [← a1]
      have hlt : i + w.length < s.length := by omega
      rw [List.drop_eq_getElem_cons hlt]
      congr 1
      rw [nx, List.getD, List.getElem?_eq_getElem hlt] at h2
      exact h2
     have hd2 : s.drop (i + w.length + k + 2) = w' := by
      rw [show i + w.length + k + 2 = (i + w.length) + (k + 2) by omega, ← List.drop_drop, hd]
      rw [show k + 2 = (k + 1) + 1 by omega, List.drop_succ_cons, ← a2, zQ]
     rw [hd2] at b2
     rw [hd]
     have := bSa (w := w ++ 34 :: (r ++ [34])) (p := i) (u := w') (by
      have e : i + (w ++ 34 :: (r ++ [34])).length = i + w.length + k + 2 := by simp; omega
      rw [e]; exact b2) (hgap.app (by simpa using Gap.rem r [] a3 .nil))
     simpa using this
   ·rw [if_neg h2] at h
    obtain ⟨rs, c1, c2⟩ := bD h
    have hu : s.drop (i + w.length) ≠ [] := by
     intro h
     have := congrArg List.length h
     simp at this
     omega
    obtain ⟨rs', d1, d2⟩ := aKg (f := g) hu (by simp; omega)
    rw [c1] at d1
    cases d1
    by_cases h4 : rs.2.2.2.1 = 0
    ·rw [if_pos h4] at c2
     obtain ⟨e1, e2, e3, e4⟩ := d2 h4
     rw [if_neg (by omega)] at c2
     simp at e2
     obtain ⟨l, b1, b2⟩ := yY hg f _ _ res (by omega) c2 he
     refine ⟨⟨rs.1, rs.2.1, rs.2.2.1, ((i + w.length : Nat) : Int)⟩ :: l, by rw [b1]; simp, ?_⟩
     rw [hsp]
     refine .tok w _ i _ rs l hgap c1 h4 rfl e1 (by simp; omega) e3 ?_
     rw [List.drop_drop]
     exact b2
    ·rw [if_neg h4] at c2
     cases c2
     exact absurd he h4
theorem aBt {g : Nat} {s : List Nat} {out : List Tok} {X : List Tok × Int × Int} {u w : List Nat} (hw : Gap w) : ∀ (i f : Nat), s.drop i = w ++ u → i ≤ s.length → (∀ f, u.length < f → hU g s f (i + w.length) out = some X) → (w ++ u).length < f → hU g s f i out = some X := by
 induction hw with
 | nil => intro i f hd hi H hf; exact H f (by simpa using hf)
 | blank c w hc _ ih =>
  intro i f hd hi H hf
  obtain ⟨f, rfl⟩ : ∃ q, f = q + 1 := ⟨f - 1, by simp at hf; omega⟩
  have hd' : s.drop (i + 1) = w ++ u := by
   have := congrArg (List.drop 1) hd
   simpa [List.drop_drop] using this
  have hi' : i + 1 ≤ s.length := by
   have := congrArg List.length hd
   simp at this
   omega
  have := ih (i + 1) (f + 1) hd' hi' (fun f hf => by
   have := H f hf
   rw [List.length_cons] at this
   rw [show i + 1 + w.length = i + (w.length + 1) by omega]
   exact this) (by simp at hf ⊢; omega)
  rw [← this]
  have e : ((s.drop i).takeWhile (cU bS)).length = ((s.drop (i + 1)).takeWhile (cU bS)).length + 1 := by
   rw [hd, hd']; simp [hc]
  unfold hU
  rw [e, show i + (((s.drop (i + 1)).takeWhile (cU bS)).length + 1) = i + 1 + ((s.drop (i + 1)).takeWhile (cU bS)).length by omega]
 | rem r w hr _ ih =>
  intro i f hd hi H hf
  obtain ⟨f, rfl⟩ : ∃ q, f = q + 1 := ⟨f - 1, by simp at hf; omega⟩
  have hd' : s.drop (i + 1) = r ++ 34 :: (w ++ u) := by
   have := congrArg (List.drop 1) hd
   simpa [List.drop_drop] using this
  have hd2 : s.drop (i + r.length + 2) = w ++ u := by
   have := congrArg (List.drop (r.length + 1)) hd'
   rw [List.drop_drop, zQ] at this
   rw [show i + r.length + 2 = i + 1 + (r.length + 1) by omega]
   exact this
  have hl := congrArg List.length hd
  simp at hl hf
  have hidx : ∀ (r : List Nat) (v : List Nat) (j : Nat), (∀ c ∈ r, c ≠ 34) → cO 34 (r ++ 34 :: v) j = ((j + r.length : Nat) : Int) := by
   intro r
   induction r with
   | nil => intro v j _; rfl
   | cons c r ih =>
    intro v j hc
    have hne : Nat.beq c 34 = false := by
     cases e : Nat.beq c 34 with
     | false => rfl
     | true => exact absurd (Nat.eq_of_beq_eq_true e) (hc c (by simp))
    show (bif Nat.beq c 34 then Int.ofNat j else cO 34 (r ++ 34 :: v) (j + 1)) = _
    rw [hne]
    show cO 34 (r ++ 34 :: v) (j + 1) = _
    rw [ih v (j + 1) (fun x hx => hc x (by simp [hx]))]
    congr 1
    simp; omega
  unfold hU
  have e : (s.drop i).takeWhile (cU bS) = [] := by
   rw [hd]
   have : cU bS 34 = false := by decide
   simp [this]
  rw [e]
  simp only [List.length_nil, Nat.add_zero]
  rw [if_neg (by omega)]
  have h34 : nx s i = 34 := by
   have : s[i]? = some 34 := by
    have := congrArg (fun l => l[0]?) hd
    simpa using this
   rw [nx, List.getD, this]; rfl
  have hx := hidx r (w ++ u) 0 hr
  rw [Nat.zero_add] at hx
  rw [if_pos h34, hd', if_neg (by rw [hx]; omega), hx, Int.toNat_natCast]
  refine ih (i + r.length + 2) f hd2 (by omega) (fun f hf => ?_) (by simp; omega)
  have := H f hf
  rw [show i + r.length + 2 + w.length = i + (34 :: (r ++ 34 :: w)).length by simp; omega]
  exact this
theorem aXz {g : Nat} {s : List Nat} : ∀ (l : List Tok) (u : List Nat) (i f : Nat) (out : List Tok), Lx g u i l → s.drop i = u → i ≤ s.length → u.length < f → hU g s f i out = some (out ++ l, 0, 0) := by
 intro l
 induction l with
 | nil => intro u i f out h; cases h
 | cons t l ih =>
  intro u i f out h hd hi hf
  cases h with
  | fin _ _ hw =>
   refine aBt (u := []) hw i f (by simpa using hd) hi (fun f hf => ?_) (by simpa using hf)
   obtain ⟨f, rfl⟩ : ∃ q, f = q + 1 := ⟨f - 1, by omega⟩
   have hl := congrArg List.length hd
   simp at hl
   unfold hU
   rw [if_pos (by omega), show s.length = i + u.length by omega]
  | tok w u _ k rs l hw h1 h2 h3 h4 h5 h6 h7 =>
   refine aBt (u := u) hw i f hd hi (fun f hf => ?_) hf
   obtain ⟨f, rfl⟩ : ∃ q, f = q + 1 := ⟨f - 1, by omega⟩
   have hl := congrArg List.length hd
   simp at hl
   have hd' : s.drop (i + w.length) = u := by
    rw [← List.drop_drop, hd]; simp
   obtain ⟨q1, q2, _⟩ := aCj h1 h2
   have hne : u ≠ [] := by
    intro e; rw [e] at h5; simp at h5; omega
   obtain ⟨c, u', rfl⟩ : ∃ c u', u = c :: u' := by cases u with
    | nil => exact absurd rfl hne
    | cons c u' => exact ⟨c, u', rfl⟩
   have q1 : cU bS c = false := q1
   have q2 : c ≠ 34 := q2
   unfold hU
   rw [hd', show (c :: u').takeWhile (cU bS) = [] by simp [q1]]
   simp only [List.length_nil, Nat.add_zero]
   have hx : nx s (i + w.length) = c := by
    have : s[i + w.length]? = some c := by
     have := congrArg (fun l => l[0]?) hd'
     simpa using this
    rw [nx, List.getD, this]; rfl
   simp at hl h5
   rw [if_neg (by omega), hx, if_neg q2, hd', h1]
   simp only [Option.bind_some]
   rw [if_pos h2, if_neg (by rw [h3]; simp; omega), h3]
   subst h3
   rw [ih (((c :: u').drop rs.2.2.2.2)) (i + w.length + rs.2.2.2.2) f (out ++ [(⟨rs.1, rs.2.1, rs.2.2.1, ((i + w.length : Nat) : Int)⟩ : Tok)]) h7 (by rw [← List.drop_drop, hd']) (by omega) (by simp at hf ⊢; omega)]
   simp
theorem uW {n : Nat} (h : n ≤ 1000000) : jB ((n : Int) + 1) = ((n + 1 : Nat) : Int) := by
 unfold jB
 rw [gE _ (by omega) (by omega)]
 omega
end Go.Dd

namespace Go.Dd
open Go.Proofs
section
variable {I : Im} {A L : Ls} {h : Hp} {p : Pos} {s : DV} {i : Nat} {st : PSt}
end
end Go.Dd

namespace Go.Dd
open Go.Proofs
end Go.Dd

namespace Go.Dd
open Go.Proofs
end Go.Dd

namespace Go.Dd
open Go.Proofs
section
variable {I : Im} {A L : Ls} {h : Hp} {p : Pos} {s : DV} {i : Nat} {st : PSt}
end
end Go.Dd

namespace Go.Dd
def TOk (t : Tok) : Prop := (t.kind = 4 → t.text = []) ∧ (t.kind = 5 ∨ t.kind = 6 → t.num = 0)
def GT (l : List Tok) : Prop := 1 ≤ l.length ∧ ∀ t ∈ l, TOk t
section
variable {α α' β β' : Type} {V : α → α' → Prop} {W : β → β' → Prop} {e : Int}
end
variable {a b : PSt}
end Go.Dd

namespace Go.Dd
variable {a b : PSt}
end Go.Dd

namespace Go.Dd
open Go.Proofs
end Go.Dd

