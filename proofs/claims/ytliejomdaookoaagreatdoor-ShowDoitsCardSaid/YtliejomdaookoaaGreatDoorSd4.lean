/- A part of the proof: P2 P3 P4 P5 P6 P7 P8 P9 P10 P11 P12 P13 P14 P15 P16 Z2 B1 B2 B3 Y1 Y2 Y3 Y4 B4 B5 Z5 B6 P17 P18 P19 RW: each text has a comment of its own. -/
import Derived.Test.YtliejomdaookoaaGreatDoorSd3
import Derived.Test.YtliejomdaookoaaGreatDoorRows
import Derived.Test.YtliejomdaookoaaGreatDoorCards
import Derived.Test.YtliejomdaookoaaGreatDoorTie
import Derived.WalkKit
import Derived.ProofKit
import Derived.OpenShut
import Derived.Carry
import Derived.Lib.LaidU8
import Derived.Lay
import Derived.LaidOnce
import Derived.SevenTiedAt
import Derived.ChangeMaps5
set_option linter.unusedVariables false
set_option linter.unusedSimpArgs false
set_option linter.constructorNameAsVariable false
set_option maxRecDepth 100000
namespace Go.Dd
open Go.Proofs
theorem aCa : ∀ l : List (List Nat), oF (l.map .s) = some l
 | [] => rfl
 | x :: l => by simp [oF, aCa l]
theorem bBc {x : DV} {h : Hp} {n : Nat} {l : List (List Nat)} {sep : List Nat} (hx : ∀ t, x ≠ .s t) (e : nY 1 x h = some (n, l.map .s)) (h1 : (aN sep l).length ≤ 100000000000) (h2 : n ≤ 100000000000) (hc : bHb x = true) :
 nJ [x, .s sep] h = some (.s (aN sep l), h) := by
 have e1 : Nat.ble (aN sep l).length 100000000000 = true := Nat.ble_eq_true_of_le h1
 have e2 : Nat.ble n 100000000000 = true := Nat.ble_eq_true_of_le h2
 have key : nJ [x, .s sep] h = (match nY 1 x h with
  | some (n, cells) => match oF cells with
   | some l => bif Nat.ble (aN sep l).length 100000000000 then (bif Nat.ble n 100000000000 && bHb x then some (.s (aN sep l), h) else none) else none
   | none => none
  | none => none) := by
  cases x <;> first | rfl | exact absurd rfl (hx _)
 rw [key, e]
 simp only [aCa, e1, e2, hc, cond_true, Bool.and_self]
theorem Fz.cap {I : Im} {sz : Nat} {s : DV} {len : Nat} {cells : List DV} (H : Fz I sz s len cells) : bHb s = true ∧ ∀ t, s ≠ .s t := by
 rcases H with ⟨rfl | rfl, _⟩ | ⟨b, o, cap, k, row, rest, rfl, h2, _⟩
 ·exact ⟨rfl, fun t e => by cases e⟩
 ·exact ⟨rfl, fun t e => by cases e⟩
 ·exact ⟨Nat.ble_eq_true_of_le h2, fun t e => by cases e⟩
theorem SS.join {I : Im} {s : DV} {l : List (List Nat)} (H : SS I s l) {A Q L : Ls} {h : Hp} (S : Sy I A Q L h) {sep : List Nat} (h1 : (aN sep l).length ≤ 100000000000) : nJ [s, .s sep] h = some (.s (aN sep l), h) := by
 obtain ⟨hl, F⟩ := H
 exact bBc F.cap.2 (F.src S) h1 (by simp [bL] at hl; omega) F.cap.1
theorem fP {I : Im} {A Q L : Ls} {h : Hp} {b : Pos} {n : Nat} (l : List (List Nat)) (S : Sy I A Q L h) (m : (b, some (.row .ex (l.map .s))) ∈ L) (hn : n = l.length) (h1 : (aN [] l).length ≤ 100000000000) (h2 : l.length ≤ 1000) :
 Ev (fun k => aJ k 19 [.l b 0 n n] h) (fun v h' => v = .s (aN [] l) ∧ h' = h) := by
 refine Ev.enter (fun n => cLa n _ h) ?_
 unfold s19
 have e : nY 1 (.l b 0 n n) h = some (n, l.map .s) := nB S m (by simp [hn]) (fun v hv => by
  obtain ⟨t, _, rfl⟩ := List.mem_map.1 hv
  rfl)
 have e2 : nJ [.l b 0 n n, .s []] h = some (.s (aN [] l), h) := bBc (fun t e => by cases e) e h1 (by omega) (Nat.ble_eq_true_of_le (Nat.le_refl _))
 refine Ev.op e2 ?_
 exact Ev.ret ⟨rfl, rfl⟩
theorem qF (c : Nat) : ∀ (s acc : List Nat), 1 ≤ (bQ c acc s).length ∧ (bQ c acc s).length ≤ s.length + 1
 | [], acc => by simp [bQ]
 | x :: s, acc => by
  unfold bQ
  cases Nat.beq x c with
  | true => have := qF c s []; simp; omega
  | false => have := qF c s (acc ++ [x]); simp; omega
theorem bRt {I : Im} {A Q L : Ls} {h : Hp} (S : Sy I A Q L h) {s : List Nat} (hs : s.length ≤ 1000000000) :
 Ev (fun n => aJ n 33 [.s s] h) (fun v h' => ∃ J, ILe I J ∧ Sy J A Q L h' ∧ SS J v (dF s)) := by
 refine Ev.enter (fun n => cIq n _ h) ?_
 unfold s33
 obtain ⟨p1, p2⟩ := qF 58 s []
 generalize hps : bQ 58 [] s = ps at p1 p2
 have e58 : Ev (fun n => aJ n 58 [.s s, .s [58]] h) (fun v h' => v = .l h.next 0 ps.length ps.length ∧ h' = nw (.row .ex (ps.map .s)) h) := by
  refine Ev.enter (fun n => cMb n _ _ h) ?_
  unfold s58
  refine Ev.op (show cS (.s [58]) h = some (.i .i64 1, h) from rfl) ?_
  have e1 : Nat.ble s.length 4000000000 = true := Nat.ble_eq_true_of_le (by omega)
  have e : uJ [.s s, .s [58], .i .i64 1, .i .i64 (Int.negSucc 0)] h = some (.l h.next 0 ps.length ps.length, nw (.row .ex (ps.map .s)) h) := by
   show (bif Nat.blt 58 256 then (bif Nat.ble s.length 4000000000 then (fun l => some (DV.l h.next 0 l.length l.length, (⟨h.next.succ, Tr.set (.row .ex (l.map DV.s)) h.next h.bl⟩ : Hp))) (bQ 58 [] s) else none) else none) = _
   rw [e1, hps]
   rfl
  refine Ev.op e ?_
  exact Ev.ret ⟨rfl, rfl⟩
 refine Ev.call e58 ?_
 rintro _ _ ⟨rfl, rfl⟩
 refine Ev.op (show dB (.l h.next 0 ps.length ps.length) (nw (.row .ex (ps.map .s)) h) = some (.i .i64 (ps.length : Int), nw (.row .ex (ps.map .s)) h) from rfl) ?_
 refine Ev.isub ?_
 have S1 := S.new (.row .ex (ps.map DV.s))
 obtain ⟨S2, g⟩ := S1.freeze
 have hw : IntKind.i64.wrap ((ps.length : Int) - Int.ofNat 1) = ((ps.length - 1 : Nat) : Int) := by
  rw [show (ps.length : Int) - Int.ofNat 1 = ((ps.length - 1 : Nat) : Int) by simp; omega]
  have := dLi (a := ps.length - 1) (b := 0) (by simp only [bL]; omega)
  simpa using this
 rw [hw]
 have e : cK 1 (.l h.next 0 ps.length ps.length) none (some (.i .i64 ((ps.length - 1 : Nat) : Int))) (nw (.row .ex (ps.map DV.s)) h) = some (.l h.next 0 (ps.length - 1) ps.length, nw (.row .ex (ps.map DV.s)) h) := by
  have hg : (nw (.row .ex (ps.map DV.s)) h).bl.get h.next = some (.row .ex (ps.map DV.s)) := aHt h _
  have e1 : hiD (some (.i .i64 ((ps.length - 1 : Nat) : Int))) ps.length ps.length = some (ps.length - 1) := by
   show (if 0 ≤ ((ps.length - 1 : Nat) : Int) ∧ ((ps.length - 1 : Nat) : Int) ≤ (ps.length : Int) then some ((ps.length - 1 : Nat) : Int).toNat else none) = _
   rw [if_pos ⟨by omega, by omega⟩]
   rfl
  have e2 : loD none (ps.length - 1) = some 0 := rfl
  unfold cK
  simp only [e1, e2, hg]
  simp
 refine Ev.op e ?_
 have hpl : (dF s).length = ps.length - 1 := by simp [dF, hps]
 refine Ev.ret ⟨_, g, S2, ?_, .inr ⟨h.next, 0, ps.length, .ex, ps.map .s, [.s (ps.getLast (by intro e0; rw [e0] at p1; simp at p1))], ?_, by omega, Im.put_same _ _ _, ?_, ?_, ?_⟩⟩
 ·rw [hpl]; simp only [bL]; omega
 ·rw [hpl]
 ·have := List.dropLast_concat_getLast (l := ps) (by intro e0; rw [e0] at p1; simp at p1)
  simp only [dF, hps, List.drop_zero]
  conv => lhs; rw [← this]
  simp
 ·simp [dF, hps]
 ·intro v hv
  obtain ⟨t, _, rfl⟩ := List.mem_map.1 hv
  rfl
end Go.Dd

namespace Go.Dd
open Go.Proofs
theorem Sy.weak {I J : Im} {A Q L : Ls} {h : Hp} (S : Sy J A Q L h) (g : ILe I J) : Sy I A Q L h where
 wf := S.wf
 im := fun b o m => S.im b o (g b o m)
 loc := S.loc
 lt := S.lt
 nd := S.nd
 dj := fun b o m => by
  have := S.dj b o m
  cases e : I b with
  | none => rfl
  | some q => rw [g b q e] at this; cases this
def nN (x : Node) : Prop := ∀ (I : Im) (A Q L : Ls) (h : Hp) (cs : List DV), Sy I A Q L h → NV I x cs → (nf x).tx.length ≤ 100000000000 →
 Ev (fun n => aJ n 36 [.a cs] h) (fun v h' => v = .s (nf x).tx ∧ Sy I A Q L h')
theorem cEb (n : Nat) (x y z : DV) (h : Hp) : aJ (n + 1) 89 [x, y, z] h = s89 (aJ n) n x y z h := by kernel_rfl
theorem cDf (n : Nat) (x y : DV) (h : Hp) : aJ (n + 1) 90 [x, y] h = s90 (aJ n) n x y h := by kernel_rfl
theorem cDq (n : Nat) (x y : DV) (h : Hp) : aJ (n + 1) 61 [x, y] h = s61 (aJ n) n x y h := by kernel_rfl
def bU (ks : List Node) : List (Nat × List Nat) := ks.map fun x => (nf x).ht
theorem oD {I : Im} {A Q L : Ls} {h : Hp} (S : Sy I A Q L h) {s : DV} {ks : List Node} (N : NS I s ks) (T : ∀ x ∈ ks, nN x) (i hh : Nat) (hl : (bA (bU ks) i hh).length ≤ 100000000000) :
 Ev (fun n => aJ n 89 [s, .i .i64 (i : Int), .i .i64 (hh : Int)] h) (fun v h' => v = .s (bA (bU ks) i hh) ∧ Sy I A Q L h') := by
 refine Ev.enter (fun n => cEb n _ _ _ h) ?_
 unfold s89
 refine Ev.op (N.len _) ?_
 refine Ev.ige (fun e1 => ?_) (fun e1 => ?_)
 ·refine yt ?_
  refine Ev.ret ⟨?_, S⟩
  have : ks.length ≤ i := by omega
  simp [bA, bU, List.getElem?_eq_none this]
 ·refine yj ?_
  have hi : i < ks.length := by omega
  have hx : ks[i]? = some ks[i] := by simp [hi]
  generalize ks[i] = x at hx
  have Tx := T x (List.mem_of_getElem? hx)
  obtain ⟨b, o, c, ei, Nx, el⟩ := N.at hx
  have ew : bA (bU ks) i hh = if (nf x).ht.1 > hh then 40 :: ((nf x).tx ++ [41]) else (nf x).tx := by
   simp [bA, bU, hx, Nf.ht]
  rw [ew] at hl ⊢
  refine Ev.op (ei _) ?_
  refine Ev.op (el _ _ _ _ _ (ILe.refl _) S) ?_
  refine Ev.call (aMr S Nx) ?_
  rintro _ h5 ⟨rfl, S5⟩
  refine Ev.igt (fun e2 => ?_) (fun e2 => ?_)
  ·have e2' : (nf x).ht.1 > hh := by omega
   rw [if_pos e2'] at hl ⊢
   refine yt ?_
   refine Ev.op (ei _) ?_
   refine Ev.op (el _ _ _ _ _ (ILe.refl _) S5) ?_
   refine Ev.call (Tx _ _ _ _ _ _ S5 Nx (by simp at hl; omega)) ?_
   rintro _ h9 ⟨rfl, S9⟩
   refine Ev.bs S9 (cs := [.s [40], .s (nf x).tx, .s [41]]) (by simp [cO, cJ]) ?_
   intro b1 h10 S10
   refine Ev.call (fP [[40], (nf x).tx, [41]] S10 (List.Mem.head _) rfl (by simp [aN] at hl ⊢; omega) (by simp)) ?_
   rintro _ _ ⟨rfl, rfl⟩
   refine Ev.ret ⟨?_, S10.dropL⟩
   simp [aN]
  ·have e2' : ¬ (nf x).ht.1 > hh := by omega
   rw [if_neg e2'] at hl ⊢
   refine yj ?_
   refine Ev.op (ei _) ?_
   refine Ev.op (el _ _ _ _ _ (ILe.refl _) S5) ?_
   refine Ev.call (Tx _ _ _ _ _ _ S5 Nx hl) ?_
   rintro _ h9 ⟨rfl, S9⟩
   exact Ev.ret ⟨rfl, S9⟩
theorem yO (sep : List Nat) : ∀ (l : List (List Nat)) (x : List Nat), x ∈ l → x.length ≤ (aN sep l).length
 | [], x, h => by simp at h
 | [y], x, h => by simp at h; subst h; simp [aN]
 | y :: z :: l, x, h => by
  rcases List.mem_cons.1 h with rfl | h
  ·simp [aN]
  ·have := yO sep (z :: l) x h
   simp only [aN, List.length_append]
   omega
theorem aAd : ∀ (ps : List (List Nat)) (a : List (Nat × List Nat)) (i : Nat), (cU ps a i).length = ps.length
 | [], a, i => rfl
 | p :: ps, a, i => by simp [cU, aAd ps a (i + 1)]
section
variable {I : Im} {A Q L : Ls} {s y : DV} {ks : List Node} {ps : List (List Nat)}
theorem aMh (N : NS I s ks) (T : ∀ x ∈ ks, nN x) (Y : SS I y ps) : ∀ (r : List (List Nat)) (i j : Nat) (B : Ls) (h : Hp) (x : DV) (acc : List (List Nat)), ps.drop i = r → i ≤ ps.length → Sy I (B ++ A) Q L h → Gr I 1 B x acc.length (acc.map .s) →
 (aN [32] (acc ++ cU r (bU ks) i)).length ≤ 100000000000 → acc.length + r.length ≤ bL →
 Ev (fun n => nA (aJ n) n (n - j) s x y (.i .i64 (ps.length : Int)) (.i .i64 (i : Int)) h) (fun v h' => v = .s (aN [32] (acc ++ cU r (bU ks) i)) ∧ Sy I A Q L h')
 | [], i, j, B, h, x, acc, hr, hi, S, G, hl, hc => by
  refine Ev.loop j (ll := fun n m => nA (aJ n) n m s x y (.i .i64 (ps.length : Int)) (.i .i64 (i : Int)) h) (bb := fun n m => tY (aJ n) n (nA (aJ n) n m) s x y (.i .i64 (ps.length : Int)) (.i .i64 (i : Int)) h) (fun _ _ => rfl) ?_
  unfold tY
  have hle : ps.length ≤ i := List.drop_eq_nil_iff.1 hr
  refine Ev.ilt (fun e1 => absurd e1 (by omega)) (fun e1 => ?_)
  refine Ev.iff ?_
  unfold gS
  simp only [cU, List.append_nil] at hl ⊢
  obtain ⟨J, gJ, S3, F3⟩ := G.freeze S
  refine Ev.op (SS.join (I := J) ⟨by simpa using hc, F3⟩ S3 hl) ?_
  exact Ev.ret ⟨rfl, S3.weak gJ⟩
 | p :: r, i, j, B, h, x, acc, hr, hi, S, G, hl, hc => by
  refine Ev.loop j (ll := fun n m => nA (aJ n) n m s x y (.i .i64 (ps.length : Int)) (.i .i64 (i : Int)) h) (bb := fun n m => tY (aJ n) n (nA (aJ n) n m) s x y (.i .i64 (ps.length : Int)) (.i .i64 (i : Int)) h) (fun _ _ => rfl) ?_
  unfold tY
  have hlim : ps.length ≤ bL := Y.1
  have hi' : i < ps.length := by
   rcases Nat.lt_or_ge i ps.length with h | h
   ·exact h
   ·rw [List.drop_eq_nil_of_le h] at hr; cases hr
  have hx : ps[i]? = some p := by
   have : (ps.drop i)[0]? = some p := by rw [hr]; rfl
   simpa using this
  have hr2 : ps.drop (i + 1) = r := by
   have := jY hx
   rw [hr] at this
   simpa using this.symm
  refine Ev.ilt (fun e1 => ?_) (fun e1 => absurd (show (i : Int) < ps.length by omega) e1)
  refine Ev.ift ?_
  obtain ⟨b, o, ei, el⟩ := Y.at S hx
  refine Ev.op (ei _) ?_
  refine Ev.op el ?_
  have hmem : (p ++ 32 :: bA (bU ks) i 2) ∈ acc ++ cU (p :: r) (bU ks) i := by simp [cU]
  have hp := yO [32] _ _ hmem
  have hp' : (p ++ 32 :: bA (bU ks) i 2).length ≤ 100000000000 := Nat.le_trans hp hl
  simp only [List.length_append, List.length_cons] at hp'
  refine Ev.call (oD S N T i 2 (by omega)) ?_
  rintro _ h6 ⟨rfl, S6⟩
  refine Ev.bs S6 (cs := [.s p, .s [32], .s (bA (bU ks) i 2)]) (by simp [cO, cJ]) ?_
  intro b1 h7 S7
  refine Ev.call (fP [p, [32], bA (bU ks) i 2] S7 (List.Mem.head _) rfl (by simp [aN]; omega) (by simp)) ?_
  rintro _ _ ⟨rfl, rfl⟩
  have ej : aN [] [p, [32], bA (bU ks) i 2] = p ++ 32 :: bA (bU ks) i 2 := by simp [aN]
  rw [ej]
  refine Ev.bs S7 (cs := [.s (p ++ 32 :: bA (bU ks) i 2)]) rfl ?_
  intro b2 h9 S9
  obtain ⟨x4, h4, B4, e4, S4, G4⟩ := sG G S9 (List.Mem.head _) (by simp at hc; omega)
  refine Ev.op e4 ?_
  refine Ev.iadd ?_
  rw [fX (by omega)]
  have := aMh N T Y r (i + 1) (j + 1) B4 h4 x4 (acc ++ [p ++ 32 :: bA (bU ks) i 2]) hr2 (by omega) S4.dropL.dropL G4 (by simpa [cU] using hl) (by simp at hc ⊢; omega)
  simpa [cU] using this
end
end Go.Dd

namespace Go.Dd
open Go.Proofs
theorem Fz.restA {I : Im} {sz : Nat} {s : DV} {len : Nat} {cells : List DV} (H : Fz I sz s len cells) {i : Nat} (hi : i ≤ len) (h0 : 0 < len) :
 ∃ s', (∀ (A Q L : Ls) (h : Hp), Sy I A Q L h → cK sz s (some (.i .i64 (Int.ofNat i))) none h = some (s', h)) ∧ Fz I sz s' (len - i) (cells.drop (i * sz)) := by
 rcases H with ⟨_, rfl, _⟩ | ⟨b, o, cap, k, row, rest, rfl, h2, h3, h4, h5, h6⟩
 ·omega
 ·have hle : i * sz ≤ cells.length := by rw [h5]; exact Nat.mul_le_mul_right _ (by omega)
  have hd : row.drop (o + i * sz) = cells.drop (i * sz) ++ rest := by
   rw [← List.drop_drop, h4, List.drop_append_of_le_length hle]
  have e1 : hiD none len cap = some len := by simp [hiD, h2]
  have e2 : loD (some (.i .i64 (Int.ofNat i))) len = some i := by
   show (if 0 ≤ (Int.ofNat i) ∧ (Int.ofNat i) ≤ (len : Int) then some (Int.ofNat i).toNat else none) = _
   have hi' : (Int.ofNat i) = (i : Int) := rfl
   rw [if_pos ⟨by omega, by omega⟩]
   rfl
  have hlen : (cells.drop (i * sz)).length = (len - i) * sz := by rw [List.length_drop, h5, Nat.sub_mul]
  by_cases hc : cap = i
  ·have hz : len - i = 0 := by omega
   have hnil : cells.drop (i * sz) = [] := List.eq_nil_of_length_eq_zero (by rw [hlen, hz]; simp)
   by_cases hk : k = .ro ∨ k = .ex
   ·refine ⟨.l b o (len - i) (cap - i), fun A Q L h S => ?_, .inr ⟨b, o, cap - i, k, row, row.drop o, rfl, by omega, h3, ?_, hlen, fun v hv => h6 v (List.mem_of_mem_drop hv)⟩⟩
    ·have hg := S.im _ _ h3
     unfold cK
     simp only [e1, e2, hg]
     rcases hk with rfl | rfl <;> simp [hc]
    ·rw [hnil]; rfl
   ·refine ⟨.le, fun A Q L h S => ?_, ?_⟩
    ·have hg := S.im _ _ h3
     unfold cK
     simp only [e1, e2, hg]
     cases k with
     | ro => exact absurd (.inl rfl) hk
     | ex => exact absurd (.inr rfl) hk
     | gr es => simp [hc]
     | sp => simp [hc]
    ·rw [hz, hnil]
     exact .inl ⟨.inr rfl, rfl, rfl⟩
  ·refine ⟨.l b (o + i * sz) (len - i) (cap - i), fun A Q L h S => ?_, .inr ⟨b, o + i * sz, cap - i, k, row, rest, rfl, by omega, h3, hd, hlen, fun v hv => h6 v (List.mem_of_mem_drop hv)⟩⟩
   unfold cK
   simp only [e1, e2, S.im _ _ h3]
   cases k <;> simp [hc]
theorem NS.restA {I : Im} {s : DV} {ks : List Node} (N : NS I s ks) {i : Nat} (hi : i ≤ ks.length) (h0 : 0 < ks.length) :
 ∃ s', (∀ (A Q L : Ls) (h : Hp), Sy I A Q L h → cK 6 s (some (.i .i64 (Int.ofNat i))) none h = some (s', h)) ∧ NS I s' (ks.drop i) := by
 obtain ⟨hl, cells, F, NL⟩ := N
 obtain ⟨s', e, F'⟩ := F.restA hi h0
 exact ⟨s', e, by rw [List.length_drop]; omega, cells.drop (i * 6), by simpa using F', NL.drop i⟩
section
variable {I : Im} {A Q L : Ls} {h : Hp} {s : DV} {ks : List Node} {t : List Nat}
theorem sM (S : Sy I A Q L h) (N : NS I s ks) (T : ∀ x ∈ ks, nN x) (hs : t.length ≤ 1000000000) (hl : (bC t (bU ks)).length ≤ 100000000000) :
 Ev (fun n => aJ n 90 [.s t, s] h) (fun v h' => v = .s (bC t (bU ks)) ∧ Sy I A Q L h') := by
 refine Ev.enter (fun n => cDf n _ _ h) ?_
 unfold s90 aXz
 refine Ev.call (tM t h) ?_
 rintro _ h ⟨rfl, rfl⟩
 refine Ev.ieq (fun e1 => ?_) (fun e1 => ?_)
 ·have e1' : cA t = 1 := by have h0 := e1; simp at h0; omega
  refine Ev.ift ?_
  refine Ev.ret ⟨?_, S⟩
  rw [bC, if_pos e1']
 ·have e1' : ¬ cA t = 1 := by have h0 := e1; simp at h0; omega
  refine Ev.iff ?_
  refine Ev.ieq (fun e2 => ?_) (fun e2 => ?_)
  ·have e2' : cA t = 2 := by have h0 := e2; simp at h0; omega
   have em : bC t (bU ks) = t ++ 32 :: bA (bU ks) 0 1 := by rw [bC, if_neg e1', if_pos e2']
   rw [em] at hl ⊢
   simp only [List.length_append, List.length_cons] at hl
   refine Ev.ift ?_
   refine Ev.call (oD S N T 0 1 (by omega)) ?_
   rintro _ h6 ⟨rfl, S6⟩
   refine Ev.bs S6 (cs := [.s t, .s [32], .s (bA (bU ks) 0 1)]) (by simp [cO, cJ]) ?_
   intro b1 h7 S7
   refine Ev.call (fP [t, [32], bA (bU ks) 0 1] S7 (List.Mem.head _) rfl (by simp [aN]; omega) (by simp)) ?_
   rintro _ _ ⟨rfl, rfl⟩
   refine Ev.ret ⟨?_, S7.dropL⟩
   simp [aN]
  ·have e2' : ¬ cA t = 2 := by have h0 := e2; simp at h0; omega
   have em : bC t (bU ks) = aN [32] (cU (dF t) (bU ks) 0) := by rw [bC, if_neg e1', if_neg e2']
   rw [em] at hl ⊢
   refine Ev.iff ?_
   unfold aYb bCx
   refine Ev.call (bRt S hs) ?_
   rintro v h1 ⟨J, g, S1, Y⟩
   refine Ev.op (Y.2.len _) ?_
   unfold bAb bHg
   refine (aMh (A := A) (N.mono g) T Y (dF t) 0 0 [] h1 .l0 [] rfl (Nat.zero_le _) S1 (Gr.nil J 1) (by simpa using hl) (by simpa using Y.1)).mono ?_
   rintro v h' ⟨e, S2⟩
   exact ⟨by simpa using e, S2.weak g⟩
theorem aDh (S : Sy I A Q L h) (N : NS I s ks) (T : ∀ x ∈ ks, nN x) (hs : t.length ≤ 1000000000) (hl : (dH t (bU ks)).length ≤ 100000000000) :
 Ev (fun n => aJ n 61 [.s t, s] h) (fun v h' => v = .s (dH t (bU ks)) ∧ Sy I A Q L h') := by
 refine Ev.enter (fun n => cDq n _ _ h) ?_
 unfold s61 cOi
 have hil : (bU ks).length = ks.length := by simp [bU]
 refine Ev.op (N.len _) ?_
 refine Ev.ieq (fun e1 => ?_) (fun e1 => ?_)
 ·have e1' : ks.length = 0 := by have h0 := e1; simp at h0; simp [h0]
  refine Ev.ift ?_
  refine Ev.ret ⟨?_, S⟩
  rw [dH, if_pos (by omega)]
 ·have e1' : ¬ ks.length = 0 := fun e => e1 (by rw [e]; rfl)
  refine Ev.iff ?_
  unfold cNs cOf
  have go : ∀ (hh : Nat), hh = (if cA t = 1 then 1 else 2) → Ev (fun n => aXr (aJ n) n (.s t) s (.i .i64 (hh : Int)) h) (fun v h' => v = .s (dH t (bU ks)) ∧ Sy I A Q L h') := by
   intro hh eh
   have em : dH t (bU ks) = bA (bU ks) 0 hh ++ 32 :: bC t (bU (ks.drop 1)) := by
    rw [dH, if_neg (by omega), eh]
    simp [bU]
   rw [em] at hl ⊢
   simp only [List.length_append, List.length_cons] at hl
   unfold aXr
   obtain ⟨s', er, N'⟩ := N.restA (i := 1) (by omega) (by omega)
   have Sr := S.res
   refine Ev.call (oD Sr N T 0 hh (by omega)) ?_
   rintro _ h1 ⟨rfl, S1⟩
   refine Ev.op (er _ _ _ _ S1) ?_
   refine Ev.cnd ?_ ?_
   ·rw [er _ _ _ _ Sr]
    have : DV.beq s' s' = true := N'.2.choose_spec.1.beq
    simp [bP, this]
   refine Ev.call (sM S1 N' (fun x hx => T x (List.mem_of_mem_drop hx)) hs (by omega)) ?_
   rintro _ h3 ⟨rfl, S3⟩
   refine Ev.bsAt0 S3 (cs := [.s (bA (bU ks) 0 hh), .s [32], .s (bC t (bU (ks.drop 1)))]) (Rpl.head _) (by simp [cO, cJ]) ?_
   intro h4 S4
   refine Ev.call (fP [bA (bU ks) 0 hh, [32], bC t (bU (ks.drop 1))] S4 (List.Mem.head _) rfl (by simp [aN] at hl ⊢; omega) (by simp)) ?_
   rintro _ _ ⟨rfl, rfl⟩
   refine Ev.ret ⟨?_, S4.dropL⟩
   simp [aN]
  refine Ev.call (tM t h) ?_
  rintro _ h ⟨rfl, rfl⟩
  refine Ev.ieq (fun e2 => ?_) (fun e2 => ?_)
  ·have e2' : cA t = 1 := by have h0 := e2; simp at h0; omega
   refine Ev.ift ?_
   exact go 1 (by rw [if_pos e2'])
  ·have e2' : ¬ cA t = 1 := by have h0 := e2; simp at h0; omega
   refine Ev.iff ?_
   exact go 2 (by rw [if_neg e2'])
end
end Go.Dd

namespace Go.Dd
open Go.Proofs
theorem cLi (n : Nat) (x y z : DV) (h : Hp) : aJ (n + 1) 35 [x, y, z] h = s35 (aJ n) n x y z h := by kernel_rfl
theorem cRx (rec : FuncId → List DV → Hp → aH) (x : DV) (h : Hp) : dS CF rec (.f 36 [] []) [x] h = rec 36 [x] h := by kernel_rfl
def HowOk (hw : DV) (g : Node → List Nat) (x : Node) : Prop := ∀ (I : Im) (A Q L : Ls) (h : Hp) (cs : List DV), Sy I A Q L h → NV I x cs → (g x).length ≤ 100000000000 →
 Ev (fun n => dS CF (aJ n) hw [.a cs] h) (fun v h' => v = .s (g x) ∧ Sy I A Q L h')
theorem HowOk.text {x : Node} (T : nN x) : HowOk (.f 36 [] []) (fun x => (nf x).tx) x := by
 intro I A Q L h cs S N hl
 have := T I A Q L h cs S N hl
 have e : (fun n => dS CF (aJ n) (.f 36 [] []) [.a cs] h) = fun n => aJ n 36 [.a cs] h := funext fun n => cRx _ _ _
 rw [e]
 exact this
section
variable {I : Im} {A Q L : Ls} {s hw : DV} {ks : List Node} {sep : List Nat} {g : Node → List Nat}
theorem aNw (N : NS I s ks) (T : ∀ x ∈ ks, HowOk hw g x) : ∀ (r : List Node) (i j : Nat) (B : Ls) (h : Hp) (x : DV) (acc : List (List Nat)), ks.drop i = r → Sy I (B ++ A) Q L h → Gr I 1 B x acc.length (acc.map .s) →
 (aN sep (acc ++ r.map g)).length ≤ 100000000000 → acc.length + r.length ≤ bL →
 Ev (fun n => nD (aJ n) n (n - j) (.s sep) hw x s (.i .i64 (ks.length : Int)) (.i .i64 (i : Int)) h) (fun v h' => v = .s (aN sep (acc ++ r.map g)) ∧ Sy I A Q L h')
 | [], i, j, B, h, x, acc, hr, S, G, hl, hc => by
  refine Ev.loop j (ll := fun n m => nD (aJ n) n m (.s sep) hw x s (.i .i64 (ks.length : Int)) (.i .i64 (i : Int)) h) (bb := fun n m => tK (aJ n) n (nD (aJ n) n m) (.s sep) hw x s (.i .i64 (ks.length : Int)) (.i .i64 (i : Int)) h) (fun _ _ => rfl) ?_
  unfold tK
  have hle : ks.length ≤ i := List.drop_eq_nil_iff.1 hr
  refine Ev.ilt (fun e1 => absurd e1 (by omega)) (fun e1 => ?_)
  refine Ev.iff ?_
  unfold gH
  simp only [List.map_nil, List.append_nil] at hl ⊢
  obtain ⟨J, gJ, S3, F3⟩ := G.freeze S
  refine Ev.op (SS.join (I := J) ⟨by simpa using hc, F3⟩ S3 hl) ?_
  exact Ev.ret ⟨rfl, S3.weak gJ⟩
 | y :: r, i, j, B, h, x, acc, hr, S, G, hl, hc => by
  refine Ev.loop j (ll := fun n m => nD (aJ n) n m (.s sep) hw x s (.i .i64 (ks.length : Int)) (.i .i64 (i : Int)) h) (bb := fun n m => tK (aJ n) n (nD (aJ n) n m) (.s sep) hw x s (.i .i64 (ks.length : Int)) (.i .i64 (i : Int)) h) (fun _ _ => rfl) ?_
  unfold tK
  have hlim : ks.length ≤ bL := N.1
  have hi' : i < ks.length := by
   rcases Nat.lt_or_ge i ks.length with h | h
   ·exact h
   ·rw [List.drop_eq_nil_of_le h] at hr; cases hr
  have hx : ks[i]? = some y := by
   have : (ks.drop i)[0]? = some y := by rw [hr]; rfl
   simpa using this
  have hr2 : ks.drop (i + 1) = r := by
   have := jY hx
   rw [hr] at this
   simpa using this.symm
  refine Ev.ilt (fun e1 => ?_) (fun e1 => absurd (show (i : Int) < ks.length by omega) e1)
  refine Ev.ift ?_
  obtain ⟨b, o, c, ei, Nx, el⟩ := N.at hx
  obtain ⟨c1, o1, b1⟩ := Nx.shape
  have hmem : g y ∈ acc ++ (y :: r).map g := by simp
  have hp := Nat.le_trans (yO sep _ _ hmem) hl
  refine Ev.op (ei _) ?_
  refine Ev.op (el _ _ _ _ _ (ILe.refl _) S) ?_
  refine wa fun _ _ _ => ?_; refine wt fun _ _ => ?_; refine ws ?_
  refine Ev.call (T y (List.mem_of_getElem? hx) _ _ _ _ _ _ (by assumption) Nx hp) ?_
  rintro _ h9 ⟨rfl, S9⟩
  refine Ev.bs S9 (cs := [.s (g y)]) rfl ?_
  intro b2 h10 S10
  obtain ⟨x4, h4, B4, e4, S4, G4⟩ := sG G S10 (List.Mem.head _) (by simp at hc; omega)
  refine Ev.op e4 ?_
  refine Ev.iadd ?_
  rw [fX (by omega)]
  have := aNw N T r (i + 1) (j + 1) B4 h4 x4 (acc ++ [g y]) hr2 (dp) G4 (by simpa using hl) (by simp at hc ⊢; omega)
  simpa using this
theorem wS {h : Hp} (S : Sy I A Q L h) (N : NS I s ks) (T : ∀ x ∈ ks, HowOk hw g x) (hl : (aN sep (ks.map g)).length ≤ 100000000000) :
 Ev (fun n => aJ n 35 [s, .s sep, hw] h) (fun v h' => v = .s (aN sep (ks.map g)) ∧ Sy I A Q L h') := by
 refine Ev.enter (fun n => cLi n _ _ _ h) ?_
 unfold s35 bBe aWq
 refine Ev.op (N.len _) ?_
 unfold aZu bTx
 have := aNw (A := A) (Q := Q) (L := L) (sep := sep) N T ks 0 0 [] h .l0 [] rfl S (Gr.nil I 1) (by simpa using hl) (by simpa using N.1)
 simpa using this
end
end Go.Dd

namespace Go.Dd
open Go.Proofs
theorem cBu (n : Nat) (x : DV) (h : Hp) : aJ (n + 1) 21 [x] h = s21 (aJ n) n x h := by kernel_rfl
def fR (ks : List Node) : List (List Nat) := ks.map fun x => (nf x).tx
section
variable {I : Im} {A Q L : Ls} {h : Hp} {k m : Int} {t : List Nat} {ns ts : List (List Nat)} {ks : List Node} {cs : List DV}
theorem aDi (S : Sy I A Q L h) (N : NV I (.mk k t m ns ts ks) cs) (T : ∀ x ∈ ks, nN x) (hl : (cH ts (fR ks)).length ≤ 100000000000) :
 Ev (fun n => aJ n 21 [.a cs] h) (fun v h' => v = .s (cH ts (fR ks)) ∧ Sy I A Q L h') := by
 refine Ev.enter (fun n => cBu n _ h) ?_
 unfold s21 cPc cNy
 obtain ⟨s1, s2, s3, rfl, a, b, c, cells, F, NL⟩ := N
 have N3 : NS I s3 ks := ⟨c, cells, F, NL⟩
 have o1 := a.2.one
 have o2 := b.2.one
 have o3 := F.one
 refine Ev.box S rfl ?_
 intro b1 h1 S1
 have eb : cH ts (fR ks) = (if ts.length = 0 then [] else 124 :: 32 :: (aN [32] ts ++ [32, 124, 32])) ++ aN [46, 32] (fR ks) := rfl
 have fin : ∀ (pre : List Nat) (h : Hp), Sy I A Q ((b1, some (.row .ex [.i .i64 k, .s t, .i .i64 m, s1, s2, s3])) :: L) h → (pre ++ aN [46, 32] (fR ks)).length ≤ 100000000000 →
  Ev (fun n => bCn (aJ n) n (.p b1 0) (.s pre) h) (fun v h' => v = .s (pre ++ aN [46, 32] (fR ks)) ∧ Sy I A Q L h') := by
  intro pre h S hl
  unfold bCn
  simp only [List.length_append] at hl
  refine wf ?_; refine wl ?_
  refine Ev.call (wS (sep := [46, 32]) S N3 (fun x hx => HowOk.text (T x hx)) (by simp only [fR] at hl; omega)) ?_
  rintro _ h3 ⟨rfl, S3⟩
  refine Ev.bs S3 (cs := [.s pre, .s (aN [46, 32] (fR ks))]) (by simp [cO, cJ, fR]) ?_
  intro b2 h4 S4
  refine Ev.call (fP [pre, aN [46, 32] (fR ks)] S4 (List.Mem.head _) rfl (by simp [aN]; omega) (by simp)) ?_
  rintro _ _ ⟨rfl, rfl⟩
  refine Ev.ret ⟨?_, S4.dropL.dropL⟩
  simp [aN]
 rw [eb] at hl ⊢
 refine wf ?_; refine wl ?_
 refine Ev.op (b.2.len _) ?_
 refine Ev.igt (fun e1 => ?_) (fun e1 => ?_)
 ·have e1' : ¬ ts.length = 0 := by have h0 := e1; simp at h0; intro h9; simp [h9] at h0
  rw [if_neg e1'] at hl ⊢
  have hl2 : (aN [32] ts).length ≤ 100000000000 := by simp at hl; omega
  refine yt ?_; refine wf ?_; refine wl ?_
  refine Ev.op (SS.join b S1 hl2) ?_
  refine Ev.bs S1 (cs := [.s [124, 32], .s (aN [32] ts), .s [32, 124, 32]]) (by simp [cO, cJ]) ?_
  intro b2 h4 S4
  refine Ev.call (fP [[124, 32], aN [32] ts, [32, 124, 32]] S4 (List.Mem.head _) rfl (by simp [aN] at hl ⊢; omega) (by simp)) ?_
  rintro _ _ ⟨rfl, rfl⟩
  have ej : aN [] [[124, 32], aN [32] ts, [32, 124, 32]] = 124 :: 32 :: (aN [32] ts ++ [32, 124, 32]) := by simp [aN]
  rw [ej]
  exact fin _ _ S4.dropL hl
 ·have e1' : ts.length = 0 := by have h0 := e1; simp at h0; simpa using h0
  rw [if_pos e1'] at hl ⊢
  refine yj ?_
  exact fin _ _ S1 hl
end
end Go.Dd

namespace Go.Dd
open Go.Proofs
theorem bZm (n : Nat) (x : DV) (h : Hp) : aJ (n + 1) 91 [x] h = s91 (aJ n) n x h := by kernel_rfl
theorem cBn (n : Nat) (x : DV) (h : Hp) : aJ (n + 1) 62 [x] h = s62 (aJ n) n x h := by kernel_rfl
theorem cIn (n : Nat) (x : DV) (h : Hp) : aJ (n + 1) 36 [x] h = s36 (aJ n) n x h := by kernel_rfl
theorem cWd (rec : FuncId → List DV → Hp → aH) (x : DV) (h : Hp) : dS CF rec (.f 91 [] []) [x] h = rec 91 [x] h := by kernel_rfl
theorem aLk (k m : Int) (t : List Nat) (ns ts : List (List Nat)) (ks : List Node) : (nf (.mk k t m ns ts ks)).ks = bU ks ∧ (nf (.mk k t m ns ts ks)).t = t := by
 simp [nf, zK, bU]
def cX (x : Node) : List Nat := 59 :: 32 :: bC (nf x).t (nf x).ks
theorem dJr {x : Node} (T : ∀ y ∈ x.kids, nN y) (hs : x.text.length ≤ 1000000000) : HowOk (.f 91 [] []) cX x := by
 intro I A Q L h cs S N hl
 have e : (fun n => dS CF (aJ n) (.f 91 [] []) [.a cs] h) = fun n => aJ n 91 [.a cs] h := funext fun n => cWd _ _ _
 rw [e]
 obtain ⟨k, t, m, ns, ts, ks⟩ := x
 obtain ⟨q1, q2⟩ := aLk k m t ns ts ks
 have ef : cX (.mk k t m ns ts ks) = 59 :: 32 :: bC t (bU ks) := by rw [cX, q1, q2]
 rw [ef] at hl ⊢
 simp only [List.length_cons] at hl
 refine Ev.enter (fun n => bZm n _ h) ?_
 unfold s91
 obtain ⟨s1, s2, s3, rfl, a, b, c, cells, F, NL⟩ := N
 have N3 : NS I s3 ks := ⟨c, cells, F, NL⟩
 have o1 := a.2.one
 have o2 := b.2.one
 have o3 := F.one
 refine Ev.box S rfl ?_
 intro b1 h1 S1
 refine wf ?_; refine wl ?_; refine wf ?_; refine wl ?_
 refine Ev.call (sM S1 N3 T hs (by omega)) ?_
 rintro _ h3 ⟨rfl, S3⟩
 refine Ev.bs S3 (cs := [.s [59, 32], .s (bC t (bU ks))]) (by simp [cO, cJ]) ?_
 intro b2 h4 S4
 refine Ev.call (fP [[59, 32], bC t (bU ks)] S4 (List.Mem.head _) rfl (by simp [aN]; omega) (by simp)) ?_
 rintro _ _ ⟨rfl, rfl⟩
 refine Ev.ret ⟨?_, S4.dropL.dropL⟩
 simp [aN]
end Go.Dd

namespace Go.Dd
open Go.Proofs
theorem mF {b : Pos} {o j : Nat} {c : List DV} {v : DV} {h : Hp} (e : aE 6 (.p b o) h = some (.a c, h)) (hv : c[j]? = some v) : aD (.p b (o + j)) h = some (v, h) := by
 simp only [aE, dL] at e
 cases hr : lT b h with
 | none => rw [hr] at e; cases e
 | some l =>
  rw [hr] at e
  simp only at e
  cases ht : iW 6 (l.drop o) with
  | none => rw [ht] at e; cases e
  | some cs =>
   rw [ht] at e
   simp only [Option.some.injEq, Prod.mk.injEq, DV.a.injEq, and_true] at e
   subst e
   obtain ⟨h1, h2, h3, h4⟩ := rF 6 _ _ ht
   have hj : j < 6 := by
    have := (List.getElem?_eq_some_iff.1 hv).1
    omega
   have ev : l[o + j]? = some v := by
    rw [h3] at hv
    rw [List.getElem?_take_of_lt hj, List.getElem?_drop] at hv
    exact hv
   have ho := h4 v (List.mem_of_getElem? hv)
   simp [aD, aMs, hr, ev, ho]
theorem aNz {I : Im} {A Q L : Ls} {h : Hp} {b : Pos} {y : Node} {ca : List DV} {s3 : DV} {ks : List Node} (S : Sy I A Q ((b, some (.row .ex ca)) :: L) h) (Ny : NV I y ca) (N3 : NS I s3 ks) (hl : ks.length + 1 ≤ bL) :
 ∃ x h' J, aX 6 104 (.l b 0 1 1) s3 h = some (x, h') ∧ ILe I J ∧ Sy J A Q L h' ∧ NS J x (y :: ks) := by
 obtain ⟨c1, c2, _⟩ := Ny.shape
 have N3' := N3
 obtain ⟨hk, cells, F, NL⟩ := N3
 by_cases h0 : ks.length = 0
 ·have hks : ks = [] := List.eq_nil_of_length_eq_zero h0
  subst hks
  have hc : cells = [] := NL
  have hs : nY 6 s3 h = some (0, []) := by
   rw [F.src S.dropL, hc]
   rfl
  have hg := S.memL (List.Mem.head _)
  have e : aX 6 104 (.l b 0 1 1) s3 h = some (.l b 0 1 1, ⟨h.next, Tr.set (.row .ex ca) b h.bl⟩) := by
   obtain ⟨k, t, m, ns, ts, ks'⟩ := y
   obtain ⟨s1, s2, s4, rfl, _⟩ := Ny
   unfold aX
   simp only [hs]
   simp [hU, hg, Kind.writable, kB, sW]
  have S2 : Sy I A Q ((b, some (.row .ex ca)) :: L) ⟨h.next, Tr.set (.row .ex ca) b h.bl⟩ := S.setL (Rpl.head _) rfl (fun c => Tr.get_set _ _ _ _)
  obtain ⟨J, gJ, S4, F4, _⟩ := Fz.built (sz := 6) (n := 1) S2 (by simpa using c1) c2
  exact ⟨_, _, J, e, gJ, S4, by simp [bL], ca, F4, NVL.single (Ny.mono gJ)⟩
 ·obtain ⟨J, gJ, S4, F4, G4⟩ := Fz.built (sz := 6) (n := 1) S (by simpa using c1) c2
  obtain ⟨d1, d2⟩ := NL.shape
  have hr : (1 + ks.length) * 104 ≤ eM := by simp [eM, bL] at hl ⊢; omega
  obtain ⟨x5, h5, B5, e5, S5, G5⟩ := G4.app (A0 := A) S4 ((F.mono gJ).src S4) d1 d2 h0 hr
  obtain ⟨K, gK, S6, F6⟩ := G5.freeze S5
  refine ⟨x5, h5, K, e5, gJ.trans gK, S6, by simpa using hl, ca ++ cells, by simpa [Nat.add_comm] using F6, ?_⟩
  exact NVL.app (NVL.single ((Ny.mono gJ).mono gK)) ((NL.mono gJ).mono gK)
end Go.Dd

namespace Go.Dd
open Go.Proofs
theorem aCs (a b : Node) (r : List Node) : fT (lL (a :: b :: r)) = dH (nf b).t (bU (a :: b.kids)) ++ aN [] (r.map cX) := by
 obtain ⟨k, t, m, ns, ts, ks⟩ := b
 obtain ⟨q1, q2⟩ := aLk k m t ns ts ks
 have e : ((lL r).map fun x => 59 :: 32 :: bC x.t x.ks) = r.map cX := by
  rw [zK, List.map_map]
  rfl
 simp only [lL, fT, e, q1]
 rfl
section
variable {I : Im} {A Q L : Ls} {h : Hp} {s : DV} {ks : List Node}
theorem bGc (S : Sy I A Q L h) (N : NS I s ks) (T : ∀ x ∈ ks, nN x) (K : ∀ x ∈ ks, (∀ y ∈ x.kids, nN y) ∧ x.text.length ≤ 1000000000 ∧ x.kids.length + 1 ≤ bL) (hl : (fT (lL ks)).length ≤ 100000000000) :
 Ev (fun n => aJ n 62 [s] h) (fun v h' => v = .s (fT (lL ks)) ∧ Sy I A Q L h') := by
 refine Ev.enter (fun n => cBn n _ h) ?_
 unfold s62
 refine Ev.op (N.len _) ?_
 refine Ev.ilt (fun e1 => ?_) (fun e1 => ?_)
 ·refine Ev.ift ?_
  refine Ev.ret ⟨?_, S⟩
  match ks, e1 with
  | [], _ => rfl
  | [_], _ => rfl
  | _ :: _ :: _, e1 => simp at e1; omega
 ·match ks, N, T, K, hl, e1 with
  | [], _, _, _, _, e1 => simp at e1
  | [_], _, _, _, _, e1 => simp at e1
  | a :: b :: r, N, T, K, hl, e1 =>
   rw [aCs] at hl ⊢
   simp only [List.length_append] at hl
   refine Ev.iff ?_
   obtain ⟨p0, o0, ca, ei0, Na, el0⟩ := N.at (i := 0) (x := a) rfl
   obtain ⟨p1, o1, cb, ei1, Nb, el1⟩ := N.at (i := 1) (x := b) rfl
   have Sr := S.res
   obtain ⟨c1, c2, _⟩ := Na.shape
   obtain ⟨kb, tb, mb, nsb, tsb, ksb⟩ := b
   obtain ⟨K1, K2, K3⟩ := K (.mk kb tb mb nsb tsb ksb) (by simp)
   obtain ⟨q1, q2⟩ := aLk kb mb tb nsb tsb ksb
   rw [q2] at hl ⊢
   have hl' : (dH tb (bU (a :: ksb))).length + (aN [] (r.map cX)).length ≤ 100000000000 := hl
   obtain ⟨s1, s2, s3, rfl, ya, yb, yc, cells, F, NL⟩ := Nb
   have N3 : NS I s3 ksb := ⟨yc, cells, F, NL⟩
   refine Ev.op (ei0 _) ?_
   refine Ev.op (el0 _ _ _ _ _ (ILe.refl _) Sr) ?_
   refine Ev.bsAt0 Sr (Rpl.head _) (eX c1) ?_
   intro h4 S4
   refine Ev.op (ei1 _) ?_
   refine Ev.fld ?_
   refine Ev.op (mF (j := 5) (el1 _ _ _ _ _ (ILe.refl _) S4) rfl) ?_
   refine Ev.cnd ?_ ?_
   ·rw [mF (j := 5) (el1 _ _ _ _ _ (ILe.refl _) Sr) rfl]
    have : DV.beq s3 s3 = true := F.beq
    simp [bP, this]
   obtain ⟨x9, h9, J, e9, g9, S9, N9⟩ := aNz S4 Na N3 K3
   refine Ev.op e9 ?_
   obtain ⟨s', er, N'⟩ := N.restA (i := 2) (by simp) (by simp)
   refine Ev.op (er _ _ _ _ (S9.weak g9)) ?_
   refine Ev.call (wS (g := cX) (sep := []) S9 (N'.mono g9) (fun x hx => ?_) (by simpa using (by omega : (aN [] (r.map cX)).length ≤ 100000000000))) ?_
   ·have hx' : x ∈ r := by simpa using hx
    obtain ⟨k1, k2, _⟩ := K x (by simp [hx'])
    exact dJr k1 k2
   rintro _ h11 ⟨rfl, S11⟩
   refine Ev.op (ei1 _) ?_
   refine Ev.fld ?_
   refine Ev.op (mF (j := 1) (el1 _ _ _ _ _ g9 S11) rfl) ?_
   refine Ev.call (aDh S11 N9 (fun x hx => ?_) K2 (by omega)) ?_
   ·rcases List.mem_cons.1 hx with rfl | hx
    ·exact T _ (by simp)
    ·exact K1 x hx
   rintro _ h15 ⟨rfl, S15⟩
   have ed : (List.drop 2 (a :: Node.mk kb tb mb nsb tsb ksb :: r)) = r := rfl
   rw [ed]
   refine Ev.bs S15 (cs := [.s (dH tb (bU (a :: ksb))), .s (aN [] (r.map cX))]) (by simp [cO, cJ]) ?_
   intro b2 h16 S16
   refine Ev.call (fP [dH tb (bU (a :: ksb)), aN [] (r.map cX)] S16 (List.Mem.head _) rfl (by simp [aN]; omega) (by simp)) ?_
   rintro _ _ ⟨rfl, rfl⟩
   refine Ev.ret ⟨?_, S16.dropL.weak g9⟩
   simp [aN, Node.kids]
end
end Go.Dd

namespace Go.Dd
open Go.Proofs
theorem cFj {m : Int} (h0 : -9223372036854775808 ≤ m) (h1 : m ≤ 9223372036854775807) (h : Hp) : aCv [.i .i64 m] h = some (.s (sB m), h) := by
 show (bif decide (-9223372036854775808 ≤ m) && decide (m ≤ 9223372036854775807) then some (DV.s (sB m), h) else none) = _
 simp [h0, h1]
theorem cHd {t : List Nat} (ht : t.length ≤ 1000000000) (h : Hp) : aCn [.s t, .s [39], .s [39, 39]] h = some (.s (eC 39 [39, 39] t), h) := by
 have e1 : Nat.ble t.length 4000000000 = true := Nat.ble_eq_true_of_le (by omega)
 show (bif Nat.blt 39 256 then (bif Nat.ble t.length 4000000000 then (bif Nat.ble [39, 39].length 1000 then some (DV.s (eC 39 [39, 39] t), h) else none) else none) else none) = _
 rw [e1]
 rfl
theorem aQv (ks : List Node) : (lL ks).map Nf.tx = fR ks ∧ (lL ks).map Nf.ht = bU ks := by
 rw [zK]
 simp [fR, bU]
end Go.Dd

namespace Go.Dd
open Go.Proofs
section
variable {I : Im} {A Q L : Ls} {s1 y : DV} {ns : List (List Nat)} {P : DV → Hp → Prop}
theorem aYu (N : SS I s1 ns) : ∀ (r : List (List Nat)) (i j : Nat) (h : Hp) (acc : List Nat), ns.drop i = r → Sy I A Q L h → (acc ++ bR r).length ≤ 100000000000 →
 (∀ h, Sy I A Q L h → Ev (fun n => dR (aJ n) n y (.s (acc ++ bR r)) h) P) →
 Ev (fun n => jS (aJ n) n (n - j) y (.s acc) s1 (.i .i64 (ns.length : Int)) (.i .i64 (i : Int)) h) P
 | [], i, j, h, acc, hr, S, hl, fin => by
  refine Ev.loop j (ll := fun n m => jS (aJ n) n m y (.s acc) s1 (.i .i64 (ns.length : Int)) (.i .i64 (i : Int)) h) (bb := fun n m => oJ (aJ n) n (jS (aJ n) n m) y (.s acc) s1 (.i .i64 (ns.length : Int)) (.i .i64 (i : Int)) h) (fun _ _ => rfl) ?_
  unfold oJ
  have hle : ns.length ≤ i := List.drop_eq_nil_iff.1 hr
  refine Ev.ilt (fun e1 => absurd e1 (by omega)) (fun e1 => ?_)
  refine Ev.iff ?_
  have := fin h S
  simpa [bR] using this
 | p :: r, i, j, h, acc, hr, S, hl, fin => by
  refine Ev.loop j (ll := fun n m => jS (aJ n) n m y (.s acc) s1 (.i .i64 (ns.length : Int)) (.i .i64 (i : Int)) h) (bb := fun n m => oJ (aJ n) n (jS (aJ n) n m) y (.s acc) s1 (.i .i64 (ns.length : Int)) (.i .i64 (i : Int)) h) (fun _ _ => rfl) ?_
  unfold oJ
  have hlim : ns.length ≤ bL := N.1
  have hi' : i < ns.length := by
   rcases Nat.lt_or_ge i ns.length with h | h
   ·exact h
   ·rw [List.drop_eq_nil_of_le h] at hr; cases hr
  have hx : ns[i]? = some p := by
   have : (ns.drop i)[0]? = some p := by rw [hr]; rfl
   simpa using this
  have hr2 : ns.drop (i + 1) = r := by
   have := jY hx
   rw [hr] at this
   simpa using this.symm
  refine Ev.ilt (fun e1 => ?_) (fun e1 => absurd (show (i : Int) < ns.length by omega) e1)
  refine Ev.ift ?_
  obtain ⟨b, o, ei, el⟩ := N.at S hx
  refine Ev.op (ei _) ?_
  refine Ev.op el ?_
  refine Ev.bs S (cs := [.s acc, .s [58], .s p, .s [32]]) (by simp [cO, cJ]) ?_
  intro b1 h7 S7
  have hl' : acc.length + (p.length + (bR r).length) ≤ 100000000000 - 2 := by simp [bR] at hl; omega
  refine Ev.call (fP [acc, [58], p, [32]] S7 (List.Mem.head _) rfl (by simp [aN]; omega) (by simp)) ?_
  rintro _ _ ⟨rfl, rfl⟩
  have ej : aN [] [acc, [58], p, [32]] = acc ++ (58 :: (p ++ [32])) := by simp [aN]
  rw [ej]
  refine Ev.iadd ?_
  rw [fX (by omega)]
  have ea : (acc ++ (58 :: (p ++ [32]))) ++ bR r = acc ++ bR (p :: r) := by simp [bR]
  exact aYu N r (i + 1) (j + 1) _ (acc ++ (58 :: (p ++ [32]))) hr2 S7.dropL (by rw [ea]; exact hl) (fun h S => by rw [ea]; exact fin h S)
end
end Go.Dd

namespace Go.Dd
open Go.Proofs
theorem bFt {k m : Int} {t : List Nat} {ns ts : List (List Nat)} {ks : List Node} (T : ∀ y ∈ ks, nN y) (K : ∀ z ∈ ks, (∀ y ∈ z.kids, nN y) ∧ z.text.length ≤ 1000000000 ∧ z.kids.length + 1 ≤ bL)
 (hs : t.length ≤ 1000000000) (hm0 : -9223372036854775808 ≤ m) (hm1 : m ≤ 9223372036854775807) : nN (.mk k t m ns ts ks) := by
 intro I A Q L h cs S N hl
 have N0 := N
 obtain ⟨etx, eht⟩ := aQv ks
 have ex : (nf (.mk k t m ns ts ks)).tx = aBp k t m ns ts (lL ks) := by simp [nf]
 rw [ex] at hl ⊢
 refine Ev.enter (fun n => cIn n _ h) ?_
 unfold s36
 obtain ⟨s1, s2, s3, rfl, a, b, c, cells, F, NL⟩ := N
 have N3 : NS I s3 ks := ⟨c, cells, F, NL⟩
 have o1 := a.2.one
 have o2 := b.2.one
 have o3 := F.one
 refine Ev.box S rfl ?_
 intro b1 h1 S1
 unfold aUe
 refine wf ?_; refine wl ?_
 unfold bDn
 unfold aBp at hl ⊢
 refine Ev.ieq (fun e1 => ?_) (fun e1 => ?_)
 ·replace e1 : k = 1 := e1
  rw [if_pos e1] at hl ⊢
  unfold aOi
  refine yt ?_; refine wf ?_; refine wl ?_
  refine Ev.op (cFj hm0 hm1 _) ?_
  exact Ev.ret ⟨rfl, S1.dropL⟩
 replace e1 : ¬ k = 1 := e1
 rw [if_neg e1] at hl ⊢
 unfold aOi bNv
 refine Ev.iff ?_
 refine Ev.ieq (fun e2 => ?_) (fun e2 => ?_)
 ·replace e2 : k = 2 := e2
  rw [if_pos e2] at hl ⊢
  unfold aLg
  refine yt ?_; refine wf ?_; refine wl ?_
  refine Ev.op (cHd hs _) ?_
  refine Ev.bs S1 (cs := [.s [39], .s (eC 39 [39, 39] t), .s [39]]) (by simp [cO, cJ]) ?_
  intro b2 h2 S2
  refine Ev.call (fP [[39], eC 39 [39, 39] t, [39]] S2 (List.Mem.head _) rfl (by simp [aN] at hl ⊢; omega) (by simp)) ?_
  rintro _ _ ⟨rfl, rfl⟩
  refine Ev.ret ⟨?_, S2.dropL.dropL⟩
  simp [aN]
 replace e2 : ¬ k = 2 := e2
 rw [if_neg e2] at hl ⊢
 unfold aLg bSm
 refine Ev.iff ?_
 refine Ev.ieq (fun e3 => ?_) (fun e3 => ?_)
 ·replace e3 : k = 3 := e3
  rw [if_pos e3] at hl ⊢
  unfold aOm
  refine yt ?_; refine wf ?_; refine wl ?_
  refine Ev.bs S1 (cs := [.s [35], .s t]) (by simp [cO, cJ]) ?_
  intro b2 h2 S2
  refine Ev.call (fP [[35], t] S2 (List.Mem.head _) rfl (by simp [aN] at hl ⊢; omega) (by simp)) ?_
  rintro _ _ ⟨rfl, rfl⟩
  refine Ev.ret ⟨?_, S2.dropL.dropL⟩
  simp [aN]
 replace e3 : ¬ k = 3 := e3
 rw [if_neg e3] at hl ⊢
 unfold aOm bGk
 refine Ev.iff ?_
 refine Ev.ieq (fun e4 => ?_) (fun e4 => ?_)
 ·replace e4 : k = 4 := e4
  rw [if_pos e4, etx] at hl ⊢
  unfold zY
  refine yt ?_; refine wf ?_; refine wl ?_
  refine Ev.call (wS (sep := [32]) S1 N3 (fun x hx => HowOk.text (T x hx)) (by simp only [fR] at hl; simp at hl ⊢; omega)) ?_
  rintro _ h2 ⟨rfl, S2⟩
  refine Ev.bs S2 (cs := [.s [35, 40], .s (aN [32] (fR ks)), .s [41]]) (by simp [cO, cJ, fR]) ?_
  intro b2 h3 S3
  refine Ev.call (fP [[35, 40], aN [32] (fR ks), [41]] S3 (List.Mem.head _) rfl (by simp [aN] at hl ⊢; omega) (by simp)) ?_
  rintro _ _ ⟨rfl, rfl⟩
  refine Ev.ret ⟨?_, S3.dropL.dropL⟩
  simp [aN]
 replace e4 : ¬ k = 4 := e4
 rw [if_neg e4] at hl ⊢
 unfold zY aSr
 refine Ev.iff ?_
 refine Ev.ieq (fun e5 => ?_) (fun e5 => ?_)
 ·replace e5 : k = 6 := e5
  rw [if_pos e5, etx] at hl ⊢
  unfold xM
  refine Ev.ift ?_
  have Sr := S1.res
  generalize hh : hC 1 h1 = hr at Sr
  refine Ev.fld ?_
  refine Ev.ldL Sr (List.Mem.tail _ (List.Mem.head _)) rfl rfl ?_
  refine Ev.fld ?_
  refine Ev.ldL Sr (List.Mem.tail _ (List.Mem.head _)) rfl o3 ?_
  refine Ev.call (wS (sep := []) Sr N3 (fun x hx => HowOk.text (T x hx)) (by simp only [fR] at hl; simp at hl ⊢; omega)) ?_
  rintro _ h2 ⟨rfl, S2⟩
  refine Ev.cnd ?_ ?_
  ·rw [Bool.and_true]; exact eG S2 (List.Mem.tail _ (List.Mem.head _)) rfl rfl (sR _)
  refine Ev.bsAt0 S2 (cs := [.s t, .s [32, 58, 61, 32], .s (aN [] (fR ks))]) (Rpl.head _) (by simp [cO, cJ, fR]) ?_
  intro h3 S3
  refine Ev.call (fP [t, [32, 58, 61, 32], aN [] (fR ks)] S3 (List.Mem.head _) rfl (by simp [aN] at hl ⊢; omega) (by simp)) ?_
  rintro _ _ ⟨rfl, rfl⟩
  refine Ev.ret ⟨?_, S3.dropL.dropL⟩
  simp [aN]
 replace e5 : ¬ k = 6 := e5
 rw [if_neg e5] at hl ⊢
 unfold xM aRq
 refine Ev.iff ?_
 refine Ev.ieq (fun e6 => ?_) (fun e6 => ?_)
 ·replace e6 : k = 10 := e6
  rw [if_pos e6, etx] at hl ⊢
  unfold xP
  refine yt ?_; refine wf ?_; refine wl ?_
  refine Ev.call (wS (sep := []) S1 N3 (fun x hx => HowOk.text (T x hx)) (by simp only [fR] at hl; simp at hl ⊢; omega)) ?_
  rintro _ h2 ⟨rfl, S2⟩
  refine Ev.bs S2 (cs := [.s [94], .s (aN [] (fR ks))]) (by simp [cO, cJ, fR]) ?_
  intro b2 h3 S3
  refine Ev.call (fP [[94], aN [] (fR ks)] S3 (List.Mem.head _) rfl (by simp [aN] at hl ⊢; omega) (by simp)) ?_
  rintro _ _ ⟨rfl, rfl⟩
  refine Ev.ret ⟨?_, S3.dropL.dropL⟩
  simp [aN]
 replace e6 : ¬ k = 10 := e6
 rw [if_neg e6] at hl ⊢
 unfold xP aPv
 refine Ev.iff ?_
 refine Ev.ieq (fun e7 => ?_) (fun e7 => ?_)
 ·replace e7 : k = 7 := e7
  rw [if_pos e7, eht] at hl ⊢
  unfold aBg
  refine yt ?_; refine wf ?_; refine wl ?_; refine wf ?_; refine wl ?_
  refine Ev.call (aDh S1 N3 T hs hl) ?_
  rintro _ h2 ⟨rfl, S2⟩
  exact Ev.ret ⟨rfl, S2.dropL⟩
 replace e7 : ¬ k = 7 := e7
 rw [if_neg e7] at hl ⊢
 unfold aBg aQq
 refine Ev.iff ?_
 refine Ev.ieq (fun e8 => ?_) (fun e8 => ?_)
 ·replace e8 : k = 8 := e8
  rw [if_pos e8] at hl ⊢
  unfold aAu
  refine yt ?_; refine wf ?_; refine wl ?_
  refine Ev.call (bGc S1 N3 T K hl) ?_
  rintro _ h2 ⟨rfl, S2⟩
  exact Ev.ret ⟨rfl, S2.dropL⟩
 replace e8 : ¬ k = 8 := e8
 rw [if_neg e8] at hl ⊢
 unfold aAu aQc
 refine Ev.iff ?_
 refine Ev.ieq (fun e9 => ?_) (fun e9 => ?_)
 ·replace e9 : k = 9 := e9
  rw [if_pos e9, etx] at hl ⊢
  unfold aAg
  refine Ev.ift ?_
  unfold aPm aGn
  have hbody : (cH ts (fR ks)).length ≤ 100000000000 := by simp at hl; omega
  have fin : ∀ (pre : List Nat) (h : Hp), Sy I A Q ((b1, some (.row .ex [.i .i64 k, .s t, .i .i64 m, s1, s2, s3])) :: L) h → pre.length + (cH ts (fR ks)).length + 2 ≤ 100000000000 →
   Ev (fun n => aLa (aJ n) n (.p b1 0) (.s pre) h) (fun v h' => v = .s (91 :: (pre ++ (cH ts (fR ks) ++ [93]))) ∧ Sy I A Q L h') := by
   intro pre h S hp
   unfold aLa
   refine Ev.ldsL S (List.Mem.head _) rfl (N0.shape.2.1) ?_
   refine Ev.call (aDi S N0 T hbody) ?_
   rintro _ h2 ⟨rfl, S2⟩
   refine Ev.bs S2 (cs := [.s [91], .s pre, .s (cH ts (fR ks)), .s [93]]) (by simp [cO, cJ]) ?_
   intro b2 h3 S3
   refine Ev.call (fP [[91], pre, cH ts (fR ks), [93]] S3 (List.Mem.head _) rfl (by simp [aN]; omega) (by simp)) ?_
   rintro _ _ ⟨rfl, rfl⟩
   refine Ev.ret ⟨?_, S3.dropL.dropL⟩
   simp [aN]
  refine wf ?_; refine wl ?_
  refine Ev.op (a.2.len _) ?_
  unfold aJs aRt
  have hn : (bR ns).length ≤ 100000000000 := by
   by_cases h9 : bR ns = []
   ·rw [h9]; simp
   ·rw [if_neg h9] at hl; simp at hl; omega
  refine aYu a ns 0 0 _ [] rfl S1 (by simpa using hn) ?_
  intro h2 S2
  simp only [List.nil_append]
  unfold dR
  refine Ev.sne (fun h9 => ?_) (fun h9 => ?_)
  ·rw [if_neg h9] at hl ⊢
   refine Ev.ift ?_
   refine Ev.bs S2 (cs := [.s (bR ns), .s [124, 32]]) (by simp [cO, cJ]) ?_
   intro b2 h3 S3
   refine Ev.call (fP [bR ns, [124, 32]] S3 (List.Mem.head _) rfl (by simp [aN] at hl ⊢; omega) (by simp)) ?_
   rintro _ _ ⟨rfl, rfl⟩
   have ej : aN [] [bR ns, [124, 32]] = bR ns ++ [124, 32] := by simp [aN]
   rw [ej]
   exact fin _ _ S3.dropL (by simp at hl ⊢; omega)
  ·rw [if_pos h9] at hl ⊢
   refine Ev.iff ?_
   rw [h9]
   exact fin _ _ S2 (by simp at hl ⊢; omega)
 replace e9 : ¬ k = 9 := e9
 rw [if_neg e9] at hl ⊢
 unfold aAg aM
 refine yj ?_; refine wf ?_; refine wl ?_
 exact Ev.ret ⟨rfl, S1.dropL⟩
end Go.Dd

namespace Go.Dd
open Go.Proofs
mutual
def Sk : Node → Prop
 | .mk k t m ns ts ks => t.length ≤ 1000000000 ∧ -9223372036854775808 ≤ m ∧ m ≤ 9223372036854775807 ∧ ks.length + 1 ≤ bL ∧ SkL ks
def SkL : List Node → Prop
 | [] => True
 | x :: l => Sk x ∧ SkL l
end
mutual
theorem aLh : ∀ x, Sk x → nN x ∧ (∀ y ∈ x.kids, nN y) ∧ x.text.length ≤ 1000000000 ∧ x.kids.length + 1 ≤ bL
 | .mk k t m ns ts ks, h => by
  unfold Sk at h
  obtain ⟨h1, h2, h3, h4, h5⟩ := h
  have T := aBy ks h5
  exact ⟨bFt (fun y hy => (T y hy).1) (fun z hz => (T z hz).2) h1 h2 h3, fun y hy => (T y hy).1, h1, h4⟩
theorem aBy : ∀ l, SkL l → ∀ y ∈ l, nN y ∧ (∀ z ∈ y.kids, nN z) ∧ y.text.length ≤ 1000000000 ∧ y.kids.length + 1 ≤ bL
 | [], _ => fun y hy => by cases hy
 | x :: l, h => by
  unfold SkL at h
  have p := aLh x h.1
  have q := aBy l h.2
  intro y hy
  rcases List.mem_cons.1 hy with e | hy
  ·rw [e]; exact p
  ·exact q y hy
end
end Go.Dd

namespace Go.Dd
open Go.Proofs
section
variable {I : Im} {A Q L : Ls}
theorem bLw {h : Hp} {s1 s2 : DV} {l1 l2 : List (List Nat)} (S : Sy I A Q L h) (N1 : SS I s1 l1) (N2 : SS I s2 l2) : ∀ (r1 r2 : List (List Nat)) (i j : Nat), l1.drop i = r1 → l2.drop i = r2 → r1.length = r2.length → i ≤ l1.length →
 Ev (fun n => mO (aJ n) n (n - j) s1 s2 (.i .i64 (l1.length : Int)) (.i .i64 (i : Int)) h) (fun v h' => v = .b (decide (r1 = r2)) ∧ h' = h) := by
 intro r1
 induction r1 with
 | nil =>
  intro r2 i j e1 e2 hl hi
  refine Ev.loop j (ll := fun n p => mO (aJ n) n p s1 s2 (.i .i64 (l1.length : Int)) (.i .i64 (i : Int)) h) (bb := fun n p => sV (aJ n) n (mO (aJ n) n p) s1 s2 (.i .i64 (l1.length : Int)) (.i .i64 (i : Int)) h) (fun _ _ => rfl) ?_
  have h2 : r2 = [] := by cases r2 with
   | nil => rfl
   | cons => simp at hl
  subst h2
  have hl2 : i = l1.length := by
   have := congrArg List.length e1
   simp at this
   omega
  unfold sV
  refine Ev.ilt (fun k => ?_) (fun k => ?_)
  ·omega
  ·refine yj ?_
   unfold gO
   exact Ev.ret ⟨by simp, rfl⟩
 | cons x r1 ih =>
  intro r2 i j e1 e2 hl hi
  refine Ev.loop j (ll := fun n p => mO (aJ n) n p s1 s2 (.i .i64 (l1.length : Int)) (.i .i64 (i : Int)) h) (bb := fun n p => sV (aJ n) n (mO (aJ n) n p) s1 s2 (.i .i64 (l1.length : Int)) (.i .i64 (i : Int)) h) (fun _ _ => rfl) ?_
  obtain ⟨y, r2, rfl⟩ : ∃ y r, r2 = y :: r := by cases r2 with
   | nil => simp at hl
   | cons y r => exact ⟨y, r, rfl⟩
  have hx : l1[i]? = some x := by
   have := congrArg (fun l => l[0]?) e1
   simpa using this
  have hy : l2[i]? = some y := by
   have := congrArg (fun l => l[0]?) e2
   simpa using this
  have hlt := (List.getElem?_eq_some_iff.1 hx).1
  have e1' : l1.drop (i + 1) = r1 := by
   have := congrArg (List.drop 1) e1
   simpa [List.drop_drop] using this
  have e2' : l2.drop (i + 1) = r2 := by
   have := congrArg (List.drop 1) e2
   simpa [List.drop_drop] using this
  obtain ⟨b1, o1, p1, q1⟩ := N1.at S hx
  obtain ⟨b2, o2, p2, q2⟩ := N2.at S hy
  have hb := N1.1
  unfold sV
  refine Ev.ilt (fun k => ?_) (fun k => ?_)
  ·refine yt ?_
   refine Ev.op (p1 _) (Ev.op q1 (Ev.op (p2 _) (Ev.op q2 ?_)))
   refine Ev.sne (fun k2 => ?_) (fun k2 => ?_)
   ·refine yt ?_
    exact Ev.ret ⟨by simp [k2], rfl⟩
   ·refine yj ?_
    refine Ev.iadd ?_
    rw [fX (by omega)]
    refine (ih r2 (i + 1) (j + 1) e1' e2' (by simpa using hl) (by omega)).mono ?_
    rintro v h' ⟨rfl, rfl⟩
    exact ⟨by simp [k2], rfl⟩
  ·omega
theorem bOl (n : Nat) (x y : DV) (h : Hp) : aJ (n + 1) 63 [x, y] h = s63 (aJ n) n x y h := by kernel_rfl
theorem bUh {h : Hp} {s1 s2 : DV} {l1 l2 : List (List Nat)} (S : Sy I A Q L h) (N1 : SS I s1 l1) (N2 : SS I s2 l2) :
 Ev (fun n => aJ n 63 [s1, s2] h) (fun v h' => v = .b (decide (l1 = l2)) ∧ h' = h) := by
 refine Ev.enter (fun n => bOl n _ _ h) ?_
 unfold s63 aZv
 refine Ev.op (N1.2.len _) (Ev.op (N2.2.len _) (Ev.ine (fun e => ?_) (fun e => ?_)))
 ·refine yt ?_
  refine Ev.ret ⟨?_, rfl⟩
  have : l1 ≠ l2 := fun h => e (by rw [h])
  simp [this]
 ·refine yj ?_
  unfold bBs
  refine Ev.op (N1.2.len _) ?_
  unfold aXc bKu
  exact bLw S N1 N2 l1 l2 0 0 (by simp) (by simp) (by omega) (by omega)
end
end Go.Dd

namespace Go.Dd
open Go.Proofs
theorem bRl (n : Nat) (x y z : DV) (h : Hp) : aJ (n + 1) 64 [x, y, z] h = s64 (aJ n) n x y z h := by kernel_rfl
theorem bRc (n : Nat) (x y : DV) (h : Hp) : aJ (n + 1) 37 [x, y] h = s37 (aJ n) n x y h := by kernel_rfl
theorem cLg (rec : FuncId → List DV → Hp → aH) (x y : DV) (h : Hp) : dS CF rec (.f 37 [] []) [x, y] h = rec 37 [x, y] h := by kernel_rfl
theorem cSl (k k' m m' : Int) (t t' : List Nat) (ns ns' ts ts' : List (List Nat)) (ks ks' : List Node) :
 nEq (.mk k t m ns ts ks) (.mk k' t' m' ns' ts' ks') = (decide (k = k') && decide (t = t') && decide (m = m') && decide (ns = ns') && decide (ts = ts') && pU ks ks') := by
 show (decide (ns = ns') && decide (ts = ts') && decide (k = k') && decide (t = t') && decide (m = m') && pU ks ks') = _
 generalize decide (ns = ns') = a
 generalize decide (ts = ts') = b
 generalize decide (k = k') = c
 generalize decide (t = t') = d
 generalize decide (m = m') = e
 cases a <;> cases b <;> cases c <;> cases d <;> cases e <;> rfl
theorem cTj {ks ks' : List Node} {I : Im} {A Q L : Ls} {h : Hp} {s s' : DV} (N : NS I s ks) (N' : NS I s' ks') (S : Sy I A Q L h)
 (lp : ks.length = ks'.length → Ev (fun n => kV (aJ n) n (n - 0) s' (.f 37 [] []) s (.i .i64 (ks.length : Int)) (.i .i64 ((0 : Nat) : Int)) h) (fun v h' => v = .b (pU ks ks') ∧ Sy I A Q L h')) :
 Ev (fun n => aJ n 64 [s, s', .f 37 [] []] h) (fun v h' => v = .b (pU ks ks') ∧ Sy I A Q L h') := by
 refine Ev.enter (fun n => bRl n _ _ _ h) ?_
 unfold s64 aVt
 refine Ev.op (N.len _) (Ev.op (N'.len _) (Ev.ine (fun e => ?_) (fun e => ?_)))
 ·refine yt ?_
  refine Ev.ret ⟨?_, S⟩
  rw [yJ ks ks' (by omega)]
 ·refine yj ?_
  unfold bCi
  refine Ev.op (N.len _) ?_
  unfold aTh bSl
  exact lp (by omega)
mutual
theorem aOo : ∀ (x y : Node) (I : Im) (A Q L : Ls) (h : Hp) (cs cs' : List DV), Sy I A Q L h → NV I x cs → NV I y cs' → Ev (fun n => aJ n 37 [.a cs, .a cs'] h) (fun v h' => v = .b (nEq x y) ∧ Sy I A Q L h')
 | .mk k t m ns ts ks, .mk k' t' m' ns' ts' ks', I, A, Q, L, h, cs, cs', S, ⟨s1, s2, s3, e, a1, a2, a3, cells, F, NL⟩, ⟨s1', s2', s3', e', a1', a2', a3', cells', F', NL'⟩ => by
  subst e
  subst e'
  have o1 := a1.2.one
  have o2 := a2.2.one
  have o3 := F.one
  have o1' := a1'.2.one
  have o2' := a2'.2.one
  have o3' := F'.one
  refine Ev.enter (fun n => bRc n _ _ h) ?_
  unfold s37
  refine Ev.box S rfl (fun b h1 S1 => ?_)
  refine Ev.box S1 rfl (fun b' h2 S2 => ?_)
  rw [cSl]
  refine wf ?_; refine wl ?_; refine wf ?_; refine wl ?_
  refine Ev.ieq (fun e1 => ?_) (fun e1 => ?_)
  ·refine zt ?_; refine wf ?_; refine zt ?_; refine wl ?_; refine zt ?_; refine wf ?_; refine zt ?_; refine wl ?_; refine zt ?_
   refine Ev.seq (fun e2 => ?_) (fun e2 => ?_)
   ·refine ap ?_; refine zt ?_; refine wf ?_; refine zt ?_; refine wl ?_; refine zt ?_; refine wf ?_; refine zt ?_; refine wl ?_; refine zt ?_
    refine Ev.ieq (fun e3 => ?_) (fun e3 => ?_)
    ·refine ap ?_; refine zt ?_; refine wf ?_; refine zt ?_; refine wl ?_; refine zt ?_; refine wf ?_; refine zt ?_; refine wl ?_; refine zt ?_
     refine Ev.call (bUh S2 a1 a1') ?_
     rintro _ _ ⟨rfl, rfl⟩
     by_cases e4 : ns = ns'
     ·rw [decide_eq_true e4]
      refine ap ?_; refine zt ?_; refine wf ?_; refine zt ?_; refine wl ?_; refine zt ?_; refine wf ?_; refine zt ?_; refine wl ?_; refine zt ?_
      refine Ev.call (bUh S2 a2 a2') ?_
      rintro _ _ ⟨rfl, rfl⟩
      by_cases e5 : ts = ts'
      ·rw [decide_eq_true e5]
       refine ap ?_; refine zt ?_; refine wf ?_; refine zt ?_; refine wl ?_; refine zt ?_; refine wf ?_; refine zt ?_; refine wl ?_; refine zt ?_
       refine Ev.call (cTj ⟨a3, cells, F, NL⟩ ⟨a3', cells', F', NL'⟩ S2 (fun hl => aOl ks ks' I A Q _ _ s3 s3' ks ks' 0 0 ⟨a3, cells, F, NL⟩ ⟨a3', cells', F', NL'⟩ (by simp) (by simp) hl (by omega) S2)) ?_
       rintro _ h9 ⟨rfl, S9⟩
       simp only [e1, e2, e3, decide_true, Bool.true_and]
       generalize pU ks ks' = c
       cases c with
       | true =>
        refine ap ?_
        exact Ev.ret ⟨rfl, dp⟩
       | false =>
        refine ap ?_
        exact Ev.ret ⟨rfl, dp⟩
      ·rw [decide_eq_false e5]
       refine ap ?_; refine yf ?_; refine yf ?_; refine yf ?_; refine yf ?_; refine yf ?_; refine aq ?_
       exact Ev.ret ⟨by simp, dp⟩
     ·rw [decide_eq_false e4]
      refine ap ?_; refine yf ?_; refine yf ?_; refine yf ?_; refine yf ?_; refine yf ?_; refine aq ?_; refine yf ?_; refine yf ?_; refine yf ?_; refine yf ?_; refine yf ?_; refine aq ?_
      exact Ev.ret ⟨by simp, dp⟩
    ·refine ap ?_; refine yf ?_; refine yf ?_; refine yf ?_; refine yf ?_; refine yf ?_; refine aq ?_; refine yf ?_; refine yf ?_; refine yf ?_; refine yf ?_; refine yf ?_; refine aq ?_; refine yf ?_; refine yf ?_; refine yf ?_; refine yf ?_; refine yf ?_; refine aq ?_
     exact Ev.ret ⟨by simp [e3], dp⟩
   ·refine ap ?_; refine yf ?_; refine yf ?_; refine yf ?_; refine yf ?_; refine yf ?_; refine aq ?_; refine yf ?_; refine yf ?_; refine yf ?_; refine yf ?_; refine yf ?_; refine aq ?_; refine yf ?_; refine yf ?_; refine yf ?_; refine yf ?_; refine yf ?_; refine aq ?_; refine yf ?_; refine yf ?_; refine yf ?_; refine yf ?_; refine yf ?_; refine aq ?_
    exact Ev.ret ⟨by simp [e2], dp⟩
  ·refine yf ?_; refine yf ?_; refine yf ?_; refine yf ?_; refine yf ?_; refine aq ?_; refine yf ?_; refine yf ?_; refine yf ?_; refine yf ?_; refine yf ?_; refine aq ?_; refine yf ?_; refine yf ?_; refine yf ?_; refine yf ?_; refine yf ?_; refine aq ?_; refine yf ?_; refine yf ?_; refine yf ?_; refine yf ?_; refine yf ?_; refine aq ?_; refine yf ?_; refine yf ?_; refine yf ?_; refine yf ?_; refine yf ?_; refine aq ?_
   exact Ev.ret ⟨by simp [e1], dp⟩
theorem aOl : ∀ (r r' : List Node) (I : Im) (A Q L : Ls) (h : Hp) (s s' : DV) (ks ks' : List Node) (i j : Nat), NS I s ks → NS I s' ks' → ks.drop i = r → ks'.drop i = r' → r.length = r'.length → i ≤ ks.length → Sy I A Q L h →
 Ev (fun n => kV (aJ n) n (n - j) s' (.f 37 [] []) s (.i .i64 (ks.length : Int)) (.i .i64 (i : Int)) h) (fun v h' => v = .b (pU r r') ∧ Sy I A Q L h')
 | [], r', I, A, Q, L, h, s, s', ks, ks', i, j, N, N', hr, hr', hl, hi, S => by
  have h2 : r' = [] := by cases r' with
   | nil => rfl
   | cons => simp at hl
  subst h2
  refine Ev.loop j (ll := fun n p => kV (aJ n) n p s' (.f 37 [] []) s (.i .i64 (ks.length : Int)) (.i .i64 (i : Int)) h) (bb := fun n p => uF (aJ n) n (kV (aJ n) n p) s' (.f 37 [] []) s (.i .i64 (ks.length : Int)) (.i .i64 (i : Int)) h) (fun _ _ => rfl) ?_
  have hl2 : i = ks.length := by
   have := congrArg List.length hr
   simp at this
   omega
  unfold uF
  refine Ev.ilt (fun e1 => ?_) (fun e1 => ?_)
  ·omega
  ·refine yj ?_
   unfold gR
   exact Ev.ret ⟨rfl, S⟩
 | x :: r, r', I, A, Q, L, h, s, s', ks, ks', i, j, N, N', hr, hr', hl, hi, S => by
  obtain ⟨y, r', rfl⟩ : ∃ y q, r' = y :: q := by cases r' with
   | nil => simp at hl
   | cons y q => exact ⟨y, q, rfl⟩
  refine Ev.loop j (ll := fun n p => kV (aJ n) n p s' (.f 37 [] []) s (.i .i64 (ks.length : Int)) (.i .i64 (i : Int)) h) (bb := fun n p => uF (aJ n) n (kV (aJ n) n p) s' (.f 37 [] []) s (.i .i64 (ks.length : Int)) (.i .i64 (i : Int)) h) (fun _ _ => rfl) ?_
  have hx : ks[i]? = some x := by
   have := congrArg (fun l => l[0]?) hr
   simpa using this
  have hy : ks'[i]? = some y := by
   have := congrArg (fun l => l[0]?) hr'
   simpa using this
  have hlt := (List.getElem?_eq_some_iff.1 hx).1
  have e1' : ks.drop (i + 1) = r := by
   have := congrArg (List.drop 1) hr
   simpa [List.drop_drop] using this
  have e2' : ks'.drop (i + 1) = r' := by
   have := congrArg (List.drop 1) hr'
   simpa [List.drop_drop] using this
  have hb := N.1
  unfold uF
  refine Ev.ilt (fun e1 => ?_) (fun e1 => ?_)
  ·refine yt ?_
   obtain ⟨p1, q1, d1, u1, u2, u3⟩ := N.at hx
   obtain ⟨p2, q2, d2, v1, v2, v3⟩ := N'.at hy
   obtain ⟨l1, k1, m1⟩ := u2.shape
   obtain ⟨l2, k2, m2⟩ := v2.shape
   refine Ev.op (u1 _) (Ev.op (u3 _ _ _ _ _ (ILe.refl _) S) ?_)
   refine wa fun _ _ _ => ?_; refine wt fun _ _ => ?_
   refine Ev.op (v1 _) (Ev.op (v3 _ _ _ _ _ (ILe.refl _) (by assumption)) ?_)
   refine wa fun _ _ _ => ?_; refine wt fun _ _ => ?_; refine ws ?_; refine ws ?_
   simp only [cLg]
   refine Ev.call (aOo x y I A Q _ _ d1 d2 (by assumption) u2 v2) ?_
   rintro _ h1 ⟨rfl, S1⟩
   simp only [pU]
   cases e : nEq x y with
   | false =>
    refine ao ?_; refine yt ?_
    exact Ev.ret ⟨by simp, dp⟩
   | true =>
    refine an ?_; refine yj ?_
    refine Ev.iadd ?_
    rw [fX (by omega)]
    refine (aOl r r' I A Q L h1 s s' ks ks' (i + 1) (j + 1) N N' e1' e2' (by simpa using hl) (by omega) (dp)).mono ?_
    rintro v h' ⟨rfl, S2⟩
    exact ⟨by simp, S2⟩
  ·omega
end
end Go.Dd

namespace Go.Dd
open Go.Proofs
def qI : Nat := 9223372036854775807
theorem aIj {i : Nat} (h : i < 9223372036854775807) : IntKind.i64.wrap ((i : Int) + Int.ofNat 1) = ((i + 1 : Nat) : Int) := by
 have e : Int.ofNat 1 = 1 := rfl
 rw [dG _ (by omega) (by omega)]
 omega
mutual
def NW (I : Im) : Node → List DV → Prop
 | .mk k t m ns ts ks, cs => ∃ s1 s2 s3, cs = [.i .i64 k, .s t, .i .i64 m, s1, s2, s3] ∧ (ns.length ≤ qI ∧ Fz I 1 s1 ns.length (ns.map .s)) ∧ (ts.length ≤ qI ∧ Fz I 1 s2 ts.length (ts.map .s)) ∧ ks.length ≤ qI ∧ ∃ cells, Fz I 6 s3 ks.length cells ∧ NWL I ks cells
def NWL (I : Im) : List Node → List DV → Prop
 | [], cells => cells = []
 | x :: l, cells => ∃ c rest, cells = c ++ rest ∧ NW I x c ∧ NWL I l rest
end
theorem NW.shape {I : Im} {x : Node} {cs : List DV} (H : NW I x cs) : cs.length = 6 ∧ (∀ v ∈ cs, v.one = true) ∧ DV.beq (.a cs) (.a cs) = true := by
 cases x with
 | mk k t m ns ts ks =>
  obtain ⟨s1, s2, s3, rfl, a, b, c, cells, f, n⟩ := H
  have o1 := a.2.one
  have o2 := b.2.one
  have o3 := f.one
  refine ⟨rfl, ?_, ?_⟩
  ·intro v hv
   simp only [List.mem_cons, List.not_mem_nil, or_false] at hv
   rcases hv with rfl | rfl | rfl | rfl | rfl | rfl
   ·rfl
   ·rfl
   ·rfl
   ·exact o1
   ·exact o2
   ·exact o3
  ·have e : vZ t t = true := by rw [jX]
   simp [DV.beq, DV.beqs, e, a.2.beq, b.2.beq, f.beq]
mutual
theorem NW.mono {I J : Im} (g : ILe I J) : ∀ {x : Node} {cs : List DV}, NW I x cs → NW J x cs
 | .mk k t m ns ts ks, cs, ⟨s1, s2, s3, e, a, b, c, cells, f, n⟩ => ⟨s1, s2, s3, e, ⟨a.1, a.2.mono g⟩, ⟨b.1, b.2.mono g⟩, c, cells, f.mono g, NWL.mono g n⟩
theorem NWL.mono {I J : Im} (g : ILe I J) : ∀ {l : List Node} {cells : List DV}, NWL I l cells → NWL J l cells
 | [], _, e => e
 | x :: l, _, ⟨c, rest, e, a, b⟩ => ⟨c, rest, e, NW.mono g a, NWL.mono g b⟩
end
theorem NWL.at {I : Im} : ∀ {ks : List Node} {cells : List DV} {i : Nat} {x : Node}, NWL I ks cells → ks[i]? = some x → ∃ c rest, cells.drop (i * 6) = c ++ rest ∧ NW I x c
 | [], _, i, x, _, h => by simp at h
 | y :: l, _, 0, x, ⟨c, rest, e, a, b⟩, h => by
  simp at h
  subst h
  exact ⟨c, rest, by simpa using e, a⟩
 | y :: l, _, i + 1, x, ⟨c, rest, e, a, b⟩, h => by
  simp at h
  obtain ⟨d, r, e2, f⟩ := NWL.at b h
  refine ⟨d, r, ?_, f⟩
  subst e
  rw [show (i + 1) * 6 = c.length + i * 6 by rw [a.shape.1]; omega, ← List.drop_drop, List.drop_left]
  exact e2
theorem NWS.at {I : Im} {s : DV} {ks : List Node} {cells : List DV} (F : Fz I 6 s ks.length cells) (N : NWL I ks cells) {i : Nat} {x : Node} (hi : ks[i]? = some x) :
 ∃ b o c, (∀ h', aP 6 s (.i .i64 (i : Int)) h' = some (.p b o, h')) ∧ NW I x c ∧ ∀ (A Q L : Ls) (h : Hp), Sy I A Q L h → aE 6 (.p b o) h = some (.a c, h) := by
 obtain ⟨hlt, _⟩ := List.getElem?_eq_some_iff.1 hi
 obtain ⟨d, rest, e, Nd⟩ := N.at hi
 rcases F with ⟨_, h2, _⟩ | ⟨b, o, cap, k, row, rest2, rfl, h2, h3, h4, h5, h6⟩
 ·omega
 ·refine ⟨b, o + i * 6, d, fun h' => ?_, Nd, fun A Q L h S => ldA (S.im _ _ h3) ?_⟩
  ·show (if 0 ≤ (i : Int) ∧ (i : Int) < (ks.length : Int) then some (DV.p b (o + (i : Int).toNat * 6), h') else none) = _
   rw [if_pos ⟨by omega, by omega⟩]
   rfl
  ·have hle : i * 6 ≤ cells.length := by rw [h5]; exact Nat.mul_le_mul_right _ (by omega)
   rw [← List.drop_drop, h4, List.drop_append_of_le_length hle, e, List.append_assoc]
   obtain ⟨s1, s2, _⟩ := Nd.shape
   exact gC d _ 6 s1 s2
mutual
def sz : Node → Nat
 | .mk _ _ _ _ _ ks => 1 + sS ks
def sS : List Node → Nat
 | [] => 0
 | x :: l => sz x + sS l
end
theorem aHp (x : Node) : 1 ≤ sz x := by
 cases x
 simp [sz]
def iJ (l : List (List Nat)) : Bool := l.all fun x => decide (x.length ≤ 40)
mutual
def fQ : Node → Bool
 | .mk k t m ns ts ks => decide (sz (.mk k t m ns ts ks) ≤ 100) && (decide (t.length ≤ 40) && (decide (ns.length ≤ 10) && (decide (ts.length ≤ 10) && (iJ ns && (iJ ts && jE ks)))))
def jE : List Node → Bool
 | [] => true
 | x :: l => fQ x && jE l
end
theorem bSo (n : Nat) (x y : DV) (h : Hp) : aJ (n + 1) 18 [x, y] h = s18 (aJ n) n x y h := by kernel_rfl
theorem cJh (n : Nat) (x : DV) (h : Hp) : aJ (n + 1) 9 [x] h = s9 (aJ n) n x h := by kernel_rfl
def tR (n m : Int) : Int := if n ≤ m then n else -1
mutual
theorem bHi : ∀ (x : Node) (I : Im) (A Q L : Ls) (h : Hp) (cs : List DV) (m : Int), 1 ≤ m → m ≤ 100 → Sy I A Q L h → NW I x cs → Ev (fun n => aJ n 18 [.a cs, .i .i64 m] h) (fun v h' => v = .i .i64 (tR (sz x) m) ∧ Sy I A Q L h')
 | .mk k t mm ns ts ks, I, A, Q, L, h, cs, m, m1, m2, S, ⟨s1, s2, s3, e, a1, a2, a3, cells, F, NL⟩ => by
  subst e
  refine Ev.enter (fun n => bSo n _ _ h) ?_
  unfold s18
  refine Ev.box S rfl (fun b h1 S1 => ?_)
  unfold aUd aTl aTw bVx
  have := aLb ks I A Q L h1 b _ s3 cells ks m 1 0 0 m1 m2 (by omega) (by omega) F NL a3 (by simp) (by omega) S1 rfl
  simpa [sz] using this
theorem aLb : ∀ (r : List Node) (I : Im) (A Q L : Ls) (h : Hp) (b : Pos) (c : List DV) (s3 : DV) (cells : List DV) (ks : List Node) (m q : Int) (i j : Nat), 1 ≤ m → m ≤ 100 → 1 ≤ q → q ≤ m → Fz I 6 s3 ks.length cells → NWL I ks cells → ks.length ≤ qI → ks.drop i = r → i ≤ ks.length →
 Sy I A Q ((b, some (.row .ex c)) :: L) h → c[5]? = some s3 →
 Ev (fun n => mS (aJ n) n (n - j) (.i .i64 m) (.p b 0) (.i .i64 q) (.i .i64 (i : Int)) h) (fun v h' => v = .i .i64 (tR (q + sS r) m) ∧ Sy I A Q L h')
 | [], I, A, Q, L, h, b, c, s3, cells, ks, m, q, i, j, m1, m2, q1, q2, F, NL, a3, hr, hi, S, g => by
  refine Ev.loop j (ll := fun n p => mS (aJ n) n p (.i .i64 m) (.p b 0) (.i .i64 q) (.i .i64 (i : Int)) h) (bb := fun n p => tS (aJ n) n (mS (aJ n) n p) (.i .i64 m) (.p b 0) (.i .i64 q) (.i .i64 (i : Int)) h) (fun _ _ => rfl) ?_
  have hl2 : i = ks.length := by
   have := congrArg List.length hr
   simp at this
   omega
  unfold tS
  refine Ev.fld (Ev.ldL S (List.Mem.head _) (by simpa using g) F.one ?_)
  refine Ev.op (F.len _) (Ev.ilt (fun e1 => ?_) (fun e1 => ?_))
  ·omega
  ·refine yj ?_
   unfold gV
   refine Ev.igt (fun e2 => by omega) (fun e2 => ?_)
   refine yj ?_
   exact Ev.ret ⟨by simp [tR, sS, q2], S.dropL⟩
 | x :: r, I, A, Q, L, h, b, c, s3, cells, ks, m, q, i, j, m1, m2, q1, q2, F, NL, a3, hr, hi, S, g => by
  refine Ev.loop j (ll := fun n p => mS (aJ n) n p (.i .i64 m) (.p b 0) (.i .i64 q) (.i .i64 (i : Int)) h) (bb := fun n p => tS (aJ n) n (mS (aJ n) n p) (.i .i64 m) (.p b 0) (.i .i64 q) (.i .i64 (i : Int)) h) (fun _ _ => rfl) ?_
  have hx : ks[i]? = some x := by
   have := congrArg (fun l => l[0]?) hr
   simpa using this
  have hlt := (List.getElem?_eq_some_iff.1 hx).1
  have e1' : ks.drop (i + 1) = r := by
   have := congrArg (List.drop 1) hr
   simpa [List.drop_drop] using this
  have hw : qI = 9223372036854775807 := rfl
  have hp := aHp x
  unfold tS
  refine Ev.fld (Ev.ldL S (List.Mem.head _) (by simpa using g) F.one ?_)
  refine Ev.op (F.len _) (Ev.ilt (fun e1 => ?_) (fun e1 => ?_))
  ·refine yt ?_
   refine Ev.ige (fun e2 => ?_) (fun e2 => ?_)
   ·refine yt ?_
    refine Ev.ret ⟨?_, S.dropL⟩
    have : ¬ (q + (sS (x :: r) : Nat) ≤ m) := by simp only [sS]; omega
    unfold tR
    rw [if_neg this]
    rfl
   ·refine yj ?_
    refine Ev.fld (Ev.ldL S (List.Mem.head _) (by simpa using g) F.one ?_)
    obtain ⟨p1, q1', d1, u1, u2, u3⟩ := NWS.at F NL hx
    refine Ev.op (u1 _) (Ev.op (u3 _ _ _ _ S) ?_)
    refine Ev.isub ?_
    have ew : IntKind.i64.wrap (m - q) = m - q := dG _ (by omega) (by omega)
    rw [ew]
    refine Ev.call (bHi x I A Q _ h d1 (m - q) (by omega) (by omega) S u2) ?_
    rintro _ h1 ⟨rfl, S1⟩
    by_cases hz : (sz x : Int) ≤ m - q
    ·have e9 : tR (sz x) (m - q) = sz x := by unfold tR; rw [if_pos hz]
     rw [e9]
     refine Ev.ilt (fun e3 => ?_) (fun e3 => ?_)
     ·exact absurd e3 (by simp)
     ·refine yj ?_
      refine Ev.iadd ?_
      refine Ev.iadd ?_
      rw [aIj (by omega)]
      have ew2 : IntKind.i64.wrap (q + (sz x : Int)) = q + sz x := dG _ (by omega) (by omega)
      rw [ew2]
      refine (aLb r I A Q L h1 b c s3 cells ks m (q + sz x) (i + 1) (j + 1) m1 m2 (by omega) (by omega) F NL a3 e1' (by omega) S1 g).mono ?_
      rintro v h' ⟨rfl, S2⟩
      refine ⟨?_, S2⟩
      simp only [sS]
      rw [show q + ((sz x + sS r : Nat) : Int) = q + (sz x : Int) + (sS r : Int) by omega]
    ·have e9 : tR (sz x) (m - q) = -1 := by unfold tR; rw [if_neg hz]
     rw [e9]
     refine Ev.ilt (fun e3 => ?_) (fun e3 => ?_)
     ·refine yt ?_
      refine Ev.ret ⟨?_, S1.dropL⟩
      have : ¬ (q + (sS (x :: r) : Nat) ≤ m) := by simp only [sS]; omega
      unfold tR
      rw [if_neg this]
      rfl
     ·exact absurd (show (-1 : Int) < Int.ofNat 0 by decide) e3
  ·omega
end
theorem Fz.strAt {I : Im} {s : DV} {l : List (List Nat)} (F : Fz I 1 s l.length (l.map .s)) {A Q L : Ls} {h : Hp} (S : Sy I A Q L h) {i : Nat} {x : List Nat} (hi : l[i]? = some x) :
 ∃ b o, (∀ h', aP 1 s (.i .i64 (i : Int)) h' = some (.p b o, h')) ∧ aD (.p b o) h = some (.s x, h) := by
 obtain ⟨hlt, hg⟩ := List.getElem?_eq_some_iff.1 hi
 obtain ⟨b, o, e, k, row, g, rest, d⟩ := F.at S hlt
 refine ⟨b, o, e, ld1 g ?_ rfl⟩
 have e2 : row[o]? = (row.drop o)[0]? := by simp
 rw [e2, d, Nat.mul_one, List.drop_eq_getElem_cons (by simpa using hlt)]
 simp [hg]
section
variable {I : Im} {A Q L : Ls}
theorem uY {P : DV → Hp → Prop} {h : Hp} {b : Pos} {c : List DV} {s : DV} {l : List (List Nat)} (hw : l.length ≤ qI) (F : Fz I 1 s l.length (l.map .s)) (S : Sy I A Q ((b, some (.row .ex c)) :: L) h) (g : c[3]? = some s) : ∀ (r : List (List Nat)) (i j : Nat), l.drop i = r → i ≤ l.length →
 (iJ r = true → Ev (fun n => lA (aJ n) n (.p b 0) h) P) → (iJ r = false → P (.b false) h) →
 Ev (fun n => mR (aJ n) n (n - j) (.p b 0) (.i .i64 (i : Int)) h) P
 | [], i, j, hr, hi, k1, k2 => by
  refine Ev.loop j (ll := fun n p => mR (aJ n) n p (.p b 0) (.i .i64 (i : Int)) h) (bb := fun n p => uD (aJ n) n (mR (aJ n) n p) (.p b 0) (.i .i64 (i : Int)) h) (fun _ _ => rfl) ?_
  have hl2 : i = l.length := by
   have := congrArg List.length hr
   simp at this
   omega
  unfold uD
  refine Ev.fld (Ev.ldL S (List.Mem.head _) (by simpa using g) F.one ?_)
  refine Ev.op (F.len _) (Ev.ilt (fun e1 => ?_) (fun e1 => ?_))
  ·omega
  ·refine yj ?_
   exact k1 rfl
 | x :: r, i, j, hr, hi, k1, k2 => by
  refine Ev.loop j (ll := fun n p => mR (aJ n) n p (.p b 0) (.i .i64 (i : Int)) h) (bb := fun n p => uD (aJ n) n (mR (aJ n) n p) (.p b 0) (.i .i64 (i : Int)) h) (fun _ _ => rfl) ?_
  have hx : l[i]? = some x := by
   have := congrArg (fun l => l[0]?) hr
   simpa using this
  have hlt := (List.getElem?_eq_some_iff.1 hx).1
  have e1' : l.drop (i + 1) = r := by
   have := congrArg (List.drop 1) hr
   simpa [List.drop_drop] using this
  have hw' : qI = 9223372036854775807 := rfl
  unfold uD
  refine Ev.fld (Ev.ldL S (List.Mem.head _) (by simpa using g) F.one ?_)
  refine Ev.op (F.len _) (Ev.ilt (fun e1 => ?_) (fun e1 => ?_))
  ·refine yt ?_
   refine Ev.fld (Ev.ldL S (List.Mem.head _) (by simpa using g) F.one ?_)
   obtain ⟨b1, o1, p1, q1⟩ := Fz.strAt F S hx
   refine Ev.op (p1 _) (Ev.op q1 ?_)
   refine Ev.lenS ?_
   refine Ev.igt (fun e2 => ?_) (fun e2 => ?_)
   ·refine yt ?_
    refine Ev.ret (k2 ?_)
    have : ¬ x.length ≤ 40 := by
     intro h9
     exact absurd e2 (by show ¬ (Int.ofNat 40 < (x.length : Int)); have : Int.ofNat 40 = 40 := rfl; omega)
    simp [iJ, this]
   ·refine yj ?_
    have hx40 : x.length ≤ 40 := by
     rcases Nat.lt_or_ge 40 x.length with h9 | h9
     ·exact absurd (show (40 : Int) < (x.length : Int) by omega) e2
     ·exact h9
    refine Ev.iadd ?_
    rw [aIj (by omega)]
    refine uY hw F S g r (i + 1) (j + 1) e1' (by omega) (fun h9 => k1 ?_) (fun h9 => k2 ?_)
    ·simpa [iJ, hx40] using h9
    ·simpa [iJ, hx40] using h9
  ·omega
theorem vK {P : DV → Hp → Prop} {h : Hp} {b : Pos} {c : List DV} {s : DV} {l : List (List Nat)} (hw : l.length ≤ qI) (F : Fz I 1 s l.length (l.map .s)) (S : Sy I A Q ((b, some (.row .ex c)) :: L) h) (g : c[4]? = some s) : ∀ (r : List (List Nat)) (i j : Nat), l.drop i = r → i ≤ l.length →
 (iJ r = true → Ev (fun n => lE (aJ n) n (.p b 0) h) P) → (iJ r = false → P (.b false) h) →
 Ev (fun n => lZ (aJ n) n (n - j) (.p b 0) (.i .i64 (i : Int)) h) P
 | [], i, j, hr, hi, k1, k2 => by
  refine Ev.loop j (ll := fun n p => lZ (aJ n) n p (.p b 0) (.i .i64 (i : Int)) h) (bb := fun n p => tD (aJ n) n (lZ (aJ n) n p) (.p b 0) (.i .i64 (i : Int)) h) (fun _ _ => rfl) ?_
  have hl2 : i = l.length := by
   have := congrArg List.length hr
   simp at this
   omega
  unfold tD
  refine Ev.fld (Ev.ldL S (List.Mem.head _) (by simpa using g) F.one ?_)
  refine Ev.op (F.len _) (Ev.ilt (fun e1 => ?_) (fun e1 => ?_))
  ·omega
  ·refine yj ?_
   exact k1 rfl
 | x :: r, i, j, hr, hi, k1, k2 => by
  refine Ev.loop j (ll := fun n p => lZ (aJ n) n p (.p b 0) (.i .i64 (i : Int)) h) (bb := fun n p => tD (aJ n) n (lZ (aJ n) n p) (.p b 0) (.i .i64 (i : Int)) h) (fun _ _ => rfl) ?_
  have hx : l[i]? = some x := by
   have := congrArg (fun l => l[0]?) hr
   simpa using this
  have hlt := (List.getElem?_eq_some_iff.1 hx).1
  have e1' : l.drop (i + 1) = r := by
   have := congrArg (List.drop 1) hr
   simpa [List.drop_drop] using this
  have hw' : qI = 9223372036854775807 := rfl
  unfold tD
  refine Ev.fld (Ev.ldL S (List.Mem.head _) (by simpa using g) F.one ?_)
  refine Ev.op (F.len _) (Ev.ilt (fun e1 => ?_) (fun e1 => ?_))
  ·refine yt ?_
   refine Ev.fld (Ev.ldL S (List.Mem.head _) (by simpa using g) F.one ?_)
   obtain ⟨b1, o1, p1, q1⟩ := Fz.strAt F S hx
   refine Ev.op (p1 _) (Ev.op q1 ?_)
   refine Ev.lenS ?_
   refine Ev.igt (fun e2 => ?_) (fun e2 => ?_)
   ·refine yt ?_
    refine Ev.ret (k2 ?_)
    have : ¬ x.length ≤ 40 := by
     intro h9
     exact absurd e2 (by show ¬ (Int.ofNat 40 < (x.length : Int)); have : Int.ofNat 40 = 40 := rfl; omega)
    simp [iJ, this]
   ·refine yj ?_
    have hx40 : x.length ≤ 40 := by
     rcases Nat.lt_or_ge 40 x.length with h9 | h9
     ·exact absurd (show (40 : Int) < (x.length : Int) by omega) e2
     ·exact h9
    refine Ev.iadd ?_
    rw [aIj (by omega)]
    refine vK hw F S g r (i + 1) (j + 1) e1' (by omega) (fun h9 => k1 ?_) (fun h9 => k2 ?_)
    ·simpa [iJ, hx40] using h9
    ·simpa [iJ, hx40] using h9
  ·omega
end
mutual
theorem aOj : ∀ (x : Node) (I : Im) (A Q L : Ls) (h : Hp) (cs : List DV), Sy I A Q L h → NW I x cs → Ev (fun n => aJ n 9 [.a cs] h) (fun v h' => v = .b (fQ x) ∧ Sy I A Q L h')
 | .mk k t mm ns ts ks, I, A, Q, L, h, cs, S, ⟨s1, s2, s3, e, a1, a2, a3, cells, F, NL⟩ => by
  subst e
  have N0 : NW I (.mk k t mm ns ts ks) [.i .i64 k, .s t, .i .i64 mm, s1, s2, s3] := ⟨s1, s2, s3, rfl, a1, a2, a3, cells, F, NL⟩
  have o1 := a1.2.one
  have o2 := a2.2.one
  have o3 := F.one
  refine Ev.enter (fun n => cJh n _ h) ?_
  unfold s9
  refine Ev.box S rfl (fun b h1 S1 => ?_)
  unfold cMj
  refine Ev.ldsL S1 (List.Mem.head _) rfl N0.shape.2.1 ?_
  refine Ev.call (bHi _ I A Q _ h1 _ 100 (by omega) (by omega) S1 N0) ?_
  rintro _ h2 ⟨rfl, S2⟩
  have hsm : fQ (.mk k t mm ns ts ks) = (decide (sz (.mk k t mm ns ts ks) ≤ 100) && (decide (t.length ≤ 40) && (decide (ns.length ≤ 10) && (decide (ts.length ≤ 10) && (iJ ns && (iJ ts && jE ks)))))) := by rw [fQ]
  rw [hsm]
  clear hsm
  generalize sz (.mk k t mm ns ts ks) = z
  by_cases hz : z ≤ 100
  ·have e9 : tR z 100 = z := by unfold tR; rw [if_pos (by omega)]
   rw [e9]
   refine Ev.ilt (fun e3 => absurd e3 (by simp)) (fun e3 => ?_)
   refine yj ?_
   unfold cMd
   refine wf ?_; refine wl ?_
   refine Ev.lenS ?_
   have hfin : decide (t.length ≤ 40) = true → decide (ns.length ≤ 10) = true → decide (ts.length ≤ 10) = true → Ev (fun n => bHo (aJ n) n (.p b 0) h2) (fun v h' => v = .b (iJ ns && (iJ ts && jE ks)) ∧ Sy I A Q L h') := by
    intro q1 q2 q3
    unfold bHo aZg bMs
    refine uY (j := 0) (i := 0) a1.1 a1.2 S2 rfl ns (by simp) (by omega) (fun h9 => ?_) (fun h9 => ⟨by simp [h9], S2.dropL⟩)
    unfold lA cMs bGu
    refine vK (j := 0) (i := 0) a2.1 a2.2 S2 rfl ts (by simp) (by omega) (fun h8 => ?_) (fun h8 => ⟨by simp [h8], S2.dropL⟩)
    unfold lE cDs cXc
    have := xU ks I A Q L h2 b _ s3 cells ks 0 0 F NL a3 (by simp) (by omega) S2 rfl
    simpa [h9, h8] using this
   refine Ev.igt (fun e4 => ?_) (fun e4 => ?_)
   ·have q : ¬ t.length ≤ 40 := by intro h9; exact absurd e4 (by show ¬ (Int.ofNat 40 < (t.length : Int)); have : Int.ofNat 40 = 40 := rfl; omega)
    refine yg ?_; refine yg ?_; refine yg ?_; refine yg ?_; refine ap ?_; refine yg ?_; refine yg ?_; refine yg ?_; refine yg ?_; refine ap ?_; refine yt ?_
    exact Ev.ret ⟨by simp [q], dp⟩
   ·have q : t.length ≤ 40 := by
     rcases Nat.lt_or_ge 40 t.length with h9 | h9
     ·exact absurd (show (40 : Int) < (t.length : Int) by omega) e4
     ·exact h9
    refine zf ?_; refine wf ?_; refine zf ?_; refine wl ?_; refine zf ?_
    refine Ev.op (a1.2.len _) ?_
    refine zf ?_
    refine Ev.igt (fun e5 => ?_) (fun e5 => ?_)
    ·have q5 : ¬ ns.length ≤ 10 := by intro h9; exact absurd e5 (by show ¬ (Int.ofNat 10 < (ns.length : Int)); have : Int.ofNat 10 = 10 := rfl; omega)
     refine aq ?_; refine yg ?_; refine yg ?_; refine yg ?_; refine yg ?_; refine ap ?_; refine yt ?_
     exact Ev.ret ⟨by simp [q5], dp⟩
    ·have q5 : ns.length ≤ 10 := by
      rcases Nat.lt_or_ge 10 ns.length with h9 | h9
      ·exact absurd (show (10 : Int) < (ns.length : Int) by omega) e5
      ·exact h9
     refine aq ?_; refine zf ?_; refine wf ?_; refine zf ?_; refine wl ?_; refine zf ?_
     refine Ev.op (a2.2.len _) ?_
     refine zf ?_
     refine Ev.igt (fun e6 => ?_) (fun e6 => ?_)
     ·have q6 : ¬ ts.length ≤ 10 := by intro h9; exact absurd e6 (by show ¬ (Int.ofNat 10 < (ts.length : Int)); have : Int.ofNat 10 = 10 := rfl; omega)
      refine aq ?_; refine yt ?_
      exact Ev.ret ⟨by simp [q6], dp⟩
     ·have q6 : ts.length ≤ 10 := by
       rcases Nat.lt_or_ge 10 ts.length with h9 | h9
       ·exact absurd (show (10 : Int) < (ts.length : Int) by omega) e6
       ·exact h9
      refine aq ?_; refine yj ?_
      have := hfin (by simp [q]) (by simp [q5]) (by simp [q6])
      simpa [hz, q, q5, q6] using this
  ·have e9 : tR z 100 = -1 := by unfold tR; rw [if_neg (by omega)]
   rw [e9]
   refine Ev.ilt (fun e3 => ?_) (fun e3 => absurd (show (-1 : Int) < Int.ofNat 0 by decide) e3)
   refine yt ?_
   exact Ev.ret ⟨by simp [hz], S2.dropL⟩
theorem xU : ∀ (r : List Node) (I : Im) (A Q L : Ls) (h : Hp) (b : Pos) (c : List DV) (s3 : DV) (cells : List DV) (ks : List Node) (i j : Nat), Fz I 6 s3 ks.length cells → NWL I ks cells → ks.length ≤ qI → ks.drop i = r → i ≤ ks.length →
 Sy I A Q ((b, some (.row .ex c)) :: L) h → c[5]? = some s3 →
 Ev (fun n => sK (aJ n) n (n - j) (.p b 0) (.i .i64 (i : Int)) h) (fun v h' => v = .b (jE r) ∧ Sy I A Q L h')
 | [], I, A, Q, L, h, b, c, s3, cells, ks, i, j, F, NL, a3, hr, hi, S, g => by
  refine Ev.loop j (ll := fun n p => sK (aJ n) n p (.p b 0) (.i .i64 (i : Int)) h) (bb := fun n p => aCz (aJ n) n (sK (aJ n) n p) (.p b 0) (.i .i64 (i : Int)) h) (fun _ _ => rfl) ?_
  have hl2 : i = ks.length := by
   have := congrArg List.length hr
   simp at this
   omega
  unfold aCz
  refine Ev.fld (Ev.ldL S (List.Mem.head _) (by simpa using g) F.one ?_)
  refine Ev.op (F.len _) (Ev.ilt (fun e1 => ?_) (fun e1 => ?_))
  ·omega
  ·refine yj ?_
   unfold lS
   exact Ev.ret ⟨rfl, S.dropL⟩
 | x :: r, I, A, Q, L, h, b, c, s3, cells, ks, i, j, F, NL, a3, hr, hi, S, g => by
  refine Ev.loop j (ll := fun n p => sK (aJ n) n p (.p b 0) (.i .i64 (i : Int)) h) (bb := fun n p => aCz (aJ n) n (sK (aJ n) n p) (.p b 0) (.i .i64 (i : Int)) h) (fun _ _ => rfl) ?_
  have hx : ks[i]? = some x := by
   have := congrArg (fun l => l[0]?) hr
   simpa using this
  have hlt := (List.getElem?_eq_some_iff.1 hx).1
  have e1' : ks.drop (i + 1) = r := by
   have := congrArg (List.drop 1) hr
   simpa [List.drop_drop] using this
  have hw : qI = 9223372036854775807 := rfl
  unfold aCz
  refine Ev.fld (Ev.ldL S (List.Mem.head _) (by simpa using g) F.one ?_)
  refine Ev.op (F.len _) (Ev.ilt (fun e1 => ?_) (fun e1 => ?_))
  ·refine yt ?_
   refine Ev.fld (Ev.ldL S (List.Mem.head _) (by simpa using g) F.one ?_)
   obtain ⟨p1, q1', d1, u1, u2, u3⟩ := NWS.at F NL hx
   refine Ev.op (u1 _) (Ev.op (u3 _ _ _ _ S) ?_)
   refine Ev.call (aOj x I A Q _ h d1 S u2) ?_
   rintro _ h1 ⟨rfl, S1⟩
   simp only [jE]
   cases e : fQ x with
   | false =>
    refine ao ?_; refine yt ?_
    exact Ev.ret ⟨by simp, S1.dropL⟩
   | true =>
    refine an ?_; refine yj ?_
    refine Ev.iadd ?_
    rw [aIj (by omega)]
    refine (xU r I A Q L h1 b c s3 cells ks (i + 1) (j + 1) F NL a3 e1' (by omega) S1 g).mono ?_
    rintro v h' ⟨rfl, S2⟩
    exact ⟨by simp, S2⟩
  ·omega
end
mutual
theorem NW.nv {I : Im} : ∀ {x : Node} {cs : List DV}, NW I x cs → fQ x = true → NV I x cs
 | .mk k t m ns ts ks, cs, ⟨s1, s2, s3, e, a, b, c, cells, f, n⟩, hs => by
  simp only [fQ, Bool.and_eq_true, decide_eq_true_eq] at hs
  obtain ⟨h0, h1, h2, h3, h4, h5, h6⟩ := hs
  have hl : bL = 100000000000 := rfl
  have hk : ks.length ≤ 100 := by
   have : ∀ l : List Node, l.length ≤ sS l := by
    intro l
    induction l with
    | nil => simp [sS]
    | cons x l ih => have := aHp x; simp [sS]; omega
   have := this ks
   simp [sz] at h0
   omega
  exact ⟨s1, s2, s3, e, ⟨by omega, a.2⟩, ⟨by omega, b.2⟩, by omega, cells, f, NWL.nv n h6⟩
theorem NWL.nv {I : Im} : ∀ {l : List Node} {cells : List DV}, NWL I l cells → jE l = true → NVL I l cells
 | [], _, e, _ => e
 | x :: l, _, ⟨c, rest, e, a, b⟩, hs => by
  simp only [jE, Bool.and_eq_true] at hs
  exact ⟨c, rest, e, NW.nv a hs.1, NWL.nv b hs.2⟩
end
end Go.Dd

namespace Go.Dd
open Go.Proofs
theorem aLz {H : PF} {f : Nat} {lx : List Tok × Int × Int} (h : lx.2.2 = 0) : jG H f lx = jG H f (lx.1, 0, 0) := by
 unfold jG
 rw [if_pos h, if_pos rfl]
theorem dHj {u : List Nat} (hu : u.length ≤ 2000) : ∃ lx res, pD 2001 2001 u = some lx ∧ jG sC 2004 lx = some res ∧ (res.2.2 = 0 → lx.2.2 = 0 ∧ lx.1.length ≤ 2001 ∧ Good lx.1 ∧ uP lx.1 ≤ fV res.1 ∧ fV res.1 ≤ iU lx.1) := by
 obtain ⟨lx, hl, hg⟩ := dLc hu
 by_cases e : lx.2.2 = 0
 ·obtain ⟨g1, g2⟩ := hg e
  obtain ⟨x, a, e', h1, h2⟩ := dHt (f := 2004) g1 (by omega) (by omega)
  refine ⟨lx, _, hl, (aLz e).trans h1, fun h => ⟨e, g2, g1, h2 h⟩⟩
 ·refine ⟨lx, (zN, lx.2.1, lx.2.2), hl, ?_, fun h => absurd h e⟩
  unfold jG
  rw [if_neg e]
end Go.Dd

namespace Go.Dd
section
variable {α β : Type} {V : α → α → Prop} {W : β → β → Prop}
end
variable {s s' : PSt}
def bPk (f : Nat) (x : Node) (st : PSt) : Option (Node × PSt) := (kI f st).bind fun b => (iO (lR f) f [] b.2).bind fun c => (gF c.2 0 []).bind fun d => some (x.with b.1 c.1, d.2)
theorem aPn (H : PF) (f : Nat) (l : List Tok) : jG H f (l, 0, 0) = (H ⟨l, 0, 0, 0⟩).bind fun a => (bPk f a.1 a.2).bind fun d => if d.2.err = 0 then some (d.1, 0, 0) else some (zN, d.2.pos, d.2.err) := by
 unfold jG bPk
 rw [if_pos rfl]
 cases H ⟨l, 0, 0, 0⟩ with
 | none => rfl
 | some a =>
  simp only [Option.bind_some]
  cases kI f a.2 with
  | none => rfl
  | some b =>
   simp only [Option.bind_some]
   cases iO (lR f) f [] b.2 with
   | none => rfl
   | some c =>
    simp only [Option.bind_some]
    cases gF c.2 0 [] with
    | none => rfl
    | some d => rfl
end Go.Dd

namespace Go.Dd
end Go.Dd

namespace Go.Dd
inductive Gap : List Nat → Prop
 | nil : Gap []
 | blank (c : Nat) (w : List Nat) : cW bK c = true → Gap w → Gap (c :: w)
 | rem (r w : List Nat) : (∀ c ∈ r, c ≠ 34) → Gap w → Gap (34 :: (r ++ 34 :: w))
theorem Gap.app {a b : List Nat} (h : Gap a) (k : Gap b) : Gap (a ++ b) := by
 induction h with
 | nil => exact k
 | blank c w hc _ ih => exact .blank c _ hc ih
 | rem r w hr _ ih => simpa using Gap.rem r (w ++ b) hr ih
inductive Lx (g : Nat) : List Nat → Nat → List Tok → Prop
 | fin (w : List Nat) (p : Nat) : Gap w → Lx g w p [⟨0, [], 0, ((p + w.length : Nat) : Int)⟩]
 | tok (w u : List Nat) (p k : Nat) (rs : Int × List Nat × Int × Int × Nat) (l : List Tok) : Gap w → kK g u = some rs → rs.2.2.2.1 = 0 → rs.2.2.2.2 = k → 1 ≤ k → k ≤ u.length → rs.1 ≠ 0 →
  Lx g (u.drop k) (p + w.length + k) l → Lx g (w ++ u) p (⟨rs.1, rs.2.1, rs.2.2.1, ((p + w.length : Nat) : Int)⟩ :: l)
theorem Lx.gap {g : Nat} {u : List Nat} {p : Nat} {l : List Tok} {w : List Nat} (h : Lx g u (p + w.length) l) (k : Gap w) : Lx g (w ++ u) p l := by
 generalize hp : p + w.length = q at h
 cases h with
 | fin _ _ g' =>
  have := Lx.fin (g := g) (w ++ u) p (k.app g')
  rw [List.length_append, ← Nat.add_assoc, hp] at this
  exact this
 | tok w' u _ k' rs l g' h1 h2 h3 h4 h5 h6 h7 =>
  have := Lx.tok (g := g) (w ++ w') u p k' rs l (k.app g') h1 h2 h3 h4 h5 h6 (by rw [List.length_append, ← Nat.add_assoc, hp]; exact h7)
  rw [List.length_append, ← Nat.add_assoc, hp, List.append_assoc] at this
  exact this
theorem bMe (r v : List Nat) (c : Nat) : (r ++ c :: v).drop (r.length + 1) = v := by
 rw [show r.length + 1 = (r ++ [c]).length by simp, show r ++ c :: v = (r ++ [c]) ++ v by simp, List.drop_left]
theorem yD : ∀ (u : List Nat), Gap (u.takeWhile (cW bK))
 | [] => .nil
 | c :: u => by
  cases e : cW bK c with
  | false => simp [e]; exact .nil
  | true => simp [e]; exact .blank c _ e (yD u)
theorem aBs : ∀ (u : List Nat) (i k : Nat), dI 34 u i = ((i + k : Nat) : Int) → ∃ r w, u = r ++ 34 :: w ∧ r.length = k ∧ ∀ c ∈ r, c ≠ 34
 | [], i, k, h => by
  have : dI 34 [] i = -1 := rfl
  omega
 | c :: u, i, k, h => by
  have e : dI 34 (c :: u) i = bif Nat.beq c 34 then Int.ofNat i else dI 34 u (i + 1) := rfl
  cases hc : Nat.beq c 34 with
  | true =>
   rw [e, hc] at h
   have : c = 34 := Nat.eq_of_beq_eq_true hc
   subst this
   have h : (i : Int) = ((i + k : Nat) : Int) := h
   exact ⟨[], u, rfl, by simp; omega, by simp⟩
  | false =>
   rw [e, hc] at h
   have h : dI 34 u (i + 1) = ((i + k : Nat) : Int) := h
   have hne : c ≠ 34 := fun e2 => by rw [e2] at hc; cases hc
   have hk : 1 ≤ k := by
    apply Decidable.byContradiction
    intro hn
    have hge := oE 34 u (i + 1) (by omega)
    obtain ⟨k', h1, h2⟩ := hge
    omega
   obtain ⟨r, w, a, b, d⟩ := aBs u (i + 1) (k - 1) (by rw [h]; congr 1; omega)
   refine ⟨c :: r, w, by rw [a]; rfl, by simp [b]; omega, fun x hx => ?_⟩
   rcases List.mem_cons.1 hx with rfl | hx
   ·exact hne
   ·exact d x hx
theorem bZq (so : Nat → Bool) (u : List Nat) : u = u.takeWhile so ++ u.drop (u.takeWhile so).length := by
 induction u with
 | nil => rfl
 | cons c u ih =>
  cases e : so c with
  | false => simp [e]
  | true =>
   simp [e]
   exact ih
theorem aEj {g : Nat} {s : List Nat} (hg : s.length < g) : ∀ (f i : Nat) (out : List Tok) (res : List Tok × Int × Int), i ≤ s.length → lU g s f i out = some res → res.2.2 = 0 → ∃ l, res = (out ++ l, 0, 0) ∧ Lx g (s.drop i) i l
 | 0, i, out, res, hi, h => by cases h
 | f + 1, i, out, res, hi, h => by
  intro he
  have hle := nL (cW bK) (s.drop i)
  have hdl : (s.drop i).length = s.length - i := by simp
  have hsp := bZq (cW bK) (s.drop i)
  have hgap := yD (s.drop i)
  unfold lU at h
  generalize hw : (s.drop i).takeWhile (cW bK) = w at *
  rw [List.drop_drop] at hsp
  by_cases h1 : s.length ≤ i + w.length
  ·rw [if_pos h1] at h
   cases h
   refine ⟨_, rfl, ?_⟩
   rw [List.drop_eq_nil_of_le h1, List.append_nil] at hsp
   rw [hsp, show s.length = i + w.length by omega]
   exact .fin w i hgap
  ·rw [if_neg h1] at h
   by_cases h2 : nx s (i + w.length) = 34
   ·rw [if_pos h2] at h
    by_cases h3 : dI 34 (s.drop (i + w.length + 1)) 0 < 0
    ·rw [if_pos h3] at h
     cases h
     cases he
    ·rw [if_neg h3] at h
     obtain ⟨k, k1, k2⟩ := oE 34 _ _ h3
     obtain ⟨r, w', a1, a2, a3⟩ := aBs _ 0 k k2
     rw [k2] at h
     simp only [Nat.zero_add, Int.toNat_natCast] at h
     simp at k1
     obtain ⟨l, b1, b2⟩ := aEj hg f _ out res (by omega) h he
     refine ⟨l, b1, ?_⟩
     rw [hsp]
     have hd : s.drop (i + w.length) = 34 :: (r ++ 34 :: w') := by
      rw [← a1]
      have hlt : i + w.length < s.length := by omega
      rw [List.drop_eq_getElem_cons hlt]
      congr 1
      rw [nx, List.getD, List.getElem?_eq_getElem hlt] at h2
      exact h2
     have hd2 : s.drop (i + w.length + k + 2) = w' := by
      rw [show i + w.length + k + 2 = (i + w.length) + (k + 2) by omega, ← List.drop_drop, hd]
      rw [show k + 2 = (k + 1) + 1 by omega, List.drop_succ_cons, ← a2, bMe]
     rw [hd2] at b2
     rw [hd]
     have := Lx.gap (w := w ++ 34 :: (r ++ [34])) (p := i) (u := w') (by
      have e : i + (w ++ 34 :: (r ++ [34])).length = i + w.length + k + 2 := by simp; omega
      rw [e]; exact b2) (hgap.app (by simpa using Gap.rem r [] a3 .nil))
     simpa using this
   ·rw [if_neg h2] at h
    obtain ⟨rs, c1, c2⟩ := aT h
    have hu : s.drop (i + w.length) ≠ [] := by
     intro h
     have := congrArg List.length h
     simp at this
     omega
    obtain ⟨rs', d1, d2⟩ := bIz (f := g) hu (by simp; omega)
    rw [c1] at d1
    cases d1
    by_cases h4 : rs.2.2.2.1 = 0
    ·rw [if_pos h4] at c2
     obtain ⟨e1, e2, e3, e4⟩ := d2 h4
     rw [if_neg (by omega)] at c2
     simp at e2
     obtain ⟨l, b1, b2⟩ := aEj hg f _ _ res (by omega) c2 he
     refine ⟨⟨rs.1, rs.2.1, rs.2.2.1, ((i + w.length : Nat) : Int)⟩ :: l, by rw [b1]; simp, ?_⟩
     rw [hsp]
     refine .tok w _ i _ rs l hgap c1 h4 rfl e1 (by simp; omega) e3 ?_
     rw [List.drop_drop]
     exact b2
    ·rw [if_neg h4] at c2
     cases c2
     exact absurd he h4
end Go.Dd

namespace Go.Dd
open Go.Proofs
def dV (st : PSt) : Option (Tok × PSt) :=
 (bH st 0).bind fun t => if t.kind = 0 then none else if 2 ≤ st.toks.length then some (t, { st with toks := st.toks.drop 1 }) else none
def nI (st : PSt) (kind : Int) (text : List Nat) : Option (Tok × PSt) :=
 (dT st kind text).bind fun c => if c then dV st else (bH st 0).bind fun t => some (z4, bW st t 13)
def bWl (st : PSt) : Option PSt := (dT st 0 []).bind fun c => if c then some st else (bH st 0).bind fun t => some (bW st t 13)
def uC (st : PSt) (kind : Int) (l : List (List Nat)) : Option (List (List Nat) × PSt) :=
 (nI st kind []).bind fun r => some (l ++ [r.1.text], if r.2.err = 0 ∧ l.length = 4 then bW r.2 r.1 18 else r.2)
def pG (st : PSt) : Option (Bool × PSt) :=
 (dV st).bind fun r => if r.2.deep = 20 then some (false, bW r.2 r.1 14) else some (true, { r.2 with deep := uR (r.2.deep + 1) })
def rL (st : PSt) : Option ((Node × Bool) × PSt) :=
 (bH st 0).bind fun t => (dT st 3 [45]).bind fun c1 => (if c1 then (bH st 1).bind fun u => some (decide (u.kind = 4) && decide (u.pos = uR (t.pos + 1))) else some false).bind fun c =>
  if c then (dV st).bind fun r => (dV r.2).bind fun q => some ((.mk 1 [] (uR (0 - q.1.num)) [] [] [], true), q.2)
  else (dT st 4 []).bind fun c => if c then (dV st).bind fun r => some ((.mk 1 [] r.1.num [] [] [], true), r.2)
  else (dT st 5 []).bind fun c => if c then (dV st).bind fun r => some ((.mk 2 r.1.text 0 [] [] [], true), r.2)
  else (dT st 6 []).bind fun c => if c then (dV st).bind fun r => some ((.mk 3 r.1.text 0 [] [] [], true), r.2)
  else some ((zN, false), st)
def oZ : Nat → List (List Nat) → PSt → Option (List (List Nat) × PSt)
 | 0, _, _ => none
 | f + 1, l, st => (dT st 1 []).bind fun c => if c then (dV st).bind fun r => oZ f (l ++ [r.1.text]) r.2 else (nI st 10 [124]).bind fun r => some (l, r.2)
def nS (f : Nat) (st : PSt) : Option (List (List Nat) × PSt) :=
 (dT st 10 [124]).bind fun c => if c then (dV st).bind fun r => oZ f [] r.2 else some ([], st)
def PD (p : Pos) (s : DV) (i : Nat) (st : PSt) : Pos × Option Ob := (p, some (.row .ex [s, .i .i64 (i : Int), .i .i64 st.deep, .i .i64 st.err, .i .i64 st.pos]))
def TD (I : Im) (s : DV) (i : Nat) (l : List Tok) : Prop := ∃ T, TS' I s T ∧ T.drop i = l ∧ 1 ≤ l.length
theorem TD.mono {I J : Im} (g : ILe I J) {s : DV} {i : Nat} {l : List Tok} (H : TD I s i l) : TD J s i l := by
 obtain ⟨T, a, b⟩ := H
 exact ⟨T, a.mono g, b⟩
theorem TD.one {I : Im} {s : DV} {i : Nat} {l : List Tok} (H : TD I s i l) : s.one = true := by
 obtain ⟨T, a, b⟩ := H
 exact a.2.one
theorem cFs (n : Nat) (x y : DV) (h : Hp) : aJ (n + 1) 73 [x, y] h = s73 (aJ n) n x y h := by kernel_rfl
theorem cIa (n : Nat) (x y z : DV) (h : Hp) : aJ (n + 1) 71 [x, y, z] h = s71 (aJ n) n x y z h := by kernel_rfl
theorem cKt (n : Nat) (x y z : DV) (h : Hp) : aJ (n + 1) 68 [x, y, z] h = s68 (aJ n) n x y z h := by kernel_rfl
theorem aSx (n : Nat) (x : DV) (h : Hp) : aJ (n + 1) 69 [x] h = s69 (aJ n) n x h := by kernel_rfl
theorem bDy (n : Nat) (x y z : DV) (h : Hp) : aJ (n + 1) 47 [x, y, z] h = s47 (aJ n) n x y z h := by kernel_rfl
theorem cHj (n : Nat) (x y z : DV) (h : Hp) : aJ (n + 1) 70 [x, y, z] h = s70 (aJ n) n x y z h := by kernel_rfl
theorem bUl (n : Nat) (x : DV) (h : Hp) : aJ (n + 1) 130 [x] h = s130 (aJ n) n x h := by kernel_rfl
theorem bTl (n : Nat) (x : DV) (h : Hp) : aJ (n + 1) 128 [x] h = s128 (aJ n) n x h := by kernel_rfl
theorem cLe (n : Nat) (x : DV) (h : Hp) : aJ (n + 1) 45 [x] h = s45 (aJ n) n x h := by kernel_rfl
section
variable {I : Im} {A L : Ls} {h : Hp} {p : Pos} {s : DV} {i : Nat} {st : PSt}
theorem eB (S : Sy I A [PD p s i st] L h) (T : TD I s i st.toks) {k : Nat} {t : Tok} (hk : bH st k = some t) (hk' : k ≤ 10) :
 Ev (fun n => aJ n 73 [.p p 0, .i .i64 (Int.ofNat k)] h) (fun v h' => v = .a (tc t) ∧ Sy I A [PD p s i st] L h') := by
 have hs := T.one
 obtain ⟨T, T1, T2, T3⟩ := T
 have hl := T1.1
 have hlen : st.toks.length = T.length - i := by rw [← T2]; simp
 unfold bH at hk
 rw [← T2, List.getElem?_drop] at hk
 refine Ev.enter (fun n => cFs n _ _ h) ?_
 unfold s73
 unfold PD at S
 refine wa fun _ _ _ => ?_; refine wn ?_; refine wf ?_; refine wq ?_
 refine Ev.iadd ?_
 have e1 : IntKind.i64.wrap ((i : Int) + Int.ofNat k) = ((i + k : Nat) : Int) := by
  rw [dG _ (by simp; omega) (by simp [bL] at hl ⊢; omega)]
  simp
 rw [e1]
 refine wn ?_; refine wf ?_; refine wq ?_
 refine Ev.op (T1.2.len _) (Ev.ige (fun e2 => ?_) (fun e2 => ?_))
 ·refine yt ?_; refine wn ?_; refine wf ?_; refine wq ?_; refine wn ?_; refine wf ?_; refine wq ?_
  refine Ev.op (T1.2.len _) (Ev.isub ?_)
  have e3 : IntKind.i64.wrap ((T.length : Int) - Int.ofNat 1) = ((T.length - 1 : Nat) : Int) := by
   rw [dG _ (by simp; omega) (by simp [bL] at hl ⊢; omega)]
   simp; omega
  rw [e3]
  have hk2 : T[T.length - 1]? = some t := by
   rw [show i + min k ((T.drop i).length - 1) = T.length - 1 by simp; omega] at hk
   exact hk
  obtain ⟨b, o, a1, a2⟩ := T1.at (by assumption) hk2
  refine Ev.op (a1 _) (Ev.op a2 ?_)
  refine wt fun _ _ => ?_; refine ws ?_
  exact Ev.ret ⟨rfl, Sy.dropL (by assumption)⟩
 ·refine yj ?_; refine wn ?_; refine wf ?_; refine wq ?_; refine wn ?_; refine wf ?_; refine wq ?_
  refine Ev.iadd ?_
  rw [e1]
  have hk2 : T[i + k]? = some t := by
   rw [show i + min k ((T.drop i).length - 1) = i + k by simp; omega] at hk
   exact hk
  obtain ⟨b, o, a1, a2⟩ := T1.at (by assumption) hk2
  refine Ev.op (a1 _) (Ev.op a2 ?_)
  refine wt fun _ _ => ?_; refine ws ?_
  exact Ev.ret ⟨rfl, Sy.dropL (by assumption)⟩
theorem iY (S : Sy I A [PD p s i st] L h) (hs : s.one = true) (t : Tok) (e : Int) :
 Ev (fun n => aJ n 71 [.p p 0, .a (tc t), .i .i64 e] h) (fun v h' => v = .t [] ∧ Sy I A [PD p s i (bW st t e)] L h') := by
 refine Ev.enter (fun n => cIa n _ _ _ h) ?_
 unfold s71
 refine wb fun _ _ _ => ?_; refine wn ?_; refine wf ?_; refine wq ?_
 refine Ev.ieq (fun e1 => ?_) (fun e1 => ?_)
 ·refine yt ?_; refine wn ?_; refine wf ?_; refine wv fun _ _ => ?_; refine wf ?_; refine wl ?_; refine wn ?_; refine wf ?_; refine wv fun _ _ => ?_
  have : bW st t e = { st with pos := t.pos, err := e } := by simp at e1; simp [bW, e1]
  rw [this]
  exact Ev.ret ⟨rfl, dp⟩
 ·refine yj ?_
  have : bW st t e = st := by simp at e1; simp [bW, e1]
  rw [this]
  exact Ev.ret ⟨rfl, dp⟩
theorem cG (S : Sy I A [PD p s i st] L h) (T : TD I s i st.toks) {kind : Int} {text : List Nat} {c : Bool} (hc : dT st kind text = some c) :
 Ev (fun n => aJ n 68 [.p p 0, .i .i64 kind, .s text] h) (fun v h' => v = .b c ∧ Sy I A [PD p s i st] L h') := by
 have hs := T.one
 unfold dT at hc
 obtain ⟨t, ht, hc⟩ := aT hc
 simp only [Option.some.injEq] at hc
 refine Ev.enter (fun n => cKt n _ _ _ h) ?_
 unfold s68
 refine Ev.call (eB (k := 0) S T ht (by omega)) ?_
 rintro _ _ ⟨rfl, S1⟩
 refine wa fun _ _ _ => ?_; refine wt fun _ _ => ?_; refine wn ?_; refine wf ?_; refine wq ?_
 refine Ev.ieq (fun e1 => ?_) (fun e1 => ?_)
 ·refine zt ?_; refine wf ?_; refine zt ?_; refine wl ?_; refine zt ?_; refine wm ?_; refine zt ?_
  refine Ev.ieq (fun e2 => ?_) (fun e2 => ?_)
  ·refine ap ?_; refine zt ?_; refine wm ?_; refine zt ?_
   refine Ev.seq (fun e3 => ?_) (fun e3 => ?_)
   ·refine zt ?_; refine wm ?_; refine yg ?_; refine yg ?_; refine yg ?_; refine yg ?_; refine zt ?_; refine ap ?_; refine ap ?_
    exact Ev.ret ⟨by rw [← hc]; simp at e1; simp [e1, e2, e3], dp⟩
   ·refine zt ?_; refine wm ?_; refine zf ?_; refine wf ?_; refine zf ?_; refine wl ?_; refine zf ?_; refine wm ?_; refine zf ?_
    refine Ev.seq (fun e4 => ?_) (fun e4 => ?_)
    ·refine zt ?_; refine aq ?_; refine ap ?_
     exact Ev.ret ⟨by rw [← hc]; simp at e1; simp [e1, e2, e4], dp⟩
    ·refine zt ?_; refine aq ?_; refine ap ?_
     exact Ev.ret ⟨by rw [← hc]; simp [e3, e4], dp⟩
  ·refine ap ?_; refine yf ?_; refine yf ?_; refine yf ?_; refine yu ?_; refine yu ?_; refine yu ?_; refine yu ?_; refine yf ?_; refine aq ?_
   exact Ev.ret ⟨by rw [← hc]; simp [e2], dp⟩
 ·refine yf ?_; refine yf ?_; refine yf ?_; refine yf ?_; refine aq ?_; refine yf ?_; refine yf ?_; refine yf ?_; refine yu ?_; refine yu ?_; refine yu ?_; refine yu ?_; refine yf ?_; refine aq ?_
  exact Ev.ret ⟨by rw [← hc]; simp at e1; simp [e1], dp⟩
theorem cD (S : Sy I A [PD p s i st] L h) (T : TD I s i st.toks) {t : Tok} {st' : PSt} (ht : dV st = some (t, st')) :
 Ev (fun n => aJ n 69 [.p p 0] h) (fun v h' => v = .a (tc t) ∧ ∃ i', Sy I A [PD p s i' st'] L h' ∧ TD I s i' st'.toks) := by
 have hs := T.one
 unfold dV at ht
 obtain ⟨u, hu, ht⟩ := aT ht
 split at ht
 ·cases ht
 ·split at ht
  ·rename_i h2
   simp only [Option.some.injEq, Prod.mk.injEq] at ht
   obtain ⟨rfl, rfl⟩ := ht
   refine Ev.enter (fun n => aSx n _ h) ?_
   unfold s69
   refine wa fun _ _ _ => ?_
   refine Ev.call (eB (k := 0) (by assumption) T hu (by omega)) ?_
   rintro _ _ ⟨rfl, S1⟩
   obtain ⟨T, T1, T2, T3⟩ := T
   have hl := T1.1
   have hlen : st.toks.length = T.length - i := by rw [← T2]; simp
   refine wa fun _ _ _ => ?_; refine wt fun _ _ => ?_; refine wn ?_; refine wf ?_; refine wq ?_
   refine Ev.iadd ?_
   rw [fX (by simp [bL] at hl ⊢; omega)]
   refine wn ?_; refine wf ?_; refine wv fun _ _ => ?_; refine ws ?_; refine wt fun _ _ => ?_; refine ws ?_
   refine Ev.ret ⟨rfl, i + 1, dp, T, T1, ?_, ?_⟩
   ·show _ = st.toks.drop 1
    rw [← T2, List.drop_drop]
   ·show 1 ≤ (st.toks.drop 1).length
    simp; omega
  ·cases ht
theorem nW (S : Sy I A [PD p s i st] L h) (T : TD I s i st.toks) {kind : Int} {text : List Nat} {t : Tok} {st' : PSt} (ht : nI st kind text = some (t, st')) :
 Ev (fun n => aJ n 47 [.p p 0, .i .i64 kind, .s text] h) (fun v h' => v = .a (tc t) ∧ ∃ i', Sy I A [PD p s i' st'] L h' ∧ TD I s i' st'.toks) := by
 unfold nI at ht
 obtain ⟨c, hc, ht⟩ := aT ht
 refine Ev.enter (fun n => bDy n _ _ _ h) ?_
 unfold s47
 refine wa fun _ _ _ => ?_
 refine Ev.call (cG (by assumption) T hc) ?_
 rintro _ _ ⟨rfl, S1⟩
 cases c with
 | true =>
  refine an ?_; refine yj ?_
  refine Ev.call (cD (by assumption) T ht) ?_
  rintro _ _ ⟨rfl, i', S2, T2⟩
  refine wt fun _ _ => ?_; refine ws ?_
  exact Ev.ret ⟨rfl, i', dp, T2⟩
 | false =>
  refine ao ?_; refine yt ?_
  obtain ⟨u, hu, ht⟩ := aT (by simpa using ht)
  simp only [Option.some.injEq, Prod.mk.injEq] at ht
  obtain ⟨rfl, rfl⟩ := ht
  refine Ev.call (eB (k := 0) (by assumption) T hu (by omega)) ?_
  rintro _ _ ⟨rfl, S2⟩
  refine Ev.call (iY (by assumption) T.one u _) ?_
  rintro _ _ ⟨rfl, S3⟩
  refine wd ?_; refine wt fun _ _ => ?_; refine ws ?_
  exact Ev.ret ⟨rfl, i, dp, by rw [bV]; exact T⟩
theorem dOj {sz bytes : Nat} {x : DV} {h : Hp} {c : List DV} (e : nY sz x h = some (0, c)) : aX sz bytes .l0 x h = some (.l0, h) := by
 unfold aX
 rw [e]
 rfl
theorem bGf (S : Sy I A [PD p s i st] L h) (T : TD I s i st.toks) {kind : Int} {x : DV} {l : List (List Nat)} (N : SS I x l) (hl : l.length + 1 ≤ bL) {l' : List (List Nat)} {st' : PSt} (ht : uC st kind l = some (l', st')) :
 Ev (fun n => aJ n 70 [.p p 0, .i .i64 kind, x] h) (fun v h' => ∃ J i', ILe I J ∧ Sy J A [PD p s i' st'] L h' ∧ TD J s i' st'.toks ∧ SS J v l') := by
 have hs := T.one
 unfold uC at ht
 obtain ⟨⟨u, st1⟩, hu, ht⟩ := aT ht
 simp only [Option.some.injEq, Prod.mk.injEq] at ht
 obtain ⟨rfl, rfl⟩ := ht
 refine Ev.enter (fun n => cHj n _ _ _ h) ?_
 unfold s70 cPl
 refine Ev.call (nW S T hu) ?_
 rintro _ _ ⟨rfl, i1, S1, T1⟩
 refine wa fun _ _ _ => ?_; refine wt fun _ _ => ?_
 unfold cNv
 have fin : ∀ (st2 : PSt) (b : Pos) (h' : Hp), st2.toks = st1.toks → Sy I A [PD p s i1 st2] ((b, some (.row .ex (tc u))) :: L) h' →
  Ev (fun n => bDh (aJ n) n x (.p b 0) h') (fun v h' => ∃ J i', ILe I J ∧ Sy J A [PD p s i' st2] L h' ∧ TD J s i' st2.toks ∧ SS J v (l ++ [u.text])) := by
  intro st2 b h' e2 S2
  unfold bDh
  have hr : ∀ m, m ≤ bL → m * 16 ≤ eM := by intro m hm; simp [eM, bL] at hm ⊢; omega
  obtain ⟨x1, h1, B1, q1, S3, G1⟩ : ∃ x1 h1 B1, aX 1 16 .l0 x h' = some (x1, h1) ∧ Sy I (B1 ++ A) [PD p s i1 st2] ((b, some (.row .ex (tc u))) :: L) h1 ∧ Gr I 1 B1 x1 l.length (l.map .s) := by
   have hsrc := N.2.src S2
   by_cases h0 : l.length = 0
   ·have : l = [] := List.length_eq_zero_iff.1 h0
    subst this
    exact ⟨.l0, h', [], dOj hsrc, S2, Gr.nil I 1⟩
   ·obtain ⟨s', h1, A', a1, a2, a3⟩ := (Gr.nil I 1).app (bytes := 16) (A0 := A) (h := h') (by simpa using S2) hsrc (by simp) (by intro v hv; obtain ⟨y, _, rfl⟩ := List.mem_map.1 hv; rfl) h0 (by have := hr l.length (by omega); omega)
    exact ⟨s', h1, A', a1, a2, by simpa using a3⟩
  refine Ev.op q1 ?_
  refine wf ?_; refine wl ?_
  refine Ev.bs S3 (cs := [.s u.text]) rfl ?_
  intro b3 h3 S4
  obtain ⟨x4, h4, B4, e4, S5, G4⟩ := G1.app S4 (nB S4 (n := 1) (List.Mem.head _) rfl (aS rfl aW)) rfl (aS rfl aW) (by omega) (hr _ (by omega))
  refine Ev.op e4 ?_
  obtain ⟨J, gJ, S6, F6⟩ := G4.freeze S5
  refine Ev.ret ⟨J, i1, gJ, dp, by rw [e2]; exact T1.mono gJ, by simp; omega, ?_⟩
  simpa using F6
 refine wn ?_; refine wf ?_; refine wq ?_
 refine Ev.ieq (fun e1 => ?_) (fun e1 => ?_)
 ·refine zt ?_; refine wm ?_; refine zt ?_
  refine Ev.op (N.2.len _) ?_
  refine zt ?_
  refine Ev.ieq (fun e2 => ?_) (fun e2 => ?_)
  ·refine ap ?_; refine yt ?_; refine ws ?_
   refine Ev.call (iY (by assumption) hs u _) ?_
   rintro _ _ ⟨rfl, S3⟩
   have : (if st1.err = 0 ∧ l.length = 4 then bW st1 u 18 else st1) = bW st1 u 18 := if_pos ⟨e1, by simp at e2; omega⟩
   simp only [this]
   exact fin _ _ _ (bV _ _ _) S3
  ·refine ap ?_; refine yj ?_
   have : (if st1.err = 0 ∧ l.length = 4 then bW st1 u 18 else st1) = st1 := if_neg (fun hh => e2 (by rw [hh.2]; rfl))
   simp only [this]
   exact fin _ _ _ rfl (by assumption)
 ·refine yf ?_; refine yf ?_; refine yf ?_; refine aq ?_; refine yj ?_
  have : (if st1.err = 0 ∧ l.length = 4 then bW st1 u 18 else st1) = st1 := if_neg (fun hh => e1 hh.1)
  simp only [this]
  exact fin _ _ _ rfl (by assumption)
theorem wP (S : Sy I A [PD p s i st] L h) (T : TD I s i st.toks) {c : Bool} {st' : PSt} (hm : pG st = some (c, st')) :
 Ev (fun n => aJ n 130 [.p p 0] h) (fun v h' => v = .b c ∧ ∃ i', Sy I A [PD p s i' st'] L h' ∧ TD I s i' st'.toks) := by
 have hs := T.one
 unfold pG at hm
 obtain ⟨⟨t, st1⟩, ht, hm⟩ := aT hm
 refine Ev.enter (fun n => bUl n _ h) ?_
 unfold s130
 refine Ev.call (cD S T ht) ?_
 rintro _ _ ⟨rfl, i1, S1, T1⟩
 refine wa fun _ _ _ => ?_; refine wt fun _ _ => ?_; refine wn ?_; refine wf ?_; refine wq ?_
 refine Ev.ieq (fun e1 => ?_) (fun e1 => ?_)
 ·refine yt ?_; refine ws ?_
  rw [if_pos (show st1.deep = 20 from e1)] at hm
  simp only [Option.some.injEq, Prod.mk.injEq] at hm
  obtain ⟨rfl, rfl⟩ := hm
  refine Ev.call (iY (by assumption) hs t _) ?_
  rintro _ _ ⟨rfl, S3⟩
  exact Ev.ret ⟨rfl, i1, dp, by rw [bV]; exact T1⟩
 ·refine yj ?_; refine wn ?_; refine wf ?_; refine wq ?_
  rw [if_neg (show ¬ st1.deep = 20 from e1)] at hm
  simp only [Option.some.injEq, Prod.mk.injEq] at hm
  obtain ⟨rfl, rfl⟩ := hm
  refine Ev.iadd ?_
  refine wn ?_; refine wf ?_; refine wv fun _ _ => ?_
  exact Ev.ret ⟨rfl, i1, dp, T1⟩
theorem aDd (S : Sy I A [PD p s i st] L h) (T : TD I s i st.toks) {x : Node} {c : Bool} {st' : PSt} (hm : rL st = some ((x, c), st')) :
 Ev (fun n => aJ n 128 [.p p 0] h) (fun v h' => ∃ i' cs, v = .t [.a cs, .b c] ∧ Sy I A [PD p s i' st'] L h' ∧ TD I s i' st'.toks ∧ NV I x cs) := by
 have hs := T.one
 unfold rL at hm
 obtain ⟨t, ht, hm⟩ := aT hm
 obtain ⟨c1, hc1, hm⟩ := aT hm
 obtain ⟨d, hd, hm⟩ := aT hm
 refine Ev.enter (fun n => bTl n _ h) ?_
 unfold s128
 refine wa fun _ _ _ => ?_
 refine Ev.call (eB (k := 0) (by assumption) T ht (by omega)) ?_
 rintro _ _ ⟨rfl, S1⟩
 refine wa fun _ _ _ => ?_; refine wt fun _ _ => ?_
 refine Ev.call (cG (by assumption) T hc1) ?_
 rintro _ _ ⟨rfl, S2⟩
 have pos : ∀ (b3 b1 : Pos) (h' : Hp), d = true → Sy I A [PD p s i st] ((b3, some (.row .ex (tc t))) :: (b1, some (.row .ex [.i .i64 (Int.ofNat 0), .s [], .i .i64 (Int.ofNat 0), .l0, .l0, .l0])) :: L) h' →
  Ev (fun n => bnd (aJ n 69 [.p p 0] h') fun v19 h19 =>
  bnd (aJ n 69 [.p p 0] h19) fun v20 h20 =>
  bnd (cB 2 v20 h20) fun v21 h21 =>
  bnd (jZ .neg v21 h21) fun v22 h22 =>
  bnd (bB [(.i .i64 (Int.ofNat 0)), (.s []), (.i .i64 (Int.ofNat 0)), .l0, .l0, .l0] [(0, 1, (.i .i64 (Int.ofNat 1))), (2, 1, v22)] h22) fun v23 h23 =>
  bnd (aC 6 (.p b1 0) v23 h23) fun _ h24 =>
  bnd (aE 6 (.p b1 0) h24) fun v25 _ =>
  some (.t [v25, (.b true)], h24)) (fun v h' => ∃ i' cs, v = .t [.a cs, .b c] ∧ Sy I A [PD p s i' st'] L h' ∧ TD I s i' st'.toks ∧ NV I x cs) := by
  intro b3 b1 h' hd S'
  subst hd
  rw [if_pos rfl] at hm
  obtain ⟨⟨t1, st1⟩, ht1, hm⟩ := aT hm
  obtain ⟨⟨t2, st2⟩, ht2, hm⟩ := aT hm
  simp only [Option.some.injEq, Prod.mk.injEq] at hm
  obtain ⟨⟨rfl, rfl⟩, rfl⟩ := hm
  refine Ev.call (cD S' T ht1) ?_
  rintro _ _ ⟨rfl, i3, S3, T3⟩
  refine Ev.call (cD S3 T3 ht2) ?_
  rintro _ _ ⟨rfl, i4, S4, T4⟩
  refine wp ?_
  refine Ev.neg ?_
  refine wd ?_; refine wt fun _ _ => ?_; refine ws ?_
  exact Ev.ret ⟨i4, _, rfl, dp, T4, NV.flat _ _ _⟩
 have neg : ∀ (b3 b1 : Pos) (h' : Hp), d = false → Sy I A [PD p s i st] ((b3, some (.row .ex (tc t))) :: (b1, some (.row .ex [.i .i64 (Int.ofNat 0), .s [], .i .i64 (Int.ofNat 0), .l0, .l0, .l0])) :: L) h' →
  Ev (fun n => bnd (aJ n 68 [.p p 0, (.i .i64 (Int.ofNat 4)), (.s [])] h') fun v26 h26 =>
  aU v26 (
   bnd (aJ n 69 [.p p 0] h26) fun v27 h27 =>
   bnd (cB 2 v27 h27) fun v28 h28 =>
   bnd (bB [(.i .i64 (Int.ofNat 0)), (.s []), (.i .i64 (Int.ofNat 0)), .l0, .l0, .l0] [(0, 1, (.i .i64 (Int.ofNat 1))), (2, 1, v28)] h28) fun v29 h29 =>
   bnd (aC 6 (.p b1 0) v29 h29) fun _ h30 =>
   bnd (aE 6 (.p b1 0) h30) fun v31 _ =>
   some (.t [v31, (.b true)], h30)) (
   bnd (aJ n 68 [.p p 0, (.i .i64 (Int.ofNat 5)), (.s [])] h26) fun v32 h32 =>
   aU v32 (
    bnd (aJ n 69 [.p p 0] h32) fun v33 h33 =>
    bnd (cB 1 v33 h33) fun v34 h34 =>
    bnd (bB [(.i .i64 (Int.ofNat 0)), (.s []), (.i .i64 (Int.ofNat 0)), .l0, .l0, .l0] [(0, 1, (.i .i64 (Int.ofNat 2))), (1, 1, v34)] h34) fun v35 h35 =>
    bnd (aC 6 (.p b1 0) v35 h35) fun _ h36 =>
    bnd (aE 6 (.p b1 0) h36) fun v37 _ =>
    some (.t [v37, (.b true)], h36)) (
    bnd (aJ n 68 [.p p 0, (.i .i64 (Int.ofNat 6)), (.s [])] h32) fun v38 h38 =>
    aU v38 (
     bnd (aJ n 69 [.p p 0] h38) fun v39 h39 =>
     bnd (cB 1 v39 h39) fun v40 h40 =>
     bnd (bB [(.i .i64 (Int.ofNat 0)), (.s []), (.i .i64 (Int.ofNat 0)), .l0, .l0, .l0] [(0, 1, (.i .i64 (Int.ofNat 3))), (1, 1, v40)] h40) fun v41 h41 =>
     bnd (aC 6 (.p b1 0) v41 h41) fun _ h42 =>
     bnd (aE 6 (.p b1 0) h42) fun v43 _ =>
     some (.t [v43, (.b true)], h42)) (
     bnd (bB [(.i .i64 (Int.ofNat 0)), (.s []), (.i .i64 (Int.ofNat 0)), .l0, .l0, .l0] [] h38) fun v44 h44 =>
     bnd (aC 6 (.p b1 0) v44 h44) fun _ h45 =>
     bnd (aE 6 (.p b1 0) h45) fun v46 _ =>
     some (.t [v46, (.b false)], h45))))) (fun v h' => ∃ i' cs, v = .t [.a cs, .b c] ∧ Sy I A [PD p s i' st'] L h' ∧ TD I s i' st'.toks ∧ NV I x cs) := by
  intro b3 b1 h' hd S'
  subst hd
  rw [if_neg (by simp)] at hm
  obtain ⟨c4, hc4, hm⟩ := aT hm
  refine Ev.call (cG S' T hc4) ?_
  rintro _ _ ⟨rfl, S3⟩
  cases c4 with
  | true =>
   refine yt ?_
   rw [if_pos rfl] at hm
   obtain ⟨⟨t1, st1⟩, ht1, hm⟩ := aT hm
   simp only [Option.some.injEq, Prod.mk.injEq] at hm
   obtain ⟨⟨rfl, rfl⟩, rfl⟩ := hm
   refine Ev.call (cD (by assumption) T ht1) ?_
   rintro _ _ ⟨rfl, i3, S3, T3⟩
   refine wp ?_; refine wd ?_; refine wt fun _ _ => ?_; refine ws ?_
   exact Ev.ret ⟨i3, _, rfl, dp, T3, NV.flat _ _ _⟩
  | false =>
   refine yj ?_
   rw [if_neg (by simp)] at hm
   obtain ⟨c5, hc5, hm⟩ := aT hm
   refine Ev.call (cG S3 T hc5) ?_
   rintro _ _ ⟨rfl, S4⟩
   cases c5 with
   | true =>
    refine yt ?_
    rw [if_pos rfl] at hm
    obtain ⟨⟨t1, st1⟩, ht1, hm⟩ := aT hm
    simp only [Option.some.injEq, Prod.mk.injEq] at hm
    obtain ⟨⟨rfl, rfl⟩, rfl⟩ := hm
    refine Ev.call (cD (by assumption) T ht1) ?_
    rintro _ _ ⟨rfl, i3, S3, T3⟩
    refine wp ?_; refine wd ?_; refine wt fun _ _ => ?_; refine ws ?_
    exact Ev.ret ⟨i3, _, rfl, dp, T3, NV.flat _ _ _⟩
   | false =>
    refine yj ?_
    rw [if_neg (by simp)] at hm
    obtain ⟨c6, hc6, hm⟩ := aT hm
    refine Ev.call (cG S4 T hc6) ?_
    rintro _ _ ⟨rfl, S5⟩
    cases c6 with
    | true =>
     refine yt ?_
     rw [if_pos rfl] at hm
     obtain ⟨⟨t1, st1⟩, ht1, hm⟩ := aT hm
     simp only [Option.some.injEq, Prod.mk.injEq] at hm
     obtain ⟨⟨rfl, rfl⟩, rfl⟩ := hm
     refine Ev.call (cD (by assumption) T ht1) ?_
     rintro _ _ ⟨rfl, i3, S3, T3⟩
     refine wp ?_; refine wd ?_; refine wt fun _ _ => ?_; refine ws ?_
     exact Ev.ret ⟨i3, _, rfl, dp, T3, NV.flat _ _ _⟩
    | false =>
     refine yj ?_; refine wd ?_; refine wt fun _ _ => ?_; refine ws ?_
     rw [if_neg (by simp)] at hm
     simp only [Option.some.injEq, Prod.mk.injEq] at hm
     obtain ⟨⟨rfl, rfl⟩, rfl⟩ := hm
     exact Ev.ret ⟨i, _, rfl, dp, T, NV.flat _ _ _⟩
 cases c1 with
 | false =>
  simp only [Bool.false_eq_true, if_false, Option.some.injEq] at hd
  refine yf ?_; refine yf ?_; refine yf ?_; refine yf ?_; refine aq ?_; refine yf ?_; refine yf ?_; refine yf ?_; refine yf ?_; refine yf ?_
  refine Ev.cnd rfl ?_
  refine yf ?_; refine yf ?_; refine aq ?_; refine yj ?_
  exact neg _ _ _ hd.symm S2
 | true =>
  rw [if_pos rfl] at hd
  obtain ⟨u, hu, hd⟩ := aT hd
  simp only [Option.some.injEq] at hd
  refine zt ?_; refine wm ?_; refine zt ?_
  refine Ev.call (eB (k := 1) S2 T hu (by omega)) ?_
  rintro _ h7 ⟨rfl, S3⟩
  refine zt ?_; refine wp ?_; refine zt ?_
  refine Ev.ieq (fun e1 => ?_) (fun e1 => ?_)
  ·refine ap ?_; refine zt ?_; refine wm ?_; refine zt ?_
   refine Ev.call (eB (k := 1) S3 T hu (by omega)) ?_
   rintro _ _ ⟨rfl, S4⟩
   refine zt ?_; refine wp ?_; refine zt ?_; refine wf ?_; refine zt ?_; refine wl ?_
   refine Ev.cnd ?_ ?_
   ·rw [Bool.and_true]
    exact bVd (S := S3) (List.Mem.head _) rfl rfl (by simp [DV.beq])
   refine zt ?_
   refine Ev.iadd ?_
   refine zt ?_
   refine Ev.ieq (fun e2 => ?_) (fun e2 => ?_)
   ·refine ap ?_; refine yt ?_
    exact pos _ _ _ (by rw [← hd, decide_eq_true (show u.kind = 4 from e1), decide_eq_true (show u.pos = uR (t.pos + 1) from e2)]; rfl) S4
   ·refine ap ?_; refine yj ?_
    exact neg _ _ _ (by rw [← hd, decide_eq_true (show u.kind = 4 from e1), decide_eq_false (show ¬ u.pos = uR (t.pos + 1) from e2)]; rfl) S4
  ·refine ap ?_; refine yf ?_; refine yf ?_; refine yf ?_; refine yf ?_; refine yf ?_
   refine Ev.cnd rfl ?_
   refine yf ?_; refine yf ?_; refine aq ?_; refine yj ?_
   exact neg _ _ _ (by rw [← hd, decide_eq_false (show ¬ u.kind = 4 from e1)]; rfl) S3
theorem uT : ∀ (f j : Nat) (I : Im) (B A L : Ls) (h : Hp) (p : Pos) (s x : DV) (i : Nat) (st : PSt) (l l' : List (List Nat)) (st' : PSt), Sy I (B ++ A) [PD p s i st] L h → Gr I 1 B x l.length (l.map .s) → l.length + f ≤ bL →
 TD I s i st.toks → oZ f l st = some (l', st') →
 Ev (fun n => pM (aJ n) n (n - j) (.p p 0) x h) (fun v h' => ∃ J i', ILe I J ∧ Sy J A [PD p s i' st'] L h' ∧ TD J s i' st'.toks ∧ SS J v l')
 | 0, j, I, B, A, L, h, p, s, x, i, st, l, l', st', S, G, hl, T, hm => by cases hm
 | f + 1, j, I, B, A, L, h, p, s, x, i, st, l, l', st', S, G, hl, T, hm => by
  unfold oZ at hm
  obtain ⟨c, hc, hm⟩ := aT hm
  refine Ev.loop j (ll := fun n m => pM (aJ n) n m (.p p 0) x h) (bb := fun n m => aGd (aJ n) n (pM (aJ n) n m) (.p p 0) x h) (fun _ _ => rfl) ?_
  unfold aGd iK jI
  refine Ev.call (cG S T hc) ?_
  rintro _ _ ⟨rfl, S1⟩
  cases c with
  | false =>
   refine yj ?_
   rw [if_neg (by simp)] at hm
   obtain ⟨⟨t, st1⟩, ht, hm⟩ := aT hm
   simp only [Option.some.injEq, Prod.mk.injEq] at hm
   obtain ⟨rfl, rfl⟩ := hm
   refine Ev.call (nW S1 T ht) ?_
   rintro _ _ ⟨rfl, i2, S2, T2⟩
   obtain ⟨J, gJ, S3, F3⟩ := G.freeze S2
   exact Ev.ret ⟨J, i2, gJ, S3, T2.mono gJ, by omega, F3⟩
  | true =>
   refine yt ?_
   rw [if_pos rfl] at hm
   obtain ⟨⟨t, st1⟩, ht, hm⟩ := aT hm
   refine Ev.call (cD S1 T ht) ?_
   rintro _ _ ⟨rfl, i2, S2, T2⟩
   refine wp ?_
   refine Ev.bs S2 (cs := [.s t.text]) rfl ?_
   intro b3 h3 S3
   have hr : (l.length + 1) * 16 ≤ eM := by simp [eM, bL] at hl ⊢; omega
   obtain ⟨x4, h4, B4, e4, S4, G4⟩ := G.app S3 (nB S3 (n := 1) (List.Mem.head _) rfl (aS rfl aW)) rfl (aS rfl aW) (by omega) hr
   refine Ev.op e4 ?_
   refine uT f (j + 1) I B4 A L h4 p s x4 i2 st1 (l ++ [t.text]) l' st' (dp) ?_ (by simp; omega) T2 hm
   simpa using G4
theorem aBr (f : Nat) (hf : f ≤ bL) (S : Sy I A [PD p s i st] L h) (T : TD I s i st.toks) {l' : List (List Nat)} {st' : PSt} (hm : nS f st = some (l', st')) :
 Ev (fun n => aJ n 45 [.p p 0] h) (fun v h' => ∃ J i', ILe I J ∧ Sy J A [PD p s i' st'] L h' ∧ TD J s i' st'.toks ∧ SS J v l') := by
 unfold nS at hm
 obtain ⟨c, hc, hm⟩ := aT hm
 refine Ev.enter (fun n => cLe n _ h) ?_
 unfold s45 aYq bBm
 refine Ev.call (cG S T hc) ?_
 rintro _ _ ⟨rfl, S1⟩
 unfold aXy
 cases c with
 | false =>
  refine yj ?_
  rw [if_neg (by simp)] at hm
  simp only [Option.some.injEq, Prod.mk.injEq] at hm
  obtain ⟨rfl, rfl⟩ := hm
  unfold jI
  exact Ev.ret ⟨I, i, ILe.refl _, S1, T, SS.nil I⟩
 | true =>
  refine yt ?_
  rw [if_pos rfl] at hm
  obtain ⟨⟨t, st1⟩, ht, hm⟩ := aT hm
  unfold bYe aTb bQf
  refine Ev.call (cD S1 T ht) ?_
  rintro _ _ ⟨rfl, i2, S2, T2⟩
  exact uT f 0 I [] A L _ p s .l0 i2 st1 [] l' st' S2 (Gr.nil I 1) (by simpa using hf) T2 hm
end
end Go.Dd

namespace Go.Dd
open Go.Proofs
def kL : Nat → Node → PSt → Option (Node × PSt)
 | 0, _, _ => none
 | f + 1, x, st => (dT st 1 []).bind fun c => if c then (dV st).bind fun r => kL f (cE r.1.text [x]) r.2 else some (x, st)
def kP (P : PF) (g : Nat) : Nat → Node → PSt → Option (Node × PSt)
 | 0, _, _ => none
 | f + 1, x, st => (dT st 3 []).bind fun c => if c then (dV st).bind fun r => (P r.2).bind fun q => (kL g q.1 q.2).bind fun u => kP P g f (cE r.1.text [x, u.1]) u.2 else some (x, st)
def lC (P : PF) (g : Nat) : Nat → List Nat → List Node → PSt → Option (Node × PSt)
 | 0, _, _, _ => none
 | f + 1, t, ks, st => (dT st 2 []).bind fun c => if c then (dV st).bind fun r => if t.length + r.1.text.length ≤ bL then
  (P r.2).bind fun q => (kL g q.1 q.2).bind fun u => (kP P g g u.1 u.2).bind fun w => lC P g f (t ++ r.1.text) (ks ++ [w.1]) w.2 else none
  else some (cE t ks, st)
def aBn (P : PF) (g : Nat) : PF := fun st => (dT st 1 []).bind fun c => if c then (dV st).bind fun r => some (cE r.1.text [], r.2)
 else (dT st 3 []).bind fun c => if c then (dV st).bind fun r => (P r.2).bind fun q => (kL g q.1 q.2).bind fun u => some (cE r.1.text [u.1], u.2)
 else (dT st 2 []).bind fun c => (if c then some st else (bH st 0).bind fun t => some (bW st t 13)).bind fun st1 => lC P g g [] [] st1
def aOr (P : PF) (g : Nat) : Node → PF := fun x st => (dT st 2 []).bind fun c => if c then (aBn P g st).bind fun m => if 1 ≤ m.1.kids.length ∧ m.1.kids.length + 1 ≤ bL then some (cE m.1.text (x :: m.1.kids), m.2) else none else some (x, st)
def NPostD (I : Im) (A L : Ls) (p : Pos) (s : DV) (x : Node) (st : PSt) (v : DV) (h : Hp) : Prop := ∃ J i cs, v = .a cs ∧ ILe I J ∧ Sy J A [PD p s i st] L h ∧ TD J s i st.toks ∧ NV J x cs
theorem NPostD.le {I J : Im} {A L : Ls} {p : Pos} {s : DV} {x : Node} {st : PSt} (g : ILe I J) : ∀ v h, NPostD J A L p s x st v h → NPostD I A L p s x st v h := by
 rintro v h ⟨K, i, cs, e, g2, r⟩
 exact ⟨K, i, cs, e, g.trans g2, r⟩
def kN (g : FuncId) (f : PF) : Prop := ∀ (I : Im) (A L : Ls) (h : Hp) (p : Pos) (s : DV) (i : Nat) (st : PSt) (x : Node) (st' : PSt), Sy I A [PD p s i st] L h → TD I s i st.toks → f st = some (x, st') →
 Ev (fun n => aJ n g [.p p 0] h) (NPostD I A L p s x st')
def bVe (g : FuncId) (f : Node → PF) : Prop := ∀ (I : Im) (A L : Ls) (h : Hp) (p : Pos) (s : DV) (i : Nat) (st : PSt) (x y : Node) (cs : List DV) (st' : PSt), Sy I A [PD p s i st] L h → TD I s i st.toks → NV I x cs → f x st = some (y, st') →
 Ev (fun n => aJ n g [.p p 0, .a cs] h) (NPostD I A L p s y st')
theorem bNw (n : Nat) (x y : DV) (h : Hp) : aJ (n + 1) 101 [x, y] h = s101 (aJ n) n x y h := by kernel_rfl
theorem bNg (n : Nat) (x y : DV) (h : Hp) : aJ (n + 1) 102 [x, y] h = s102 (aJ n) n x y h := by kernel_rfl
theorem bWo (n : Nat) (x y : DV) (h : Hp) : aJ (n + 1) 103 [x, y] h = s103 (aJ n) n x y h := by kernel_rfl
theorem bWr (n : Nat) (x : DV) (h : Hp) : aJ (n + 1) 104 [x] h = s104 (aJ n) n x h := by kernel_rfl
theorem vD : ∀ (f j : Nat) (I : Im) (A L : Ls) (h : Hp) (p : Pos) (s : DV) (i : Nat) (st : PSt) (x y : Node) (cs z : List DV) (st' : PSt) (b3 b4 : Pos), Sy I A [PD p s i st] ((b4, some (.row .ex z)) :: (b3, some (.row .ex cs)) :: L) h →
 z.length = 6 → (∀ v ∈ z, v.one = true) → TD I s i st.toks → NV I x cs → kL f x st = some (y, st') → Ev (fun n => mI (aJ n) n (n - j) (.p p 0) (.p b3 0) (.p b4 0) h) (NPostD I A L p s y st')
 | 0, j, I, A, L, h, p, s, i, st, x, y, cs, z, st', b3, b4, S, z1, z2, T, N, hm => by cases hm
 | f + 1, j, I, A, L, h, p, s, i, st, x, y, cs, z, st', b3, b4, S, z1, z2, T, N, hm => by
  unfold kL at hm
  obtain ⟨c, hc, hm⟩ := aT hm
  refine Ev.loop j (ll := fun n m => mI (aJ n) n m (.p p 0) (.p b3 0) (.p b4 0) h) (bb := fun n m => wH (aJ n) n (mI (aJ n) n m) (.p p 0) (.p b3 0) (.p b4 0) h) (fun _ _ => rfl) ?_
  unfold wH eU
  obtain ⟨l1, o1, b1⟩ := N.shape
  refine Ev.call (cG S T hc) ?_
  rintro _ _ ⟨rfl, S1⟩
  cases c with
  | false =>
   refine yj ?_; refine ws ?_; refine wt fun _ _ => ?_; refine ws ?_
   rw [if_neg (by simp)] at hm
   simp only [Option.some.injEq, Prod.mk.injEq] at hm
   obtain ⟨rfl, rfl⟩ := hm
   exact Ev.ret ⟨I, i, cs, rfl, ILe.refl _, dp, T, N⟩
  | true =>
   refine yt ?_
   rw [if_pos rfl] at hm
   obtain ⟨⟨t, st1⟩, ht, hm⟩ := aT hm
   have Sr := S1.res
   refine Ev.call (cD Sr T ht) ?_
   rintro _ _ ⟨rfl, i2, S2, T2⟩
   refine wp ?_; refine ws ?_
   refine Ev.cnd ?_ ?_
   ·rw [Bool.and_true]; exact aCd Sr (by repeat (first | exact List.Mem.head _ | apply List.Mem.tail)) l1 o1 b1
   refine Ev.bsAt0 S2 (by repeat (first | exact Rpl.head _ | apply Rpl.tail)) (eX l1) ?_
   intro h3 S3
   obtain ⟨J, gJ, S4, F4, _⟩ := Fz.built (sz := 6) (n := 1) S3 (by omega) o1
   have N4 : NS J _ [x] := ⟨by simp [bL], cs, F4, NVL.single (N.mono gJ)⟩
   have N5 := NV.of (I := J) (k := 7) (t := t.text) (m := 0) (SS.nil J) (SS.nil J) N4
   refine wd ?_; refine wt fun _ _ => ?_
   refine (vD f (j + 1) J A L _ p s i2 st1 _ y _ z st' b3 b4 (by assumption) z1 z2 (T2.mono gJ) N5 hm).mono (NPostD.le gJ)
theorem oV (f : Nat) : bVe 101 (kL f) := by
 intro I A L h p s i st x y cs st' S T N hm
 refine Ev.enter (fun n => bNw n _ _ h) ?_
 unfold s101 aGg aRu
 refine wb fun _ _ _ => ?_; refine wa fun _ _ _ => ?_
 exact vD f 0 _ _ _ _ _ _ _ _ _ _ _ _ _ _ _ (by assumption) rfl (by first | assumption | exact bS _ | (repeat (first | exact aW | refine aS (by first | rfl | assumption | exact Fz.one (by assumption)) ?_))) T N hm
theorem rT {P : PF} (HP : kN 100 P) (g : Nat) : ∀ (f j : Nat) (I : Im) (A L : Ls) (h : Hp) (p : Pos) (s : DV) (i : Nat) (st : PSt) (x y : Node) (cs z : List DV) (st' : PSt) (b3 b4 : Pos), Sy I A [PD p s i st] ((b4, some (.row .ex z)) :: (b3, some (.row .ex cs)) :: L) h →
 z.length = 6 → (∀ v ∈ z, v.one = true) → TD I s i st.toks → NV I x cs → kP P g f x st = some (y, st') → Ev (fun n => nG (aJ n) n (n - j) (.p p 0) (.p b3 0) (.p b4 0) h) (NPostD I A L p s y st')
 | 0, j, I, A, L, h, p, s, i, st, x, y, cs, z, st', b3, b4, S, z1, z2, T, N, hm => by cases hm
 | f + 1, j, I, A, L, h, p, s, i, st, x, y, cs, z, st', b3, b4, S, z1, z2, T, N, hm => by
  unfold kP at hm
  obtain ⟨c, hc, hm⟩ := aT hm
  refine Ev.loop j (ll := fun n m => nG (aJ n) n m (.p p 0) (.p b3 0) (.p b4 0) h) (bb := fun n m => vY (aJ n) n (nG (aJ n) n m) (.p p 0) (.p b3 0) (.p b4 0) h) (fun _ _ => rfl) ?_
  unfold vY eR
  obtain ⟨l1, o1, q1⟩ := N.shape
  refine Ev.call (cG S T hc) ?_
  rintro _ _ ⟨rfl, S1⟩
  cases c with
  | false =>
   refine yj ?_; refine ws ?_; refine wt fun _ _ => ?_; refine ws ?_
   rw [if_neg (by simp)] at hm
   simp only [Option.some.injEq, Prod.mk.injEq] at hm
   obtain ⟨rfl, rfl⟩ := hm
   exact Ev.ret ⟨I, i, cs, rfl, ILe.refl _, dp, T, N⟩
  | true =>
   refine yt ?_
   rw [if_pos rfl] at hm
   obtain ⟨⟨t, st1⟩, ht, hm⟩ := aT hm
   obtain ⟨⟨y1, st2⟩, hy1, hm⟩ := aT hm
   obtain ⟨⟨y2, st3⟩, hy2, hm⟩ := aT hm
   refine Ev.call (cD S1 T ht) ?_
   rintro _ _ ⟨rfl, i2, S2, T2⟩
   refine wp ?_
   refine Ev.call (HP _ _ _ _ _ _ _ _ _ _ S2 T2 hy1) ?_
   rintro _ _ ⟨J, i5, ds, rfl, g5, S5, T5, N5⟩
   obtain ⟨l5, o5, q5⟩ := N5.shape
   refine wa fun _ _ _ => ?_; refine wt fun _ _ => ?_; refine ws ?_
   refine Ev.call (oV g _ _ _ _ _ _ _ _ _ _ _ _ (by assumption) T5 N5 hy2) ?_
   rintro _ _ ⟨K, i6, es, rfl, g6, S6, T6, N6⟩
   obtain ⟨l6, o6, q6⟩ := N6.shape
   refine wt fun _ _ => ?_; refine ws ?_; refine ws ?_
   refine Ev.bs (by assumption) (aFb l1 l6) ?_
   intro b7 h7 S7
   have NL7 : NVL K [x, y2] (cs ++ es) := (NVL.single ((N.mono g5).mono g6)).app (NVL.single N6)
   obtain ⟨c1, c2⟩ := NL7.shape
   obtain ⟨M, g8, S8, F8, _⟩ := Fz.built (sz := 6) (n := 2) S7 c1 c2
   have N8 : NS M _ [x, y2] := ⟨by simp [bL], _, F8, NL7.mono g8⟩
   have N9 := NV.of (I := M) (k := 7) (t := t.text) (m := 0) (SS.nil M) (SS.nil M) N8
   refine wd ?_; refine wt fun _ _ => ?_
   refine (rT HP g f (j + 1) M A L _ p s i6 st3 _ y _ z st' b3 b4 ?_ z1 z2 (T6.mono g8) N9 hm).mono (NPostD.le ((g5.trans g6).trans g8))
   exact Sy.dropL (by assumption)
theorem yX {P : PF} (HP : kN 100 P) (g f : Nat) : bVe 102 (kP P g f) := by
 intro I A L h p s i st x y cs st' S T N hm
 refine Ev.enter (fun n => bNg n _ _ h) ?_
 unfold s102 aFz aRc
 refine wb fun _ _ _ => ?_; refine wa fun _ _ _ => ?_
 exact rT HP g f 0 _ _ _ _ _ _ _ _ _ _ _ _ _ _ _ (by assumption) rfl (by first | assumption | exact bS _ | (repeat (first | exact aW | refine aS (by first | rfl | assumption | exact Fz.one (by assumption)) ?_))) T N hm
theorem pY {P : PF} (HP : kN 100 P) (g : Nat) : ∀ (f j : Nat) (I : Im) (B A L : Ls) (h : Hp) (p : Pos) (s x : DV) (i : Nat) (st : PSt) (t : List Nat) (xs : List Node) (y : Node) (cells z : List DV) (st' : PSt) (b4 b5 : Pos),
 Sy I (B ++ A) [PD p s i st] ((b5, some (.row .ex [.i .i64 (Int.ofNat 7), .s t, .i .i64 (Int.ofNat 0), .l0, .l0, x])) :: (b4, some (.row .ex z)) :: L) h → Gr I 6 B x xs.length cells → NVL I xs cells → z.length = 6 → (∀ v ∈ z, v.one = true) →
 xs.length + f ≤ bL → TD I s i st.toks → lC P g f t xs st = some (y, st') →
 Ev (fun n => mB (aJ n) n (n - j) (.p p 0) (.p b4 0) (.p b5 0) h) (NPostD I A L p s y st')
 | 0, j, I, B, A, L, h, p, s, x, i, st, t, xs, y, cells, z, st', b4, b5, S, G, NL, z1, z2, hl, T, hm => by cases hm
 | f + 1, j, I, B, A, L, h, p, s, x, i, st, t, xs, y, cells, z, st', b4, b5, S, G, NL, z1, z2, hl, T, hm => by
  unfold lC at hm
  obtain ⟨c, hc, hm⟩ := aT hm
  refine Ev.loop j (ll := fun n m => mB (aJ n) n m (.p p 0) (.p b4 0) (.p b5 0) h) (bb := fun n m => wB (aJ n) n (mB (aJ n) n m) (.p p 0) (.p b4 0) (.p b5 0) h) (fun _ _ => rfl) ?_
  have hx := G.one
  unfold wB eV
  refine Ev.call (cG S T hc) ?_
  rintro _ _ ⟨rfl, S1⟩
  cases c with
  | false =>
   rw [if_neg (by simp)] at hm
   simp only [Option.some.injEq, Prod.mk.injEq] at hm
   obtain ⟨rfl, rfl⟩ := hm
   obtain ⟨J, gJ, S3, N3⟩ := G.nodes NL S1 (by omega)
   refine yj ?_; refine ws ?_; refine wt fun _ _ => ?_; refine ws ?_
   exact Ev.ret ⟨J, i, _, rfl, gJ, dp, T.mono gJ, NV.of (SS.nil J) (SS.nil J) N3⟩
  | true =>
   rw [if_pos rfl] at hm
   obtain ⟨⟨t1, st1⟩, ht, hm⟩ := aT hm
   split at hm
   ·rename_i hlen
    obtain ⟨⟨y1, st2⟩, hy1, hm⟩ := aT hm
    obtain ⟨⟨y2, st3⟩, hy2, hm⟩ := aT hm
    obtain ⟨⟨y3, st4⟩, hy3, hm⟩ := aT hm
    refine yt ?_; refine wf ?_; refine wl ?_
    refine Ev.call (cD S1 T ht) ?_
    rintro _ _ ⟨rfl, i2, S2, T2⟩
    refine Ev.cnd ?_ ?_
    ·rw [Bool.and_true]; exact eG S2 (by repeat (first | exact List.Mem.head _ | apply List.Mem.tail)) rfl rfl (sR _)
    refine wp ?_
    refine Ev.sadd (by simp only [bL] at hlen; omega) ?_
    refine wf ?_; refine wu fun _ _ => ?_
    refine Ev.call (HP _ _ _ _ _ _ _ _ _ _ (by assumption) T2 hy1) ?_
    rintro _ _ ⟨J, i5, ds, rfl, g5, S5, T5, N5⟩
    obtain ⟨l5, o5, q5⟩ := N5.shape
    refine wa fun _ _ _ => ?_; refine wt fun _ _ => ?_; refine ws ?_
    refine Ev.call (oV g _ _ _ _ _ _ _ _ _ _ _ _ (by assumption) T5 N5 hy2) ?_
    rintro _ _ ⟨K, i6, es, rfl, g6, S6, T6, N6⟩
    obtain ⟨l6, o6, q6⟩ := N6.shape
    refine wt fun _ _ => ?_; refine wf ?_
    have Sr := Sy.res (by assumption)
    refine wl ?_; refine ws ?_
    refine Ev.call (yX HP g g _ _ _ _ _ _ _ _ _ _ _ _ Sr T6 N6 hy3) ?_
    rintro _ _ ⟨M, i7, fs, rfl, g7, S7, T7, N7⟩
    obtain ⟨l7, o7, q7⟩ := N7.shape
    refine Ev.cnd ?_ ?_
    ·rw [Bool.and_true]; exact eG S7 (by repeat (first | exact List.Mem.head _ | apply List.Mem.tail)) rfl hx G.beq
    refine Ev.bsAt0 S7 (by repeat (first | exact Rpl.head _ | apply Rpl.tail)) (eX l7) ?_
    intro h8 S8
    have g57 := (g5.trans g6).trans g7
    obtain ⟨x10, h10, B10, cells10, e10, S10, G10, NL10⟩ := dZ (G.mono g57) (NL.mono g57) N7 S8 (by repeat (first | exact List.Mem.head _ | apply List.Mem.tail)) (by omega)
    have hx10 := G10.one
    refine Ev.op e10 ?_
    refine wf ?_; refine wu fun _ _ => ?_
    refine (pY HP g f (j + 1) M B10 A L _ p s x10 i7 st4 (t ++ t1.text) (xs ++ [y3]) y cells10 z st' b4 b5 ?_ G10 NL10 z1 z2 (by simp; omega) T7 hm).mono (NPostD.le g57)
    exact Sy.dropL (Sy.dropL (by assumption))
   ·cases hm
theorem aTp {P : PF} (HP : kN 100 P) (g : Nat) (hg : g + 1 ≤ bL) : kN 104 (aBn P g) := by
 intro I A L h p s i st x st' S T hm
 have hs := T.one
 unfold aBn at hm
 obtain ⟨c1, hc1, hm⟩ := aT hm
 refine Ev.enter (fun n => bWr n _ h) ?_
 unfold s104 aEw
 refine wa fun _ _ _ => ?_; refine wd ?_; refine wa fun _ _ _ => ?_; refine wt fun _ _ => ?_
 unfold aGm
 refine Ev.call (cG (by assumption) T hc1) ?_
 rintro _ _ ⟨rfl, S1⟩
 cases c1 with
 | true =>
  refine yt ?_
  rw [if_pos rfl] at hm
  obtain ⟨⟨t, st1⟩, ht, hm⟩ := aT hm
  simp only [Option.some.injEq, Prod.mk.injEq] at hm
  obtain ⟨rfl, rfl⟩ := hm
  refine Ev.call (cD S1 T ht) ?_
  rintro _ _ ⟨rfl, i2, S2, T2⟩
  refine wp ?_; refine wf ?_; refine wu fun _ _ => ?_; refine ws ?_; refine wt fun _ _ => ?_; refine ws ?_
  exact Ev.ret ⟨I, i2, _, rfl, ILe.refl _, dp, T2, NV.flat _ _ _⟩
 | false =>
  refine yj ?_
  rw [if_neg (by simp)] at hm
  obtain ⟨c3, hc3, hm⟩ := aT hm
  unfold aKk
  refine Ev.call (cG S1 T hc3) ?_
  rintro _ _ ⟨rfl, S2⟩
  cases c3 with
  | true =>
   refine yt ?_
   rw [if_pos rfl] at hm
   obtain ⟨⟨t, st1⟩, ht, hm⟩ := aT hm
   obtain ⟨⟨y1, st2⟩, hy1, hm⟩ := aT hm
   obtain ⟨⟨y2, st3⟩, hy2, hm⟩ := aT hm
   simp only [Option.some.injEq, Prod.mk.injEq] at hm
   obtain ⟨rfl, rfl⟩ := hm
   refine Ev.call (cD S2 T ht) ?_
   rintro _ _ ⟨rfl, i3, S3, T3⟩
   refine wp ?_; refine wf ?_; refine wu fun _ _ => ?_
   refine Ev.call (HP _ _ _ _ _ _ _ _ _ _ (by assumption) T3 hy1) ?_
   rintro _ _ ⟨J, i5, ds, rfl, g5, S5, T5, N5⟩
   obtain ⟨l5, o5, q5⟩ := N5.shape
   refine wa fun _ _ _ => ?_; refine wt fun _ _ => ?_; refine wf ?_
   have Sr := Sy.res (by assumption)
   refine wl ?_; refine ws ?_
   refine Ev.call (oV g _ _ _ _ _ _ _ _ _ _ _ _ Sr T5 N5 hy2) ?_
   rintro _ _ ⟨K, i6, es, rfl, g6, S6, T6, N6⟩
   obtain ⟨l6, o6, q6⟩ := N6.shape
   refine Ev.cnd ?_ ?_
   ·rw [Bool.and_true]; exact eG S6 (by repeat (first | exact List.Mem.head _ | apply List.Mem.tail)) rfl rfl rfl
   refine Ev.bsAt0 S6 (by repeat (first | exact Rpl.head _ | apply Rpl.tail)) (eX l6) ?_
   intro h8 S8
   obtain ⟨x10, h10, B10, cells10, e10, S10, G10, NL10⟩ := dZ (B := []) (xs := []) (Gr.nil K 6) rfl N6 S8 (by repeat (first | exact List.Mem.head _ | apply List.Mem.tail)) (by simp [bL])
   have hx10 := G10.one
   refine Ev.op e10 ?_
   obtain ⟨M, gM, S11, N11⟩ := G10.nodes NL10 S10 (by simp [bL])
   refine wf ?_; refine wu fun _ _ => ?_; refine ws ?_; refine wt fun _ _ => ?_; refine ws ?_
   exact Ev.ret ⟨M, i6, _, rfl, (g5.trans g6).trans gM, dp, T6.mono gM, NV.of (SS.nil M) (SS.nil M) N11⟩
  | false =>
   refine yj ?_
   rw [if_neg (by simp)] at hm
   obtain ⟨c2, hc2, hm⟩ := aT hm
   obtain ⟨st1, hst, hm⟩ := aT hm
   unfold aFe
   refine Ev.call (cG S2 T hc2) ?_
   rintro _ _ ⟨rfl, S3⟩
   cases c2 with
   | true =>
    refine an ?_; refine yj ?_
    rw [if_pos rfl] at hst
    cases hst
    unfold uE aIv
    exact pY HP g g 0 I [] A L _ p s .l0 i st [] [] x [] _ st' _ _ S3 (Gr.nil I 6) rfl rfl (by first | assumption | exact bS _ | (repeat (first | exact aW | refine aS (by first | rfl | assumption | exact Fz.one (by assumption)) ?_))) (by simp; omega) T hm
   | false =>
    refine ao ?_; refine yt ?_
    rw [if_neg (by simp)] at hst
    obtain ⟨t, ht, hst⟩ := aT hst
    cases hst
    refine Ev.call (eB (k := 0) S3 T ht (by omega)) ?_
    rintro _ _ ⟨rfl, S4⟩
    refine Ev.call (iY S4 hs t _) ?_
    rintro _ _ ⟨rfl, S5⟩
    unfold uE aIv
    exact pY HP g g 0 I [] A L _ p s .l0 i _ [] [] x [] _ st' _ _ S5 (Gr.nil I 6) rfl rfl (by first | assumption | exact bS _ | (repeat (first | exact aW | refine aS (by first | rfl | assumption | exact Fz.one (by assumption)) ?_))) (by simp; omega) (by rw [bV]; exact T) hm
theorem NV.text_at {I : Im} {x : Node} {cs : List DV} (N : NV I x cs) : cs[1]? = some (.s x.text) ∧ ∃ v, cs[5]? = some v ∧ NS I v x.kids := by
 cases x with
 | mk k t m ns ts ks =>
  obtain ⟨s1, s2, s3, rfl, a1, a2, a3, cells, F, NL⟩ := N
  exact ⟨rfl, s3, rfl, a3, cells, F, NL⟩
theorem bUb {P : PF} (HP : kN 100 P) (g : Nat) (hg : g + 1 ≤ bL) : bVe 103 (aOr P g) := by
 intro I A L h p s i st x y cs st' S T N hm
 have hs := T.one
 obtain ⟨l0, o0, q0⟩ := N.shape
 unfold aOr at hm
 obtain ⟨c, hc, hm⟩ := aT hm
 refine Ev.enter (fun n => bWo n _ _ h) ?_
 unfold s103
 refine wb fun _ _ _ => ?_; refine wa fun _ _ _ => ?_
 refine Ev.call (cG (by assumption) T hc) ?_
 rintro _ _ ⟨rfl, S1⟩
 cases c with
 | false =>
  refine ao ?_; refine yt ?_; refine ws ?_; refine wt fun _ _ => ?_; refine ws ?_
  rw [if_neg (by simp)] at hm
  simp only [Option.some.injEq, Prod.mk.injEq] at hm
  obtain ⟨rfl, rfl⟩ := hm
  exact Ev.ret ⟨I, i, cs, rfl, ILe.refl _, dp, T, N⟩
 | true =>
  refine an ?_; refine yj ?_
  rw [if_pos rfl] at hm
  obtain ⟨⟨m, st1⟩, hmm, hm⟩ := aT hm
  split at hm
  ·rename_i hk
   simp only [Option.some.injEq, Prod.mk.injEq] at hm
   obtain ⟨rfl, rfl⟩ := hm
   refine Ev.call (aTp HP g hg _ _ _ _ _ _ _ _ _ _ S1 T hmm) ?_
   rintro _ _ ⟨J, i5, ds, rfl, g5, S5, T5, N5⟩
   obtain ⟨l5, o5, q5⟩ := N5.shape
   obtain ⟨e1, v5, e5, NK⟩ := N5.text_at
   have ov := NK.one
   refine wa fun _ _ _ => ?_; refine wt fun _ _ => ?_; refine ws ?_
   refine Ev.bs (by assumption) (eX l0) ?_
   intro b6 h6 S6
   obtain ⟨K, gK, S7, F7, G7⟩ := Fz.built (sz := 6) (n := 1) S6 (by omega) o0
   refine Ev.fld (Ev.op (ld1 (S7.memL (by repeat (first | exact List.Mem.head _ | apply List.Mem.tail))) (by simpa using e5) ov) ?_)
   obtain ⟨hkl, cells, FK, NLK⟩ := NK.mono gK
   have hk1 : 1 ≤ m.kids.length := hk.1
   have hk2 : m.kids.length + 1 ≤ bL := hk.2
   obtain ⟨n1, n2⟩ := NLK.shape
   have hr : (1 + m.kids.length) * 104 ≤ eM := by simp [eM, bL] at hk2 ⊢; omega
   obtain ⟨x8, h8, B8, e8, S8, G8⟩ := G7.app (bytes := 104) (A0 := A) (by simpa using S7) (FK.src S7) n1 n2 (by omega) hr
   refine Ev.op e8 ?_
   have G9 : Gr K 6 B8 x8 (x :: m.kids).length (cs ++ cells) := by
    have : (x :: m.kids).length = 1 + m.kids.length := by simp; omega
    rw [this]; exact G8
   obtain ⟨M, gM, S9, N9⟩ := G9.nodes ((NVL.single (((N.mono g5).mono gK))).app NLK) S8 (by simp; omega)
   have o9 := N9.one
   refine Ev.fld (Ev.op (ld1 (S9.memL (by repeat (first | exact List.Mem.head _ | apply List.Mem.tail))) (by simpa using e1) rfl) ?_)
   refine wd ?_; refine wt fun _ _ => ?_; refine ws ?_
   exact Ev.ret ⟨M, i5, _, rfl, (g5.trans gK).trans gM, dp, (T5.mono gK).mono gM, NV.of (SS.nil M) (SS.nil M) N9⟩
  ·cases hm
end Go.Dd

namespace Go.Dd
open Go.Proofs
def kE (LI : PF) : Nat → List Node → PSt → Option (List Node × PSt)
 | 0, _, _ => none
 | f + 1, xs, st => if st.err = 0 then (dT st 10 [41]).bind fun c => if c then some (xs, st) else
  (rL st).bind fun r => if r.1.2 then kE LI f (xs ++ [r.1.1]) r.2 else
   (dT r.2 7 []).bind fun c1 => (if c1 then some true else dT r.2 10 [40]).bind fun c2 =>
    if c2 then (LI r.2).bind fun q => kE LI f (xs ++ [q.1]) q.2 else (bH r.2 0).bind fun t => kE LI f (xs ++ [r.1.1]) (bW r.2 t 13)
  else some (xs, st)
def aIb (q : List Node × PSt) : Option (List Node × PSt) := if q.2.err = 0 then (dV q.2).bind fun u => some (q.1, { u.2 with deep := uR (u.2.deep - 1) }) else some q
def gQ (LI : PF) (f : Nat) : PF := fun st => (pG st).bind fun r => ((if r.1 then kE LI f [] r.2 else some ([], r.2)).bind aIb).bind fun q => some (.mk 4 [] 0 [] [] q.1, q.2)
def kA : Nat → List (List Nat) → PSt → Option (List (List Nat) × PSt)
 | 0, _, _ => none
 | f + 1, l, st => (dT st 8 []).bind fun c => if c then (uC st 8 l).bind fun r => kA f r.1 r.2 else some (l, st)
def iS (E : PF) : Nat → List Node → PSt → Option (List Node × PSt)
 | 0, _, _ => none
 | f + 1, xs, st => if st.err = 0 then (dT st 0 []).bind fun c => if c then some (xs, st) else (dT st 10 [93]).bind fun c => if c then some (xs, st) else
  (dT st 10 [94]).bind fun c =>
   if c then (dV st).bind fun r => (E r.2).bind fun q => (dT q.2 10 [46]).bind fun d => if d then (dV q.2).bind fun u => some (xs ++ [.mk 10 [] 0 [] [] [q.1]], u.2) else some (xs ++ [.mk 10 [] 0 [] [] [q.1]], q.2)
   else (E st).bind fun q => (dT q.2 10 [46]).bind fun d => if d then (dV q.2).bind fun u => iS E f (xs ++ [q.1]) u.2 else some (xs ++ [q.1], q.2)
  else some (xs, st)
def aQp (l : List (List Nat)) (st : PSt) : Option PSt :=
 if 0 < l.length then (dT st 10 [93]).bind fun c => if c then some st else (nI st 10 [124]).bind fun r => some r.2 else some st
def tC (E : PF) (f : Nat) : PF := fun st => (pG st).bind fun o => if o.1 then
 (kA f [] o.2).bind fun r => (aQp r.1 r.2).bind fun st2 => (nS f st2).bind fun q => (iS E f [] q.2).bind fun u => (nI u.2 10 [93]).bind fun w => some (.mk 9 [] 0 r.1 q.1 u.1, { w.2 with deep := uR (w.2.deep - 1) })
 else some (.mk 9 [] 0 [] [] [], o.2)
def lG (LI E : PF) (f : Nat) : PF := fun st => if st.err = 0 then (rL st).bind fun r => if r.1.2 then some (r.1.1, r.2) else
 (dT r.2 1 []).bind fun c => if c then (dV r.2).bind fun q => some (.mk 5 q.1.text 0 [] [] [], q.2)
 else (dT r.2 7 []).bind fun c => if c then LI r.2
 else (dT r.2 10 [40]).bind fun c => if c then (pG r.2).bind fun o => if o.1 then (E o.2).bind fun x => (nI x.2 10 [41]).bind fun w => some (x.1, { w.2 with deep := uR (w.2.deep - 1) }) else some (r.1.1, o.2)
 else (dT r.2 10 [91]).bind fun c => if c then tC E f r.2
 else (bH r.2 0).bind fun t => some (r.1.1, bW r.2 t 13)
 else some (zN, st)
theorem bUe (n : Nat) (x : DV) (h : Hp) : aJ (n + 1) 129 [x] h = s129 (aJ n) n x h := by kernel_rfl
theorem cBy (n : Nat) (x : DV) (h : Hp) : aJ (n + 1) 46 [x] h = s46 (aJ n) n x h := by kernel_rfl
theorem bTk (n : Nat) (x : DV) (h : Hp) : aJ (n + 1) 131 [x] h = s131 (aJ n) n x h := by kernel_rfl
theorem bVt (n : Nat) (x : DV) (h : Hp) : aJ (n + 1) 100 [x] h = s100 (aJ n) n x h := by kernel_rfl
theorem sY {I : Im} {B A L : Ls} {h : Hp} {p : Pos} {s x : DV} {i : Nat} {st : PSt} {xs ys : List Node} {cells z : List DV} {st' : PSt} {b2 b3 : Pos}
 (S : Sy I (B ++ A) [PD p s i st] ((b3, some (.row .ex [.i .i64 (Int.ofNat 4), .s [], .i .i64 (Int.ofNat 0), .l0, .l0, x])) :: (b2, some (.row .ex z)) :: L) h) (G : Gr I 6 B x xs.length cells) (NL : NVL I xs cells) (z1 : z.length = 6) (z2 : ∀ v ∈ z, v.one = true)
 (hl : xs.length ≤ bL) (T : TD I s i st.toks) (hm : aIb (xs, st) = some (ys, st')) : Ev (fun n => eF (aJ n) n (.p p 0) (.p b2 0) (.p b3 0) h) (NPostD I A L p s (.mk 4 [] 0 [] [] ys) st') := by
 have hs := T.one
 have hx := G.one
 unfold aIb at hm
 unfold eF
 refine wn ?_; refine wf ?_; refine wq ?_
 refine Ev.ieq (fun e1 => ?_) (fun e1 => ?_)
 ·refine yt ?_
  rw [if_pos (show st.err = 0 from e1)] at hm
  obtain ⟨⟨t, st1⟩, ht, hm⟩ := aT hm
  simp only [Option.some.injEq, Prod.mk.injEq] at hm
  obtain ⟨rfl, rfl⟩ := hm
  refine Ev.call (cD (by assumption) T ht) ?_
  rintro _ _ ⟨rfl, i2, S2, T2⟩
  refine wn ?_; refine wf ?_; refine wq ?_
  refine Ev.isub ?_
  refine wn ?_; refine wf ?_; refine wv fun _ _ => ?_
  rename_i h9 S9
  obtain ⟨J, gJ, S3, N3⟩ := G.nodes NL S9 hl
  have o3 := N3.one
  unfold aGf
  refine ws ?_; refine wt fun _ _ => ?_; refine ws ?_
  exact Ev.ret ⟨J, i2, _, rfl, gJ, dp, T2.mono gJ, NV.of (SS.nil J) (SS.nil J) N3⟩
 ·refine yj ?_
  rw [if_neg (show ¬ st.err = 0 from e1)] at hm
  simp only [Option.some.injEq, Prod.mk.injEq] at hm
  obtain ⟨rfl, rfl⟩ := hm
  obtain ⟨J, gJ, S3, N3⟩ := G.nodes NL S hl
  have o3 := N3.one
  unfold aGf
  refine ws ?_; refine wt fun _ _ => ?_; refine ws ?_
  exact Ev.ret ⟨J, i, _, rfl, gJ, dp, T.mono gJ, NV.of (SS.nil J) (SS.nil J) N3⟩
theorem xH {LI : PF} (HL : kN 129 LI) : ∀ (f j : Nat) (I : Im) (B A L : Ls) (h : Hp) (p : Pos) (s x : DV) (i : Nat) (st : PSt) (xs ys : List Node) (cells z : List DV) (st' : PSt) (b2 b3 : Pos),
 Sy I (B ++ A) [PD p s i st] ((b3, some (.row .ex [.i .i64 (Int.ofNat 4), .s [], .i .i64 (Int.ofNat 0), .l0, .l0, x])) :: (b2, some (.row .ex z)) :: L) h → Gr I 6 B x xs.length cells → NVL I xs cells → z.length = 6 → (∀ v ∈ z, v.one = true) →
 xs.length + f ≤ bL → TD I s i st.toks → (kE LI f xs st).bind aIb = some (ys, st') →
 Ev (fun n => gB (aJ n) n (n - j) (.p p 0) (.p b2 0) (.p b3 0) (.b true) h) (NPostD I A L p s (.mk 4 [] 0 [] [] ys) st')
 | 0, j, I, B, A, L, h, p, s, x, i, st, xs, ys, cells, z, st', b2, b3, S, G, NL, z1, z2, hl, T, hm => by cases hm
 | f + 1, j, I, B, A, L, h, p, s, x, i, st, xs, ys, cells, z, st', b2, b3, S, G, NL, z1, z2, hl, T, hm => by
  unfold kE at hm
  refine Ev.loop j (ll := fun n m => gB (aJ n) n m (.p p 0) (.p b2 0) (.p b3 0) (.b true) h) (bb := fun n m => oN (aJ n) n (gB (aJ n) n m) (.p p 0) (.p b2 0) (.p b3 0) (.b true) h) (fun _ _ => rfl) ?_
  have hs := T.one
  have hx := G.one
  unfold oN
  refine zt ?_; refine wm ?_; refine zt ?_; refine wn ?_; refine zt ?_; refine wf ?_; refine zt ?_; refine wq ?_; refine zt ?_
  refine Ev.ieq (fun e1 => ?_) (fun e1 => ?_)
  ·rw [if_pos (show st.err = 0 from e1)] at hm
   refine ap ?_; refine zt ?_; refine wm ?_; refine zt ?_
   rw [Option.bind_assoc] at hm
   obtain ⟨c, hc, hm⟩ := aT hm
   refine Ev.call (cG (by assumption) T hc) ?_
   rintro _ _ ⟨rfl, S1⟩
   cases c with
   | true =>
    refine zt ?_; refine an ?_; refine ap ?_; refine yj ?_
    exact sY S1 G NL z1 z2 (by omega) T (by simpa using hm)
   | false =>
    refine zt ?_; refine ao ?_; refine ap ?_; refine yt ?_
    rw [if_neg (by simp), Option.bind_assoc] at hm
    obtain ⟨⟨⟨y, d⟩, st1⟩, hy, hm⟩ := aT hm
    unfold bPr
    refine Ev.call (aDd S1 T hy) ?_
    rintro _ _ ⟨i2, cs, rfl, S2, T2, N2⟩
    obtain ⟨l2, o2, q2⟩ := N2.shape
    refine wx ?_; refine wx ?_; refine wa fun _ _ _ => ?_; refine wt fun _ _ => ?_
    unfold bHq
    have body : ∀ (J : Im) (h' : Hp) (b4 : Pos) (y' : Node) (cs' : List DV) (i' : Nat) (st1' : PSt), ILe I J → Sy J (B ++ A) [PD p s i' st1'] ((b4, some (.row .ex cs')) :: (b3, some (.row .ex [.i .i64 (Int.ofNat 4), .s [], .i .i64 (Int.ofNat 0), .l0, .l0, x])) :: (b2, some (.row .ex z)) :: L) h' →
     TD J s i' st1'.toks → NV J y' cs' → (kE LI f (xs ++ [y']) st1').bind aIb = some (ys, st') →
     Ev (fun n => pX (aJ n) n (gB (aJ n) n (n - (j + 1))) (.p p 0) (.p b2 0) (.p b3 0) (.b true) (.p b4 0) h') (NPostD I A L p s (.mk 4 [] 0 [] [] ys) st') := by
     intro J h' b4 y' cs' i' st1' gJ S' T' N' hm
     obtain ⟨l', o', q'⟩ := N'.shape
     unfold pX
     refine wf ?_; refine wl ?_; refine ws ?_
     refine Ev.bs S' (eX l') ?_
     intro b6 h6 S6
     obtain ⟨x10, h10, B10, cells10, e10, S10, G10, NL10⟩ := dZ (G.mono gJ) (NL.mono gJ) N' S6 (List.Mem.head _) (by omega)
     have hx10 := G10.one
     refine Ev.op e10 ?_
     refine wf ?_; refine wu fun _ _ => ?_
     refine (xH HL f (j + 1) J B10 A L _ p s x10 i' st1' (xs ++ [y']) ys cells10 z st' b2 b3 ?_ G10 NL10 z1 z2 (by simp; omega) T' hm).mono (NPostD.le gJ)
     exact Sy.dropL (Sy.dropL (by assumption))
    cases d with
    | true =>
     refine an ?_; refine yj ?_
     exact body I _ _ y cs i2 st1 (ILe.refl _) (by assumption) T2 N2 (by simpa using hm)
    | false =>
     refine ao ?_; refine yt ?_
     rw [if_neg (by simp), Option.bind_assoc] at hm
     obtain ⟨c1, hc1, hm⟩ := aT hm
     rw [Option.bind_assoc] at hm
     obtain ⟨c2, hc2, hm2⟩ := aT hm
     refine Ev.call (cG (by assumption) T2 hc1) ?_
     rintro _ _ ⟨rfl, S3⟩
     have more : ∀ (b4 : Pos) h', Sy I (B ++ A) [PD p s i2 st1] ((b4, some (.row .ex cs)) :: (b3, some (.row .ex [.i .i64 (Int.ofNat 4), .s [], .i .i64 (Int.ofNat 0), .l0, .l0, x])) :: (b2, some (.row .ex z)) :: L) h' → (if c2 = true then (LI st1).bind fun q => kE LI f (xs ++ [q.1]) q.2 else (bH st1 0).bind fun t => kE LI f (xs ++ [y]) (bW st1 t 13)).bind aIb = some (ys, st') →
      Ev (fun n => aU (.b c2)
       (bnd (aJ n 129 [.p p 0] h') fun v41 h41 => bnd (aC 6 (.p b4 0) v41 h41) fun _ h42 => pX (aJ n) n (gB (aJ n) n (n - (j + 1))) (.p p 0) (.p b2 0) (.p b3 0) (.b true) (.p b4 0) h42)
       (bnd (aJ n 73 [.p p 0, .i .i64 (Int.ofNat 0)] h') fun v43 h43 => bnd (aJ n 71 [.p p 0, v43, .i .i64 (Int.ofNat 13)] h43) fun v44 h44 => pX (aJ n) n (gB (aJ n) n (n - (j + 1))) (.p p 0) (.p b2 0) (.p b3 0) (.b true) (.p b4 0) h44))
       (NPostD I A L p s (.mk 4 [] 0 [] [] ys) st') := by
      intro b4 h' S' hm
      cases c2 with
      | true =>
       rw [if_pos rfl, Option.bind_assoc] at hm
       obtain ⟨⟨w, st2⟩, hw, hm⟩ := aT hm
       refine yt ?_
       refine Ev.call (HL _ _ _ _ _ _ _ _ _ _ S' T2 hw) ?_
       rintro _ _ ⟨J, i5, ds, rfl, g5, S5, T5, N5⟩
       obtain ⟨l5, o5, q5⟩ := N5.shape
       refine wt fun _ _ => ?_
       exact body J _ _ w ds i5 st2 g5 (by assumption) T5 N5 hm
      | false =>
       rw [if_neg (by simp), Option.bind_assoc] at hm
       obtain ⟨t, ht, hm⟩ := aT hm
       refine yj ?_
       refine Ev.call (eB (k := 0) S' T2 ht (by omega)) ?_
       rintro _ _ ⟨rfl, S5⟩
       refine Ev.call (iY S5 hs t _) ?_
       rintro _ _ ⟨rfl, S6⟩
       exact body I _ _ y cs i2 _ (ILe.refl _) S6 (by rw [bV]; exact T2) N2 hm
     cases c1 with
     | true =>
      rw [if_pos rfl] at hc2
      cases hc2
      refine yg ?_; refine yg ?_; refine ap ?_; refine yt ?_
      exact more _ _ S3 hm2
     | false =>
      rw [if_neg (by simp)] at hc2
      refine zf ?_; refine wm ?_; refine zf ?_
      refine Ev.call (cG S3 T2 hc2) ?_
      rintro _ _ ⟨rfl, S4⟩
      refine aq ?_
      exact more _ _ S4 hm2
  ·rw [if_neg (show ¬ st.err = 0 from e1)] at hm
   refine ap ?_; refine yf ?_; refine yf ?_; refine yf ?_; refine aq ?_; refine yj ?_
   exact sY S G NL z1 z2 (by omega) T (by simpa using hm)
theorem sP {LI : PF} (HL : kN 129 LI) (f : Nat) (hf : f ≤ bL) : kN 129 (gQ LI f) := by
 intro I A L h p s i st x st' S T hm
 unfold gQ at hm
 obtain ⟨⟨ok, st1⟩, ho, hm⟩ := aT hm
 obtain ⟨⟨ys, st2⟩, hy, hm⟩ := aT hm
 simp only [Option.some.injEq, Prod.mk.injEq] at hm
 obtain ⟨rfl, rfl⟩ := hm
 refine Ev.enter (fun n => bUe n _ h) ?_
 unfold s129 aJl
 refine wa fun _ _ _ => ?_; refine wd ?_; refine wa fun _ _ _ => ?_; refine wt fun _ _ => ?_
 unfold aFo
 refine Ev.call (wP (by assumption) T ho) ?_
 rintro _ h1 ⟨rfl, i1, S1, T1⟩
 unfold aIc aQe
 cases ok with
 | true =>
  rw [if_pos rfl] at hy
  exact xH HL f 0 I [] A L h1 p s .l0 i1 st1 [] ys [] _ st2 _ _ S1 (Gr.nil I 6) rfl rfl (by first | assumption | exact bS _ | (repeat (first | exact aW | refine aS (by first | rfl | assumption | exact Fz.one (by assumption)) ?_))) (by simpa using hf) T1 hy
 | false =>
  rw [if_neg (by simp), Option.bind_some] at hy
  rename_i b2 _ _ b3 _ _ _ _
  refine Ev.loop 0 (ll := fun n m => gB (aJ n) n m (.p p 0) (.p _ 0) (.p _ 0) (.b false) h1) (bb := fun n m => oN (aJ n) n (gB (aJ n) n m) (.p p 0) (.p _ 0) (.p _ 0) (.b false) h1) (fun _ _ => rfl) ?_
  unfold oN
  refine yf ?_; refine yf ?_; refine yf ?_; refine yf ?_; refine yf ?_; refine aq ?_; refine yf ?_; refine yf ?_; refine yf ?_; refine aq ?_; refine yj ?_
  exact sY (B := []) (xs := []) (cells := []) S1 (Gr.nil I 6) rfl rfl (by first | assumption | exact bS _ | (repeat (first | exact aW | refine aS (by first | rfl | assumption | exact Fz.one (by assumption)) ?_))) (by simp) T1 hy
theorem uQ {E : PF} (HE : kN 72 E) : ∀ (f j : Nat) (I : Im) (B A L : Ls) (h : Hp) (p : Pos) (s x : DV) (i : Nat) (st : PSt) (xs ys : List Node) (cells : List DV) (st' : PSt), Sy I (B ++ A) [PD p s i st] L h → Gr I 6 B x xs.length cells → NVL I xs cells →
 xs.length + f ≤ bL → TD I s i st.toks → iS E f xs st = some (ys, st') →
 Ev (fun n => rP (aJ n) n (n - j) (.p p 0) x h) (fun v h' => ∃ J i', ILe I J ∧ Sy J A [PD p s i' st'] L h' ∧ TD J s i' st'.toks ∧ NS J v ys)
 | 0, j, I, B, A, L, h, p, s, x, i, st, xs, ys, cells, st', S, G, NL, hl, T, hm => by cases hm
 | f + 1, j, I, B, A, L, h, p, s, x, i, st, xs, ys, cells, st', S, G, NL, hl, T, hm => by
  unfold iS at hm
  refine Ev.loop j (ll := fun n m => rP (aJ n) n m (.p p 0) x h) (bb := fun n m => aEu (aJ n) n (rP (aJ n) n m) (.p p 0) x h) (fun _ _ => rfl) ?_
  have hs := T.one
  unfold aEu fW
  refine wn ?_; refine wf ?_; refine wq ?_
  have fin : ∀ h', Sy I (B ++ A) [PD p s i st] L h' → some (xs, st) = some (ys, st') → Ev (fun _ => some (x, h')) (fun v h' => ∃ J i', ILe I J ∧ Sy J A [PD p s i' st'] L h' ∧ TD J s i' st'.toks ∧ NS J v ys) := by
   intro h' S' hm
   simp only [Option.some.injEq, Prod.mk.injEq] at hm
   obtain ⟨rfl, rfl⟩ := hm
   obtain ⟨J, gJ, S3, N3⟩ := G.nodes NL S' (by omega)
   exact Ev.ret ⟨J, i, gJ, S3, T.mono gJ, N3⟩
  refine Ev.ieq (fun e1 => ?_) (fun e1 => ?_)
  ·rw [if_pos (show st.err = 0 from e1)] at hm
   refine zt ?_; refine wm ?_; refine zt ?_
   obtain ⟨c, hc, hm⟩ := aT hm
   refine Ev.call (cG (by assumption) T hc) ?_
   rintro _ _ ⟨rfl, S1⟩
   cases c with
   | true =>
    refine zt ?_; refine an ?_; refine ap ?_; refine yf ?_; refine yf ?_; refine yf ?_; refine aq ?_; refine yj ?_
    exact fin _ S1 (by simpa using hm)
   | false =>
    refine zt ?_; refine ao ?_; refine ap ?_; refine zt ?_; refine wm ?_; refine zt ?_
    rw [if_neg (by simp)] at hm
    obtain ⟨c, hc, hm⟩ := aT hm
    refine Ev.call (cG (by assumption) T hc) ?_
    rintro _ _ ⟨rfl, S2⟩
    cases c with
    | true =>
     refine zt ?_; refine an ?_; refine ap ?_; refine yj ?_
     exact fin _ S2 (by simpa using hm)
    | false =>
     refine zt ?_; refine ao ?_; refine ap ?_; refine yt ?_
     rw [if_neg (by simp)] at hm
     obtain ⟨c, hc, hm⟩ := aT hm
     refine Ev.call (cG (by assumption) T hc) ?_
     rintro _ _ ⟨rfl, S3⟩
     cases c with
     | true =>
      refine yt ?_
      rw [if_pos rfl] at hm
      obtain ⟨⟨t, st1⟩, ht, hm⟩ := aT hm
      obtain ⟨⟨y, st2⟩, hy, hm⟩ := aT hm
      obtain ⟨d, hd, hm⟩ := aT hm
      refine Ev.call (cD S3 T ht) ?_
      rintro _ _ ⟨rfl, i4, S4, T4⟩
      refine Ev.call (HE _ _ _ _ _ _ _ _ _ _ S4 T4 hy) ?_
      rintro _ _ ⟨J, i5, cs, rfl, g5, S5, T5, N5⟩
      obtain ⟨l5, o5, b5⟩ := N5.shape
      refine wa fun _ _ _ => ?_; refine wt fun _ _ => ?_; refine ws ?_
      refine Ev.bs (by assumption) (eX l5) ?_
      intro b6 h6 S6
      obtain ⟨K, g7, S7, F7, _⟩ := Fz.built (sz := 6) (n := 1) S6 (by omega) o5
      have N7 : NS K _ [y] := ⟨by simp [bL], cs, F7, NVL.single (N5.mono g7)⟩
      have o7 := N7.one
      refine wd ?_
      have N8 := NV.of (I := K) (k := 10) (t := []) (m := 0) (SS.nil K) (SS.nil K) N7
      obtain ⟨l8, o8, b8⟩ := N8.shape
      refine Ev.bs S7 (eX l8) ?_
      intro b9 h9 S9
      obtain ⟨x10, h10, B10, cells10, e10, S10, G10, NL10⟩ := dZ ((G.mono g5).mono g7) ((NL.mono g5).mono g7) N8 S9 (List.Mem.head _) (by omega)
      refine Ev.op e10 ?_
      refine Ev.call (cG S10.dropL.dropL (T5.mono g7) hd) ?_
      rintro _ _ ⟨rfl, S11⟩
      have fin2 : ∀ h' i', Sy K (B10 ++ A) [PD p s i' st'] L h' → TD K s i' st'.toks → ys = xs ++ [.mk 10 [] 0 [] [] [y]] → Ev (fun _ => some (x10, h')) (fun v h' => ∃ J i', ILe I J ∧ Sy J A [PD p s i' st'] L h' ∧ TD J s i' st'.toks ∧ NS J v ys) := by
       intro h' i' S' T' e
       subst e
       obtain ⟨M, gM, S12, N12⟩ := G10.nodes NL10 S' (by simp; omega)
       exact Ev.ret ⟨M, i', (g5.trans g7).trans gM, S12, T'.mono gM, N12⟩
      cases d with
      | true =>
       refine yt ?_
       rw [if_pos rfl] at hm
       obtain ⟨⟨t2, st3⟩, ht2, hm⟩ := aT hm
       simp only [Option.some.injEq, Prod.mk.injEq] at hm
       obtain ⟨rfl, rfl⟩ := hm
       refine Ev.call (cD S11 (T5.mono g7) ht2) ?_
       rintro _ _ ⟨rfl, i13, S13, T13⟩
       exact fin2 _ i13 S13 T13 rfl
      | false =>
       refine yj ?_
       rw [if_neg (by simp)] at hm
       simp only [Option.some.injEq, Prod.mk.injEq] at hm
       obtain ⟨rfl, rfl⟩ := hm
       exact fin2 _ i5 S11 (T5.mono g7) rfl
     | false =>
      refine yj ?_
      rw [if_neg (by simp)] at hm
      obtain ⟨⟨y, st2⟩, hy, hm⟩ := aT hm
      obtain ⟨d, hd, hm⟩ := aT hm
      refine Ev.call (HE _ _ _ _ _ _ _ _ _ _ S3 T hy) ?_
      rintro _ _ ⟨J, i5, cs, rfl, g5, S5, T5, N5⟩
      obtain ⟨l5, o5, b5⟩ := N5.shape
      refine Ev.bs S5 (eX l5) ?_
      intro b6 h6 S6
      obtain ⟨x10, h10, B10, cells10, e10, S10, G10, NL10⟩ := dZ (G.mono g5) (NL.mono g5) N5 S6 (List.Mem.head _) (by omega)
      refine Ev.op e10 ?_
      refine Ev.call (cG S10.dropL T5 hd) ?_
      rintro _ _ ⟨rfl, S11⟩
      cases d with
      | true =>
       refine an ?_; refine yj ?_
       rw [if_pos rfl] at hm
       obtain ⟨⟨t2, st3⟩, ht2, hm⟩ := aT hm
       refine Ev.call (cD S11 T5 ht2) ?_
       rintro _ _ ⟨rfl, i13, S13, T13⟩
       refine (uQ HE f (j + 1) J B10 A L _ p s x10 i13 st3 (xs ++ [y]) ys cells10 st' S13 G10 NL10 (by simp; omega) T13 hm).mono ?_
       rintro v h' ⟨M, i', gM, r⟩
       exact ⟨M, i', g5.trans gM, r⟩
      | false =>
       refine ao ?_; refine yt ?_
       rw [if_neg (by simp)] at hm
       simp only [Option.some.injEq, Prod.mk.injEq] at hm
       obtain ⟨rfl, rfl⟩ := hm
       obtain ⟨M, gM, S12, N12⟩ := G10.nodes NL10 S11 (by simp; omega)
       exact Ev.ret ⟨M, i5, g5.trans gM, S12, T5.mono gM, N12⟩
  ·rw [if_neg (show ¬ st.err = 0 from e1)] at hm
   refine yf ?_; refine yf ?_; refine yf ?_; refine aq ?_; refine yf ?_; refine yf ?_; refine yf ?_; refine aq ?_; refine yj ?_
   exact fin _ S hm
theorem aBt {E : PF} (HE : kN 72 E) {I : Im} {A L : Ls} {h : Hp} {p : Pos} {s : DV} {i : Nat} {st : PSt} (f : Nat) (hf : f ≤ bL) (S : Sy I A [PD p s i st] L h) (T : TD I s i st.toks) {ys : List Node} {st' : PSt} (hm : iS E f [] st = some (ys, st')) :
 Ev (fun n => aJ n 46 [.p p 0] h) (fun v h' => ∃ J i', ILe I J ∧ Sy J A [PD p s i' st'] L h' ∧ TD J s i' st'.toks ∧ NS J v ys) := by
 refine Ev.enter (fun n => cBy n _ h) ?_
 unfold s46 bBg aYm bLb
 exact uQ HE f 0 I [] A L h p s .l0 i st [] ys [] st' S (Gr.nil I 6) rfl (by simpa using hf) T hm
theorem rV {P : DV → Hp → Prop} : ∀ (f j : Nat) (I : Im) (A L : Ls) (h : Hp) (p : Pos) (s x : DV) (i : Nat) (st : PSt) (l l' : List (List Nat)) (z : List DV) (st' : PSt) (b2 b3 : Pos),
 Sy I A [PD p s i st] ((b3, some (.row .ex [.i .i64 (Int.ofNat 9), .s [], .i .i64 (Int.ofNat 0), x, .l0, .l0])) :: (b2, some (.row .ex z)) :: L) h → SS I x l → z.length = 6 → (∀ v ∈ z, v.one = true) →
 l.length + f ≤ bL → TD I s i st.toks → kA f l st = some (l', st') →
 (∀ (J : Im) (h' : Hp) (i' : Nat) (x' : DV), ILe I J → Sy J A [PD p s i' st'] ((b3, some (.row .ex [.i .i64 (Int.ofNat 9), .s [], .i .i64 (Int.ofNat 0), x', .l0, .l0])) :: (b2, some (.row .ex z)) :: L) h' → SS J x' l' → TD J s i' st'.toks →
  Ev (fun n => eH (aJ n) n (.p p 0) (.p b2 0) (.p b3 0) h') P) →
 Ev (fun n => nF (aJ n) n (n - j) (.p p 0) (.p b2 0) (.p b3 0) h) P
 | 0, j, I, A, L, h, p, s, x, i, st, l, l', z, st', b2, b3, S, G, z1, z2, hl, T, hm, K => by cases hm
 | f + 1, j, I, A, L, h, p, s, x, i, st, l, l', z, st', b2, b3, S, G, z1, z2, hl, T, hm, K => by
  unfold kA at hm
  obtain ⟨c, hc, hm⟩ := aT hm
  refine Ev.loop j (ll := fun n m => nF (aJ n) n m (.p p 0) (.p b2 0) (.p b3 0) h) (bb := fun n m => wI (aJ n) n (nF (aJ n) n m) (.p p 0) (.p b2 0) (.p b3 0) h) (fun _ _ => rfl) ?_
  have hx := G.2.one
  unfold wI
  refine Ev.call (cG S T hc) ?_
  rintro _ _ ⟨rfl, S1⟩
  cases c with
  | false =>
   refine yj ?_
   rw [if_neg (by simp)] at hm
   simp only [Option.some.injEq, Prod.mk.injEq] at hm
   obtain ⟨rfl, rfl⟩ := hm
   exact K I _ i x (ILe.refl _) S1 G T
  | true =>
   refine yt ?_; refine wf ?_; refine wl ?_
   rw [if_pos rfl] at hm
   obtain ⟨⟨l1, st1⟩, ht, hm⟩ := aT hm
   have hl1 : l1.length = l.length + 1 := by
    unfold uC at ht
    obtain ⟨r, _, ht⟩ := aT ht
    simp only [Option.some.injEq, Prod.mk.injEq] at ht
    rw [← ht.1]; simp
   refine Ev.call (bGf S1 T G (by omega) ht) ?_
   rintro x2 _ ⟨J, i2, gJ, S2, T2, G2⟩
   have hx2 := G2.2.one
   refine wf ?_; refine wu fun _ _ => ?_
   exact rV f (j + 1) J A L _ p s x2 i2 st1 l1 l' z st' b2 b3 (dp) G2 z1 z2 (by omega) T2 hm (fun M h' i' x' g => K M h' i' x' (gJ.trans g))
theorem bEe {E : PF} (HE : kN 72 E) (f : Nat) (hf : f ≤ bL) : kN 131 (tC E f) := by
 intro I A L h p s i st x st' S T hm
 have hs := T.one
 unfold tC at hm
 obtain ⟨⟨ok, st0⟩, ho, hm⟩ := aT hm
 refine Ev.enter (fun n => bTk n _ h) ?_
 unfold s131 aDq
 refine wa fun _ _ _ => ?_; refine wd ?_; refine wa fun _ _ _ => ?_; refine wt fun _ _ => ?_
 unfold aFy
 refine Ev.call (wP (by assumption) T ho) ?_
 rintro _ h1 ⟨rfl, i1, S1, T1⟩
 unfold aEv
 cases ok with
 | false =>
  rw [if_neg (by simp)] at hm
  simp only [Option.some.injEq, Prod.mk.injEq] at hm
  obtain ⟨rfl, rfl⟩ := hm
  refine ao ?_; refine yt ?_; refine ws ?_; refine wt fun _ _ => ?_; refine ws ?_
  exact Ev.ret ⟨I, i1, _, rfl, ILe.refl _, dp, T1, NV.flat _ _ _⟩
 | true =>
  rw [if_pos rfl] at hm
  obtain ⟨⟨l, st1⟩, h1', hm⟩ := aT hm
  obtain ⟨st2, h2, hm⟩ := aT hm
  obtain ⟨⟨ts, st3⟩, h3, hm⟩ := aT hm
  obtain ⟨⟨ks, st4⟩, h4, hm⟩ := aT hm
  obtain ⟨⟨t, st5⟩, h5, hm⟩ := aT hm
  simp only [Option.some.injEq, Prod.mk.injEq] at hm
  obtain ⟨rfl, rfl⟩ := hm
  refine an ?_; refine yj ?_
  unfold aGk aPp
  refine rV f 0 I A L _ p s .l0 i1 st0 [] l _ st1 _ _ S1 (SS.nil I) rfl (by first | assumption | exact bS _ | (repeat (first | exact aW | refine aS (by first | rfl | assumption | exact Fz.one (by assumption)) ?_))) (by simpa using hf) T1 h1' ?_
  intro J0 h' i' x' g0 S2 G2 T2
  have hx := G2.2.one
  unfold eH
  have rest : ∀ (h' : Hp) (i' : Nat) (b2 b3 : Pos) (z : List DV), z.length = 6 → (∀ v ∈ z, v.one = true) → Sy J0 A [PD p s i' st2] ((b3, some (.row .ex [.i .i64 (Int.ofNat 9), .s [], .i .i64 (Int.ofNat 0), x', .l0, .l0])) :: (b2, some (.row .ex z)) :: L) h' → TD J0 s i' st2.toks →
   Ev (fun n => aIx (aJ n) n (.p p 0) (.p b2 0) (.p b3 0) h') (NPostD I A L p s (.mk 9 [] 0 l ts ks) { st5 with deep := uR (st5.deep - 1) }) := by
   intro h' i' b2 b3 z z1 z2 S2 T2
   unfold aIx
   refine Ev.call (aBr f hf S2 T2 h3) ?_
   rintro v4 h4' ⟨K, i4, g4, S4, T4, N4⟩
   have o4 := N4.2.one
   refine wf ?_; refine wu fun _ _ => ?_
   refine Ev.call (aBt HE f hf (by assumption) T4 h4) ?_
   rintro v5 h5' ⟨M, i5, g5, S5, T5, N5⟩
   have o5 := N5.one
   refine wf ?_; refine wu fun _ _ => ?_
   refine Ev.call (nW (by assumption) T5 h5) ?_
   rintro _ _ ⟨rfl, i6, S6, T6⟩
   refine wn ?_; refine wf ?_; refine wq ?_
   refine Ev.isub ?_
   refine wn ?_; refine wf ?_; refine wv fun _ _ => ?_; refine ws ?_; refine wt fun _ _ => ?_; refine ws ?_
   exact Ev.ret ⟨M, i6, _, rfl, (g0.trans g4).trans g5, dp, T6, NV.of ((G2.mono g4).mono g5) (N4.mono g5) N5⟩
  refine wf ?_; refine wl ?_
  refine Ev.op (G2.2.len _) ?_
  unfold aQp at h2
  refine Ev.igt (fun e1 => ?_) (fun e1 => ?_)
  ·have e2 : 0 < l.length := by simp at e1; exact e1
   simp only [if_pos e2] at h2
   obtain ⟨c, hc, h2⟩ := aT h2
   refine zt ?_; refine wm ?_; refine zt ?_
   refine Ev.call (cG (by assumption) T2 hc) ?_
   rintro _ _ ⟨rfl, S3⟩
   cases c with
   | true =>
    refine zt ?_; refine an ?_; refine ap ?_; refine yj ?_
    simp only [if_true, Option.some.injEq] at h2
    subst h2
    exact rest _ i' _ _ _ rfl (by first | assumption | exact bS _ | (repeat (first | exact aW | refine aS (by first | rfl | assumption | exact Fz.one (by assumption)) ?_))) S3 T2
   | false =>
    refine zt ?_; refine ao ?_; refine ap ?_; refine yt ?_
    obtain ⟨⟨t2, st6⟩, ht2, h2⟩ := aT (by simpa using h2)
    simp only [Option.some.injEq] at h2
    subst h2
    refine Ev.call (nW (by assumption) T2 ht2) ?_
    rintro _ _ ⟨rfl, i3, S4, T4⟩
    exact rest _ i3 _ _ _ rfl (by first | assumption | exact bS _ | (repeat (first | exact aW | refine aS (by first | rfl | assumption | exact Fz.one (by assumption)) ?_))) S4 T4
  ·have e2 : ¬ 0 < l.length := fun e => e1 (by show (0 : Int) < _; omega)
   simp only [if_neg e2, Option.some.injEq] at h2
   subst h2
   refine yf ?_; refine yf ?_; refine yf ?_; refine aq ?_; refine yj ?_
   exact rest _ i' _ _ _ rfl (by first | assumption | exact bS _ | (repeat (first | exact aW | refine aS (by first | rfl | assumption | exact Fz.one (by assumption)) ?_))) S2 T2
theorem aMp {LI E : PF} (HL : kN 129 LI) (HE : kN 72 E) (f : Nat) (hf : f ≤ bL) : kN 100 (lG LI E f) := by
 intro I A L h p s i st x st' S T hm
 have hs := T.one
 unfold lG at hm
 refine Ev.enter (fun n => bVt n _ h) ?_
 unfold s100 bUi
 refine wa fun _ _ _ => ?_; refine wn ?_; refine wf ?_; refine wq ?_
 refine Ev.ine (fun e1 => ?_) (fun e1 => ?_)
 ·refine yt ?_; refine wd ?_; refine wt fun _ _ => ?_; refine ws ?_
  rw [if_neg (show ¬ st.err = 0 from e1)] at hm
  simp only [Option.some.injEq, Prod.mk.injEq] at hm
  obtain ⟨rfl, rfl⟩ := hm
  exact Ev.ret ⟨I, i, _, rfl, ILe.refl _, dp, T, NV.flat _ _ _⟩
 ·refine yj ?_
  rw [if_pos (show st.err = 0 from e1)] at hm
  obtain ⟨⟨⟨y, d⟩, st1⟩, hy, hm⟩ := aT hm
  unfold bYi
  refine Ev.call (aDd (by assumption) T hy) ?_
  rintro _ _ ⟨i1, cs, rfl, S1, T1, N1⟩
  obtain ⟨l1, o1, q1⟩ := N1.shape
  refine wx ?_; refine wx ?_; refine wa fun _ _ _ => ?_; refine wt fun _ _ => ?_
  unfold bJs
  cases d with
  | true =>
   refine yt ?_; refine ws ?_; refine wt fun _ _ => ?_; refine ws ?_
   rw [if_pos rfl] at hm
   simp only [Option.some.injEq, Prod.mk.injEq] at hm
   obtain ⟨rfl, rfl⟩ := hm
   exact Ev.ret ⟨I, i1, _, rfl, ILe.refl _, dp, T1, N1⟩
  | false =>
   refine yj ?_
   rw [if_neg (by simp)] at hm
   obtain ⟨c, hc, hm⟩ := aT hm
   unfold bQo
   refine Ev.call (cG (by assumption) T1 hc) ?_
   rintro _ _ ⟨rfl, S2⟩
   cases c with
   | true =>
    refine yt ?_
    rw [if_pos rfl] at hm
    obtain ⟨⟨t, st2⟩, ht, hm⟩ := aT hm
    simp only [Option.some.injEq, Prod.mk.injEq] at hm
    obtain ⟨rfl, rfl⟩ := hm
    refine Ev.call (cD S2 T1 ht) ?_
    rintro _ _ ⟨rfl, i3, S3, T3⟩
    refine wp ?_; refine wd ?_; refine wt fun _ _ => ?_; refine ws ?_
    exact Ev.ret ⟨I, i3, _, rfl, ILe.refl _, dp, T3, NV.flat _ _ _⟩
   | false =>
    refine yj ?_
    rw [if_neg (by simp)] at hm
    obtain ⟨c, hc, hm⟩ := aT hm
    unfold bWa
    refine Ev.call (cG S2 T1 hc) ?_
    rintro _ _ ⟨rfl, S3⟩
    cases c with
    | true =>
     refine yt ?_
     rw [if_pos rfl] at hm
     refine Ev.call (HL _ _ _ _ _ _ _ _ _ _ S3 T1 hm) ?_
     rintro _ _ ⟨J, i5, ds, rfl, g5, S5, T5, N5⟩
     obtain ⟨l5, o5, q5⟩ := N5.shape
     refine wt fun _ _ => ?_; refine ws ?_
     exact Ev.ret ⟨J, i5, _, rfl, g5, dp, T5, N5⟩
    | false =>
     refine yj ?_
     rw [if_neg (by simp)] at hm
     obtain ⟨c, hc, hm⟩ := aT hm
     unfold bKv
     refine Ev.call (cG S3 T1 hc) ?_
     rintro _ _ ⟨rfl, S4⟩
     unfold bJd
     cases c with
     | true =>
      refine yt ?_
      rw [if_pos rfl] at hm
      obtain ⟨⟨ok, st2⟩, ho, hm⟩ := aT hm
      unfold bQq
      refine Ev.call (wP S4 T1 ho) ?_
      rintro _ _ ⟨rfl, i5, S5, T5⟩
      unfold aWj
      cases ok with
      | false =>
       refine yj ?_
       rw [if_neg (by simp)] at hm
       simp only [Option.some.injEq, Prod.mk.injEq] at hm
       obtain ⟨rfl, rfl⟩ := hm
       unfold vT
       refine ws ?_; refine wt fun _ _ => ?_; refine ws ?_
       exact Ev.ret ⟨I, i5, _, rfl, ILe.refl _, dp, T5, N1⟩
      | true =>
       refine yt ?_
       rw [if_pos rfl] at hm
       obtain ⟨⟨w, st3⟩, hw, hm⟩ := aT hm
       obtain ⟨⟨u, st4⟩, hu, hm⟩ := aT hm
       simp only [Option.some.injEq, Prod.mk.injEq] at hm
       obtain ⟨rfl, rfl⟩ := hm
       refine Ev.call (HE _ _ _ _ _ _ _ _ _ _ S5 T5 hw) ?_
       rintro _ _ ⟨J, i6, ds, rfl, g6, S6, T6, N6⟩
       obtain ⟨l6, o6, q6⟩ := N6.shape
       refine wt fun _ _ => ?_
       refine Ev.call (nW (by assumption) T6 hu) ?_
       rintro _ _ ⟨rfl, i7, S7, T7⟩
       refine wn ?_; refine wf ?_; refine wq ?_
       refine Ev.isub ?_
       refine wn ?_; refine wf ?_; refine wv fun _ _ => ?_
       unfold vT
       refine ws ?_; refine wt fun _ _ => ?_; refine ws ?_
       exact Ev.ret ⟨J, i7, _, rfl, g6, dp, T7, N6⟩
     | false =>
      refine yj ?_
      rw [if_neg (by simp)] at hm
      obtain ⟨c, hc, hm⟩ := aT hm
      unfold bWc
      refine Ev.call (cG S4 T1 hc) ?_
      rintro _ _ ⟨rfl, S5⟩
      cases c with
      | true =>
       refine yt ?_
       rw [if_pos rfl] at hm
       refine Ev.call (bEe HE f hf _ _ _ _ _ _ _ _ _ _ S5 T1 hm) ?_
       rintro _ _ ⟨J, i6, ds, rfl, g6, S6, T6, N6⟩
       obtain ⟨l6, o6, q6⟩ := N6.shape
       refine wt fun _ _ => ?_; refine ws ?_
       exact Ev.ret ⟨J, i6, _, rfl, g6, dp, T6, N6⟩
      | false =>
       refine yj ?_
       rw [if_neg (by simp)] at hm
       obtain ⟨t, ht, hm⟩ := aT hm
       simp only [Option.some.injEq, Prod.mk.injEq] at hm
       obtain ⟨rfl, rfl⟩ := hm
       refine Ev.call (eB (k := 0) S5 T1 ht (by omega)) ?_
       rintro _ _ ⟨rfl, S6⟩
       refine Ev.call (iY S6 hs t _) ?_
       rintro _ _ ⟨rfl, S7⟩
       refine ws ?_; refine wt fun _ _ => ?_; refine ws ?_
       exact Ev.ret ⟨I, i1, _, rfl, ILe.refl _, dp, by rw [bV]; exact T1, N1⟩
end Go.Dd

namespace Go.Dd
open Go.Proofs
def aCf (P : PF) (g : Nat) : Nat → List Node → PSt → Option (Node × PSt)
 | 0, _, _ => none
 | f + 1, ks, st => (dT st 10 [59]).bind fun c => if c then (dV st).bind fun r => (aBn P g r.2).bind fun q => aCf P g f (ks ++ [q.1]) q.2 else some (.mk 8 [] 0 [] [] ks, st)
def aCo (P E : PF) (g : Nat) : PF := fun st => (dT st 1 []).bind fun c => (if c then (bH st 1).bind fun t => some (decide (t.kind = 9)) else some false).bind fun d =>
 if d then (dV st).bind fun r => (dV r.2).bind fun q => (E q.2).bind fun u => some (.mk 6 r.1.text 0 [] [] [u.1], u.2)
 else (P st).bind fun q => (kL g q.1 q.2).bind fun u => (kP P g g u.1 u.2).bind fun w => (aOr P g w.1 w.2).bind fun n =>
  (dT n.2 10 [59]).bind fun c => if c then
   if n.1.kind = 7 then (n.1.kids[0]?).bind fun k0 => aCf P g g [k0, cE n.1.text (n.1.kids.drop 1)] n.2
   else (bH n.2 0).bind fun t => some (n.1, bW n.2 t 13)
  else some n
def sJ : Nat → PF
 | 0 => gQ (fun _ => none) 0
 | f + 1 => gQ (sJ f) f
def pT : Nat → PF
 | 0 => fun _ => none
 | f + 1 => aCo (lG (sJ f) (pT f) f) (pT f) f
def aWk (f : Nat) (x : Node) (st : PSt) : Option (Node × Int × Int) := (nS f st).bind fun b => (iS (pT f) f [] b.2).bind fun c => (bWl c.2).bind fun d =>
 if d.err = 0 then some (x.with b.1 c.1, 0, 0) else some (zN, d.pos, d.err)
def dHd : Node := .mk 11 [100, 111, 73, 116] 0 [] [] []
def aNk (f : Nat) (lx : List Tok × Int × Int) : Option (Node × Int × Int) :=
 if lx.2.2 = 0 then if 1 ≤ lx.1.length then aWk f dHd ⟨lx.1, 0, 0, 0⟩ else none else some (zN, lx.2.1, lx.2.2)
theorem cGh (n : Nat) (x : DV) (h : Hp) : aJ (n + 1) 72 [x] h = s72 (aJ n) n x h := by kernel_rfl
theorem cLy (n : Nat) (x y : DV) (h : Hp) : aJ (n + 1) 25 [x, y] h = s25 (aJ n) n x y h := by kernel_rfl
theorem aDo {P : PF} (HP : kN 100 P) (g : Nat) (hg : g + 1 ≤ bL) : ∀ (f j : Nat) (I : Im) (B A L : Ls) (h : Hp) (p : Pos) (s x : DV) (i : Nat) (st : PSt) (xs : List Node) (y : Node) (cells c5 z : List DV) (st' : PSt) (b2 b5 b6 : Pos),
 Sy I (B ++ A) [PD p s i st] ((b6, some (.row .ex [.i .i64 (Int.ofNat 8), .s [], .i .i64 (Int.ofNat 0), .l0, .l0, x])) :: (b5, some (.row .ex c5)) :: (b2, some (.row .ex z)) :: L) h → Gr I 6 B x xs.length cells → NVL I xs cells → z.length = 6 → (∀ v ∈ z, v.one = true) →
 xs.length + f ≤ bL → TD I s i st.toks → aCf P g f xs st = some (y, st') →
 Ev (fun n => mH (aJ n) n (n - j) (.p p 0) (.p b2 0) (.p b6 0) h) (NPostD I A L p s y st')
 | 0, j, I, B, A, L, h, p, s, x, i, st, xs, y, cells, c5, z, st', b2, b5, b6, S, G, NL, z1, z2, hl, T, hm => by cases hm
 | f + 1, j, I, B, A, L, h, p, s, x, i, st, xs, y, cells, c5, z, st', b2, b5, b6, S, G, NL, z1, z2, hl, T, hm => by
  unfold aCf at hm
  obtain ⟨c, hc, hm⟩ := aT hm
  refine Ev.loop j (ll := fun n m => mH (aJ n) n m (.p p 0) (.p b2 0) (.p b6 0) h) (bb := fun n m => wG (aJ n) n (mH (aJ n) n m) (.p p 0) (.p b2 0) (.p b6 0) h) (fun _ _ => rfl) ?_
  have hx := G.one
  unfold wG eW
  refine Ev.call (cG S T hc) ?_
  rintro _ _ ⟨rfl, S1⟩
  cases c with
  | false =>
   rw [if_neg (by simp)] at hm
   simp only [Option.some.injEq, Prod.mk.injEq] at hm
   obtain ⟨rfl, rfl⟩ := hm
   obtain ⟨J, gJ, S3, N3⟩ := G.nodes NL S1 (by omega)
   have o3 := N3.one
   refine yj ?_; refine ws ?_; refine wt fun _ _ => ?_; refine ws ?_
   exact Ev.ret ⟨J, i, _, rfl, gJ, dp, T.mono gJ, NV.of (SS.nil J) (SS.nil J) N3⟩
  | true =>
   rw [if_pos rfl] at hm
   obtain ⟨⟨t1, st1⟩, ht, hm⟩ := aT hm
   obtain ⟨⟨y1, st2⟩, hy1, hm⟩ := aT hm
   refine yt ?_
   refine Ev.call (cD S1 T ht) ?_
   rintro _ _ ⟨rfl, i2, S2, T2⟩
   have Sr := S2.res
   refine wf ?_; refine wl ?_
   refine Ev.call (aTp HP g hg _ _ _ _ _ _ _ _ _ _ Sr T2 hy1) ?_
   rintro _ _ ⟨J, i5, ds, rfl, g5, S5, T5, N5⟩
   obtain ⟨l5, o5, q5⟩ := N5.shape
   refine Ev.cnd ?_ ?_
   ·rw [Bool.and_true]; exact eG S5 (by repeat (first | exact List.Mem.head _ | apply List.Mem.tail)) rfl hx G.beq
   refine Ev.bsAt0 S5 (by repeat (first | exact Rpl.head _ | apply Rpl.tail)) (eX l5) ?_
   intro h8 S8
   obtain ⟨x10, h10, B10, cells10, e10, S10, G10, NL10⟩ := dZ (G.mono g5) (NL.mono g5) N5 S8 (by repeat (first | exact List.Mem.head _ | apply List.Mem.tail)) (by omega)
   have hx10 := G10.one
   refine Ev.op e10 ?_
   refine wf ?_; refine wu fun _ _ => ?_
   refine (aDo HP g hg f (j + 1) J B10 A L _ p s x10 i5 st2 (xs ++ [y1]) y cells10 c5 z st' b2 b5 b6 ?_ G10 NL10 z1 z2 (by simp; omega) T5 hm).mono (NPostD.le g5)
   exact Sy.dropL (by assumption)
theorem bHh {P E : PF} (HP : kN 100 P) (HE : kN 72 E) (g : Nat) (hg : g + 2 ≤ bL) : kN 72 (aCo P E g) := by
 intro I A L h p s i st x st' S T hm
 have hs := T.one
 unfold aCo at hm
 obtain ⟨c, hc, hm⟩ := aT hm
 obtain ⟨d, hd, hmd⟩ := aT hm
 clear hm
 refine Ev.enter (fun n => cGh n _ h) ?_
 unfold s72
 refine wa fun _ _ _ => ?_
 unfold bDe
 refine Ev.call (cG (by assumption) T hc) ?_
 rintro _ _ ⟨rfl, S1⟩
 have neg : ∀ (b2 : Pos) (h' : Hp), d = false → Sy I A [PD p s i st] ((b2, some (.row .ex [.i .i64 (Int.ofNat 0), .s [], .i .i64 (Int.ofNat 0), .l0, .l0, .l0])) :: L) h' →
  Ev (fun n => aNn (aJ n) n (.p p 0) (.p b2 0) h') (NPostD I A L p s x st') := by
  intro b2 h' hd S'
  subst hd
  rw [if_neg (by simp)] at hmd
  obtain ⟨⟨y1, st1⟩, hy1, hm⟩ := aT hmd
  obtain ⟨⟨y2, st2⟩, hy2, hm⟩ := aT hm
  obtain ⟨⟨y3, st3⟩, hy3, hm⟩ := aT hm
  obtain ⟨⟨y4, st4⟩, hy4, hm⟩ := aT hm
  obtain ⟨c, hc, hm⟩ := aT hm
  unfold aNn
  refine Ev.call (HP _ _ _ _ _ _ _ _ _ _ S' T hy1) ?_
  rintro _ _ ⟨J1, i1, c1, rfl, g1, S1, T1, N1⟩
  obtain ⟨l1, o1, q1⟩ := N1.shape
  refine wa fun _ _ _ => ?_; refine wt fun _ _ => ?_
  unfold bAx
  refine ws ?_
  refine Ev.call (oV g _ _ _ _ _ _ _ _ _ _ _ _ (by assumption) T1 N1 hy2) ?_
  rintro _ _ ⟨J2, i2, c2, rfl, g2, S2, T2, N2⟩
  obtain ⟨l2, o2, q2⟩ := N2.shape
  refine wt fun _ _ => ?_
  unfold aXu
  refine ws ?_
  refine Ev.call (yX HP g g _ _ _ _ _ _ _ _ _ _ _ _ (by assumption) T2 N2 hy3) ?_
  rintro _ _ ⟨J3, i3, c3, rfl, g3, S3, T3, N3⟩
  obtain ⟨l3, o3, q3⟩ := N3.shape
  refine wt fun _ _ => ?_
  unfold bAf
  refine ws ?_
  refine Ev.call (bUb HP g (by omega) _ _ _ _ _ _ _ _ _ _ _ _ (by assumption) T3 N3 hy4) ?_
  rintro _ _ ⟨J4, i4, c4, rfl, g4, S4, T4, N4⟩
  have g14 := ((g1.trans g2).trans g3).trans g4
  obtain ⟨l4, o4, q4⟩ := N4.shape
  refine wt fun _ _ => ?_
  unfold bDa
  refine Ev.call (cG (by assumption) T4 hc) ?_
  rintro _ _ ⟨rfl, S5⟩
  cases c with
  | false =>
   rw [if_neg (by simp)] at hm
   simp only [Option.some.injEq, Prod.mk.injEq] at hm
   obtain ⟨rfl, rfl⟩ := hm
   refine ao ?_; refine yt ?_; refine ws ?_; refine wt fun _ _ => ?_; refine ws ?_
   exact Ev.ret ⟨J4, i4, _, rfl, g14, dp, T4, N4⟩
  | true =>
   rw [if_pos rfl] at hm
   have N4' := N4
   obtain ⟨k, t, m, ns, ts, ks⟩ := y4
   obtain ⟨d1, d2, d3, rfl, a1, a2, a3, cells, F, NL⟩ := N4
   have o1 := a1.2.one
   have o2 := a2.2.one
   have o3 := F.one
   refine an ?_; refine yj ?_
   unfold bAm
   refine wf ?_; refine wl ?_
   refine Ev.ine (fun e1 => ?_) (fun e1 => ?_)
   ·rw [if_neg (show ¬ Node.kind (.mk k t m ns ts ks) = 7 from e1)] at hm
    obtain ⟨u, hu, hm⟩ := aT hm
    simp only [Option.some.injEq, Prod.mk.injEq] at hm
    obtain ⟨rfl, rfl⟩ := hm
    refine yt ?_
    refine Ev.call (eB (k := 0) (by assumption) T4 hu (by omega)) ?_
    rintro _ _ ⟨rfl, S6⟩
    refine Ev.call (iY S6 hs u _) ?_
    rintro _ _ ⟨rfl, S7⟩
    refine ws ?_; refine wt fun _ _ => ?_; refine ws ?_
    exact Ev.ret ⟨J4, i4, _, rfl, g14, dp, by rw [bV]; exact T4, N4'⟩
   ·rw [if_pos (show Node.kind (.mk k t m ns ts ks) = 7 from e1)] at hm
    obtain ⟨k0, hk0, hm⟩ := aT hm
    refine yj ?_
    unfold aNl
    refine wd ?_; refine wa fun _ _ _ => ?_; refine wt fun _ _ => ?_
    unfold aDj
    have Sr := Sy.res (by assumption)
    have NS3 : NS J4 d3 ks := ⟨a3, cells, F, NL⟩
    obtain ⟨b6, o6, c6, i6, N6, L6⟩ := NS3.at (i := 0) hk0
    obtain ⟨l6, o6', q6⟩ := N6.shape
    refine wf ?_; refine wl ?_; refine wf ?_; refine wl ?_
    refine Ev.op (i6 _) (Ev.op (L6 J4 _ _ _ _ (ILe.refl _) Sr) ?_)
    refine Ev.bsAt0 Sr (by repeat (first | exact Rpl.head _ | apply Rpl.tail)) (eX l6) ?_
    intro h8 S8
    obtain ⟨x10, h10, B10, cells10, e10, S10, G10, NL10⟩ := dZ (B := []) (xs := []) (Gr.nil J4 6) rfl N6 S8 (by repeat (first | exact List.Mem.head _ | apply List.Mem.tail)) (by simp [bL])
    have hx10 := G10.one
    refine Ev.op e10 ?_
    refine wf ?_; refine wu fun _ _ => ?_
    unfold aHm
    have Sr2 := Sy.res (by assumption)
    have hklen : 0 < ks.length := (List.getElem?_eq_some_iff.1 hk0).1
    obtain ⟨s', h11, M, e11, g11, S11, F11, _⟩ := F.rest Sr2 (i := 1) (by omega) hklen
    have o11 := F11.one
    refine wf ?_; refine wl ?_; refine wf ?_; refine wl ?_; refine wf ?_; refine wl ?_
    refine Ev.op e11 ?_
    have N11 : NS M s' (ks.drop 1) := ⟨by simp; omega, _, by simpa using F11, by simpa using (NL.mono g11).drop 1⟩
    have N12 := NV.of (I := M) (k := 7) (t := t) (m := 0) (SS.nil M) (SS.nil M) N11
    obtain ⟨l12, o12, q12⟩ := N12.shape
    refine wd ?_
    refine Ev.bsAt0 S11 (by repeat (first | exact Rpl.head _ | apply Rpl.tail)) (eX l12) ?_
    intro h13 S13
    obtain ⟨x14, h14, B14, cells14, e14, S14, G14, NL14⟩ := dZ (xs := [k0]) (G10.mono g11) (NL10.mono g11) N12 S13 (by repeat (first | exact List.Mem.head _ | apply List.Mem.tail)) (by simp [bL])
    have hx14 := G14.one
    refine Ev.op e14 ?_
    refine wf ?_; refine wu fun _ _ => ?_
    unfold aHj aPy
    refine (aDo HP g (by omega) g 0 M B14 A L _ p s x14 i4 st4 [k0, cE t (ks.drop 1)] x cells14 _ _ st' _ _ _ (Sy.dropL (Sy.dropL (by assumption))) G14 NL14 (by rfl) (by first | assumption | exact bS _ | (repeat (first | exact aW | refine aS (by first | rfl | assumption | exact Fz.one (by assumption)) ?_))) (by simp; omega) (T4.mono g11) hm).mono (NPostD.le (g14.trans g11))
 cases c with
 | false =>
  simp only [Bool.false_eq_true, if_false, Option.some.injEq] at hd
  refine yf ?_; refine yf ?_; refine yf ?_; refine yf ?_; refine aq ?_; refine yj ?_
  exact neg _ _ hd.symm S1
 | true =>
  rw [if_pos rfl] at hd
  obtain ⟨u, hu, hd⟩ := aT hd
  simp only [Option.some.injEq] at hd
  refine zt ?_; refine wm ?_; refine zt ?_
  refine Ev.call (eB (k := 1) S1 T hu (by omega)) ?_
  rintro _ _ ⟨rfl, S2⟩
  refine zt ?_; refine wp ?_; refine zt ?_
  refine Ev.ieq (fun e1 => ?_) (fun e1 => ?_)
  ·refine ap ?_; refine yt ?_
   rw [← hd, decide_eq_true (show u.kind = 9 from e1), if_pos rfl] at hmd
   obtain ⟨⟨t1, st1⟩, ht1, hm⟩ := aT hmd
   obtain ⟨⟨t2, st2⟩, ht2, hm⟩ := aT hm
   obtain ⟨⟨y, st3⟩, hy, hm⟩ := aT hm
   simp only [Option.some.injEq, Prod.mk.injEq] at hm
   obtain ⟨rfl, rfl⟩ := hm
   refine Ev.call (cD S2 T ht1) ?_
   rintro _ _ ⟨rfl, i3, S3, T3⟩
   refine wp ?_
   refine Ev.call (cD S3 T3 ht2) ?_
   rintro _ _ ⟨rfl, i4, S4, T4⟩
   refine Ev.call (HE _ _ _ _ _ _ _ _ _ _ S4 T4 hy) ?_
   rintro _ _ ⟨J, i5, ds, rfl, g5, S5, T5, N5⟩
   obtain ⟨l5, o5, q5⟩ := N5.shape
   refine wa fun _ _ _ => ?_; refine wt fun _ _ => ?_; refine ws ?_
   refine Ev.bs (by assumption) (eX l5) ?_
   intro b6 h6 S6
   obtain ⟨K, gK, S7, F7, _⟩ := Fz.built (sz := 6) (n := 1) S6 (by omega) o5
   have N7 : NS K _ [y] := ⟨by simp [bL], ds, F7, NVL.single (N5.mono gK)⟩
   refine wd ?_; refine wt fun _ _ => ?_; refine ws ?_
   exact Ev.ret ⟨K, i5, _, rfl, g5.trans gK, dp, T5.mono gK, NV.of (SS.nil K) (SS.nil K) N7⟩
  ·refine ap ?_; refine yj ?_
   exact neg _ _ (by rw [← hd, decide_eq_false (show ¬ u.kind = 9 from e1)]) S2
theorem aOy : ∀ (f : Nat), f ≤ bL → kN 129 (sJ f)
 | 0, _ => sP (fun I A L h p s i st x st' S T hm => by cases hm) 0 (by simp)
 | f + 1, hf => sP (aOy f (by omega)) f (by omega)
theorem sZ : ∀ (f : Nat), f + 2 ≤ bL → kN 72 (pT f)
 | 0, _ => fun I A L h p s i st x st' S T hm => by cases hm
 | f + 1, hf => bHh (aMp (aOy f (by omega)) (sZ f (by omega)) f (by omega)) (sZ f (by omega)) f (by omega)
section
variable {I : Im} {A L : Ls} {h : Hp} {p : Pos} {s : DV} {i : Nat} {st : PSt}
theorem bVp (S : Sy I A [PD p s i st] L h) (T : TD I s i st.toks) {t : Tok} (hu : bH st 0 = some t) :
 Ev (fun n => aJ n 69 [.p p 0] h) (fun v h' => v = .a (tc t) ∧ Sy I A [PD p s (i + 1) st] L h') := by
 have hs := T.one
 refine Ev.enter (fun n => aSx n _ h) ?_
 unfold s69
 refine wa fun _ _ _ => ?_
 refine Ev.call (eB (k := 0) (by assumption) T hu (by omega)) ?_
 rintro _ _ ⟨rfl, S1⟩
 obtain ⟨T, T1, T2, T3⟩ := T
 have hl := T1.1
 have hlen : st.toks.length = T.length - i := by rw [← T2]; simp
 refine wa fun _ _ _ => ?_; refine wt fun _ _ => ?_; refine wn ?_; refine wf ?_; refine wq ?_
 refine Ev.iadd ?_
 rw [fX (by simp [bL] at hl ⊢; omega)]
 refine wn ?_; refine wf ?_; refine wv fun _ _ => ?_; refine ws ?_; refine wt fun _ _ => ?_; refine ws ?_
 exact Ev.ret ⟨rfl, dp⟩
theorem cGn (S : Sy I A [PD p s i st] L h) (T : TD I s i st.toks) {st' : PSt} (ht : bWl st = some st') :
 Ev (fun n => aJ n 47 [.p p 0, .i .i64 (Int.ofNat 0), .s []] h) (fun v h' => ∃ i', Sy I A [PD p s i' st'] L h') := by
 unfold bWl at ht
 obtain ⟨c, hc, ht⟩ := aT ht
 have hc' := hc
 unfold dT at hc'
 obtain ⟨t, htt, _⟩ := aT hc'
 refine Ev.enter (fun n => bDy n _ _ _ h) ?_
 unfold s47
 refine wa fun _ _ _ => ?_
 refine Ev.call (cG (kind := 0) (by assumption) T hc) ?_
 rintro _ _ ⟨rfl, S1⟩
 cases c with
 | true =>
  refine an ?_; refine yj ?_
  rw [if_pos rfl] at ht
  cases ht
  refine Ev.call (bVp (by assumption) T htt) ?_
  rintro _ _ ⟨rfl, S2⟩
  refine wt fun _ _ => ?_; refine ws ?_
  exact Ev.ret ⟨i + 1, dp⟩
 | false =>
  refine ao ?_; refine yt ?_
  obtain ⟨u, hu, ht⟩ := aT (by simpa using ht)
  simp only [Option.some.injEq] at ht
  subst ht
  refine Ev.call (eB (k := 0) (by assumption) T hu (by omega)) ?_
  rintro _ _ ⟨rfl, S2⟩
  refine Ev.call (iY (by assumption) T.one u _) ?_
  rintro _ _ ⟨rfl, S3⟩
  refine wd ?_; refine wt fun _ _ => ?_; refine ws ?_
  exact Ev.ret ⟨i, dp⟩
theorem bHs {b4 b11 : Pos} {z : List DV} {k : Int} {tt : List Nat} {mm : Int} {ns ts0 : List (List Nat)} {ks0 : List Node} {d1 d2 d3 : DV} (f : Nat) (hf : f + 2 ≤ bL)
 (S : Sy I A [PD p s i st] ((b11, some (.row .ex [.i .i64 k, .s tt, .i .i64 mm, d1, d2, d3])) :: (b4, some (.row .ex z)) :: L) h) (z1 : z.length = 6) (z2 : ∀ v ∈ z, v.one = true) (T : TD I s i st.toks) (a1 : SS I d1 ns) (q2 : d2.one = true) (q3 : d3.one = true)
 {res : Node × Int × Int} (hm : aWk f (.mk k tt mm ns ts0 ks0) st = some res) : Ev (fun n => aVq (aJ n) n (.p b4 0) (.p p 0) (.p b11 0) h) (aLv I A L res) := by
 unfold aWk at hm
 obtain ⟨⟨ts, st2⟩, h2, hm⟩ := aT hm
 obtain ⟨⟨ks, st3⟩, h3, hm⟩ := aT hm
 obtain ⟨st4, h4, hm⟩ := aT hm
 have hs := T.one
 have q1 := a1.2.one
 unfold aVq
 refine Ev.call (aBr f (by omega) S T h2) ?_
 rintro v3 _ ⟨M, i3, g3, S3, T3, N3⟩
 have q4 := N3.2.one
 refine wf ?_; refine wu fun _ _ => ?_
 refine Ev.call (aBt (sZ f hf) f (by omega) (by assumption) T3 h3) ?_
 rintro v4 _ ⟨O, i4, g4, S4, T4, N4⟩
 have q5 := N4.one
 refine wf ?_; refine wu fun _ _ => ?_
 refine Ev.call (cGn (by assumption) T4 h4) ?_
 rintro _ _ ⟨i5, S5⟩
 have hdrop : ∀ {K : Im} {e : Pos × Option Ob} {M : Ls} {h'' : Hp}, Sy K A [e] M h'' → Sy K A [] M h'' := fun S => Sy.dropL (Sy.lQ (Q := []) S)
 refine wn ?_; refine wf ?_; refine wq ?_
 refine Ev.ine (fun e2 => ?_) (fun e2 => ?_)
 ·rw [if_neg (show ¬ st4.err = 0 from e2)] at hm
  cases hm
  refine yt ?_; refine wd ?_; refine wn ?_; refine wf ?_; refine wq ?_; refine wn ?_; refine wf ?_; refine wq ?_; refine wt fun _ _ => ?_
  refine Ev.cnd ?_ ?_
  ·rename_i hq Sq
   rw [ld1 (Sq.memQ (List.Mem.head _)) rfl rfl, ld1 (Sq.memQ (List.Mem.head _)) rfl rfl]
   simp [bP, DV.beq]
  refine ws ?_
  exact Ev.ret ⟨O, _, rfl, g3.trans g4, hdrop (dp), NV.flat _ _ _⟩
 ·rw [if_pos (show st4.err = 0 from e2)] at hm
  cases hm
  refine yj ?_; refine ws ?_; refine wt fun _ _ => ?_; refine ws ?_
  refine Ev.ret ⟨O, _, rfl, g3.trans g4, hdrop (dp), ?_⟩
  exact NV.of ((a1.mono g3).mono g4) (N3.mono g4) N4
end
theorem bOh {I : Im} {A L : Ls} {h : Hp} (S : Sy I A [] L h) {s : List Nat} (hs : s.length ≤ bL) (g fl f : Nat) (hfl : fl ≤ bL) (hf : f + 2 ≤ bL)
 (lx : List Tok × Int × Int) (hl : pD g fl s = some lx) (res : Node × Int × Int) (hm : aNk f lx = some res) :
 Ev (fun n => aJ n 25 [.s s, .b false] h) (aLv I A L res) := by
 refine Ev.enter (fun n => cLy n _ _ h) ?_
 unfold s25
 unfold aNk at hm
 refine wa fun _ _ _ => ?_
 unfold cNr
 refine Ev.call (cMt (by assumption) hs g fl hfl lx hl) ?_
 rintro _ h1 ⟨J, x1, rfl, g1, S1, T1⟩
 have o1 := T1.2.one
 refine wx ?_; refine wx ?_; refine wx ?_
 unfold cQg
 refine Ev.ine (fun e1 => ?_) (fun e1 => ?_)
 ·rw [if_neg (show ¬ lx.2.2 = 0 from e1)] at hm
  cases hm
  refine yt ?_; refine wd ?_; refine wt fun _ _ => ?_; refine ws ?_
  exact Ev.ret ⟨J, _, rfl, g1, dp, NV.flat _ _ _⟩
 ·rw [if_pos (show lx.2.2 = 0 from e1)] at hm
  split at hm
  ·rename_i hlen
   refine yj ?_
   unfold cPg
   refine wd ?_; refine wb fun _ _ _ => ?_
   rename_i p hp Sp
   have Sq := Sy.qL Sp
   have Sq : Sy J A [PD p x1 0 ⟨lx.1, 0, 0, 0⟩] _ hp := Sq
   unfold cQe
   refine wd ?_; refine wa fun _ _ _ => ?_; refine wt fun _ _ => ?_
   unfold cPi
   refine yj ?_
   refine (bHs (I := J) (k := 11) (tt := [100, 111, 73, 116]) (mm := 0) (ns := []) (ts0 := []) (ks0 := []) f hf (by assumption) rfl (by first | assumption | exact bS _ | (repeat (first | exact aW | refine aS (by first | rfl | assumption | exact Fz.one (by assumption)) ?_))) ⟨lx.1, T1, by simp, hlen⟩ (SS.nil J) rfl rfl hm).mono ?_
   rintro v h' ⟨K, cs, e, g2, S2, N2⟩
   exact ⟨K, cs, e, g1.trans g2, S2, N2⟩
  ·cases hm
end Go.Dd

namespace Go.Dd
def TOk (t : Tok) : Prop := (t.kind = 4 → t.text = []) ∧ (t.kind = 5 ∨ t.kind = 6 → t.num = 0)
def GT (l : List Tok) : Prop := 1 ≤ l.length ∧ ∀ t ∈ l, TOk t
theorem GT.drop {l : List Tok} (h : GT l) (h2 : 2 ≤ l.length) : GT (l.drop 1) := ⟨by simp; omega, fun t ht => h.2 t (List.mem_of_mem_drop ht)⟩
def RR (a b : PSt) : Prop := GT b.toks ∧ b.err = a.err ∧ b.pos = a.pos ∧ (a.err = 0 → a = b)
def RQ {α β : Type} (e : Int) (V : α → β → Prop) (o : Option (α × PSt)) (o' : Option (β × PSt)) : Prop := ∀ x s, o = some (x, s) → (s.err = 0 → e = 0) ∧ ∃ y s', o' = some (y, s') ∧ RR s s' ∧ (s.err = 0 → V x y)
section
variable {α α' β β' : Type} {V : α → α' → Prop} {W : β → β' → Prop} {e : Int}
theorem RQ.bind {o : Option (α × PSt)} {o' : Option (α' × PSt)} {k : α × PSt → Option (β × PSt)} {k' : α' × PSt → Option (β' × PSt)} (H : RQ e V o o') (K : ∀ x y s s', RR s s' → (s.err = 0 → e = 0) → (s.err = 0 → V x y) → RQ s.err W (k (x, s)) (k' (y, s'))) : RQ e W (o.bind k) (o'.bind k') := by
 intro y t h
 obtain ⟨⟨x, s⟩, e1, e2⟩ := aT h
 obtain ⟨h0, x', s', a, b, c⟩ := H x s e1
 obtain ⟨h1, y', t', d⟩ := K x x' s s' b h0 c y t e2
 exact ⟨fun h => h0 (h1 h), y', t', by rw [a]; exact d.1, d.2⟩
theorem RQ.bindB {γ : Type} {o o' : Option γ} {k : γ → Option (β × PSt)} {k' : γ → Option (β' × PSt)} (H : ∀ b, o = some b → o' = some b) (K : ∀ b, o = some b → RQ e W (k b) (k' b)) : RQ e W (o.bind k) (o'.bind k') := by
 intro y t h
 obtain ⟨x, e1, e2⟩ := aT h
 obtain ⟨h1, y', t', d⟩ := K x e1 y t e2
 exact ⟨h1, y', t', by rw [H x e1]; exact d.1, d.2⟩
theorem RQ.some {x : α} {y : α'} {s s' : PSt} (r : RR s s') (h : s.err = 0 → e = 0) (v : s.err = 0 → V x y) : RQ e V (some (x, s)) (some (y, s')) := fun _ _ q => by
 cases q; exact ⟨h, _, _, rfl, r, v⟩
theorem RQ.none {o : Option (β × PSt)} {V : α → β → Prop} : RQ e V none o := fun _ _ q => by cases q
theorem RQ.mono {o : Option (α × PSt)} {o' : Option (α' × PSt)} {e' : Int} {U : α → α' → Prop} (H : RQ e V o o') (he : e = 0 → e' = 0) (k : ∀ x y, V x y → U x y) : RQ e' U o o' := fun x s q => by
 obtain ⟨a, y, s', b, c, d⟩ := H x s q
 exact ⟨fun h => he (a h), y, s', b, c, fun h => k _ _ (d h)⟩
end
theorem RR.refl {a : PSt} (h : GT a.toks) : RR a a := ⟨h, rfl, rfl, fun _ => rfl⟩
theorem RR.eq {a b : PSt} (h : RR a b) (e : a.err = 0) : a = b := h.2.2.2 e
variable {a b : PSt}
theorem gX {b : PSt} (h : GT b.toks) : ∃ t, bH b 0 = some t := by
 have := h.1
 unfold bH
 exact ⟨_, List.getElem?_eq_getElem (by omega)⟩
theorem kW (R : RR a b) (k : Int) (t : List Nat) : ∀ c, dT a k t = some c → dT b k t = some c := by
 intro c h
 by_cases e : a.err = 0
 ·rw [← R.eq e]; exact h
 ·unfold dT at h ⊢
  obtain ⟨x, _, h⟩ := aT h
  obtain ⟨y, hy⟩ := gX R.1
  rw [hy, Option.bind_some, R.2.1]
  rw [← h]
  simp [e]
theorem cM {st : PSt} {k : Int} {t : List Nat} (h : dT st k t = some true) : st.err = 0 ∧ ∃ u, bH st 0 = some u ∧ u.kind = k ∧ (t = [] ∨ u.text = t) := by
 unfold dT at h
 obtain ⟨x, hx, h⟩ := aT h
 simp only [Option.some.injEq, Bool.and_eq_true, Bool.or_eq_true, decide_eq_true_eq] at h
 exact ⟨h.1.1, x, hx, h.1.2, h.2⟩
theorem nQ (R : RR a b) {t t' : Tok} {e : Int} (he : e ≠ 0) (ht : a.err = 0 → t = t') : RR (bW a t e) (bW b t' e) ∧ (bW a t e).err ≠ 0 := by
 unfold bW
 rw [R.2.1]
 by_cases h : a.err = 0
 ·rw [if_pos h, if_pos h]
  have := R.eq h
  subst this
  rw [ht h]
  exact ⟨RR.refl R.1, he⟩
 ·rw [if_neg h, if_neg h]
  exact ⟨R, h⟩
theorem nK (R : RR a b) {k : Int} {t : List Nat} (hk : k ≠ 0) (h : dT a k t = some true) {β β' : Type} {W : β → β' → Prop} {K : Tok × PSt → Option (β × PSt)} {K' : Tok × PSt → Option (β' × PSt)}
 (H : ∀ x s, s.err = 0 → GT s.toks → x.kind = k → bH a 0 = some x → RR s s → RQ 0 W (K (x, s)) (K' (x, s))) : RQ a.err W ((cI a).bind K) ((dV b).bind K') := by
 obtain ⟨e, u, hu, hk2, _⟩ := cM h
 have := R.eq e
 subst this
 unfold cI dV
 rw [hu]
 simp only [Option.bind_some]
 have hu0 : ¬ u.kind = 0 := by rw [hk2]; exact hk
 rw [if_neg hu0, if_neg hu0]
 by_cases hl : 2 ≤ a.toks.length
 ·rw [if_pos hl]
  simp only [Option.bind_some]
  exact (H u { a with toks := a.toks.drop 1 } e (R.1.drop hl) hk2 hu (RR.refl (R.1.drop hl))).mono (fun _ => e) (fun _ _ h => h)
 ·rw [if_neg hl]
  exact RQ.none
theorem zX (R : RR a b) {k : Int} (hk : k ≠ 0) (t : List Nat) : RQ a.err (fun x y => x = y) (gF a k t) (nI b k t) := by
 unfold gF nI
 refine RQ.bindB (kW R k t) fun c hc => ?_
 cases c with
 | true =>
  simp only [if_true]
  have := nK R hk hc (K := some) (K' := some) (W := fun x y => x = y) (fun x s e h1 h2 h3 h4 => RQ.some h4 (fun _ => rfl) (fun _ => rfl))
  simpa using this
 | false =>
  simp only [Bool.false_eq_true, if_false]
  intro y s h
  obtain ⟨u, hu, h⟩ := aT h
  simp only [Option.some.injEq, Prod.mk.injEq] at h
  obtain ⟨rfl, rfl⟩ := h
  obtain ⟨v, hv⟩ := gX R.1
  obtain ⟨q1, q2⟩ := nQ R (t := u) (t' := v) (e := 13) (by decide) (fun e => by rw [R.eq e, hv] at hu; cases hu; rfl)
  exact ⟨fun e => absurd e q2, z4, _, by rw [hv]; rfl, q1, fun e => absurd e q2⟩
theorem dGv (R : RR a b) {t : Tok} {s : PSt} (h : gF a 0 [] = some (t, s)) : ∃ s', bWl b = some s' ∧ RR s s' ∧ (s.err = 0 → a.err = 0) := by
 unfold gF at h
 obtain ⟨c, hc, h⟩ := aT h
 unfold bWl
 rw [kW R 0 [] c hc, Option.bind_some]
 cases c with
 | true =>
  rw [if_pos rfl] at h ⊢
  obtain ⟨e, u, hu, hk, _⟩ := cM hc
  unfold cI at h
  rw [hu, Option.bind_some, if_pos hk] at h
  cases h
  exact ⟨b, rfl, R, id⟩
 | false =>
  simp only [Bool.false_eq_true, if_false] at h ⊢
  obtain ⟨u, hu, h⟩ := aT h
  simp only [Option.some.injEq, Prod.mk.injEq] at h
  obtain ⟨rfl, rfl⟩ := h
  obtain ⟨v, hv⟩ := gX R.1
  obtain ⟨q1, q2⟩ := nQ R (t := u) (t' := v) (e := 13) (by decide) (fun e => by rw [R.eq e, hv] at hu; cases hu; rfl)
  exact ⟨_, by rw [hv]; rfl, q1, fun e => absurd e q2⟩
theorem dCg (R : RR a b) {k : Int} (hk : k ≠ 0) (l : List (List Nat)) : RQ a.err (fun x y => y = l ++ [x]) (vC a k l.length) (uC b k l) := by
 unfold vC uC
 refine RQ.bind (zX R hk []) fun x y s s' R2 h0 hv => ?_
 show RQ s.err _ (some (x.text, if l.length = 4 then bW s x 18 else s)) (some (l ++ [y.text], if s'.err = 0 ∧ l.length = 4 then bW s' y 18 else s'))
 by_cases h4 : l.length = 4
 ·rw [if_pos h4]
  by_cases he : s.err = 0
  ·rw [if_pos ⟨by rw [R2.2.1]; exact he, h4⟩]
   obtain ⟨q1, q2⟩ := nQ R2 (t := x) (t' := y) (e := 18) (by decide) hv
   exact RQ.some q1 (fun e => absurd e q2) (fun e => absurd e q2)
  ·rw [if_neg (fun h => he (by rw [← R2.2.1]; exact h.1))]
   have : bW s x 18 = s := by unfold bW; rw [if_neg he]
   rw [this]
   exact RQ.some R2 id (fun e => absurd e he)
 ·rw [if_neg h4, if_neg (fun h => h4 h.2)]
  exact RQ.some R2 id (fun e => by rw [hv e])
theorem aPb : ∀ (f : Nat) (l : List (List Nat)) (a b : PSt), RR a b → RQ a.err Eq (nT f l a) (oZ f l b)
 | 0, l, a, b, R => RQ.none
 | f + 1, l, a, b, R => by
  unfold nT oZ
  refine RQ.bindB (kW R _ _) fun c hc => ?_
  cases c with
  | true => exact nK R (by decide) hc fun x s e _ _ _ R2 => by have := aPb f (l ++ [x.text]) s s R2; rw [e] at this; exact this
  | false => exact RQ.bind (zX R (by decide) _) fun x y s s' R2 h0 hv => RQ.some R2 id (fun _ => rfl)
theorem aXh (f : Nat) (R : RR a b) : RQ a.err Eq (kI f a) (nS f b) := by
 unfold kI nS
 refine RQ.bindB (kW R _ _) fun c hc => ?_
 cases c with
 | true => exact nK R (by decide) hc fun x s e _ _ _ R2 => by have := aPb f [] s s R2; rw [e] at this; exact this
 | false => exact RQ.some R id (fun _ => rfl)
end Go.Dd

namespace Go.Dd
variable {a b : PSt}
theorem kS {st : PSt} {u : Tok} (he : st.err = 0) (hu : bH st 0 = some u) (k : Int) : dT st k [] = some (decide (u.kind = k)) := by
 unfold dT
 rw [hu]
 simp [he]
theorem rB {st : PSt} {u : Tok} (he : st.err ≠ 0) (hu : bH st 0 = some u) (k : Int) (t : List Nat) : dT st k t = some false := by
 unfold dT
 rw [hu]
 simp [he]
theorem bMr {st : PSt} {u : Tok} {k : Nat} (hu : bH st k = some u) : u ∈ st.toks := List.mem_of_getElem? hu
theorem fZ {st : PSt} {u : Tok} (hu : bH st 0 = some u) (hk : u.kind ≠ 0) {x : Tok} {s : PSt} (h : cI st = some (x, s)) : 2 ≤ st.toks.length ∧ x = u ∧ s = { st with toks := st.toks.drop 1 } ∧ dV st = some (x, s) := by
 unfold cI at h
 unfold dV
 rw [hu] at h ⊢
 simp only [Option.bind_some] at h ⊢
 rw [if_neg hk] at h ⊢
 by_cases hl : 2 ≤ st.toks.length
 ·rw [if_pos hl] at h ⊢
  cases h
  exact ⟨hl, rfl, rfl, rfl⟩
 ·rw [if_neg hl] at h
  cases h
theorem aVm (R : RR a b) {x : Node} {c : Bool} {s : PSt} (h : lD a = some ((x, c), s)) : (s.err = 0 → a.err = 0) ∧ ∃ y s', rL b = some ((y, c), s') ∧ RR s s' ∧ (c = true → s.err = 0 ∧ x = y) := by
 unfold lD at h
 obtain ⟨t, ht, h⟩ := aT h
 by_cases he : a.err = 0
 ·have := R.eq he
  subst this
  rw [if_pos he] at h
  obtain ⟨c0, hc0, h⟩ := aT h
  have hT := R.1.2 t (bMr ht)
  unfold rL
  rw [ht, Option.bind_some]
  unfold bFg at hc0
  obtain ⟨t1, ht1, hc0⟩ := aT hc0
  obtain ⟨c1, hc1, hc0⟩ := aT hc0
  rw [ht] at hc0
  simp only [Option.bind_some, Option.some.injEq] at hc0
  rw [hc1, Option.bind_some]
  have hD : (if c1 = true then (bH a 1).bind fun u => some (decide (u.kind = 4) && decide (u.pos = uR (t.pos + 1))) else some false) = some c0 := by
   rw [← hc0]
   cases c1 with
   | true => rw [if_pos rfl, ht1]; simp
   | false => simp
  rw [hD, Option.bind_some]
  cases c0 with
  | true =>
   rw [if_pos rfl] at h ⊢
   simp only [Bool.and_eq_true, decide_eq_true_eq] at hc0
   obtain ⟨⟨z1, z2⟩, z3⟩ := hc0
   subst z1
   obtain ⟨_, u, hu, hk, _⟩ := cM hc1
   rw [ht] at hu
   cases hu
   obtain ⟨⟨x1, s1⟩, h1, h⟩ := aT h
   obtain ⟨⟨x2, s2⟩, h2, h⟩ := aT h
   obtain ⟨l1, rfl, rfl, d1⟩ := fZ ht (by omega) h1
   have hu2 : bH { a with toks := a.toks.drop 1 } 0 = some t1 := by
    unfold bH at ht1 ⊢
    rw [show min 1 (a.toks.length - 1) = 1 by omega] at ht1
    simpa using ht1
   obtain ⟨l2, rfl, rfl, d2⟩ := fZ hu2 (by omega) h2
   simp only [Option.some.injEq, Prod.mk.injEq] at h
   obtain ⟨⟨rfl, rfl⟩, rfl⟩ := h
   rw [d1, Option.bind_some]
   refine ⟨fun _ => he, _, _, by simp only [d2, Option.bind_some], RR.refl ((R.1.drop l1).drop l2), fun _ => ⟨he, rfl⟩⟩
  | false =>
   simp only [Bool.false_eq_true, if_false] at h ⊢
   rw [kS he ht 4, Option.bind_some]
   by_cases k4 : t.kind = 4
   ·rw [if_pos k4] at h
    rw [if_pos (by simp [k4])]
    obtain ⟨⟨x1, s1⟩, h1, h⟩ := aT h
    obtain ⟨l1, rfl, rfl, d1⟩ := fZ ht (by omega) h1
    simp only [Option.some.injEq, Prod.mk.injEq] at h
    obtain ⟨⟨rfl, rfl⟩, rfl⟩ := h
    refine ⟨fun _ => he, _, _, by rw [d1]; rfl, RR.refl (R.1.drop l1), fun _ => ⟨he, by rw [hT.1 k4]⟩⟩
   ·rw [if_neg k4] at h
    rw [if_neg (by simp [k4]), kS he ht 5, Option.bind_some]
    by_cases k5 : t.kind = 5
    ·rw [if_pos k5] at h
     rw [if_pos (by simp [k5])]
     obtain ⟨⟨x1, s1⟩, h1, h⟩ := aT h
     obtain ⟨l1, rfl, rfl, d1⟩ := fZ ht (by omega) h1
     simp only [Option.some.injEq, Prod.mk.injEq] at h
     obtain ⟨⟨rfl, rfl⟩, rfl⟩ := h
     refine ⟨fun _ => he, _, _, by rw [d1]; rfl, RR.refl (R.1.drop l1), fun _ => ⟨he, by rw [hT.2 (.inl k5)]⟩⟩
    ·rw [if_neg k5] at h
     rw [if_neg (by simp [k5]), kS he ht 6, Option.bind_some]
     by_cases k6 : t.kind = 6
     ·rw [if_pos k6] at h
      rw [if_pos (by simp [k6])]
      obtain ⟨⟨x1, s1⟩, h1, h⟩ := aT h
      obtain ⟨l1, rfl, rfl, d1⟩ := fZ ht (by omega) h1
      simp only [Option.some.injEq, Prod.mk.injEq] at h
      obtain ⟨⟨rfl, rfl⟩, rfl⟩ := h
      refine ⟨fun _ => he, _, _, by rw [d1]; rfl, RR.refl (R.1.drop l1), fun _ => ⟨he, by rw [hT.2 (.inr k6)]⟩⟩
     ·rw [if_neg k6] at h
      rw [if_neg (by simp [k6])]
      simp only [Option.some.injEq, Prod.mk.injEq] at h
      obtain ⟨⟨rfl, rfl⟩, rfl⟩ := h
      exact ⟨fun _ => he, _, _, rfl, R, fun h => by cases h⟩
 ·rw [if_neg he] at h
  simp only [Option.some.injEq, Prod.mk.injEq] at h
  obtain ⟨⟨rfl, rfl⟩, rfl⟩ := h
  obtain ⟨u, hu⟩ := gX R.1
  have heb : b.err ≠ 0 := by rw [R.2.1]; exact he
  refine ⟨id, zN, b, ?_, R, fun h => by cases h⟩
  unfold rL
  rw [hu, Option.bind_some, rB heb hu, Option.bind_some]
  simp only [Bool.false_eq_true, if_false, Option.bind_some]
  rw [rB heb hu, Option.bind_some]
  simp only [Bool.false_eq_true, if_false]
  rw [rB heb hu, Option.bind_some]
  simp only [Bool.false_eq_true, if_false]
  rw [rB heb hu, Option.bind_some]
  simp
def PQ (f g : PF) : Prop := ∀ a b, RR a b → RQ a.err Eq (f a) (g b)
theorem rW : ∀ (f : Nat) (x y : Node) (a b : PSt), RR a b → (a.err = 0 → x = y) → RQ a.err Eq (iA f x a) (kL f y b)
 | 0, x, y, a, b, R, hx => RQ.none
 | f + 1, x, y, a, b, R, hx => by
  unfold iA kL
  refine RQ.bindB (kW R _ _) fun c hc => ?_
  cases c with
  | true =>
   have := hx (cM hc).1
   subst this
   exact nK R (by decide) hc fun t s e _ _ _ R2 => by have := rW f (cE t.text [x]) (cE t.text [x]) s s R2 (fun _ => rfl); rw [e] at this; exact this
  | false => exact RQ.some R id hx
theorem aAh {P P' : PF} (H : PQ P P') (g : Nat) : ∀ (f : Nat) (x y : Node) (a b : PSt), RR a b → (a.err = 0 → x = y) → RQ a.err Eq (hK P g f x a) (kP P' g f y b)
 | 0, x, y, a, b, R, hx => RQ.none
 | f + 1, x, y, a, b, R, hx => by
  unfold hK kP
  refine RQ.bindB (kW R _ _) fun c hc => ?_
  cases c with
  | true =>
   have := hx (cM hc).1
   subst this
   refine nK R (by decide) hc fun t s e _ _ _ R2 => ?_
   have h1 := H s s R2
   rw [e] at h1
   refine RQ.bind h1 fun x1 y1 s1 s1' R3 _ hv1 => ?_
   refine RQ.bind (rW g x1 y1 s1 s1' R3 hv1) fun x2 y2 s2 s2' R4 h4 hv2 => ?_
   exact aAh H g f _ _ s2 s2' R4 (fun h => by rw [hv2 h])
  | false => exact RQ.some R id hx
theorem aJp {P P' : PF} (H : PQ P P') (g : Nat) (x0 : Node) : ∀ (f : Nat) (t t' : List Nat) (ks ks' : List Node) (a b : PSt), RR a b → (a.err = 0 → t = t' ∧ ks = ks') →
 RQ a.err (fun X Y => ∃ u us, X = cE u (x0 :: us) ∧ Y = cE u us) (nM P g f t (x0 :: ks) a) (lC P' g f t' ks' b)
 | 0, t, t', ks, ks', a, b, R, hx => RQ.none
 | f + 1, t, t', ks, ks', a, b, R, hx => by
  unfold nM lC
  refine RQ.bindB (kW R _ _) fun c hc => ?_
  cases c with
  | true =>
   obtain ⟨h1, h2⟩ := hx (cM hc).1
   subst h1
   subst h2
   refine nK R (by decide) hc fun u s e _ _ _ R2 => ?_
   show RQ 0 _ (if t.length + u.text.length ≤ bL then _ else _) (if t.length + u.text.length ≤ bL then _ else _)
   split
   ·have h1 := H s s R2
    rw [e] at h1
    refine RQ.bind h1 fun x1 y1 s1 s1' R3 _ hv1 => ?_
    refine RQ.bind (rW g x1 y1 s1 s1' R3 hv1) fun x2 y2 s2 s2' R4 _ hv2 => ?_
    refine RQ.bind (aAh H g g x2 y2 s2 s2' R4 hv2) fun x3 y3 s3 s3' R5 _ hv3 => ?_
    exact aJp H g x0 f (t ++ u.text) (t ++ u.text) (ks ++ [x3]) (ks ++ [y3]) s3 s3' R5 (fun h => ⟨rfl, by rw [hv3 h]⟩)
   ·exact RQ.none
  | false => exact RQ.some R id (fun h => by obtain ⟨h1, h2⟩ := hx h; subst h1; subst h2; exact ⟨t, ks, rfl, rfl⟩)
theorem xF {P : PF} {g : Nat} : ∀ (f : Nat) (t : List Nat) (ks : List Node) (b : PSt) (y : Node) (s : PSt), lC P g f t ks b = some (y, s) → ks.length ≤ y.kids.length ∧ y.kids.length ≤ ks.length + f ∧ (dT b 2 [] = some true → ks.length + 1 ≤ y.kids.length)
 | 0, t, ks, b, y, s, h => by cases h
 | f + 1, t, ks, b, y, s, h => by
  unfold lC at h
  obtain ⟨c, hc, h⟩ := aT h
  cases c with
  | true =>
   rw [if_pos rfl] at h
   obtain ⟨r, _, h⟩ := aT h
   split at h
   ·obtain ⟨q, _, h⟩ := aT h
    obtain ⟨u, _, h⟩ := aT h
    obtain ⟨w, _, h⟩ := aT h
    obtain ⟨a1, a2, _⟩ := xF f _ _ _ y s h
    simp at a1 a2
    exact ⟨by omega, by omega, fun _ => by omega⟩
   ·cases h
  | false =>
   simp only [Bool.false_eq_true, if_false, Option.some.injEq, Prod.mk.injEq] at h
   obtain ⟨rfl, rfl⟩ := h
   exact ⟨Nat.le_refl _, by show ks.length ≤ _; omega, fun e => by rw [hc] at e; cases e⟩
theorem aCl {P : PF} {g : Nat} {b : PSt} (h : dT b 2 [] = some true) : aBn P g b = lC P g g [] [] b := by
 obtain ⟨e, u, hu, hk, _⟩ := cM h
 unfold aBn
 rw [kS e hu 1, Option.bind_some, if_neg (by simp [hk]), kS e hu 3, Option.bind_some, if_neg (by simp [hk]), h]
 rfl
theorem cRh {P P' : PF} (H : PQ P P') (g : Nat) (hg : g + 1 ≤ bL) (x y : Node) (R : RR a b) (hx : a.err = 0 → x = y) : RQ a.err Eq (sD P g x a) (aOr P' g y b) := by
 unfold sD aOr
 refine RQ.bindB (kW R _ _) fun c hc => ?_
 cases c with
 | true =>
  simp only [if_true]
  have := hx (cM hc).1
  subst this
  have hcb := kW R _ _ _ hc
  rw [aCl hcb]
  intro z s h
  obtain ⟨h0, w, s', h1, h2, h3⟩ := aJp H g x g [] [] [] [] a b R (fun _ => ⟨rfl, rfl⟩) z s h
  obtain ⟨l1, l2, l3⟩ := xF g [] [] b w s' h1
  have l3 := l3 hcb
  simp at l2 l3
  refine ⟨h0, cE w.text (x :: w.kids), s', ?_, h2, fun e => ?_⟩
  ·rw [h1, Option.bind_some]
   rw [if_pos ⟨l3, by show w.kids.length + 1 ≤ bL; omega⟩]
  ·obtain ⟨u, us, e1, e2⟩ := h3 e
   rw [e1, e2]
   rfl
 | false => exact RQ.some R id hx
theorem dHl {P P' : PF} (H : PQ P P') (g : Nat) (hg : 1 ≤ g) {s : PSt} (he : s.err = 0) (R : RR s s) : RQ 0 (fun X Y => jC X = Y) (aRn P g s) (aBn P' g s) := by
 obtain ⟨t, ht⟩ := gX R.1
 unfold aRn
 rw [ht, Option.bind_some]
 by_cases k1 : t.kind = 1
 ·rw [if_pos k1]
  unfold aBn
  have hc : dT s 1 [] = some true := by rw [kS he ht 1]; simp [k1]
  rw [hc, Option.bind_some]
  have := nK R (by decide) hc (K := fun r => some (cE t.text [zN], r.2)) (K' := fun r => some (cE r.1.text [], r.2)) (W := fun X Y => jC X = Y)
   (fun x s2 e _ _ hl R2 => RQ.some R2 (fun _ => rfl) (fun _ => by rw [ht] at hl; cases hl; rfl))
  rw [he] at this
  exact this
 ·rw [if_neg k1]
  by_cases k3 : t.kind = 3
  ·rw [if_pos k3]
   unfold aBn
   have hc : dT s 3 [] = some true := by rw [kS he ht 3]; simp [k3]
   rw [kS he ht 1, Option.bind_some, if_neg (by simp [k1]), hc, Option.bind_some]
   have := nK R (by decide) hc (K := fun r => (P r.2).bind fun q => (iA g q.1 q.2).bind fun u => some (cE t.text [zN, u.1], u.2)) (K' := fun r => (P' r.2).bind fun q => (kL g q.1 q.2).bind fun u => some (cE r.1.text [u.1], u.2)) (W := fun X Y => jC X = Y)
    (fun x s2 e _ _ hl R2 => by
     have h1 := H s2 s2 R2
     rw [e] at h1
     refine RQ.bind h1 fun x1 y1 s1 s1' R3 _ hv1 => ?_
     refine RQ.bind (rW g x1 y1 s1 s1' R3 hv1) fun x2 y2 s2 s2' R4 _ hv2 => ?_
     refine RQ.some R4 id (fun h => ?_)
     rw [ht] at hl
     cases hl
     show jC (cE t.text [zN, x2]) = cE t.text [y2]
     rw [hv2 h]
     rfl)
   rw [he] at this
   exact this
  ·rw [if_neg k3]
   by_cases k2 : t.kind = 2
   ·rw [if_pos k2]
    have hc : dT s 2 [] = some true := by rw [kS he ht 2]; simp [k2]
    rw [aCl hc]
    unfold sD
    rw [hc, Option.bind_some, if_pos rfl]
    have := aJp H g zN g [] [] [] [] s s R (fun _ => ⟨rfl, rfl⟩)
    rw [he] at this
    refine this.mono id ?_
    rintro X Y ⟨u, us, rfl, rfl⟩
    rfl
   ·rw [if_neg k2]
    unfold aBn
    rw [kS he ht 1, Option.bind_some, if_neg (by simp [k1]), kS he ht 3, Option.bind_some, if_neg (by simp [k3]), kS he ht 2, Option.bind_some]
    rw [if_neg (by simp [k2]), ht, Option.bind_some, Option.bind_some]
    obtain ⟨q1, q2⟩ := nQ R (t := t) (t' := t) (e := 13) (by decide) (fun _ => rfl)
    obtain ⟨g, rfl⟩ : ∃ k, g = k + 1 := ⟨g - 1, by omega⟩
    obtain ⟨u, hu⟩ := gX q1.1
    intro X s' h
    cases h
    refine ⟨fun h => absurd h q2, cE [] [], bW s t 13, ?_, q1, fun h => absurd h q2⟩
    unfold lC
    rw [rB q2 hu]
    rfl
theorem cPo {P P' : PF} (H : PQ P P') (g : Nat) (hg : 1 ≤ g) : ∀ (f : Nat) (ks ks' : List Node) (a b : PSt), RR a b → (a.err = 0 → ks = ks') → RQ a.err Eq (aMb P g f ks a) (aCf P' g f ks' b)
 | 0, ks, ks', a, b, R, hx => RQ.none
 | f + 1, ks, ks', a, b, R, hx => by
  unfold aMb aCf
  refine RQ.bindB (kW R _ _) fun c hc => ?_
  cases c with
  | true =>
   have := hx (cM hc).1
   subst this
   refine nK R (by decide) hc fun t s e _ _ _ R2 => ?_
   refine RQ.bind (dHl H g hg e R2) fun x1 y1 s1 s1' R3 _ hv1 => ?_
   exact cPo H g hg f _ _ s1 s1' R3 (fun h => by rw [hv1 h])
  | false => exact RQ.some R id (fun h => by rw [hx h])
theorem cRn {P P' E E' : PF} (H : PQ P P') (HE : PQ E E') (g : Nat) (hg : 1 ≤ g) (hl : g + 1 ≤ bL) : PQ (sI P E g) (aCo P' E' g) := by
 intro a b R
 unfold sI aCo
 refine RQ.bindB (kW R _ _) fun c hc => ?_
 have hd : ∀ d, (if c = true then (bH a 1).bind fun t => some (decide (t.kind = 9)) else some false) = some d → (if c = true then (bH b 1).bind fun t => some (decide (t.kind = 9)) else some false) = some d := by
  intro d h
  cases c with
  | true => rw [R.eq (cM hc).1] at h; exact h
  | false => exact h
 refine RQ.bindB hd fun d hd => ?_
 cases d with
 | true =>
  cases c with
  | false => cases hd
  | true =>
   simp only [if_true] at hd ⊢
   obtain ⟨t2, ht2, hk⟩ := aT hd
   simp only [Option.some.injEq, decide_eq_true_eq] at hk
   have hae := (cM hc).1
   have := R.eq hae
   subst this
   intro z s h
   obtain ⟨⟨x1, s1⟩, h1, h⟩ := aT h
   obtain ⟨_, u, hu, hku, _⟩ := cM hc
   obtain ⟨l1, rfl, rfl, d1⟩ := fZ hu (by omega) h1
   have hu2 : bH { a with toks := a.toks.drop 1 } 0 = some t2 := by
    unfold bH at ht2 ⊢
    rw [show min 1 (a.toks.length - 1) = 1 by omega] at ht2
    simpa using ht2
   obtain ⟨⟨x2, s2⟩, h2, h⟩ := aT h
   obtain ⟨l2, rfl, rfl, d2⟩ := fZ hu2 (by omega) h2
   obtain ⟨⟨x3, s3⟩, h3, h⟩ := aT h
   simp only [Option.some.injEq, Prod.mk.injEq] at h
   obtain ⟨rfl, rfl⟩ := h
   have R2 : RR { a with toks := (a.toks.drop 1).drop 1 } { a with toks := (a.toks.drop 1).drop 1 } := RR.refl ((R.1.drop l1).drop l2)
   obtain ⟨q0, y3, s3', q1, q2, q3⟩ := HE _ _ R2 x3 s3 h3
   refine ⟨fun _ => hae, .mk 6 x1.text 0 [] [] [y3], s3', ?_, q2, fun h => by rw [q3 h]⟩
   rw [d1, Option.bind_some, d2, Option.bind_some, q1]
   rfl
 | false =>
  simp only [Bool.false_eq_true, if_false]
  unfold kG
  refine RQ.bind (H a b R) fun x1 y1 s1 s1' R1 _ hv1 => ?_
  refine RQ.bind (rW g x1 y1 s1 s1' R1 hv1) fun x2 y2 s2 s2' R2 _ hv2 => ?_
  refine RQ.bind (aAh H g g x2 y2 s2 s2' R2 hv2) fun x3 y3 s3 s3' R3 _ hv3 => ?_
  refine RQ.bind (cRh H g hl x3 y3 R3 hv3) fun x4 y4 s4 s4' R4 _ hv4 => ?_
  refine RQ.bindB (kW R4 _ _) fun c hc => ?_
  cases c with
  | true =>
   have e4 := (cM hc).1
   have := hv4 e4
   subst this
   show RQ s4.err Eq (if x4.kind = 7 then _ else _) (if x4.kind = 7 then _ else _)
   split
   ·refine RQ.bindB (fun k h => h) fun k0 hk0 => ?_
    refine cPo H g hg g _ _ s4 s4' R4 (fun _ => ?_)
    have : jC x4 = cE x4.text (x4.kids.drop 1) := by
     unfold jC
     rw [if_neg]
     intro h0
     have := (List.getElem?_eq_some_iff.1 hk0).1
     show False
     have h0 : x4.kids.length = 0 := h0
     have this : 0 < x4.kids.length := this
     omega
    show [k0, jC x4] = _
    rw [this]
   ·intro z s h
    obtain ⟨u, hu, h⟩ := aT h
    simp only [Option.some.injEq, Prod.mk.injEq] at h
    obtain ⟨rfl, rfl⟩ := h
    have := R4.eq e4
    subst this
    obtain ⟨q1, q2⟩ := nQ R4 (t := u) (t' := u) (e := 13) (by decide) (fun _ => rfl)
    exact ⟨fun h => absurd h q2, x4, bW s4 u 13, by rw [show bH (x4, s4).2 0 = some u from hu]; rfl, q1, fun h => absurd h q2⟩
  | false => exact RQ.some R4 id hv4
theorem jQ {f : PF} (R : GT a.toks) {t : Tok} (he : a.err = 0) (ht : bH a 0 = some t) (hk : t.kind ≠ 0) {x : Node} {s : PSt} (h : fH f a = some (x, s)) :
 (pG a = some (false, s) ∧ s.err ≠ 0 ∧ GT s.toks) ∨ ∃ a2 q, pG a = some (true, a2) ∧ a2.err = 0 ∧ GT a2.toks ∧ f a2 = some (x, q) ∧ s = { q with deep := uR (q.deep - 1) } := by
 unfold fH at h
 obtain ⟨⟨t1, s1⟩, h1, h⟩ := aT h
 obtain ⟨l1, rfl, rfl, d1⟩ := fZ ht hk h1
 unfold pG
 rw [d1, Option.bind_some]
 by_cases hd : a.deep = 20
 ·rw [if_pos hd] at h
  cases h
  have e14 : (14 : Int) ≠ 0 := by decide
  obtain ⟨q1, q2⟩ := nQ (RR.refl (R.drop l1) : RR { a with toks := a.toks.drop 1 } _) (t := t1) (t' := t1) e14 (fun _ => rfl)
  exact .inl ⟨by rw [if_pos hd], q2, q1.1⟩
 ·rw [if_neg hd] at h
  obtain ⟨⟨y, q⟩, h2, h⟩ := aT h
  cases h
  exact .inr ⟨{ toks := a.toks.drop 1, deep := uR (a.deep + 1), pos := a.pos, err := a.err }, q, by rw [if_neg hd], he, R.drop l1, h2, rfl⟩
def LQ (f : Nat) : Prop := ∀ (a : PSt) (t : Tok), a.err = 0 → GT a.toks → bH a 0 = some t → t.kind ≠ 0 → RQ 0 Eq (fH (vN f) a) (sJ f a)
theorem aIk {f0 : Nat} (H : LQ f0) : ∀ (f : Nat) (xs ys : List Node) (a b : PSt), RR a b → (a.err = 0 → xs = ys) → RQ a.err (fun X Y => X = Y) (iX (vN f0) f xs a) (kE (sJ f0) f ys b)
 | 0, xs, ys, a, b, R, hx => RQ.none
 | f + 1, xs, ys, a, b, R, hx => by
  unfold iX kE
  rw [R.2.1]
  by_cases he : a.err = 0
  ·rw [if_pos he, if_pos he]
   have := hx he
   subst this
   have := R.eq he
   subst this
   refine RQ.bindB (fun c h => h) fun c hc => ?_
   cases c with
   | true => exact RQ.some R id (fun _ => rfl)
   | false =>
    simp only [Bool.false_eq_true, if_false]
    intro z s h
    obtain ⟨⟨⟨y, d⟩, s1⟩, h1, h⟩ := aT h
    obtain ⟨q0, y', s1', q1, q2, q3⟩ := aVm R h1
    rw [q1, Option.bind_some]
    cases d with
    | true =>
     obtain ⟨e1, rfl⟩ := q3 rfl
     rw [if_pos rfl] at h ⊢
     have := aIk H f (xs ++ [y]) (xs ++ [y]) s1 s1' q2 (fun _ => rfl) z s h
     exact ⟨fun _ => he, this.2⟩
    | false =>
     simp only [Bool.false_eq_true, if_false] at h ⊢
     obtain ⟨c1, hc1, h⟩ := aT h
     obtain ⟨c2, hc2, h⟩ := aT h
     rw [kW q2 _ _ _ hc1, Option.bind_some]
     have hc2' : (if c1 = true then some true else dT s1' 10 [40]) = some c2 := by
      cases c1 with
      | true => exact hc2
      | false => exact kW q2 _ _ _ hc2
     rw [hc2', Option.bind_some]
     cases c2 with
     | true =>
      rw [if_pos rfl] at h ⊢
      obtain ⟨e1, t, ht, hk⟩ : s1.err = 0 ∧ ∃ t, bH s1 0 = some t ∧ t.kind ≠ 0 := by
       cases c1 with
       | true => obtain ⟨e, t, ht, hk, _⟩ := cM hc1; exact ⟨e, t, ht, by omega⟩
       | false => obtain ⟨e, t, ht, hk, _⟩ := cM hc2; exact ⟨e, t, ht, by omega⟩
      have := q2.eq e1
      subst this
      obtain ⟨⟨w, s2⟩, hw, h⟩ := aT h
      obtain ⟨r0, w', s2', r1, r2, r3⟩ := H s1 t e1 q2.1 ht hk w s2 hw
      rw [r1, Option.bind_some]
      have := aIk H f (xs ++ [w]) (xs ++ [w']) s2 s2' r2 (fun h => by rw [r3 h]) z s h
      exact ⟨fun _ => he, this.2⟩
     | false =>
      simp only [Bool.false_eq_true, if_false] at h ⊢
      obtain ⟨t, ht, h⟩ := aT h
      obtain ⟨v, hv⟩ := gX q2.1
      obtain ⟨r1, r2⟩ := nQ q2 (t := t) (t' := v) (e := 13) (by decide) (fun e => by rw [q2.eq e, hv] at ht; cases ht; rfl)
      rw [hv, Option.bind_some]
      have := aIk H f (xs ++ [y]) (xs ++ [y']) _ _ r1 (fun h => absurd h r2) z s h
      exact ⟨fun _ => he, this.2⟩
  ·rw [if_neg he, if_neg he]
   exact RQ.some R id (fun h => absurd h he)
theorem oI {LI : PF} : ∀ (f : Nat) (xs : List Node) (a : PSt) (ys : List Node) (s : PSt), iX LI f xs a = some (ys, s) → s.err = 0 → dT s 10 [41] = some true
 | 0, xs, a, ys, s, h => by cases h
 | f + 1, xs, a, ys, s, h => by
  intro he
  unfold iX at h
  split at h
  ·obtain ⟨c, hc, h⟩ := aT h
   cases c with
   | true => cases h; exact hc
   | false =>
    simp only [Bool.false_eq_true, if_false] at h
    obtain ⟨r, _, h⟩ := aT h
    split at h
    ·exact oI f _ _ _ _ h he
    ·obtain ⟨c1, _, h⟩ := aT h
     obtain ⟨c2, _, h⟩ := aT h
     split at h
     ·obtain ⟨q, _, h⟩ := aT h
      exact oI f _ _ _ _ h he
     ·obtain ⟨t, _, h⟩ := aT h
      exact oI f _ _ _ _ h he
  ·rename_i hn
   cases h
   exact absurd he hn
theorem bEf {st : PSt} {t : Tok} {s : PSt} (h : cI st = some (t, s)) : s.err = st.err ∧ s.pos = st.pos := by
 unfold cI at h
 obtain ⟨u, _, h⟩ := aT h
 split at h
 ·cases h; exact ⟨rfl, rfl⟩
 ·split at h
  ·cases h; exact ⟨rfl, rfl⟩
  ·cases h
theorem aMk {LI : PF} {f : Nat} {s : PSt} (h : pG a = some (false, s)) (he : s.err ≠ 0) : gQ LI f a = some (.mk 4 [] 0 [] [] [], s) := by
 unfold gQ
 rw [h, Option.bind_some]
 simp only [Bool.false_eq_true, if_false, Option.bind_some]
 unfold aIb
 rw [if_neg he]
 rfl
theorem bUu : ∀ f, LQ f
 | 0 => fun a t he R ht hk x s h => by
  rcases jQ R he ht hk h with ⟨e1, e2, e3⟩ | ⟨a2, q, _, _, _, e, _⟩
  ·exact ⟨fun _ => rfl, _, s, aMk e1 e2, RR.refl e3, fun h => absurd h e2⟩
  ·cases e
 | f + 1 => fun a t he R ht hk x s h => by
  refine ⟨fun _ => rfl, ?_⟩
  rcases jQ R he ht hk h with ⟨e1, e2, e3⟩ | ⟨a2, q, e1, e2, e3, e4, e5⟩
  ·exact ⟨_, s, aMk e1 e2, RR.refl e3, fun h => absurd h e2⟩
  ·have e4 : fL (vN f) f a2 = some (x, q) := e4
   unfold fL at e4
   obtain ⟨⟨ys, s1⟩, h1, h2⟩ := aT e4
   obtain ⟨⟨t2, q2⟩, h3, h2⟩ := aT h2
   simp only [Option.some.injEq, Prod.mk.injEq] at h2
   obtain ⟨rfl, rfl⟩ := h2
   obtain ⟨r0, ys', s1', r1, r2, r3⟩ := aIk (bUu f) f [] [] a2 a2 (RR.refl e3) (fun _ => rfl) ys s1 h1
   have hD : sJ (f + 1) a = (aIb (ys', s1')).bind fun q => some (.mk 4 [] 0 [] [] q.1, q.2) := by
    show gQ (sJ f) f a = _
    unfold gQ
    rw [e1, Option.bind_some, if_pos rfl, r1, Option.bind_some]
   rw [hD]
   unfold aIb
   by_cases hs : s1.err = 0
   ·have := r2.eq hs
    subst this
    have := r3 hs
    subst this
    obtain ⟨_, u, hu, hku, _⟩ := cM (oI f _ _ _ _ h1 hs)
    obtain ⟨l1, rfl, rfl, d1⟩ := fZ hu (by omega) h3
    subst e5
    rw [if_pos hs, d1]
    exact ⟨_, _, rfl, RR.refl (r2.1.drop l1), fun _ => rfl⟩
   ·obtain ⟨w1, w2⟩ := bEf h3
    rw [if_neg (by rw [r2.2.1]; exact hs)]
    subst e5
    refine ⟨_, s1', rfl, ⟨r2.1, by show s1'.err = q2.err; rw [w1]; exact r2.2.1, by show s1'.pos = q2.pos; rw [w2]; exact r2.2.2.1, fun h => absurd (by rw [← w1]; exact h) hs⟩, fun h => absurd (by rw [← w1]; exact h) hs⟩
theorem aPe : ∀ (f : Nat) (l : List (List Nat)) (a b : PSt), RR a b → ∀ (l' : List (List Nat)), (a.err = 0 → l = l') → RQ a.err Eq (kR f l a) (kA f l' b)
 | 0, l, a, b, R, l', hl => RQ.none
 | f + 1, l, a, b, R, l', hl => by
  unfold kR kA
  refine RQ.bindB (kW R _ _) fun c hc => ?_
  cases c with
  | true =>
   have := hl (cM hc).1
   subst this
   refine RQ.bind (dCg R (by decide) l) fun x y s s' R2 _ hv => ?_
   exact aPe f _ s s' R2 _ (fun h => (hv h).symm)
  | false => exact RQ.some R id hl
theorem aKl {E E' : PF} (HE : PQ E E') : ∀ (f : Nat) (xs ys : List Node) (a b : PSt), RR a b → (a.err = 0 → xs = ys) → RQ a.err Eq (iO E f xs a) (iS E' f ys b)
 | 0, xs, ys, a, b, R, hx => RQ.none
 | f + 1, xs, ys, a, b, R, hx => by
  unfold iO iS
  rw [R.2.1]
  by_cases he : a.err = 0
  ·rw [if_pos he, if_pos he]
   have := hx he
   subst this
   refine RQ.bindB (kW R _ _) fun c hc => ?_
   cases c with
   | true => exact RQ.some R id (fun _ => rfl)
   | false =>
    simp only [Bool.false_eq_true, if_false]
    refine RQ.bindB (kW R _ _) fun c hc => ?_
    cases c with
    | true => exact RQ.some R id (fun _ => rfl)
    | false =>
     simp only [Bool.false_eq_true, if_false]
     refine RQ.bindB (kW R _ _) fun c hc => ?_
     cases c with
     | true =>
      simp only [if_true]
      refine nK R (by decide) hc fun t s e _ _ _ R2 => ?_
      have h1 := HE s s R2
      rw [e] at h1
      refine RQ.bind h1 fun x1 y1 s1 s1' R3 _ hv1 => ?_
      refine RQ.bindB (kW R3 _ _) fun c hc => ?_
      cases c with
      | true =>
       simp only [if_true]
       refine nK R3 (by decide) hc fun t s2 e2 _ _ _ R4 => ?_
       exact RQ.some R4 (fun _ => rfl) (fun _ => by rw [hv1 (cM hc).1])
      | false => exact RQ.some R3 id (fun h => by rw [hv1 h])
     | false =>
      simp only [Bool.false_eq_true, if_false]
      refine RQ.bind (HE a b R) fun x1 y1 s1 s1' R3 _ hv1 => ?_
      refine RQ.bindB (kW R3 _ _) fun c hc => ?_
      cases c with
      | true =>
       simp only [if_true]
       refine nK R3 (by decide) hc fun t s2 e2 _ _ _ R4 => ?_
       have := aKl HE f (xs ++ [x1]) (xs ++ [y1]) s2 s2 R4 (fun _ => by rw [hv1 (cM hc).1])
       rw [e2] at this
       exact this
      | false => exact RQ.some R3 id (fun h => by rw [hv1 h])
  ·rw [if_neg he, if_neg he]
   exact RQ.some R id hx
theorem dLh {l l' : List (List Nat)} (R : RR a b) (hl : a.err = 0 → l = l') {s : PSt} (h : bar l a = some s) : (s.err = 0 → a.err = 0) ∧ ∃ s', aQp l' b = some s' ∧ RR s s' := by
 by_cases he : a.err = 0
 ·have := hl he
  subst this
  unfold bar at h
  unfold aQp
  split at h
  ·rename_i hp
   rw [if_pos hp]
   obtain ⟨c, hc, h⟩ := aT h
   rw [kW R _ _ _ hc, Option.bind_some]
   cases c with
   | true => cases h; exact ⟨id, b, rfl, R⟩
   | false =>
    simp only [Bool.false_eq_true, if_false] at h ⊢
    obtain ⟨⟨x, s1⟩, h1, h⟩ := aT h
    cases h
    obtain ⟨q0, y, s', q1, q2, _⟩ := zX R (by decide) [124] x s1 h1
    exact ⟨q0, s', by rw [q1]; rfl, q2⟩
  ·rename_i hp
   rw [if_neg hp]
   cases h
   exact ⟨id, b, rfl, R⟩
 ·
  have hb : b.err ≠ 0 := by rw [R.2.1]; exact he
  obtain ⟨v, hv⟩ := gX R.1
  have key : ∀ (s : PSt), bar l a = some s → s.err = a.err ∧ s.pos = a.pos := by
   intro s h
   unfold bar at h
   split at h
   ·obtain ⟨c, hc, h⟩ := aT h
    cases c with
    | true => exact absurd (cM hc).1 he
    | false =>
     simp only [Bool.false_eq_true, if_false] at h
     obtain ⟨⟨x, s1⟩, h1, h⟩ := aT h
     cases h
     unfold gF at h1
     obtain ⟨c, hc, h1⟩ := aT h1
     cases c with
     | true => exact absurd (cM hc).1 he
     | false =>
      simp only [Bool.false_eq_true, if_false] at h1
      obtain ⟨u, _, h1⟩ := aT h1
      simp only [Option.some.injEq, Prod.mk.injEq] at h1
      rw [← h1.2]
      unfold bW
      rw [if_neg he]
      exact ⟨rfl, rfl⟩
   ·cases h; exact ⟨rfl, rfl⟩
  obtain ⟨k1, k2⟩ := key s h
  refine ⟨fun h => by rw [← k1]; exact h, b, ?_, R.1, by rw [k1]; exact R.2.1, by rw [k2]; exact R.2.2.1, fun h => absurd (by rw [← k1]; exact h) he⟩
  unfold aQp
  split
  ·rw [rB hb hv, Option.bind_some]
   simp only [Bool.false_eq_true, if_false]
   unfold nI
   rw [rB hb hv, Option.bind_some]
   simp only [Bool.false_eq_true, if_false]
   rw [hv, Option.bind_some, Option.bind_some]
   unfold bW
   rw [if_neg hb]
  ·rfl
def aEa (E : PF) (f : Nat) : PF := fun st => (kA f [] st).bind fun r => (aQp r.1 r.2).bind fun st2 => (nS f st2).bind fun q => (iS E f [] q.2).bind fun u => (nI u.2 10 [93]).bind fun w => some (.mk 9 [] 0 r.1 q.1 u.1, w.2)
theorem bJf {E E' : PF} (HE : PQ E E') (f : Nat) : PQ (qW E f) (aEa E' f) := by
 intro a b R
 unfold qW aEa
 refine RQ.bind (aPe f [] a b R [] (fun _ => rfl)) fun x1 y1 s1 s1' R1 _ hv1 => ?_
 intro z t h
 obtain ⟨s2, h2, h⟩ := aT h
 obtain ⟨q0, s2', q1, R2⟩ := dLh R1 hv1 h2
 show _ ∧ ∃ y s', (aQp y1 s1').bind _ = _ ∧ _
 rw [q1, Option.bind_some]
 have key : RQ s2.err Eq ((kI f s2).bind fun q => (iO E f [] q.2).bind fun u => (gF u.2 10 [93]).bind fun w => some (Node.mk 9 [] 0 x1 q.1 u.1, w.2)) ((nS f s2').bind fun q => (iS E' f [] q.2).bind fun u => (nI u.2 10 [93]).bind fun w => some (Node.mk 9 [] 0 y1 q.1 u.1, w.2)) := by
  refine RQ.bind (aXh f R2) fun x3 y3 s3 s3' R3 h3 hv3 => ?_
  refine RQ.bind (aKl HE f [] [] s3 s3' R3 (fun _ => rfl)) fun x4 y4 s4 s4' R4 h4 hv4 => ?_
  refine RQ.bind (zX R4 (by decide) [93]) fun x5 y5 s5 s5' R5 h5 hv5 => ?_
  refine RQ.some R5 id (fun h => ?_)
  rw [hv1 (q0 (h3 (h4 (h5 h)))), hv3 (h4 (h5 h)), hv4 (h5 h)]
 obtain ⟨r0, r⟩ := key z t h
 exact ⟨fun h => q0 (r0 h), r⟩
theorem aOq {E : PF} {f : Nat} {a a2 : PSt} (h : pG a = some (true, a2)) {y : Node} {q : PSt} (hb : aEa E f a2 = some (y, q)) : tC E f a = some (y, { q with deep := uR (q.deep - 1) }) := by
 unfold tC
 rw [h, Option.bind_some, if_pos rfl]
 unfold aEa at hb
 obtain ⟨r, h1, hb⟩ := aT hb
 obtain ⟨s2, h2, hb⟩ := aT hb
 obtain ⟨q3, h3, hb⟩ := aT hb
 obtain ⟨u, h4, hb⟩ := aT hb
 obtain ⟨w, h5, hb⟩ := aT hb
 cases hb
 rw [h1, Option.bind_some, h2, Option.bind_some, h3, Option.bind_some, h4, Option.bind_some, h5]
 rfl
theorem RR.deep {a b : PSt} (R : RR a b) : RR { a with deep := uR (a.deep - 1) } { b with deep := uR (b.deep - 1) } :=
 ⟨R.1, R.2.1, R.2.2.1, fun h => by rw [R.eq h]⟩
theorem bEm {f0 : Nat} {E E' : PF} (HE : PQ E E') (f : Nat) : PQ (fE (vN f0) E f) (lG (sJ f0) E' f) := by
 intro a b R x s h
 unfold fE at h
 obtain ⟨⟨⟨y, d⟩, s1⟩, h1, h⟩ := aT h
 obtain ⟨q0, y', s1', q1, q2, q3⟩ := aVm R h1
 unfold lG
 by_cases he : a.err = 0
 ·rw [if_pos (by rw [R.2.1]; exact he), q1, Option.bind_some]
  refine ⟨fun _ => he, ?_⟩
  cases d with
  | true =>
   obtain ⟨e1, rfl⟩ := q3 rfl
   rw [if_pos rfl] at h ⊢
   cases h
   exact ⟨y, s1', rfl, q2, fun _ => rfl⟩
  | false =>
   simp only [Bool.false_eq_true, if_false] at h ⊢
   obtain ⟨t, ht, h⟩ := aT h
   by_cases he1 : s1.err = 0
   ·have := q2.eq he1
    subst this
    rw [if_pos he1] at h
    rw [kS he1 ht 1, Option.bind_some]
    by_cases k1 : t.kind = 1
    ·rw [if_pos k1] at h
     rw [if_pos (by simp [k1])]
     obtain ⟨⟨u, s2⟩, h2, h⟩ := aT h
     obtain ⟨l1, rfl, rfl, d1⟩ := fZ ht (by omega) h2
     cases h
     rw [d1]
     exact ⟨_, _, rfl, RR.refl (q2.1.drop l1), fun _ => rfl⟩
    ·rw [if_neg k1] at h
     rw [if_neg (by simp [k1]), kS he1 ht 7, Option.bind_some]
     by_cases k7 : t.kind = 7
     ·rw [if_pos k7] at h
      rw [if_pos (by simp [k7])]
      exact (bUu f0 s1 t he1 q2.1 ht (by omega) x s h).2
     ·rw [if_neg k7] at h
      rw [if_neg (by simp [k7])]
      obtain ⟨c, hc, h⟩ := aT h
      rw [hc, Option.bind_some]
      cases c with
      | true =>
       rw [if_pos rfl] at h ⊢
       have hk : t.kind ≠ 0 := by
        obtain ⟨_, u, hu, hk, _⟩ := cM hc
        rw [ht] at hu
        cases hu
        omega
       rcases jQ q2.1 he1 ht hk h with ⟨e1, e2, e3⟩ | ⟨a2, q, e1, e2, e3, e4, e5⟩
       ·rw [e1, Option.bind_some]
        exact ⟨_, s, rfl, RR.refl e3, fun h => absurd h e2⟩
       ·rw [e1, Option.bind_some, if_pos rfl]
        unfold tB at e4
        obtain ⟨⟨w, s3⟩, h3, e4⟩ := aT e4
        obtain ⟨⟨u, s4⟩, h4, e4⟩ := aT e4
        simp only [Option.some.injEq, Prod.mk.injEq] at e4
        obtain ⟨rfl, rfl⟩ := e4
        obtain ⟨r0, w', s3', r1, r2, r3⟩ := HE a2 a2 (RR.refl e3) w s3 h3
        obtain ⟨t0, u', s4', t1, t2, _⟩ := zX r2 (by decide) [41] u s4 h4
        rw [r1, Option.bind_some, t1]
        subst e5
        exact ⟨w', _, rfl, t2.deep, fun h => r3 (t0 h)⟩
      | false =>
       simp only [Bool.false_eq_true, if_false] at h ⊢
       obtain ⟨c, hc, h⟩ := aT h
       rw [hc, Option.bind_some]
       cases c with
       | true =>
        rw [if_pos rfl] at h ⊢
        have hk : t.kind ≠ 0 := by
         obtain ⟨_, u, hu, hk, _⟩ := cM hc
         rw [ht] at hu
         cases hu
         omega
        rcases jQ q2.1 he1 ht hk h with ⟨e1, e2, e3⟩ | ⟨a2, q, e1, e2, e3, e4, e5⟩
        ·refine ⟨.mk 9 [] 0 [] [] [], s, ?_, RR.refl e3, fun h => absurd h e2⟩
         unfold tC
         rw [e1, Option.bind_some]
         rfl
        ·obtain ⟨r0, w', s3', r1, r2, r3⟩ := bJf HE f a2 a2 (RR.refl e3) x q e4
         subst e5
         exact ⟨w', _, aOq e1 r1, r2.deep, r3⟩
       | false =>
        simp only [Bool.false_eq_true, if_false] at h ⊢
        cases h
        obtain ⟨r1, r2⟩ := nQ q2 (t := t) (t' := t) (e := 13) (by decide) (fun _ => rfl)
        rw [ht, Option.bind_some]
        exact ⟨y', _, rfl, r1, fun h => absurd h r2⟩
   ·rw [if_neg he1] at h
    exfalso
    unfold lD at h1
    obtain ⟨u, hu, h1⟩ := aT h1
    rw [if_pos he] at h1
    obtain ⟨c, _, h1⟩ := aT h1
    cases c with
    | true =>
     rw [if_pos rfl] at h1
     obtain ⟨r, _, h1⟩ := aT h1
     obtain ⟨r2, _, h1⟩ := aT h1
     cases h1
    | false =>
     simp only [Bool.false_eq_true, if_false] at h1
     split at h1
     ·obtain ⟨r, _, h1⟩ := aT h1; cases h1
     ·split at h1
      ·obtain ⟨r, _, h1⟩ := aT h1; cases h1
      ·split at h1
       ·obtain ⟨r, _, h1⟩ := aT h1; cases h1
       ·cases h1; exact he1 he
 ·
  unfold lD at h1
  obtain ⟨u, hu, h1⟩ := aT h1
  rw [if_neg he] at h1
  cases h1
  simp only [Bool.false_eq_true, if_false] at h
  obtain ⟨t, ht, h⟩ := aT h
  rw [if_neg he] at h
  cases h
  rw [if_neg (by rw [R.2.1]; exact he)]
  exact ⟨id, zN, b, rfl, R, fun h => absurd h he⟩
theorem aHz : ∀ (f : Nat), f + 1 ≤ bL → PQ (lR f) (pT f)
 | 0, _ => fun a b R => RQ.none
 | 1, hf => by
  intro a b R
  show RQ _ _ (sI (fE (vN 0) (lR 0) 0) (lR 0) 0 a) (aCo (lG (sJ 0) (pT 0) 0) (pT 0) 0 b)
  intro x s h
  exfalso
  unfold sI at h
  obtain ⟨c, _, h⟩ := aT h
  obtain ⟨d, _, h⟩ := aT h
  cases d with
  | true =>
   rw [if_pos rfl] at h
   obtain ⟨r, _, h⟩ := aT h
   obtain ⟨q, _, h⟩ := aT h
   obtain ⟨u, hu, h⟩ := aT h
   cases hu
  | false =>
   simp only [Bool.false_eq_true, if_false] at h
   unfold kG at h
   obtain ⟨q, _, h⟩ := aT h
   obtain ⟨u, hu, h⟩ := aT h
   cases hu
 | f + 2, hf => cRn (bEm (aHz (f + 1) (by omega)) (f + 1)) (aHz (f + 1) (by omega)) (f + 1) (by omega) (by omega)
theorem dCx {f : Nat} (hf : f + 1 ≤ bL) {lx : List Tok × Int × Int} (hg : lx.2.2 = 0 → GT lx.1) {res : Node × Int × Int} (h : jG sC f lx = some res) : aNk f lx = some res := by
 unfold aNk
 by_cases he : lx.2.2 = 0
 ·rw [if_pos he, if_pos (hg he).1]
  rw [aLz he, aPn] at h
  unfold sC at h
  simp only [Option.bind_some] at h
  obtain ⟨⟨y, st⟩, h1, h⟩ := aT h
  unfold bPk at h1
  obtain ⟨⟨ts, s2⟩, h2, h1⟩ := aT h1
  obtain ⟨⟨ks, s3⟩, h3, h1⟩ := aT h1
  obtain ⟨⟨u, s4⟩, h4, h1⟩ := aT h1
  cases h1
  obtain ⟨_, ts', s2', q1, R2, v2⟩ := aXh f (RR.refl (a := ⟨lx.1, 0, 0, 0⟩) (hg he)) ts s2 h2
  obtain ⟨p3, ks', s3', q3, R3, v3⟩ := aKl (aHz f hf) f [] [] s2 s2' R2 (fun _ => rfl) ks s3 h3
  obtain ⟨s4', q4, R4, p4⟩ := dGv R3 h4
  unfold aWk
  rw [q1, Option.bind_some, q3, Option.bind_some, q4, Option.bind_some, R4.2.1]
  by_cases e4 : s4.err = 0
  ·rw [if_pos (show ((Node.mk 11 [100, 111, 73, 116] 0 [] [] []).with ts ks, s4).2.err = 0 from e4)] at h
   rw [if_pos e4]
   cases h
   have e3 := p4 e4
   rw [v3 e3, v2 (p3 e3)]
   rfl
  ·rw [if_neg (show ¬ ((Node.mk 11 [100, 111, 73, 116] 0 [] [] []).with ts ks, s4).2.err = 0 from e4)] at h
   rw [if_neg e4, R4.2.2.1]
   cases h
   rfl
 ·rw [if_neg he]
  unfold jG at h
  rw [if_neg he] at h
  exact h
end Go.Dd

namespace Go.Dd
open Go.Proofs
end Go.Dd

namespace Go.Dd
theorem bGi {f : Nat} {u : List Nat} {rs : Int × List Nat × Int × Int × Nat} (h : kK f u = some rs) (p : Int) : TOk ⟨rs.1, rs.2.1, rs.2.2.1, p⟩ := by
 have key : (rs.1 = 4 → rs.2.1 = []) ∧ (rs.1 = 5 ∨ rs.1 = 6 → rs.2.2.1 = 0) := by
  unfold kK at h
  repeat' split at h
  all_goals first
   | (cases h; exact ⟨fun _ => rfl, fun e => by simp at e⟩)
   | (cases h; exact ⟨fun e => by simp at e, fun e => by simp at e⟩)
   | (obtain ⟨r, e1, e2⟩ := aT h; cases e2; exact ⟨fun e => by simp at e, fun _ => rfl⟩)
 exact key
theorem cYn {g : Nat} : ∀ (l : List Tok) (v : List Nat) (p : Nat), Lx g v p l → GT l := by
 intro l
 induction l with
 | nil => intro v p h; cases h
 | cons t l ih =>
  intro v p h
  cases h with
  | fin _ _ hw =>
   refine ⟨by simp, fun t ht => ?_⟩
   simp at ht
   subst ht
   exact ⟨fun e => (by cases e), fun e => (by rcases e with e | e <;> cases e)⟩
  | tok w u _ k rs l hw h1 h2 h3 h4 h5 h6 h7 =>
   have := ih _ _ h7
   refine ⟨by simp, fun t ht => ?_⟩
   rcases List.mem_cons.1 ht with rfl | ht
   ·exact bGi h1 _
   ·exact this.2 t ht
theorem cRo {u : List Nat} (hu : u.length ≤ 2000) {lx : List Tok × Int × Int} (hl : pD 2001 2001 u = some lx) (he : lx.2.2 = 0) : GT lx.1 ∧ Lx 2001 u 0 lx.1 := by
 unfold pD at hl
 rw [if_neg (by omega)] at hl
 obtain ⟨l, h1, h2⟩ := aEj (by omega) 2001 0 [] lx (by omega) hl he
 have e : lx.1 = l := by rw [h1]; rfl
 rw [e]
 exact ⟨cYn _ _ _ h2, h2⟩
end Go.Dd

namespace Go.Dd
open Go.Proofs
def Node.temps : Node → List (List Nat) | .mk _ _ _ _ ts _ => ts
noncomputable def tJ (u : List Nat) : List Tok × Int × Int := (pD 2001 2001 u).getD ([], 0, 0)
noncomputable def aMg (u : List Nat) : Node × Int × Int := (jG sC 2004 (tJ u)).getD (zN, 0, 0)
theorem xI {u : List Nat} (h : 2000 < u.length) : pD 2001 2001 u = some ([], 0, 12) := by
 unfold pD
 rw [if_pos h]
theorem aFq (u : List Nat) : pD 2001 2001 u = some (tJ u) := by
 unfold tJ
 by_cases h : u.length ≤ 2000
 ·obtain ⟨lx, h1, _⟩ := dLc h
  rw [h1]; rfl
 ·rw [xI (by omega)]; rfl
theorem aNu (u : List Nat) : jG sC 2004 (tJ u) = some (aMg u) := by
 unfold aMg
 by_cases h : u.length ≤ 2000
 ·obtain ⟨lx, res, h1, h2, _⟩ := dHj h
  have e : tJ u = lx := by unfold tJ; rw [h1]; rfl
  rw [e, h2]; rfl
 ·have e : tJ u = ([], 0, 12) := by unfold tJ; rw [xI (by omega)]; rfl
  rw [e]; rfl
def nV (s : List Nat) (x : Node) (r : Node × Int × Int) : List Nat × Int := if r.2.2 = 0 ∧ nEq x r.1 = true then (s, 0) else ([], 1)
noncomputable def aWv (x : Node) : List Nat × Int := nV (cH x.temps (fR x.kids)) x (aMg (cH x.temps (fR x.kids)))
theorem cDk (n : Nat) (x y z w : DV) (h : Hp) : aJ (n + 1) 22 [x, y, z, w] h = s22 (aJ n) n x y z w h := by kernel_rfl
theorem cIc (n : Nat) (x : DV) (h : Hp) : aJ (n + 1) 13 [x] h = s13 (aJ n) n x h := by kernel_rfl
section
variable {I : Im} {A L : Ls} {h : Hp}
theorem cCm {Q : Ls} {x y : Node} {c d : List DV} {s : List Nat} {a e : Int} (S : Sy I A Q L h) (N : NV I x c) (M : NV I y d) :
 Ev (fun n => aJ n 22 [.s s, .a c, .a d, .i .i64 e] h) (fun v h' => v = .t [.s (nV s x (y, a, e)).1, .i .i64 (nV s x (y, a, e)).2] ∧ Sy I A Q L h') := by
 obtain ⟨c1, o1, b1⟩ := N.shape
 obtain ⟨c2, o2, b2⟩ := M.shape
 refine Ev.enter (fun n => cDk n _ _ _ _ h) ?_
 unfold s22
 refine Ev.box S rfl (fun p h1 S1 => ?_)
 refine Ev.box S1 rfl (fun q h2 S2 => ?_)
 refine Ev.ine (fun e1 => ?_) (fun e1 => ?_)
 ·have e1' : ¬ e = 0 := e1
  refine yg ?_; refine yg ?_; refine yg ?_; refine yg ?_; refine ap ?_; refine yt ?_
  exact Ev.ret ⟨by simp [nV, e1'], dp⟩
 ·have e1' : e = 0 := e1
  refine zf ?_; refine ws ?_; refine zf ?_; refine ws ?_; refine zf ?_
  refine Ev.call (aOo x y I A Q _ _ c d (by assumption) N M) ?_
  rintro _ h3 ⟨rfl, S3⟩
  cases en : nEq x y with
  | true =>
   refine zf ?_; refine an ?_; refine aq ?_; refine yj ?_
   exact Ev.ret ⟨by simp [nV, e1', en], dp⟩
  | false =>
   refine zf ?_; refine ao ?_; refine aq ?_; refine yt ?_
   exact Ev.ret ⟨by simp [nV, e1', en], dp⟩
theorem bEd {x : Node} {cs : List DV} (S : Sy I A [] L h) (N : NV I x cs) (T : ∀ y ∈ x.kids, nN y) (hl : (cH x.temps (fR x.kids)).length ≤ bL) (hb : ∀ c ∈ cH x.temps (fR x.kids), c < 256) :
 Ev (fun n => aJ n 13 [.a cs] h) (fun v h' => v = .t [.s (aWv x).1, .i .i64 (aWv x).2] ∧ Sy I A [] L h') := by
 obtain ⟨c1, o1, b1⟩ := N.shape
 have N0 := N
 obtain ⟨k, t, m, ns, ts, ks⟩ := x
 have hl' : (cH ts (fR ks)).length ≤ 100000000000 := hl
 refine Ev.enter (fun n => cIc n _ h) ?_
 unfold s13
 refine Ev.box S rfl (fun p h1 S1 => ?_)
 refine Ev.ldsL S1 (List.Mem.head _) c1 o1 ?_
 refine Ev.call (aDi S1 N0 T hl') ?_
 rintro _ h2 ⟨rfl, S2⟩
 refine Ev.call (cBp S2 hl hb 2001 2001 2004 (by simp [bL]) (by simp [bL]) _ (aFq _) _ (aNu _)) ?_
 rintro _ h3 ⟨J, ds, rfl, g3, S3, N3⟩
 obtain ⟨c3, o3, b3⟩ := N3.shape
 refine wx ?_; refine wx ?_; refine wx ?_; refine wa fun _ _ _ => ?_; refine wt fun _ _ => ?_; refine ws ?_; refine ws ?_
 refine Ev.call (cCm (a := (aMg (cH ts (fR ks))).2.1) (by assumption) (N0.mono g3) N3) ?_
 rintro _ h5 ⟨rfl, S5⟩
 refine wx ?_; refine wx ?_
 exact Ev.ret ⟨rfl, (dp : Sy J A [] L _).weak g3⟩
end
end Go.Dd

namespace Go.Dd
open Go.Proofs
def AB (l : List Nat) : Prop := ∀ c ∈ l, c < 256
theorem AB.nil : AB [] := fun c h => by cases h
theorem AB.cons {x : Nat} {l : List Nat} (h : x < 256) (H : AB l) : AB (x :: l) := fun c hc => by
 rcases List.mem_cons.1 hc with rfl | hc
 ·exact h
 ·exact H c hc
theorem AB.app {l k : List Nat} (H : AB l) (K : AB k) : AB (l ++ k) := fun c hc => by
 rcases List.mem_append.1 hc with hc | hc
 ·exact H c hc
 ·exact K c hc
theorem AB.join {sep : List Nat} (h : AB sep) : ∀ {l : List (List Nat)}, (∀ x ∈ l, AB x) → AB (aN sep l)
 | [], _ => AB.nil
 | [x], H => H x (by simp)
 | x :: y :: l, H => (H x (by simp)).app (h.app (AB.join h (l := y :: l) fun z hz => H z (by simp [hz])))
theorem AB.repl {c : Nat} {new : List Nat} (h : AB new) : ∀ {l : List Nat}, AB l → AB (eC c new l)
 | [], _ => AB.nil
 | x :: l, H => by
  have ih := AB.repl h (c := c) (l := l) fun z hz => H z (by simp [hz])
  show AB (bif Nat.beq x c then new ++ eC c new l else x :: eC c new l)
  cases Nat.beq x c with
  | true => exact h.app ih
  | false => exact AB.cons (H x (by simp)) ih
theorem AB.digs : ∀ (f n : Nat) (acc : List Nat), AB acc → AB (eD f n acc)
 | 0, n, acc, H => H
 | f + 1, n, acc, H => by
  show AB (bif Nat.ble 10 n then eD f (n / 10) ((48 + n % 10) :: acc) else (48 + n) :: acc)
  have h1 : 48 + n % 10 < 256 := by omega
  cases e : Nat.ble 10 n with
  | true => exact AB.digs f _ _ (AB.cons h1 H)
  | false =>
   have : ¬ 10 ≤ n := fun h => by rw [Nat.ble_eq_true_of_le h] at e; cases e
   exact AB.cons (by omega) H
theorem AB.itoa (n : Int) : AB (sB n) := by
 cases n with
 | ofNat n => exact AB.digs _ _ _ AB.nil
 | negSucc n => exact AB.cons (by omega) (AB.digs _ _ _ AB.nil)
theorem AB.pieces {c : Nat} : ∀ {l acc : List Nat}, AB acc → AB l → ∀ x ∈ bQ c acc l, AB x
 | [], acc, H, _, x, hx => by
  simp [bQ] at hx
  subst hx; exact H
 | y :: l, acc, H, K, x, hx => by
  have K' : AB l := fun z hz => K z (by simp [hz])
  have H' : AB (acc ++ [y]) := H.app (AB.cons (K y (by simp)) AB.nil)
  unfold bQ at hx
  cases e : Nat.beq y c with
  | true =>
   rw [e] at hx
   rcases List.mem_cons.1 hx with rfl | hx
   ·exact H'
   ·exact AB.pieces AB.nil K' x hx
  | false =>
   rw [e] at hx
   exact AB.pieces H' K' x hx
theorem AB.parts {s : List Nat} (H : AB s) : ∀ x ∈ dF s, AB x := fun x hx => AB.pieces AB.nil H x (List.dropLast_subset _ hx)
def ABk (l : List (Nat × List Nat)) : Prop := ∀ p ∈ l, AB p.2
theorem AB.within {l : List (Nat × List Nat)} (H : ABk l) (i h : Nat) : AB (bA l i h) := by
 unfold bA
 split
 ·exact AB.nil
 ·rename_i own x e
  have := H (own, x) (List.mem_of_getElem? e)
  split
  ·exact AB.cons (by omega) (this.app (AB.cons (by omega) AB.nil))
  ·exact this
theorem AB.keys {a : List (Nat × List Nat)} (H : ABk a) : ∀ {ps : List (List Nat)} {i : Nat}, (∀ x ∈ ps, AB x) → ∀ x ∈ cU ps a i, AB x
 | [], i, _, x, hx => by simp [cU] at hx
 | p :: ps, i, K, x, hx => by
  simp only [cU, List.mem_cons] at hx
  rcases hx with rfl | hx
  ·exact (K p (by simp)).app (AB.cons (by omega) (AB.within H _ _))
  ·exact AB.keys H (fun z hz => K z (by simp [hz])) x hx
theorem AB.message {s : List Nat} {a : List (Nat × List Nat)} (H : AB s) (K : ABk a) : AB (bC s a) := by
 unfold bC
 split
 ·exact H
 ·split
  ·exact H.app (AB.cons (by omega) (AB.within K _ _))
  ·exact AB.join (AB.cons (by omega) AB.nil) (AB.keys K H.parts)
theorem AB.send {s : List Nat} {a : List (Nat × List Nat)} (H : AB s) (K : ABk a) : AB (dH s a) := by
 unfold dH
 split
 ·exact AB.nil
 ·exact (AB.within K _ _).app (AB.cons (by omega) (AB.message H fun p hp => K p (List.mem_of_mem_drop hp)))
theorem AB.body {ts kids : List (List Nat)} (H : ∀ x ∈ ts, AB x) (K : ∀ x ∈ kids, AB x) : AB (cH ts kids) := by
 unfold cH
 refine AB.app ?_ (AB.join (AB.cons (by omega) (AB.cons (by omega) AB.nil)) K)
 split
 ·exact AB.nil
 ·exact AB.cons (by omega) (AB.cons (by omega) ((AB.join (AB.cons (by omega) AB.nil) H).app (AB.cons (by omega) (AB.cons (by omega) (AB.cons (by omega) AB.nil)))))
theorem AB.names : ∀ {l : List (List Nat)}, (∀ x ∈ l, AB x) → AB (bR l)
 | [], _ => AB.nil
 | p :: l, H => AB.cons (by omega) ((H p (by simp)).app (AB.cons (by omega) (AB.names fun z hz => H z (by simp [hz]))))
mutual
def By : Node → Prop
 | .mk k t m ns ts ks => AB t ∧ (∀ x ∈ ns, AB x) ∧ (∀ x ∈ ts, AB x) ∧ ByL ks
def ByL : List Node → Prop
 | [] => True
 | x :: l => By x ∧ ByL l
end
def NfB (x : Nf) : Prop := AB x.t ∧ AB x.tx ∧ ABk x.ks
theorem AB.series {l : List Nf} (H : ∀ x ∈ l, NfB x) : AB (fT l) := by
 unfold fT
 split
 ·rename_i a b r
  refine AB.app (AB.send (H b (by simp)).1 ?_) (AB.join AB.nil ?_)
  ·intro p hp
   rcases List.mem_cons.1 hp with rfl | hp
   ·exact (H a (by simp)).2.1
   ·exact (H b (by simp)).2.2 p hp
  ·intro x hx
   obtain ⟨y, hy, rfl⟩ := List.mem_map.1 hx
   have := H y (by simp [hy])
   exact AB.cons (by omega) (AB.cons (by omega) (AB.message this.1 this.2.2))
 ·exact AB.nil
mutual
theorem By.nf : ∀ {x : Node}, By x → NfB (nf x)
 | .mk k t m ns ts ks, ⟨h1, h2, h3, h4⟩ => by
  have K := ByL.nf h4
  have Kt : ∀ x ∈ (lL ks).map Nf.tx, AB x := fun x hx => by
   obtain ⟨y, hy, rfl⟩ := List.mem_map.1 hx
   exact (K y hy).2.1
  have Kh : ABk ((lL ks).map Nf.ht) := fun p hp => by
   obtain ⟨y, hy, rfl⟩ := List.mem_map.1 hp
   exact (K y hy).2.1
  refine ⟨h1, ?_, Kh⟩
  show AB (aBp k t m ns ts (lL ks))
  unfold aBp
  split
  ·exact AB.itoa m
  split
  ·exact AB.cons (by omega) ((AB.repl (AB.cons (by omega) (AB.cons (by omega) AB.nil)) h1).app (AB.cons (by omega) AB.nil))
  split
  ·exact AB.cons (by omega) h1
  split
  ·exact AB.cons (by omega) (AB.cons (by omega) ((AB.join (AB.cons (by omega) AB.nil) Kt).app (AB.cons (by omega) AB.nil)))
  split
  ·exact h1.app (AB.cons (by omega) (AB.cons (by omega) (AB.cons (by omega) (AB.cons (by omega) (AB.join AB.nil Kt)))))
  split
  ·exact AB.cons (by omega) (AB.join AB.nil Kt)
  split
  ·exact AB.send h1 Kh
  split
  ·exact AB.series K
  split
  ·refine AB.cons (by omega) (AB.app ?_ ((AB.body h3 Kt).app (AB.cons (by omega) AB.nil)))
   split
   ·exact AB.nil
   ·exact (AB.names h2).app (AB.cons (by omega) (AB.cons (by omega) AB.nil))
  ·exact h1
theorem ByL.nf : ∀ {l : List Node}, ByL l → ∀ y ∈ lL l, NfB y
 | [], _ => fun y hy => by cases hy
 | x :: l, ⟨h1, h2⟩ => fun y hy => by
  have p := By.nf h1
  have q := ByL.nf h2
  rcases List.mem_cons.1 (show y ∈ Go.Dd.nf x :: lL l from hy) with e | hy
  ·rw [e]; exact p
  ·exact q y hy
end
theorem ByL.mem : ∀ {l : List Node}, ByL l → ∀ y ∈ l, By y
 | [], _ => fun y hy => by cases hy
 | x :: l, h => fun y hy => by
  rcases List.mem_cons.1 hy with e | hy
  ·rw [e]; exact h.1
  ·exact ByL.mem h.2 y hy
theorem By.body {x : Node} (h : By x) : AB (cH x.temps (fR x.kids)) := by
 obtain ⟨k, t, m, ns, ts, ks⟩ := x
 obtain ⟨h1, h2, h3, h4⟩ := h
 refine AB.body h3 fun z hz => ?_
 obtain ⟨y, hy, rfl⟩ := List.mem_map.1 hz
 exact (By.nf (h4.mem y hy)).2.1
theorem sO : ∀ (f n : Nat) (acc : List Nat), (eD f n acc).length ≤ f + acc.length
 | 0, n, acc => by simp [eD]
 | f + 1, n, acc => by
  show (bif Nat.ble 10 n then eD f (n / 10) ((48 + n % 10) :: acc) else (48 + n) :: acc).length ≤ _
  cases Nat.ble 10 n with
  | false => simp; omega
  | true =>
   have := sO f (n / 10) ((48 + n % 10) :: acc)
   simp at this ⊢; omega
theorem bNe (n : Int) : (sB n).length ≤ 21 := by
 cases n with
 | ofNat n =>
  have := sO 20 n []
  show (eD 20 n []).length ≤ 21
  simp at this; omega
 | negSucc n =>
  have := sO 20 (Nat.succ n) []
  show (45 :: eD 20 (Nat.succ n) []).length ≤ 21
  simp at this ⊢; omega
theorem aNb {c : Nat} {a b : Nat} : ∀ (l : List Nat), (eC c [a, b] l).length ≤ 2 * l.length
 | [] => by simp [eC]
 | x :: l => by
  have := aNb (c := c) (a := a) (b := b) l
  show (bif Nat.beq x c then [a, b] ++ eC c [a, b] l else x :: eC c [a, b] l).length ≤ _
  cases Nat.beq x c with
  | true => simp; omega
  | false => simp; omega
def dU (l : List (List Nat)) : Nat := (l.map List.length).sum
theorem jA (sep : List Nat) : ∀ (l : List (List Nat)), (aN sep l).length ≤ dU l + l.length * sep.length
 | [] => by simp [aN]
 | [x] => by simp [aN, dU]
 | x :: y :: l => by
  have := jA sep (y :: l)
  simp only [aN, List.length_append, dU, List.map_cons, List.sum_cons, List.length_cons] at this ⊢
  rw [show (l.length + 1 + 1) * sep.length = (l.length + 1) * sep.length + sep.length by rw [Nat.add_mul _ 1]; omega]
  omega
theorem mU {c : Nat} : ∀ (l acc : List Nat), dU (bQ c acc l) = acc.length + l.length ∧ (bQ c acc l).length ≤ l.length + 1
 | [], acc => by simp [bQ, dU]
 | x :: l, acc => by
  have h1 := mU (c := c) l []
  have h2 := mU (c := c) l (acc ++ [x])
  unfold bQ
  cases Nat.beq x c with
  | true =>
   simp only [cond_true, dU, List.map_cons, List.sum_cons, List.length_cons, List.length_append] at h1 ⊢
   simp at h1 ⊢
   omega
  | false =>
   simp only [cond_false, List.length_cons]
   simp at h2
   omega
theorem nR : ∀ (l : List (List Nat)), dU l.dropLast ≤ dU l
 | [] => by simp
 | [x] => by simp [dU]
 | x :: y :: l => by
  have := nR (y :: l)
  simp only [List.dropLast_cons_cons, dU, List.map_cons, List.sum_cons] at this ⊢
  omega
theorem bEw (s : List Nat) : dU (dF s) ≤ s.length ∧ (dF s).length ≤ s.length := by
 obtain ⟨h1, h2⟩ := mU (c := 58) s []
 have := nR (bQ 58 [] s)
 unfold dF
 constructor
 ·simp at h1; omega
 ·simp; omega
theorem oC {x : Nat} : ∀ {l : List Nat}, x ∈ l → x ≤ l.sum
 | y :: l, h => by
  rcases List.mem_cons.1 h with rfl | h
  ·simp
  ·have := oC h; simp; omega
def nZ (l : List (Nat × List Nat)) : Nat := (l.map fun p => p.2.length).sum
theorem rN (l : List (Nat × List Nat)) (i h : Nat) : (bA l i h).length ≤ ((l[i]?).map fun p => p.2.length).getD 0 + 2 := by
 unfold bA
 split
 ·rename_i e; rw [e]; simp
 ·rename_i own x e
  rw [e]
  split <;> simp
theorem bFw (l : List (Nat × List Nat)) (i h : Nat) : (bA l i h).length ≤ nZ l + 2 := by
 have h1 := rN l i h
 have h2 : ((l[i]?).map fun p => p.2.length).getD 0 ≤ nZ l := by
  cases e : l[i]? with
  | none => simp
  | some p =>
   simp only [Option.map_some, Option.getD_some]
   have hm := List.mem_of_getElem? e
   unfold nZ
   have : p.2.length ∈ l.map fun p => p.2.length := List.mem_map_of_mem hm
   exact oC this
 omega
theorem aPj (a : List (Nat × List Nat)) : ∀ (ps : List (List Nat)) (i : Nat), dU (cU ps a i) ≤ dU ps + 3 * ps.length + nZ (a.drop i)
 | [], i => by simp [cU, dU]
 | p :: ps, i => by
  have ih := aPj a ps (i + 1)
  have h1 := rN a i 2
  have h2 : ((a[i]?).map fun p => p.2.length).getD 0 + nZ (a.drop (i + 1)) ≤ nZ (a.drop i) := by
   cases e : a[i]? with
   | none =>
    have h0 : a.length ≤ i := by simpa using e
    rw [List.drop_eq_nil_of_le h0, List.drop_eq_nil_of_le (by omega)]
    simp [nZ]
   | some q =>
    rw [jY e]
    simp [nZ]
  simp only [cU, dU, List.map_cons, List.sum_cons, List.length_append, List.length_cons] at ih ⊢
  omega
theorem uS (s : List Nat) (a : List (Nat × List Nat)) : (bC s a).length ≤ 5 * s.length + nZ a + 10 := by
 unfold bC
 split
 ·omega
 ·split
  ·have := bFw a 0 1
   simp; omega
  ·have h1 := jA [32] (cU (dF s) a 0)
   have h2 := aPj a (dF s) 0
   have h3 := aAd (dF s) a 0
   obtain ⟨h4, h5⟩ := bEw s
   simp at h1 h2
   omega
theorem aNi (s : List Nat) (a : List (Nat × List Nat)) : (dH s a).length ≤ 5 * s.length + nZ a + 20 := by
 unfold dH
 split
 ·simp
 ·rename_i h0
  cases a with
  | nil => simp at h0
  | cons p a =>
   have h1 := uS s a
   have h2 := rN (p :: a) 0 (if cA s = 1 then 1 else 2)
   simp [nZ] at h1 h2 ⊢
   omega
theorem aBz : ∀ (l : List (List Nat)), (bR l).length ≤ dU l + 2 * l.length
 | [] => by simp [bR]
 | p :: l => by
  have := aBz l
  simp [bR, dU] at this ⊢
  omega
theorem aMe (ts kids : List (List Nat)) : (cH ts kids).length ≤ dU ts + ts.length + dU kids + 2 * kids.length + 10 := by
 have h1 := jA [32] ts
 have h2 := jA [46, 32] kids
 simp at h1 h2
 unfold cH
 split
 ·simp; omega
 ·simp; omega
theorem kQ : ∀ {l : List (List Nat)}, iJ l = true → dU l ≤ 40 * l.length
 | [], _ => by simp [dU]
 | x :: l, h => by
  simp only [iJ, List.all_cons, Bool.and_eq_true, decide_eq_true_eq] at h
  have := kQ (l := l) h.2
  simp [dU] at this ⊢
  omega
def WL (x : Node) : Nat := 2000 * sz x
def WLL (l : List Node) : Nat := 2000 * sS l
def NfW (x : Nf) (n : Nat) : Prop := x.tx.length ≤ n ∧ nZ x.ks + 1900 ≤ n ∧ x.t.length ≤ 40
theorem uL : ∀ (r : List Node), (∀ x ∈ r, NfW (nf x) (WL x)) → dU ((lL r).map fun x => 59 :: 32 :: bC x.t x.ks) ≤ WLL r
 | [], _ => by simp [lL, dU]
 | x :: r, H => by
  have ih := uL r fun y hy => H y (by simp [hy])
  obtain ⟨_, h2, h3⟩ := H x (by simp)
  have h4 := uS (nf x).t (nf x).ks
  simp only [lL, List.map_cons, dU, List.sum_cons, List.length_cons, WLL, sS, WL] at ih h2 ⊢
  omega
theorem zB : ∀ (l : List Node), (∀ x ∈ l, NfW (nf x) (WL x)) → dU ((lL l).map Nf.tx) ≤ WLL l ∧ nZ ((lL l).map Nf.ht) ≤ WLL l ∧ l.length ≤ sS l
 | [], _ => by simp [lL, dU, nZ, WLL, sS]
 | x :: l, H => by
  have ih := zB l fun y hy => H y (by simp [hy])
  obtain ⟨h1, _, _⟩ := H x (by simp)
  have hp := aHp x
  simp only [lL, List.map_cons, dU, nZ, List.sum_cons, WLL, sS, WL, Nf.ht, List.length_cons] at ih h1 ⊢
  omega
mutual
theorem bEn : ∀ {x : Node}, fQ x = true → NfW (nf x) (WL x)
 | .mk k t m ns ts ks, h => by
  simp only [fQ, Bool.and_eq_true, decide_eq_true_eq] at h
  obtain ⟨h0, h1, h2, h3, h4, h5, h6⟩ := h
  have K := pW h6
  obtain ⟨t1, t2, t3⟩ := zB ks K
  have n1 := kQ h4
  have n2 := kQ h5
  have hsz : sz (.mk k t m ns ts ks) = 1 + sS ks := by rw [sz]
  have hwl : WL (.mk k t m ns ts ks) = 2000 + WLL ks := by simp [WL, WLL, hsz]; omega
  have hks : sS ks ≤ 99 := by omega
  have hn : nf (.mk k t m ns ts ks) = ⟨k, t, aBp k t m ns ts (lL ks), (lL ks).map Nf.ht⟩ := by rw [nf]
  have hz : (lL ks).length = ks.length := by rw [zK]; simp
  rw [hn, hwl]
  refine ⟨?_, by show nZ ((lL ks).map Nf.ht) + 1900 ≤ _; omega, h1⟩
  show (aBp k t m ns ts (lL ks)).length ≤ _
  unfold aBp
  split
  ·have := bNe m; omega
  split
  ·have := aNb (c := 39) (a := 39) (b := 39) t
   simp; omega
  split
  ·simp; omega
  split
  ·have := jA [32] ((lL ks).map Nf.tx)
   simp [hz] at this ⊢; omega
  split
  ·have := jA [] ((lL ks).map Nf.tx)
   simp [hz] at this ⊢; omega
  split
  ·have := jA [] ((lL ks).map Nf.tx)
   simp [hz] at this ⊢; omega
  split
  ·have := aNi t ((lL ks).map Nf.ht)
   omega
  split
  ·cases ks with
   | nil => simp [lL, fT]
   | cons a ks =>
    cases ks with
    | nil => simp [lL, fT]
    | cons b r =>
     obtain ⟨a1, a2, a3⟩ := K a (by simp)
     obtain ⟨b1, b2, b3⟩ := K b (by simp)
     have hr := uL r fun x hx => K x (by simp [hx])
     have hs := aNi (nf b).t ((nf a).ht :: (nf b).ks)
     have hj := jA [] ((lL r).map fun x => 59 :: 32 :: bC x.t x.ks)
     have hw : WLL (a :: b :: r) = WL a + WL b + WLL r := by simp [WLL, WL, sS]; omega
     rw [hw]
     simp only [lL, fT, List.length_append]
     simp only [List.length_nil, Nat.mul_zero, Nat.add_zero] at hj
     simp only [nZ, List.map_cons, List.sum_cons, Nf.ht] at hs b2
     have hwb : WL b = 2000 * sz b := rfl
     simp only [Nf.ht]
     omega
  split
  ·have hb := aMe ts ((lL ks).map Nf.tx)
   have hnm := aBz ns
   simp [hz] at hb
   split
   ·simp; omega
   ·simp; omega
  ·omega
theorem pW : ∀ {l : List Node}, jE l = true → ∀ x ∈ l, NfW (nf x) (WL x)
 | [], _ => fun x hx => by cases hx
 | y :: l, h => by
  simp only [jE, Bool.and_eq_true] at h
  have p := bEn h.1
  have q := pW h.2
  intro x hx
  rcases List.mem_cons.1 hx with e | hx
  ·rw [e]; exact p
  ·exact q x hx
end
mutual
def Nm : Node → Prop
 | .mk k t m ns ts ks => (-9223372036854775808 ≤ m ∧ m ≤ 9223372036854775807) ∧ NmL ks
def NmL : List Node → Prop
 | [] => True
 | x :: l => Nm x ∧ NmL l
end
mutual
theorem yE : ∀ {x : Node}, fQ x = true → Nm x → Sk x
 | .mk k t m ns ts ks, h, hm => by
  simp only [fQ, Bool.and_eq_true, decide_eq_true_eq] at h
  obtain ⟨h0, h1, h2, h3, h4, h5, h6⟩ := h
  unfold Nm at hm
  have t3 : ∀ l : List Node, l.length ≤ sS l := by
   intro l
   induction l with
   | nil => simp [sS]
   | cons x l ih => have := aHp x; simp [sS]; omega
  have := t3 ks
  have hsz : sz (.mk k t m ns ts ks) = 1 + sS ks := by rw [sz]
  have hl : bL = 100000000000 := rfl
  unfold Sk
  exact ⟨by omega, hm.1.1, hm.1.2, by omega, aCu h6 hm.2⟩
theorem aCu : ∀ {l : List Node}, jE l = true → NmL l → SkL l
 | [], _, _ => trivial
 | y :: l, h, hm => by
  simp only [jE, Bool.and_eq_true] at h
  unfold NmL at hm
  exact ⟨yE h.1 hm.1, aCu h.2 hm.2⟩
end
theorem aRb {x : Node} (h : fQ x = true) : (cH x.temps (fR x.kids)).length ≤ bL := by
 obtain ⟨k, t, m, ns, ts, ks⟩ := x
 simp only [fQ, Bool.and_eq_true, decide_eq_true_eq] at h
 obtain ⟨h0, h1, h2, h3, h4, h5, h6⟩ := h
 obtain ⟨t1, t2, t3⟩ := zB ks (pW h6)
 have hb := aMe ts (fR ks)
 have n2 := kQ h5
 have hsz : sz (.mk k t m ns ts ks) = 1 + sS ks := by rw [sz]
 have e : fR ks = (lL ks).map Nf.tx := ((aQv ks).1).symm
 have hz : (fR ks).length = ks.length := by simp [fR]
 show (cH ts (fR ks)).length ≤ 100000000000
 rw [← e] at t1
 have : WLL ks = 2000 * sS ks := rfl
 omega
end Go.Dd

namespace Go.Dd
open Go.Proofs Go.RowKit
noncomputable def aGy (h : Hp) : Im := fun b => h.bl.get b
theorem Ge.im {h h' : Hp} (g : Ge h h') : ILe (aGy h) (aGy h') := g
theorem Ro.sy {w : World} {ρ : Ren} {h : Hp} (R : Ro w ρ h) : Sy (aGy h) [] [] [] h where
 wf := R.wf
 im := fun b o e => e
 loc := fun b o m => by simp at m
 lt := fun b o m => by simp at m
 nd := by simp
 dj := fun b o m => by simp at m
theorem aCw (bs : ByteArray) : AB (bs.data.toList.map (·.toNat)) := fun c hc => by
 obtain ⟨b, _, rfl⟩ := List.mem_map.1 hc
 exact b.toNat_lt
section
variable {H : Type} {enc : TypeId × Value → H} {w : World}
theorem aPa : ∀ (rows : List (List DV)), (∀ r ∈ rows, r.length = 6) → rows.flatten.length = rows.length * 6
 | [], _ => rfl
 | r :: rows, h => by
  have := aPa rows fun x hx => h x (by simp [hx])
  have h1 := h r (by simp)
  rw [List.flatten_cons, List.length_append, List.length_cons, this, h1]
  omega
theorem yC {n : Nat} {v : Value} {x : DataW H × List MemPlace} (hx : DataW.trod enc Tryz.prog w 0 (fun _ => true) true n 22 [v] = some x) {ρ : Ren} {h : Hp} (R : Ro w ρ h) :
 ∃ ρ' h' s, ∃ l : List (List Nat), Ro w ρ' h' ∧ Ge h h' ∧ Ext ρ ρ' ∧ VR ρ' s v ∧ (l.length ≤ qI ∧ Fz (aGy h') 1 s l.length (l.map .s)) ∧ ∀ x ∈ l, AB x := by
 rcases DataW.trod_slice Tryz.underlying22 hx with ⟨h1, _⟩ | ⟨a, len, cap, elems, rest, m, _, h1, _, _, h4, h5, h6, h7, _⟩
 ·cases h1
  exact ⟨ρ, h, .l0, [], R, Ge.refl _, fun _ _ e => e, .l0, ⟨by simp, .inl ⟨.inl rfl, rfl, rfl⟩⟩, fun x hx => by cases hx⟩
 ·cases h1
  have hc : Tryz.prog.cellsOf 9 = 1 := by kernel_rfl
  rw [hc] at h7
  let L : Loc := ⟨a.block, a.off, 0, a.spot⟩
  have ha : a = eK L 0 := rfl
  have hcell : ∀ i, i < len → ∃ bs : ByteArray, w.cell? (eK L i) = some (.string bs) := by
   intro i hi
   have e := h7 i hi
   rw [show elems[i]? = some elems[i] by simp [h6, hi]] at e
   simp only [Option.bind_eq_some_iff] at e
   obtain ⟨cs, e1, e2⟩ := e
   obtain ⟨c1, c2⟩ := aCh e1
   obtain ⟨bs, rfl, _⟩ := DataW.trod_string Tryz.underlying9 e2
   have := c2 0 (by omega)
   rw [ha, fJ, fJ] at this
   refine ⟨bs, ?_⟩
   simpa using this
  let g : Nat → List Nat := fun i => match w.cell? (eK L i) with
   | some (.string bs) => bs.data.toList.map (·.toNat)
   | _ => []
  have hg : ∀ i, i < len → ∃ v', w.cell? (eK L i) = some v' ∧ VR ρ (.s (g i)) v' := by
   intro i hi
   obtain ⟨bs, e⟩ := hcell i hi
   refine ⟨_, e, ?_⟩
   simp only [g, e]
   exact .s _ bs rfl
  obtain ⟨R', ext⟩ := R.add L ((List.range len).map fun i => DV.s (g i)) rfl (fun i v hv => by
   simp only [List.getElem?_map, Option.map_eq_some_iff] at hv
   obtain ⟨j, hj, rfl⟩ := hv
   obtain ⟨hj1, hj2⟩ := List.getElem?_eq_some_iff.1 hj
   simp at hj1 hj2
   subst hj2
   exact hg i hj1)
  refine ⟨_, _, .l h.next 0 len cap, (List.range len).map g, R', cOy R.wf _, ext, ?_, ⟨?_, .inr ⟨h.next, 0, cap, .ro, _, [], ?_, ?_, aHt h _, ?_, ?_, ?_⟩⟩, ?_⟩
  ·exact .l h.next 0 len cap L (bN _ _ _)
  ·simp
   have : maxLen = 9223372036854775807 := by rfl
   have : qI = 9223372036854775807 := by rfl
   omega
  ·simp
  ·simpa using h4
  ·simp [Function.comp_def]
  ·simp
  ·intro v hv
   obtain ⟨x, _, rfl⟩ := List.mem_map.1 hv
   rfl
  ·intro x hx
   obtain ⟨i, hi, rfl⟩ := List.mem_map.1 hx
   have hi : i < len := by simpa using hi
   obtain ⟨bs, e⟩ := hcell i hi
   show AB (g i)
   simp only [g, e]
   exact aCw bs
theorem NWL.app {I : Im} : ∀ {l l' : List Node} {c c' : List DV}, NWL I l c → NWL I l' c' → NWL I (l ++ l') (c ++ c')
 | [], l', c, c', e, H => by
  have e : c = [] := e
  subst e; simpa using H
 | x :: l, l', _, c', ⟨c, rest, e, a, b⟩, H => by
  subst e
  exact ⟨c, rest ++ c', by simp, a, NWL.app b H⟩
theorem ByL.snoc : ∀ {l : List Node} {x : Node}, ByL l → By x → ByL (l ++ [x])
 | [], x, _, h => ⟨h, trivial⟩
 | y :: l, x, H, h => ⟨H.1, ByL.snoc H.2 h⟩
theorem NmL.snoc : ∀ {l : List Node} {x : Node}, NmL l → Nm x → NmL (l ++ [x])
 | [], x, _, h => ⟨h, trivial⟩
 | y :: l, x, H, h => ⟨H.1, NmL.snoc H.2 h⟩
theorem bFx {k : Int} (h : (Lit.int .i64 k).wf = true) : -9223372036854775808 ≤ k ∧ k ≤ 9223372036854775807 := by
 have h : (decide (IntKind.i64.min ≤ k) && decide (k ≤ IntKind.i64.max)) = true := h
 have e1 : IntKind.i64.min = -9223372036854775808 := by decide
 have e2 : IntKind.i64.max = 9223372036854775807 := by decide
 rw [e1, e2] at h
 simpa using h
theorem xB : ∀ (n : Nat) (cs : List Value) (x : DataW H × List MemPlace), DataW.trod enc Tryz.prog w 0 (fun _ => true) true n 25 cs = some x → ∀ {ρ : Ren} {h : Hp}, Ro w ρ h →
 ∃ ρ' h' ds, ∃ z : Node, Ro w ρ' h' ∧ Ge h h' ∧ Ext ρ ρ' ∧ VRs ρ' ds cs ∧ NW (aGy h') z ds ∧ By z ∧ Nm z
 | 0, cs, x, hx, ρ, h, R => by simp [DataW.trod] at hx
 | n + 1, cs, x, hx, ρ, h, R => by
  obtain ⟨xs, m, e0, _, hl, hxl, hf⟩ := DataW.trod_struct Tryz.underlying25 hx
  cases e0
  have hc : Tryz.prog.cellsOf 25 = 6 := by kernel_rfl
  have hc3 : Tryz.prog.cellsOf 3 = 1 := by kernel_rfl
  have hc9 : Tryz.prog.cellsOf 9 = 1 := by kernel_rfl
  have hc22 : Tryz.prog.cellsOf 22 = 1 := by kernel_rfl
  have hc23 : Tryz.prog.cellsOf 23 = 1 := by kernel_rfl
  rw [hc] at hl
  obtain ⟨v0, v1, v2, v3, v4, v5, rfl⟩ : ∃ v0 v1 v2 v3 v4 v5, cs = [v0, v1, v2, v3, v4, v5] := by
   match cs, hl with
   | [v0, v1, v2, v3, v4, v5], _ => exact ⟨_, _, _, _, _, _, rfl⟩
  have some : ∀ i, i < 6 → ∃ y, xs[i]? = some y := fun i hi => ⟨xs[i]'(by rw [hxl]; exact hi), by simp⟩
  obtain ⟨y0, g0⟩ := some 0 (by omega)
  obtain ⟨y1, g1⟩ := some 1 (by omega)
  obtain ⟨y2, g2⟩ := some 2 (by omega)
  obtain ⟨y3, g3⟩ := some 3 (by omega)
  obtain ⟨y4, g4⟩ := some 4 (by omega)
  obtain ⟨y5, g5⟩ := some 5 (by omega)
  have f0 := hf 0 _ rfl
  have f1 := hf 1 _ rfl
  have f2 := hf 2 _ rfl
  have f3 := hf 3 _ rfl
  have f4 := hf 4 _ rfl
  have f5 := hf 5 _ rfl
  simp only [hc3, hc9, hc22, hc23, List.drop_zero, List.drop_succ_cons, List.take_succ_cons, List.take_zero, g0, g1, g2, g3, g4, g5] at f0 f1 f2 f3 f4 f5
  obtain ⟨k, e0, _⟩ := DataW.trod_int Tryz.underlying3 f0
  obtain ⟨t, e1, _⟩ := DataW.trod_string Tryz.underlying9 f1
  obtain ⟨mm, e2, _, wm⟩ := DataW.trod_int Tryz.underlying3 f2
  have rm := bFx wm
  cases e0; cases e1; cases e2
  obtain ⟨ρ1, h1, s1, l1, R1, G1, E1, V1, S1, B1⟩ := yC f3 R
  obtain ⟨ρ2, h2, s2, l2, R2, G2, E2, V2, S2, B2⟩ := yC f4 R1
  have fin : ∀ ρ3 h3 s3 (ks : List Node) cells, Ro w ρ3 h3 → Ge h2 h3 → Ext ρ2 ρ3 → VR ρ3 s3 v5 → ks.length ≤ qI → Fz (aGy h3) 6 s3 ks.length cells → NWL (aGy h3) ks cells → ByL ks → NmL ks →
   ∃ ρ' h' ds, ∃ z : Node, Ro w ρ' h' ∧ Ge h h' ∧ Ext ρ ρ' ∧ VRs ρ' ds [.int .i64 k, .string t, .int .i64 mm, v3, v4, v5] ∧ NW (aGy h') z ds ∧ By z ∧ Nm z := by
   intro ρ3 h3 s3 ks cells R3 G3 E3 V3 K3 F3 N3 Y3 M3
   refine ⟨ρ3, h3, [.i .i64 k, .s (t.data.toList.map (·.toNat)), .i .i64 mm, s1, s2, s3], .mk k (t.data.toList.map (·.toNat)) mm l1 l2 ks, R3, (G1.trans G2).trans G3, (E1.trans E2).trans E3, ?_,
    ⟨s1, s2, s3, rfl, ⟨S1.1, S1.2.mono ((G2.trans G3).im)⟩, ⟨S2.1, S2.2.mono G3.im⟩, K3, cells, F3, N3⟩, ⟨aCw t, B1, B2, Y3⟩, ⟨rm, M3⟩⟩
   exact .cons _ _ _ _ (.i _ _) (.cons _ _ _ _ (.s _ t rfl) (.cons _ _ _ _ (.i _ _) (.cons _ _ _ _ ((V1.mono E2).mono E3) (.cons _ _ _ _ (V2.mono E3) (.cons _ _ _ _ V3 .nil)))))
  rcases DataW.trod_slice Tryz.underlying23 f5 with ⟨e5, _⟩ | ⟨a, len, cap, elems, rest, m', em, e5, _, _, q4, q5, q6, q7, _⟩
  ·cases e5
   exact fin ρ2 h2 .l0 [] [] R2 (Ge.refl _) (fun _ _ e => e) .l0 (by simp) (.inl ⟨.inl rfl, rfl, rfl⟩) rfl trivial trivial
  ·cases e5
   rw [hc] at q7
   let L : Loc := ⟨a.block, a.off, 0, a.spot⟩
   have ha : a = eK L 0 := rfl
   have pre : ∀ c, c ≤ len → ∃ (ρ3 : Ren) (h3 : Hp) (rows : List (List DV)) (ks : List Node), Ro w ρ3 h3 ∧ Ge h2 h3 ∧ Ext ρ2 ρ3 ∧ rows.length = c ∧ (ks.length = c ∧ NWL (aGy h3) ks rows.flatten ∧ (∀ r ∈ rows, r.length = 6) ∧ (∀ r ∈ rows, ∀ v ∈ r, v.one = true) ∧ ByL ks ∧ NmL ks) ∧
    ∀ (i j : Nat) u v, rows[i]? = Option.some u → u[j]? = Option.some v → ∃ v', w.cell? (eK L (i * 6 + j)) = Option.some v' ∧ VR ρ3 v v' := by
    intro c
    induction c with
    | zero => intro _; exact ⟨ρ2, h2, [], [], R2, Ge.refl _, fun _ _ e => e, rfl, ⟨rfl, rfl, fun u hu => by simp at hu, fun u hu => by simp at hu, trivial, trivial⟩, fun i j u v hu => by simp at hu⟩
    | succ c ih =>
     intro hcl
     obtain ⟨ρ3, h3, rows, ks, R3, G3, E3, l3, ⟨k3, N3, L3, O3, Y3, M3⟩, C3⟩ := ih (by omega)
     have e := q7 c (by omega)
     rw [show elems[c]? = Option.some (elems[c]'(by omega)) by simp] at e
     simp only [Option.bind_eq_some_iff] at e
     obtain ⟨cs, e1, e2⟩ := e
     obtain ⟨c1, c2⟩ := aCh e1
     cases em
     obtain ⟨ρ4, h4, ds, z, R4, G4, E4, V4, N4, Y4, M4⟩ := xB m' cs _ e2 R3
     refine ⟨ρ4, h4, rows ++ [ds], ks ++ [z], R4, G3.trans G4, E3.trans E4, by simp [l3], ⟨by simp [k3], ?_, ?_, ?_, Y3.snoc Y4, M3.snoc M4⟩, ?_⟩
     ·rw [List.flatten_append]
      refine (N3.mono G4.im).app ?_
      exact ⟨ds, [], by simp, N4, rfl⟩
     ·intro u hu
      rcases List.mem_append.1 hu with hu | hu
      ·exact L3 u hu
      ·simp at hu
       subst hu
       exact N4.shape.1
     ·intro u hu
      rcases List.mem_append.1 hu with hu | hu
      ·exact O3 u hu
      ·simp at hu
       subst hu
       exact N4.shape.2.1
     ·intro i j u v hu hv
      by_cases hi : i < rows.length
      ·rw [List.getElem?_append_left hi] at hu
       obtain ⟨v', h5, h6⟩ := C3 i j u v hu hv
       exact ⟨v', h5, h6.mono E4⟩
      ·rw [List.getElem?_append_right (by omega)] at hu
       have hi' : i - rows.length = 0 := by
        cases hk : i - rows.length with
        | zero => rfl
        | succ k => rw [hk] at hu; simp at hu
       rw [hi'] at hu
       simp at hu
       subst hu
       obtain ⟨v', h5, h6⟩ := V4.get j v hv
       refine ⟨v', ?_, h6⟩
       have hj : j < 6 := by
        have := V4.length
        have h7 := (List.getElem?_eq_some_iff.1 hv).1
        omega
       have := c2 j hj
       rw [ha, fJ, fJ] at this
       rw [show i * 6 + j = 0 + c * 6 + j by omega, this]
       exact h5
   obtain ⟨ρ3, h3, rows, ks, R3, G3, E3, l3, ⟨k3, N3, l6, O3, Y3, M3⟩, C3⟩ := pre len (Nat.le_refl _)
   obtain ⟨R4, E4⟩ := R3.add L rows.flatten rfl (fun q v hq => by
    obtain ⟨i, j, u, g1, g2, rfl⟩ := aNq rows q v l6 hq
    exact C3 i j u v g1 g2)
   have G4 := cOy R3.wf (.row .ro rows.flatten)
   refine fin _ _ (.l h3.next 0 len cap) ks rows.flatten R4 (G3.trans G4) (E3.trans E4) (.l h3.next 0 len cap L (bN _ _ _)) ?_ (.inr ⟨h3.next, 0, cap, .ro, rows.flatten, [], by rw [k3], by rw [k3]; exact q4, aHt h3 _, by simp, ?_, ?_⟩) (N3.mono G4.im) Y3 M3
   ·have : maxLen = 9223372036854775807 := by rfl
    have : qI = 9223372036854775807 := by rfl
    omega
   ·rw [k3, ← l3]
    exact aPa rows l6
   ·intro v hv
    obtain ⟨r, hr, hv⟩ := List.mem_flatten.1 hv
    exact O3 r hr v hv
end
end Go.Dd

namespace Go.Dd
open Go.Proofs Go.RowKit
abbrev dIw : List (String × DataW Unit) := YtliejomdaookoaaGreatDoor.Rows.showApartRow.laid
theorem bLp : (YtliejomdaookoaaGreatDoor.Rows.laid_internal_strconv_uint64pow10 : DataW Unit) = Lib.tabData .u64 Lib.pow10Tab := by kernel_rfl
theorem bTr {W : World} (hL : laidMet Tryz.prog dIw W) (hs : W.ShapedOpen Tryz.prog) : Facts W := by
 refine ⟨Tryz.laysM143.s1_3 W hs, ?_⟩
 obtain ⟨g, t, cs, fuel, p, hg, ht, hv, hd⟩ := Lib.laidMet.reads hL (n := "internal/strconv.uint64pow10") (d := YtliejomdaookoaaGreatDoor.Rows.laid_internal_strconv_uint64pow10) (.tail _ (.tail _ (.head _)))
 have e1 : Tryz.prog.globalNamed "internal/strconv.uint64pow10" = some 1 := by kernel_rfl
 obtain rfl := Option.some.inj (e1.symm.trans hg)
 have e2 : (Tryz.prog.globals[1]?).map (·.type) = some 136 := by kernel_rfl
 obtain rfl := Option.some.inj (e2.symm.trans ht)
 rw [bLp] at hd
 have hc := Lib.cells_of_tab Tryz.underlying136 Tryz.underlying124 (by kernel_rfl) (by kernel_rfl) hd
 unfold World.var? at hv
 rw [e1] at hv
 simp only [Option.bind_some] at hv
 split at hv
 ·rename_i cs' t' z' hh
  obtain rfl := Option.some.inj hv
  refine ⟨t', z', ?_⟩
  rw [hh]
  congr 2
  rw [← hc]
 ·cases hv
theorem aKa {H : Type} {enc : TypeId × Value → H} {a : Assume} {C : Checked} {os : Os} {f : FuncId} {fn : Func} {s : ChangeSpec} {conds : List PathCond} {apart fresh handsOn again : Bool} {X : World → Array Value → Prop}
 (hX : ∀ (w w' : World) (args : Array Value), w.heap = w'.heap → X w args → X w' args)
 (own : ownKnob C.prog.godebug = none) (started : os.Started) (noInit : C.prog.inits.idxOf? f = none) (hfn : C.prog.funcs[f]? = some fn)
 (witness : ∃ (w : World) (tape : Tape) (i : Input), w.os = os ∧ (w.forCall tape i).Shaped C.prog ∧ i.vars = [] ∧ Input.okWide C.prog (w.forCall tape i) .any w.heap.size f i ∧
  ((s.pre enc C.prog fn conds apart (w.forCall tape i).memory i.args ∧ X (w.forCall tape i).memory i.args) ∧ sizedMet enc C.prog fn (OpenSpec.ofChange s) apart (w.forCall tape i).memory i.args) ∧ a.holds C.prog (lone (Frame.enter C.prog f i.args .normal) [] (w.forCall tape i)))
 (contract : ∀ (W : World) (base : Nat) (args : Array Value) (ds gs : List (DataW H)) (before : List MemPlace),
  (∀ (j : Nat) t v, fn.params[j]? = some t → args[j]? = some v → Value.okWide C.prog W .any base t v) →
  DataW.Whole enc C.prog fn.params.toList s.vars apart W args.toList ds gs before →
  X W args → W.ShapedOpen C.prog →
  Calls C.prog f args W fun e W' => ∃ v, e = .returned v ∧ s.post enc C.prog fn apart fresh handsOn again W args v W') :
 ReturnsInHanded a C os f .any (fun w args => (s.pre enc C.prog fn conds apart w args ∧ X w args) ∧ sizedMet enc C.prog fn (OpenSpec.ofChange s) apart w args) (s.post enc C.prog fn apart fresh handsOn again) := by
 refine returnsInHanded_of_calls own started noInit witness ?_
 intro w tape i _ hsh _ hok hpre hholds
 obtain ⟨_, _, _, fn', hfn', _, _, _, _, hval⟩ := hok
 have e : fn' = fn := Option.some.inj (hfn'.symm.trans hfn)
 subst e
 obtain ⟨⟨⟨ds, gs, before, hw, hc⟩, hx⟩, hz⟩ := hpre
 have hw' := DataW.Whole.of_heap (w' := w.forCall tape i) (by rfl) hw
 refine (contract (w.forCall tape i) w.heap.size i.args ds gs before hval hw' (hX _ _ _ (by rfl) hx) hsh).mono fun e W' ⟨v, he, hp⟩ => ?_
 subst he
 exact ChangeSpec.post_blind hp
theorem bUc {rec : FuncId → List DV → Hp → aH} (K : OkC CF rec) {n : Nat} {f : FuncId} {args : List DV} {v : DV} {h h1 : Hp} (hr : aL CF rec n f args h = some (v, h1)) (fn : Func) (hf : Tryz.prog.funcs[f]? = some fn) (hb : fn.body.isSome = true)
 {ρ : Ren} {w : World} (W : Facts w) (R : Ro w ρ h) (args' : Array Value) (hargs : VRs ρ args args'.toList) :
 Calls Tryz.prog f args' w fun e w' => ∃ ρ' v', e = .returned v' ∧ VR ρ' v v' ∧ Below w.heap.size w w' := by
 rcases aZn K Try_ok n f args h v h1 hr ρ w args' (R.hr W) hargs with ⟨_, h⟩ | ⟨ρ', w', v', h, _⟩
 ·refine h.mono ?_
  rintro e w' ⟨ρ', v', h1, h2, h3, h4, h5⟩
  exact ⟨ρ', v', h1, h3, h5.low⟩
 ·exfalso
  have hf' : CF.P.funcs[f]? = some fn := hf
  have hn : ¬ fn.name = "runtime.NumGoroutine" := by simpa using Try_ok.names f fn hf'
  have hbn : fn.body ≠ none := by intro e; rw [e] at hb; cases hb
  unfold callFunc at h
  simp [hf', hn, hbn] at h
theorem own : ownKnob Tryz.prog.godebug = none := by kernel_rfl
theorem bJx : laidOutB Tryz.prog = true := by kernel_rfl
def zn : Value := .agg #[.int .i64 0, .string ⟨#[]⟩, .int .i64 0, .slice none 0 0, .slice none 0 0, .slice none 0 0]
theorem bOb {P : Program} {W : World} {base : Nat} {t : TypeId} {v : Value} {fs : Array Field} (ht : P.underlying t = some (.struct fs)) (h : Value.okWide P W .any base t v) : ∃ cs, v = .agg cs := by
 unfold Value.okWide at h
 rw [ht] at h
 obtain ⟨cs, e, _⟩ := h
 exact ⟨cs, e⟩
end Go.Dd

