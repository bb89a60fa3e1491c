/- A part of the proof: W7 W8 TX1 TX2 GI TX3 TX4 GN WR WM WA WC WP1 WP2 WP5 WQ1 WQ2 XA XB XC XE XF WQ6 XG XM XN XR XS XT XU XD XV: each text has a comment of its own. -/
import Derived.Test.YtcepbgoefnfnmaaGreatDoorRa8
import Derived.WalkKit
import Derived.ProofKit
import Derived.OpenShut
import Derived.Carry
import Derived.ChangeMaps5
set_option linter.unusedVariables false
set_option linter.unusedSimpArgs false
set_option linter.constructorNameAsVariable false
set_option maxRecDepth 100000
namespace Go.Dd
open Go.Proofs
theorem sV (a b : DV) (h : Hp) : aC 0 (.t [a, b]) h = some (a, h) := Eq.trans rfl rfl
theorem sA (a b : DV) (h : Hp) : aC 1 (.t [a, b]) h = some (b, h) := Eq.trans rfl rfl
theorem dFa (p q : Bool) (h : Hp) : pEq .bool true (.b p) (.b q) h = some (.b (p == q), h) := by cases p <;> cases q <;> rfl
theorem aIc {a : Nat} (h : a ≠ 0) : Nat.beq a 0 = false := by
 cases hb : Nat.beq a 0 with
 | true => exact absurd (Nat.eq_of_beq_eq_true hb) h
 | false => rfl
theorem aMn {a : Int} {pl : WT} (h : cU a = true) : bM a pl = 0 := by
 rcases mR a pl with e | ⟨_, e2⟩
 ·exact e
 ·have h1 := (rL a).1.1 e2
  rw [iT] at h
  have := of_decide_eq_true h
  omega
section
theorem Wd.fmt {h : Hp} {M : MemV} {R : List Int} {es : List (DV × DV)} (W : Wd h M R es) (G : Good M) {o : Int} (ho : bM o M.pl ≠ 0) {hd : Nat} (hh : M.t.get (bM o M.pl) = .ofNat hd) : iW [.p (aM 3) 0, .i .i64 o] h = some (.i .i64 (.ofNat (hd % 4)), h) := by
 obtain ⟨hd', e, _, _, _, hk, _⟩ := W.head G ho
 rw [hh] at e
 cases e
 simp only [iW, iS, W.mem, hk]
 rfl
theorem Wd.fields {h : Hp} {M : MemV} {R : List Int} {es : List (DV × DV)} (W : Wd h M R es) (G : Good M) {o : Int} (ho : bM o M.pl ≠ 0) {hd : Nat} (hh : M.t.get (bM o M.pl) = .ofNat hd) : hZ [.p (aM 3) 0, .i .i64 o] h = some (.i .i64 (.ofNat (hd / 4)), h) := by
 obtain ⟨hd', e, _, _, _, hk, _⟩ := W.head G ho
 rw [hh] at e
 cases e
 simp only [hZ, iS, W.mem, hk]
 rfl
theorem Wd.get {h : Hp} {M : MemV} {R : List Int} {es : List (DV × DV)} (W : Wd h M R es) (G : Good M) {o : Int} (ho : bM o M.pl ≠ 0) {hd i : Nat} (hh : M.t.get (bM o M.pl) = .ofNat hd) (hi : i < hd / 4) :
  sZ [.p (aM 3) 0, .i .i64 o, .i .i64 (.ofNat i)] h = some (.t [iD (M.t.get (bM o M.pl + 3 + i)), .i .i64 (.ofNat 0)], h) := by
 obtain ⟨hd', e, _, _, h4, hk, _⟩ := W.head G ho
 rw [hh] at e
 cases e
 have h5 := G.le
 have b3 : Nat.ble (Nat.div hd 4) i = false := by rw [jN]; exact decide_eq_false (show ¬ hd / 4 ≤ i by omega)
 have b4 : Nat.blt (Nat.add (Nat.add (bM o M.pl) 3) i) M.n = true := by rw [gF]; exact decide_eq_true (show bM o M.pl + 3 + i < M.n by omega)
 simp only [sZ, iS, W.mem, gR, aIc ho, cond_false, hk, b3, b4, cond_true]
 rfl
theorem Wd.get53 {h : Hp} {M : MemV} {R : List Int} {es : List (DV × DV)} (W : Wd h M R es) (G : Good M) {o : Int} (ho : bM o M.pl ≠ 0) {hd i : Nat} (hh : M.t.get (bM o M.pl) = .ofNat hd) (hi : i < hd / 4) (n : Nat) :
  cK (n + 1) 75 [.p (aM 7) 0, .i .i64 o, .i .i64 (.ofNat i)] h = some (iD (M.t.get (bM o M.pl + 3 + i)), h) := by
 rw [mJ 75 rfl, bKz]
 unfold s75
 simp only [g0, g1, g2, fU, gL, aL, W.l00, W.get G ho hh hi, sV, sA]
inductive NumA (M M' : MemV) (R : List Int) (n : Int) : Int → Int → Prop
 | out : ¬ (-1152921504606846976 ≤ n ∧ n ≤ 1152921504606846976) → M' = M → NumA M M' R n 0 2
 | small (a : Int) : -1073741824 ≤ n ∧ n ≤ 1073741823 → cU a = true → nJ a = n → M' = M → NumA M M' R n a 0
 | big : (-1152921504606846976 ≤ n ∧ n ≤ 1152921504606846976) → ¬ (-1073741824 ≤ n ∧ n ≤ 1073741823) → Grown M M' 1 (R.getD 10 0) [n] → NumA M M' R n (.ofNat (M.fin * 2)) 0
theorem Wd.number {h : Hp} {M : MemV} {R : List Int} {es : List (DV × DV)} (W : Wd h M R es) (G : Good M) (hR : ∀ i, i < 16 → bM (R.getD (2 + i) 0) M.pl ≠ 0) (room : M.fin + 4 ≤ M.n) (hm : M.made < 899999) (n : Int) {k : Nat} (hk : 256 < k) :
  ∃ a e h' M', cK (k + 2) 22 [.p (aM 7) 0, .i .i64 n] h = some (.t [iD a, iD e], h') ∧ Wd h' M' R es ∧ Good M' ∧ Up h h' ∧ NumA M M' R n a e := by
 have hl : (Int.negSucc 1152921504606846975) = -1152921504606846976 := rfl
 rw [mJ 22 rfl, cKf]
 unfold s22
 by_cases c1 : n < -1152921504606846976
 ·refine ⟨0, 2, h, M, ?_, W, G, Up.refl h, .out (by omega) rfl⟩
  have d1 : decide (n < Int.negSucc 1152921504606846975) = true := decide_eq_true (by rw [hl]; exact c1)
  simp only [g0, g1, bJ, aL, d1, fJ, jK, bL, aZ]
  rfl
 ·have d1 : decide (n < Int.negSucc 1152921504606846975) = false := decide_eq_false (by rw [hl]; exact c1)
  by_cases c2 : n > 1152921504606846976
  ·refine ⟨0, 2, h, M, ?_, W, G, Up.refl h, .out (by omega) rfl⟩
   have d2 : decide (n > Int.ofNat 1152921504606846976) = true := decide_eq_true c2
   simp only [g0, g1, bJ, cM, aL, d1, d2, fX, bN, aZ]
   rfl
  ·have d2 : decide (n > Int.ofNat 1152921504606846976) = false := decide_eq_false c2
   simp only [g0, g1, bJ, cM, aL, d1, d2, fX, bN, aV]
   by_cases c3 : -1073741824 ≤ n ∧ n ≤ 1073741823
   ·
    have hs : ∃ a, iG [.i .i64 n] h = some (.t [iD a, .b true], h) ∧ cU a = true ∧ nJ a = n := by
     cases n with
     | ofNat m =>
      have hb : Nat.blt m 1073741824 = true := by rw [gF]; exact decide_eq_true (by have := c3.2; simp at this; omega)
      refine ⟨.ofNat (Nat.succ (Nat.mul m 2)), by simp only [iG, hb, cond_true], ?_, ?_⟩
      ·rw [iT]
       refine decide_eq_true ?_
       have e : (Int.ofNat (Nat.succ (Nat.mul m 2))) = 2 * (m : Int) + 1 := by show (((m * 2).succ : Nat) : Int) = _; omega
       rw [e]
       have := c3.2
       simp at this
       omega
      ·rw [oI]
       have e : (Int.ofNat (Nat.succ (Nat.mul m 2))) = 2 * (m : Int) + 1 := by show (((m * 2).succ : Nat) : Int) = _; omega
       rw [e]
       show _ = (m : Int)
       omega
     | negSucc m =>
      have hb : Nat.blt m 1073741824 = true := by rw [gF]; exact decide_eq_true (by have := c3.1; omega)
      have e : (Int.negSucc (Nat.mul m 2)) = -2 * (m : Int) - 1 := by show Int.negSucc (m * 2) = _; omega
      refine ⟨.negSucc (Nat.mul m 2), by simp only [iG, hb, cond_true], ?_, ?_⟩
      ·rw [iT]
       refine decide_eq_true ?_
       rw [e]
       have := c3.1
       omega
      ·rw [oI, e]
       omega
    obtain ⟨a, h1, h2, h3⟩ := hs
    refine ⟨a, 0, h, M, ?_, W, G, Up.refl h, .small a c3 h2 h3 rfl⟩
    simp only [h1, aL, sV, sA, aZ]
    rfl
   ·
    have hs : iG [.i .i64 n] h = some (.t [.i .i64 (.ofNat 0), .b false], h) := by
     cases n with
     | ofNat m =>
      have hb : Nat.blt m 1073741824 = false := by rw [gF]; exact decide_eq_false (fun q => c3 (by simp; omega))
      simp only [iG, hb, cond_false]
     | negSucc m =>
      have hb : Nat.blt m 1073741824 = false := by rw [gF]; exact decide_eq_false (fun q => c3 (by omega))
      simp only [iG, hb, cond_false]
    have fl : aJ [.i .i64 (Int.ofNat 0)] 1 [(0, 1, .i .i64 n)] h = some (.l h.next 0 1 1, ⟨h.next.succ, Tr.set (.row .ex ([n].map iD)) h.next h.bl⟩) := by
     simp [aJ, iZ, cT]
    obtain ⟨U1, W1⟩ := W.new (.row .ex ([n].map iD))
    have S : SlI (.l h.next 0 1 1) [n] ⟨h.next.succ, Tr.set (.row .ex ([n].map iD)) h.next h.bl⟩ := .inr ⟨h.next, 1, .ex, rfl, dKc _ _ _, .inr (Nat.le_trans (by decide) W.nx), by show _ < (h.next.succ).toNat; rw [dKd]; omega⟩
    obtain ⟨h', M', e1, W2, U2, _, g⟩ := W1.make61 G (hR 8 (by omega)) (f := 1) (by omega) S (by simp) (by simpa using room) (fun v hv => trivial) hk
    refine ⟨_, _, h', M', ?_, W2, g.good G (hR 8 (by omega)) (by omega) (by simp) (by simpa using room) hm, U1.trans U2, .big (by omega) c3 g⟩
    simp only [hs, aL, sV, sA, aV, W.known (show 8 < 16 by omega), fl]
    rw [show (2 : Nat) + 8 = 10 from rfl] at e1 ⊢
    rw [e1]
    simp only [aL, sV, sA]
    rfl
end
end Go.Dd

namespace Go.Dd
open Go.Proofs
section
theorem Wd.memory {h : Hp} {M : MemV} {R : List Int} {es : List (DV × DV)} (W : Wd h M R es) (n : Nat) : cK (n + 1) 14 [.p (aM 7) 0] h = some (.p (aM 3) 0, h) := by
 rw [mJ 14 rfl, cJw]
 unfold s14
 simp only [g0, fU, gL, aL, W.l00]
end
end Go.Dd

namespace Go.Dd
open Go.Proofs
def GrS (x : DV) (l : List DV) (lo : Nat) (h : Hp) : Prop := (x = .l0 ∧ l = []) ∨ ∃ b, x = .l b 0 l.length l.length ∧ h.bl.get b = some (.row (.gr 1) l) ∧ lo ≤ b.toNat ∧ b.toNat < h.next.toNat
structure Lo (lo : Nat) (h h' : Hp) : Prop where
 next : h.next.toNat ≤ h'.next.toNat
 get : ∀ b : Pos, b.toNat < lo → h'.bl.get b = h.bl.get b
theorem Lo.refl (lo : Nat) (h : Hp) : Lo lo h h := ⟨Nat.le_refl _, fun _ _ => rfl⟩
theorem Lo.trans {lo : Nat} {a b c : Hp} (u : Lo lo a b) (v : Lo lo b c) : Lo lo a c := ⟨Nat.le_trans u.next v.next, fun p h => (v.get p h).trans (u.get p h)⟩
theorem Lo.up {h h' : Hp} (u : Lo h.next.toNat h h') : Up h h' := ⟨u.next, fun b _ h2 => u.get b h2⟩
theorem Wd.lo {h h' : Hp} {M : MemV} {R : List Int} {es : List (DV × DV)} (W : Wd h M R es) (u : Lo h.next.toNat h h') : Wd h' M R es := W.up u.up fun b hb => u.get b (Nat.lt_of_lt_of_le hb W.nx)
theorem qG : ∀ l : List DV, (∀ v ∈ l, v.one = true) → gJ l.length l = some l := yP
theorem GrS.app {x : DV} {l : List DV} {lo : Nat} {h : Hp} (S : GrS x l lo h) (hlo : lo ≤ h.next.toNat) (hl : ∀ v ∈ l, v.one = true) {z v : DV} (hz : cT v = some [v]) (hv : v.one = true) {bytes : Nat} (hb : (l.length + 1) * bytes ≤ jU) :
  ∃ y g, aJ [z] 1 [(0, 1, v)] h = some (y, g) ∧ ∃ x' h', bB 1 bytes x y g = some (x', h') ∧ GrS x' (l ++ [v]) lo h' ∧ Lo lo h h' := by
 refine ⟨.l h.next 0 1 1, ⟨h.next.succ, Tr.set (.row .ex [v]) h.next h.bl⟩, ?_, ?_⟩
 ·simp [aJ, iZ, hz]
 ·have src : rB 1 (.l h.next 0 1 1) ⟨h.next.succ, Tr.set (.row .ex [v]) h.next h.bl⟩ = some (1, [v]) := by
   have : cellsAt h.next 0 (1 * 1) ⟨h.next.succ, Tr.set (.row .ex [v]) h.next h.bl⟩ = some [v] := by
    simp [cellsAt, rowOf, dKc, gJ, hv]
   simp only [rB, this]
  have ns := dKd h.next
  have ns2 := dKd h.next.succ
  rcases S with ⟨rfl, rfl⟩ | ⟨b, rfl, hbg, h1, h2⟩
  ·refine ⟨.l h.next.succ 0 1 1, ⟨h.next.succ.succ, Tr.set (.row (.gr 1) [v]) h.next.succ (Tr.set (.row .ex [v]) h.next h.bl)⟩, ?_, ?_, ?_⟩
   ·unfold bB
    rw [src]
    dsimp only
    rw [if_neg (by simp), if_pos (by simpa using hb)]
   ·exact .inr ⟨h.next.succ, rfl, dKc _ _ _, by omega, by show _ < h.next.succ.succ.toNat; omega⟩
   ·refine ⟨by show _ ≤ h.next.succ.succ.toNat; omega, fun p hp => ?_⟩
    show (Tr.set _ h.next.succ (Tr.set _ h.next h.bl)).get p = _
    rw [dKb _ _ _ _ (fun e => by subst e; omega), dKb _ _ _ _ (fun e => by subst e; omega)]
  ·have hne : b ≠ h.next := fun e => by subst e; omega
   have hget : (Tr.set (.row .ex [v]) h.next h.bl).get b = some (.row (.gr 1) l) := by rw [dKb _ _ _ _ hne]; exact hbg
   have hcells : cellsAt b 0 (l.length * 1) ⟨h.next.succ, Tr.set (.row .ex [v]) h.next h.bl⟩ = some l := by
    simp only [cellsAt, rowOf, hget, List.drop_zero, Nat.mul_one]
    exact qG l hl
   refine ⟨.l h.next.succ 0 (l.length + 1) (l.length + 1), ⟨h.next.succ.succ, Tr.set (.row (.gr 1) (l ++ [v])) h.next.succ (Tr.set (.row .sp (bU 0 l)) b (Tr.set (.row .ex [v]) h.next h.bl))⟩, ?_, ?_, ?_⟩
   ·unfold bB
    rw [src]
    dsimp only
    rw [if_neg (by omega), hget, hcells]
    dsimp only
    rw [if_pos hb, if_pos (by simp)]
   ·exact .inr ⟨h.next.succ, by simp, dKc _ _ _, by omega, by show _ < h.next.succ.succ.toNat; omega⟩
   ·refine ⟨by show _ ≤ h.next.succ.succ.toNat; omega, fun p hp => ?_⟩
    show (Tr.set _ h.next.succ (Tr.set _ b (Tr.set _ h.next h.bl))).get p = _
    rw [dKb _ _ _ _ (fun e => by subst e; omega), dKb _ _ _ _ (fun e => by subst e; omega), dKb _ _ _ _ (fun e => by subst e; omega)]
theorem zF (k : IntKind) (hk : k = .i64 ∨ k = .u8) {c : Nat} (hc : c < 256) : k.wrap (c : Int) = (c : Int) := by
 rcases hk with rfl | rfl
 ·exact hC _ (by omega)
 ·have : (IntKind.u8.wrap (c : Int)) = (c : Int) % 256 := by
   simp [IntKind.wrap, IntKind.bits, IntKind.signed]
  rw [this]
  omega
end Go.Dd

namespace Go.Dd
open Go.Proofs
def iN (c : Nat) : DV := .i .i64 (Int.ofNat c)
def uN (c : Nat) : DV := .i .u8 (Int.ofNat c)
theorem cVc (l : List Nat) : ∀ v ∈ l.map iN, v.one = true := by
 intro v hv
 obtain ⟨c, _, rfl⟩ := List.mem_map.1 hv
 rfl
theorem bGv (l : List Nat) : ∀ v ∈ l.map uN, v.one = true := by
 intro v hv
 obtain ⟨c, _, rfl⟩ := List.mem_map.1 hv
 rfl
theorem wS {rec : FuncId → List DV → Hp → aG} {n lo : Nat} {x0 x1 : DV} : ∀ (rest done : List Nat) (m : Nat) (x : DV) (h : Hp), GrS x (done.map iN) lo h → lo ≤ h.next.toNat → (∀ c ∈ done ++ rest, c < 256) → (done ++ rest).length ≤ 300 → rest.length < m →
  ∃ x' h', pR rec n m x0 x1 (.s (done ++ rest)) x (.i .i64 ((done ++ rest).length : Int)) (.i .i64 (Int.ofNat done.length)) h = fZ rec n x0 x1 x' h' ∧ GrS x' ((done ++ rest).map iN) lo h' ∧ Lo lo h h'
 | [], done, m + 1, x, h, S, hlo, hc, hl, hm => by
  refine ⟨x, h, ?_, by rw [List.append_nil]; exact S, Lo.refl lo h⟩
  show pC rec n (pR rec n m) _ _ _ _ _ _ h = _
  unfold pC
  have hl : decide (Int.ofNat done.length < ((done ++ []).length : Int)) = false := by simp
  simp only [bJ, aL, hl, aV]
 | c :: rest, done, m + 1, x, h, S, hlo, hc, hl, hm => by
  have hc1 : c < 256 := hc c (by simp)
  obtain ⟨y, g, e1, x', h', e2, S', L'⟩ := S.app hlo (cVc done) (z := .i .i64 (Int.ofNat 0)) (v := iN c) rfl rfl (bytes := 8) (by simp at hl ⊢; unfold jU; omega)
  have S2 : GrS x' ((done ++ [c]).map iN) lo h' := by rw [List.map_append]; exact S'
  obtain ⟨x2, h2, e3, S3, L3⟩ := wS (rec := rec) (n := n) (lo := lo) (x0 := x0) (x1 := x1) rest (done ++ [c]) m x' h' S2 (Nat.le_trans hlo L'.next) (by simpa using hc) (by simpa using hl) (by simp at hm; omega)
  refine ⟨x2, h2, ?_, by simpa using S3, L'.trans L3⟩
  rw [← e3]
  show pC rec n (pR rec n m) _ _ _ _ _ _ h = _
  unfold pC
  have hl1 : decide (Int.ofNat done.length < ((done ++ c :: rest).length : Int)) = true := by simp; omega
  have hix : dP (.s (done ++ c :: rest)) (.i .i64 (Int.ofNat done.length)) h = some (.i .u8 (c : Int), h) := by
   show (if (0 : Int) ≤ Int.ofNat done.length then (match (done ++ c :: rest)[(Int.ofNat done.length).toNat]? with
    | some c => some (DV.i .u8 (c : Int), h)
    | none => none) else none) = _
   rw [if_pos (by simp), show (Int.ofNat done.length).toNat = done.length from rfl]
   simp
  have hcv : dE .i64 (.i .u8 (c : Int)) h = some (iN c, h) := by
   show some (DV.i .i64 (IntKind.i64.wrap (c : Int)), h) = _
   rw [zF .i64 (.inl rfl) hc1]
   rfl
  have hadd : aD .add (.i .i64 (Int.ofNat done.length)) (.i .i64 (Int.ofNat 1)) h' = some (.i .i64 (Int.ofNat (done ++ [c]).length), h') := by
   rw [jO _ _ _ (by simp at hl ⊢; omega)]
   simp
  simp only [bJ, aL, hl1, aZ, hix, hcv, e1, e2, hadd]
  simp
structure TxO (M : MemV) (cls o : Int) (s : List Nat) : Prop where
 at0 : bM o M.pl ≠ 0
 hd : M.t.get (bM o M.pl) = .ofNat (s.length * 4 + 2)
 cls : M.t.get (bM o M.pl + 1) = cls
 by8 : ∀ c ∈ s, c < 256
 len : s.length ≤ 256
 get : ∀ i c, s[i]? = some c → M.t.get (bM o M.pl + 3 + i) = .ofNat c
theorem Grown.txo {M M' : MemV} {f : Nat} {k : Int} {l : List Int} (g : Grown M M' f k l) (G : Good M) {cls o : Int} {s : List Nat} (T : TxO M cls o s) : TxO M' cls o s := by
 have h1 := G.le
 have h3 := G.hi
 have hp : M.pl.get (bM o M.pl) ≠ 0 := by
  rcases mR o M.pl with e | ⟨e, _⟩
  ·exact absurd e T.at0
  ·rw [e]; exact (atN_pos.1 T.at0).2
 obtain ⟨_, hd, e1, e2, e3, _⟩ := G.ob _ hp
 rw [T.hd] at e1
 cases e1
 have ea : bM o M'.pl = bM o M.pl := by rw [g.pl]; exact rQ (by omega) T.at0
 refine ⟨by rw [ea]; exact T.at0, by rw [ea, g.old _ (by omega)]; exact T.hd, by rw [ea, g.old _ (by omega)]; exact T.cls, T.by8, T.len, fun i c hi => ?_⟩
 have hil : i < s.length := by
  rcases Nat.lt_or_ge i s.length with q | q
  ·exact q
  ·rw [List.getElem?_eq_none q] at hi; cases hi
 rw [ea, g.old _ (by omega)]
 exact T.get i c hi
theorem Grown.new_txo {M M' : MemV} {cls : Int} {s : List Nat} (g : Grown M M' 2 cls (s.map Int.ofNat)) (G : Good M) (hs : ∀ c ∈ s, c < 256) (hl : s.length ≤ 256) : TxO M' cls (.ofNat (M.fin * 2)) s := by
 have h1 := G.le
 have h2 := G.lo
 have h3 := G.hi
 have ha : bM (.ofNat (M.fin * 2)) M'.pl = M.fin := by rw [g.pl]; exact yQ h2 (by omega)
 refine ⟨by rw [ha]; omega, by rw [ha, g.hd]; simp, by rw [ha, g.cl], hs, hl, fun i c hi => ?_⟩
 rw [ha]
 exact g.new i _ (by rw [List.getElem?_map, hi]; rfl)
section
variable {h : Hp} {M : MemV} {R : List Int} {es : List (DV × DV)}
theorem Wd.bytes49 (W : Wd h M R es) (G : Good M) {cls : Int} (hc : bM cls M.pl ≠ 0) {s : List Nat} (hs : ∀ c ∈ s, c < 256) (h256 : s.length ≤ 256) (room : M.fin + s.length + 3 ≤ M.n) {n : Nat} (hn : 300 < n) :
  ∃ h' M', cK (n + 2) 59 [.p (aM 7) 0, .i .i64 cls, .s s] h = some (.t [.i .i64 (.ofNat (M.fin * 2)), .i .i64 (.ofNat 0)], h') ∧ Wd h' M' R es ∧ Up h h' ∧ Grown M M' 2 cls (s.map Int.ofNat) := by
 obtain ⟨x', h1, e1, S1, L1⟩ := wS (rec := cK (n + 1)) (n := n + 1) (lo := h.next.toNat) (x0 := .p (aM 7) 0) (x1 := .i .i64 cls) s [] (n + 1) .l0 h (.inl ⟨rfl, rfl⟩) (Nat.le_refl _) (by simpa using hs) (by simp; omega) (by omega)
 have W1 := W.lo L1
 have S2 : SlI x' (s.map Int.ofNat) h1 := by
  have em : (([] : List Nat) ++ s).map iN = (s.map Int.ofNat).map iD := by simp [iN, iD]
  rcases S1 with ⟨rfl, e⟩ | ⟨b, e, hb, h2, h3⟩
  ·refine .inl ⟨rfl, ?_⟩
   have : s = [] := by simpa using e
   rw [this]; rfl
  ·refine .inr ⟨b, s.length, .gr 1, by rw [e]; simp, by rw [hb, em], .inr (Nat.le_trans (Nat.le_trans (by decide) W.nx) h2), h3⟩
 obtain ⟨h', M', e2, W2, U2, _, g⟩ := W1.make61 G hc (f := 2) (by omega) S2 (by simpa using h256) (by simpa using room) (fun v hv => by
  obtain ⟨c, hc', rfl⟩ := List.mem_map.1 hv
  have := hs c hc'
  show 0 ≤ Int.ofNat c ∧ Int.ofNat c ≤ 255
  simp; omega) (n := n) (by omega)
 refine ⟨h', M', ?_, W2, L1.up.trans U2, g⟩
 rw [mJ 59 rfl, cHs]
 unfold s59 aTp aYg aWt bRv
 have el : dI (.s s) h = some (.i .i64 (s.length : Int), h) := rfl
 simp only [g0, g1, g2, el, aL]
 refine Eq.trans e1 ?_
 unfold fZ
 rw [e2]
 simp only [aL, sV, sA]
end
theorem aBm {R : List Int} {es : List (DV × DV)} {M : MemV} {k : Nat} {cls o : Int} {s : List Nat} {b0 : Hp} (W0 : Wd b0 M R es) (G : Good M) (T : TxO M cls o s) : ∀ (rest done : List Nat) (m : Nat) (x : DV) (h : Hp), s = done ++ rest → Lo b0.next.toNat b0 h → GrS x (done.map uN) b0.next.toNat h → rest.length < m →
  ∃ h', pF (cK (k + 1)) (k + 1) m (.p (aM 7) 0) (.i .i64 o) x (.i .i64 (s.length : Int)) (.i .i64 (Int.ofNat done.length)) h = some (.t [.s s, .b true], h') ∧ Lo b0.next.toNat b0 h'
 | [], done, m + 1, x, h, es', L0, S, hm => by
  refine ⟨h, ?_, L0⟩
  show pD (cK (k + 1)) (k + 1) (pF (cK (k + 1)) (k + 1) m) _ _ _ _ _ h = _
  unfold pD
  have hl : decide (Int.ofNat done.length < (s.length : Int)) = false := by rw [es']; simp
  simp only [bJ, aL, hl, aV]
  unfold gI
  have hd : s = done := by rw [es']; simp
  have hb : dR x h = some (.s s, h) := by
   rcases S with ⟨rfl, e⟩ | ⟨b, e, hb, h2, h3⟩
   ·have : done = [] := by simpa using e
    rw [hd, this]; rfl
   ·rw [e]
    have hby : ∀ l : List Nat, (∀ c ∈ l, c < 256) → mD (l.map uN) = some l := by
     intro l
     induction l with
     | nil => intro _; rfl
     | cons c l ih =>
      intro hc
      show (if c < 256 then (mD (l.map uN)).map (c :: ·) else none) = _
      rw [if_pos (hc c (by simp)), ih (fun d hd => hc d (by simp [hd]))]
      rfl
    have hcells : cellsAt b 0 (done.map uN).length h = some (done.map uN) := by
     simp only [cellsAt, rowOf, hb, List.drop_zero]
     exact qG _ (bGv done)
    simp only [dR, hcells, hby done (by rw [← hd]; exact T.by8), hd]
  simp only [hb, aL]
 | c :: rest, done, m + 1, x, h, es', L0, S, hm => by
  have W := W0.lo L0
  have hc1 : c < 256 := T.by8 c (by rw [es']; simp)
  have hgc : s[done.length]? = some c := by rw [es']; simp
  have hlen := T.len
  have hlt : done.length < s.length := by rw [es']; simp
  obtain ⟨y, g, e1, x', h', e2, S', L'⟩ := S.app L0.next (bGv done) (z := .i .u8 (Int.ofNat 0)) (v := uN c) rfl rfl (bytes := 1) (by simp; unfold jU; omega)
  have S2 : GrS x' ((done ++ [c]).map uN) b0.next.toNat h' := by rw [List.map_append]; exact S'
  obtain ⟨h2, e3, L3⟩ := aBm (k := k) W0 G T rest (done ++ [c]) m x' h' (by rw [es']; simp) (L0.trans L') S2 (by simp at hm; omega)
  refine ⟨h2, ?_, L3⟩
  rw [← e3]
  show pD (cK (k + 1)) (k + 1) (pF (cK (k + 1)) (k + 1) m) _ _ _ _ _ h = _
  unfold pD
  have hl1 : decide (Int.ofNat done.length < (s.length : Int)) = true := by simp; omega
  have hg := W.get53 G T.at0 (i := done.length) T.hd (by omega) k
  rw [T.get _ c hgc] at hg
  have hcv : dE .u8 (.i .i64 (Int.ofNat c)) h = some (uN c, h) := by
   show some (DV.i .u8 (IntKind.u8.wrap (c : Int)), h) = _
   rw [zF .u8 (.inr rfl) hc1]
   rfl
  have hadd : aD .add (.i .i64 (Int.ofNat done.length)) (.i .i64 (Int.ofNat 1)) h' = some (.i .i64 (Int.ofNat (done ++ [c]).length), h') := by
   rw [jO _ _ _ (by simp; omega)]
   simp
  simp only [bJ, aL, hl1, aZ, hg, hcv, e1, e2, hadd]
theorem Wd.text {h : Hp} {M : MemV} {R : List Int} {es : List (DV × DV)} (W : Wd h M R es) (G : Good M) {cls o : Int} {s : List Nat} (T : TxO M cls o s) (hk : cls = R.getD 12 0 ∨ cls = R.getD 13 0) {k : Nat} (hn : 300 < k) :
  ∃ h', cK (k + 2) 53 [.p (aM 7) 0, .i .i64 o] h = some (.t [.s s, .b true], h') ∧ Wd h' M R es ∧ Up h h' := by
 obtain ⟨h', e1, L1⟩ := aBm (k := k) W G T s [] (k + 1) .l0 h rfl (Lo.refl _ h) (.inl ⟨rfl, rfl⟩) (by have := T.len; omega)
 refine ⟨h', ?_, W.lo L1, L1.up⟩
 rw [mJ 53 rfl, bIl]
 unfold s53 aMi aJw
 have hi : (!(Nat.beq (bM o M.pl) 0)) = true := by rw [aIc T.at0]; rfl
 have ef := W.fmt G T.at0 T.hd
 rw [show (s.length * 4 + 2) % 4 = 2 by omega] at ef
 have e9 : (Int.ofNat 2 != Int.ofNat 2) = false := rfl
 have efs := W.fields G T.at0 T.hd
 rw [show (s.length * 4 + 2) / 4 = s.length by omega] at efs
 have fin : aJr (cK (k + 1)) (k + 1) (.p (aM 7) 0) (.i .i64 o) h = some (.t [.s s, .b true], h') := by
  unfold aJr aVg aUa bEo
  simp only [fU, gL, aL, W.l00, efs]
  exact e1
 have zn : ∀ y : Int, (y != y) = false := fun y => by simp
 by_cases hc : cls = R.getD 12 0
 ·simp only [g0, g1, fU, gL, aL, W.l00, W.cls G T.at0, T.cls, W.is, hi, gT, Bool.not_true, fX, W.known (show 10 < 16 by omega), show 2 + 10 = 12 from rfl, hc, jJ, zn, gM, jK, bN, ef, e9, aV]
  exact fin
 ·have h13 : cls = R.getD 13 0 := hk.resolve_left hc
  have z1 : (cls != R.getD 12 0) = true := by simpa using hc
  simp only [g0, g1, fU, gL, aL, W.l00, W.cls G T.at0, T.cls, W.is, hi, gT, Bool.not_true, fX, fT, W.known (show 10 < 16 by omega), W.known (show 11 < 16 by omega), show 2 + 10 = 12 from rfl, show 2 + 11 = 13 from rfl, jJ, z1, bL, bN, ← h13, zn, ef, e9, aV]
  exact fin
end Go.Dd

namespace Go.Dd
open Go.Proofs
structure ObI (M : MemV) (R : List Int) (CL : List Nat) (a hd : Nat) (z : Prop := True) : Prop where
 len : hd / 4 ≤ 256
 fmt : hd % 4 ≤ 2
 arr : M.t.get (a + 1) = R.getD 11 0 → hd % 4 = 0
 str : M.t.get (a + 1) = R.getD 12 0 ∨ M.t.get (a + 1) = R.getD 13 0 → hd % 4 = 2
 by8 : hd % 4 = 2 → ∀ i, i < hd / 4 → ∃ c : Nat, c < 256 ∧ M.t.get (a + 3 + i) = .ofNat c
 cls : M.t.get (a + 1) = R.getD 3 0 → a ∈ CL
 pl : z → ∀ c ∈ CL, M.t.get (c + 8) = 1 → M.t.get (a + 1) = .ofNat (2 * c) → hd % 4 = 0 ∧ ∀ i, i < hd / 4 → M.t.get (a + 3 + i) = 0
structure ClI (M : MemV) (R : List Int) (c : Nat) : Prop where
 pt : 3 ≤ c ∧ c ≤ 131072
 pl : M.pl.get c ≠ 0
 hd : M.t.get c = .ofNat 24
 cl : M.t.get (c + 1) = R.getD 3 0
 nm : ∃ s, TxO M (R.getD 13 0) (M.t.get (c + 3)) s ∧ 1 ≤ s.length ∧ s.length ≤ 60
 sz : ∃ z : Nat, z ≤ 16 ∧ M.t.get (c + 5) = .ofNat (2 * z + 1)
 kd : ∃ k : Nat, k ≤ 3 ∧ M.t.get (c + 8) = .ofNat (2 * k + 1)
structure GI (M : MemV) (R : List Int) (CL : List Nat) (z : Prop := True) : Prop where
 z0 : M.t.get 0 = 0
 z1 : M.t.get 1 = 0
 ob : ∀ a, M.pl.get a ≠ 0 → ∀ hd : Nat, M.t.get a = .ofNat hd → ObI M R CL a hd z
 dj : ∀ a b, M.pl.get a ≠ 0 → M.pl.get b ≠ 0 → a < b → ∀ hd : Nat, M.t.get a = .ofNat hd → a + 3 + hd / 4 ≤ b
 cl : ∀ c ∈ CL, ClI M R c
 rk : ∀ i, i < 16 → R.getD (2 + i) 0 = .ofNat (6 + 18 * i)
 kn : ∀ i, i < 16 → 3 + 9 * i ∈ CL
 k9 : M.t.get 92 = 3
 k10 : M.t.get 101 = 5
 k11 : M.t.get 110 = 5
 k8 : M.t.get 83 = 7
 k1 : M.t.get 20 = 7
section
variable {M M' : MemV} {R : List Int} {CL : List Nat} {f : Nat} {cls : Int} {l : List Int} {z : Prop}
theorem GI.lt (I : GI M R CL z) (G : Good M) {c : Nat} (hc : c ∈ CL) : c + 9 ≤ M.fin := by
 obtain ⟨_, hd, h1, _, h3, _⟩ := G.ob c (I.cl c hc).pl
 rw [(I.cl c hc).hd] at h1
 have := Int.ofNat.inj h1
 omega
structure NewI (M : MemV) (R : List Int) (CL : List Nat) (f : Nat) (cls : Int) (l : List Int) : Prop where
 len : l.length ≤ 256
 fmt : f ≤ 2
 arr : cls = R.getD 11 0 → f = 0
 str : cls = R.getD 12 0 ∨ cls = R.getD 13 0 → f = 2
 by8 : f = 2 → ∀ v ∈ l, ∃ c : Nat, c < 256 ∧ v = .ofNat c
 ncl : cls ≠ R.getD 3 0
 pl : ∀ c ∈ CL, M.t.get (c + 8) = 1 → cls = .ofNat (2 * c) → f = 0 ∧ ∀ v ∈ l, v = 0
theorem Grown.gi (g : Grown M M' f cls l) (G : Good M) (I : GI M R CL z) (N : NewI M R CL f cls l) : GI M' R CL z where
 z0 := by rw [g.old 0 (by have := G.lo; omega)]; exact I.z0
 z1 := by rw [g.old 1 (by have := G.lo; omega)]; exact I.z1
 rk := I.rk
 kn := I.kn
 k9 := by have := I.lt G (I.kn 15 (by omega)); rw [g.old 92 (by omega)]; exact I.k9
 k10 := by have := I.lt G (I.kn 15 (by omega)); rw [g.old 101 (by omega)]; exact I.k10
 k11 := by have := I.lt G (I.kn 15 (by omega)); rw [g.old 110 (by omega)]; exact I.k11
 k8 := by have := I.lt G (I.kn 15 (by omega)); rw [g.old 83 (by omega)]; exact I.k8
 k1 := by have := I.lt G (I.kn 15 (by omega)); rw [g.old 20 (by omega)]; exact I.k1
 dj := fun a b ha hb hab hd hh => by
  have hk : M.fin < 16000000 := by have := G.le; have := G.hi; omega
  rw [g.pl, tB _ hk] at ha hb
  by_cases eb : b = M.fin
  ·rw [if_neg (by omega)] at ha
   obtain ⟨h3, hd', h1, h2, h4, _⟩ := G.ob a ha
   rw [g.old a (by omega)] at hh
   have e : hd' = hd := Int.ofNat.inj (h1.symm.trans hh)
   omega
  ·rw [if_neg eb] at hb
   obtain ⟨_, _, _, _, h5, _⟩ := G.ob b hb
   rw [if_neg (by omega)] at ha
   rw [g.old a (by omega)] at hh
   exact I.dj a b ha hb hab hd hh
 cl := fun c hc => by
  have hlt := I.lt G hc
  have C := I.cl c hc
  have hk : M.fin < 16000000 := by have := G.le; have := G.hi; omega
  refine ⟨C.pt, ?_, by rw [g.old c (by omega)]; exact C.hd, by rw [g.old (c + 1) (by omega)]; exact C.cl, ?_, by rw [g.old (c + 5) (by omega)]; exact C.sz, by rw [g.old (c + 8) (by omega)]; exact C.kd⟩
  ·rw [g.pl, tB _ hk]
   split
   ·decide
   ·exact C.pl
  ·obtain ⟨s, q1, q2⟩ := C.nm
   rw [g.old (c + 3) (by omega)]
   exact ⟨s, g.txo G q1, q2⟩
 ob := fun a ha hd hh => by
  have hk : M.fin < 16000000 := by have := G.le; have := G.hi; omega
  rw [g.pl, tB _ hk] at ha
  have hcl : ∀ c ∈ CL, M'.t.get (c + 8) = M.t.get (c + 8) := fun c hc => g.old _ (by have := I.lt G hc; omega)
  by_cases ea : a = M.fin
  ·subst ea
   rw [g.hd] at hh
   have e : hd = l.length * 4 + f := (Int.ofNat.inj hh).symm
   have h4 : hd / 4 = l.length := by have := N.fmt; omega
   have hm : hd % 4 = f := by have := N.fmt; omega
   have hnew : ∀ i, i < hd / 4 → ∃ v ∈ l, M'.t.get (M.fin + 3 + i) = v := fun i hi => by
    rw [h4] at hi
    exact ⟨l[i], List.getElem_mem hi, g.new i _ (List.getElem?_eq_getElem hi)⟩
   refine ⟨by rw [h4]; exact N.len, by rw [hm]; exact N.fmt, ?_, ?_, ?_, ?_, ?_⟩
   ·rw [g.cl, hm]; exact N.arr
   ·rw [g.cl, hm]; exact N.str
   ·intro q i hi
    obtain ⟨v, q1, q2⟩ := hnew i hi
    obtain ⟨c, q3, q4⟩ := N.by8 (by rw [← hm]; exact q) v q1
    exact ⟨c, q3, q2.trans q4⟩
   ·rw [g.cl]; exact fun q => absurd q N.ncl
   ·intro _ c hc q1 q2
    rw [hcl c hc] at q1
    rw [g.cl] at q2
    obtain ⟨q3, q4⟩ := N.pl c hc q1 q2
    refine ⟨by rw [hm]; exact q3, fun i hi => ?_⟩
    obtain ⟨v, q5, q6⟩ := hnew i hi
    rw [q6, q4 v q5]
  ·rw [if_neg ea] at ha
   obtain ⟨h3, hd', h1, h2, h4, _⟩ := G.ob a ha
   rw [g.old a (by omega)] at hh
   have e : hd' = hd := Int.ofNat.inj (h1.symm.trans hh)
   subst e
   have O := I.ob a ha hd' hh
   have ho : ∀ j, j < 3 + hd' / 4 → M'.t.get (a + j) = M.t.get (a + j) := fun j hj => g.old _ (by omega)
   have h1' := ho 1 (by omega)
   refine ⟨O.len, O.fmt, by rw [h1']; exact O.arr, by rw [h1']; exact O.str, fun q i hi => ?_, by rw [h1']; exact O.cls, fun hz c hc q1 q2 => ?_⟩
   ·have := ho (3 + i) (by omega)
    rw [show a + 3 + i = a + (3 + i) by omega, this, ← show a + 3 + i = a + (3 + i) by omega]
    exact O.by8 q i hi
   ·rw [hcl c hc] at q1
    rw [h1'] at q2
    obtain ⟨q3, q4⟩ := O.pl hz c hc q1 q2
    refine ⟨q3, fun i hi => ?_⟩
    have := ho (3 + i) (by omega)
    rw [show a + 3 + i = a + (3 + i) by omega, this, ← show a + 3 + i = a + (3 + i) by omega]
    exact q4 i hi
theorem GI.roots {R' : List Int} (I : GI M R CL z) (hR : ∀ i, R'.getD (i + 1) 0 = R.getD (i + 1) 0) : GI M R' CL z where
 z0 := I.z0
 z1 := I.z1
 rk := fun i hi => by rw [show 2 + i = (1 + i) + 1 by omega, hR, show (1 + i) + 1 = 2 + i by omega]; exact I.rk i hi
 kn := I.kn
 dj := I.dj
 k9 := I.k9
 k10 := I.k10
 k11 := I.k11
 k8 := I.k8
 k1 := I.k1
 cl := fun c hc => by
  have C := I.cl c hc
  refine ⟨C.pt, C.pl, C.hd, ?_, ?_, C.sz, C.kd⟩
  ·rw [hR 2]; exact C.cl
  ·rw [hR 12]; exact C.nm
 ob := fun a ha hd hh => by
  have O := I.ob a ha hd hh
  refine ⟨O.len, O.fmt, ?_, ?_, O.by8, ?_, O.pl⟩
  ·rw [hR 10]; exact O.arr
  ·rw [hR 11, hR 12]; exact O.str
  ·rw [hR 2]; exact O.cls
theorem GI.newK (I : GI M R CL z) {i : Nat} (hi : (i = 9 ∧ f = 0) ∨ ((i = 10 ∨ i = 11) ∧ f = 2) ∨ (i = 8 ∧ f = 1)) (hl : l.length ≤ 256) (hb : f = 2 → ∀ v ∈ l, ∃ c : Nat, c < 256 ∧ v = .ofNat c) : NewI M R CL f (R.getD (2 + i) 0) l := by
 have r := fun j hj => I.rk j hj
 have hi16 : i < 16 := by omega
 have ne : ∀ j, j < 16 → (R.getD (2 + i) 0 = R.getD (2 + j) 0 ↔ i = j) := fun j hj => by
  rw [r i hi16, r j hj]
  constructor
  ·intro q
   have := Int.ofNat.inj q
   omega
  ·intro q; rw [q]
 refine ⟨hl, by omega, fun q => ?_, fun q => ?_, hb, fun q => ?_, fun c hc q1 q2 => ?_⟩
 ·have := (ne 9 (by omega)).1 q
  omega
 ·have : i = 10 ∨ i = 11 := q.elim (fun q => .inl ((ne 10 (by omega)).1 q)) (fun q => .inr ((ne 11 (by omega)).1 q))
  omega
 ·have := (ne 1 (by omega)).1 q
  omega
 ·exfalso
  rw [r i hi16] at q2
  have e := Int.ofNat.inj q2
  have hc' : c = 3 + 9 * i := by omega
  subst hc'
  rcases hi with ⟨rfl, _⟩ | ⟨rfl | rfl, _⟩ | ⟨rfl, _⟩
  ·rw [show 3 + 9 * 9 + 8 = 92 from rfl, I.k9] at q1; cases q1
  ·rw [show 3 + 9 * 10 + 8 = 101 from rfl, I.k10] at q1; cases q1
  ·rw [show 3 + 9 * 11 + 8 = 110 from rfl, I.k11] at q1; cases q1
  ·rw [show 3 + 9 * 8 + 8 = 83 from rfl, I.k8] at q1; cases q1
end
end Go.Dd

namespace Go.Dd
open Go.Proofs
theorem iP {w : Int} {pl : WT} (h : bM w pl ≠ 0) : dK w pl = true := by
 unfold dK
 split <;> first | rfl | skip
 rw [aIc h]
 simp
theorem uR {w : Int} {pl : WT} {k : Nat} (hk : k < 16000000) (h : dK w pl = true) : dK w (pl.set k (.ofNat 1)) = true := by
 by_cases ha : bM w pl = 0
 ·unfold dK at h ⊢
  by_cases w0 : w = 0
  ·subst w0; rfl
  ·by_cases w2 : w = 2
   ·subst w2; rfl
   ·by_cases w4 : w = 4
    ·subst w4; rfl
    ·split
     ·exact absurd rfl w0
     ·exact absurd rfl w2
     ·exact absurd rfl w4
     ·split at h
      ·exact absurd rfl w0
      ·exact absurd rfl w2
      ·exact absurd rfl w4
      ·rw [ha] at h
       have : cU w = true := by simpa using h
       rw [this]
       rfl
 ·exact iP (by rw [rQ hk ha]; exact ha)
theorem TxO.inj {M : MemV} {c1 c2 o : Int} {s t : List Nat} (h1 : TxO M c1 o s) (h2 : TxO M c2 o t) : s = t := by
 have hl : s.length = t.length := by
  have := h1.hd.symm.trans h2.hd
  have := Int.ofNat.inj this
  omega
 refine List.ext_getElem? fun i => ?_
 rcases Nat.lt_or_ge i s.length with q | q
 ·obtain ⟨c, hc⟩ : ∃ c, s[i]? = some c := ⟨s[i], by simp [q]⟩
  obtain ⟨d, hd⟩ : ∃ d, t[i]? = some d := ⟨t[i]'(by omega), by simp⟩
  have := (h1.get i c hc).symm.trans (h2.get i d hd)
  rw [hc, hd, Int.ofNat.inj this]
 ·rw [List.getElem?_eq_none q, List.getElem?_eq_none (by omega)]
def dFv (M : MemV) (R : List Int) (es : List (DV × DV)) : Prop := ∀ e ∈ es, ∃ s x, e = (.s s, iD x) ∧ TxO M (R.getD 13 0) x s
theorem aVt {es : List (DV × DV)} (s : List Nat) : (∀ e ∈ es, ∃ (k : List Nat) (x : Int), e = (.s k, iD x)) →
  (∃ x, dL .string (.s s) es = some (some (iD x)) ∧ (DV.s s, iD x) ∈ es) ∨ (dL .string (.s s) es = some none ∧ ∀ i, yB .string (.s s) es i = some none) := by
 induction es with
 | nil => exact fun _ => .inr ⟨rfl, fun _ => rfl⟩
 | cons e es ih =>
  intro h
  obtain ⟨k, x, he⟩ := h e (by simp)
  subst he
  cases hk : oU s k with
  | true =>
   have := (kX s k).1 hk
   subst this
   exact .inl ⟨x, by simp only [dL, oR, hk], by simp⟩
  | false =>
   rcases ih fun e he => h e (by simp [he]) with ⟨y, h1, h2⟩ | ⟨h1, h2⟩
   ·exact .inl ⟨y, by simp only [dL, oR, hk]; exact h1, by simp [h2]⟩
   ·exact .inr ⟨by simp only [dL, oR, hk]; exact h1, fun i => by simp only [yB, oR, hk]; exact h2 _⟩
theorem bJg {es l : List (DV × DV)} {k v : DV} (h : dL .string k es = some (some v)) : dL .string k (es ++ l) = some (some v) := by
 induction es with
 | nil => cases h
 | cons e es ih =>
  simp only [List.cons_append, dL] at h ⊢
  split
  ·rename_i hk; rw [hk] at h; exact h
  ·rename_i hk; rw [hk] at h; exact ih h
  ·rename_i hk; rw [hk] at h; cases h
theorem bOy {es : List (DV × DV)} {s : List Nat} {v : DV} (h : dL .string (.s s) es = some none) : dL .string (.s s) (es ++ [(.s s, v)]) = some (some v) := by
 induction es with
 | nil =>
  have : oU s s = true := (kX s s).2 rfl
  simp only [List.nil_append, dL, oR, this]
 | cons e es ih =>
  simp only [List.cons_append, dL] at h ⊢
  split
  ·rename_i hk; rw [hk] at h; cases h
  ·rename_i hk; rw [hk] at h; exact ih h
  ·rename_i hk; rw [hk] at h; cases h
structure Wk (h : Hp) (M : MemV) (R : List Int) (es : List (DV × DV)) : Prop where
 W : Wd h M R es
 G : Good M
 sy : dFv M R es
 r0 : dK (R.getD 0 0) M.pl = true
 rk : ∀ i, i < 16 → bM (R.getD (2 + i) 0) M.pl ≠ 0
structure Stay (k : Nat) (M M' : MemV) (R R' : List Int) (es es' : List (DV × DV)) : Prop where
 n : M'.n = M.n
 fin : M'.fin ≤ M.fin + k
 made : M'.made ≤ M.made + k
 lo : M.fin ≤ M'.fin
 tx : ∀ cls o s, TxO M cls o s → TxO M' cls o s
 at' : ∀ o, bM o M.pl ≠ 0 → bM o M'.pl = bM o M.pl
 r : ∀ i, R'.getD (i + 1) 0 = R.getD (i + 1) 0
 fd : ∀ s v, dL .string (.s s) es = some (some v) → dL .string (.s s) es' = some (some v)
 gi : ∀ CL, GI M R CL → GI M' R' CL
 old : ∀ j, j < M.fin → M'.t.get j = M.t.get j
theorem Stay.refl (k : Nat) (M : MemV) (R : List Int) (es : List (DV × DV)) : Stay k M M R R es es := ⟨rfl, by omega, by omega, by omega, fun _ _ _ h => h, fun _ _ => rfl, fun _ => rfl, fun _ _ h => h, fun _ h => h, fun _ _ => rfl⟩
theorem Stay.trans {a b : Nat} {M M' M2 : MemV} {R R' R2 : List Int} {es es' es2 : List (DV × DV)} (h : Stay a M M' R R' es es') (k : Stay b M' M2 R' R2 es' es2) : Stay (a + b) M M2 R R2 es es2 :=
 ⟨k.n.trans h.n, by have := h.fin; have := k.fin; omega, by have := h.made; have := k.made; omega, by have := h.lo; have := k.lo; omega, fun c o s t => k.tx _ _ _ (h.tx _ _ _ t),
  fun o ho => by have h1 := h.at' o ho; rw [k.at' o (by rw [h1]; exact ho), h1], fun i => (k.r i).trans (h.r i), fun s v e => k.fd s v (h.fd s v e), fun CL I => k.gi CL (h.gi CL I), fun j hj => by rw [k.old j (by have := h.lo; omega)]; exact h.old j hj⟩
theorem Grown.stay {M M' : MemV} {f : Nat} {cls : Int} {l : List Int} (g : Grown M M' f cls l) (G : Good M) (R : List Int) (es : List (DV × DV)) (N : ∀ CL, GI M R CL → NewI M R CL f cls l) : Stay (l.length + 3) M M' R R es es :=
 ⟨g.n, by rw [g.fin]; exact Nat.le_refl _, by rw [g.made]; omega, by rw [g.fin]; omega, fun _ _ _ t => g.txo G t, fun o ho => by rw [g.pl]; exact rQ (by have := G.le; have := G.hi; omega) ho, fun _ => rfl, fun _ _ h => h, fun CL I => g.gi G I (N CL I), fun j hj => g.old j hj⟩
theorem Grown.wk {h h' : Hp} {M M' : MemV} {R : List Int} {es : List (DV × DV)} {f : Nat} {cls : Int} {l : List Int} (g : Grown M M' f cls l) (K : Wk h M R es) (W' : Wd h' M' R es) (hc : bM cls M.pl ≠ 0) (hf : f ≤ 2) (h256 : l.length ≤ 256) (room : M.fin + l.length + 3 ≤ M.n) (hm : M.made < 899999) : Wk h' M' R es := by
 have hk : M.fin < 16000000 := by have := K.G.le; have := K.G.hi; omega
 refine ⟨W', g.good K.G hc hf h256 room hm, fun e he => ?_, by rw [g.pl]; exact uR hk K.r0, fun i hi => by rw [g.pl, rQ hk (K.rk i hi)]; exact K.rk i hi⟩
 obtain ⟨s, x, h1, h2⟩ := K.sy e he
 exact ⟨s, x, h1, g.txo K.G h2⟩
section
variable {h : Hp} {M : MemV} {R : List Int} {es : List (DV × DV)}
theorem Wd.setR0 (W : Wd h M R es) (v : Int) : aI 1 (.p (aM 4) 0) (iD v) h = some (aR, ⟨h.next, Tr.set (.row .ex ((R.set 0 v).map iD)) (aM 4) h.bl⟩) ∧ Wd ⟨h.next, Tr.set (.row .ex ((R.set 0 v).map iD)) (aM 4) h.bl⟩ M (R.set 0 v) es ∧
  Up h ⟨h.next, Tr.set (.row .ex ((R.set 0 v).map iD)) (aM 4) h.bl⟩ := by
 obtain ⟨m1, m2, m3, m4, m5, m6⟩ := kO W.mem
 have ne : ∀ b : Pos, b.toNat ≠ 1027 → (Tr.set (.row .ex ((R.set 0 v).map iD)) (aM 4) h.bl).get b = h.bl.get b := fun b hb => by
  rw [dKb]
  intro e; rw [e, pn4] at hb; exact hb rfl
 refine ⟨?_, ⟨(ne _ (by rw [pn7]; omega)).trans W.w, (by show (Tr.set _ (aM 4) _).get (aM 4) = _; exact dKc _ _ _), by simp [W.rl], (ne _ (by rw [pn5]; omega)).trans W.sy, ?_, W.nx, W.wb, W.pb⟩, ⟨Nat.le_refl _, fun b h1 h2 => ne b (by omega)⟩⟩
 ·have hp : fI 0 (R.map iD) [iD v] = some ((R.set 0 v).map iD) := by
   have hl := W.rl
   cases R with
   | nil => simp at hl
   | cons a l =>
    show jV (iD a :: l.map iD) [iD v] = _
    have : jV (l.map iD) [] = some (l.map iD) := by cases l.map iD <;> rfl
    simp only [jV, DV.one, Bool.and_self, if_true, this, Option.map_some]
    rfl
  have hw : Kind.ex.writable = true := rfl
  simp only [aI, cT, List.length_singleton, if_true, cV, W.r, hw, hp]
 ·exact mY ((ne _ (by rw [pn3]; omega)).trans m1) ((ne _ (by rw [W.wb, pn1]; omega)).trans m2) ((ne _ (by rw [W.pb, pn2]; omega)).trans m3) m4 m5 m6
theorem Wd.setS (W : Wd h M R es) (es' : List (DV × DV)) : Wd ⟨h.next, Tr.set (.mp es') (aM 5) h.bl⟩ M R es' ∧ Up h ⟨h.next, Tr.set (.mp es') (aM 5) h.bl⟩ := by
 obtain ⟨m1, m2, m3, m4, m5, m6⟩ := kO W.mem
 have ne : ∀ b : Pos, b.toNat ≠ 1028 → (Tr.set (.mp es') (aM 5) h.bl).get b = h.bl.get b := fun b hb => by
  rw [dKb]
  intro e; rw [e, pn5] at hb; exact hb rfl
 exact ⟨⟨(ne _ (by rw [pn7]; omega)).trans W.w, (ne _ (by rw [pn4]; omega)).trans W.r, W.rl, (by show (Tr.set _ (aM 5) _).get (aM 5) = _; exact dKc _ _ _),
  mY ((ne _ (by rw [pn3]; omega)).trans m1) ((ne _ (by rw [W.wb, pn1]; omega)).trans m2) ((ne _ (by rw [W.pb, pn2]; omega)).trans m3) m4 m5 m6, W.nx, W.wb, W.pb⟩, ⟨Nat.le_refl _, fun b h1 h2 => ne b (by omega)⟩⟩
theorem Wk.push (K : Wk h M R es) {x y : Int} (hx : dK x M.pl = true) (hy : dK y M.pl = true) (room : M.fin + 5 ≤ M.n) (hm : M.made < 899999) {n : Nat} (hn : 256 < n) :
  ∃ h' M', cK (n + 2) 40 [.p (aM 7) 0, .i .i64 x, .i .i64 y] h = some (.t [.i .i64 (.ofNat (M.fin * 2)), .i .i64 (.ofNat 0)], h') ∧ Wk h' M' R es ∧ Up h h' ∧ Grown M M' 0 (R.getD 11 0) [x, y] := by
 have hk : M.fin < 16000000 := by have := K.G.le; have := K.G.hi; omega
 have fl : aJ [.i .i64 (Int.ofNat 0), .i .i64 (Int.ofNat 0)] 2 [(0, 1, .i .i64 x), (1, 1, .i .i64 y)] h = some (.l h.next 0 2 2, ⟨h.next.succ, Tr.set (.row .ex ([x, y].map iD)) h.next h.bl⟩) := by
  simp [aJ, iZ, cT]
 obtain ⟨U1, W1⟩ := K.W.new (.row .ex ([x, y].map iD))
 have S : SlI (.l h.next 0 2 2) [x, y] ⟨h.next.succ, Tr.set (.row .ex ([x, y].map iD)) h.next h.bl⟩ := .inr ⟨h.next, 2, .ex, rfl, dKc _ _ _, .inr (Nat.le_trans (by decide) K.W.nx), by show _ < (h.next.succ).toNat; rw [dKd]; omega⟩
 have K1 : Wk ⟨h.next.succ, Tr.set (.row .ex ([x, y].map iD)) h.next h.bl⟩ M R es := ⟨W1, K.G, K.sy, K.r0, K.rk⟩
 obtain ⟨h', M', e1, W2, U2, _, g⟩ := W1.make61 K.G (K.rk 9 (by omega)) (f := 0) (by omega) S (by simp) (by simpa using room) (fun v hv => by
  simp only [List.mem_cons, List.not_mem_nil, or_false] at hv
  rcases hv with rfl | rfl
  ·exact uR hk hx
  ·exact uR hk hy) hn
 refine ⟨h', M', ?_, g.wk K1 W2 (K.rk 9 (by omega)) (by omega) (by simp) (by simpa using room) hm, U1.trans U2, g⟩
 rw [mJ 40 rfl, cIf]
 unfold s40
 simp only [g0, g1, g2, aL, K.W.known (show 9 < 16 by omega), fl]
 rw [show (2 : Nat) + 9 = 11 from rfl] at e1 ⊢
 rw [e1]
 simp only [aL, sV, sA]
theorem Wk.symbol (K : Wk h M R es) {s : List Nat} (hs : ∀ c ∈ s, c < 256) (room : M.fin + 70 ≤ M.n) (hm : M.made < 800000) {n : Nat} (hn : 300 < n) :
  ∃ a e h' M' R' es', cK (n + 3) 24 [.p (aM 7) 0, .s s] h = some (.t [.i .i64 a, .i .i64 e], h') ∧ Wk h' M' R' es' ∧ Up h h' ∧ Stay 80 M M' R R' es es' ∧
   ((¬ (1 ≤ s.length ∧ s.length ≤ 60) ∧ e = 1 ∧ a = 0) ∨ ((1 ≤ s.length ∧ s.length ≤ 60) ∧ e = 0 ∧ dL .string (.s s) es' = some (some (iD a)) ∧ TxO M' (R.getD 13 0) a s)) := by
 rw [mJ 24 rfl, cHy]
 unfold s24
 have el : ∀ h, dI (.s s) h = some (.i .i64 (s.length : Int), h) := fun h => rfl
 by_cases c1 : s.length < 1
 ·refine ⟨0, 1, h, M, R, es, ?_, K, Up.refl h, Stay.refl _ _ _ _, .inl ⟨by omega, rfl, rfl⟩⟩
  have d1 : decide ((s.length : Int) < Int.ofNat 1) = true := decide_eq_true (by simp; omega)
  simp only [g0, g1, el, aL, bJ, d1, fJ, jK, bL, aZ]
  rfl
 ·have d1 : decide ((s.length : Int) < Int.ofNat 1) = false := decide_eq_false (by simp; omega)
  by_cases c2 : s.length > 60
  ·refine ⟨0, 1, h, M, R, es, ?_, K, Up.refl h, Stay.refl _ _ _ _, .inl ⟨by omega, rfl, rfl⟩⟩
   have d2 : decide ((s.length : Int) > Int.ofNat 60) = true := decide_eq_true (by simp; omega)
   simp only [g0, g1, el, aL, bJ, cM, d1, d2, fX, bN, aZ]
   rfl
  ·have d2 : decide ((s.length : Int) > Int.ofNat 60) = false := decide_eq_false (by simp; omega)
   have hl : 1 ≤ s.length ∧ s.length ≤ 60 := by omega
   simp only [g0, g1, el, aL, bJ, cM, d1, d2, fX, bN, aV, fU, gL, K.W.l2]
   rcases aVt s (fun e he => by obtain ⟨k, x, h1, _⟩ := K.sy e he; exact ⟨k, x, h1⟩) with ⟨x, f1, f2⟩ | ⟨f1, f2⟩
   ·
    obtain ⟨k, y, e1, T⟩ := K.sy _ f2
    simp only [bO, DV.s.injEq, DV.i.injEq, true_and] at e1
    obtain ⟨rfl, rfl⟩ := e1
    have hx : x ≠ 0 := fun e => T.at0 (by rw [e]; rfl)
    have z1 : (x != Int.ofNat 0) = true := by
     have : (x == Int.ofNat 0) = false := by simpa using hx
     rw [bne, this]; rfl
    have lk : dS .string (.i .i64 (Int.ofNat 0)) false (.m (aM 5)) (.s s) h = some (iD x, h) := by
     simp only [dS, gE, K.W.sy, f1, cond_false]
    refine ⟨x, 0, h, M, R, es, ?_, K, Up.refl h, Stay.refl _ _ _ _, .inr ⟨hl, rfl, f1, T⟩⟩
    simp only [lk, aL, jJ, z1, aZ]
    rfl
   ·
    have lk : dS .string (.i .i64 (Int.ofNat 0)) false (.m (aM 5)) (.s s) h = some (.i .i64 (Int.ofNat 0), h) := by
     simp only [dS, gE, K.W.sy, f1, cond_false]
    have z0 : (Int.ofNat 0 != Int.ofNat 0) = false := rfl
    obtain ⟨h1, M1, e1, W1, U1, g1⟩ := K.W.bytes49 K.G (K.rk 11 (by omega)) hs (by omega) (by omega) hn
    have K1 : Wk h1 M1 R es := g1.wk K W1 (K.rk 11 (by omega)) (by omega) (by simp; omega) (by simp; omega) (by omega)
    have T1 : TxO M1 (R.getD 13 0) (.ofNat (M.fin * 2)) s := g1.new_txo K.G hs (by omega)
    have hf1 := g1.fin
    have hn1 := g1.n
    have hd1 := g1.made
    rw [List.length_map] at hf1
    obtain ⟨h2, M2, e2, K2, U2, g2⟩ := K1.push (x := .ofNat (M.fin * 2)) (y := R.getD 0 0) (iP T1.at0) K1.r0 (by omega) (by omega) (n := n) (by omega)
    have T2 := g2.txo K1.G T1
    have G1 := K1.G
    have ha : bM (.ofNat (M1.fin * 2)) M2.pl = M1.fin := by rw [g2.pl]; exact yQ G1.lo (by have := G1.le; have := G1.hi; omega)
    obtain ⟨e3, W3, U3⟩ := K2.W.setR0 (.ofNat (M1.fin * 2))
    obtain ⟨W4, U4⟩ := W3.setS (es ++ [(.s s, .i .i64 (Int.ofNat 0))])
    obtain ⟨W5, U5⟩ := W4.setS (es ++ [(.s s, .i .i64 (.ofNat (M.fin * 2)))])
    have rset : ∀ i, (R.set 0 (Int.ofNat (M1.fin * 2))).getD (i + 1) 0 = R.getD (i + 1) 0 := fun i => by
     simp [List.getD, List.getElem?_set]
    have me : gG .string (.i .i64 (Int.ofNat 0)) (.m (aM 5)) (.s s) ⟨h2.next, Tr.set (.row .ex ((R.set 0 (Int.ofNat (M1.fin * 2))).map iD)) (aM 4) h2.bl⟩ =
      some (.t [.i .i64 (Int.ofNat 0), .i .i64 (.ofNat es.length)], ⟨h2.next, Tr.set (.mp (es ++ [(.s s, .i .i64 (Int.ofNat 0))])) (aM 5) (Tr.set (.row .ex ((R.set 0 (Int.ofNat (M1.fin * 2))).map iD)) (aM 4) h2.bl)⟩) := by
     simp only [gG, W3.sy, f2]
     rfl
    have ms : eD (.m (aM 5)) (.i .i64 (.ofNat es.length)) (.i .i64 (.ofNat (M.fin * 2))) ⟨h2.next, Tr.set (.mp (es ++ [(.s s, .i .i64 (Int.ofNat 0))])) (aM 5) (Tr.set (.row .ex ((R.set 0 (Int.ofNat (M1.fin * 2))).map iD)) (aM 4) h2.bl)⟩ =
      some (aR, ⟨h2.next, Tr.set (.mp (es ++ [(.s s, .i .i64 (.ofNat (M.fin * 2)))])) (aM 5) (Tr.set (.mp (es ++ [(.s s, .i .i64 (Int.ofNat 0))])) (aM 5) (Tr.set (.row .ex ((R.set 0 (Int.ofNat (M1.fin * 2))).map iD)) (aM 4) h2.bl))⟩) := by
     have q1 : (es ++ [(DV.s s, DV.i .i64 (Int.ofNat 0))])[es.length]? = some (.s s, .i .i64 (Int.ofNat 0)) := by simp
     have q2 : (es ++ [(DV.s s, DV.i .i64 (Int.ofNat 0))]).set es.length (.s s, .i .i64 (.ofNat (M.fin * 2))) = es ++ [(.s s, .i .i64 (.ofNat (M.fin * 2)))] := by simp
     simp only [eD, W4.sy, q1, q2]
    have ix : ∀ h, aF 1 (.l (aM 4) 0 18 18) (.i .i64 (Int.ofNat 0)) h = some (.p (aM 4) 0, h) := fun h => rfl
    refine ⟨.ofNat (M.fin * 2), 0, _, M2, R.set 0 (.ofNat (M1.fin * 2)), es ++ [(.s s, .i .i64 (.ofNat (M.fin * 2)))], ?_, ⟨W5, K2.G, ?_, ?_, ?_⟩, (((U1.trans U2).trans U3).trans U4).trans U5, ?_, .inr ⟨hl, rfl, bOy f1, T2⟩⟩
    ·simp only [lk, aL, jJ, z0, aV, K.W.known (show 11 < 16 by omega), show 2 + 11 = 13 from rfl, e1, sV, sA, K1.W.l1, ix, fU, gL, K1.W.root (show 0 < 18 by omega), e2, K2.W.l1, K2.W.l2, e3, me, ms]
     rfl
    ·intro e he
     simp only [List.mem_append, List.mem_singleton] at he
     rcases he with he | rfl
     ·obtain ⟨k, y, q1, q2⟩ := K2.sy e he
      exact ⟨k, y, q1, by rw [show (13 : Nat) = 12 + 1 from rfl, rset]; exact q2⟩
     ·exact ⟨s, _, rfl, by rw [show (13 : Nat) = 12 + 1 from rfl, rset]; exact T2⟩
    ·have : (R.set 0 (Int.ofNat (M1.fin * 2))).getD 0 0 = Int.ofNat (M1.fin * 2) := by
      have hrl := K.W.rl
      cases R with
      | nil => simp at hrl
      | cons a l => rfl
     rw [this]
     exact iP (by rw [ha]; have := G1.lo; omega)
    ·intro i hi
     rw [show 2 + i = (1 + i) + 1 by omega, rset, show (1 + i) + 1 = 2 + i by omega]
     exact K2.rk i hi
    ·have st := (g1.stay K.G R es (fun CL I => I.newK (i := 11) (.inr (.inl ⟨.inr rfl, rfl⟩)) (by rw [List.length_map]; omega) (fun _ v hv => by obtain ⟨c, q1, q2⟩ := List.mem_map.1 hv; exact ⟨c, hs c q1, q2.symm⟩))).trans (g2.stay K1.G R es (fun CL I => I.newK (i := 9) (.inl ⟨rfl, rfl⟩) (by simp) (fun q => by cases q)))
     rw [List.length_map] at st
     have hf2 := g2.fin
     have hd2 := g2.made
     refine ⟨st.n, ?_, ?_, st.lo, st.tx, st.at', rset, fun k v e => bJg e, fun CL I => (st.gi CL I).roots rset, st.old⟩
     ·simp at hf2; omega
     ·omega
theorem Wk.string (K : Wk h M R es) {s : List Nat} (hs : ∀ c ∈ s, c < 256) (room : M.fin + 260 ≤ M.n) (hm : M.made < 800000) {n : Nat} (hn : 300 < n) :
  ∃ a e h' M', cK (n + 3) 23 [.p (aM 7) 0, .s s] h = some (.t [.i .i64 a, .i .i64 e], h') ∧ Wk h' M' R es ∧ Up h h' ∧ Stay 260 M M' R R es es ∧
   ((¬ s.length ≤ 250 ∧ e = 1 ∧ a = 0) ∨ (s.length ≤ 250 ∧ e = 0 ∧ a = .ofNat (M.fin * 2) ∧ TxO M' (R.getD 12 0) a s)) := by
 rw [mJ 23 rfl, cHn]
 unfold s23
 have el : ∀ h, dI (.s s) h = some (.i .i64 (s.length : Int), h) := fun h => rfl
 by_cases c1 : s.length > 250
 ·refine ⟨0, 1, h, M, ?_, K, Up.refl h, Stay.refl _ _ _ _, .inl ⟨by omega, rfl, rfl⟩⟩
  have d1 : decide ((s.length : Int) > Int.ofNat 250) = true := decide_eq_true (by simp; omega)
  simp only [g0, g1, el, aL, cM, d1, aZ]
  rfl
 ·have d1 : decide ((s.length : Int) > Int.ofNat 250) = false := decide_eq_false (by simp; omega)
  obtain ⟨h1, M1, e1, W1, U1, g1⟩ := K.W.bytes49 K.G (K.rk 10 (by omega)) hs (by omega) (by omega) hn
  have K1 : Wk h1 M1 R es := g1.wk K W1 (K.rk 10 (by omega)) (by omega) (by simp; omega) (by simp; omega) (by omega)
  have T1 : TxO M1 (R.getD 12 0) (.ofNat (M.fin * 2)) s := g1.new_txo K.G hs (by omega)
  refine ⟨.ofNat (M.fin * 2), 0, h1, M1, ?_, K1, U1, ?_, .inr ⟨by omega, rfl, rfl, T1⟩⟩
  ·simp only [g0, Dd.g1, el, aL, cM, d1, aV, K.W.known (show 10 < 16 by omega), show 2 + 10 = 12 from rfl, e1, sV, sA]
   rfl
  ·have st := g1.stay K.G R es (fun CL I => I.newK (i := 10) (.inr (.inl ⟨.inl rfl, rfl⟩)) (by rw [List.length_map]; omega) (fun _ v hv => by obtain ⟨c, q1, q2⟩ := List.mem_map.1 hv; exact ⟨c, hs c q1, q2.symm⟩))
   rw [List.length_map] at st
   exact ⟨st.n, by have := st.fin; omega, by have := st.made; omega, st.lo, st.tx, st.at', st.r, st.fd, st.gi, st.old⟩
end
end Go.Dd

namespace Go.Dd
open Go.Proofs
noncomputable def byE (t : WT) (s : List Nat) : Nat → Bool := List.rec (motive := fun _ => Nat → Bool) (fun _ => true) (fun c _ ih a => Nat.blt c 256 && (gY (t.get a) (.ofNat c) && ih (Nat.add a 1))) s
noncomputable def bSr (M : MemV) (cls : Int) (e : List Nat × Nat) : Bool :=
 !(Nat.beq (bM (.ofNat e.2) M.pl) 0) && (gY (M.t.get (bM (.ofNat e.2) M.pl)) (.ofNat (Nat.add (Nat.mul e.1.length 4) 2)) && (gY (M.t.get (Nat.add (bM (.ofNat e.2) M.pl) 1)) cls && (Nat.ble e.1.length 256 && byE M.t e.1 (Nat.add (bM (.ofNat e.2) M.pl) 3))))
theorem bRn (t : WT) : ∀ (s : List Nat) (a : Nat), byE t s a = true → (∀ c ∈ s, c < 256) ∧ ∀ i c, s[i]? = some c → t.get (a + i) = .ofNat c
 | [], a, _ => ⟨by simp, fun i c h => by simp at h⟩
 | c :: s, a, h => by
  change (Nat.blt c 256 && (gY (t.get a) (.ofNat c) && byE t s (a + 1))) = true at h
  simp only [Bool.and_eq_true, gF, decide_eq_true_eq] at h
  obtain ⟨h1, h2⟩ := bRn t s (a + 1) h.2.2
  refine ⟨fun d hd => ?_, fun i d hi => ?_⟩
  ·simp only [List.mem_cons] at hd
   rcases hd with rfl | hd
   ·exact h.1
   ·exact h1 d hd
  ·cases i with
   | zero =>
    simp only [List.getElem?_cons_zero, bC] at hi
    subst hi
    exact oN _ _ h.2.1
   | succ i =>
    rw [show a + (i + 1) = a + 1 + i by omega]
    exact h2 i d (by simpa using hi)
theorem aVv {M : MemV} {cls : Int} {e : List Nat × Nat} (h : bSr M cls e = true) : TxO M cls (.ofNat e.2) e.1 := by
 unfold bSr at h
 simp only [Bool.and_eq_true, jN, decide_eq_true_eq] at h
 obtain ⟨h1, h2, h3, h4, h5⟩ := h
 obtain ⟨b1, b2⟩ := bRn _ _ _ h5
 refine ⟨fun e => (by rw [e] at h1; cases h1), oN _ _ h2, oN _ _ h3, b1, h4, b2⟩
noncomputable def cWe (p : List Nat × Nat → Bool) (l : List (List Nat × Nat)) : Bool := List.rec (motive := fun _ => Bool) true (fun x _ ih => p x && ih) l
theorem aLk {p : List Nat × Nat → Bool} : ∀ {l : List (List Nat × Nat)}, cWe p l = true → ∀ a ∈ l, p a = true
 | [], _, a, h => by cases h
 | x :: l, hl, a, h => by
  change (p x && cWe p l) = true at hl
  simp only [Bool.and_eq_true] at hl
  simp only [List.mem_cons] at h
  rcases h with rfl | h
  ·exact hl.1
  ·exact aLk hl.2 a h
theorem aAg : ∀ (l : List (List Nat × Nat)) (e : DV × DV), e ∈ aZv l → ∃ x ∈ l, e = (.s x.1, .i .i64 (.ofNat x.2))
 | [], e, h => by cases h
 | x :: l, e, h => by
  change e ∈ (DV.s x.1, DV.i .i64 (.ofNat x.2)) :: aZv l at h
  simp only [List.mem_cons] at h
  rcases h with rfl | h
  ·exact ⟨x, by simp, rfl⟩
  ·obtain ⟨y, h1, h2⟩ := aAg l e h
   exact ⟨y, by simp [h1], h2⟩
theorem bWg : cWe (bSr MN (RN.getD 13 0)) syN = true := by kernel_rfl
theorem KN : Wk hW MN RN esN := ⟨WN, GN, fun e he => by
 obtain ⟨x, h1, h2⟩ := aAg syN e he
 exact ⟨x.1, _, h2, aVv (aLk bWg x h1)⟩, by kernel_rfl, dCd⟩
theorem bXu (s t : List Nat) (h : Hp) : dA .neq (.s s) (.s t) h = some (.b (!oU s t), h) := rfl
theorem oB (s t : List Nat) (h : Hp) : dA .eql (.s s) (.s t) h = some (.b (oU s t), h) := rfl
theorem rT (s : List Nat) (h : Hp) : dI (.s s) h = some (.i .i64 (s.length : Int), h) := rfl
theorem rE (s : List Nat) : oU s s = true := (kX s s).2 rfl
end Go.Dd

namespace Go.Dd
open Go.Proofs
theorem bAq (x : Int) : gY x x = true := by
 cases x with
 | ofNat n => exact Nat.beq_refl n
 | negSucc n => exact Nat.beq_refl n
theorem dJ (x y : Int) : gY x y = true ↔ x = y := ⟨oN x y, fun e => by rw [e]; exact bAq y⟩
noncomputable def bLc (p : Nat → Bool) (n : Nat) : Bool := Nat.rec (motive := fun _ => Bool) true (fun i ih => p i && ih) n
theorem uU {p : Nat → Bool} : ∀ {n : Nat}, bLc p n = true → ∀ i, i < n → p i = true
 | 0, _, i, h => by omega
 | n + 1, hl, i, h => by
  change (p n && bLc p n) = true at hl
  simp only [Bool.and_eq_true] at hl
  by_cases e : i = n
  ·rw [e]; exact hl.1
  ·exact uU hl.2 i (by omega)
noncomputable def cAo (a : Nat) (l : List Nat) : Bool := List.rec (motive := fun _ => Bool) false (fun x _ ih => Nat.beq a x || ih) l
theorem aAi {a : Nat} : ∀ {l : List Nat}, cAo a l = true → a ∈ l
 | [], h => by cases h
 | x :: l, h => by
  change (Nat.beq a x || cAo a l) = true at h
  simp only [Bool.or_eq_true] at h
  rcases h with h | h
  ·rw [Nat.eq_of_beq_eq_true h]; exact List.mem_cons_self
  ·exact List.mem_cons_of_mem _ (aAi h)
noncomputable def byB (v : Int) : Bool := match v with
 | .ofNat c => Nat.blt c 256
 | .negSucc _ => false
noncomputable def aQo (a b : Bool) : Bool := bif a then b else true
theorem lS {a b : Bool} (h : aQo a b = true) (ha : a = true) : b = true := by rw [ha] at h; exact h
noncomputable def obB (M : MemV) (R : List Int) (CL : List Nat) (a hd : Nat) : Bool :=
 Nat.ble (Nat.div hd 4) 256 && (Nat.ble (Nat.mod hd 4) 2 && (aQo (gY (M.t.get (Nat.add a 1)) (R.getD 11 0)) (Nat.beq (Nat.mod hd 4) 0) &&
  (aQo (gY (M.t.get (Nat.add a 1)) (R.getD 12 0)) (Nat.beq (Nat.mod hd 4) 2) && (aQo (gY (M.t.get (Nat.add a 1)) (R.getD 13 0)) (Nat.beq (Nat.mod hd 4) 2) &&
  (aQo (Nat.beq (Nat.mod hd 4) 2) (bLc (fun i => byB (M.t.get (Nat.add (Nat.add a 3) i))) (Nat.div hd 4)) && (aQo (gY (M.t.get (Nat.add a 1)) (R.getD 3 0)) (cAo a CL) &&
  wM (fun c => aQo (gY (M.t.get (Nat.add c 8)) 1) (!(gY (M.t.get (Nat.add a 1)) (.ofNat (Nat.mul 2 c))))) CL))))))
theorem cMz {M : MemV} {R : List Int} {CL : List Nat} {a hd : Nat} (h : obB M R CL a hd = true) : ObI M R CL a hd := by
 unfold obB at h
 simp only [Bool.and_eq_true, jN, decide_eq_true_eq] at h
 obtain ⟨h1, h2, h3, h4, h5, h6, h7, h8⟩ := h
 refine ⟨h1, h2, fun q => ?_, fun q => ?_, fun q i hi => ?_, fun q => ?_, fun _ c hc q1 q2 => ?_⟩
 ·exact Nat.eq_of_beq_eq_true (lS h3 ((dJ _ _).2 q))
 ·rcases q with q | q
  ·exact Nat.eq_of_beq_eq_true (lS h4 ((dJ _ _).2 q))
  ·exact Nat.eq_of_beq_eq_true (lS h5 ((dJ _ _).2 q))
 ·have hb := uU (lS h6 (show Nat.beq (Nat.mod hd 4) 2 = true by rw [show Nat.mod hd 4 = 2 from q]; rfl)) i hi
  change byB (M.t.get (a + 3 + i)) = true at hb
  cases hv : M.t.get (a + 3 + i) with
  | ofNat c => rw [hv] at hb; exact ⟨c, by simpa [byB, gF] using hb, rfl⟩
  | negSucc c => rw [hv] at hb; cases hb
 ·exact aAi (lS h7 ((dJ _ _).2 q))
 ·exfalso
  have q3 := lS (gA h8 c hc) ((dJ _ _).2 q1)
  rw [(dJ _ _).2 (show M.t.get (Nat.add a 1) = .ofNat (Nat.mul 2 c) from q2)] at q3
  cases q3
noncomputable def aBh (M : MemV) (a : Nat) (p : Nat → Bool) : Bool := match M.t.get a with
 | .ofNat hd => p hd
 | .negSucc _ => true
noncomputable def clB (M : MemV) (R : List Int) (c : Nat) : Bool :=
 Nat.ble 3 c && (Nat.ble c 131072 && (!(gY (M.pl.get c) 0) && (gY (M.t.get c) (.ofNat 24) && (gY (M.t.get (Nat.add c 1)) (R.getD 3 0) &&
  (aBh M (Nat.add c 5) (fun s => Nat.ble s 33 && Nat.beq (Nat.mod s 2) 1) && (aBh M (Nat.add c 8) (fun s => Nat.ble s 7 && Nat.beq (Nat.mod s 2) 1) && (byB (M.t.get (Nat.add c 5)) && byB (M.t.get (Nat.add c 8)))))))))
noncomputable def nmB (M : MemV) (R : List Int) (sy : List (List Nat × Nat)) (c : Nat) : Bool :=
 List.rec (motive := fun _ => Bool) false (fun e _ ih => (gY (M.t.get (Nat.add c 3)) (.ofNat e.2) && (bSr M (R.getD 13 0) e && (Nat.ble 1 e.1.length && Nat.ble e.1.length 60))) || ih) sy
theorem bKf {M : MemV} {R : List Int} {c : Nat} : ∀ {sy : List (List Nat × Nat)}, nmB M R sy c = true → ∃ s, TxO M (R.getD 13 0) (M.t.get (c + 3)) s ∧ 1 ≤ s.length ∧ s.length ≤ 60
 | [], h => by cases h
 | e :: sy, h => by
  change ((gY (M.t.get (c + 3)) (.ofNat e.2) && (bSr M (R.getD 13 0) e && (Nat.ble 1 e.1.length && Nat.ble e.1.length 60))) || nmB M R sy c) = true at h
  simp only [Bool.or_eq_true] at h
  rcases h with h | h
  ·simp only [Bool.and_eq_true, jN, decide_eq_true_eq] at h
   obtain ⟨q1, q2, q3, q4⟩ := h
   exact ⟨e.1, by rw [(dJ _ _).1 q1]; exact aVv q2, q3, q4⟩
  ·exact bKf h
theorem cWf {M : MemV} {R : List Int} {c : Nat} {sy : List (List Nat × Nat)} (h : clB M R c = true) (hn : nmB M R sy c = true) : ClI M R c := by
 unfold clB at h
 simp only [Bool.and_eq_true, jN, decide_eq_true_eq] at h
 obtain ⟨h1, h2, h3, h4, h5, h6, h7, h8, h9⟩ := h
 have num : ∀ (j m : Nat), aBh M (c + j) (fun s => decide (s ≤ 2 * m + 1) && Nat.beq (Nat.mod s 2) 1) = true → byB (M.t.get (c + j)) = true → ∃ z : Nat, z ≤ m ∧ M.t.get (c + j) = .ofNat (2 * z + 1) := fun j m q1 q2 => by
  cases hv : M.t.get (c + j) with
  | negSucc x => rw [hv] at q2; cases q2
  | ofNat x =>
   unfold aBh at q1
   rw [hv] at q1
   simp only [Bool.and_eq_true, decide_eq_true_eq] at q1
   have e : x % 2 = 1 := Nat.eq_of_beq_eq_true q1.2
   exact ⟨x / 2, by omega, by rw [show 2 * (x / 2) + 1 = x by omega]⟩
 refine ⟨⟨h1, h2⟩, fun e => ?_, (dJ _ _).1 h4, (dJ _ _).1 h5, bKf hn, num 5 16 h6 h8, num 8 3 h7 h9⟩
 rw [e] at h3
 cases h3
noncomputable def djB (M : MemV) (l : List Nat) : Nat → Bool := List.rec (motive := fun _ => Nat → Bool) (fun _ => true) (fun a _ ih lo => Nat.ble lo a && (match M.t.get a with
 | .ofNat hd => ih (Nat.add (Nat.add a 3) (Nat.div hd 4))
 | .negSucc _ => false)) l
theorem bPw {M : MemV} : ∀ {l : List Nat} {lo : Nat}, djB M l lo = true → (∀ a ∈ l, lo ≤ a) ∧ ∀ a ∈ l, ∀ b ∈ l, a < b → ∀ hd : Nat, M.t.get a = .ofNat hd → a + 3 + hd / 4 ≤ b
 | [], lo, h => ⟨fun a ha => (by cases ha), fun a ha => (by cases ha)⟩
 | x :: l, lo, h => by
  change (Nat.ble lo x && (match M.t.get x with
   | .ofNat hd => djB M l (x + 3 + hd / 4)
   | .negSucc _ => false)) = true at h
  simp only [Bool.and_eq_true, jN, decide_eq_true_eq] at h
  obtain ⟨h1, h2⟩ := h
  cases hx : M.t.get x with
  | negSucc k => rw [hx] at h2; cases h2
  | ofNat k =>
   rw [hx] at h2
   obtain ⟨i1, i2⟩ := bPw (l := l) h2
   refine ⟨fun a ha => ?_, fun a ha b hb hab hd hh => ?_⟩
   ·rcases List.mem_cons.1 ha with rfl | ka
    ·exact h1
    ·have := i1 a ka
     omega
   ·rcases List.mem_cons.1 ha with rfl | ka
    ·rcases List.mem_cons.1 hb with rfl | kb
     ·omega
     ·rw [hx] at hh
      cases hh
      exact i1 b kb
    ·rcases List.mem_cons.1 hb with rfl | kb
     ·have := i1 a ka
      omega
     ·exact i2 a ka b kb hab hd hh
noncomputable def giB (M : MemV) (R : List Int) (CL : List Nat) (pls : List Nat) (sy : List (List Nat × Nat)) : Bool :=
 djB M pls 0 && (gY (M.t.get 0) 0 && (gY (M.t.get 1) 0 && (wM (fun a => aBh M a (obB M R CL a)) pls && (wM (fun c => clB M R c && nmB M R sy c) CL &&
  (bLc (fun i => gY (R.getD (Nat.add 2 i) 0) (.ofNat (Nat.add 6 (Nat.mul 18 i)))) 16 && (bLc (fun i => cAo (Nat.add 3 (Nat.mul 9 i)) CL) 16 &&
  (gY (M.t.get 92) 3 && (gY (M.t.get 101) 5 && (gY (M.t.get 110) 5 && (gY (M.t.get 83) 7 && gY (M.t.get 20) 7))))))))))
theorem cKu {M : MemV} {R : List Int} {CL : List Nat} {pls : List Nat} {sy : List (List Nat × Nat)} (hp : M.pl = mkP pls .e) (hb : ∀ x ∈ pls, x < 16000000) (h : giB M R CL pls sy = true) : GI M R CL := by
 unfold giB at h
 simp only [Bool.and_eq_true] at h
 obtain ⟨h0, h1, h2, h3, h4, h5, h6, h7, h8, h9, h10, h11⟩ := h
 have mem : ∀ a, M.pl.get a ≠ 0 → a ∈ pls := fun a ha => by
  rw [hp] at ha
  rcases qK pls .e a hb ha with q | q
  ·exact q
  ·exact absurd rfl q
 refine ⟨(dJ _ _).1 h1, (dJ _ _).1 h2, fun a ha hd hh => ?_, fun a b ha hb' => (bPw h0).2 a (mem a ha) b (mem b hb'), fun c hc => ?_, fun i hi => (dJ _ _).1 (uU h5 i hi), fun i hi => aAi (uU h6 i hi), (dJ _ _).1 h7, (dJ _ _).1 h8, (dJ _ _).1 h9, (dJ _ _).1 h10, (dJ _ _).1 h11⟩
 ·have hm : a ∈ pls := by
   rw [hp] at ha
   rcases qK pls .e a hb ha with q | q
   ·exact q
   ·exact absurd rfl q
  have q := gA h3 a hm
  unfold aBh at q
  rw [hh] at q
  exact cMz q
 ·have q := gA h4 c hc
  simp only [Bool.and_eq_true] at q
  exact cWf q.1 q.2
def CLW : List Nat := [3, 12, 21, 30, 39, 48, 57, 66, 75, 84, 93, 102, 111, 120, 129, 138, 4357, 4385]
theorem bWp : giB MN RN CLW plN syN = true := by kernel_rfl
theorem bIv : wM (fun x => Nat.blt x 16000000) plN = true := by kernel_rfl
theorem GIN : GI MN RN CLW := cKu bOq (fun x hx => by have := gA bIv x hx; simpa [gF] using this) bWp
end Go.Dd

namespace Go.Dd
open Go.Proofs
noncomputable def cE (M : MemV) (o : Int) : Nat := match M.t.get (bM o M.pl) with
 | .ofNat hd => hd
 | .negSucc _ => 0
noncomputable def dV (M : MemV) (o : Int) (i : Nat) : Int := if bM o M.pl ≠ 0 ∧ i < cE M o / 4 then M.t.get (bM o M.pl + 3 + i) else 0
noncomputable def cW (M : MemV) (o : Int) : Int := M.t.get (bM o M.pl + 1)
noncomputable def isC (M : MemV) (R : List Int) (c : Int) : Bool := decide (bM c M.pl ≠ 0 ∧ cW M c = R.getD 3 0)
noncomputable def bZh (w : Int) : Int := if cU w = true then nJ w else 0
noncomputable def jH (M : MemV) (R : List Int) (c : Int) : Int := if isC M R c = true then bZh (dV M c 5) else -1
noncomputable def jG (M : MemV) (R : List Int) (x : Int) : Option Int := if cU x = true then some (nJ x) else if (bM x M.pl ≠ 0 ∧ cW M x = R.getD 10 0) ∧ cE M x % 4 = 1 then some (dV M x 0) else none
def isTx (M : MemV) (R : List Int) (x : Int) : Prop := bM x M.pl ≠ 0 ∧ (cW M x = R.getD 12 0 ∨ cW M x = R.getD 13 0)
section
variable {h : Hp} {M : MemV} {R : List Int} {es : List (DV × DV)} {CL : List Nat} {z : Prop}
theorem aXk {M : MemV} {o : Int} (h : bM o M.pl ≠ 0) : M.pl.get (bM o M.pl) ≠ 0 := by
 rcases mR o M.pl with e | ⟨e, _⟩
 ·exact absurd e h
 ·have := (atN_pos (o := o) (pl := M.pl)).1 h
  rw [e]
  exact this.2
theorem GI.head (I : GI M R CL z) (G : Good M) (o : Int) (k : Nat → aG) : iK M o k = k (cE M o) := by
 by_cases e : bM o M.pl = 0
 ·have b1 : Nat.blt (Nat.add (bM o M.pl) 1) M.n = true := by
   rw [gF, e]
   have := G.lo; have := G.le
   exact decide_eq_true (show 0 + 1 < M.n by omega)
  unfold iK cE
  rw [b1, e, I.z0]
  rfl
 ·obtain ⟨h3, hd, h1, h2, h4, _⟩ := G.ob _ (aXk e)
  have hl := G.le
  have b1 : Nat.blt (Nat.add (bM o M.pl) 1) M.n = true := by
   rw [gF]; exact decide_eq_true (show bM o M.pl + 1 < M.n by omega)
  have b2 : Nat.blt hd 1000000000000 = true := by rw [gF]; exact decide_eq_true h2
  unfold iK cE
  rw [b1, h1]
  simp only [cond_true, b2]
theorem GI.headOb (I : GI M R CL z) (G : Good M) {o : Int} (e : bM o M.pl ≠ 0) : M.t.get (bM o M.pl) = .ofNat (cE M o) ∧ ObI M R CL (bM o M.pl) (cE M o) z ∧ bM o M.pl + 3 + cE M o / 4 ≤ M.fin ∧ 3 ≤ bM o M.pl := by
 obtain ⟨h3, hd, h1, h2, h4, _⟩ := G.ob _ (aXk e)
 have eh : cE M o = hd := by unfold cE; rw [h1]
 rw [eh]
 exact ⟨h1, I.ob _ (aXk e) _ h1, h4, h3⟩
theorem Wd.clsA (W : Wd h M R es) (G : Good M) (I : GI M R CL z) (o : Int) : jL [.p (aM 3) 0, .i .i64 o] h = some (iD (cW M o), h) := by
 simp only [jL, iS, W.mem, I.head G, Nat.add_eq, cW]
theorem Wd.fmtA (W : Wd h M R es) (G : Good M) (I : GI M R CL z) (o : Int) : iW [.p (aM 3) 0, .i .i64 o] h = some (.i .i64 (.ofNat (cE M o % 4)), h) := by
 simp only [iW, iS, W.mem, I.head G]
 rfl
theorem Wd.fieldsA (W : Wd h M R es) (G : Good M) (I : GI M R CL z) (o : Int) : hZ [.p (aM 3) 0, .i .i64 o] h = some (.i .i64 (.ofNat (cE M o / 4)), h) := by
 simp only [hZ, iS, W.mem, I.head G]
 rfl
theorem Wd.getA (W : Wd h M R es) (G : Good M) (I : GI M R CL z) (o : Int) (i : Nat) : ∃ e, sZ [.p (aM 3) 0, .i .i64 o, .i .i64 (.ofNat i)] h = some (.t [iD (dV M o i), iD e], h) ∧ (e = 0 ↔ (bM o M.pl ≠ 0 ∧ i < cE M o / 4)) := by
 unfold dV
 by_cases e : bM o M.pl = 0
 ·refine ⟨1, ?_, by simp [e]⟩
  rw [if_neg (by simp [e])]
  simp only [sZ, iS, W.mem, gR, e, err]
  rfl
 ·obtain ⟨h1, _, h4, h3⟩ := I.headOb G e
  have hl := G.le
  by_cases hi : i < cE M o / 4
  ·refine ⟨0, ?_, by simp [e, hi]⟩
   rw [if_pos ⟨e, hi⟩]
   have b1 : Nat.ble (Nat.div (cE M o) 4) i = false := by
    rw [jN]; exact decide_eq_false (show ¬ (cE M o / 4 ≤ i) by omega)
   have b2 : Nat.blt (Nat.add (Nat.add (bM o M.pl) 3) i) M.n = true := by
    rw [gF]; exact decide_eq_true (show bM o M.pl + 3 + i < M.n by omega)
   simp only [sZ, iS, W.mem, gR, aIc e, cond_false, I.head G, b1, b2, cond_true]
   rfl
  ·refine ⟨5, ?_, by simp [hi]⟩
   rw [if_neg (by simp [hi])]
   have b1 : Nat.ble (Nat.div (cE M o) 4) i = true := by
    rw [jN]; exact decide_eq_true (show cE M o / 4 ≤ i by omega)
   simp only [sZ, iS, W.mem, gR, aIc e, cond_false, I.head G, b1, cond_true, err]
   rfl
theorem Wd.getG (W : Wd h M R es) (G : Good M) (I : GI M R CL z) (o : Int) (i n : Nat) : cK (n + 1) 75 [.p (aM 7) 0, .i .i64 o, .i .i64 (.ofNat i)] h = some (iD (dV M o i), h) := by
 rw [mJ 75 rfl, bKz]
 unfold s75
 obtain ⟨e, h1, _⟩ := W.getA G I o i
 have g2 : ∀ (a b c : DV) (l : List DV), (a :: b :: c :: l).getD 2 aR = c := fun _ _ _ _ => rfl
 simp only [g0, g1, g2, fU, gL, aL, W.l00, h1, sV, sA]
theorem Wd.isClass (W : Wd h M R es) (G : Good M) (I : GI M R CL z) (c : Int) (n : Nat) : cK (n + 2) 73 [.p (aM 7) 0, .i .i64 c] h = some (.b (isC M R c), h) := by
 rw [mJ 73 rfl, cIs]
 unfold s73
 by_cases e : bM c M.pl = 0
 ·have b : (!(Nat.beq (bM c M.pl) 0)) = false := by rw [e]; rfl
  have d : isC M R c = false := decide_eq_false (fun q => q.1 e)
  simp only [g0, g1, fU, gL, aL, W.l00, W.is, b, gM, jK, bN, d]
 ·have b : (!(Nat.beq (bM c M.pl) 0)) = true := by rw [aIc e]; rfl
  have k : cK (n + 1) 27 [.p (aM 7) 0, .i .i64 (Int.ofNat 1)] h = some (iD (R.getD 3 0), h) := W.known (show 1 < 16 by omega) n
  by_cases e2 : cW M c = R.getD 3 0
  ·have d : isC M R c = true := decide_eq_true ⟨e, e2⟩
   obtain ⟨h1, O, _, _⟩ := I.headOb G e
   have hm := O.cls e2
   have h6 : cE M c / 4 = 6 := by
    have := (I.cl _ hm).hd
    rw [h1] at this
    have := Int.ofNat.inj this
    omega
   have z : (Int.ofNat 6 == Int.ofNat 6) = true := rfl
   have zz : (cW M c == R.getD 3 0) = true := by rw [e2]; exact beq_self_eq_true _
   simp only [g0, g1, fU, gL, aL, W.l00, W.is, b, fT, W.clsA G I, k, bI, zz, bL, W.fieldsA G I, h6, z, d]
  ·have d : isC M R c = false := decide_eq_false (fun q => e2 q.2)
   have zz : (cW M c == R.getD 3 0) = false := by simpa using e2
   simp only [g0, g1, fU, gL, aL, W.l00, W.is, b, fT, W.clsA G I, k, bI, zz, bL, bN, gM, jK, d]
theorem dCn (w : Int) (h : Hp) : kH [.i .i64 w] h = some (iD (bZh w), h) := by
 show ((bif cU w then some (DV.i .i64 (nJ w), h) else some (DV.i .i64 (.ofNat 0), h)) : aG) = _
 unfold bZh
 cases cU w <;> rfl
theorem Wd.kind (W : Wd h M R es) (G : Good M) (I : GI M R CL z) (c : Int) (n : Nat) : cK (n + 3) 44 [.p (aM 7) 0, .i .i64 c] h = some (iD (jH M R c), h) := by
 rw [mJ 44 rfl, cJs]
 unfold s44 jH
 cases hc : isC M R c with
 | false => simp only [g0, g1, W.isClass G I c n, hc, aL, gT, Bool.not_false, aZ]; rfl
 | true => simp only [g0, g1, W.isClass G I c n, hc, aL, gT, Bool.not_true, aV, W.getG G I c 5 (n + 1), dCn, if_true]
theorem Wd.value (W : Wd h M R es) (G : Good M) (I : GI M R CL z) (x : Int) (n : Nat) : cK (n + 2) 49 [.p (aM 7) 0, .i .i64 x] h = some (.t [iD ((jG M R x).getD 0), .b (jG M R x).isSome], h) := by
 rw [mJ 49 rfl, cHq]
 unfold s49 jG
 cases hs : cU x with
 | true =>
  have e1 : ∀ h, eW [.i .i64 x] h = some (.b true, h) := fun h => by rw [eW, hs]
  have e2 : ∀ h, kH [.i .i64 x] h = some (iD (nJ x), h) := fun h => by rw [dCn, bZh, hs]; rfl
  simp only [g0, g1, e1, e2, aL, aZ, if_true, Option.getD_some, Option.isSome_some]
 | false =>
  have e1 : ∀ h, eW [.i .i64 x] h = some (.b false, h) := fun h => by rw [eW, hs]
  have k : cK (n + 1) 27 [.p (aM 7) 0, .i .i64 (Int.ofNat 8)] h = some (iD (R.getD 10 0), h) := W.known (show 8 < 16 by omega) n
  simp only [Bool.false_eq_true, if_false]
  by_cases e : bM x M.pl = 0
  ·have b : (!(Nat.beq (bM x M.pl) 0)) = false := by rw [e]; rfl
   rw [if_neg (fun q => q.1.1 e)]
   simp only [g0, g1, e1, aL, aV, fU, gL, W.l00, W.is, b, gM, jK, bN]
   rfl
  ·have b : (!(Nat.beq (bM x M.pl) 0)) = true := by rw [aIc e]; rfl
   by_cases e2 : cW M x = R.getD 10 0
   ·have zz : (cW M x == R.getD 10 0) = true := by rw [e2]; exact beq_self_eq_true _
    by_cases e3 : cE M x % 4 = 1
    ·have z3 : (Int.ofNat (cE M x % 4) == Int.ofNat 1) = true := by rw [e3]; rfl
     rw [if_pos ⟨⟨e, e2⟩, e3⟩]
     simp only [g0, g1, e1, aL, aV, fU, gL, W.l00, W.is, b, fT, W.clsA G I, k, bI, zz, bL, W.fmtA G I, z3, aZ, W.getG G I x 0 n, Option.getD_some, Option.isSome_some]
    ·have z3 : (Int.ofNat (cE M x % 4) == Int.ofNat 1) = false := by
      have : ¬ (Int.ofNat (cE M x % 4) = Int.ofNat 1) := fun q => e3 (Int.ofNat.inj q)
      simpa using this
     rw [if_neg (fun q => e3 q.2)]
     simp only [g0, g1, e1, aL, aV, fU, gL, W.l00, W.is, b, fT, W.clsA G I, k, bI, zz, bL, W.fmtA G I, z3, aV]
     rfl
   ·have zz : (cW M x == R.getD 10 0) = false := by simpa using e2
    rw [if_neg (fun q => e2 q.1.2)]
    simp only [g0, g1, e1, aL, aV, fU, gL, W.l00, W.is, b, fT, W.clsA G I, k, bI, zz, bL, bN, gM, jK, aV]
    rfl
theorem GI.tx (I : GI M R CL z) (G : Good M) {x : Int} (h : isTx M R x) : ∃ s, TxO M (cW M x) x s := by
 obtain ⟨h1, O, h4, h3⟩ := I.headOb G h.1
 have h2 := O.str h.2
 refine ⟨(List.range (cE M x / 4)).map fun i => (M.t.get (bM x M.pl + 3 + i)).toNat, h.1, ?_, rfl, ?_, ?_, ?_⟩
 ·rw [h1, List.length_map, List.length_range]
  congr 1
  omega
 ·intro c hc
  obtain ⟨i, hi, rfl⟩ := List.mem_map.1 hc
  obtain ⟨d, q1, q2⟩ := O.by8 h2 i (List.mem_range.1 hi)
  rw [q2]
  exact q1
 ·rw [List.length_map, List.length_range]
  exact O.len
 ·intro i c hi
  rw [List.getElem?_map] at hi
  have hl : i < cE M x / 4 := by
   rcases Nat.lt_or_ge i (cE M x / 4) with q | q
   ·exact q
   ·rw [List.getElem?_eq_none (by simpa using q)] at hi; cases hi
  rw [List.getElem?_eq_getElem (by simpa using hl)] at hi
  simp only [List.getElem_range, Option.map_some, bC] at hi
  obtain ⟨d, q1, q2⟩ := O.by8 h2 i hl
  rw [q2] at hi ⊢
  rw [← hi]
  rfl
theorem Wd.textN (W : Wd h M R es) (G : Good M) (I : GI M R CL z) {x : Int} (hx : ¬ isTx M R x) (n : Nat) : cK (n + 2) 53 [.p (aM 7) 0, .i .i64 x] h = some (.t [.s [], .b false], h) := by
 rw [mJ 53 rfl, bIl]
 unfold s53 aMi aJw
 have k0 : cK (n + 1) 27 [.p (aM 7) 0, .i .i64 (Int.ofNat 10)] h = some (iD (R.getD 12 0), h) := W.known (show 10 < 16 by omega) n
 have k1 : cK (n + 1) 27 [.p (aM 7) 0, .i .i64 (Int.ofNat 11)] h = some (iD (R.getD 13 0), h) := W.known (show 11 < 16 by omega) n
 by_cases e : bM x M.pl = 0
 ·have b : (!(Nat.beq (bM x M.pl) 0)) = false := by rw [e]; rfl
  simp only [g0, g1, fU, gL, aL, W.l00, W.clsA G I, W.is, b, gT, Bool.not_false, fJ, jK, fT, bL, aZ]
 ·have b : (!(Nat.beq (bM x M.pl) 0)) = true := by rw [aIc e]; rfl
  have n0 : ¬ cW M x = R.getD 12 0 := fun q => hx ⟨e, .inl q⟩
  have n1 : ¬ cW M x = R.getD 13 0 := fun q => hx ⟨e, .inr q⟩
  have z0 : (cW M x != R.getD 12 0) = true := by simpa using n0
  have z1 : (cW M x != R.getD 13 0) = true := by simpa using n1
  simp only [g0, g1, fU, gL, aL, W.l00, W.clsA G I, W.is, b, gT, Bool.not_true, fX, k0, k1, jJ, z0, z1, fT, bL, bN, fJ, jK, aZ]
theorem Wd.textA (W : Wd h M R es) (G : Good M) (I : GI M R CL z) (x : Int) {n : Nat} (hn : 300 < n) :
  ∃ s b h', cK (n + 2) 53 [.p (aM 7) 0, .i .i64 x] h = some (.t [.s s, .b b], h') ∧ Wd h' M R es ∧ Up h h' ∧ ((b = true ∧ isTx M R x ∧ TxO M (cW M x) x s) ∨ (b = false ∧ ¬ isTx M R x ∧ s = [])) := by
 by_cases hx : isTx M R x
 ·obtain ⟨s, T⟩ := I.tx G hx
  obtain ⟨h', e1, W1, U1⟩ := W.text G T hx.2 hn
  exact ⟨s, true, h', e1, W1, U1, .inl ⟨rfl, hx, T⟩⟩
 ·exact ⟨[], false, h, W.textN G I hx n, W, Up.refl h, .inr ⟨rfl, hx, rfl⟩⟩
end
end Go.Dd

namespace Go.Dd
open Go.Proofs
theorem pcf {rec : FuncId → List DV → Hp → aG} {g : FuncId} (hg : CF.I g = none) (a l b : List DV) (h : Hp) : jS CF rec (.f g a b) l h = rec g (a ++ l ++ b) h := by
 show bT CF rec g (a ++ l ++ b) h = _
 rw [iR hg]
section
variable {h : Hp} {M : MemV} {R : List Int} {es : List (DV × DV)}
theorem Wk.make0 (K : Wk h M R es) {cls : Int} (hc : bM cls M.pl ≠ 0) {f c : Nat} (hf : f ≤ 2) (h256 : c ≤ 256) (room : M.fin + c + 3 ≤ M.n) (hm : M.made < 899999) :
  ∃ h' M', jQ [.p (aM 3) 0, .i .i64 cls, .i .i64 (.ofNat f), .i .i64 (.ofNat c)] h = some (.t [.i .i64 (.ofNat (M.fin * 2)), .i .i64 (.ofNat 0)], h') ∧ Wk h' M' R es ∧ Up h h' ∧ Grown M M' f cls (List.replicate c 0) := by
 have h1 := K.G.le
 have h2 := K.G.lo
 have h3 := K.G.hi
 obtain ⟨h', e1, W1, U1, _⟩ := K.W.make K.G hc hf h256 room
 have t1 : ∀ j, (M.mk1 f c cls).t.get j = if M.fin + 3 ≤ j ∧ j < M.fin + 3 + c then 0 else if j = M.fin + 2 then .ofNat (M.made + 1) else if j = M.fin + 1 then cls else if j = M.fin then .ofNat (c * 4 + f) else M.t.get j := fun j => by
  show (lT _ c (M.fin + 3)).get j = _
  rw [oC _ _ _ _ (by omega), WT.get_set _ _ _ _ (by omega), WT.get_set _ _ _ _ (by omega), WT.get_set _ _ _ _ (by omega)]
 have g : Grown M (M.mk1 f c cls) f cls (List.replicate c 0) := by
  refine ⟨rfl, by rw [List.length_replicate]; rfl, rfl, rfl, ?_, ?_, fun j hj => ?_, fun i v hi => ?_⟩
  ·rw [t1, if_neg (by omega), if_neg (by omega), if_neg (by omega), if_pos rfl, List.length_replicate]
  ·rw [t1, if_neg (by omega), if_neg (by omega), if_pos rfl]
  ·rw [t1, if_neg (by omega), if_neg (by omega), if_neg (by omega), if_neg (by omega)]
  ·have hl : i < c := by
    rcases Nat.lt_or_ge i c with q | q
    ·exact q
    ·rw [List.getElem?_eq_none (by simpa using q)] at hi; cases hi
   rw [List.getElem?_replicate, if_pos hl] at hi
   cases hi
   rw [t1, if_pos (by omega)]
 exact ⟨h', _, e1, g.wk K W1 hc hf (by rw [List.length_replicate]; exact h256) (by rw [List.length_replicate]; exact room) hm, U1, g⟩
theorem bAm {M : MemV} {R : List Int} {a n : Int} (h : cU a = true) (e : nJ a = n) : jG M R a = some n := by
 unfold jG
 rw [if_pos h, e]
theorem Wk.num (K : Wk h M R es) (room : M.fin + 4 ≤ M.n) (hm : M.made < 899999) (n : Int) {k : Nat} (hk : 256 < k) :
  ∃ a e h' M', cK (k + 2) 22 [.p (aM 7) 0, .i .i64 n] h = some (.t [iD a, iD e], h') ∧ Wk h' M' R es ∧ Up h h' ∧ Stay 4 M M' R R es es ∧
   ((¬ (-1152921504606846976 ≤ n ∧ n ≤ 1152921504606846976) ∧ e = 2 ∧ a = 0) ∨ ((-1152921504606846976 ≤ n ∧ n ≤ 1152921504606846976) ∧ e = 0 ∧ jG M' R a = some n ∧ dK a M'.pl = true)) := by
 obtain ⟨a, e, h', M', e1, W', G', U', hA⟩ := K.W.number K.G K.rk room hm n hk
 cases hA with
 | out h1 h2 =>
  subst h2
  exact ⟨0, 2, h', M', e1, ⟨W', G', K.sy, K.r0, K.rk⟩, U', Stay.refl _ _ _ _, .inl ⟨h1, rfl, rfl⟩⟩
 | small a h1 h2 h3 h4 =>
  subst h4
  refine ⟨a, 0, h', M', e1, ⟨W', G', K.sy, K.r0, K.rk⟩, U', Stay.refl _ _ _ _, .inr ⟨by omega, rfl, bAm h2 h3, ?_⟩⟩
  unfold dK
  split <;> first | rfl | (rw [h2]; rfl)
 | big h1 h2 g =>
  have hc : bM (R.getD 10 0) M.pl ≠ 0 := K.rk 8 (by omega)
  have st := g.stay K.G R es (fun CL I => I.newK (i := 8) (.inr (.inr ⟨rfl, rfl⟩)) (by simp) (fun q => by cases q))
  have ha : bM (.ofNat (M.fin * 2)) M'.pl = M.fin := by rw [g.pl]; exact yQ K.G.lo (by have := K.G.le; have := K.G.hi; omega)
  have h0 := K.G.lo
  have hs : cU (.ofNat (M.fin * 2)) = false := by
   rw [iT]
   refine decide_eq_false fun q => ?_
   have q1 := q.1
   simp at q1
   try omega
  refine ⟨_, 0, h', M', e1, g.wk K W' hc (by omega) (by simp) (by simp; omega) hm, U', st, .inr ⟨h1, rfl, ?_, iP (by rw [ha]; omega)⟩⟩
  unfold jG
  have hh : cE M' (.ofNat (M.fin * 2)) = 5 := by unfold cE; rw [ha, g.hd]; rfl
  rw [if_neg (by rw [hs]; simp), if_pos ⟨⟨by rw [ha]; omega, by unfold cW; rw [ha, g.cl]⟩, by rw [hh]⟩]
  unfold dV
  rw [ha, hh, if_pos ⟨by omega, by omega⟩]
  have := g.new 0 n rfl
  rw [Nat.add_zero] at this ⊢
  all_goals rw [this]
theorem Wd.notMay (W : Wd h M R es) {b : Pos} (hb : h.bl.get b = some (.row .ex [.p (aM 7) 0])) (v : Int) (n : Nat) : cK (n + 1) 32 [.i .i64 v, .p b 0] h = some (.b (!(dK v M.pl)), h) := by
 rw [mJ 32 rfl, cJx]
 unfold s32
 have l : aA (.p b 0) h = some (.p (aM 7) 0, h) := by simp only [aA, cellD, rowOf, hb, List.getElem?_cons_zero, DV.one, if_true]
 simp only [g0, g1, l, aL, fU, gL, W.l00, W.may, gT]
theorem bFl {l : List Int} {p : Int → Bool} {i : Nat} {v : Int} (h : l[i]? = some v) : (l.drop i).any p = (p v || (l.drop (i + 1)).any p) := by
 have hi : i < l.length := by
  rcases Nat.lt_or_ge i l.length with q | q
  ·exact q
  ·rw [List.getElem?_eq_none q] at h; cases h
 rw [List.drop_eq_getElem_cons hi, List.any_cons]
 rw [List.getElem?_eq_getElem hi] at h
 cases h
 rfl
theorem Wd.find (W : Wd h M R es) {x : DV} {l : List Int} (S : SlI x l h) {b : Pos} (hb : h.bl.get b = some (.row .ex [.p (aM 7) 0])) {n : Nat} (hl : l.length ≤ 256) : ∀ (k i m : Nat), k + i = l.length → k < m →
  ∃ r : Int, nW (cK (n + 1)) (n + 1) m x (.f 32 [] [.p b 0]) (iD l.length) (.i .i64 (Int.ofNat i)) h = some (iD r, h) ∧ (decide (r ≥ Int.ofNat 0) = (l.drop i).any fun v => !(dK v M.pl)) := by
 intro k
 induction k with
 | zero =>
  intro i m he hm
  obtain ⟨m, rfl⟩ : ∃ m', m = m' + 1 := ⟨m - 1, by omega⟩
  refine ⟨-1, ?_, ?_⟩
  ·show oA (cK (n + 1)) (n + 1) (nW (cK (n + 1)) (n + 1) m) _ _ _ _ h = _
   unfold oA
   have d : decide (Int.ofNat i < (l.length : Int)) = false := decide_eq_false (by simp; omega)
   simp only [bJ, d, aL, aV]
   rfl
  ·rw [List.drop_eq_nil_of_le (by omega)]
   rfl
 | succ k ih =>
  intro i m he hm
  obtain ⟨m, rfl⟩ : ∃ m', m = m' + 1 := ⟨m - 1, by omega⟩
  have hi : i < l.length := by omega
  have hv : l[i]? = some l[i] := List.getElem?_eq_getElem hi
  obtain ⟨a, e1, e2⟩ := S.at hv
  obtain ⟨r, q1, q2⟩ := ih (i + 1) m (by omega) (by omega)
  have d : decide (Int.ofNat i < (l.length : Int)) = true := decide_eq_true (by simp; omega)
  have hc : jS CF (cK (n + 1)) (.f 32 [] [.p b 0]) [iD l[i]] h = some (.b (!(dK l[i] M.pl)), h) := by
   rw [pcf rfl]
   exact W.notMay hb l[i] n
  have ha : aD .add (.i .i64 (Int.ofNat i)) (.i .i64 (Int.ofNat 1)) h = some (.i .i64 (Int.ofNat (i + 1)), h) := cY i 1 h (by omega)
  rw [bFl hv]
  cases hmay : dK l[i] M.pl with
  | false =>
   refine ⟨Int.ofNat i, ?_, by simp⟩
   show oA (cK (n + 1)) (n + 1) (nW (cK (n + 1)) (n + 1) m) _ _ _ _ h = _
   unfold oA
   rw [hmay] at hc
   simp only [bJ, d, aL, aZ, e1, e2, hc, Bool.not_false]
  | true =>
   refine ⟨r, ?_, by rw [q2]; rfl⟩
   show oA (cK (n + 1)) (n + 1) (nW (cK (n + 1)) (n + 1) m) _ _ _ _ h = _
   unfold oA
   rw [hmay] at hc
   simp only [bJ, d, aL, aZ, e1, e2, hc, Bool.not_true, aV, ha]
   exact q1
theorem Wd.contains (W : Wd h M R es) {x : DV} {l : List Int} (S : SlI x l h) {b : Pos} (hb : h.bl.get b = some (.row .ex [.p (aM 7) 0])) (hl : l.length ≤ 256) {n : Nat} (hn : 256 < n) :
  cK (n + 3) 31 [x, .f 32 [] [.p b 0]] h = some (.b (l.any fun v => !(dK v M.pl)), h) := by
 rw [mJ 31 rfl, cJe]
 unfold s31
 obtain ⟨r, q1, q2⟩ := W.find S hb (n := n) hl l.length 0 (n + 1) (by omega) (by omega)
 have e : cK (n + 2) 67 [x, .f 32 [] [.p b 0]] h = some (iD r, h) := by
  rw [mJ 67 rfl, cIi]
  unfold s67 aUu aWg bNu
  simp only [g0, g1, S.len (h' := h), aL]
  exact q1
 simp only [g0, g1, e, aL, jM, q2, List.drop_zero]
end
end Go.Dd

namespace Go.Dd
open Go.Proofs
theorem cPg (b : Pos) (o : Nat) (h : Hp) : bQ (some (.p b o, h)) (.p b o) = true := by
 unfold bQ
 simp [DV.beq]
section
variable {h : Hp} {M : MemV} {R : List Int} {es : List (DV × DV)}
theorem Wk.array (K : Wk h M R es) {x : DV} {l : List Int} (S : SlI x l h) (h256 : l.length ≤ 256) (room : M.fin + l.length + 3 ≤ M.n) (hm : M.made < 899999) {n : Nat} (hn : 256 < n) :
  ∃ a e h' M', cK (n + 4) 16 [.p (aM 7) 0, x] h = some (.t [iD a, iD e], h') ∧ Wk h' M' R es ∧ Up h h' ∧
   ((¬ (l.length ≤ 250 ∧ ∀ v ∈ l, dK v M.pl = true) ∧ e = 1 ∧ a = 0 ∧ M' = M) ∨ ((l.length ≤ 250 ∧ ∀ v ∈ l, dK v M.pl = true) ∧ e = 0 ∧ a = .ofNat (M.fin * 2) ∧ Grown M M' 0 (R.getD 11 0) l)) := by
 rw [mJ 16 rfl, cIg]
 unfold s16
 obtain ⟨U1, W1⟩ := K.W.new (.row .ex [.p (aM 7) 0])
 obtain ⟨h1, hh1⟩ : ∃ h1 : Hp, (⟨h.next.succ, Tr.set (.row .ex [.p (aM 7) 0]) h.next h.bl⟩ : Hp) = h1 := ⟨_, rfl⟩
 rw [hh1] at U1 W1
 have eb : cB (.p (aM 7) 0) h = some (.p h.next 0, h1) := by rw [← hh1]; rfl
 have hb : h1.bl.get h.next = some (.row .ex [.p (aM 7) 0]) := by rw [← hh1]; exact dKc _ _ _
 have S1 := S.up U1
 have K1 : Wk h1 M R es := ⟨W1, K.G, K.sy, K.r0, K.rk⟩
 have ld : aA (.p h.next 0) h1 = some (.p (aM 7) 0, h1) := by simp only [aA, cellD, rowOf, hb, List.getElem?_cons_zero, DV.one, if_true]
 have el : ∀ h, cO x h = some (iD l.length, h) := fun h => S.len
 by_cases c1 : l.length > 250
 ·have d1 : decide ((l.length : Int) > Int.ofNat 250) = true := decide_eq_true (by simp; omega)
  refine ⟨0, 1, h1, M, ?_, K1, U1, .inl ⟨fun q => by omega, rfl, rfl, rfl⟩⟩
  simp only [g0, g1, eb, aL, el, cM, d1, fJ, bL, aZ]
  rfl
 ·have d1 : decide ((l.length : Int) > Int.ofNat 250) = false := decide_eq_false (by simp; omega)
  have hc := W1.contains S1 hb h256 hn
  cases ha : l.any (fun v => !(dK v M.pl)) with
  | true =>
   rw [ha] at hc
   refine ⟨0, 1, h1, M, ?_, K1, U1, .inl ⟨fun q => ?_, rfl, rfl, rfl⟩⟩
   ·simp only [g0, g1, eb, aL, el, cM, d1, fX, hc, bN, aZ]
    rfl
   ·obtain ⟨v, hv, hv2⟩ := List.any_eq_true.1 ha
    rw [q.2 v hv] at hv2
    cases hv2
  | false =>
   rw [ha] at hc
   have hall : ∀ v ∈ l, dK v M.pl = true := fun v hv => by
    cases hq : dK v M.pl with
    | true => rfl
    | false =>
     have : l.any (fun v => !(dK v M.pl)) = true := List.any_eq_true.2 ⟨v, hv, by rw [hq]; rfl⟩
     rw [this] at ha
     cases ha
   have hk : M.fin < 16000000 := by have := K.G.le; have := K.G.hi; omega
   obtain ⟨h2, M2, e2, W2, U2, _, g2⟩ := W1.make61 K.G (K.rk 9 (by omega)) (f := 0) (by omega) S1 (by omega) (by omega) (fun v hv => uR hk (hall v hv)) (n := n + 2) (by omega)
   have kn : cK (n + 3) 27 [.p (aM 7) 0, .i .i64 (Int.ofNat 9)] h1 = some (iD (R.getD 11 0), h1) := W1.known (show 9 < 16 by omega) (n + 2)
   refine ⟨.ofNat (M.fin * 2), 0, h2, M2, ?_, g2.wk K1 W2 (K.rk 9 (by omega)) (by omega) (by omega) (by omega) hm, U1.trans U2, .inr ⟨⟨by omega, hall⟩, rfl, rfl, g2⟩⟩
   simp only [g0, g1, eb, aL, el, cM, d1, fX, hc, bN, aV, ld, kn, cPg, Bool.and_self, cond_true]
   rw [show (2 + 9 : Nat) = 11 from rfl] at e2
   show cnd true _ = _
   simp only [cnd, e2, aL, sV, sA]
   rfl
end
end Go.Dd

namespace Go.Dd
open Go.Proofs
def Wc (h : Hp) (cs : List (DV × DV)) : Prop := h.bl.get (aM 6) = some (.mp cs)
noncomputable def aJe (cs : List (DV × DV)) (s : List Nat) : Int := match dL .string (.s s) cs with
 | some (some (.i .i64 v)) => v
 | _ => 0
section
variable {h : Hp} {M : MemV} {R : List Int} {es cs : List (DV × DV)} {CL : List Nat} {z : Prop}
theorem Wc.up {h' : Hp} (c : Wc h cs) (W : Wd h M R es) (u : Up h h') : Wc h' cs := by
 unfold Wc
 rw [u.get (aM 6) (.inr (by rw [pn6]; exact Nat.le_refl _)) (by have := W.nx; rw [pn6]; omega)]
 exact c
theorem Wd.classOfName (W : Wd h M R es) (c : Wc h cs) (hcs : ∀ e ∈ cs, ∃ (k : List Nat) (x : Int), e = (.s k, iD x)) (s : List Nat) (n : Nat) : cK (n + 1) 26 [.p (aM 7) 0, .s s] h = some (iD (aJe cs s), h) := by
 rw [mJ 26 rfl, cKo]
 unfold s26
 have l3 : aA (.p (aM 7) (0 + 3)) h = some (.m (aM 6), h) := by
  simp only [aA, cellD, rowOf, W.w, Nat.zero_add, List.getElem?_cons_succ, List.getElem?_cons_zero, DV.one, if_true]
 have lk : dS .string (.i .i64 (Int.ofNat 0)) false (.m (aM 6)) (.s s) h = some (iD (aJe cs s), h) := by
  have hc : h.bl.get (aM 6) = some (.mp cs) := c
  unfold aJe
  rcases aVt s hcs with ⟨x, f1, f2⟩ | ⟨f1, f2⟩
  ·simp only [dS, gE, hc, f1, cond_false]
  ·simp only [dS, gE, hc, f1, cond_false]
   rfl
 simp only [g0, g1, fU, gL, aL, l3, lk]
end
end Go.Dd

namespace Go.Dd
open Go.Proofs
structure Wv (k : Nat) (h : Hp) (M : MemV) (R : List Int) (es : List (DV × DV)) (z : Prop := True) : Prop where
 K : Wk h M R es
 I : GI M R CLW z
 c : Wc h csW
 n : M.n = 60000
 fin : M.fin + k ≤ 60000
 md : M.made + k ≤ 700000
theorem Stay.mono {a b : Nat} {M M' : MemV} {R R' : List Int} {es es' : List (DV × DV)} (h : Stay a M M' R R' es es') (hab : a ≤ b) : Stay b M M' R R' es es' :=
 ⟨h.n, Nat.le_trans h.fin (by omega), Nat.le_trans h.made (by omega), h.lo, h.tx, h.at', h.r, h.fd, h.gi, h.old⟩
section
variable {h h' : Hp} {M M' : MemV} {R R' : List Int} {es es' : List (DV × DV)} {z : Prop}
theorem Wv.stay {k j : Nat} (V : Wv (j + k) h M R es) (K' : Wk h' M' R' es') (u : Up h h') (S : Stay j M M' R R' es es') : Wv k h' M' R' es' := by
 have h1 := S.n
 have h2 := S.fin
 have h3 := S.made
 have h4 := V.n
 have h5 := V.fin
 have h6 := V.md
 exact ⟨K', S.gi _ V.I, V.c.up V.K.W u, by omega, by omega, by omega⟩
theorem Wv.less {k j : Nat} (V : Wv j h M R es z) (hk : k ≤ j) : Wv k h M R es z := ⟨V.K, V.I, V.c, V.n, by have := V.fin; omega, by have := V.md; omega⟩
theorem Wk.up (K : Wk h M R es) (W' : Wd h' M R es) : Wk h' M R es := ⟨W', K.G, K.sy, K.r0, K.rk⟩
theorem Wv.up {k : Nat} (V : Wv k h M R es z) (W' : Wd h' M R es) (u : Up h h') : Wv k h' M R es z := ⟨V.K.up W', V.I, V.c.up V.K.W u, V.n, V.fin, V.md⟩
theorem Wv.new {k : Nat} (V : Wv k h M R es z) (o : Ob) : Up h ⟨h.next.succ, Tr.set o h.next h.bl⟩ ∧ Wv k ⟨h.next.succ, Tr.set o h.next h.bl⟩ M R es z := by
 obtain ⟨u, W⟩ := V.K.W.new o
 exact ⟨u, V.up W u⟩
theorem bId : ∀ e ∈ csW, ∃ (k : List Nat) (x : Int), e = (.s k, iD x) := fun e he => by
 obtain ⟨x, _, h2⟩ := aAg (clF ++ clW) e he
 exact ⟨x.1, _, h2⟩
theorem cXa : aJe csW [80, 111, 105, 110, 116] = 8714 := by kernel_rfl
theorem Wv.point {k : Nat} (V : Wv k h M R es z) (n : Nat) : cK (n + 1) 26 [.p (aM 7) 0, .s [80, 111, 105, 110, 116]] h = some (iD 8714, h) := by
 rw [V.K.W.classOfName V.c bId, cXa]
theorem dBi : aJe csW [69, 103, 103] = 8770 := by kernel_rfl
theorem Wv.egg {k : Nat} (V : Wv k h M R es z) (n : Nat) : cK (n + 1) 26 [.p (aM 7) 0, .s [69, 103, 103]] h = some (iD 8770, h) := by
 rw [V.K.W.classOfName V.c bId, dBi]
theorem bUz : iV 8770 = 4385 := by kernel_rfl
theorem Wv.egAt {k : Nat} (V : Wv k h M R es z) : bM 8770 M.pl ≠ 0 := by
 rw [atN_pos, bUz]
 exact ⟨by decide, (V.I.cl 4385 (by decide)).pl⟩
theorem Wv.egNew {k : Nat} (V : Wv k h M R es) : ∀ CL, GI M R CL → NewI M R CL 0 8770 (List.replicate 0 0) := fun CL I => by
 have r3 := I.rk 1 (by omega)
 have r12 := I.rk 10 (by omega)
 have r13 := I.rk 11 (by omega)
 refine ⟨by decide, by omega, fun _ => rfl, fun q => ?_, fun q => (by cases q), fun q => ?_, fun c hc _ _ => ⟨rfl, fun v hv => List.eq_of_mem_replicate hv⟩⟩
 ·rcases q with q | q
  ·rw [r12] at q; cases q
  ·rw [r13] at q; cases q
 ·rw [r3] at q; cases q
theorem cGp : iV 8714 = 4357 := by kernel_rfl
theorem Wv.ptAt {k : Nat} (V : Wv k h M R es z) : bM 8714 M.pl ≠ 0 := by
 rw [atN_pos, cGp]
 exact ⟨by decide, (V.I.cl 4357 (by decide)).pl⟩
theorem Wv.ptNew {k : Nat} (V : Wv k h M R es) : ∀ CL, GI M R CL → NewI M R CL 0 8714 (List.replicate 2 0) := fun CL I => by
 have r3 := I.rk 1 (by omega)
 have r12 := I.rk 10 (by omega)
 have r13 := I.rk 11 (by omega)
 refine ⟨by decide, by omega, fun _ => rfl, fun q => ?_, fun q => (by cases q), fun q => ?_, fun c hc _ _ => ⟨rfl, fun v hv => List.eq_of_mem_replicate hv⟩⟩
 ·rcases q with q | q
  ·rw [r12] at q; cases q
  ·rw [r13] at q; cases q
 ·rw [r3] at q; cases q
end
end Go.Dd

namespace Go.Dd
open Go.Proofs
theorem eqF {a b : Int} (h : a ≠ b) : (a == b) = false := by simpa using h
theorem yN (a : Int) (h : Hp) : aD .rem (.i .i64 a) (.i .i64 (Int.ofNat 10)) h = some (.i .i64 (a.tmod 10), h) := by simp only [aD, if_true, fD]; rfl
theorem aVm (s : List Nat) (k : Nat) (hk : k ≤ s.length) (h : Hp) : dY (.s s) none (some (.i .i64 (Int.ofNat k))) h = some (.s (s.take k), h) := by
 have e : hiD (some (.i .i64 (Int.ofNat k))) s.length s.length = some k := by
  show (if (0 : Int) ≤ Int.ofNat k ∧ Int.ofNat k ≤ (s.length : Int) then some (Int.ofNat k).toNat else none) = _
  rw [if_pos ⟨by simp, by simpa using hk⟩]
  rfl
 simp only [dY, e]
 rfl
theorem bNo (l : List Int) : ∀ v ∈ l.map iD, v.one = true := by
 intro v hv
 obtain ⟨c, _, rfl⟩ := List.mem_map.1 hv
 rfl
theorem bQy {x : DV} {l : List Int} {lo : Nat} {h : Hp} (hlo : 1031 ≤ lo) (S : GrS x (l.map iD) lo h) : SlI x l h := by
 rcases S with ⟨rfl, e⟩ | ⟨b, e, hb, h2, h3⟩
 ·refine .inl ⟨rfl, ?_⟩
  simpa using e
 ·exact .inr ⟨b, l.length, .gr 1, by rw [e]; simp, hb, .inr (by omega), h3⟩
section
variable {h : Hp} {M : MemV} {R : List Int} {es : List (DV × DV)}
noncomputable def knW (R : List Int) (i : Int) : Int := if 0 ≤ i ∧ i < 16 then R.getD (2 + i.toNat) 0 else 0
theorem Wd.knownA (W : Wd h M R es) (i : Int) (n : Nat) : cK (n + 1) 27 [.p (aM 7) 0, .i .i64 i] h = some (iD (knW R i), h) := by
 unfold knW
 by_cases hi : 0 ≤ i ∧ i < 16
 ·rw [if_pos hi]
  obtain ⟨j, rfl⟩ : ∃ j : Nat, i = Int.ofNat j := ⟨i.toNat, by simp; omega⟩
  exact W.known (by simp at hi; omega) n
 ·rw [if_neg hi, mJ 27 rfl, bKu]
  unfold s27
  by_cases h1 : i < 0
  ·have d1 : decide (i < Int.ofNat 0) = true := decide_eq_true (by simpa using h1)
   simp only [g0, g1, bJ, d1, aL, fJ, bL, aZ]
   rfl
  ·have d1 : decide (i < Int.ofNat 0) = false := decide_eq_false (by simpa using h1)
   have d2 : decide (i ≥ Int.ofNat 16) = true := decide_eq_true (by simp; omega)
   simp only [g0, g1, bJ, d1, aL, fX, jM, d2, bN, aZ]
   rfl
end
end Go.Dd

namespace Go.Dd
open Go.Proofs
theorem aBs (T T' : Tr Ob) : ∀ (l : List (Pos × Ob)) (b : Pos), (∃ e ∈ l, e.1 = b) → (fC l T).get b = (fC l T').get b
 | [], b, h => by obtain ⟨e, he, _⟩ := h; cases he
 | x :: l, b, h => by
  show (Tr.set x.2 x.1 (fC l T)).get b = (Tr.set x.2 x.1 (fC l T')).get b
  by_cases e : b = x.1
  ·subst e
   rw [dKc, dKc]
  ·rw [dKb _ _ _ _ e, dKb _ _ _ _ e]
   obtain ⟨y, hy, hb⟩ := h
   simp only [List.mem_cons] at hy
   rcases hy with rfl | hy
   ·exact absurd hb.symm e
   ·exact aBs T T' l b ⟨y, hy, hb⟩
theorem aLc (T : Tr Ob) : ∀ (l : List (Pos × Ob)) (b : Pos), (∀ e ∈ l, e.1 ≠ b) → (fC l T).get b = T.get b
 | [], b, h => rfl
 | x :: l, b, h => by
  show (Tr.set x.2 x.1 (fC l T)).get b = _
  rw [dKb _ _ _ _ (fun e => h x (by simp) e.symm)]
  exact aLc T l b fun e he => h e (by simp [he])
noncomputable def zL (h : Hp) : Hp := ⟨aM nxW, fC HLW h.bl⟩
theorem cXl : hW.bl = fC HLW .e := by kernel_rfl
theorem aJi : HLW.map (·.1) = [aM 7, aM 6, aM 5, aM 4, aM 3, aM 2, aM 1] := rfl
theorem pG (h : Hp) (i : Nat) (hi : i = 1 ∨ i = 2 ∨ i = 3 ∨ i = 4 ∨ i = 5 ∨ i = 6 ∨ i = 7) : (zL h).bl.get (aM i) = hW.bl.get (aM i) := by
 rw [cXl]
 show (fC HLW h.bl).get (aM i) = _
 refine aBs h.bl .e HLW (aM i) ?_
 have : aM i ∈ HLW.map (·.1) := by
  rw [aJi]
  rcases hi with rfl | rfl | rfl | rfl | rfl | rfl | rfl <;> simp
 obtain ⟨e, he, h2⟩ := List.mem_map.1 this
 exact ⟨e, he, h2⟩
theorem aNv (h : Hp) (b : Pos) (hb : b.toNat < 1024) : (zL h).bl.get b = h.bl.get b := by
 show (fC HLW h.bl).get b = _
 refine aLc h.bl HLW b fun e he q => ?_
 have : e.1 ∈ HLW.map (·.1) := List.mem_map.2 ⟨e, he, rfl⟩
 rw [aJi, q] at this
 simp only [List.mem_cons, List.not_mem_nil, or_false] at this
 rcases this with e | e | e | e | e | e | e <;> subst e
 ·rw [pn7] at hb; omega
 ·rw [pn6] at hb; omega
 ·rw [pn5] at hb; omega
 ·rw [pn4] at hb; omega
 ·rw [pn3] at hb; omega
 ·rw [pn2] at hb; omega
 ·rw [pn1] at hb; omega
theorem WNo (h : Hp) : Wd (zL h) MN RN esN := by
 have W := WN
 obtain ⟨m1, m2, m3, m4, m5, m6⟩ := kO W.mem
 refine ⟨by rw [pG h 7 (by simp)]; exact W.w, by rw [pG h 4 (by simp)]; exact W.r, W.rl, by rw [pG h 5 (by simp)]; exact W.sy, ?_, W.nx, W.wb, W.pb⟩
 refine mY (by rw [pG h 3 (by simp)]; exact m1) ?_ ?_ m4 m5 m6
 ·rw [W.wb] at m2 ⊢
  rw [pG h 1 (by simp)]; exact m2
 ·rw [W.pb] at m3 ⊢
  rw [pG h 2 (by simp)]; exact m3
theorem WvN (h : Hp) : Wv 40000 (zL h) MN RN esN where
 K := ⟨WNo h, GN, KN.sy, KN.r0, KN.rk⟩
 I := GIN
 c := by
  unfold Wc
  rw [pG h 6 (by simp)]
  kernel_rfl
 n := rfl
 fin := by show 4399 + 40000 ≤ 60000; omega
 md := by show 597 + 40000 ≤ 700000; omega
theorem nE (h : Hp) (hn : lW h.next (aM 1) = true) : dB 8 [] h = some (.p (aM 7) 0, zL h) := by
 have e1 : Nat.beq 8 13 = false := rfl
 have e2 : Nat.beq 8 8 = true := rfl
 have e3 : aTk [] = true := rfl
 unfold dB aAb aOb xD zL
 rw [e1, cond_false, e2, cond_true, e3, hn, Bool.and_self, cond_true]
theorem rG (h : Hp) : dB 13 [] h = some (.b true, h) := rfl
theorem oH {g : FuncId} (h1 : Nat.beq g 13 = false) (h2 : Nat.beq g 8 = false) (args : List DV) (h : Hp) : dB g args h = cK 900 g args h := by
 unfold dB
 rw [h1, cond_false, aSw, h2, cond_false]
end Go.Dd

namespace Go.Dd
open Go.Proofs
section
variable {h : Hp} {b : Pos} {kd N : Int} {s0 s : List Nat}
theorem zD {b : Pos} {kd : Kind} {l : List DV} {h : Hp} (hb : h.bl.get b = some (.row kd l)) {i : Nat} {v : DV} (hi : l[i]? = some v) (hv : v.one = true) : aA (.p b i) h = some (v, h) := by
 simp only [aA, cellD, rowOf, hb, hi, hv, if_true]
end
def pK (k : Nat) : Pos := dCa 24 k
theorem aAh : (pK 1023).toNat = 1023 := by kernel_rfl
theorem cPf : (pK 1023).succ = aM 1 := by kernel_rfl
section
variable {h h' : Hp} {M : MemV} {R : List Int} {es : List (DV × DV)} {k : Nat} {z : Prop} {b : Pos} {kd N : Int} {s : List Nat}
theorem pE0 (t : TypeId) (h : Hp) : pEq (.pointer t) true (.p (aM 7) 0) .p0 h = some (.b false, h) := Eq.trans rfl rfl
end
theorem bDq (args : List DV) (h : Hp) : dB 9 args h = cK 900 9 args h := oH rfl rfl args h
theorem rC (args : List DV) (h : Hp) : dB 10 args h = cK 900 10 args h := oH rfl rfl args h
theorem aEr (args : List DV) (h : Hp) : dB 11 args h = cK 900 11 args h := oH rfl rfl args h
theorem aRp (args : List DV) (h : Hp) : dB 12 args h = cK 900 12 args h := oH rfl rfl args h
theorem cDm (args : List DV) (h : Hp) : dB 14 args h = cK 900 14 args h := oH rfl rfl args h
theorem bWl (args : List DV) (h : Hp) : dB 16 args h = cK 900 16 args h := oH rfl rfl args h
end Go.Dd

namespace Go.Dd
open Go.Proofs
theorem tA {x : Int} {pl : WT} (h : dK x pl = true) : bM x pl ≠ 0 ∨ (bM x pl = 0 ∧ (cU x = true ∨ x = 0 ∨ x = 2 ∨ x = 4)) := by
 by_cases ha : bM x pl = 0
 ·refine .inr ⟨ha, ?_⟩
  unfold dK at h
  split at h
  ·exact .inr (.inl rfl)
  ·exact .inr (.inr (.inl rfl))
  ·exact .inr (.inr (.inr rfl))
  ·cases hs : cU x with
   | true => exact .inl rfl
   | false =>
    rw [hs, ha] at h
    cases h
 ·exact .inl ha
theorem aJn {x : Int} (h : cU x = true ∨ x = 0 ∨ x = 2 ∨ x = 4) (pl : WT) : bM x pl = 0 := by
 rcases h with h | rfl | rfl | rfl
 ·exact aMn h
 ·rfl
 ·rfl
 ·rfl
section
variable {h h' : Hp} {M M' : MemV} {R R' : List Int} {es es' : List (DV × DV)} {k : Nat} {z : Prop} {CL : List Nat}
theorem Stay.head (S : Stay k M M' R R' es es') (I : GI M R CL z) (G : Good M) {o : Int} (ho : bM o M.pl ≠ 0) : cE M' o = cE M o := by
 obtain ⟨h1, _, h4, h3⟩ := I.headOb G ho
 unfold cE
 rw [S.at' o ho, S.old _ (by omega)]
theorem Stay.clo (S : Stay k M M' R R' es es') (I : GI M R CL z) (G : Good M) {o : Int} (ho : bM o M.pl ≠ 0) : cW M' o = cW M o := by
 obtain ⟨h1, _, h4, h3⟩ := I.headOb G ho
 unfold cW
 rw [S.at' o ho, S.old _ (by omega)]
theorem Stay.get (S : Stay k M M' R R' es es') (I : GI M R CL z) (G : Good M) {o : Int} (ho : bM o M.pl ≠ 0) (i : Nat) : dV M' o i = dV M o i := by
 obtain ⟨h1, _, h4, h3⟩ := I.headOb G ho
 unfold dV
 rw [S.head I G ho, S.at' o ho]
 by_cases c : bM o M.pl ≠ 0 ∧ i < cE M o / 4
 ·rw [if_pos c, if_pos c, S.old _ (by omega)]
 ·rw [if_neg c, if_neg c]
theorem Stay.isC (S : Stay k M M' R R' es es') (I : GI M R CL z) (G : Good M) {o : Int} (ho : bM o M.pl ≠ 0) : isC M' R' o = isC M R o := by
 unfold Go.Dd.isC
 rw [S.at' o ho, S.clo I G ho, S.r 2]
theorem Stay.kind (S : Stay k M M' R R' es es') (I : GI M R CL z) (G : Good M) {o : Int} (ho : bM o M.pl ≠ 0) : jH M' R' o = jH M R o := by
 unfold jH
 rw [S.isC I G ho, S.get I G ho]
theorem Stay.may (S : Stay k M M' R R' es es') {x : Int} (hx : dK x M.pl = true) : dK x M'.pl = true := by
 rcases tA hx with ha | ⟨_, hc⟩
 ·exact iP (by rw [S.at' x ha]; exact ha)
 ·unfold dK
  split
  ·rfl
  ·rfl
  ·rfl
  ·rcases hc with hc | hc | hc | hc
   ·rw [hc]; rfl
   ·exact absurd hc (by assumption)
   ·exact absurd hc (by assumption)
   ·exact absurd hc (by assumption)
theorem Stay.val (S : Stay k M M' R R' es es') (I : GI M R CL z) (G : Good M) {x : Int} (hx : dK x M.pl = true) : jG M' R' x = jG M R x := by
 unfold jG
 rcases tA hx with ha | ⟨ha, hc⟩
 ·rw [S.at' x ha, S.clo I G ha, S.head I G ha, S.get I G ha, S.r 9]
 ·rw [aJn hc, ha]
  simp
theorem Stay.isTx (S : Stay k M M' R R' es es') (I : GI M R CL z) (G : Good M) {x : Int} (hx : dK x M.pl = true) : isTx M' R' x ↔ isTx M R x := by
 unfold Go.Dd.isTx
 rcases tA hx with ha | ⟨ha, hc⟩
 ·rw [S.at' x ha, S.clo I G ha, S.r 11, S.r 12]
 ·rw [aJn hc, ha]
  simp
end
end Go.Dd

namespace Go.Dd
inductive Th where
 | mk (kind n : Int) (text : List Nat) (kids : List Th)
def rM {α : Type} (f : α → List Nat) : Nat → List Nat → List α → List Nat
 | _, s, [] => s ++ [41]
 | i, s, k :: ks =>
  if i = 20 ∨ 1000 < (if i = 0 then s else s ++ [32]).length then ((if i = 0 then s else s ++ [32]) ++ [46, 46]) ++ [41]
  else rM f (i + 1) ((if i = 0 then s else s ++ [32]) ++ f k) ks
theorem aMo {α : Type} (f : α → List Nat) (i : Nat) (s : List Nat) (k : α) (ks : List α) : rM f i s (k :: ks) = if i = 20 ∨ 1000 < (if i = 0 then s else s ++ [32]).length then ((if i = 0 then s else s ++ [32]) ++ [46, 46]) ++ [41] else rM f (i + 1) ((if i = 0 then s else s ++ [32]) ++ f k) ks := by
 rw [rM]
def rfL {α : Type} (f : α → List Nat) : Nat → List Nat → List α → List Nat
 | _, s, [] => s ++ [41]
 | i, s, k :: ks =>
  if i ≤ 20 then rfL f (i + 1) ((if i = 0 then s else s ++ [32]) ++ (if i = 20 then [46, 46] else f k)) ks
  else s ++ [41]
def EqK (a b : List Nat) : Prop := a = b ∨ (1000 ≤ a.length ∧ 1000 ≤ b.length ∧ a.take 1000 = b.take 1000)
theorem EqK.refl (a : List Nat) : EqK a a := .inl rfl
theorem EqK.take {a b : List Nat} (h : EqK a b) : a.take 1000 = b.take 1000 := by
 rcases h with rfl | h
 ·rfl
 ·exact h.2.2
theorem EqK.pre {a b : List Nat} (c : List Nat) (h : EqK a b) : EqK (c ++ a) (c ++ b) := by
 rcases h with rfl | ⟨h1, h2, h3⟩
 ·exact .inl rfl
 ·refine .inr ⟨by simp; omega, by simp; omega, ?_⟩
  rw [List.take_append, List.take_append]
  congr 1
  have := congrArg (List.take (1000 - c.length)) h3
  rwa [List.take_take, List.take_take, Nat.min_eq_left (by omega)] at this
theorem EqK.long {a b : List Nat} (h : EqK a b) (hl : 1000 ≤ a.length) (u v : List Nat) : EqK (a ++ u) (b ++ v) := by
 have hb : 1000 ≤ b.length ∧ a.take 1000 = b.take 1000 := by
  rcases h with rfl | ⟨_, h2, h3⟩
  ·exact ⟨hl, rfl⟩
  ·exact ⟨h2, h3⟩
 refine .inr ⟨by simp; omega, by simp; omega, ?_⟩
 rw [List.take_append_of_le_length hl, List.take_append_of_le_length hb.1, hb.2]
theorem EqK.post {a b : List Nat} (h : EqK a b) (u : List Nat) : EqK (a ++ u) (b ++ u) := by
 rcases h with rfl | ⟨h1, h2, h3⟩
 ·exact .inl rfl
 ·exact EqK.long (.inr ⟨h1, h2, h3⟩) h1 u u
theorem aYj {α : Type} (f : α → List Nat) : ∀ (ks : List α) (i : Nat) (s : List Nat), ∃ t, rM f i s ks = s ++ t
 | [], i, s => ⟨[41], rfl⟩
 | k :: ks, i, s => by
  unfold rM
  have e : ∃ t0, (if i = 0 then s else s ++ [32]) = s ++ t0 := by
   by_cases h : i = 0
   ·exact ⟨[], by simp [h]⟩
   ·exact ⟨[32], by simp [h]⟩
  obtain ⟨t0, e⟩ := e
  rw [e]
  split
  ·exact ⟨t0 ++ [46, 46] ++ [41], by simp⟩
  ·obtain ⟨t, ht⟩ := aYj f ks (i + 1) ((s ++ t0) ++ f k)
   exact ⟨t0 ++ (f k ++ t), by rw [ht]; simp⟩
theorem aYu {α : Type} (f : α → List Nat) : ∀ (ks : List α) (i : Nat) (s : List Nat), ∃ t, rfL f i s ks = s ++ t
 | [], i, s => ⟨[41], rfl⟩
 | k :: ks, i, s => by
  unfold rfL
  have e : ∃ t0, (if i = 0 then s else s ++ [32]) = s ++ t0 := by
   by_cases h : i = 0
   ·exact ⟨[], by simp [h]⟩
   ·exact ⟨[32], by simp [h]⟩
  obtain ⟨t0, e⟩ := e
  rw [e]
  split
  ·obtain ⟨t, ht⟩ := aYu f ks (i + 1) ((s ++ t0) ++ (if i = 20 then [46, 46] else f k))
   exact ⟨t0 ++ ((if i = 20 then [46, 46] else f k) ++ t), by rw [ht]; simp⟩
  ·exact ⟨[41], rfl⟩
theorem cCm {α : Type} (f : α → List Nat) (i : Nat) (hi : ¬ i ≤ 20) (s : List Nat) (ks : List α) : rfL f i s ks = s ++ [41] := by
 cases ks with
 | nil => rfl
 | cons k ks => unfold rfL; rw [if_neg hi]
theorem xK {α : Type} {f g : α → List Nat} : ∀ (ks : List α) (i : Nat) (s s' : List Nat), i ≤ 20 → (∀ k ∈ ks, EqK (f k) (g k)) → EqK s s' → EqK (rM f i s ks) (rfL g i s' ks)
 | [], i, s, s', hi, hf, h => h.post [41]
 | k :: ks, i, s, s', hi, hf, h => by
  have h1 : EqK (if i = 0 then s else s ++ [32]) (if i = 0 then s' else s' ++ [32]) := by
   by_cases c : i = 0
   ·simpa [c] using h
   ·simpa [c] using h.post [32]
  unfold rM rfL
  rw [if_pos hi]
  generalize (if i = 0 then s else s ++ [32]) = t at h1 ⊢
  generalize (if i = 0 then s' else s' ++ [32]) = t' at h1 ⊢
  by_cases c : i = 20
  ·rw [if_pos (.inl c), if_pos c, cCm g (i + 1) (by omega)]
   exact (h1.post [46, 46]).post [41]
  ·by_cases c2 : 1000 < t.length
   ·rw [if_pos (.inr c2), if_neg c]
    obtain ⟨u, hu⟩ := aYu g ks (i + 1) (t' ++ g k)
    rw [hu, List.append_assoc, List.append_assoc]
    exact h1.long (by omega) _ _
   ·rw [if_neg (by simp [c]; omega), if_neg c]
    refine xK ks (i + 1) _ _ (by omega) (fun x hx => hf x (by simp [hx])) ?_
    rcases h1 with rfl | ⟨q1, q2, q3⟩
    ·exact (hf k (by simp)).pre t
    ·exact EqK.long (.inr ⟨q1, q2, q3⟩) q1 _ _
theorem aBz {α β : Type} {f : α → List Nat} {g : β → List Nat} : ∀ (ks : List α) (js : List β) (i : Nat) (s : List Nat), ks.map f = js.map g → rM f i s ks = rM g i s js
 | [], [], i, s, _ => rfl
 | [], j :: js, i, s, h => by cases h
 | k :: ks, [], i, s, h => by cases h
 | k :: ks, j :: js, i, s, h => by
  simp only [List.map_cons, List.cons.injEq] at h
  unfold rM
  rw [h.1, aBz ks js (i + 1) _ h.2]
def fR : List Nat → List Nat
 | [] => []
 | x :: l => if x = 39 then x :: 39 :: fR l else x :: fR l
def nm16 : List (List Nat) := [[79,98,106,101,99,116],[67,108,97,115,115],[85,110,100,101,102,105,110,101,100,79,98,106,101,99,116],[66,111,111,108,101,97,110],[84,114,117,101],[70,97,108,115,101],[73,110,116,101,103,101,114],[83,109,97,108,108,73,110,116,101,103,101,114],[76,97,114,103,101,73,110,116,101,103,101,114],[65,114,114,97,121],[83,116,114,105,110,103],[83,121,109,98,111,108],[66,108,111,99,107],[67,111,110,116,101,120,116],[77,101,116,104,111,100],[77,101,115,115,97,103,101]]
def lkA (it : Int → List Nat) (k n : Int) (tx : List Nat) : List Nat :=
 if k = 0 then it n else if k = 1 then 39 :: (fR tx ++ [39]) else if k = 2 then 35 :: tx
 else if k = 4 then [97, 32, 80, 111, 105, 110, 116] else if k = 5 then [97, 110, 32, 69, 103, 103]
 else if k = 6 then nm16.getD n.toNat [] else if k = 8 then [116, 114, 117, 101] else if k = 9 then [102, 97, 108, 115, 101] else [110, 105, 108]
def lA (it : Int → List Nat) : Nat → Th → List Nat
 | 0, .mk k n tx ks => if k = 3 then [40, 46, 46, 41] else lkA it k n tx
 | d + 1, .mk k n tx ks => if k = 3 then rM (lA it d) 0 [40] ks else lkA it k n tx
def rfT (it : Int → List Nat) : Nat → Th → List Nat
 | 0, .mk k n tx ks => if k = 3 then [40, 46, 46, 41] else lkA it k n tx
 | d + 1, .mk k n tx ks => if k = 3 then rfL (rfT it d) 0 [40] ks else lkA it k n tx
theorem pV (it : Int → List Nat) : ∀ (d : Nat) (t : Th), EqK (lA it d t) (rfT it d t)
 | 0, .mk k n tx ks => EqK.refl _
 | d + 1, .mk k n tx ks => by
  unfold lA rfT
  split
  ·exact xK ks 0 _ _ (by omega) (fun k _ => pV it d k) (EqK.refl _)
  ·exact EqK.refl _
def bV (d : Nat) (k : Int) : Int := if k < 0 ∨ 9 < k ∨ (k = 3 ∧ d = 0) then 7 else k
def pZ (k n : Int) : Int :=
 let n := if k = 0 ∧ (n < -1152921504606846976 ∨ 1152921504606846976 < n) then 7 else n
 if k = 6 then (if n < 0 then -(n + 1) else n).tmod 16 else n
def kV (k : Int) (tx : List Nat) : List Nat := if k = 2 ∧ tx.take 60 = [] then [115] else tx.take 60
mutual
def Th.sz : Th → Nat
 | .mk _ _ _ ks => 1 + oW ks
def oW : List Th → Nat
 | [] => 0
 | t :: ts => t.sz + oW ts
end
mutual
def Th.ok : Th → Prop
 | .mk k n tx ks => 0 ≤ k ∧ k ≤ 9 ∧ (k = 0 → -1152921504606846976 ≤ n ∧ n ≤ 1152921504606846976) ∧ tx.length ≤ 200 ∧ (k = 2 → 1 ≤ tx.length ∧ tx.length ≤ 60) ∧ (k = 6 → 0 ≤ n ∧ n < 16) ∧ ks.length ≤ 30 ∧ (∀ c ∈ tx, c < 256) ∧ okL ks
def okL : List Th → Prop
 | [] => True
 | t :: ts => t.ok ∧ okL ts
end
theorem aAx (d : Nat) (k : Int) : 0 ≤ bV d k ∧ bV d k ≤ 9 := by
 unfold bV
 split <;> omega
theorem aFb (k n : Int) : (k = 0 → -1152921504606846976 ≤ pZ k n ∧ pZ k n ≤ 1152921504606846976) ∧ (k = 6 → 0 ≤ pZ k n ∧ pZ k n < 16) := by
 unfold pZ
 constructor
 ·intro h
  subst h
  dsimp only
  rw [if_neg (by decide)]
  split <;> omega
 ·intro h
  subst h
  dsimp only
  rw [if_pos rfl, if_neg (by omega : ¬ ((6 : Int) = 0 ∧ (n < -1152921504606846976 ∨ 1152921504606846976 < n)))]
  have h0 : 0 ≤ (if n < 0 then -(n + 1) else n) := by split <;> omega
  rw [Int.tmod_eq_emod_of_nonneg h0]
  omega
theorem yT (k : Int) (tx : List Nat) (h : ∀ c ∈ tx, c < 256) : (kV k tx).length ≤ 60 ∧ (k = 2 → 1 ≤ (kV k tx).length) ∧ ∀ c ∈ kV k tx, c < 256 := by
 unfold kV
 split
 ·refine ⟨by simp, fun _ => by simp, fun c hc => ?_⟩
  simp at hc
  omega
 ·rename_i q
  refine ⟨by rw [List.length_take]; omega, fun hk => ?_, fun c hc => h c (List.mem_of_mem_take hc)⟩
  cases ht : tx.take 60 with
  | nil => exact absurd ⟨hk, ht⟩ q
  | cons a l => simp
end Go.Dd

namespace Go.Dd
open Go.Proofs
noncomputable def txW (M : MemV) (x : Int) : List Nat := (List.range (cE M x / 4)).map fun i => (M.t.get (bM x M.pl + 3 + i)).toNat
noncomputable def qL (M : MemV) (R : List Int) (x : Int) : Bool := decide (bM x M.pl ≠ 0 ∧ (cW M x = R.getD 12 0 ∨ cW M x = R.getD 13 0))
theorem isTxB_iff {M : MemV} {R : List Int} {x : Int} : qL M R x = true ↔ isTx M R x := decide_eq_true_iff
noncomputable def fY (M : MemV) (R : List Int) (c : Int) : List Nat := if isC M R c = true then (if qL M R (dV M c 0) = true then txW M (dV M c 0) else []) else []
def wU (x : Int) : List Nat := if x = 2 then [116, 114, 117, 101] else if x = 4 then [102, 97, 108, 115, 101] else [110, 105, 108]
def aBd (c : Nat) : Bool := Nat.beq c 65 || (Nat.beq c 69 || (Nat.beq c 73 || (Nat.beq c 79 || Nat.beq c 85)))
def aAr : List Nat → List Nat
 | [] => [97, 32]
 | c :: l => if aBd c = true then [97, 110, 32] ++ (c :: l) else [97, 32] ++ (c :: l)
noncomputable def jD (M : MemV) (R : List Int) (arr : List Nat) (x : Int) : List Nat :=
 if dK x M.pl = false then [63] else
 match jG M R x with
 | some n => bS n
 | none => if bM x M.pl = 0 then wU x
  else if qL M R x = true then (if cW M x = R.getD 13 0 then 35 :: txW M x else 39 :: (fR (txW M x) ++ [39]))
  else if cW M x = R.getD 11 0 then arr
  else if 0 ≤ jH M R x then fY M R x else aAr (fY M R (cW M x))
noncomputable def mK (M : MemV) (x : Int) : List Int := (List.range (cE M x / 4)).map fun i => dV M x i
noncomputable def eH (M : MemV) (R : List Int) : Nat → Int → List Nat
 | 0, x => jD M R [40, 46, 46, 41] x
 | d + 1, x => jD M R (rM (eH M R d) 0 [40] (mK M x)) x
section
variable {h h' : Hp} {M M' : MemV} {R R' : List Int} {es es' : List (DV × DV)} {k : Nat} {z : Prop} {CL : List Nat}
theorem GI.txO (I : GI M R CL z) (G : Good M) {x : Int} (h : isTx M R x) : TxO M (cW M x) x (txW M x) := by
 obtain ⟨s, T⟩ := I.tx G h
 have hh : cE M x / 4 = s.length := by
  have : cE M x = s.length * 4 + 2 := by unfold cE; rw [T.hd]
  omega
 have e : txW M x = s := by
  refine List.ext_getElem? fun i => ?_
  unfold txW
  rw [List.getElem?_map, hh]
  rcases Nat.lt_or_ge i s.length with q | q
  ·obtain ⟨c, hc⟩ : ∃ c, s[i]? = some c := ⟨s[i], by simp [q]⟩
   rw [List.getElem?_eq_getElem (by simpa using q), hc]
   simp only [List.getElem_range, Option.map_some, T.get i c hc]
   rfl
  ·rw [List.getElem?_eq_none q, List.getElem?_eq_none (by simpa using q)]
   rfl
 rw [e]
 exact T
theorem TxO.txW {c x : Int} {s : List Nat} (I : GI M R CL z) (G : Good M) (hc : c = R.getD 12 0 ∨ c = R.getD 13 0) (T : TxO M c x s) : isTx M R x ∧ cW M x = c ∧ Go.Dd.txW M x = s := by
 have e : cW M x = c := T.cls
 have t : isTx M R x := ⟨T.at0, by rw [e]; exact hc⟩
 exact ⟨t, e, (I.txO G t).inj T⟩
theorem jC {x : Int} (ha : bM x M.pl ≠ 0) (hc : cW M x ≠ R.getD 10 0) : jG M R x = none := by
 unfold jG
 rw [if_neg (fun q => ha (aMn q)), if_neg (fun q => hc q.1.2)]
theorem iM (I : GI M R CL z) {i j : Nat} (hi : i < 16) (hj : j < 16) (h : i ≠ j) : R.getD (2 + i) 0 ≠ R.getD (2 + j) 0 := by
 rw [I.rk i hi, I.rk j hj]
 intro e
 have := Int.ofNat.inj e
 omega
structure Nms (pt eg : Int) (M : MemV) (R : List Int) : Prop where
 kn : ∀ i, i < 16 → isC M R (R.getD (2 + i) 0) = true ∧ fY M R (R.getD (2 + i) 0) = nm16.getD i [] ∧ 0 ≤ jH M R (R.getD (2 + i) 0) ∧ isTx M R (dV M (R.getD (2 + i) 0) 0)
 ptc : isC M R pt = true ∧ fY M R pt = [80, 111, 105, 110, 116] ∧ isTx M R (dV M pt 0)
 egc : isC M R eg = true ∧ fY M R eg = [69, 103, 103] ∧ isTx M R (dV M eg 0)
 np : ∀ i, i < 16 → pt ≠ R.getD (2 + i) 0
 ne : ∀ i, i < 16 → eg ≠ R.getD (2 + i) 0
theorem sI {c : Int} (h : isC M R c = true) : bM c M.pl ≠ 0 ∧ cW M c = R.getD 3 0 := of_decide_eq_true h
theorem Stay.txW (S : Stay k M M' R R' es es') (I : GI M R CL z) (G : Good M) {x : Int} (hx : bM x M.pl ≠ 0) : Go.Dd.txW M' x = Go.Dd.txW M x := by
 unfold Go.Dd.txW
 rw [S.head I G hx, S.at' x hx]
 obtain ⟨_, _, h4, _⟩ := I.headOb G hx
 refine List.map_congr_left fun i hi => ?_
 have := List.mem_range.1 hi
 rw [S.old _ (by omega)]
theorem Stay.name (S : Stay k M M' R R' es es') (I : GI M R CL z) (G : Good M) {c : Int} (hc : Go.Dd.isC M R c = true) (ht : Go.Dd.isTx M R (dV M c 0)) : Go.Dd.isC M' R' c = true ∧ fY M' R' c = fY M R c ∧ Go.Dd.isTx M' R' (dV M' c 0) := by
 have ha := (sI hc).1
 have e1 := S.isC I G ha
 have e2 := S.get I G ha 0
 have e3 := S.isTx I G (iP ht.1)
 have t' : Go.Dd.isTx M' R' (dV M' c 0) := by rw [e2]; exact e3.2 ht
 refine ⟨by rw [e1]; exact hc, ?_, t'⟩
 unfold fY
 rw [e1, if_pos hc, if_pos hc, if_pos (isTxB_iff.2 t'), if_pos (isTxB_iff.2 ht), e2, S.txW I G ht.1]
theorem Nms.stay {pt eg : Int} (N : Nms pt eg M R) (S : Stay k M M' R R' es es') (I : GI M R CL z) (G : Good M) : Nms pt eg M' R' where
 kn := fun i hi => by
  obtain ⟨a, b, c, d⟩ := N.kn i hi
  have er : R'.getD (2 + i) 0 = R.getD (2 + i) 0 := by
   have := S.r (1 + i)
   rw [show 1 + i + 1 = 2 + i by omega] at this
   exact this
  obtain ⟨a', b', d'⟩ := S.name I G a d
  rw [er]
  exact ⟨a', by rw [b', b], by rw [S.kind I G (sI a).1]; exact c, d'⟩
 ptc := by
  obtain ⟨a, b, d⟩ := N.ptc
  obtain ⟨a', b', d'⟩ := S.name I G a d
  exact ⟨a', by rw [b', b], d'⟩
 egc := by
  obtain ⟨a, b, d⟩ := N.egc
  obtain ⟨a', b', d'⟩ := S.name I G a d
  exact ⟨a', by rw [b', b], d'⟩
 np := fun i hi => by
  have := S.r (1 + i)
  rw [show 1 + i + 1 = 2 + i by omega] at this
  rw [this]
  exact N.np i hi
 ne := fun i hi => by
  have := S.r (1 + i)
  rw [show 1 + i + 1 = 2 + i by omega] at this
  rw [this]
  exact N.ne i hi
mutual
def Lk (pt eg : Int) (M : MemV) (R : List Int) : Th → Int → Prop
 | .mk k n tx ks, x => dK x M.pl = true ∧
  ((k = 0 ∧ jG M R x = some n) ∨ (k = 1 ∧ TxO M (R.getD 12 0) x tx) ∨ (k = 2 ∧ TxO M (R.getD 13 0) x tx) ∨
   (k = 3 ∧ bM x M.pl ≠ 0 ∧ cW M x = R.getD 11 0 ∧ cE M x / 4 = ks.length ∧ LkL pt eg M R x 0 ks) ∨
   (k = 4 ∧ bM x M.pl ≠ 0 ∧ cW M x = pt) ∨ (k = 5 ∧ bM x M.pl ≠ 0 ∧ cW M x = eg) ∨
   (k = 6 ∧ 0 ≤ n ∧ n < 16 ∧ x = R.getD (2 + n.toNat) 0) ∨ (k = 7 ∧ x = 0) ∨ (k = 8 ∧ x = 2) ∨ (k = 9 ∧ x = 4))
def LkL (pt eg : Int) (M : MemV) (R : List Int) (x : Int) : Nat → List Th → Prop
 | _, [] => True
 | i, t :: ts => Lk pt eg M R t (dV M x i) ∧ LkL pt eg M R x (i + 1) ts
end
mutual
theorem Lk.stay {pt eg : Int} (S : Stay k M M' R R' es es') (I : GI M R CL z) (G : Good M) : ∀ (t : Th) (x : Int), Lk pt eg M R t x → Lk pt eg M' R' t x
 | .mk kd n tx ks, x, H => by
  unfold Lk at H ⊢
  obtain ⟨hm, H⟩ := H
  have r : ∀ i, R'.getD (i + 1) 0 = R.getD (i + 1) 0 := S.r
  refine ⟨S.may hm, ?_⟩
  rcases H with ⟨rfl, H⟩ | ⟨rfl, H⟩ | ⟨rfl, H⟩ | ⟨rfl, h1, h2, h3, h4⟩ | ⟨rfl, h1, h2⟩ | ⟨rfl, h1, h2⟩ | ⟨rfl, h1, h2, h3⟩ | ⟨rfl, H⟩ | ⟨rfl, H⟩ | ⟨rfl, H⟩
  ·exact .inl ⟨rfl, by rw [S.val I G hm]; exact H⟩
  ·exact .inr (.inl ⟨rfl, by rw [r 11]; exact S.tx _ _ _ H⟩)
  ·exact .inr (.inr (.inl ⟨rfl, by rw [r 12]; exact S.tx _ _ _ H⟩))
  ·refine .inr (.inr (.inr (.inl ⟨rfl, by rw [S.at' x h1]; exact h1, by rw [S.clo I G h1, r 10]; exact h2, by rw [S.head I G h1]; exact h3, LkL.stay S I G x h1 0 ks h4⟩)))
  ·exact .inr (.inr (.inr (.inr (.inl ⟨rfl, by rw [S.at' x h1]; exact h1, by rw [S.clo I G h1]; exact h2⟩))))
  ·exact .inr (.inr (.inr (.inr (.inr (.inl ⟨rfl, by rw [S.at' x h1]; exact h1, by rw [S.clo I G h1]; exact h2⟩)))))
  ·refine .inr (.inr (.inr (.inr (.inr (.inr (.inl ⟨rfl, h1, h2, ?_⟩))))))
   have := r (1 + n.toNat)
   rw [show 1 + n.toNat + 1 = 2 + n.toNat by omega] at this
   rw [this]
   exact h3
  ·exact .inr (.inr (.inr (.inr (.inr (.inr (.inr (.inl ⟨rfl, H⟩)))))))
  ·exact .inr (.inr (.inr (.inr (.inr (.inr (.inr (.inr (.inl ⟨rfl, H⟩))))))))
  ·exact .inr (.inr (.inr (.inr (.inr (.inr (.inr (.inr (.inr ⟨rfl, H⟩))))))))
theorem LkL.stay {pt eg : Int} (S : Stay k M M' R R' es es') (I : GI M R CL z) (G : Good M) (x : Int) (hx : bM x M.pl ≠ 0) : ∀ (i : Nat) (ts : List Th), LkL pt eg M R x i ts → LkL pt eg M' R' x i ts
 | _, [], _ => by unfold LkL; trivial
 | i, t :: ts, H => by
  unfold LkL at H ⊢
  exact ⟨by rw [S.get I G hx]; exact Lk.stay S I G t _ H.1, LkL.stay S I G x hx (i + 1) ts H.2⟩
end
theorem kD {arr : List Nat} {x : Int} (hm : dK x M.pl = true) (ha : bM x M.pl ≠ 0) (hv : jG M R x = none) : jD M R arr x =
  if qL M R x = true then (if cW M x = R.getD 13 0 then 35 :: txW M x else 39 :: (fR (txW M x) ++ [39]))
  else if cW M x = R.getD 11 0 then arr
  else if 0 ≤ jH M R x then fY M R x else aAr (fY M R (cW M x)) := by
 unfold jD
 rw [hm, hv]
 simp only [Bool.true_eq_false, if_false, if_neg ha]
theorem aJt {x : Int} (h : cW M x ≠ R.getD 3 0) : ¬ 0 ≤ jH M R x := by
 unfold jH
 have : isC M R x = false := decide_eq_false fun q => h q.2
 rw [this]
 simp
theorem aSd {x : Int} (h1 : cW M x ≠ R.getD 12 0) (h2 : cW M x ≠ R.getD 13 0) : ¬ qL M R x = true := fun q => by
 rcases (isTxB_iff.1 q).2 with q | q
 ·exact h1 q
 ·exact h2 q
theorem aXe {pt eg : Int} (N : Nms pt eg M R) (I : GI M R CL z) (G : Good M) {kd n : Int} {tx : List Nat} {ks : List Th} {x : Int} (H : Lk pt eg M R (.mk kd n tx ks) x) (hk3 : kd ≠ 3) (arr : List Nat) : jD M R arr x = lkA bS kd n tx := by
 unfold Lk at H
 obtain ⟨hm, H⟩ := H
 rcases H with ⟨rfl, H⟩ | ⟨rfl, H⟩ | ⟨rfl, H⟩ | ⟨rfl, h1, h2, h3, h4⟩ | ⟨rfl, h1, h2⟩ | ⟨rfl, h1, h2⟩ | ⟨rfl, h1, h2, h3⟩ | ⟨rfl, H⟩ | ⟨rfl, H⟩ | ⟨rfl, H⟩
 ·unfold jD
  rw [hm, H]
  rfl
 ·obtain ⟨t, e, e2⟩ := H.txW I G (.inl rfl)
  rw [kD hm H.at0 (jC H.at0 (by rw [e]; exact iM I (i := 10) (j := 8) (by omega) (by omega) (by omega))), if_pos (isTxB_iff.2 t), e, if_neg (iM I (i := 10) (j := 11) (by omega) (by omega) (by omega)), e2]
  rfl
 ·obtain ⟨t, e, e2⟩ := H.txW I G (.inr rfl)
  rw [kD hm H.at0 (jC H.at0 (by rw [e]; exact iM I (i := 11) (j := 8) (by omega) (by omega) (by omega))), if_pos (isTxB_iff.2 t), e, if_pos rfl, e2]
  rfl
 ·exact absurd rfl hk3
 ·rw [kD hm h1 (jC h1 (by rw [h2]; exact N.np 8 (by omega))), if_neg (aSd (by rw [h2]; exact N.np 10 (by omega)) (by rw [h2]; exact N.np 11 (by omega))), if_neg (by rw [h2]; exact N.np 9 (by omega)), if_neg (aJt (by rw [h2]; exact N.np 1 (by omega))), h2, N.ptc.2.1]
  rfl
 ·rw [kD hm h1 (jC h1 (by rw [h2]; exact N.ne 8 (by omega))), if_neg (aSd (by rw [h2]; exact N.ne 10 (by omega)) (by rw [h2]; exact N.ne 11 (by omega))), if_neg (by rw [h2]; exact N.ne 9 (by omega)), if_neg (aJt (by rw [h2]; exact N.ne 1 (by omega))), h2, N.egc.2.1]
  rfl
 ·obtain ⟨j, rfl⟩ : ∃ j : Nat, n = Int.ofNat j := ⟨n.toNat, by simp; omega⟩
  have hj : j < 16 := by simp at h2; omega
  have h3 : x = R.getD (2 + j) 0 := h3
  obtain ⟨a, b, c, d⟩ := N.kn j hj
  rw [← h3] at a b c d
  obtain ⟨a1, a2⟩ := sI a
  rw [kD hm a1 (jC a1 (by rw [a2]; exact iM I (i := 1) (j := 8) (by omega) (by omega) (by omega))), if_neg (aSd (by rw [a2]; exact iM I (i := 1) (j := 10) (by omega) (by omega) (by omega)) (by rw [a2]; exact iM I (i := 1) (j := 11) (by omega) (by omega) (by omega))), if_neg (by rw [a2]; exact iM I (i := 1) (j := 9) (by omega) (by omega) (by omega)), if_pos c, b]
  rfl
 all_goals
  subst H
  unfold jD
  rw [hm]
  rfl
theorem aZd {pt eg : Int} {f : Int → List Nat} {g : Th → List Nat} (hf : ∀ t y, Lk pt eg M R t y → f y = g t) : ∀ (ts : List Th) (i : Nat) (x : Int), LkL pt eg M R x i ts → ((List.range' i ts.length).map fun j => dV M x j).map f = ts.map g
 | [], i, x, _ => rfl
 | t :: ts, i, x, H => by
  unfold LkL at H
  simp only [List.length_cons, List.range'_succ, List.map_cons]
  rw [hf t _ H.1, aZd hf ts (i + 1) x H.2]
theorem cFr {pt eg : Int} (N : Nms pt eg M R) (I : GI M R CL z) (G : Good M) : ∀ (d : Nat) (t : Th) (x : Int), Lk pt eg M R t x → eH M R d x = lA bS d t := by
 intro d
 have arr : ∀ (a : List Nat) (n : Int) (tx : List Nat) (ks : List Th) (x : Int), Lk pt eg M R (.mk 3 n tx ks) x → jD M R a x = a ∧ cE M x / 4 = ks.length ∧ LkL pt eg M R x 0 ks := fun a n tx ks x H => by
  unfold Lk at H
  obtain ⟨hm, H⟩ := H
  rcases H with ⟨q, H⟩ | ⟨q, H⟩ | ⟨q, H⟩ | ⟨_, h1, h2, h3, h4⟩ | ⟨q, _⟩ | ⟨q, _⟩ | ⟨q, _⟩ | ⟨q, _⟩ | ⟨q, _⟩ | ⟨q, _⟩
  case inr.inr.inr.inl =>
   refine ⟨?_, h3, h4⟩
   rw [kD hm h1 (jC h1 (by rw [h2]; exact iM I (i := 9) (j := 8) (by omega) (by omega) (by omega))), if_neg (aSd (by rw [h2]; exact iM I (i := 9) (j := 10) (by omega) (by omega) (by omega)) (by rw [h2]; exact iM I (i := 9) (j := 11) (by omega) (by omega) (by omega))), if_pos h2]
  all_goals exact absurd q (by decide)
 induction d with
 | zero =>
  rintro ⟨kd, n, tx, ks⟩ x H
  unfold eH lA
  by_cases h3 : kd = 3
  ·subst h3
   rw [if_pos rfl]
   exact (arr _ n tx ks x H).1
  ·rw [if_neg h3]
   exact aXe N I G H h3 _
 | succ d ih =>
  rintro ⟨kd, n, tx, ks⟩ x H
  unfold eH lA
  by_cases h3 : kd = 3
  ·subst h3
   rw [if_pos rfl]
   obtain ⟨e1, e2, e3⟩ := arr (rM (eH M R d) 0 [40] (mK M x)) n tx ks x H
   rw [e1]
   refine aBz _ _ 0 _ ?_
   unfold mK
   rw [e2, List.range_eq_range']
   exact aZd (fun t y h => ih t y h) ks 0 x e3
  ·rw [if_neg h3]
   exact aXe N I G H h3 _
end
end Go.Dd

namespace Go.Dd
open Go.Proofs
def GrZ (sz : Nat) (x : DV) (n : Nat) (cells : List DV) (lo : Nat) (h : Hp) : Prop :=
 cells.length = n * sz ∧ (∀ v ∈ cells, v.one = true) ∧ ((x = .l0 ∧ n = 0) ∨ ∃ b, x = .l b 0 n n ∧ h.bl.get b = some (.row (.gr sz) cells) ∧ lo ≤ b.toNat ∧ b.toNat < h.next.toNat)
theorem GrZ.nil (sz lo : Nat) (h : Hp) : GrZ sz .l0 0 [] lo h := ⟨by simp, by simp, .inl ⟨rfl, rfl⟩⟩
theorem GrZ.app {sz n lo : Nat} {x : DV} {cells : List DV} {h : Hp} (S : GrZ sz x n cells lo h) (hlo : lo ≤ h.next.toNat) {zeros c : List DV} (hsz : 0 < sz) (hz : zeros.length = sz) (hc : c.length = sz) (ho : ∀ v ∈ c, v.one = true) {bytes : Nat} (hb : (n + 1) * bytes ≤ jU) :
  ∃ y g, aJ zeros 1 [(0, sz, .a c)] h = some (y, g) ∧ ∃ x' h', bB sz bytes x y g = some (x', h') ∧ GrZ sz x' (n + 1) (cells ++ c) lo h' ∧ Lo lo h h' ∧
   (∀ p : Pos, p.toNat < h.next.toNat → (∀ m, x ≠ .l p 0 m m) → h'.bl.get p = h.bl.get p) ∧ ∀ p m, x' = .l p 0 m m → h.next.toNat ≤ p.toNat := by
 obtain ⟨s1, s2, S⟩ := S
 have l' : (cells ++ c).length = (n + 1) * sz := by rw [List.length_append, s1, hc, Nat.add_mul, Nat.one_mul]
 have o' : ∀ v ∈ cells ++ c, v.one = true := fun v hv => by
  rcases List.mem_append.1 hv with hv | hv
  ·exact s2 v hv
  ·exact ho v hv
 have fd : iZ zeros [(0, sz, .a c)] = some c := by
  simp only [iZ, cT, hc, Nat.zero_add, hz, Nat.le_refl, and_self, if_true, List.take_zero, List.nil_append]
  rw [List.drop_eq_nil_of_le (by omega), List.append_nil]
 refine ⟨.l h.next 0 1 1, ⟨h.next.succ, Tr.set (.row .ex c) h.next h.bl⟩, ?_, ?_⟩
 ·simp only [aJ, fd]
 ·have src : rB sz (.l h.next 0 1 1) ⟨h.next.succ, Tr.set (.row .ex c) h.next h.bl⟩ = some (1, c) := by
   have : cellsAt h.next 0 (1 * sz) ⟨h.next.succ, Tr.set (.row .ex c) h.next h.bl⟩ = some c := by
    simp only [cellsAt, rowOf, dKc, List.drop_zero, Nat.one_mul]
    rw [← hc]
    exact qG c ho
   simp only [rB, this]
  have ns := dKd h.next
  have ns2 := dKd h.next.succ
  rcases S with ⟨rfl, rfl⟩ | ⟨b, rfl, hbg, h1, h2⟩
  ·have hn : cells = [] := by simpa using s1
   subst hn
   refine ⟨.l h.next.succ 0 1 1, ⟨h.next.succ.succ, Tr.set (.row (.gr sz) c) h.next.succ (Tr.set (.row .ex c) h.next h.bl)⟩, ?_, ⟨l', o', ?_⟩, ?_, fun p hp _ => ?_, fun p m e => by cases e; omega⟩
   ·unfold bB
    rw [src]
    dsimp only
    rw [if_neg (by simp), if_pos (by simpa using hb)]
   ·exact .inr ⟨h.next.succ, rfl, dKc _ _ _, by omega, by show _ < h.next.succ.succ.toNat; omega⟩
   ·refine ⟨by show _ ≤ h.next.succ.succ.toNat; omega, fun p hp => ?_⟩
    show (Tr.set _ h.next.succ (Tr.set _ h.next h.bl)).get p = _
    rw [dKb _ _ _ _ (fun e => by subst e; omega), dKb _ _ _ _ (fun e => by subst e; omega)]
   ·show (Tr.set _ h.next.succ (Tr.set _ h.next h.bl)).get p = _
    rw [dKb _ _ _ _ (fun e => by subst e; omega), dKb _ _ _ _ (fun e => by subst e; omega)]
  ·have hne : b ≠ h.next := fun e => by subst e; omega
   have hget : (Tr.set (.row .ex c) h.next h.bl).get b = some (.row (.gr sz) cells) := by rw [dKb _ _ _ _ hne]; exact hbg
   have hcells : cellsAt b 0 (n * sz) ⟨h.next.succ, Tr.set (.row .ex c) h.next h.bl⟩ = some cells := by
    simp only [cellsAt, rowOf, hget, List.drop_zero]
    rw [← s1]
    exact qG cells s2
   refine ⟨.l h.next.succ 0 (n + 1) (n + 1), ⟨h.next.succ.succ, Tr.set (.row (.gr sz) (cells ++ c)) h.next.succ (Tr.set (.row .sp (bU 0 cells)) b (Tr.set (.row .ex c) h.next h.bl))⟩, ?_, ⟨l', o', ?_⟩, ?_, fun p hp hx => ?_, fun p m e => by cases e; omega⟩
   ·unfold bB
    rw [src]
    dsimp only
    rw [if_neg (by omega), hget, hcells]
    dsimp only
    rw [if_pos hb, if_pos ⟨rfl, by rw [s1, Nat.zero_add]⟩]
   ·exact .inr ⟨h.next.succ, rfl, dKc _ _ _, by omega, by show _ < h.next.succ.succ.toNat; omega⟩
   ·refine ⟨by show _ ≤ h.next.succ.succ.toNat; omega, fun p hp => ?_⟩
    show (Tr.set _ h.next.succ (Tr.set _ b (Tr.set _ h.next h.bl))).get p = _
    rw [dKb _ _ _ _ (fun e => by subst e; omega), dKb _ _ _ _ (fun e => by subst e; omega), dKb _ _ _ _ (fun e => by subst e; omega)]
   ·show (Tr.set _ h.next.succ (Tr.set _ b (Tr.set _ h.next h.bl))).get p = _
    rw [dKb _ _ _ _ (fun e => by subst e; omega), dKb _ _ _ _ (fun e => by subst e; exact hx n rfl), dKb _ _ _ _ (fun e => by subst e; omega)]
def Qr (h : Hp) (b : Pos) (l : List DV) : Prop := (∃ kd, h.bl.get b = some (.row kd l)) ∧ (b.toNat < 1024 ∨ 1029 ≤ b.toNat) ∧ b.toNat < h.next.toNat
theorem Qr.up {h h' : Hp} {b : Pos} {l : List DV} (q : Qr h b l) (u : Up h h') : Qr h' b l := by
 obtain ⟨⟨kd, h1⟩, h2, h3⟩ := q
 exact ⟨⟨kd, by rw [u.get b h2 h3]; exact h1⟩, h2, Nat.lt_of_lt_of_le h3 u.next⟩
mutual
def TV (q : Pos → Prop) (h : Hp) : Th → List DV → Prop
 | .mk k n tx ks, ds => ∃ s, ds = [iD k, iD n, .s tx, s] ∧ s.one = true ∧ ((ks = [] ∧ s = .l0) ∨ ∃ b row, s = .l b 0 ks.length ks.length ∧ Qr h b row ∧ q b ∧ TVL q h ks row)
def TVL (q : Pos → Prop) (h : Hp) : List Th → List DV → Prop
 | [], row => row = []
 | t :: ts, row => ∃ c r, row = c ++ r ∧ TV q h t c ∧ TVL q h ts r
end
mutual
theorem TV.mv {q q' : Pos → Prop} {h h' : Hp} (hn : h.next.toNat ≤ h'.next.toNat) (hk : ∀ p, q p → p.toNat < h.next.toNat → (p.toNat < 1024 ∨ 1029 ≤ p.toNat) → h'.bl.get p = h.bl.get p ∧ q' p) : ∀ (t : Th) (ds : List DV), TV q h t ds → TV q' h' t ds
 | .mk k n tx ks, ds, H => by
  unfold TV at H ⊢
  obtain ⟨s, h1, h2, h3⟩ := H
  refine ⟨s, h1, h2, ?_⟩
  rcases h3 with h3 | ⟨b, row, e, ⟨⟨kd, g1⟩, g2, g3⟩, g4, r⟩
  ·exact .inl h3
  ·obtain ⟨e1, e2⟩ := hk b g4 g3 g2
   exact .inr ⟨b, row, e, ⟨⟨kd, by rw [e1]; exact g1⟩, g2, by omega⟩, e2, TVL.mv hn hk ks row r⟩
theorem TVL.mv {q q' : Pos → Prop} {h h' : Hp} (hn : h.next.toNat ≤ h'.next.toNat) (hk : ∀ p, q p → p.toNat < h.next.toNat → (p.toNat < 1024 ∨ 1029 ≤ p.toNat) → h'.bl.get p = h.bl.get p ∧ q' p) : ∀ (ts : List Th) (row : List DV), TVL q h ts row → TVL q' h' ts row
 | [], row, H => by unfold TVL at H ⊢; exact H
 | t :: ts, row, H => by
  unfold TVL at H ⊢
  obtain ⟨c, r, e, a, b⟩ := H
  exact ⟨c, r, e, TV.mv hn hk t c a, TVL.mv hn hk ts r b⟩
end
theorem TV.up {q : Pos → Prop} {h h' : Hp} (u : Up h h') (t : Th) (ds : List DV) (H : TV q h t ds) : TV q h' t ds := TV.mv u.next (fun p hq h1 h2 => ⟨u.get p h2 h1, hq⟩) t ds H
theorem TVL.up {q : Pos → Prop} {h h' : Hp} (u : Up h h') (ts : List Th) (row : List DV) (H : TVL q h ts row) : TVL q h' ts row := TVL.mv u.next (fun p hq h1 h2 => ⟨u.get p h2 h1, hq⟩) ts row H
theorem TV.shape {q : Pos → Prop} {h : Hp} {t : Th} {ds : List DV} (H : TV q h t ds) : ds.length = 4 ∧ ∀ v ∈ ds, v.one = true := by
 obtain ⟨k, n, tx, ks⟩ := t
 unfold TV at H
 obtain ⟨s, rfl, hs, _⟩ := H
 refine ⟨rfl, fun v hv => ?_⟩
 simp only [List.mem_cons, List.not_mem_nil, or_false] at hv
 rcases hv with rfl | rfl | rfl | rfl
 ·rfl
 ·rfl
 ·rfl
 ·exact hs
theorem TVL.app {q : Pos → Prop} {h : Hp} : ∀ {l l' : List Th} {c c' : List DV}, TVL q h l c → TVL q h l' c' → TVL q h (l ++ l') (c ++ c')
 | [], l', c, c', e, H => by unfold TVL at e; subst e; simpa using H
 | x :: l, l', _, c', H0, H => by
  unfold TVL at H0
  obtain ⟨c, r, rfl, a, b⟩ := H0
  rw [List.cons_append, List.append_assoc]
  unfold TVL
  exact ⟨c, r ++ c', rfl, a, TVL.app b H⟩
theorem TVL.one {q : Pos → Prop} {h : Hp} {t : Th} {c : List DV} (H : TV q h t c) : TVL q h [t] c := by
 unfold TVL
 exact ⟨c, [], by simp, H, by unfold TVL; rfl⟩
theorem kC {c r : List DV} (h1 : c.length = 4) (h2 : ∀ v ∈ c, v.one = true) : gJ 4 (c ++ r) = some c := by
 obtain ⟨c0, c1, c2, c3, rfl⟩ : ∃ c0 c1 c2 c3, c = [c0, c1, c2, c3] := by
  match c, h1 with
  | [c0, c1, c2, c3], _ => exact ⟨_, _, _, _, rfl⟩
 simp only [List.cons_append, gJ, h2 c0 (by simp), h2 c1 (by simp), h2 c2 (by simp), h2 c3 (by simp), if_true, Option.map_some]
theorem TVL.at {q : Pos → Prop} {h : Hp} : ∀ {ts : List Th} {row : List DV}, TVL q h ts row → row.length = ts.length * 4 ∧ ∀ (i : Nat) t, ts[i]? = some t → ∃ c, gJ 4 (row.drop (i * 4)) = some c ∧ TV q h t c
 | [], row, H => by
  unfold TVL at H
  subst H
  exact ⟨rfl, fun i t e => by simp at e⟩
 | t :: ts, row, H => by
  unfold TVL at H
  obtain ⟨c, r, rfl, a, b⟩ := H
  obtain ⟨q1, q2⟩ := TVL.at b
  obtain ⟨s1, s2⟩ := a.shape
  refine ⟨by rw [List.length_append, s1, q1, List.length_cons]; omega, fun i u e => ?_⟩
  cases i with
  | zero =>
   simp only [List.getElem?_cons_zero, bC] at e
   subst e
   exact ⟨c, by rw [Nat.zero_mul, List.drop_zero]; exact kC s1 s2, a⟩
  | succ i =>
   simp only [List.getElem?_cons_succ] at e
   obtain ⟨c', e1, e2⟩ := q2 i u e
   refine ⟨c', ?_, e2⟩
   rw [show (i + 1) * 4 = c.length + i * 4 by rw [s1]; omega, ← List.drop_drop, List.drop_left]
   exact e1
def SlK (h : Hp) (s : DV) (len : Nat) (cells : List DV) : Prop := ((s = .l0 ∨ s = .le) ∧ len = 0) ∨ ∃ b cap, s = .l b 0 len cap ∧ Qr h b cells
theorem SlK.up {h h' : Hp} {s : DV} {len : Nat} {cells : List DV} (q : SlK h s len cells) (u : Up h h') : SlK h' s len cells := by
 rcases q with q | ⟨b, cap, e, q⟩
 ·exact .inl q
 ·exact .inr ⟨b, cap, e, q.up u⟩
theorem SlK.len {h : Hp} {s : DV} {len : Nat} {cells : List DV} (q : SlK h s len cells) (g : Hp) : cO s g = some (iD len, g) := by
 rcases q with ⟨rfl | rfl, rfl⟩ | ⟨b, cap, rfl, q⟩ <;> rfl
def KidsR (F : List DV → Int → Th → Int → Prop) (len : Nat) (cells : List DV) : Nat → Nat → Int → List Th → Int → Prop
 | 0, _, left, ks, left' => ks = [] ∧ left' = left
 | m + 1, i, left, ks, left' => (¬ (i < len ∧ 0 < left) ∧ ks = [] ∧ left' = left) ∨
  (i < len ∧ 0 < left ∧ ∃ c t lm ts, gJ 4 (cells.drop (i * 4)) = some c ∧ F c left t lm ∧ KidsR F len cells m (i + 1) lm ts left' ∧ ks = t :: ts)
def uC (n : Int) : Prop := -9223372036854775808 ≤ n ∧ n ≤ 9223372036854775807
def FitR (h : Hp) : Nat → List DV → Int → Th → Int → Prop
 | 0, ds, left, t, left' => ∃ k n tx s len cells, ds = [iD k, iD n, .s tx, s] ∧ (∀ c ∈ tx, c < 256) ∧ uC k ∧ uC n ∧ SlK h s len cells ∧ len ≤ 9223372036854775807 ∧
  t = .mk (bV 0 k) (pZ (bV 0 k) n) (kV (bV 0 k) tx) [] ∧ left' = left - 1
 | d + 1, ds, left, t, left' => ∃ k n tx s len cells, ds = [iD k, iD n, .s tx, s] ∧ (∀ c ∈ tx, c < 256) ∧ uC k ∧ uC n ∧ SlK h s len cells ∧ len ≤ 9223372036854775807 ∧
  ((bV (d + 1) k ≠ 3 ∧ t = .mk (bV (d + 1) k) (pZ (bV (d + 1) k) n) (kV (bV (d + 1) k) tx) [] ∧ left' = left - 1) ∨
   (bV (d + 1) k = 3 ∧ ∃ ks, t = .mk 3 (pZ 3 n) (kV 3 tx) ks ∧ KidsR (FitR h d) len cells 30 0 (left - 1) ks left'))
theorem KidsR.mono {F G : List DV → Int → Th → Int → Prop} (hf : ∀ c l t m, F c l t m → G c l t m) {len : Nat} {cells : List DV} : ∀ (m i : Nat) (left : Int) (ks : List Th) (left' : Int), KidsR F len cells m i left ks left' → KidsR G len cells m i left ks left'
 | 0, i, left, ks, left', H => H
 | m + 1, i, left, ks, left', H => by
  unfold KidsR at H ⊢
  rcases H with H | ⟨a, b, c, t, lm, ts, e1, e2, e3, e4⟩
  ·exact .inl H
  ·exact .inr ⟨a, b, c, t, lm, ts, e1, hf _ _ _ _ e2, KidsR.mono hf m _ _ _ _ e3, e4⟩
theorem FitR.up {h h' : Hp} (u : Up h h') : ∀ (d : Nat) (ds : List DV) (left : Int) (t : Th) (left' : Int), FitR h d ds left t left' → FitR h' d ds left t left'
 | 0, ds, left, t, left', H => by
  unfold FitR at H ⊢
  obtain ⟨k, n, tx, s, len, cells, a, b, c, e, f, r⟩ := H
  exact ⟨k, n, tx, s, len, cells, a, b, c, e, f.up u, r⟩
 | d + 1, ds, left, t, left', H => by
  unfold FitR at H ⊢
  obtain ⟨k, n, tx, s, len, cells, a, b, c, e, f, g, r⟩ := H
  refine ⟨k, n, tx, s, len, cells, a, b, c, e, f.up u, g, ?_⟩
  rcases r with r | ⟨r, ks, q1, q2⟩
  ·exact .inl r
  ·exact .inr ⟨r, ks, q1, q2.mono (fun _ _ _ _ => FitR.up u d _ _ _ _) _ _ _ _ _⟩
end Go.Dd

namespace Go.Dd
open Go.Proofs
theorem tZ : ∀ s : List Nat, tX 39 [39, 39] s = fR s
 | [] => rfl
 | x :: l => by
  have ih := tZ l
  show (bif Nat.beq x 39 then [39, 39] ++ tX 39 [39, 39] l else x :: tX 39 [39, 39] l) = _
  unfold fR
  by_cases h : x = 39
  ·subst h
   rw [if_pos rfl, ih]
   rfl
  ·have : Nat.beq x 39 = false := by
    cases e : Nat.beq x 39 with
    | false => rfl
    | true => exact absurd (Nat.eq_of_beq_eq_true e) h
   rw [this, if_neg h, ih]
   rfl
theorem cDd {s : List Nat} (h : s.length ≤ 100000) (g : Hp) : gV [.s s, .s [39], .s [39, 39]] g = some (.s (fR s), g) := by
 have e1 : Nat.ble s.length 4000000000 = true := by rw [jN]; exact decide_eq_true (by omega)
 unfold gV
 simp only [e1, cond_true]
 rw [tZ]
 rfl
theorem cAs {n : Int} (h : -9223372036854775808 ≤ n ∧ n ≤ 9223372036854775807) (g : Hp) : gU [.i .i64 n] g = some (.s (bS n), g) := by
 unfold gU
 simp only [decide_eq_true h.1, decide_eq_true h.2, Bool.and_self, cond_true]
theorem qH : ∀ (f n : Nat) (acc : List Nat), (eZ f n acc).length ≤ acc.length + f
 | 0, n, acc => by simp [eZ]
 | f + 1, n, acc => by
  show (bif Nat.ble 10 n then eZ f (Nat.div n 10) (Nat.add 48 (Nat.mod n 10) :: acc) else Nat.add 48 n :: acc).length ≤ _
  cases Nat.ble 10 n with
  | true =>
   have := qH f (Nat.div n 10) (Nat.add 48 (Nat.mod n 10) :: acc)
   simp only [cond_true, List.length_cons] at this ⊢
   omega
  | false => simp only [cond_false, List.length_cons]; omega
theorem xE (n : Int) : (bS n).length ≤ 21 := by
 cases n with
 | ofNat n => have := qH 20 n []; simp only [bS, List.length_nil] at this ⊢; omega
 | negSucc n => have := qH 20 (Nat.succ n) []; simp only [bS, List.length_nil, List.length_cons] at this ⊢; omega
theorem oE : ∀ s : List Nat, (fR s).length ≤ 2 * s.length
 | [] => by simp [fR]
 | x :: l => by
  have := oE l
  unfold fR
  split <;> simp only [List.length_cons] <;> omega
theorem aSm {α : Type} {f : α → List Nat} {L : Nat} : ∀ (ks : List α) (i : Nat) (s : List Nat), (∀ k ∈ ks, (f k).length ≤ L) → s.length ≤ 1000 + L → (rM f i s ks).length ≤ 1005 + L
 | [], i, s, hf, h => by unfold rM; simp; omega
 | k :: ks, i, s, hf, h => by
  unfold rM
  have h1 : (if i = 0 then s else s ++ [32]).length ≤ 1001 + L := by
   by_cases c : i = 0
   ·rw [if_pos c]; omega
   ·rw [if_neg c, List.length_append, List.length_singleton]; omega
  generalize (if i = 0 then s else s ++ [32]) = t at h1 ⊢
  by_cases q : i = 20 ∨ 1000 < t.length
  ·rw [if_pos q]
   simp only [laE, lcE, lnE]
   omega
  ·rw [if_neg q]
   refine aSm ks (i + 1) _ (fun x hx => hf x (by simp [hx])) ?_
   have := hf k (by simp)
   rw [List.length_append]
   omega
section
variable {h h' : Hp} {M M' : MemV} {R R' : List Int} {es es' : List (DV × DV)} {k : Nat} {z : Prop} {CL : List Nat}
theorem cVe (I : GI M R CL z) (G : Good M) {x : Int} (h : isTx M R x) : (txW M x).length ≤ 256 := (I.txO G h).len
theorem xW (I : GI M R CL z) (G : Good M) (c : Int) : (fY M R c).length ≤ 256 ∧ ∀ b ∈ fY M R c, b < 256 := by
 unfold fY
 by_cases h1 : isC M R c = true
 ·by_cases h2 : qL M R (dV M c 0) = true
  ·rw [if_pos h1, if_pos h2]
   have T := I.txO G (isTxB_iff.1 h2)
   exact ⟨T.len, T.by8⟩
  ·rw [if_pos h1, if_neg h2]; exact ⟨by simp, by simp⟩
 ·rw [if_neg h1]; exact ⟨by simp, by simp⟩
theorem sH (c : Nat) (l : List Nat) : aAr (c :: l) = if aBd c = true then [97, 110, 32] ++ (c :: l) else [97, 32] ++ (c :: l) := rfl
theorem bUi (s : List Nat) : (aAr s).length ≤ s.length + 3 := by
 cases s with
 | nil => simp [aAr]
 | cons c l =>
  unfold aAr
  cases hv : aBd c with
  | true => simp only [hv, if_true]; simp
  | false => simp only [hv, Bool.false_eq_true, if_false]; simp
theorem aCb (I : GI M R CL z) (G : Good M) {arr : List Nat} {L : Nat} (ha : arr.length ≤ L) (hL : 600 ≤ L) (x : Int) : (jD M R arr x).length ≤ L := by
 unfold jD
 split
 ·simp; omega
 ·split
  ·have := xE (by assumption)
   rename_i n _
   have := xE n
   omega
  ·split
   ·unfold wU; split
    ·simp; omega
    ·split <;> simp <;> omega
   ·split
    ·rename_i q
     have := cVe I G (isTxB_iff.1 q)
     split
     ·simp; omega
     ·have := oE (txW M x)
      simp; omega
    ·split
     ·exact ha
     ·split
      ·have := (xW I G x).1; omega
      ·have := (xW I G (cW M x)).1
       have := bUi (fY M R (cW M x))
       omega
theorem zH (I : GI M R CL z) (G : Good M) : ∀ (d : Nat) (x : Int), (eH M R d x).length ≤ 600 + 1005 * d
 | 0, x => by unfold eH; exact aCb I G (by simp) (by omega) x
 | d + 1, x => by
  unfold eH
  refine aCb I G ?_ (by omega) x
  have := aSm (f := eH M R d) (L := 600 + 1005 * d) (mK M x) 0 [40] (fun k _ => zH I G d k) (by simp; omega)
  omega
theorem Wd.nameA (W : Wd h M R es) (G : Good M) (I : GI M R CL z) (c : Int) {n : Nat} (hn : 300 < n) :
  ∃ h', cK (n + 3) 56 [.p (aM 7) 0, .i .i64 c] h = some (.s (fY M R c), h') ∧ Wd h' M R es ∧ Up h h' := by
 rw [mJ 56 rfl, cHz]
 unfold s56
 have e1 := W.isClass G I c n
 unfold fY
 cases hc : isC M R c with
 | false =>
  refine ⟨h, ?_, W, Up.refl h⟩
  rw [hc] at e1
  simp only [g0, g1, e1, aL, gT, Bool.not_false, aZ]
  rfl
 | true =>
  rw [hc] at e1
  have e2 := W.getG G I c 0 (n + 1)
  obtain ⟨s, b, h', e3, W', U', A⟩ := W.textA G I (dV M c 0) (n := n) hn
  refine ⟨h', ?_, W', U'⟩
  have hs : (if qL M R (dV M c 0) = true then txW M (dV M c 0) else []) = s := by
   rcases A with ⟨rfl, t, T⟩ | ⟨rfl, t, rfl⟩
   ·rw [if_pos (isTxB_iff.2 t)]
    exact (I.txO G t).inj T
   ·rw [if_neg (fun q => t (isTxB_iff.1 q))]
  rw [if_pos rfl, hs]
  simp only [g0, g1, e1, aL, gT, Bool.not_true, aV, e2, iD]
  simp only [e3, aL, sV, sA]
theorem cEx (x : Int) (n : Nat) (h : Hp) : cK (n + 1) 51 [.i .i64 x] h = some (.s (wU x), h) := by
 rw [mJ 51 rfl, cJp]
 unfold s51 wU
 by_cases h1 : x = 2
 ·subst h1; rfl
 ·have d1 : (x == Int.ofNat 2) = false := by simpa using h1
  by_cases h2 : x = 4
  ·subst h2; rfl
  ·have d2 : (x == Int.ofNat 4) = false := by simpa using h2
   rw [if_neg h1, if_neg h2]
   simp only [g0, g1, bI, d1, d2, aL, aV]
theorem bAz {c : Nat} (hc : c < 256) (n : Nat) (h : Hp) : ∃ r : Int, cK (n + 2) 57 [.s [65, 69, 73, 79, 85], .i .u8 (c : Int)] h = some (.i .i64 r, h) ∧ decide (r ≥ Int.ofNat 0) = aBd c := by
 have hb : Nat.blt c 256 = true := by rw [gF]; exact decide_eq_true hc
 refine ⟨rK c [65, 69, 73, 79, 85] 0, ?_, ?_⟩
 ·rw [mJ 57 rfl, cJm]
  unfold s57
  have e : cK (n + 1) 84 [.s [65, 69, 73, 79, 85], .i .u8 (c : Int)] h = some (.i .i64 (rK c [65, 69, 73, 79, 85] 0), h) := by
   rw [mJ 84 rfl, cHo]
   unfold s84
   have : lI [.s [65, 69, 73, 79, 85], .i .u8 (c : Int)] h = some (.i .i64 (rK c [65, 69, 73, 79, 85] 0), h) := by
    show lI [.s [65, 69, 73, 79, 85], .i .u8 (Int.ofNat c)] h = _
    unfold lI
    simp only [hb, cond_true]
   simp only [g0, g1, this, aL]
  simp only [g0, g1, e, aL]
 ·unfold aBd
  by_cases h1 : c = 65
  ·subst h1; rfl
  by_cases h2 : c = 69
  ·subst h2; rfl
  by_cases h3 : c = 73
  ·subst h3; rfl
  by_cases h4 : c = 79
  ·subst h4; rfl
  by_cases h5 : c = 85
  ·subst h5; rfl
  have f : ∀ a : Nat, c ≠ a → Nat.beq a c = false ∧ Nat.beq c a = false := fun a ha => by
   constructor
   ·cases e : Nat.beq a c with
    | false => rfl
    | true => exact absurd (Nat.eq_of_beq_eq_true e).symm ha
   ·cases e : Nat.beq c a with
    | false => rfl
    | true => exact absurd (Nat.eq_of_beq_eq_true e) ha
  have : rK c [65, 69, 73, 79, 85] 0 = .negSucc 0 := by
   show (bif Nat.beq 65 c then (Int.ofNat 0) else bif Nat.beq 69 c then Int.ofNat 1 else bif Nat.beq 73 c then Int.ofNat 2 else bif Nat.beq 79 c then Int.ofNat 3 else bif Nat.beq 85 c then Int.ofNat 4 else .negSucc 0) = _
   rw [(f 65 h1).1, (f 69 h2).1, (f 73 h3).1, (f 79 h4).1, (f 85 h5).1]
   rfl
  rw [this, (f 65 h1).2, (f 69 h2).2, (f 73 h3).2, (f 79 h4).2, (f 85 h5).2]
  rfl
theorem lX (a b : List Nat) (h : Hp) (hl : a.length + b.length < 100000) : dA .add (.s a) (.s b) h = some (.s (a ++ b), h) := by
 have : ¬ ((a.length + b.length : Nat) : Int) > IntKind.i64.max := by
  show ¬ ((a.length + b.length : Nat) : Int) > 9223372036854775807
  omega
 simp only [dA, aHj, if_neg this]
theorem bLh {x : Int} (ha : bM x M.pl ≠ 0) : bUt M R x = cW M x := by
 unfold bUt cW
 rw [if_pos ha]
theorem aAv (W : Wd h M R es) (G : Good M) (I : GI M R CL z) {arr : List Nat} {ix x : Int} {n : Nat} (hn : 400 < n)
  (hv : ∀ v, jG M R x = some v → -9223372036854775808 ≤ v ∧ v ≤ 9223372036854775807)
  (hl : ∀ g, Wd g M R es → bM x M.pl ≠ 0 → cW M x = R.getD 11 0 → ∃ g', cK (n + 5) 55 [.p (aM 7) 0, .i .i64 x, .i .i64 ix] g = some (.s arr, g') ∧ Wd g' M R es ∧ Up g g') :
  ∃ h', cK (n + 6) 21 [.p (aM 7) 0, .i .i64 x, .i .i64 ix] h = some (.s (jD M R arr x), h') ∧ Wd h' M R es ∧ Up h h' := by
 have g2 : ∀ (a b c : DV) (l : List DV), (a :: b :: c :: l).getD 2 aR = c := fun _ _ _ _ => rfl
 rw [mJ 21 rfl, cJy]
 unfold s21
 have em := W.memory (n + 4)
 have my := W.may x
 simp only [g0, g1, g2, em, aL, my, gT]
 unfold jD
 cases hm : dK x M.pl with
 | false =>
  refine ⟨h, ?_, W, Up.refl h⟩
  simp only [Bool.not_false, aZ, if_true]
 | true =>
  have ev := W.value G I x (n + 3)
  simp only [iD] at ev
  simp only [Bool.not_true, aV, Bool.true_eq_false, if_false, ev, aL, sV, sA]
  cases hvx : jG M R x with
  | some v =>
   refine ⟨h, ?_, W, Up.refl h⟩
   simp only [Option.isSome_some, aZ, Option.getD_some, cAs (hv v hvx), aL]
  | none =>
   simp only [Option.isSome_none, aV, W.is, aL, gT]
   by_cases ha : bM x M.pl = 0
   ·refine ⟨h, ?_, W, Up.refl h⟩
    have hb : Nat.beq 0 0 = true := rfl
    simp only [ha, hb, Bool.not_true, Bool.not_false, aZ, cEx x (n + 4), aL, if_true]
   ·have hb := aIc ha
    have ec := W.classOf G x (n + 3)
    rw [bLh ha] at ec
    obtain ⟨s, b, g, et, Wg, Ug, A⟩ := W.textA G I x (n := n + 3) (by omega)
    simp only [iD] at ec
    simp only [hb, Bool.not_false, Bool.not_true, aV, ec, aL, et, sV, sA, if_neg ha]
    have k11 : cK (n + 4 + 1) 27 [.p (aM 7) 0, .i .i64 (Int.ofNat 11)] g = some (iD (R.getD 13 0), g) := Wg.known (show 11 < 16 by omega) (n + 4)
    have k9 : cK (n + 4 + 1) 27 [.p (aM 7) 0, .i .i64 (Int.ofNat 9)] g = some (iD (R.getD 11 0), g) := Wg.known (show 9 < 16 by omega) (n + 4)
    simp only [iD] at k11 k9
    rcases A with ⟨rfl, t, T⟩ | ⟨rfl, t, rfl⟩
    ·have es0 : txW M x = s := (I.txO G t).inj T
     have hsl := T.len
     rw [if_pos (isTxB_iff.2 t), es0]
     simp only [aZ, k11, aL, bI]
     refine ⟨g, ?_, Wg, Ug⟩
     by_cases hc : cW M x = R.getD 13 0
     ·have : (cW M x == R.getD 13 0) = true := by simpa using hc
      rw [if_pos hc]
      simp only [this, aZ, lX [35] s g (by simp; omega), aL]
      rfl
     ·have : (cW M x == R.getD 13 0) = false := by simpa using hc
      have hq := oE s
      rw [if_neg hc]
      simp only [this, aV, cDd (show s.length ≤ 100000 by omega), aL, lX [39] (fR s) g (by simp; omega), lX ([39] ++ fR s) [39] g (by simp; omega)]
      rfl
    ·rw [if_neg (fun q => t (isTxB_iff.1 q))]
     simp only [aV, k9, aL, bI]
     by_cases hc : cW M x = R.getD 11 0
     ·have : (cW M x == R.getD 11 0) = true := by simpa using hc
      obtain ⟨g', e5, W5, U5⟩ := hl g Wg ha hc
      refine ⟨g', ?_, W5, Ug.trans U5⟩
      rw [if_pos hc]
      simp only [this, aZ, e5, aL]
     ·have : (cW M x == R.getD 11 0) = false := by simpa using hc
      rw [if_neg hc]
      have ek := Wg.kind G I x (n + 2)
      simp only [iD] at ek
      simp only [this, aV, ek, aL, jM]
      by_cases hk : 0 ≤ jH M R x
      ·have d : decide (jH M R x ≥ Int.ofNat 0) = true := decide_eq_true hk
       obtain ⟨g', e5, W5, U5⟩ := Wg.nameA G I x (n := n + 2) (by omega)
       refine ⟨g', ?_, W5, Ug.trans U5⟩
       rw [if_pos hk]
       simp only [d, aZ, e5, aL]
      ·have d : decide (jH M R x ≥ Int.ofNat 0) = false := decide_eq_false hk
       obtain ⟨g', e5, W5, U5⟩ := Wg.nameA G I (cW M x) (n := n + 2) (by omega)
       refine ⟨g', ?_, W5, Ug.trans U5⟩
       rw [if_neg hk]
       simp only [d, aV, e5, aL, bXu]
       obtain ⟨hl1, hl2⟩ := xW I G (cW M x)
       cases hnm : fY M R (cW M x) with
       | nil =>
        have e6 : oU [] [] = true := rfl
        simp only [e6, Bool.not_true, gM, jK, aL, bN, aV, lX [97, 32] [] g' (by simp)]
        rfl
       | cons c l =>
        rw [hnm] at hl1 hl2
        have e6 : oU (c :: l) [] = false := rfl
        have hc8 : c < 256 := hl2 c (by simp)
        have ei : dP (.s (c :: l)) (.i .i64 (Int.ofNat 0)) g' = some (.i .u8 (c : Int), g') := by simp [dP]
        obtain ⟨r, q1, q2⟩ := bAz hc8 (n + 3) g'
        simp only [e6, Bool.not_false, fT, aL, ei, q1, jM, q2, bL]
        cases hvw : aBd c with
        | true =>
         have ea : aAr (c :: l) = [97, 110, 32] ++ (c :: l) := by rw [sH, hvw]; rfl
         simp only [aZ, lX [97, 110, 32] (c :: l) g' (by simp at hl1 ⊢; omega), aL, ea]
        | false =>
         have ea : aAr (c :: l) = [97, 32] ++ (c :: l) := by rw [sH, hvw]; rfl
         simp only [aV, lX [97, 32] (c :: l) g' (by simp at hl1 ⊢; omega), aL, ea]
def RgW (M : MemV) (R : List Int) : Nat → Int → Prop
 | 0, x => ∀ v, jG M R x = some v → -9223372036854775808 ≤ v ∧ v ≤ 9223372036854775807
 | d + 1, x => (∀ v, jG M R x = some v → -9223372036854775808 ≤ v ∧ v ≤ 9223372036854775807) ∧ (bM x M.pl ≠ 0 → cW M x = R.getD 11 0 → ∀ i, i < cE M x / 4 → RgW M R d (dV M x i))
theorem bCm (G : Good M) (I : GI M R CL z) {d : Nat} {x : Int} {n : Nat} (hn : 400 < n) (hd : d < 3) (hx : bM x M.pl ≠ 0)
  (hs : ∀ i, i < cE M x / 4 → ∀ g, Wd g M R es → ∃ g', cK n 21 [.p (aM 7) 0, .i .i64 (dV M x i), .i .i64 (Int.ofNat (3 - d))] g = some (.s (eH M R d (dV M x i)), g') ∧ Wd g' M R es ∧ Up g g') :
  ∀ (r i m : Nat) (s : List Nat) (g : Hp), Wd g M R es → i + r = cE M x / 4 → i ≤ 20 → 22 ≤ m + i → s.length ≤ 5000 →
   ∃ g', mW (cK n) n m (.p (aM 7) 0) (.i .i64 x) (.i .i64 (Int.ofNat (2 - d))) (.s s) (.i .i64 (Int.ofNat (cE M x / 4))) (.i .i64 (Int.ofNat i)) g = some (.s (rM (eH M R d) i s ((List.range' i r).map fun j => dV M x j)), g') ∧ Wd g' M R es ∧ Up g g' := by
 have g2 : ∀ (a b c : DV) (l : List DV), (a :: b :: c :: l).getD 2 aR = c := fun _ _ _ _ => rfl
 obtain ⟨n, rfl⟩ : ∃ n', n = n' + 1 := ⟨n - 1, by omega⟩
 intro r
 induction r with
 | zero =>
  intro i m s g W he hi hm hsl
  obtain ⟨m, rfl⟩ : ∃ m', m = m' + 1 := ⟨m - 1, by omega⟩
  refine ⟨g, ?_, W, Up.refl g⟩
  show sQ (cK (n + 1)) (n + 1) (mW (cK (n + 1)) (n + 1) m) _ _ _ _ _ _ g = _
  unfold sQ aLe cP
  have dl : decide (Int.ofNat i < Int.ofNat (cE M x / 4)) = false := decide_eq_false (by simp; omega)
  simp only [bJ, dl, aL, aV, lX s [41] g (by simp; omega)]
  rfl
 | succ r ih =>
  intro i m s g W he hi hm hsl
  obtain ⟨m, rfl⟩ : ∃ m', m = m' + 1 := ⟨m - 1, by omega⟩
  have hif : i < cE M x / 4 := by omega
  have tail : ∀ t : List Nat, t.length ≤ 5001 → t = (if i = 0 then s else s ++ [32]) →
    ∃ g', sX (cK (n + 1)) (n + 1) (mW (cK (n + 1)) (n + 1) m) (.p (aM 7) 0) (.i .i64 x) (.i .i64 (Int.ofNat (2 - d))) (.s t) (.i .i64 (Int.ofNat i)) (.i .i64 (Int.ofNat (cE M x / 4))) (.i .i64 (Int.ofNat i)) g = some (.s (rM (eH M R d) i s ((List.range' i (r + 1)).map fun j => dV M x j)), g') ∧ Wd g' M R es ∧ Up g g' := by
   intro t htl ht
   have el : rM (eH M R d) i s ((List.range' i (r + 1)).map fun j => dV M x j) = if i = 20 ∨ 1000 < t.length then (t ++ [46, 46]) ++ [41] else rM (eH M R d) (i + 1) (t ++ eH M R d (dV M x i)) ((List.range' (i + 1) r).map fun j => dV M x j) := by
    rw [List.range'_succ, List.map_cons, aMo, ← ht]
   rw [el]
   unfold sX
   have step : ¬ (i = 20 ∨ 1000 < t.length) → ∃ g', (bnd (cK (n + 1) 14 [.p (aM 7) 0] g) fun v11 h11 => bnd (sZ [v11, .i .i64 x, .i .i64 (Int.ofNat i)] h11) fun v12 h12 => bnd (aC 0 v12 h12) fun v13 h13 => bnd (aC 1 v12 h13) fun v14 h14 => bnd (aD .add (.i .i64 (Int.ofNat (2 - d))) (.i .i64 (Int.ofNat 1)) h14) fun v15 h15 => bnd (cK (n + 1) 21 [.p (aM 7) 0, v13, v15] h15) fun v16 h16 => bnd (dA .add (.s t) v16 h16) fun v17 h17 => eV (cK (n + 1)) (n + 1) (mW (cK (n + 1)) (n + 1) m) (.p (aM 7) 0) (.i .i64 x) (.i .i64 (Int.ofNat (2 - d))) v17 (.i .i64 (Int.ofNat (cE M x / 4))) (.i .i64 (Int.ofNat i)) h17) = some (.s (rM (eH M R d) (i + 1) (t ++ eH M R d (dV M x i)) ((List.range' (i + 1) r).map fun j => dV M x j)), g') ∧ Wd g' M R es ∧ Up g g' := by
    intro hq
    have em := W.memory n
    obtain ⟨e, eg, _⟩ := W.getA G I x i
    obtain ⟨g', e5, W5, U5⟩ := hs i hif g W
    have hll := zH I G d (dV M x i)
    have e15 : aD .add (.i .i64 (Int.ofNat (2 - d))) (.i .i64 (Int.ofNat 1)) g = some (.i .i64 (Int.ofNat (3 - d)), g) := by
     rw [cY (2 - d) 1 g (by omega), show 2 - d + 1 = 3 - d by omega]
    obtain ⟨g6, e6, W6, U6⟩ := ih (i + 1) m (t ++ eH M R d (dV M x i)) g' W5 (by omega) (by omega) (by omega) (by rw [List.length_append]; omega)
    refine ⟨g6, ?_, W6, U5.trans U6⟩
    simp only [iD] at eg
    simp only [em, aL, eg, sV, sA, e15, e5, lX t (eH M R d (dV M x i)) g' (by omega)]
    unfold eV
    simp only [cY i 1 g' (by omega), aL]
    exact e6
   by_cases c1 : i = 20
   ·have d1 : ((Int.ofNat i) == Int.ofNat 20) = true := by rw [c1]; rfl
    refine ⟨g, ?_, W, Up.refl g⟩
    rw [if_pos (.inl c1)]
    unfold cP
    simp only [bI, d1, aL, fJ, jK, bL, aZ, lX t [46, 46] g (by simp; omega), lX (t ++ [46, 46]) [41] g (by simp; omega)]
   ·have d1 : ((Int.ofNat i) == Int.ofNat 20) = false := by
     have : ¬ (Int.ofNat i = Int.ofNat 20) := fun q => c1 (Int.ofNat.inj q)
     simpa using this
    by_cases c2 : 1000 < t.length
    ·have d2 : decide ((t.length : Int) > Int.ofNat 1000) = true := decide_eq_true (by simp; omega)
     refine ⟨g, ?_, W, Up.refl g⟩
     rw [if_pos (.inr c2)]
     unfold cP
     simp only [bI, d1, aL, fX, rT, cM, d2, bN, aZ, lX t [46, 46] g (by simp; omega), lX (t ++ [46, 46]) [41] g (by simp; omega)]
    ·have d2 : decide ((t.length : Int) > Int.ofNat 1000) = false := decide_eq_false (by simp; omega)
     have hq : ¬ (i = 20 ∨ 1000 < t.length) := by omega
     rw [if_neg hq]
     simp only [bI, d1, aL, fX, rT, cM, d2, bN, aV]
     exact step hq
  show ∃ g', sQ (cK (n + 1)) (n + 1) (mW (cK (n + 1)) (n + 1) m) _ _ _ _ _ _ g = _ ∧ _
  unfold sQ aLe aTq aFk
  have dl : decide (Int.ofNat i < Int.ofNat (cE M x / 4)) = true := decide_eq_true (by simp; omega)
  simp only [bJ, dl, aL, aZ, cM]
  by_cases c0 : i = 0
  ·have d0 : decide (Int.ofNat i > Int.ofNat 0) = false := decide_eq_false (by simp; omega)
   simp only [d0, aV]
   exact tail s (by omega) (by rw [if_pos c0])
  ·have d0 : decide (Int.ofNat i > Int.ofNat 0) = true := decide_eq_true (by simp; omega)
   simp only [d0, aZ, lX s [32] g (by simp; omega), aL]
   exact tail (s ++ [32]) (by simp; omega) (by rw [if_neg c0])
theorem aRt (G : Good M) (I : GI M R CL z) : ∀ (d : Nat), d ≤ 3 → ∀ (x : Int), RgW M R d x → ∀ (n : Nat), 400 < n → ∀ g, Wd g M R es →
  ∃ g', cK (n + 2 * d + 6) 21 [.p (aM 7) 0, .i .i64 x, .i .i64 (Int.ofNat (3 - d))] g = some (.s (eH M R d x), g') ∧ Wd g' M R es ∧ Up g g'
 | 0, hd, x, hv, n, hn, g, W => by
  unfold eH
  refine aAv (n := n) W G I hn hv fun g' W' _ _ => ⟨g', ?_, W', Up.refl g'⟩
  have g2 : ∀ (a b c : DV) (l : List DV), (a :: b :: c :: l).getD 2 aR = c := fun _ _ _ _ => rfl
  rw [mJ 55 rfl, bGn]
  unfold s55 aJd
  have d3 : ((Int.ofNat (3 - 0)) == Int.ofNat 3) = true := rfl
  simp only [g0, g1, g2, bI, d3, aL, aZ]
 | d + 1, hd, x, hv, n, hn, g, W => by
  unfold eH
  refine aAv (n := n + 2 * d + 2) W G I (by omega) hv.1 fun g' W' ha hc => ?_
  have g2 : ∀ (a b c : DV) (l : List DV), (a :: b :: c :: l).getD 2 aR = c := fun _ _ _ _ => rfl
  have e1 : 3 - (d + 1) = 2 - d := by omega
  rw [e1, mJ 55 rfl, bGn]
  unfold s55 aJd aRu aVd aYl aTy bHr
  have d3 : ((Int.ofNat (2 - d)) == Int.ofNat 3) = false := by
   have : ¬ (Int.ofNat (2 - d) = Int.ofNat 3) := fun q => by have := Int.ofNat.inj q; omega
   simpa using this
  have em := W'.memory (n + 2 * d + 5)
  obtain ⟨g6, e6, W6, U6⟩ := bCm (d := d) (n := n + 2 * d + 6) G I (by omega) (by omega) ha (fun i hi g2 W2 => aRt G I d (by omega) (dV M x i) (hv.2 ha hc i hi) n hn g2 W2) (cE M x / 4) 0 (n + 2 * d + 6) [40] g' W' (by omega) (by omega) (by omega) (by simp)
  refine ⟨g6, ?_, W6, U6⟩
  simp only [g0, g1, g2, bI, d3, aL, aV, em, W'.fieldsA G I]
  rw [show n + 2 * d + 2 + 4 = n + 2 * d + 6 by omega]
  unfold mK
  rw [List.range_eq_range']
  exact e6
theorem aWa (G : Good M) (I : GI M R CL z) {x : Int} (hv : RgW M R 3 x) {n : Nat} (hn : 400 < n) {g : Hp} (W : Wd g M R es) :
  ∃ g', cK (n + 13) 10 [.p (aM 7) 0, .i .i64 x] g = some (.s ((eH M R 3 x).take 1000), g') ∧ Wd g' M R es ∧ Up g g' := by
 obtain ⟨g', e1, W1, U1⟩ := aRt G I 3 (by omega) x hv n hn g W
 refine ⟨g', ?_, W1, U1⟩
 rw [mJ 10 rfl, cKg]
 unfold s10
 have hz : Int.ofNat (3 - 3) = Int.ofNat 0 := rfl
 rw [hz, show n + 2 * 3 + 6 = n + 12 by omega] at e1
 have hl := zH I G 3 x
 simp only [g0, g1, e1, aL, rT]
 generalize eH M R 3 x = s at hl ⊢
 have em : aHk (.i .i64 (s.length : Int)) (.i .i64 (Int.ofNat 1000)) g' = some (.i .i64 (Int.ofNat (min s.length 1000)), g') := by
  show some (DV.i .i64 (if (Int.ofNat 1000) < (s.length : Int) then Int.ofNat 1000 else (s.length : Int)), g') = _
  have : (if (Int.ofNat 1000) < (s.length : Int) then Int.ofNat 1000 else (s.length : Int)) = Int.ofNat (min s.length 1000) := by
   by_cases q : s.length ≤ 1000
   ·rw [if_neg (by simp; omega), Nat.min_eq_left q]; rfl
   ·rw [if_pos (by simp; omega), Nat.min_eq_right (by omega)]
  rw [this]
 have ht : s.take 1000 = s.take (min s.length 1000) := by
  rcases Nat.le_total s.length 1000 with q | q
  ·rw [Nat.min_eq_left q, List.take_length, List.take_of_length_le q]
  ·rw [Nat.min_eq_right q]
 rw [ht]
 simp only [em, aL, aVm s (min s.length 1000) (Nat.min_le_left _ _) g']
end
end Go.Dd

namespace Go.Dd
open Go.Proofs
def T4 (h : Hp) (b : Pos) (c0 c1 c2 c3 : DV) : Prop := h.bl.get b = some (.row .ex [c0, c1, c2, c3])
noncomputable def hst (h : Hp) (b : Pos) (o : Ob) : Hp := ⟨h.next, Tr.set o b h.bl⟩
section
variable {h : Hp} {b : Pos} {c0 c1 c2 c3 v : DV}
theorem T4.l0 (T : T4 h b c0 c1 c2 c3) (ho : c0.one = true) : aA (.p b (0 + 0)) h = some (c0, h) := zD (i := 0 + 0) T rfl ho
theorem T4.l1 (T : T4 h b c0 c1 c2 c3) (ho : c1.one = true) : aA (.p b (0 + 1)) h = some (c1, h) := zD (i := 0 + 1) T rfl ho
theorem T4.l2 (T : T4 h b c0 c1 c2 c3) (ho : c2.one = true) : aA (.p b (0 + 2)) h = some (c2, h) := zD (i := 0 + 2) T rfl ho
theorem T4.l3 (T : T4 h b c0 c1 c2 c3) (ho : c3.one = true) : aA (.p b (0 + 3)) h = some (c3, h) := zD (i := 0 + 3) T rfl ho
theorem T4.la (T : T4 h b c0 c1 c2 c3) (h0 : c0.one = true) (h1 : c1.one = true) (h2 : c2.one = true) (h3 : c3.one = true) : aN 4 (.p b 0) h = some (.a [c0, c1, c2, c3], h) := by
 have e : h.bl.get b = some (.row .ex [c0, c1, c2, c3]) := T
 simp only [aN, cellsAt, rowOf, e, List.drop_zero, gJ, h0, h1, h2, h3, if_true, Option.map_some]
theorem T4.s0 (T : T4 h b c0 c1 c2 c3) (ho : c0.one = true) (hv : v.one = true) (hc : cT v = some [v]) : aI 1 (.p b (0 + 0)) v h = some (aR, hst h b (.row .ex [v, c1, c2, c3])) := by
 have e : h.bl.get b = some (.row .ex [c0, c1, c2, c3]) := T
 simp only [aI, hc, List.length_cons, List.length_nil, if_true, cV, e, Kind.writable, fI, jV, ho, hv, Bool.and_self, Option.map_some]
 rfl
theorem T4.s1 (T : T4 h b c0 c1 c2 c3) (ho : c1.one = true) (hv : v.one = true) (hc : cT v = some [v]) : aI 1 (.p b (0 + 1)) v h = some (aR, hst h b (.row .ex [c0, v, c2, c3])) := by
 have e : h.bl.get b = some (.row .ex [c0, c1, c2, c3]) := T
 simp only [aI, hc, List.length_cons, List.length_nil, if_true, cV, e, Kind.writable, fI, jV, ho, hv, Bool.and_self, Option.map_some]
 rfl
theorem T4.s2 (T : T4 h b c0 c1 c2 c3) (ho : c2.one = true) (hv : v.one = true) (hc : cT v = some [v]) : aI 1 (.p b (0 + 2)) v h = some (aR, hst h b (.row .ex [c0, c1, v, c3])) := by
 have e : h.bl.get b = some (.row .ex [c0, c1, c2, c3]) := T
 simp only [aI, hc, List.length_cons, List.length_nil, if_true, cV, e, Kind.writable, fI, jV, ho, hv, Bool.and_self, Option.map_some]
 rfl
theorem T4.s3 (T : T4 h b c0 c1 c2 c3) (ho : c3.one = true) (hv : v.one = true) (hc : cT v = some [v]) : aI 1 (.p b (0 + 3)) v h = some (aR, hst h b (.row .ex [c0, c1, c2, v])) := by
 have e : h.bl.get b = some (.row .ex [c0, c1, c2, c3]) := T
 simp only [aI, hc, List.length_cons, List.length_nil, if_true, cV, e, Kind.writable, fI, jV, ho, hv, Bool.and_self, Option.map_some]
 rfl
theorem T4.sa {d0 d1 d2 d3 : DV} (T : T4 h b c0 c1 c2 c3) (h0 : c0.one = true) (h1 : c1.one = true) (h2 : c2.one = true) (h3 : c3.one = true) (k0 : d0.one = true) (k1 : d1.one = true) (k2 : d2.one = true) (k3 : d3.one = true) :
  aI 4 (.p b 0) (.a [d0, d1, d2, d3]) h = some (aR, hst h b (.row .ex [d0, d1, d2, d3])) := by
 have e : h.bl.get b = some (.row .ex [c0, c1, c2, c3]) := T
 simp only [aI, cT, List.length_cons, List.length_nil, if_true, cV, e, Kind.writable, fI, jV, h0, h1, h2, h3, k0, k1, k2, k3, Bool.and_self, Option.map_some]
 rfl
theorem fL (o : Ob) : (hst h b o).bl.get b = some o := dKc _ _ _
theorem kB {o : Ob} {p : Pos} (hp : p ≠ b) : (hst h b o).bl.get p = h.bl.get p := dKb _ _ _ _ hp
end
def But (b : Pos) (h h' : Hp) : Prop := h'.next = h.next ∧ ∀ p, p ≠ b → h'.bl.get p = h.bl.get p
theorem But.refl (b : Pos) (h : Hp) : But b h h := ⟨rfl, fun _ _ => rfl⟩
theorem But.trans {b : Pos} {h g k : Hp} (u : But b h g) (v : But b g k) : But b h k := ⟨v.1.trans u.1, fun p hp => (v.2 p hp).trans (u.2 p hp)⟩
theorem But.st (b : Pos) (h : Hp) (o : Ob) : But b h (hst h b o) := ⟨rfl, fun p hp => kB hp⟩
theorem bPc (a : Int) (h : Hp) : aD .rem (.i .i64 a) (.i .i64 (Int.ofNat 16)) h = some (.i .i64 (a.tmod 16), h) := by simp only [aD, if_true, fD]; rfl
theorem cRv {a : Int} (hr : -9223372036854775807 ≤ a ∧ a ≤ 9223372036854775807) (h : Hp) : jW .neg (.i .i64 a) h = some (.i .i64 (-a), h) := by
 have : IntKind.i64.wrap (0 - a) = 0 - a := hC _ (by omega)
 simp only [jW, this]
 rw [Int.zero_sub]
section
variable {rec : FuncId → List DV → Hp → aG} {n : Nat} {h : Hp} {b : Pos} {k N d l : Int} {tx : List Nat} {s x6 : DV}
theorem bSh {d : Nat} (T : T4 h b (iD k) (iD N) (.s tx) s) : ∃ h', aZt rec n (iD (Int.ofNat d)) (iD l) (.p b 0) x6 h = aIh rec n (iD (Int.ofNat d)) (iD l) (.p b 0) x6 h' ∧ T4 h' b (iD (bV d k)) (iD N) (.s tx) s ∧ But b h h' := by
 have l0 := T.l0 rfl
 have st := T.s0 (v := .i .i64 (Int.ofNat 7)) rfl rfl rfl
 unfold aZt bV
 simp only [iD] at l0 ⊢
 have yes : ∃ h', (bnd (aB 0 (.p b 0) h) fun v236 h236 => bnd (aI 1 v236 (.i .i64 (Int.ofNat 7)) h236) fun _ h237 => aIh rec n (.i .i64 (Int.ofNat d)) (.i .i64 l) (.p b 0) x6 h237) = aIh rec n (.i .i64 (Int.ofNat d)) (.i .i64 l) (.p b 0) x6 h' ∧ T4 h' b (.i .i64 7) (.i .i64 N) (.s tx) s ∧ But b h h' := by
  refine ⟨_, ?_, fL _, But.st _ _ _⟩
  simp only [gL, aL, st]
  rfl
 by_cases c1 : k < 0
 ·rw [if_pos (.inl c1)]
  have d1 : decide (k < Int.ofNat 0) = true := decide_eq_true c1
  simp only [gL, aL, l0, bJ, d1, fJ, jK, bL, aZ]
  exact yes
 have d1 : decide (k < Int.ofNat 0) = false := decide_eq_false c1
 by_cases c2 : 9 < k
 ·rw [if_pos (.inr (.inl c2))]
  have d2 : decide (k > Int.ofNat 9) = true := decide_eq_true c2
  simp only [gL, aL, l0, bJ, d1, fX, cM, d2, bN, fJ, jK, bL, aZ]
  exact yes
 have d2 : decide (k > Int.ofNat 9) = false := decide_eq_false c2
 by_cases c3 : k = 3
 ·subst c3
  by_cases c4 : d = 0
  ·subst c4
   rw [if_pos (.inr (.inr ⟨rfl, rfl⟩))]
   simp only [gL, aL, l0, bJ, d1, fX, cM, d2, bN, bI, show ((3 : Int) == Int.ofNat 3) = true from rfl, fT, show (Int.ofNat 0 == Int.ofNat 0) = true from rfl, bL, aZ]
   exact yes
  ·rw [if_neg (by omega)]
   have d4 : (Int.ofNat d == Int.ofNat 0) = false := by
    have : ¬ (Int.ofNat d = Int.ofNat 0) := fun q => c4 (Int.ofNat.inj q)
    simpa using this
   refine ⟨h, ?_, T, But.refl _ _⟩
   simp only [gL, aL, l0, bJ, d1, fX, cM, d2, bN, bI, show ((3 : Int) == Int.ofNat 3) = true from rfl, fT, d4, bL, aV]
 ·rw [if_neg (by omega)]
  have d3 : (k == Int.ofNat 3) = false := eqF c3
  refine ⟨h, ?_, T, But.refl _ _⟩
  simp only [gL, aL, l0, bJ, d1, fX, cM, d2, bN, bI, d3, gM, jK, aV]
theorem bUe (T : T4 h b (iD k) (iD N) (.s tx) s) : ∃ h', aIh rec n (iD d) (iD l) (.p b 0) x6 h = aIg rec n (iD d) (iD l) (.p b 0) x6 h' ∧ T4 h' b (iD k) (iD (if k = 0 ∧ (N < -1152921504606846976 ∨ 1152921504606846976 < N) then 7 else N)) (.s tx) s ∧ But b h h' := by
 have l0 := T.l0 rfl
 have l1 := T.l1 rfl
 have st := T.s1 (v := .i .i64 (Int.ofNat 7)) rfl rfl rfl
 unfold aIh
 simp only [iD] at l0 l1 ⊢
 have yes : ∃ h', (bnd (aB 1 (.p b 0) h) fun v205 h205 => bnd (aI 1 v205 (.i .i64 (Int.ofNat 7)) h205) fun _ h206 => aIg rec n (.i .i64 d) (.i .i64 l) (.p b 0) x6 h206) = aIg rec n (.i .i64 d) (.i .i64 l) (.p b 0) x6 h' ∧ T4 h' b (.i .i64 k) (.i .i64 7) (.s tx) s ∧ But b h h' := by
  refine ⟨_, ?_, fL _, But.st _ _ _⟩
  simp only [gL, aL, st]
  rfl
 by_cases c0 : k = 0
 ·subst c0
  have hneg : (Int.negSucc 1152921504606846975) = -1152921504606846976 := rfl
  have hpos : (Int.ofNat 1152921504606846976) = 1152921504606846976 := rfl
  by_cases c1 : N < -1152921504606846976
  ·rw [if_pos ⟨rfl, .inl c1⟩]
   have d1 : decide (N < Int.negSucc 1152921504606846975) = true := decide_eq_true (by rw [hneg]; exact c1)
   simp only [gL, aL, l0, bI, show ((0 : Int) == Int.ofNat 0) = true from rfl, fT, l1, bJ, d1, fJ, jK, bL, aZ]
   exact yes
  ·have d1 : decide (N < Int.negSucc 1152921504606846975) = false := decide_eq_false (by rw [hneg]; exact c1)
   by_cases c2 : 1152921504606846976 < N
   ·rw [if_pos ⟨rfl, .inr c2⟩]
    have d2 : decide (N > Int.ofNat 1152921504606846976) = true := decide_eq_true (by rw [hpos]; exact c2)
    simp only [gL, aL, l0, bI, show ((0 : Int) == Int.ofNat 0) = true from rfl, fT, l1, bJ, d1, fX, cM, d2, bN, bL, aZ]
    exact yes
   ·rw [if_neg (by omega)]
    have d2 : decide (N > Int.ofNat 1152921504606846976) = false := decide_eq_false (by rw [hpos]; exact c2)
    refine ⟨h, ?_, T, But.refl _ _⟩
    simp only [gL, aL, l0, bI, show ((0 : Int) == Int.ofNat 0) = true from rfl, fT, l1, bJ, d1, fX, cM, d2, bN, bL, aV]
 ·rw [if_neg (by omega)]
  have d0 : (k == Int.ofNat 0) = false := eqF c0
  refine ⟨h, ?_, T, But.refl _ _⟩
  simp only [gL, aL, l0, bI, d0, gM, jK, bN, aV]
theorem bTa (T : T4 h b (iD k) (iD N) (.s tx) s) : ∃ h', aIg rec n (iD d) (iD l) (.p b 0) x6 h = aNi rec n (iD d) (iD l) (.p b 0) x6 h' ∧ T4 h' b (iD k) (iD N) (.s (tx.take 60)) s ∧ But b h h' := by
 have l2 := T.l2 rfl
 have st := T.s2 (v := .s (tx.take 60)) rfl rfl rfl
 unfold aIg
 simp only [iD] at l2 ⊢
 by_cases c : (tx.length : Int) > Int.ofNat 60
 ·refine ⟨_, ?_, fL _, But.st _ _ _⟩
  simp only [gL, aL, l2, rT, cM, decide_eq_true c, aZ, aVm tx 60 (by simp at c; omega) h, st]
 ·rw [List.take_of_length_le (by simp at c; omega)]
  refine ⟨h, ?_, T, But.refl _ _⟩
  simp only [gL, aL, l2, rT, cM, decide_eq_false c, aV]
theorem aYy (t : List Nat) : oU t [] = decide (t = []) := by cases t <;> rfl
theorem bXc (T : T4 h b (iD k) (iD N) (.s tx) s) : ∃ h', aNi rec n (iD d) (iD l) (.p b 0) x6 h = aOl rec n (iD d) (iD l) (.p b 0) x6 h' ∧ T4 h' b (iD k) (iD N) (.s (if k = 2 ∧ tx = [] then [115] else tx)) s ∧ But b h h' := by
 have l0 := T.l0 rfl
 have l2 := T.l2 rfl
 have st := T.s2 (v := .s [115]) rfl rfl rfl
 unfold aNi
 simp only [iD] at l0 l2 ⊢
 by_cases c0 : k = 2
 ·subst c0
  by_cases c1 : tx = []
  ·rw [if_pos ⟨rfl, c1⟩]
   have d1 : oU tx [] = true := by rw [aYy]; exact decide_eq_true c1
   refine ⟨_, ?_, fL _, But.st _ _ _⟩
   simp only [gL, aL, l0, bI, show ((2 : Int) == Int.ofNat 2) = true from rfl, fT, l2, oB, d1, bL, aZ, st]
  ·rw [if_neg (fun q => c1 q.2)]
   have d1 : oU tx [] = false := by rw [aYy]; exact decide_eq_false c1
   refine ⟨h, ?_, T, But.refl _ _⟩
   simp only [gL, aL, l0, bI, show ((2 : Int) == Int.ofNat 2) = true from rfl, fT, l2, oB, d1, bL, aV]
 ·rw [if_neg (fun q => c0 q.1)]
  have d0 : (k == Int.ofNat 2) = false := eqF c0
  refine ⟨h, ?_, T, But.refl _ _⟩
  simp only [gL, aL, l0, bI, d0, gM, jK, bN, aV]
theorem bBl (T : T4 h b (iD k) (iD N) (.s tx) s) (hN : uC N) : ∃ h', aOl rec n (iD d) (iD l) (.p b 0) x6 h = pI rec n (iD d) (iD l) (.p b 0) x6 h' ∧ T4 h' b (iD k) (iD (if k = 6 then (if N < 0 then -(N + 1) else N).tmod 16 else N)) (.s tx) s ∧ But b h h' := by
 have l0 := T.l0 rfl
 unfold aOl aUx
 simp only [iD] at l0 ⊢
 by_cases c0 : k = 6
 ·subst c0
  rw [if_pos rfl]
  have fin : ∀ (M : Int) (g : Hp), T4 g b (.i .i64 6) (.i .i64 M) (.s tx) s → But b h g → ∃ h', aBv rec n (.i .i64 d) (.i .i64 l) (.p b 0) x6 g = pI rec n (.i .i64 d) (.i .i64 l) (.p b 0) x6 h' ∧ T4 h' b (.i .i64 6) (.i .i64 (M.tmod 16)) (.s tx) s ∧ But b h h' := fun M g Tg B => by
   have l1 := Tg.l1 rfl
   have st := Tg.s1 (v := .i .i64 (M.tmod 16)) rfl rfl rfl
   refine ⟨_, ?_, fL _, B.trans (But.st _ _ _)⟩
   unfold aBv
   simp only [gL, aL, l1, bPc, st]
  have l1 := T.l1 rfl
  have h1 := hN.1
  have h2 := hN.2
  simp only [iD] at l1
  unfold bDe
  by_cases c1 : N < 0
  ·have d1 : decide (N < Int.ofNat 0) = true := decide_eq_true c1
   have st := T.s1 (v := .i .i64 (-(N + Int.ofNat 1))) rfl rfl rfl
   rw [if_pos c1]
   simp only [gL, aL, l0, bI, show ((6 : Int) == Int.ofNat 6) = true from rfl, aZ, l1, bJ, d1, jO N (Int.ofNat 1) h (by simp; omega), cRv (a := N + Int.ofNat 1) (by simp; omega) h, st]
   exact fin (-(N + 1)) _ (fL _) (But.st _ _ _)
  ·have d1 : decide (N < Int.ofNat 0) = false := decide_eq_false c1
   rw [if_neg c1]
   simp only [gL, aL, l0, bI, show ((6 : Int) == Int.ofNat 6) = true from rfl, aZ, l1, bJ, d1, aV]
   exact fin N h T (But.refl _ _)
 ·rw [if_neg c0]
  have d0 : (k == Int.ofNat 6) = false := eqF c0
  refine ⟨h, ?_, T, But.refl _ _⟩
  simp only [gL, aL, l0, bI, d0, aV]
theorem cEk {d : Nat} (T : T4 h b (iD k) (iD N) (.s tx) s) (hN : uC N) : ∃ h', aZt rec n (iD (Int.ofNat d)) (iD l) (.p b 0) x6 h = pI rec n (iD (Int.ofNat d)) (iD l) (.p b 0) x6 h' ∧ T4 h' b (iD (bV d k)) (iD (pZ (bV d k) N)) (.s (kV (bV d k) tx)) s ∧ But b h h' := by
 obtain ⟨h1, e1, T1, B1⟩ := bSh (rec := rec) (n := n) (l := l) (x6 := x6) (d := d) T
 obtain ⟨h2, e2, T2, B2⟩ := bUe (rec := rec) (n := n) (l := l) (x6 := x6) (d := Int.ofNat d) T1
 obtain ⟨h3, e3, T3, B3⟩ := bTa (rec := rec) (n := n) (l := l) (x6 := x6) (d := Int.ofNat d) T2
 obtain ⟨h4, e4, T4', B4⟩ := bXc (rec := rec) (n := n) (l := l) (x6 := x6) (d := Int.ofNat d) T3
 have hN2 : uC (if bV d k = 0 ∧ (N < -1152921504606846976 ∨ 1152921504606846976 < N) then 7 else N) := by
  split
  ·exact ⟨by decide, by decide⟩
  ·exact hN
 obtain ⟨h5, e5, T5, B5⟩ := bBl (rec := rec) (n := n) (l := l) (x6 := x6) (d := Int.ofNat d) T4' hN2
 exact ⟨h5, by rw [e1, e2, e3, e4, e5], T5, (((B1.trans B2).trans B3).trans B4).trans B5⟩
end
def aDy (lo : Nat) (x : DV) (p : Pos) : Prop := lo ≤ p.toNat ∧ ∀ m, x ≠ .l p 0 m m
theorem SlK.ix {h : Hp} {s : DV} {len : Nat} {cells : List DV} (q : SlK h s len cells) {i : Nat} (hi : i < len) {c : List DV} (hc : gJ 4 (cells.drop (i * 4)) = some c) :
  ∃ b o, (∀ g, aF 4 s (.i .i64 (Int.ofNat i)) g = some (.p b o, g)) ∧ ∀ g, Up h g → aN 4 (.p b o) g = some (.a c, g) := by
 rcases q with ⟨_, rfl⟩ | ⟨b, cap, rfl, ⟨⟨kd, q1⟩, q2, q3⟩⟩
 ·omega
 ·refine ⟨b, 0 + i * 4, fun g => ?_, fun g u => ?_⟩
  ·show (if 0 ≤ Int.ofNat i ∧ Int.ofNat i < (len : Int) then some (DV.p b (0 + (Int.ofNat i).toNat * 4), g) else none) = _
   rw [if_pos ⟨by simp, by simpa using hi⟩]
   rfl
  ·simp only [aN, cellsAt, rowOf, u.get b q2 q3, q1, Nat.zero_add, hc]
theorem GrZ.keep {sz n lo : Nat} {x : DV} {cells : List DV} {h h' : Hp} (S : GrZ sz x n cells lo h) (hn : h.next.toNat ≤ h'.next.toNat) (hk : ∀ p : Pos, lo ≤ p.toNat → p.toNat < h.next.toNat → h'.bl.get p = h.bl.get p) : GrZ sz x n cells lo h' := by
 obtain ⟨s1, s2, S⟩ := S
 refine ⟨s1, s2, ?_⟩
 rcases S with S | ⟨b, e, g1, g2, g3⟩
 ·exact .inl S
 ·exact .inr ⟨b, e, by rw [hk b g2 g3]; exact g1, g2, by omega⟩
theorem bHm {rec : FuncId → List DV → Hp → aG} {n M : Nat} {h : Hp} {b : Pos} {k l d : Int} {c1 c2 s x6 : DV} {len : Nat} (T : T4 h b (iD k) c1 c2 s) (hs : s.one = true) (hk : k ≠ 3) (hl : ∀ g, cO s g = some (iD len, g)) :
  kM rec n (M + 1) (iD d) (iD l) (.p b 0) x6 .l0 (.i .i64 (Int.ofNat 0)) h = jA rec n (iD l) (.p b 0) x6 .l0 h := by
 have l0 := T.l0 rfl
 have l3 := T.l3 hs
 have d3 : (k == Int.ofNat 3) = false := eqF hk
 show mN rec n (kM rec n M) _ _ _ _ _ _ h = _
 unfold mN
 simp only [iD] at l0 hl ⊢
 simp only [gL, aL, l3, hl, bJ]
 cases decide (Int.ofNat 0 < (len : Int)) with
 | false => simp only [gM, jK, bN, aL, aV]
 | true =>
  simp only [fT, aL, bJ, show decide (Int.ofNat 0 < Int.ofNat 30) = true from rfl, bL, cM]
  cases decide (l > Int.ofNat 0) with
  | false => simp only [fT, aL, bL, gM, jK, bN, aV]
  | true => simp only [fT, aL, bL, gL, l0, bI, d3, aV]
theorem bOx {d n : Nat} (hd5 : d < 100) {h0 : Hp} (hlo : 1031 ≤ h0.next.toNat) {len : Nat} {cells : List DV} {s : DV} {nn : Int} {tx : List Nat} (K : SlK h0 s len cells) (hlen : len ≤ 9223372036854775807) (hs : s.one = true)
  (IH : ∀ (c : List DV) (left : Int) (t : Th) (lm : Int) (g : Hp), FitR g d c left t lm → 1 ≤ left → left ≤ 1000 → 1031 ≤ g.next.toNat → 0 ≤ lm ∧ lm ≤ left ∧
   ∃ ds' g', cK n 9 [.a c, iD (Int.ofNat d), iD left] g = some (.t [.a ds', iD lm], g') ∧ TV (fun p => g.next.toNat ≤ p.toNat) g' t ds' ∧ Lo g.next.toNat g g') :
  ∀ (m i : Nat) (left : Int) (ks : List Th) (left' : Int), KidsR (FitR h0 d) len cells m i left ks left' → m + i = 30 → left ≤ 1000 → ∀ M, m < M → ∀ (x8 : DV) (c : Nat) (cells8 : List DV) (done : List Th) (h : Hp) (z0 z1 z2 z3 : DV),
   Lo h0.next.toNat h0 h → h0.next.toNat + 2 ≤ h.next.toNat → T4 h h0.next (iD 3) (iD nn) (.s tx) s → T4 h h0.next.succ z0 z1 z2 z3 → GrZ 4 x8 c cells8 (h0.next.toNat + 2) h → TVL (aDy (h0.next.toNat + 2) x8) h done cells8 → done.length = c → c ≤ i →
   ∃ x8' h' cells', kM (cK n) n M (iD (Int.ofNat (d + 1))) (iD left) (.p h0.next 0) (.p h0.next.succ 0) x8 (iD (Int.ofNat i)) h = jA (cK n) n (iD left') (.p h0.next 0) (.p h0.next.succ 0) x8' h' ∧ Lo h0.next.toNat h0 h' ∧ h0.next.toNat + 2 ≤ h'.next.toNat ∧
    T4 h' h0.next (iD 3) (iD nn) (.s tx) s ∧ T4 h' h0.next.succ z0 z1 z2 z3 ∧ GrZ 4 x8' (c + ks.length) cells' (h0.next.toNat + 2) h' ∧ TVL (aDy (h0.next.toNat + 2) x8') h' (done ++ ks) cells' := by
 have ns := dKd h0.next
 have stop : ∀ (i : Nat) (left : Int) M (x8 : DV) (c : Nat) (cells8 : List DV) (done : List Th) (h : Hp) (z0 z1 z2 z3 : DV), ¬ ((i < len ∧ 0 < left) ∧ i < 30) → i ≤ 30 →
   Lo h0.next.toNat h0 h → h0.next.toNat + 2 ≤ h.next.toNat → T4 h h0.next (iD 3) (iD nn) (.s tx) s → T4 h h0.next.succ z0 z1 z2 z3 → GrZ 4 x8 c cells8 (h0.next.toNat + 2) h → TVL (aDy (h0.next.toNat + 2) x8) h done cells8 →
   ∃ x8' h' cells', kM (cK n) n (M + 1) (iD (Int.ofNat (d + 1))) (iD left) (.p h0.next 0) (.p h0.next.succ 0) x8 (iD (Int.ofNat i)) h = jA (cK n) n (iD left) (.p h0.next 0) (.p h0.next.succ 0) x8' h' ∧ Lo h0.next.toNat h0 h' ∧ h0.next.toNat + 2 ≤ h'.next.toNat ∧
    T4 h' h0.next (iD 3) (iD nn) (.s tx) s ∧ T4 h' h0.next.succ z0 z1 z2 z3 ∧ GrZ 4 x8' (c + ([] : List Th).length) cells' (h0.next.toNat + 2) h' ∧ TVL (aDy (h0.next.toNat + 2) x8') h' (done ++ []) cells' := by
  intro i left M x8 c cells8 done h z0 z1 z2 z3 hq hi L hn T Z S D
  refine ⟨x8, h, cells8, ?_, L, hn, T, Z, S, by rw [List.append_nil]; exact D⟩
  have l0 := T.l0 rfl
  have l3 := T.l3 hs
  have hl := fun g => K.len g
  show mN (cK n) n (kM (cK n) n M) _ _ _ _ _ _ h = _
  unfold mN
  simp only [iD] at l0 hl ⊢
  simp only [gL, aL, l3, hl, bJ]
  by_cases c1 : i < len
  ·have d1 : decide (Int.ofNat i < (len : Int)) = true := decide_eq_true (by simpa using c1)
   simp only [d1, fT, aL, bJ]
   by_cases c2 : i < 30
   ·have d2 : decide (Int.ofNat i < Int.ofNat 30) = true := decide_eq_true (by simp; omega)
    have d3 : decide (left > Int.ofNat 0) = false := decide_eq_false (fun q => hq ⟨⟨c1, q⟩, c2⟩)
    simp only [d2, bL, fT, aL, cM, d3, gM, jK, bN, aV]
   ·have d2 : decide (Int.ofNat i < Int.ofNat 30) = false := decide_eq_false (by simp; omega)
    simp only [d2, bL, aL, gM, jK, bN, aV]
  ·have d1 : decide (Int.ofNat i < (len : Int)) = false := decide_eq_false (by simpa using c1)
   simp only [d1, gM, jK, bN, aL, aV]
 intro m
 induction m with
 | zero =>
  intro i left ks left' H hm hl M hM x8 c cells8 done h z0 z1 z2 z3 L hn T Z S D hd hc
  obtain ⟨M, rfl⟩ : ∃ M', M = M' + 1 := ⟨M - 1, by omega⟩
  unfold KidsR at H
  obtain ⟨rfl, rfl⟩ := H
  exact stop i left' M x8 c cells8 done h z0 z1 z2 z3 (by omega) (by omega) L hn T Z S D
 | succ m ih =>
  intro i left ks left' H hm hl M hM x8 c cells8 done h z0 z1 z2 z3 L hn T Z S D hd hc
  obtain ⟨M, rfl⟩ : ∃ M', M = M' + 1 := ⟨M - 1, by omega⟩
  unfold KidsR at H
  rcases H with ⟨hq, rfl, rfl⟩ | ⟨hi, hl0, cc, t, lm, ts, e1, F1, K1, rfl⟩
  ·exact stop i left' M x8 c cells8 done h z0 z1 z2 z3 (fun q => hq q.1) (by omega) L hn T Z S D
  ·obtain ⟨b, o, ei, el⟩ := K.ix hi e1
   obtain ⟨p1, p2, ds', g, e2, V, Lg⟩ := IH cc left t lm h (F1.up L.up) (by omega) hl (by omega)
   have hng := Lg.next
   obtain ⟨g1, hg1⟩ : ∃ g1 : Hp, (⟨g.next.succ, Tr.set (.row .ex [.i .i64 (Int.ofNat 0), .i .i64 (Int.ofNat 0), .s [], .l0]) g.next g.bl⟩ : Hp) = g1 := ⟨_, rfl⟩
   have nsg := dKd g.next
   have n1 : g1.next = g.next.succ := by rw [← hg1]
   have eN : cF [(.i .i64 (Int.ofNat 0)), (.i .i64 (Int.ofNat 0)), (.s []), .l0] g = some (.p g.next 0, g1) := by rw [← hg1]; rfl
   have T1 : T4 g1 g.next (.i .i64 (Int.ofNat 0)) (.i .i64 (Int.ofNat 0)) (.s []) .l0 := by rw [← hg1]; exact dKc _ _ _
   obtain ⟨sh1, sh2⟩ := V.shape
   obtain ⟨u0, u1, u2, u3, rfl⟩ : ∃ c0 c1 c2 c3, ds' = [c0, c1, c2, c3] := by
    match ds', sh1 with
    | [c0, c1, c2, c3], _ => exact ⟨_, _, _, _, rfl⟩
   have w0 := sh2 u0 (by simp)
   have w1 := sh2 u1 (by simp)
   have w2 := sh2 u2 (by simp)
   have w3 := sh2 u3 (by simp)
   have eS := T1.sa (d0 := u0) (d1 := u1) (d2 := u2) (d3 := u3) rfl rfl rfl rfl w0 w1 w2 w3
   obtain ⟨g2, hg2⟩ : ∃ g2 : Hp, hst g1 g.next (.row .ex [u0, u1, u2, u3]) = g2 := ⟨_, rfl⟩
   rw [hg2] at eS
   have n2 : g2.next = g.next.succ := by rw [← hg2]; exact n1
   have T2 : T4 g2 g.next u0 u1 u2 u3 := by rw [← hg2]; exact fL _
   have eL := T2.la w0 w1 w2 w3
   have oth : ∀ p : Pos, p.toNat < g.next.toNat → g2.bl.get p = g.bl.get p := fun p hp => by
    have ne : p ≠ g.next := fun e => by subst e; omega
    rw [← hg2, kB ne, ← hg1]
    exact dKb _ _ _ _ ne
   have old : ∀ p : Pos, p.toNat < h.next.toNat → g2.bl.get p = h.bl.get p := fun p hp => (oth p (by omega)).trans (Lg.get p hp)
   have S2 : GrZ 4 x8 c cells8 (h0.next.toNat + 2) g2 := S.keep (by rw [n2]; omega) (fun p _ hp => old p hp)
   obtain ⟨y, g3, e4, x8', g4, e5, S4, L4, k4, f4⟩ := S2.app (zeros := [(.i .i64 (Int.ofNat 0)), (.i .i64 (Int.ofNat 0)), (.s []), .l0]) (by rw [n2]; omega) (by omega) rfl (c := [u0, u1, u2, u3]) rfl sh2 (bytes := 56) (by unfold jU; omega)
   have hn4 := L4.next
   rw [n2] at hn4
   have low : ∀ p : Pos, p.toNat < h0.next.toNat + 2 → g4.bl.get p = h.bl.get p := fun p hp => (L4.get p hp).trans (old p (by omega))
   have D4 : TVL (aDy (h0.next.toNat + 2) x8') g4 (done ++ [t]) (cells8 ++ [u0, u1, u2, u3]) := by
    have dk : ∀ p : Pos, aDy (h0.next.toNat + 2) x8 p → p.toNat < h.next.toNat → (p.toNat < 1024 ∨ 1029 ≤ p.toNat) → g4.bl.get p = h.bl.get p ∧ aDy (h0.next.toNat + 2) x8' p := fun p hp h1 h2 => by
     refine ⟨?_, hp.1, ?_⟩
     ·rw [k4 p (by rw [n2]; omega) hp.2]
      exact old p h1
     ·intro m e
      have := f4 p m e
      rw [n2] at this
      omega
    have tk : ∀ p : Pos, h.next.toNat ≤ p.toNat → p.toNat < g.next.toNat → (p.toNat < 1024 ∨ 1029 ≤ p.toNat) → g4.bl.get p = g.bl.get p ∧ aDy (h0.next.toNat + 2) x8' p := fun p hp h1 h2 => by
     have hne : ∀ m, x8 ≠ .l p 0 m m := fun m e => by
      obtain ⟨_, _, q | ⟨b8, q, _, _, q3⟩⟩ := S
      ·rw [q.1] at e; cases e
      ·rw [q] at e; cases e; omega
     refine ⟨?_, by omega, ?_⟩
     ·rw [k4 p (by rw [n2]; omega) hne]
      exact oth p h1
     ·intro m e
      have := f4 p m e
      rw [n2] at this
      omega
    exact (TVL.mv (by omega) dk done cells8 D).app (TVL.one (TV.mv (by omega) tk t _ V))
   obtain ⟨x9, h9, cells9, e9, L9, n9, T9, Z9, S9, D9⟩ := ih (i + 1) lm ts left' K1 (by omega) (by omega) M (by omega) x8' (c + 1) (cells8 ++ [u0, u1, u2, u3]) (done ++ [t]) g4 z0 z1 z2 z3
    ⟨by have := L.next; omega, fun p hp => (low p (by omega)).trans (L.get p hp)⟩ (by omega) (by unfold T4; rw [low _ (by omega)]; exact T) (by unfold T4; rw [low _ (by omega)]; exact Z) S4 D4 (by simp [hd]) (by omega)
   refine ⟨x9, h9, cells9, ?_, L9, n9, T9, Z9, by rw [List.length_cons, show c + (ts.length + 1) = c + 1 + ts.length by omega]; exact S9, by rw [List.append_assoc] at D9; exact D9⟩
   rw [← e9]
   have l0 := T.l0 rfl
   have l3 := T.l3 hs
   have hlK := fun g => K.len g
   have d1 : decide (Int.ofNat i < (len : Int)) = true := decide_eq_true (by simpa using hi)
   have d2 : decide (Int.ofNat i < Int.ofNat 30) = true := decide_eq_true (by simp; omega)
   have d3 : decide (left > Int.ofNat 0) = true := decide_eq_true hl0
   have es : aD .sub (.i .i64 (Int.ofNat (d + 1))) (.i .i64 (Int.ofNat 1)) h = some (.i .i64 (Int.ofNat d), h) := by
    rw [aDa _ _ _ (by simp; omega)]
    have : (Int.ofNat (d + 1)) - Int.ofNat 1 = Int.ofNat d := by simp
    rw [this]
   show mN (cK n) n (kM (cK n) n M) _ _ _ _ _ _ h = _
   unfold mN
   simp only [iD] at l0 hlK e2 e5 ⊢
   simp only [gL, aL, l3, hlK, bJ, d1, fT, d2, bL, cM, d3, l0, bI, show ((3 : Int) == Int.ofNat 3) = true from rfl, aZ, ei, el h L.up, es, e2, sV, sA, eN, eS, eL, e4, e5, cY i 1 g4 (by omega)]
end Go.Dd

namespace Go.Dd
open Go.Proofs
section
variable {h h' : Hp} {M M' : MemV} {R R' : List Int} {es es' : List (DV × DV)} {k : Nat} {z : Prop} {CL : List Nat} {b : Pos} {n r : Int} {x : DV}
theorem Grown.newAt {f : Nat} {cls : Int} {l : List Int} (g : Grown M M' f cls l) (G : Good M) : bM (.ofNat (M.fin * 2)) M'.pl = M.fin := by
 rw [g.pl]
 exact yQ G.lo (by have := G.le; have := G.hi; omega)
theorem Grown.newHead {f : Nat} {cls : Int} {l : List Int} (g : Grown M M' f cls l) (G : Good M) : cE M' (.ofNat (M.fin * 2)) = l.length * 4 + f := by
 unfold cE
 rw [g.newAt G, g.hd]
theorem Grown.newGet {f : Nat} {cls : Int} {l : List Int} (g : Grown M M' f cls l) (G : Good M) (hf : f < 4) (i : Nat) : dV M' (.ofNat (M.fin * 2)) i = l.getD i 0 := by
 have := G.lo
 unfold dV
 rw [g.newHead G, g.newAt G]
 by_cases hi : i < l.length
 ·rw [if_pos ⟨by omega, by omega⟩, g.new i _ (List.getElem?_eq_getElem hi)]
  simp [List.getD, List.getElem?_eq_getElem hi]
 ·rw [if_neg (by omega)]
  simp [List.getD, List.getElem?_eq_none (by omega : l.length ≤ i)]
end
end Go.Dd

namespace Go.Dd
open Go.Proofs
theorem xN {F : List DV → Int → Th → Int → Prop} (hf : ∀ c l t m, 1 ≤ l → F c l t m → 0 ≤ m ∧ m ≤ l) {len : Nat} {cells : List DV} : ∀ (m i : Nat) (left : Int) (ks : List Th) (left' : Int), KidsR F len cells m i left ks left' → 0 ≤ left → 0 ≤ left' ∧ left' ≤ left ∧ ks.length ≤ m
 | 0, i, left, ks, left', H, hl => by unfold KidsR at H; obtain ⟨rfl, rfl⟩ := H; exact ⟨hl, by omega, by simp⟩
 | m + 1, i, left, ks, left', H, hl => by
  unfold KidsR at H
  rcases H with ⟨_, rfl, rfl⟩ | ⟨a, b, c, t, lm, ts, e1, e2, e3, rfl⟩
  ·exact ⟨hl, by omega, by simp⟩
  ·obtain ⟨q1, q2⟩ := hf c left t lm (by omega) e2
   obtain ⟨q3, q4, q5⟩ := xN hf m (i + 1) lm ts left' e3 q1
   exact ⟨q3, by omega, by simp; omega⟩
theorem aIi {h : Hp} : ∀ (d : Nat) (ds : List DV) (left : Int) (t : Th) (left' : Int), 1 ≤ left → FitR h d ds left t left' → 0 ≤ left' ∧ left' ≤ left
 | 0, ds, left, t, left', hl, H => by
  unfold FitR at H
  obtain ⟨k, n, tx, s, len, cells, _, _, _, _, _, _, _, rfl⟩ := H
  omega
 | d + 1, ds, left, t, left', hl, H => by
  unfold FitR at H
  obtain ⟨k, n, tx, s, len, cells, _, _, _, _, _, _, r⟩ := H
  rcases r with ⟨_, _, rfl⟩ | ⟨_, ks, _, K⟩
  ·omega
  ·obtain ⟨q1, q2, _⟩ := xN (fun c l t m hl h => aIi d c l t m hl h) 30 0 (left - 1) ks left' K (by omega)
   omega
section
variable {h : Hp}
theorem aRx {rec : FuncId → List DV → Hp → aG} {n : Nat} {h0 : Hp} (hlo : 1031 ≤ h0.next.toNat) {k' n' left' : Int} {tx' : List Nat} {s x8 z0 z1 z2 z3 : DV} {ks : List Th} {cells : List DV}
  (L : Lo h0.next.toNat h0 h) (hn : h0.next.toNat + 2 ≤ h.next.toNat) (T : T4 h h0.next (iD k') (iD n') (.s tx') s) (hs : s.one = true) (Z : T4 h h0.next.succ z0 z1 z2 z3) (o0 : z0.one = true) (o1 : z1.one = true) (o2 : z2.one = true) (o3 : z3.one = true)
  (S : GrZ 4 x8 ks.length cells (h0.next.toNat + 2) h) (D : TVL (aDy (h0.next.toNat + 2) x8) h ks cells) :
  ∃ ds' h', jA rec n (iD left') (.p h0.next 0) (.p h0.next.succ 0) x8 h = some (.t [.a ds', iD left'], h') ∧ TV (fun p => h0.next.toNat ≤ p.toNat) h' (.mk k' n' tx' ks) ds' ∧ Lo h0.next.toNat h0 h' := by
 have ns := dKd h0.next
 have ox : x8.one = true := by obtain ⟨_, _, q | ⟨b, q, _⟩⟩ := S <;> simp [q, DV.one]
 have oc : cT x8 = some [x8] := by obtain ⟨_, _, q | ⟨b, q, _⟩⟩ := S <;> simp [q, cT]
 have e1 := T.s3 (v := x8) hs ox oc
 obtain ⟨h1, hh1⟩ : ∃ h1 : Hp, hst h h0.next (.row .ex [iD k', iD n', .s tx', x8]) = h1 := ⟨_, rfl⟩
 rw [hh1] at e1
 have T1 : T4 h1 h0.next (iD k') (iD n') (.s tx') x8 := by rw [← hh1]; exact fL _
 have e2 := T1.la rfl rfl rfl ox
 have ne : h0.next.succ ≠ h0.next := fun e => by have := congrArg Pos.toNat e; omega
 have Z1 : T4 h1 h0.next.succ z0 z1 z2 z3 := by unfold T4; rw [← hh1, kB ne]; exact Z
 have e3 := Z1.sa (d0 := iD k') (d1 := iD n') (d2 := .s tx') (d3 := x8) o0 o1 o2 o3 rfl rfl rfl ox
 obtain ⟨h2, hh2⟩ : ∃ h2 : Hp, hst h1 h0.next.succ (.row .ex [iD k', iD n', .s tx', x8]) = h2 := ⟨_, rfl⟩
 rw [hh2] at e3
 have T2 : T4 h2 h0.next.succ (iD k') (iD n') (.s tx') x8 := by rw [← hh2]; exact fL _
 have e4 := T2.la rfl rfl rfl ox
 have n2 : h2.next = h.next := by rw [← hh2, ← hh1]; rfl
 have oth : ∀ p : Pos, p ≠ h0.next → p ≠ h0.next.succ → h2.bl.get p = h.bl.get p := fun p h1 h2 => by rw [← hh2, kB h2, ← hh1, kB h1]
 refine ⟨[iD k', iD n', .s tx', x8], h2, ?_, ?_, ?_⟩
 ·unfold jA
  simp only [gL, aL, e1, e2, e3, e4]
 ·unfold TV
  refine ⟨x8, rfl, ox, ?_⟩
  have D2 : TVL (fun p => h0.next.toNat ≤ p.toNat) h2 ks cells := TVL.mv (by rw [n2]; omega) (fun p hp h1 h2 => by
   have q : h0.next.toNat + 2 ≤ p.toNat := hp.1
   exact ⟨oth p (fun e => by subst e; omega) (fun e => by subst e; omega), by omega⟩) ks cells D
  obtain ⟨s1, s2, q | ⟨b, q, g1, g2, g3⟩⟩ := S
  ·exact .inl ⟨List.length_eq_zero_iff.1 q.2, q.1⟩
  ·refine .inr ⟨b, cells, q, ⟨⟨_, by rw [oth b (fun e => by subst e; omega) (fun e => by subst e; omega)]; exact g1⟩, by omega, by rw [n2]; exact g3⟩, by omega, D2⟩
 ·refine ⟨by rw [n2]; exact L.next, fun p hp => ?_⟩
  rw [oth p (fun e => by subst e; omega) (fun e => by subst e; omega)]
  exact L.get p hp
theorem SlK.one {h : Hp} {s : DV} {len : Nat} {cells : List DV} (q : SlK h s len cells) : s.one = true := by
 rcases q with ⟨rfl | rfl, _⟩ | ⟨b, cap, rfl, _⟩ <;> rfl
theorem aBf {d n : Nat} {k N left : Int} {s : DV} {tx : List Nat} {h0 : Hp} (hlo : 1031 ≤ h0.next.toNat) (hN : uC N) (hl : 1 ≤ left) (hl2 : left ≤ 1000) (hs : s.one = true) :
  ∃ h1, cK (n + 1) 9 [.a [iD k, iD N, .s tx, s], iD (Int.ofNat d), iD left] h0 = kM (cK n) n n (iD (Int.ofNat d)) (iD (left - 1)) (.p h0.next 0) (.p h0.next.succ 0) .l0 (.i .i64 (Int.ofNat 0)) h1 ∧
   T4 h1 h0.next (iD (bV d k)) (iD (pZ (bV d k) N)) (.s (kV (bV d k) tx)) s ∧ T4 h1 h0.next.succ (.i .i64 (Int.ofNat 0)) (.i .i64 (Int.ofNat 0)) (.s []) .l0 ∧ Lo h0.next.toNat h0 h1 ∧ h1.next.toNat = h0.next.toNat + 2 := by
 have ns := dKd h0.next
 have ns2 := dKd h0.next.succ
 obtain ⟨u1, hu1⟩ : ∃ u1 : Hp, (⟨h0.next.succ, Tr.set (.row .ex [iD k, iD N, .s tx, s]) h0.next h0.bl⟩ : Hp) = u1 := ⟨_, rfl⟩
 have e1 : cB (.a [iD k, iD N, .s tx, s]) h0 = some (.p h0.next 0, u1) := by rw [← hu1]; rfl
 have m1 : u1.next = h0.next.succ := by rw [← hu1]
 obtain ⟨u2, hu2⟩ : ∃ u2 : Hp, (⟨u1.next.succ, Tr.set (.row .ex [.i .i64 (Int.ofNat 0), .i .i64 (Int.ofNat 0), .s [], .l0]) u1.next u1.bl⟩ : Hp) = u2 := ⟨_, rfl⟩
 have e2 : cF [(.i .i64 (Int.ofNat 0)), (.i .i64 (Int.ofNat 0)), (.s []), .l0] u1 = some (.p h0.next.succ 0, u2) := by rw [← hu2, ← m1]; rfl
 have m2 : u2.next = h0.next.succ.succ := by rw [← hu2, m1]
 have ne : h0.next ≠ h0.next.succ := fun e => by have := congrArg Pos.toNat e; omega
 have T2 : T4 u2 h0.next (iD k) (iD N) (.s tx) s := by
  unfold T4
  rw [← hu2]
  show (Tr.set _ u1.next u1.bl).get h0.next = _
  rw [m1, dKb _ _ _ _ ne, ← hu1]
  exact dKc _ _ _
 have Z2 : T4 u2 h0.next.succ (.i .i64 (Int.ofNat 0)) (.i .i64 (Int.ofNat 0)) (.s []) .l0 := by
  unfold T4
  rw [← hu2]
  show (Tr.set _ u1.next u1.bl).get h0.next.succ = _
  rw [m1]
  exact dKc _ _ _
 obtain ⟨g3, e3, T3, B⟩ := cEk (rec := cK n) (n := n) (l := left - 1) (x6 := .p h0.next.succ 0) (d := d) T2 hN
 refine ⟨g3, ?_, T3, ?_, ⟨by rw [B.1, m2]; omega, fun p hp => ?_⟩, by rw [B.1, m2]; omega⟩
 ·rw [mJ 9 rfl, cWt]
  unfold s9 bBf
  have es : aD .sub (.i .i64 left) (.i .i64 (Int.ofNat 1)) u2 = some (.i .i64 (left - 1), u2) := aDa _ _ _ (by simp; omega)
  simp only [iD] at e1 e3 ⊢
  simp only [g0, g1, g2, e1, e2, es, aL, e3]
  rfl
 ·unfold T4
  rw [B.2 _ ne.symm]
  exact Z2
 ·rw [B.2 p (fun e => by subst e; omega), ← hu2]
  show (Tr.set _ u1.next u1.bl).get p = _
  rw [m1, dKb _ _ _ _ (fun e => by subst e; omega), ← hu1]
  exact dKb _ _ _ _ (fun e => by subst e; omega)
theorem aXl : ∀ (d : Nat), d ≤ 10 → ∀ (ds : List DV) (left : Int) (t : Th) (left' : Int) (h : Hp), FitR h d ds left t left' → 1 ≤ left → left ≤ 1000 → 1031 ≤ h.next.toNat → ∀ n, 60 < n →
  ∃ ds' h', cK (n + d) 9 [.a ds, iD (Int.ofNat d), iD left] h = some (.t [.a ds', iD left'], h') ∧ TV (fun p => h.next.toNat ≤ p.toNat) h' t ds' ∧ Lo h.next.toNat h h' := by
 have none : ∀ (d n : Nat) (k N left : Int) (s : DV) (tx : List Nat) (len : Nat) (cells : List DV) (h : Hp), 1031 ≤ h.next.toNat → uC N → 1 ≤ left → left ≤ 1000 → SlK h s len cells → bV d k ≠ 3 →
   ∃ ds' h', cK (n + 1 + 1) 9 [.a [iD k, iD N, .s tx, s], iD (Int.ofNat d), iD left] h = some (.t [.a ds', iD (left - 1)], h') ∧ TV (fun p => h.next.toNat ≤ p.toNat) h' (.mk (bV d k) (pZ (bV d k) N) (kV (bV d k) tx) []) ds' ∧ Lo h.next.toNat h h' := by
  intro d n k N left s tx len cells h hlo hN hl hl2 K hk
  obtain ⟨h1, e1, T1, Z1, L1, n1⟩ := aBf (d := d) (n := n + 1) (k := k) (tx := tx) hlo hN hl hl2 K.one
  obtain ⟨ds', h2, e2, V, L2⟩ := aRx (rec := cK (n + 1)) (n := n + 1) (left' := left - 1) hlo L1 (by omega) T1 K.one Z1 rfl rfl rfl rfl (GrZ.nil 4 _ h1) (ks := []) (cells := []) (by unfold TVL; rfl)
  refine ⟨ds', h2, ?_, V, L2⟩
  rw [e1, bHm T1 K.one hk (fun g => K.len g), e2]
 intro d
 induction d with
 | zero =>
  intro _ ds left t left' h H hl hl2 hlo n hn
  obtain ⟨n, rfl⟩ : ∃ n', n = n' + 2 := ⟨n - 2, by omega⟩
  unfold FitR at H
  obtain ⟨k, N, tx, s, len, cells, rfl, hb, hk, hN, K, hlen, rfl, rfl⟩ := H
  have h3 : bV 0 k ≠ 3 := by
   unfold bV
   split <;> omega
  exact none 0 n k N left s tx len cells h hlo hN hl hl2 K h3
 | succ d ih =>
  intro hd ds left t left' h H hl hl2 hlo n hn
  unfold FitR at H
  obtain ⟨k, N, tx, s, len, cells, rfl, hb, hk, hN, K, hlen, R⟩ := H
  rcases R with ⟨h3, rfl, rfl⟩ | ⟨h3, ks, rfl, Q⟩
  ·obtain ⟨m, hm⟩ : ∃ m, n + (d + 1) = m + 1 + 1 := ⟨n + d - 1, by omega⟩
   rw [hm]
   exact none (d + 1) m k N left s tx len cells h hlo hN hl hl2 K h3
  ·obtain ⟨h1, e1, T1, Z1, L1, n1⟩ := aBf (d := d + 1) (n := n + d) (k := k) (tx := tx) hlo hN hl hl2 K.one
   rw [h3] at T1
   obtain ⟨_, _, hks⟩ := xN (fun c l t m hl h => aIi d c l t m hl h) 30 0 (left - 1) ks left' Q (by omega)
   obtain ⟨x8, h2, cells8, e2, L2, n2, T2, Z2, S2, D2⟩ := bOx (d := d) (n := n + d) (by omega) hlo K hlen K.one (fun c l t lm g F hl hl2 hlo => by
    obtain ⟨q1, q2⟩ := aIi d c l t lm hl F
    exact ⟨q1, q2, ih (by omega) c l t lm g F hl hl2 hlo n hn⟩) 30 0 (left - 1) ks left' Q (by omega) (by omega) (n + d) (by omega) .l0 0 [] [] h1 _ _ _ _ L1 (by omega) T1 Z1 (GrZ.nil 4 _ h1) (by unfold TVL; rfl) rfl (by omega)
   rw [Nat.zero_add] at S2
   rw [List.nil_append] at D2
   obtain ⟨ds', h4, e4, V, L4⟩ := aRx (rec := cK (n + d)) (n := n + d) (left' := left') hlo L2 n2 T2 K.one Z2 rfl rfl rfl rfl S2 D2
   refine ⟨ds', h4, ?_, V, L4⟩
   rw [show n + (d + 1) = n + d + 1 by omega, e1]
   exact e2.trans e4
end
end Go.Dd

namespace Go.Dd
open Go.Proofs
abbrev uE := Lk 8714 8770
abbrev cSt := LkL 8714 8770
section
variable {h h' : Hp} {M M' : MemV} {R R' : List Int} {es es' : List (DV × DV)} {k : Nat} {z : Prop} {CL : List Nat}
theorem Lk.may' {pt eg : Int} {t : Th} {x : Int} (H : Lk pt eg M R t x) : dK x M.pl = true := by
 obtain ⟨kd, n, tx, ks⟩ := t
 unfold Lk at H
 exact H.1
def aMf (t : Th) (k : Nat) (h : Hp) (M : MemV) (R : List Int) (es : List (DV × DV)) (r : aG) : Prop :=
 ∃ v h' M' R' es', r = some (iD v, h') ∧ Wv k h' M' R' es' ∧ Up h h' ∧ Stay (260 * t.sz) M M' R R' es es' ∧ uE M' R' t v
theorem cTr (t : Th) : 1 ≤ t.sz := by
 obtain ⟨kd, n, tx, ks⟩ := t
 unfold Th.sz
 omega
theorem cPr {n : Int} {tx : List Nat} {ks : List Th} (hk : oW ks = 0) (V : Wv (260 + k) h M R es) (hn : -1152921504606846976 ≤ n ∧ n ≤ 1152921504606846976) {m : Nat} (hm : 300 < m) : ∃ a e h' M', cK (m + 2) 22 [.p (aM 7) 0, .i .i64 n] h = some (.t [iD a, iD e], h') ∧ Wv k h' M' R es ∧ Up h h' ∧ Stay 260 M M' R R es es ∧ uE M' R (.mk 0 n tx ks) a := by
 have h4 := V.n
 have h5 := V.fin
 have h6 := V.md
 obtain ⟨a, e, h', M', e1, K', U, S, A⟩ := V.K.num (by omega) (by omega) n (k := m) (by omega)
 rcases A with ⟨q, _⟩ | ⟨_, _, q1, q2⟩
 ·exact absurd hn q
 ·refine ⟨a, e, h', M', e1, V.stay K' U (S.mono (by omega)), U, S.mono (by omega), ?_⟩
  unfold uE Lk
  exact ⟨q2, .inl ⟨rfl, q1⟩⟩
theorem cTq {n : Int} {s : List Nat} {ks : List Th} (V : Wv (260 + k) h M R es) (hs : ∀ c ∈ s, c < 256) (hl : s.length ≤ 250) {m : Nat} (hm : 300 < m) : ∃ a e h' M', cK (m + 3) 23 [.p (aM 7) 0, .s s] h = some (.t [iD a, iD e], h') ∧ Wv k h' M' R es ∧ Up h h' ∧ Stay 260 M M' R R es es ∧ uE M' R (.mk 1 n s ks) a := by
 have h4 := V.n
 have h5 := V.fin
 have h6 := V.md
 obtain ⟨a, e, h', M', e1, K', U, S, A⟩ := V.K.string hs (by omega) (by omega) (n := m) hm
 rcases A with ⟨q, _⟩ | ⟨_, _, _, T⟩
 ·exact absurd hl q
 ·refine ⟨a, e, h', M', e1, V.stay K' U S, U, S, ?_⟩
  unfold uE Lk
  exact ⟨iP T.at0, .inr (.inl ⟨rfl, T⟩)⟩
theorem cKv {n : Int} {s : List Nat} {ks : List Th} (V : Wv (260 + k) h M R es) (hs : ∀ c ∈ s, c < 256) (hl : 1 ≤ s.length ∧ s.length ≤ 60) {m : Nat} (hm : 300 < m) : ∃ a e h' M' R' es', cK (m + 3) 24 [.p (aM 7) 0, .s s] h = some (.t [iD a, iD e], h') ∧ Wv k h' M' R' es' ∧ Up h h' ∧ Stay 260 M M' R R' es es' ∧ uE M' R' (.mk 2 n s ks) a := by
 have h4 := V.n
 have h5 := V.fin
 have h6 := V.md
 obtain ⟨a, e, h', M', R', es', e1, K', U, S, A⟩ := V.K.symbol hs (by omega) (by omega) (n := m) hm
 rcases A with ⟨q, _⟩ | ⟨_, _, _, T⟩
 ·exact absurd hl q
 ·have r := S.r 12
  have T' : TxO M' (R'.getD 13 0) a s := by rw [r]; exact T
  refine ⟨a, e, h', M', R', es', e1, V.stay K' U (S.mono (by omega)), U, S.mono (by omega), ?_⟩
  unfold uE Lk
  exact ⟨iP T.at0, .inr (.inr (.inl ⟨rfl, T'⟩))⟩
theorem cYa {n : Int} {tx : List Nat} {ks : List Th} (V : Wv (260 + k) h M R es) : ∃ a e h' M', jQ [.p (aM 3) 0, iD 8714, .i .i64 (.ofNat 0), .i .i64 (.ofNat 2)] h = some (.t [iD a, iD e], h') ∧ Wv k h' M' R es ∧ Up h h' ∧ Stay 260 M M' R R es es ∧ uE M' R (.mk 4 n tx ks) a := by
 have h4 := V.n
 have h5 := V.fin
 have h6 := V.md
 obtain ⟨h', M', e1, K', U, g⟩ := V.K.make0 V.ptAt (f := 0) (c := 2) (by omega) (by omega) (by omega) (by omega)
 have S' : Stay 260 M M' R R es es := (g.stay V.K.G R es V.ptNew).mono (by simp)
 have ha := g.newAt V.K.G
 have h0 := V.K.G.lo
 have ha0 : bM (.ofNat (M.fin * 2)) M'.pl ≠ 0 := by rw [ha]; omega
 refine ⟨_, _, h', M', e1, V.stay K' U S', U, S', ?_⟩
 unfold uE Lk
 exact ⟨iP ha0, .inr (.inr (.inr (.inr (.inl ⟨rfl, ha0, by unfold cW; rw [ha, g.cl]⟩))))⟩
theorem dDl {n : Int} {tx : List Nat} {ks : List Th} (V : Wv (260 + k) h M R es) : ∃ a e h' M', jQ [.p (aM 3) 0, iD 8770, .i .i64 (.ofNat 0), .i .i64 (.ofNat 0)] h = some (.t [iD a, iD e], h') ∧ Wv k h' M' R es ∧ Up h h' ∧ Stay 260 M M' R R es es ∧ uE M' R (.mk 5 n tx ks) a := by
 have h4 := V.n
 have h5 := V.fin
 have h6 := V.md
 obtain ⟨h', M', e1, K', U, g⟩ := V.K.make0 V.egAt (f := 0) (c := 0) (by omega) (by omega) (by omega) (by omega)
 have S' : Stay 260 M M' R R es es := (g.stay V.K.G R es V.egNew).mono (by simp)
 have ha := g.newAt V.K.G
 have h0 := V.K.G.lo
 have ha0 : bM (.ofNat (M.fin * 2)) M'.pl ≠ 0 := by rw [ha]; omega
 refine ⟨_, _, h', M', e1, V.stay K' U S', U, S', ?_⟩
 unfold uE Lk
 exact ⟨iP ha0, .inr (.inr (.inr (.inr (.inr (.inl ⟨rfl, ha0, by unfold cW; rw [ha, g.cl]⟩)))))⟩
def LkA (M : MemV) (R : List Int) : List Th → List Int → Prop
 | [], [] => True
 | t :: ts, x :: l => uE M R t x ∧ LkA M R ts l
 | _, _ => False
theorem LkA.stay {j : Nat} (S : Stay j M M' R R' es es') (I : GI M R CL z) (G : Good M) : ∀ (ts : List Th) (l : List Int), LkA M R ts l → LkA M' R' ts l
 | [], [], _ => trivial
 | t :: ts, x :: l, H => ⟨Lk.stay S I G t x H.1, LkA.stay S I G ts l H.2⟩
 | [], _ :: _, H => H.elim
 | _ :: _, [], H => H.elim
theorem dLn : ∀ {ts : List Th} {l : List Int} {t : Th} {x : Int}, LkA M R ts l → uE M R t x → LkA M R (ts ++ [t]) (l ++ [x])
 | [], [], t, x, _, H => ⟨H, trivial⟩
 | t0 :: ts, x0 :: l, t, x, H0, H => ⟨H0.1, dLn H0.2 H⟩
 | [], _ :: _, _, _, H, _ => H.elim
 | _ :: _, [], _, _, H, _ => H.elim
theorem LkA.len : ∀ {ts : List Th} {l : List Int}, LkA M R ts l → l.length = ts.length ∧ ∀ v ∈ l, dK v M.pl = true
 | [], [], _ => ⟨rfl, by simp⟩
 | t :: ts, x :: l, H => by
  obtain ⟨a, b⟩ := LkA.len H.2
  refine ⟨by simp [a], fun v hv => ?_⟩
  simp only [List.mem_cons] at hv
  rcases hv with rfl | hv
  ·exact H.1.may'
  ·exact b v hv
 | [], _ :: _, H => H.elim
 | _ :: _, [], H => H.elim
theorem dLg {x : Int} : ∀ {ts : List Th} {l : List Int} (i : Nat), LkA M R ts l → (∀ j v, l[j]? = some v → dV M x (i + j) = v) → cSt M R x i ts
 | [], [], i, _, _ => by unfold cSt LkL; trivial
 | t :: ts, y :: l, i, H, hg => by
  unfold cSt LkL
  refine ⟨by rw [show dV M x i = y from hg 0 y rfl]; exact H.1, dLg (i + 1) H.2 fun j v hv => ?_⟩
  rw [show i + 1 + j = i + (j + 1) by omega]
  exact hg (j + 1) v hv
 | [], _ :: _, _, H, _ => H.elim
 | _ :: _, [], _, H, _ => H.elim
theorem cNg {ks : List Th} {x : DV} {l : List Int} (V : Wv (260 + k) h M R es) (S : SlI x l h) (A : LkA M R ks l) (hk : ks.length ≤ 30) {m : Nat} (hm : 300 < m) : ∃ a e h' M', cK (m + 4) 16 [.p (aM 7) 0, x] h = some (.t [iD a, iD e], h') ∧ Wv k h' M' R es ∧ Up h h' ∧ Stay 260 M M' R R es es ∧ ∀ n tx, uE M' R (.mk 3 n tx ks) a := by
 have h4 := V.n
 have h5 := V.fin
 have h6 := V.md
 obtain ⟨a1, a2⟩ := A.len
 obtain ⟨a, e, h', M', e1, K', U, B⟩ := V.K.array S (by omega) (by omega) (by omega) (n := m) (by omega)
 rcases B with ⟨q, _⟩ | ⟨_, rfl, rfl, g⟩
 ·exact absurd ⟨by omega, a2⟩ q
 ·have S' : Stay 260 M M' R R es es := (g.stay V.K.G R es fun CL I => I.newK (i := 9) (.inl ⟨rfl, rfl⟩) (by omega) (fun q => by cases q)).mono (by omega)
  have ha := g.newAt V.K.G
  have h0 := V.K.G.lo
  have ha0 : bM (.ofNat (M.fin * 2)) M'.pl ≠ 0 := by rw [ha]; omega
  have hh := g.newHead V.K.G
  refine ⟨_, _, h', M', e1, V.stay K' U S', U, S', fun n tx => ?_⟩
  unfold uE Lk
  refine ⟨iP ha0, .inr (.inr (.inr (.inl ⟨rfl, ha0, by unfold cW; rw [ha, g.cl], by rw [hh]; omega, ?_⟩)))⟩
  refine dLg 0 (LkA.stay S' V.I V.K.G ks l A) fun j v hv => ?_
  rw [Nat.zero_add, g.newGet V.K.G (by omega)]
  simp [hv]
theorem Wd.lower (W : Wd h M R es) (hn : h.next.toNat ≤ h'.next.toNat) (e : ∀ b : Pos, b.toNat < 1031 → h'.bl.get b = h.bl.get b) : Wd h' M R es := by
 obtain ⟨m1, m2, m3, m4, m5, m6⟩ := kO W.mem
 refine ⟨by rw [e _ (by rw [pn7]; omega)]; exact W.w, by rw [e _ (by rw [pn4]; omega)]; exact W.r, W.rl, by rw [e _ (by rw [pn5]; omega)]; exact W.sy, ?_, Nat.le_trans W.nx hn, W.wb, W.pb⟩
 exact mY (by rw [e _ (by rw [pn3]; omega)]; exact m1) (by rw [e _ (by rw [W.wb, pn1]; omega)]; exact m2) (by rw [e _ (by rw [W.pb, pn2]; omega)]; exact m3) m4 m5 m6
theorem Wv.lower (V : Wv k h M R es z) (hn : h.next.toNat ≤ h'.next.toNat) (e : ∀ b : Pos, b.toNat < 1031 → h'.bl.get b = h.bl.get b) : Wv k h' M R es z := by
 refine ⟨V.K.up (V.K.W.lower hn e), V.I, ?_, V.n, V.fin, V.md⟩
 have := V.c
 unfold Wc at this ⊢
 rw [e _ (by rw [pn6]; omega)]
 exact this
theorem aZx {n lo : Nat} {b : Pos} {c0 c1 c2 s : DV} {ks : List Th} {q : Pos → Prop} {row : List DV} {h0 : Hp}
  (hs : (ks = [] ∧ s = .l0) ∨ ∃ b, s = .l b 0 ks.length ks.length ∧ Qr h0 b row ∧ TVL q h0 ks row) (hk : ks.length ≤ 30)
  (hlo : lo = h0.next.toNat) (h31 : 1031 ≤ lo) (hT : T4 h0 b c0 c1 c2 s) (hb : 1029 ≤ b.toNat ∧ b.toNat < h0.next.toNat)
  (IH : ∀ (t : Th) (ds : List DV) (h : Hp) (M : MemV) (R : List Int) (es : List (DV × DV)) (k : Nat), t ∈ ks → TV q h t ds → Wv (260 * t.sz + k) h M R es → aMf t k h M R es (cK n 11 [.p (aM 7) 0, .a ds] h)) :
  ∀ (r i m : Nat) (h : Hp) (M : MemV) (R : List Int) (es : List (DV × DV)) (x6 : DV) (l : List Int), i + r = ks.length → r < m → Up h0 h → GrS x6 (l.map iD) lo h → Wv (260 * oW (ks.drop i) + 260 + k) h M R es → LkA M R (ks.take i) l → 300 < n - 4 →
   ∃ v h' M' R' es', mI (cK n) n m (.p (aM 7) 0) (.p b 0) x6 (.i .i64 (Int.ofNat i)) h = some (iD v, h') ∧ Wv k h' M' R' es' ∧ Up h0 h' ∧ Stay (260 * oW (ks.drop i) + 260) M M' R R' es es' ∧ ∀ n tx, uE M' R' (.mk 3 n tx ks) v := by
 have so : s.one = true := by rcases hs with ⟨_, rfl⟩ | ⟨b, rfl, _⟩ <;> rfl
 have sl : ∀ g, cO s g = some (iD ks.length, g) := fun g => by rcases hs with ⟨rfl, rfl⟩ | ⟨b, rfl, _⟩ <;> rfl
 intro r
 induction r with
 | zero =>
  intro i m h M R es x6 l he hm U S V A hn
  obtain ⟨m, rfl⟩ : ∃ m', m = m' + 1 := ⟨m - 1, by omega⟩
  have hi : i = ks.length := by omega
  subst hi
  rw [List.take_length] at A
  rw [List.drop_length] at V ⊢
  have Th : T4 h b c0 c1 c2 s := by unfold T4; rw [U.get b (.inr hb.1) hb.2]; exact hT
  obtain ⟨n, rfl⟩ : ∃ n', n = n' + 4 := ⟨n - 4, by omega⟩
  obtain ⟨a, e, h', M', e1, V', U', S', L'⟩ := cNg (k := k) (by simpa [oW] using V) (bQy h31 S) A hk (m := n) (by omega)
  refine ⟨a, h', M', R, es, ?_, V', U.trans U', by simpa [oW] using S', L'⟩
  show lZ (cK (n + 4)) (n + 4) (mI (cK (n + 4)) (n + 4) m) _ _ _ _ h = _
  unfold lZ eC aY
  have l3 := Th.l3 so
  have sl := sl h
  have dl : decide (Int.ofNat ks.length < (ks.length : Int)) = false := decide_eq_false (by simp)
  simp only [iD] at sl
  simp only [gL, aL, l3, sl, bJ, dl, aV, e1, sV, sA]
 | succ r ih =>
  intro i m h M R es x6 l he hm U S V A hn
  obtain ⟨m, rfl⟩ : ∃ m', m = m' + 1 := ⟨m - 1, by omega⟩
  have hi : i < ks.length := by omega
  have Th : T4 h b c0 c1 c2 s := by unfold T4; rw [U.get b (.inr hb.1) hb.2]; exact hT
  have ed : ks.drop i = ks[i] :: ks.drop (i + 1) := List.drop_eq_getElem_cons hi
  have hget : ks[i]? = some ks[i] := List.getElem?_eq_getElem hi
  rcases hs with ⟨rfl, _⟩ | ⟨b', rfl, Q, D⟩
  ·simp at hi
  obtain ⟨d1, d2⟩ := D.at
  obtain ⟨c, c1', c2'⟩ := d2 i ks[i] hget
  have V0 : Wv (260 * ks[i].sz + (260 * oW (ks.drop (i + 1)) + 260 + k)) h M R es := V.less (by rw [ed]; simp only [oW]; omega)
  obtain ⟨v, h1, M1, R1, es1, e1, V1, U1, S1, L1⟩ := IH ks[i] c h M R es (260 * oW (ks.drop (i + 1)) + 260 + k) (List.getElem_mem hi) (TV.up U _ _ c2') V0
  have G1 : GrS x6 (l.map iD) lo h1 := by
   rcases S with S | ⟨b6, s1, s2, s3, s4⟩
   ·exact .inl S
   ·exact .inr ⟨b6, s1, by rw [U1.get b6 (.inr (by omega)) s4]; exact s2, s3, Nat.lt_of_lt_of_le s4 U1.next⟩
  have hn1 := U.next
  have hn2 := U1.next
  have l1len : l.length ≤ 30 := by
   have := A.len.1
   rw [this, List.length_take]
   omega
  obtain ⟨y, g, e2, x', g', e3, S3, L3⟩ := G1.app (by omega) (bNo l) (z := .i .i64 (Int.ofNat 0)) (v := iD v) rfl rfl (bytes := 8) (by simp; unfold jU; omega)
  have hl3 := L3.next
  have low : ∀ p : Pos, p.toNat < lo → g'.bl.get p = h1.bl.get p := fun p hp => L3.get p hp
  have V3 : Wv (260 * oW (ks.drop (i + 1)) + 260 + k) g' M1 R1 es1 := V1.lower L3.next fun p hp => low p (by omega)
  have U3 : Up h0 g' := ⟨by omega, fun p hp1 hp2 => (low p (by omega)).trans ((U.trans U1).get p hp1 hp2)⟩
  obtain ⟨w, h', M', R', es', e4, V', U', S', L'⟩ := ih (i + 1) m g' M1 R1 es1 x' (l ++ [v]) (by omega) (by omega) U3 (by rw [List.map_append]; exact S3) V3 (by
   rw [List.take_succ_eq_append_getElem hi]
   exact dLn (LkA.stay S1 V0.I V0.K.G _ _ A) L1) hn
  refine ⟨w, h', M', R', es', ?_, V', U', (S1.trans S').mono (by rw [ed]; simp only [oW]; omega), L'⟩
  have l3 := Th.l3 so
  have sl := sl h
  have dl : decide (Int.ofNat i < (ks.length : Int)) = true := decide_eq_true (by simpa using hi)
  have ei : aF 4 (.l b' 0 ks.length ks.length) (.i .i64 (Int.ofNat i)) h = some (.p b' (0 + i * 4), h) := by
   show (if 0 ≤ Int.ofNat i ∧ Int.ofNat i < (ks.length : Int) then some (DV.p b' (0 + (Int.ofNat i).toNat * 4), h) else none) = _
   rw [if_pos ⟨by simp, by simpa using hi⟩]
   rfl
  have ea : aN 4 (.p b' (0 + i * 4)) h = some (.a c, h) := by
   obtain ⟨⟨kd, q1⟩, _, _⟩ := Q.up U
   simp only [aN, cellsAt, rowOf, q1, Nat.zero_add, c1']
  show lZ (cK n) n (mI (cK n) n m) _ _ _ _ h = _
  unfold lZ
  simp only [iD] at sl e1 e2 e3
  simp only [gL, aL, l3, sl, bJ, dl, aZ, ei, ea, e1, e2, e3, cY i 1 g' (by omega)]
  exact e4
end
end Go.Dd

namespace Go.Dd
open Go.Proofs
theorem bLt : ∀ {ks : List Th} {t : Th}, t ∈ ks → t.sz ≤ oW ks
 | [], t, h => by cases h
 | a :: ks, t, h => by
  simp only [List.mem_cons] at h
  simp only [oW]
  rcases h with rfl | h
  ·omega
  ·have := bLt h; omega
theorem xV : ∀ {ks : List Th} {t : Th}, okL ks → t ∈ ks → t.ok
 | [], t, _, h => by cases h
 | a :: ks, t, H, h => by
  simp only [List.mem_cons] at h
  rcases h with rfl | h
  ·exact H.1
  ·exact xV H.2 h
section
variable {h h' : Hp} {M M' : MemV} {R R' : List Int} {es es' : List (DV × DV)} {k : Nat} {z : Prop} {CL : List Nat}
theorem oF {t : Th} (V : Wv (260 * t.sz + k) h M R es) {v : Int} (L : uE M R t v) : aMf t k h M R es (some (iD v, h)) :=
 ⟨v, h, M, R, es, rfl, V.less (by omega), Up.refl h, Stay.refl _ _ _ _, L⟩
theorem qZ : ∀ (s : Nat) (t : Th), t.sz ≤ s → ∀ (ds : List DV) (q : Pos → Prop) (h : Hp) (M : MemV) (R : List Int) (es : List (DV × DV)) (k : Nat), t.ok → TV q h t ds → Wv (260 * t.sz + k) h M R es → ∀ n, 400 < n →
  aMf t k h M R es (cK (n + t.sz) 11 [.p (aM 7) 0, .a ds] h)
 | 0, t, hs => by have := cTr t; omega
 | s + 1, .mk kd N tx ks, hs => by
  intro ds q h M R es k ok T V n hn
  unfold Th.sz at hs
  unfold TV at T
  obtain ⟨sl, rfl, so, hks⟩ := T
  unfold Th.ok at ok
  obtain ⟨k1, k2, kN, ktx, k2t, k6, klen, kby, kks⟩ := ok
  have esz : (Th.mk kd N tx ks).sz = 1 + oW ks := by unfold Th.sz; rfl
  rw [esz, show n + (1 + oW ks) = n + oW ks + 1 by omega]
  obtain ⟨m, hm⟩ : ∃ m, n + oW ks = m + 5 := ⟨n + oW ks - 5, by omega⟩
  have hm3 : 300 < m := by omega
  rw [mJ 11 rfl, cJb]
  obtain ⟨U1, V1⟩ := V.new (.row .ex [iD kd, iD N, .s tx, sl])
  obtain ⟨h1, hh1⟩ : ∃ h1 : Hp, (⟨h.next.succ, Tr.set (.row .ex [iD kd, iD N, .s tx, sl]) h.next h.bl⟩ : Hp) = h1 := ⟨_, rfl⟩
  rw [hh1] at U1 V1
  have eb : cB (.a [iD kd, iD N, .s tx, sl]) h = some (.p h.next 0, h1) := by rw [← hh1]; rfl
  have T : T4 h1 h.next (iD kd) (iD N) (.s tx) sl := by rw [← hh1]; exact dKc _ _ _
  have nx1 : h1.next = h.next.succ := by rw [← hh1]
  have ns := dKd h.next
  have nxw := V.K.W.nx
  have l0 := T.l0 rfl
  have l1 := T.l1 rfl
  have l2 := T.l2 rfl
  have l3 := T.l3 so
  have up : ∀ r, aMf (.mk kd N tx ks) k h1 M R es r → aMf (.mk kd N tx ks) k h M R es r := fun r ⟨v, h', M', R', es', e, V', U, S, L⟩ => ⟨v, h', M', R', es', e, V', U1.trans U, S, L⟩
  have V2 : Wv (260 + k) h1 M R es := V1.less (by rw [esz]; omega)
  have mono : ∀ {M' R' es'}, Stay 260 M M' R R' es es' → Stay (260 * (Th.mk kd N tx ks).sz) M M' R R' es es' := fun S => S.mono (by rw [esz]; omega)
  rw [hm]
  unfold s11 aBn aTh aYw aTt bQo
  simp only [iD] at l0 l1 eb ⊢
  simp only [g0, g1, eb, aL, gL, l0, bI]
  apply up
  by_cases c0 : kd = 0
  ·subst c0
   obtain ⟨a, e, h', M', e1, V', U, S, L⟩ := cPr (n := N) (tx := tx) (ks := []) rfl V2 (kN rfl) (m := m + 3) (by omega)
   refine ⟨a, h', M', R, es, ?_, V', U, mono S, by unfold uE Lk at L ⊢; exact ⟨L.1, .inl ⟨rfl, by rcases L.2 with ⟨_, q⟩ | q; exact q; simp at q⟩⟩⟩
   unfold aY
   simp only [iD] at e1
   simp only [show ((0 : Int) == Int.ofNat 0) = true from rfl, aZ, l1, aL, e1, sV, sA, iD]
  have d0 : (kd == Int.ofNat 0) = false := eqF c0
  unfold aYv
  by_cases c1 : kd = 1
  ·subst c1
   obtain ⟨a, e, h', M', e1, V', U, S, L⟩ := cTq (n := N) (ks := ks) V2 kby (by omega) (m := m + 2) (by omega)
   refine ⟨a, h', M', R, es, ?_, V', U, mono S, L⟩
   unfold aY
   simp only [iD] at e1
   simp only [d0, aV, show ((1 : Int) == Int.ofNat 1) = true from rfl, aZ, gL, l2, aL, e1, sV, sA, iD]
  have d1 : (kd == Int.ofNat 1) = false := eqF c1
  unfold bPg aTx
  by_cases c2 : kd = 2
  ·subst c2
   obtain ⟨a, e, h', M', R', es', e1, V', U, S, L⟩ := cKv (n := N) (ks := ks) V2 kby (k2t rfl) (m := m + 2) (by omega)
   refine ⟨a, h', M', R', es', ?_, V', U, mono S, L⟩
   unfold aY
   simp only [iD] at e1
   simp only [d0, d1, aV, bI, aL, show ((2 : Int) == Int.ofNat 2) = true from rfl, aZ, gL, l2, e1, sV, sA, iD]
  have d2 : (kd == Int.ofNat 2) = false := eqF c2
  unfold aOn aIm
  by_cases c3 : kd = 3
  ·subst c3
   have hks1 : (ks = [] ∧ sl = .l0) ∨ ∃ b, sl = .l b 0 ks.length ks.length ∧ ∃ row, Qr h1 b row ∧ TVL q h1 ks row := by
    rcases hks with a | ⟨b, row, e, Q, _, D⟩
    ·exact .inl a
    ·exact .inr ⟨b, e, row, Q.up U1, TVL.up U1 _ _ D⟩
   have key : ∃ row, (ks = [] ∧ sl = .l0) ∨ ∃ b, sl = .l b 0 ks.length ks.length ∧ Qr h1 b row ∧ TVL q h1 ks row := by
    rcases hks1 with a | ⟨b, e, row, Q, D⟩
    ·exact ⟨[], .inl a⟩
    ·exact ⟨row, .inr ⟨b, e, Q, D⟩⟩
   obtain ⟨row, key⟩ := key
   obtain ⟨v, h', M', R', es', e1, V', U, S, L⟩ := aZx (n := m + 5) (lo := h1.next.toNat) (b := h.next) (k := k) (row := row) key klen rfl (by rw [nx1]; omega) T ⟨by omega, by rw [nx1]; omega⟩
    (fun t ds h M R es k ht Tt Vt => by
     have := bLt ht
     have e : m + 5 = (m + 5 - t.sz) + t.sz := by omega
     rw [e]
     exact qZ s t (by omega) ds q h M R es k (xV kks ht) Tt Vt (m + 5 - t.sz) (by omega)) ks.length 0 (m + 5) h1 M R es .l0 [] (by omega) (by omega) (Up.refl h1) (.inl ⟨rfl, rfl⟩) (by rw [List.drop_zero]; exact V1.less (by rw [esz]; omega)) (by rw [List.take_zero]; trivial) (by omega)
   refine ⟨v, h', M', R', es', ?_, V', U, by rw [List.drop_zero] at S; exact S.mono (by rw [esz]; omega), L N tx⟩
   simp only [d0, d1, d2, aV, bI, aL, show ((3 : Int) == Int.ofNat 3) = true from rfl, aZ]
   exact e1
  have d3 : (kd == Int.ofNat 3) = false := eqF c3
  have em := V2.K.W.memory (m + 4)
  by_cases c4 : kd = 4
  ·subst c4
   obtain ⟨a, e, h', M', e1, V', U, S, L⟩ := cYa (n := N) (tx := tx) (ks := ks) V2
   refine ⟨a, h', M', R, es, ?_, V', U, mono S, L⟩
   unfold aY
   have ep := V2.point (m + 4)
   simp only [iD] at e1 ep
   simp only [d0, d1, d2, d3, aV, bI, aL, show ((4 : Int) == Int.ofNat 4) = true from rfl, aZ, em, ep, e1, sV, sA, iD]
  have d4 : (kd == Int.ofNat 4) = false := eqF c4
  by_cases c5 : kd = 5
  ·subst c5
   obtain ⟨a, e, h', M', e1, V', U, S, L⟩ := dDl (n := N) (tx := tx) (ks := ks) V2
   refine ⟨a, h', M', R, es, ?_, V', U, mono S, L⟩
   unfold aY
   have ep := V2.egg (m + 4)
   simp only [iD] at e1 ep
   simp only [d0, d1, d2, d3, d4, aV, bI, aL, show ((5 : Int) == Int.ofNat 5) = true from rfl, aZ, em, ep, e1, sV, sA, iD]
  have d5 : (kd == Int.ofNat 5) = false := eqF c5
  have V3 : Wv (260 * (Th.mk kd N tx ks).sz + k) h1 M R es := V1
  by_cases c6 : kd = 6
  ·subst c6
   have kN6 := k6 rfl
   have ek := V2.K.W.knownA N (m + 4)
   have ekn : knW R N = R.getD (2 + N.toNat) 0 := by unfold knW; rw [if_pos kN6]
   have hmay : dK (R.getD (2 + N.toNat) 0) M.pl = true := iP (V2.K.rk N.toNat (by omega))
   have := oF (t := .mk 6 N tx ks) V3 (v := R.getD (2 + N.toNat) 0) (by unfold uE Lk; exact ⟨hmay, .inr (.inr (.inr (.inr (.inr (.inr (.inl ⟨rfl, kN6.1, kN6.2, rfl⟩))))))⟩)
   unfold aY
   simp only [iD] at ek this
   simp only [d0, d1, d2, d3, d4, d5, aV, bI, aL, show ((6 : Int) == Int.ofNat 6) = true from rfl, aZ, gL, l1, ek, ekn]
   exact this
  have d6 : (kd == Int.ofNat 6) = false := eqF c6
  by_cases c8 : kd = 8
  ·subst c8
   have := oF (t := .mk 8 N tx ks) V3 (v := 2) (by unfold uE Lk; exact ⟨rfl, .inr (.inr (.inr (.inr (.inr (.inr (.inr (.inr (.inl ⟨rfl, rfl⟩))))))))⟩)
   unfold aY
   simp only [d0, d1, d2, d3, d4, d5, d6, aV, bI, aL, show ((8 : Int) == Int.ofNat 8) = true from rfl, aZ]
   exact this
  have d8 : (kd == Int.ofNat 8) = false := eqF c8
  by_cases c9 : kd = 9
  ·subst c9
   have := oF (t := .mk 9 N tx ks) V3 (v := 4) (by unfold uE Lk; exact ⟨rfl, .inr (.inr (.inr (.inr (.inr (.inr (.inr (.inr (.inr ⟨rfl, rfl⟩))))))))⟩)
   unfold aY
   simp only [d0, d1, d2, d3, d4, d5, d6, d8, aV, bI, aL, show ((9 : Int) == Int.ofNat 9) = true from rfl, aZ]
   exact this
  have d9 : (kd == Int.ofNat 9) = false := eqF c9
  have c7 : kd = 7 := by omega
  subst c7
  have := oF (t := .mk 7 N tx ks) V3 (v := 0) (by unfold uE Lk; exact ⟨rfl, .inr (.inr (.inr (.inr (.inr (.inr (.inr (.inl ⟨rfl, rfl⟩)))))))⟩)
  unfold aY
  simp only [d0, d1, d2, d3, d4, d5, d6, d8, d9, aV, bI, aL]
  exact this
end
end Go.Dd

namespace Go.Dd
open Go.Proofs
theorem fQ (f n : Nat) (acc : List Nat) : eZ (f + 1) n acc = if 10 ≤ n then eZ f (n / 10) ((48 + n % 10) :: acc) else (48 + n) :: acc := by
 show (bif Nat.ble 10 n then eZ f (Nat.div n 10) (Nat.add 48 (Nat.mod n 10) :: acc) else Nat.add 48 n :: acc) = _
 by_cases h : 10 ≤ n
 ·rw [Nat.ble_eq_true_of_le h, if_pos h]
  rfl
 ·rw [if_neg h]
  cases e : Nat.ble 10 n with
  | true => exact absurd (Nat.le_of_ble_eq_true e) h
  | false => rfl
theorem aBb : ∀ (f n : Nat) (acc : List Nat), n < 10 ^ (f + 1) → eZ (f + 1) n acc = eZ (f + 2) n acc
 | 0, n, acc, h => by
  rw [fQ, fQ, if_neg (by omega), if_neg (by omega)]
 | f + 1, n, acc, h => by
  rw [fQ, fQ (f + 2)]
  by_cases hn : 10 ≤ n
  ·rw [if_pos hn, if_pos hn]
   exact aBb f _ _ (by rw [Nat.pow_succ] at h; omega)
  ·rw [if_neg hn, if_neg hn]
theorem xZ : ∀ (f n : Nat) (acc : List Nat), eZ f n acc = eZ f n [] ++ acc ∨ f = 0
 | 0, n, acc => .inr rfl
 | f + 1, n, acc => by
  left
  rw [fQ, fQ f n []]
  by_cases hn : 10 ≤ n
  ·rw [if_pos hn, if_pos hn]
   rcases xZ f (n / 10) ((48 + n % 10) :: acc) with h1 | h1
   ·rcases xZ f (n / 10) [48 + n % 10] with h2 | h2
    ·rw [h1, h2]; simp
    ·subst h2; simp [eZ]
   ·subst h1; simp [eZ]
  ·rw [if_neg hn, if_neg hn]; rfl
def dg (n : Nat) : List Nat := eZ 20 n []
theorem zP {n : Nat} (h : n < 10) : dg n = [48 + n] := by
 unfold dg
 rw [fQ, if_neg (by omega)]
theorem bIz {n : Nat} (h : 10 ≤ n) (h2 : n < 10 ^ 20) : dg n = dg (n / 10) ++ [48 + n % 10] := by
 unfold dg
 rw [fQ, if_pos h]
 rcases xZ 19 (n / 10) [48 + n % 10] with h1 | h1
 ·rw [h1]
  congr 1
  exact aBb 18 _ _ (by omega)
 ·omega
theorem bPo (n : Nat) : (dg n).length ≤ 20 := by
 have := qH 20 n []
 simpa [dg] using this
theorem jR (a b : List Nat) (h : Hp) (hl : a.length + b.length < 1000000000000) : dA .add (.s a) (.s b) h = some (.s (a ++ b), h) := by
 have : ¬ ((a.length + b.length : Nat) : Int) > IntKind.i64.max := by
  show ¬ ((a.length + b.length : Nat) : Int) > 9223372036854775807
  omega
 simp only [dA, aHj, if_neg this]
theorem aPe (x : Int) (h0 : -9223372036854775808 ≤ x) (h1 : x ≤ 9223372036854775807) : -9223372036854775808 ≤ x.tdiv 10 ∧ x.tdiv 10 ≤ 9223372036854775807 := by
 obtain ⟨m, rfl | rfl⟩ := Int.eq_nat_or_neg x
 ·rw [Int.tdiv_eq_ediv_of_nonneg (by omega)]
  omega
 ·rw [Int.neg_tdiv, Int.tdiv_eq_ediv_of_nonneg (by omega)]
  omega
theorem cIt (x : Int) (h0 : -9223372036854775808 ≤ x) (h1 : x ≤ 9223372036854775807) (h : Hp) : aD .quo (.i .i64 x) (.i .i64 (Int.ofNat 10)) h = some (.i .i64 (x.tdiv 10), h) := by
 have e : x.tdiv (Int.ofNat 10) = x.tdiv 10 := rfl
 have := aPe x h0 h1
 simp only [aD, if_true, fD, e]
 rw [if_neg (by decide), hC _ (by omega)]
theorem cHw {n : Nat} (h : n < 256) (hp : Hp) : dE .u8 (.i .i64 (n : Int)) hp = some (.i .u8 (n : Int), hp) := by
 show some (DV.i .u8 (IntKind.u8.wrap (n : Int)), hp) = _
 rw [zF .u8 (.inr rfl) h]
theorem aKe {n : Nat} (hn : n < 256) (h : Hp) : ∃ h1, aJ [(.i .u8 (Int.ofNat 0))] 1 [(0, 1, .i .u8 (n : Int))] h = some (.l h.next 0 1 1, h1) ∧ dR (.l h.next 0 1 1) h1 = some (.s [n], h1) ∧ Lo h.next.toNat h h1 := by
 refine ⟨⟨h.next.succ, Tr.set (.row .ex [.i .u8 (n : Int)]) h.next h.bl⟩, ?_, ?_, ⟨?_, fun p hp => dKb _ _ _ _ (fun e => by subst e; omega)⟩⟩
 ·simp [aJ, iZ, cT]
 ·have e : cellsAt h.next 0 1 ⟨h.next.succ, Tr.set (.row .ex [.i .u8 (n : Int)]) h.next h.bl⟩ = some [.i .u8 (n : Int)] := by
   simp [cellsAt, rowOf, dKc, gJ, DV.one]
  have e2 : mD [.i .u8 (n : Int)] = some [n] := by
   show (if n < 256 then (mD []).map (n :: ·) else none) = some [n]
   rw [if_pos hn]
   rfl
  simp only [dR, e, e2]
 ·show _ ≤ h.next.succ.toNat
  rw [dKd]
  omega
theorem mM {n : Nat} (hn : n < 10) (m : Nat) (h : Hp) : ∃ h', cK (m + 1) 62 [.i .i64 (n : Int)] h = some (.s (dg n), h') ∧ Lo h.next.toNat h h' := by
 obtain ⟨h1, e1, e2, L⟩ := aKe (n := 48 + n) (by omega) h
 refine ⟨h1, ?_, L⟩
 rw [mJ 62 rfl, aWf]
 unfold s62 yV
 have d1 : decide ((n : Int) ≥ Int.ofNat 0) = true := decide_eq_true (by simp)
 have d2 : decide ((n : Int) < Int.ofNat 10) = true := decide_eq_true (by simp; omega)
 have ea : aD .add (.i .i64 (Int.ofNat 48)) (.i .i64 (n : Int)) h = some (.i .i64 ((48 + n : Nat) : Int), h) := cY 48 n h (by omega)
 simp only [g0, jM, d1, aL, fT, bJ, d2, bL, aZ, ea, cHw (show 48 + n < 256 by omega), e1, e2]
 rw [zP hn]
theorem wE : ∀ (f n : Nat) (m : Nat) (h : Hp), n < 10 ^ f → n ≤ 9223372036854775807 → ∃ h', cK (m + 1 + f) 62 [.i .i64 (n : Int)] h = some (.s (dg n), h') ∧ Lo h.next.toNat h h'
 | 0, n, m, h, hn, hm => mM (by simp at hn; omega) m h
 | f + 1, n, m, h, hn, hm => by
  by_cases h10 : n < 10
  ·exact mM h10 (m + 1 + f) h
  obtain ⟨h1, e1, L1⟩ := wE f (n / 10) m h (by rw [Nat.pow_succ] at hn; omega) (by omega)
  obtain ⟨h2, e2, L2⟩ := mM (n := n % 10) (by omega) (m + f) h1
  refine ⟨h2, ?_, ⟨Nat.le_trans L1.next L2.next, fun p hp => (L2.get p (Nat.lt_of_lt_of_le hp L1.next)).trans (L1.get p hp)⟩⟩
  rw [show m + 1 + (f + 1) = m + 1 + f + 1 by omega, mJ 62 rfl, aWf]
  unfold s62 yV xT
  have d1 : decide ((n : Int) ≥ Int.ofNat 0) = true := decide_eq_true (by simp)
  have d2 : decide ((n : Int) < Int.ofNat 10) = false := decide_eq_false (by simp; omega)
  have d3 : decide ((n : Int) > Int.ofNat 0) = true := decide_eq_true (by simp; omega)
  have eq : (n : Int).tdiv 10 = ((n / 10 : Nat) : Int) := by
   rw [Int.tdiv_eq_ediv_of_nonneg (by omega)]
   omega
  have er : (n : Int).tmod 10 = ((n % 10 : Nat) : Int) := by
   rw [Int.tmod_eq_emod_of_nonneg (by omega)]
   omega
  rw [show m + f + 1 = m + 1 + f by omega] at e2
  have := bPo (n / 10)
  have := bPo (n % 10)
  simp only [g0, jM, d1, aL, fT, bJ, d2, bL, aV, cM, d3, aZ, cIt (n : Int) (by omega) (by omega), eq, e1, yN, er, e2, jR (dg (n / 10)) (dg (n % 10)) h2 (by omega)]
  rw [zP (n := n % 10) (by omega), ← bIz (by omega) (by omega)]
theorem wT {rec : FuncId → List DV → Hp → aG} {n0 : Nat} : ∀ (f m M : Nat) (h : Hp) (acc : List Nat), m < 10 ^ f → 0 < m → m ≤ 9223372036854775808 → acc.length + f ≤ 1000 → f ≤ 20 → f + 1 ≤ M →
  ∃ h', nD rec n0 M (.i .i64 (-(m : Int))) (.s acc) h = some (.s (45 :: (eZ 20 m [] ++ acc)), h') ∧ Lo h.next.toNat h h'
 | 0, m, M, h, acc, hm, h0, h1, ha, hf, hM => by simp at hm; omega
 | f + 1, m, M, h, acc, hm, h0, h1, ha, hf, hM => by
  obtain ⟨M, rfl⟩ : ∃ M', M = M' + 1 := ⟨M - 1, by omega⟩
  obtain ⟨g1, e1, e2, L1⟩ := aKe (n := 48 + m % 10) (by omega) h
  have d1 : decide (-(m : Int) < Int.ofNat 0) = true := decide_eq_true (by simp; omega)
  have er : (-(m : Int)).tmod 10 = -((m % 10 : Nat) : Int) := by
   rw [Int.neg_tmod, Int.tmod_eq_emod_of_nonneg (by omega)]
   omega
  have es : aD .sub (.i .i64 (Int.ofNat 48)) (.i .i64 (-((m % 10 : Nat) : Int))) h = some (.i .i64 ((48 + m % 10 : Nat) : Int), h) := by
   have e4 : Int.ofNat 48 = 48 := rfl
   rw [aDa _ _ _ (by rw [e4]; omega)]
   congr 3
   rw [e4]
   omega
  have eq : (-(m : Int)).tdiv 10 = -((m / 10 : Nat) : Int) := by
   rw [Int.neg_tdiv, Int.tdiv_eq_ediv_of_nonneg (by omega)]
   omega
  have key : ∃ h', nD rec n0 M (.i .i64 (-((m / 10 : Nat) : Int))) (.s ([48 + m % 10] ++ acc)) g1 = some (.s (45 :: (eZ 20 m [] ++ acc)), h') ∧ Lo g1.next.toNat g1 h' := by
   by_cases h10 : m < 10
   ·have ez : m / 10 = 0 := by omega
    rw [ez]
    refine ⟨g1, ?_, Lo.refl _ _⟩
    obtain ⟨M, rfl⟩ : ∃ M', M = M' + 1 := ⟨M - 1, by omega⟩
    show pL rec n0 (nD rec n0 M) _ _ g1 = _
    unfold pL gS
    have d2 : decide (-((0 : Nat) : Int) < Int.ofNat 0) = false := rfl
    simp only [bJ, d2, aL, aV, jR [45] ([48 + m % 10] ++ acc) g1 (by simp; omega)]
    have := zP h10
    unfold dg at this
    rw [this]
    simp
    omega
   ·obtain ⟨h', e3, L3⟩ := wT (rec := rec) (n0 := n0) f (m / 10) M g1 ([48 + m % 10] ++ acc) (by rw [Nat.pow_succ] at hm; omega) (by omega) (by omega) (by simp; omega) (by omega) (by omega)
    refine ⟨h', ?_, L3⟩
    rw [e3]
    have := bIz (n := m) (by omega) (by omega)
    unfold dg at this
    rw [this]
    simp
  obtain ⟨h', e3, L3⟩ := key
  refine ⟨h', ?_, ⟨Nat.le_trans L1.next L3.next, fun p hp => (L3.get p (Nat.lt_of_lt_of_le hp L1.next)).trans (L1.get p hp)⟩⟩
  show pL rec n0 (nD rec n0 M) _ _ h = _
  unfold pL
  simp only [bJ, d1, aL, aZ, yN, er, es, cHw (show 48 + m % 10 < 256 by omega), e1, e2, jR [48 + m % 10] acc g1 (by simp; omega), cIt (-(m : Int)) (by omega) (by omega), eq]
  exact e3
theorem aOj {n : Int} (hn : -9223372036854775808 ≤ n ∧ n ≤ 9223372036854775807) {m : Nat} (hm : 40 < m) (h : Hp) : ∃ h', cK m 62 [.i .i64 n] h = some (.s (bS n), h') ∧ Lo h.next.toNat h h' := by
 cases n with
 | ofNat n =>
  obtain ⟨h1, e1, L1⟩ := wE 20 n (m - 21) h (by have := hn.2; simp at this; omega) (by have := hn.2; simp at this; omega)
  rw [show m - 21 + 1 + 20 = m by omega] at e1
  exact ⟨h1, e1, L1⟩
 | negSucc n =>
  obtain ⟨m, rfl⟩ : ∃ m', m = m' + 1 := ⟨m - 1, by omega⟩
  have e0 : Int.negSucc n = -((n + 1 : Nat) : Int) := rfl
  have hr := hn.1
  rw [e0] at hr
  obtain ⟨h1, e1, L1⟩ := wT (rec := cK m) (n0 := m) 20 (n + 1) m h [] (by omega) (by omega) (by omega) (by simp) (by omega) (by omega)
  refine ⟨h1, ?_, L1⟩
  rw [mJ 62 rfl, aWf]
  unfold s62 yV xT aXf aYs bGt
  have d1 : decide (Int.negSucc n ≥ Int.ofNat 0) = false := decide_eq_false (by rw [e0]; simp <;> omega)
  have d3 : decide (Int.negSucc n > Int.ofNat 0) = false := decide_eq_false (by rw [e0]; simp <;> omega)
  have ei : bS (Int.negSucc n) = 45 :: (eZ 20 (n + 1) [] ++ []) := by rw [List.append_nil]; rfl
  simp only [g0, jM, d1, aL, gM, jK, bN, aV, cM, d3]
  rw [ei, e0, e1]
theorem cLk {s : List Nat} {i : Nat} {c : Nat} (hc : s[i]? = some c) (h : Hp) : dY (.s s) (some (.i .i64 (Int.ofNat i))) (some (.i .i64 (Int.ofNat (i + 1)))) h = some (.s [c], h) := by
 have hi : i < s.length := (gLt hc)
 have e1 : hiD (some (.i .i64 (Int.ofNat (i + 1)))) s.length s.length = some (i + 1) := by
  show (if (0 : Int) ≤ Int.ofNat (i + 1) ∧ Int.ofNat (i + 1) ≤ (s.length : Int) then some (Int.ofNat (i + 1)).toNat else none) = _
  rw [if_pos ⟨by simp; omega, by simp; omega⟩]
  rfl
 have e2 : loD (some (.i .i64 (Int.ofNat i))) (i + 1) = some i := by
  show (if (0 : Int) ≤ Int.ofNat i ∧ Int.ofNat i ≤ ((i + 1 : Nat) : Int) then some (Int.ofNat i).toNat else none) = _
  rw [if_pos ⟨by simp, by simp; omega⟩]
  rfl
 simp only [dY, e1, e2]
 have e3 : (s.take (i + 1)).drop i = [c] := by
  rw [List.drop_take, show i + 1 - i = 1 by omega, List.drop_eq_getElem_cons hi]
  have : s[i] = c := Option.some.inj ((List.getElem?_eq_getElem hi).symm.trans hc)
  simp [this]
 rw [e3]
theorem qD {rec : FuncId → List DV → Hp → aG} {n : Nat} {s : List Nat} (hs : s.length ≤ 100000) (h : Hp) : ∀ (r i m : Nat) (acc : List Nat), i + r = s.length → r < m → acc.length ≤ 1000000 + 2 * i →
  pP rec n m (.s s) (.s acc) (.i .i64 (Int.ofNat i)) h = some (.s (acc ++ fR (s.drop i) ++ [39]), h)
 | 0, i, m, acc, he, hm, hl => by
  obtain ⟨m, rfl⟩ : ∃ m', m = m' + 1 := ⟨m - 1, by omega⟩
  rw [List.drop_eq_nil_of_le (by omega)]
  show rX rec n (pP rec n m) _ _ _ h = _
  unfold rX eP
  have d : decide (Int.ofNat i < (s.length : Int)) = false := decide_eq_false (by simp; omega)
  simp only [rT, aL, bJ, d, aV, jR acc [39] h (by simp; omega), fR, List.append_nil]
 | r + 1, i, m, acc, he, hm, hl => by
  obtain ⟨m, rfl⟩ : ∃ m', m = m' + 1 := ⟨m - 1, by omega⟩
  have hi : i < s.length := by omega
  have hc : s[i]? = some s[i] := List.getElem?_eq_getElem hi
  have d : decide (Int.ofNat i < (s.length : Int)) = true := decide_eq_true (by simp; omega)
  have ei : dP (.s s) (.i .i64 (Int.ofNat i)) h = some (.i .u8 ((s[i] : Nat) : Int), h) := by
   show (if (0 : Int) ≤ Int.ofNat i then (match s[(Int.ofNat i).toNat]? with
    | some c => some (DV.i .u8 (c : Int), h)
    | none => none) else none) = _
   rw [if_pos (by simp)]
   show (match s[i]? with
    | some c => some (DV.i .u8 (c : Int), h)
    | none => none) = _
   rw [hc]
  rw [List.drop_eq_getElem_cons hi]
  show rX rec n (pP rec n m) _ _ _ h = _
  unfold rX aWp aKh
  simp only [rT, aL, bJ, d, aZ, cY i 1 h (by omega), cLk hc, jR acc [s[i]] h (by simp; omega), ei, bI]
  by_cases c39 : s[i] = 39
  ·have d3 : (((s[i] : Nat) : Int) == Int.ofNat 39) = true := by rw [c39]; rfl
   simp only [d3, aZ, jR (acc ++ [s[i]]) [39] h (by simp; omega), aL, cY i 1 h (by omega)]
   rw [qD hs h r (i + 1) m _ (by omega) (by omega) (by simp; omega)]
   simp [fR, c39]
  ·have d3 : (((s[i] : Nat) : Int) == Int.ofNat 39) = false := by
    have : ¬ (((s[i] : Nat) : Int) = Int.ofNat 39) := fun q => c39 (Int.ofNat.inj q)
    simpa using this
   simp only [d3, aV, cY i 1 h (by omega), aL]
   rw [qD hs h r (i + 1) m _ (by omega) (by omega) (by simp; omega)]
   simp [fR, c39]
theorem aNq {s : List Nat} (hs : s.length ≤ 300) {m : Nat} (hm : 400 < m) (h : Hp) : cK m 63 [.s s] h = some (.s (39 :: (fR s ++ [39])), h) := by
 obtain ⟨m, rfl⟩ : ∃ m', m = m' + 1 := ⟨m - 1, by omega⟩
 rw [mJ 63 rfl, cIr]
 unfold s63 aTl aWv aVn bSl
 simp only [g0]
 rw [qD (by omega) h s.length 0 m [39] (by omega) (by omega) (by simp)]
 simp
end Go.Dd

namespace Go.Dd
open Go.Proofs
theorem aLu {α : Type} (f : α → List Nat) (i : Nat) (s : List Nat) (k : α) (ks : List α) : rfL f i s (k :: ks) = if i ≤ 20 then rfL f (i + 1) ((if i = 0 then s else s ++ [32]) ++ (if i = 20 then [46, 46] else f k)) ks else s ++ [41] := by
 rw [rfL]
theorem aSy {α : Type} {f : α → List Nat} {L : Nat} (hL : 2 ≤ L) : ∀ (ks : List α) (i : Nat) (s : List Nat), (∀ k ∈ ks, (f k).length ≤ L) → (rfL f i s ks).length ≤ s.length + ks.length * (L + 1) + 1
 | [], i, s, hf => by unfold rfL; simp
 | k :: ks, i, s, hf => by
  rw [aLu]
  by_cases h : i ≤ 20
  ·rw [if_pos h]
   refine Nat.le_trans (aSy hL ks (i + 1) _ fun x hx => hf x (by simp [hx])) ?_
   have h1 : (if i = 0 then s else s ++ [32]).length ≤ s.length + 1 := by
    by_cases c : i = 0
    ·rw [if_pos c]; omega
    ·rw [if_neg c, List.length_append, List.length_singleton]; omega
   have h2 : (if i = 20 then [46, 46] else f k).length ≤ L := by
    by_cases c : i = 20
    ·rw [if_pos c]; exact hL
    ·rw [if_neg c]; exact hf k (by simp)
   have e : (ks.length + 1) * (L + 1) = ks.length * (L + 1) + (L + 1) := Nat.succ_mul _ _
   rw [List.length_append, List.length_cons, e]
   omega
  ·rw [if_neg h]
   simp only [List.length_append, List.length_singleton]
   omega
theorem bPk : ∀ n : Nat, (nm16.getD n []).length ≤ 30 := fun n => by
 by_cases h : n < 16
 ·have : ∀ i, i < 16 → (nm16.getD i []).length ≤ 30 := by decide
  exact this n h
 ·have : nm16.getD n [] = [] := by
   rw [List.getD_eq_getElem?_getD, List.getElem?_eq_none (by show 16 ≤ n; omega)]
   rfl
  rw [this]; simp
theorem aDn {k n : Int} {tx : List Nat} (ht : tx.length ≤ 200) : (lkA bS k n tx).length ≤ 700 := by
 unfold lkA
 have h1 := xE n
 have h2 := oE tx
 have h3 := bPk n.toNat
 repeat' split
 all_goals (try simp only [List.length_cons, List.length_append, List.length_nil])
 all_goals omega
def oP : Nat → Nat
 | 0 => 700
 | d + 1 => 31 * (oP d + 3)
theorem aUr : ∀ d, d ≤ 3 → oP d ≤ 100000000 ∧ 700 ≤ oP d := by decide
theorem aCj : ∀ (d : Nat) (t : Th), t.ok → (rfT bS d t).length ≤ oP d
 | 0, .mk k n tx ks, ok => by
  unfold Th.ok at ok
  unfold rfT
  split
  ·simp [oP]
  ·exact aDn ok.2.2.2.1
 | d + 1, .mk k n tx ks, ok => by
  unfold Th.ok at ok
  obtain ⟨_, _, _, htx, _, _, hks, _, okk⟩ := ok
  have hb : 700 ≤ oP d := by
   have : ∀ d, 700 ≤ oP d := fun d => by
    induction d with
    | zero => simp [oP]
    | succ d ih => simp only [oP]; omega
   exact this d
  unfold rfT
  split
  ·have := aSy (f := rfT bS d) (L := oP d) (by omega) ks 0 [40] (fun k hk => aCj d k (xV okk hk))
   have h2 : ks.length * (oP d + 1) ≤ 30 * (oP d + 1) := Nat.mul_le_mul_right _ hks
   simp only [oP]
   simp only [List.length_singleton] at this
   omega
  ·have := aDn (k := k) (n := n) htx
   simp only [oP]
   omega
theorem bJc (h : Hp) : ∃ h1, aJ [(.s []), (.s []), (.s []), (.s []), (.s []), (.s []), (.s []), (.s []), (.s []), (.s []), (.s []), (.s []), (.s []), (.s []), (.s []), (.s [])] 16 [(0, 1, (.s [79, 98, 106, 101, 99, 116])), (1, 1, (.s [67, 108, 97, 115, 115])), (2, 1, (.s [85, 110, 100, 101, 102, 105, 110, 101, 100, 79, 98, 106, 101, 99, 116])), (3, 1, (.s [66, 111, 111, 108, 101, 97, 110])), (4, 1, (.s [84, 114, 117, 101])), (5, 1, (.s [70, 97, 108, 115, 101])), (6, 1, (.s [73, 110, 116, 101, 103, 101, 114])), (7, 1, (.s [83, 109, 97, 108, 108, 73, 110, 116, 101, 103, 101, 114])), (8, 1, (.s [76, 97, 114, 103, 101, 73, 110, 116, 101, 103, 101, 114])), (9, 1, (.s [65, 114, 114, 97, 121])), (10, 1, (.s [83, 116, 114, 105, 110, 103])), (11, 1, (.s [83, 121, 109, 98, 111, 108])), (12, 1, (.s [66, 108, 111, 99, 107])), (13, 1, (.s [67, 111, 110, 116, 101, 120, 116])), (14, 1, (.s [77, 101, 116, 104, 111, 100])), (15, 1, (.s [77, 101, 115, 115, 97, 103, 101]))] h = some (.l h.next 0 16 16, h1) ∧ h1.bl.get h.next = some (.row .ex (nm16.map DV.s)) ∧ Up h h1 := by
 refine ⟨⟨h.next.succ, Tr.set (.row .ex (nm16.map DV.s)) h.next h.bl⟩, rfl, dKc _ _ _, ⟨?_, fun p _ hp => dKb _ _ _ _ (fun e => by subst e; omega)⟩⟩
 show _ ≤ h.next.succ.toNat
 rw [dKd]
 omega
section
variable {rec : FuncId → List DV → Hp → aG} {n : Nat}
theorem cDo {d : Nat} (hd : d < 3) {b : Pos} {c0 c1 c2 s : DV} {ks : List Th} {q : Pos → Prop} {row : List DV} {h0 : Hp}
  (hs : (ks = [] ∧ s = .l0) ∨ ∃ b, s = .l b 0 ks.length ks.length ∧ Qr h0 b row ∧ TVL q h0 ks row) (okk : okL ks) (hk : ks.length ≤ 30)
  (hT : T4 h0 b c0 c1 c2 s) (hb : 1029 ≤ b.toNat ∧ b.toNat < h0.next.toNat)
  (IH : ∀ (t : Th) (ds : List DV) (h : Hp), t.ok → TV q h t ds → 1031 ≤ h.next.toNat → ∃ h', rec 28 [.a ds, .i .i64 (Int.ofNat (3 - d))] h = some (.s (rfT bS d t), h') ∧ Up h h') :
  ∀ (r i m : Nat) (acc : List Nat) (h : Hp), i + r = ks.length → r < m → i ≤ 21 → acc.length ≤ 1 + i * (oP d + 1) → Up h0 h → 1031 ≤ h.next.toNat →
   ∃ h', jY rec n m (.i .i64 (Int.ofNat (2 - d))) (.p b 0) (.s acc) (.i .i64 (Int.ofNat i)) h = some (.s (rfL (rfT bS d) i acc (ks.drop i)), h') ∧ Up h h' := by
 have so : s.one = true := by rcases hs with ⟨_, rfl⟩ | ⟨b, rfl, _⟩ <;> rfl
 have sl : ∀ g, cO s g = some (iD ks.length, g) := fun g => by rcases hs with ⟨rfl, rfl⟩ | ⟨b, rfl, _⟩ <;> rfl
 obtain ⟨hB, hB7⟩ := aUr d (by omega)
 have accb : ∀ i : Nat, i ≤ 21 → i * (oP d + 1) ≤ 21 * 100000001 := fun i hi => Nat.mul_le_mul hi (by omega)
 intro r
 induction r with
 | zero =>
  intro i m acc h he hm hi ha U hn
  obtain ⟨m, rfl⟩ : ∃ m', m = m' + 1 := ⟨m - 1, by omega⟩
  have Th : T4 h b c0 c1 c2 s := by unfold T4; rw [U.get b (.inr hb.1) hb.2]; exact hT
  have l3 := Th.l3 so
  have sl := sl h
  have d1 : decide (Int.ofNat i < (ks.length : Int)) = false := decide_eq_false (by simp; omega)
  have := accb i hi
  refine ⟨h, ?_, Up.refl h⟩
  rw [List.drop_eq_nil_of_le (by omega)]
  show kZ rec n (jY rec n m) _ _ _ _ h = _
  unfold kZ cN
  simp only [iD] at sl
  simp only [gL, aL, l3, sl, bJ, d1, gM, jK, bN, aV, jR acc [41] h (by simp; omega)]
  rfl
 | succ r ih =>
  intro i m acc h he hm hi ha U hn
  obtain ⟨m, rfl⟩ : ∃ m', m = m' + 1 := ⟨m - 1, by omega⟩
  have Th : T4 h b c0 c1 c2 s := by unfold T4; rw [U.get b (.inr hb.1) hb.2]; exact hT
  have l3 := Th.l3 so
  have sl := sl h
  have hil : i < ks.length := by omega
  have d1 : decide (Int.ofNat i < (ks.length : Int)) = true := decide_eq_true (by simpa using hil)
  have hab := accb i hi
  have ed : ks.drop i = ks[i] :: ks.drop (i + 1) := List.drop_eq_getElem_cons hil
  have hget : ks[i]? = some ks[i] := List.getElem?_eq_getElem hil
  rw [ed, aLu]
  simp only [iD] at sl
  by_cases c20 : i ≤ 20
  ·rw [if_pos c20]
   have d2 : decide (Int.ofNat i ≤ Int.ofNat 20) = true := decide_eq_true (by simp; omega)
   have tail : ∀ t : List Nat, t = (if i = 0 then acc else acc ++ [32]) → t.length ≤ acc.length + 1 → ∃ h', sM rec n (jY rec n m) (.i .i64 (Int.ofNat (2 - d))) (.p b 0) (.s t) (.i .i64 (Int.ofNat i)) h = some (.s (rfL (rfT bS d) (i + 1) (t ++ (if i = 20 then [46, 46] else rfT bS d ks[i])) (ks.drop (i + 1))), h') ∧ Up h h' := by
    intro t ht htl
    unfold sM hY
    by_cases c : i = 20
    ·rw [if_pos c]
     have d3 : (Int.ofNat i == Int.ofNat 20) = true := by rw [c]; rfl
     obtain ⟨h', e1, U1⟩ := ih (i + 1) m (t ++ [46, 46]) h (by omega) (by omega) (by omega) (by simp; rw [Nat.succ_mul]; omega) U hn
     refine ⟨h', ?_, U1⟩
     simp only [bI, d3, aL, aZ, jR t [46, 46] h (by simp; omega), cY i 1 h (by omega)]
     exact e1
    ·rw [if_neg c]
     have d3 : (Int.ofNat i == Int.ofNat 20) = false := by
      have : ¬ (Int.ofNat i = Int.ofNat 20) := fun q => c (Int.ofNat.inj q)
      simpa using this
     rcases hs with ⟨rfl, _⟩ | ⟨b', rfl, Q, D⟩
     ·simp at hil
     obtain ⟨_, q2⟩ := D.at
     obtain ⟨c', c1', c2'⟩ := q2 i ks[i] hget
     have okt : (ks[i]).ok := xV okk (List.getElem_mem hil)
     obtain ⟨g, e1, U1⟩ := IH ks[i] c' h okt (TV.up U _ _ c2') hn
     have hl := aCj d ks[i] okt
     obtain ⟨h', e2, U2⟩ := ih (i + 1) m (t ++ rfT bS d ks[i]) g (by omega) (by omega) (by omega) (by rw [List.length_append, Nat.succ_mul]; omega) (U.trans U1) (Nat.le_trans hn U1.next)
     refine ⟨h', ?_, U1.trans U2⟩
     have ei : aF 4 (.l b' 0 ks.length ks.length) (.i .i64 (Int.ofNat i)) h = some (.p b' (0 + i * 4), h) := by
      show (if 0 ≤ Int.ofNat i ∧ Int.ofNat i < (ks.length : Int) then some (DV.p b' (0 + (Int.ofNat i).toNat * 4), h) else none) = _
      rw [if_pos ⟨by simp, by simpa using hil⟩]
      rfl
     have ea : aN 4 (.p b' (0 + i * 4)) h = some (.a c', h) := by
      obtain ⟨⟨kd, q1⟩, _, _⟩ := Q.up U
      simp only [aN, cellsAt, rowOf, q1, Nat.zero_add, c1']
     have ex : aD .add (.i .i64 (Int.ofNat (2 - d))) (.i .i64 (Int.ofNat 1)) h = some (.i .i64 (Int.ofNat (3 - d)), h) := by
      rw [cY (2 - d) 1 h (by omega), show 2 - d + 1 = 3 - d by omega]
     simp only [bI, d3, aL, aV, gL, l3, ei, ea, ex, e1, jR t (rfT bS d ks[i]) g (by omega), cY i 1 g (by omega)]
     exact e2
   show ∃ h', kZ rec n (jY rec n m) _ _ _ _ h = _ ∧ _
   unfold kZ aCk
   simp only [gL, aL, l3, sl, bJ, d1, fT, wA, d2, bL, aZ, cM]
   by_cases c0 : i = 0
   ·have d0 : decide (Int.ofNat i > Int.ofNat 0) = false := decide_eq_false (by simp; omega)
    simp only [d0, aV]
    rw [if_pos c0]
    exact tail acc (by rw [if_pos c0]) (by omega)
   ·have d0 : decide (Int.ofNat i > Int.ofNat 0) = true := decide_eq_true (by simp; omega)
    simp only [d0, aZ, jR acc [32] h (by simp; omega), aL]
    rw [if_neg c0]
    exact tail (acc ++ [32]) (by rw [if_neg c0]) (by simp)
  ·rw [if_neg c20]
   have d2 : decide (Int.ofNat i ≤ Int.ofNat 20) = false := decide_eq_false (by simp; omega)
   refine ⟨h, ?_, Up.refl h⟩
   show kZ rec n (jY rec n m) _ _ _ _ h = _
   unfold kZ cN
   simp only [gL, aL, l3, sl, bJ, d1, fT, wA, d2, bL, aV, jR acc [41] h (by simp; omega)]
end
theorem aWu {q : Pos → Prop} {x1 : DV} {d : Nat} {kd N : Int} {tx : List Nat} {ks : List Th} {ds : List DV} {h : Hp} (ok : (Th.mk kd N tx ks).ok) (T : TV q h (.mk kd N tx ks) ds) (hk : kd ≠ 3) (hn : 1031 ≤ h.next.toNat) {n : Nat} (hm : 500 < n) :
  ∃ h', cK (n + 1) 28 [.a ds, x1] h = some (.s (lkA bS kd N tx), h') ∧ Up h h' := by
 unfold TV at T
 obtain ⟨sl, rfl, so, hks⟩ := T
 unfold Th.ok at ok
 obtain ⟨k1, k2, kN, ktx, k2t, k6, klen, kby, kks⟩ := ok
 rw [mJ 28 rfl, bOs]
 have ns := dKd h.next
 obtain ⟨h1, hh1⟩ : ∃ h1 : Hp, (⟨h.next.succ, Tr.set (.row .ex [iD kd, iD N, .s tx, sl]) h.next h.bl⟩ : Hp) = h1 := ⟨_, rfl⟩
 have eb : cB (.a [iD kd, iD N, .s tx, sl]) h = some (.p h.next 0, h1) := by rw [← hh1]; rfl
 have U1 : Up h h1 := by
  rw [← hh1]
  exact ⟨by show _ ≤ h.next.succ.toNat; omega, fun p _ hp => dKb _ _ _ _ (fun e => by subst e; omega)⟩
 have T : T4 h1 h.next (iD kd) (iD N) (.s tx) sl := by rw [← hh1]; exact dKc _ _ _
 have l0 := T.l0 rfl
 have l1 := T.l1 rfl
 have l2 := T.l2 rfl
 unfold s28 yK aLp aJz aVe
 simp only [iD] at l0 l1 eb ⊢
 simp only [g0, g1, eb, aL, gL, l0, bI]
 unfold lkA
 by_cases c0 : kd = 0
 ·subst c0
  have r := kN rfl
  obtain ⟨h2, e2, L2⟩ := aOj (n := N) (by omega) (m := n) (by omega) h1
  refine ⟨h2, ?_, U1.trans L2.up⟩
  simp only [show ((0 : Int) == Int.ofNat 0) = true from rfl, aZ, gL, l1, aL, e2, if_true]
 have d0 : (kd == Int.ofNat 0) = false := eqF c0
 rw [if_neg c0]
 unfold aJj aSp
 by_cases c1 : kd = 1
 ·subst c1
  refine ⟨h1, ?_, U1⟩
  simp only [d0, aV, show ((1 : Int) == Int.ofNat 1) = true from rfl, aZ, gL, l2, aL, aNq (show tx.length ≤ 300 by omega) (show 400 < n by omega), if_true]
 have d1 : (kd == Int.ofNat 1) = false := eqF c1
 rw [if_neg c1]
 unfold aLt aUe
 by_cases c2 : kd = 2
 ·subst c2
  refine ⟨h1, ?_, U1⟩
  simp only [d0, d1, aV, bI, aL, show ((2 : Int) == Int.ofNat 2) = true from rfl, aZ, gL, l2, jR [35] tx h1 (by simp; omega), if_true]
  rfl
 have d2 : (kd == Int.ofNat 2) = false := eqF c2
 have d3 : (kd == Int.ofNat 3) = false := eqF hk
 rw [if_neg c2]
 unfold zE aW
 by_cases c4 : kd = 4
 ·subst c4
  refine ⟨h1, ?_, U1⟩
  simp only [d0, d1, d2, d3, aV, bI, aL, show ((4 : Int) == Int.ofNat 4) = true from rfl, aZ, if_true]
 have d4 : (kd == Int.ofNat 4) = false := eqF c4
 rw [if_neg c4]
 by_cases c5 : kd = 5
 ·subst c5
  refine ⟨h1, ?_, U1⟩
  simp only [d0, d1, d2, d3, d4, aV, bI, aL, show ((5 : Int) == Int.ofNat 5) = true from rfl, aZ, if_true]
 have d5 : (kd == Int.ofNat 5) = false := eqF c5
 rw [if_neg c5]
 by_cases c6 : kd = 6
 ·subst c6
  have r := k6 rfl
  obtain ⟨h2, e2, g2', U2⟩ := bJc h1
  have T2 : T4 h2 h.next (iD 6) (iD N) (.s tx) sl := by
   unfold T4
   rw [U2.get h.next (.inr (by omega)) (by rw [← hh1]; show _ < h.next.succ.toNat; omega)]
   exact T
  have l1' := T2.l1 rfl
  obtain ⟨j, rfl⟩ : ∃ j : Nat, N = Int.ofNat j := ⟨N.toNat, by simp; omega⟩
  have hj : j < 16 := by simp at r; omega
  have ei : aF 1 (.l h1.next 0 16 16) (.i .i64 (Int.ofNat j)) h2 = some (.p h1.next (0 + j * 1), h2) := by
   show (if 0 ≤ Int.ofNat j ∧ Int.ofNat j < ((16 : Nat) : Int) then some (DV.p h1.next (0 + (Int.ofNat j).toNat * 1), h2) else none) = _
   rw [if_pos ⟨by simp, by simp; omega⟩]
   rfl
  have hlen : nm16.length = 16 := rfl
  have eg : (nm16.map DV.s)[j]? = some (.s (nm16.getD j [])) := by
   rw [List.getElem?_map, List.getD_eq_getElem?_getD, List.getElem?_eq_getElem (show j < nm16.length by omega)]
   rfl
  have el : aA (.p h1.next (0 + j * 1)) h2 = some (.s (nm16.getD j []), h2) := by
   rw [show 0 + j * 1 = j by omega]
   exact zD g2' eg rfl
  refine ⟨h2, ?_, U1.trans U2⟩
  simp only [iD] at l1'
  simp only [d0, d1, d2, d3, d4, d5, aV, bI, aL, show ((6 : Int) == Int.ofNat 6) = true from rfl, aZ, if_true, e2, gL, l1', ei, el]
  rfl
 have d6 : (kd == Int.ofNat 6) = false := eqF c6
 rw [if_neg c6]
 by_cases c8 : kd = 8
 ·subst c8
  refine ⟨h1, ?_, U1⟩
  simp only [d0, d1, d2, d3, d4, d5, d6, aV, bI, aL, show ((8 : Int) == Int.ofNat 8) = true from rfl, aZ, if_true]
 have d8 : (kd == Int.ofNat 8) = false := eqF c8
 rw [if_neg c8]
 by_cases c9 : kd = 9
 ·subst c9
  refine ⟨h1, ?_, U1⟩
  simp only [d0, d1, d2, d3, d4, d5, d6, d8, aV, bI, aL, show ((9 : Int) == Int.ofNat 9) = true from rfl, aZ, if_true]
 have d9 : (kd == Int.ofNat 9) = false := eqF c9
 rw [if_neg c9]
 refine ⟨h1, ?_, U1⟩
 simp only [d0, d1, d2, d3, d4, d5, d6, d8, d9, aV, bI, aL]
theorem bFc {q : Pos → Prop} {x1 : Int} {N : Int} {tx : List Nat} {ks : List Th} {ds : List DV} {h : Hp} (T : TV q h (.mk 3 N tx ks) ds) (hn : 1031 ≤ h.next.toNat) {n : Nat} :
  ∃ h1 sl row, cK (n + 1) 28 [.a ds, .i .i64 x1] h = aAe (cK n) n (.i .i64 x1) (.p h.next 0) h1 ∧ Up h h1 ∧ T4 h1 h.next (iD 3) (iD N) (.s tx) sl ∧ h.next.toNat < h1.next.toNat ∧ ((ks = [] ∧ sl = .l0) ∨ ∃ b, sl = .l b 0 ks.length ks.length ∧ Qr h1 b row ∧ TVL q h1 ks row) := by
 unfold TV at T
 obtain ⟨sl, rfl, so, hks⟩ := T
 have ns := dKd h.next
 obtain ⟨h1, hh1⟩ : ∃ h1 : Hp, (⟨h.next.succ, Tr.set (.row .ex [iD 3, iD N, .s tx, sl]) h.next h.bl⟩ : Hp) = h1 := ⟨_, rfl⟩
 have eb : cB (.a [iD 3, iD N, .s tx, sl]) h = some (.p h.next 0, h1) := by rw [← hh1]; rfl
 have nx1 : h1.next = h.next.succ := by rw [← hh1]
 have U1 : Up h h1 := by
  rw [← hh1]
  exact ⟨by show _ ≤ h.next.succ.toNat; omega, fun p _ hp => dKb _ _ _ _ (fun e => by subst e; omega)⟩
 have T : T4 h1 h.next (iD 3) (iD N) (.s tx) sl := by rw [← hh1]; exact dKc _ _ _
 have l0 := T.l0 rfl
 have key : ∃ row, (ks = [] ∧ sl = .l0) ∨ ∃ b, sl = .l b 0 ks.length ks.length ∧ Qr h1 b row ∧ TVL q h1 ks row := by
  rcases hks with a | ⟨b, row, e, Q, _, D⟩
  ·exact ⟨[], .inl a⟩
  ·exact ⟨row, .inr ⟨b, e, Q.up U1, TVL.up U1 _ _ D⟩⟩
 obtain ⟨row, key⟩ := key
 refine ⟨h1, sl, row, ?_, U1, T, by rw [nx1]; omega, key⟩
 rw [mJ 28 rfl, bOs]
 unfold s28 yK aLp aJz aVe aJj aSp aLt aUe zE
 simp only [iD] at l0 eb ⊢
 simp only [g0, g1, eb, aL, gL, l0, bI, show ((3 : Int) == Int.ofNat 0) = false from rfl, show ((3 : Int) == Int.ofNat 1) = false from rfl, show ((3 : Int) == Int.ofNat 2) = false from rfl, show ((3 : Int) == Int.ofNat 3) = true from rfl, aV, aZ]
theorem cRu : ∀ (d : Nat), d ≤ 3 → ∀ (t : Th) (ds : List DV) (q : Pos → Prop) (h : Hp), t.ok → TV q h t ds → 1031 ≤ h.next.toNat → ∀ n, 500 < n → ∃ h', cK (n + 1 + d) 28 [.a ds, .i .i64 (Int.ofNat (3 - d))] h = some (.s (rfT bS d t), h') ∧ Up h h' := by
 intro d
 induction d with
 | zero =>
  rintro _ ⟨kd, N, tx, ks⟩ ds q h ok T hn n hm
  unfold rfT
  by_cases c3 : kd = 3
  ·subst c3
   rw [if_pos rfl]
   obtain ⟨h1, sl, row, e1, U1, _⟩ := bFc (x1 := Int.ofNat (3 - 0)) (n := n) T hn
   refine ⟨h1, ?_, U1⟩
   rw [Nat.add_zero, e1]
   unfold aAe
   have d3 : (Int.ofNat (3 - 0) == Int.ofNat 3) = true := rfl
   simp only [bI, d3, aL, aZ]
  ·rw [if_neg c3]
   exact aWu (d := 0) ok T c3 hn hm
 | succ d ih =>
  rintro hd ⟨kd, N, tx, ks⟩ ds q h ok T hn n hm
  unfold rfT
  by_cases c3 : kd = 3
  ·subst c3
   rw [if_pos rfl]
   obtain ⟨h1, sl, row, e1, U1, T1, hx, key⟩ := bFc (x1 := Int.ofNat (3 - (d + 1))) (n := n + 1 + d) T hn
   unfold Th.ok at ok
   obtain ⟨h2, e2, U2⟩ := cDo (rec := cK (n + 1 + d)) (n := n + 1 + d) (d := d) (by omega) key ok.2.2.2.2.2.2.2.2 ok.2.2.2.2.2.2.1 T1 ⟨by omega, hx⟩ (fun t ds h ok T hn => ih (by omega) t ds q h ok T hn n hm) ks.length 0 (n + 1 + d) [40] h1 (by omega) (by have := ok.2.2.2.2.2.2.1; omega) (by omega) (by simp) (Up.refl h1) (by have := U1.next; omega)
   refine ⟨h2, ?_, U1.trans U2⟩
   rw [show n + 1 + (d + 1) = n + 1 + d + 1 by omega, e1]
   unfold aAe aIu aDx aEn aQv
   have e3 : 3 - (d + 1) = 2 - d := by omega
   have d3 : (Int.ofNat (2 - d) == Int.ofNat 3) = false := by
    have : ¬ (Int.ofNat (2 - d) = Int.ofNat 3) := fun q => by have := Int.ofNat.inj q; omega
    simpa using this
   rw [List.drop_zero] at e2
   rw [e3]
   simp only [bI, d3, aL, aV]
   exact e2
  ·rw [if_neg c3, show n + 1 + (d + 1) = (n + d + 1) + 1 by omega]
   exact aWu (d := d + 1) ok T c3 hn (by omega)
end Go.Dd

namespace Go.Dd
open Go.Proofs
noncomputable def nmW (c : Int) (s : List Nat) : Bool := isC MN RN c && (qL MN RN (dV MN c 0) && (oU (txW MN (dV MN c 0)) s && decide (0 ≤ jH MN RN c)))
theorem aPp {c : Int} {s : List Nat} (h : nmW c s = true) : isC MN RN c = true ∧ fY MN RN c = s ∧ 0 ≤ jH MN RN c ∧ isTx MN RN (dV MN c 0) := by
 unfold nmW at h
 simp only [Bool.and_eq_true, decide_eq_true_eq] at h
 obtain ⟨h1, h2, h3, h4⟩ := h
 refine ⟨h1, ?_, h4, isTxB_iff.1 h2⟩
 unfold fY
 rw [if_pos h1, if_pos h2]
 exact (kX _ _).1 h3
theorem bWm : wM (fun i => nmW (RN.getD (2 + i) 0) (nm16.getD i [])) [0, 1, 2, 3, 4, 5, 6, 7, 8, 9, 10, 11, 12, 13, 14, 15] = true := by kernel_rfl
theorem dBy : nmW 8714 [80, 111, 105, 110, 116] = true := by kernel_rfl
theorem cYo : nmW 8770 [69, 103, 103] = true := by kernel_rfl
theorem NmsN : Nms 8714 8770 MN RN where
 kn := fun i hi => aPp (gA bWm i (by simp only [List.mem_cons, List.not_mem_nil, or_false]; omega))
 ptc := by obtain ⟨a, b, _, d⟩ := aPp dBy; exact ⟨a, b, d⟩
 egc := by obtain ⟨a, b, _, d⟩ := aPp cYo; exact ⟨a, b, d⟩
 np := fun i hi => by rw [GIN.rk i hi]; intro e; have : (8714 : Int) = Int.ofNat (6 + 18 * i) := e; simp at this; omega
 ne := fun i hi => by rw [GIN.rk i hi]; intro e; have : (8770 : Int) = Int.ofNat (6 + 18 * i) := e; simp at this; omega
section
variable {h h' : Hp} {M M' : MemV} {R R' : List Int} {es es' : List (DV × DV)} {k : Nat} {z : Prop} {CL : List Nat}
theorem aOc {x : Int} (h : cU x = true) : -9223372036854775808 ≤ nJ x ∧ nJ x ≤ 9223372036854775807 := by
 rw [iT] at h
 have := of_decide_eq_true h
 rw [oI]
 omega
theorem bMf {pt eg : Int} (N : Nms pt eg M R) (I : GI M R CL z) (G : Good M) {t : Th} {x : Int} (ok : t.ok) (H : Lk pt eg M R t x) : ∀ v, jG M R x = some v → -9223372036854775808 ≤ v ∧ v ≤ 9223372036854775807 := by
 obtain ⟨kd, n, tx, ks⟩ := t
 unfold Th.ok at ok
 intro v hv
 unfold Lk at H
 obtain ⟨hm, H⟩ := H
 have non : ∀ {c : Int}, bM x M.pl ≠ 0 → cW M x = c → c ≠ R.getD 10 0 → False := fun ha hc hne => by
  rw [jC ha (by rw [hc]; exact hne)] at hv
  cases hv
 rcases H with ⟨rfl, H⟩ | ⟨rfl, H⟩ | ⟨rfl, H⟩ | ⟨rfl, h1, h2, h3, h4⟩ | ⟨rfl, h1, h2⟩ | ⟨rfl, h1, h2⟩ | ⟨rfl, h1, h2, h3⟩ | ⟨rfl, H⟩ | ⟨rfl, H⟩ | ⟨rfl, H⟩
 ·rw [H] at hv
  cases hv
  have := ok.2.2.1 rfl
  omega
 ·exact (non H.at0 H.cls (iM I (i := 10) (j := 8) (by omega) (by omega) (by omega))).elim
 ·exact (non H.at0 H.cls (iM I (i := 11) (j := 8) (by omega) (by omega) (by omega))).elim
 ·exact (non h1 h2 (iM I (i := 9) (j := 8) (by omega) (by omega) (by omega))).elim
 ·exact (non h1 h2 (N.np 8 (by omega))).elim
 ·exact (non h1 h2 (N.ne 8 (by omega))).elim
 ·obtain ⟨a, b⟩ := sI (N.kn n.toNat (by omega)).1
  rw [← h3] at a b
  exact (non a b (iM I (i := 1) (j := 8) (by omega) (by omega) (by omega))).elim
 ·subst H
  rw [show jG M R 0 = none from rfl] at hv
  cases hv
 ·subst H
  rw [show jG M R 2 = none from rfl] at hv
  cases hv
 ·subst H
  rw [show jG M R 4 = none from rfl] at hv
  cases hv
theorem LkL.at {pt eg : Int} {x : Int} : ∀ {ts : List Th} (i : Nat), LkL pt eg M R x i ts → ∀ j t, ts[j]? = some t → Lk pt eg M R t (dV M x (i + j))
 | [], i, H, j, t, e => by simp at e
 | a :: ts, i, H, j, t, e => by
  unfold LkL at H
  cases j with
  | zero => simp only [List.getElem?_cons_zero, bC] at e; subst e; exact H.1
  | succ j =>
   rw [List.getElem?_cons_succ] at e
   have := LkL.at (i + 1) H.2 j t e
   rwa [show i + 1 + j = i + (j + 1) by omega] at this
theorem cKn {pt eg : Int} (N : Nms pt eg M R) (I : GI M R CL z) (G : Good M) : ∀ (d : Nat) (t : Th) (x : Int), t.ok → Lk pt eg M R t x → RgW M R d x
 | 0, t, x, ok, H => bMf N I G ok H
 | d + 1, .mk kd n tx ks, x, ok, H => by
  unfold RgW
  refine ⟨bMf N I G ok H, fun ha hc i hi => ?_⟩
  unfold Lk at H
  obtain ⟨hm, H⟩ := H
  rcases H with ⟨rfl, H⟩ | ⟨rfl, H⟩ | ⟨rfl, H⟩ | ⟨rfl, h1, h2, h3, h4⟩ | ⟨rfl, h1, h2⟩ | ⟨rfl, h1, h2⟩ | ⟨rfl, h1, h2, h3⟩ | ⟨rfl, H⟩ | ⟨rfl, H⟩ | ⟨rfl, H⟩
  ·rw [jC ha (by rw [hc]; exact iM I (i := 9) (j := 8) (by omega) (by omega) (by omega))] at H
   cases H
  ·exact absurd (hc.symm.trans H.cls) (iM I (i := 9) (j := 10) (by omega) (by omega) (by omega))
  ·exact absurd (hc.symm.trans H.cls) (iM I (i := 9) (j := 11) (by omega) (by omega) (by omega))
  ·rw [h3] at hi
   have e : ks[i]? = some ks[i] := List.getElem?_eq_getElem hi
   have q := LkL.at 0 h4 i ks[i] e
   rw [Nat.zero_add] at q
   unfold Th.ok at ok
   exact cKn N I G d ks[i] _ (xV ok.2.2.2.2.2.2.2.2 (List.getElem_mem hi)) q
  ·exact absurd (h2.symm.trans hc) (N.np 9 (by omega))
  ·exact absurd (h2.symm.trans hc) (N.ne 9 (by omega))
  ·obtain ⟨a, b⟩ := sI (N.kn n.toNat (by omega)).1
   rw [← h3] at b
   exact absurd (hc.symm.trans b) (iM I (i := 9) (j := 1) (by omega) (by omega) (by omega))
  ·subst H; exact absurd rfl ha
  ·subst H; exact absurd rfl ha
  ·subst H; exact absurd rfl ha
theorem mC (V : Wv k h M R es) (N : Nms 8714 8770 M R) {t : Th} {x : Int} (ok : t.ok) (L : uE M R t x) {n : Nat} (hn : 400 < n) :
  ∃ g', cK (n + 13) 10 [.p (aM 7) 0, .i .i64 x] h = some (.s ((lA bS 3 t).take 1000), g') ∧ Wv k g' M R es ∧ Up h g' := by
 obtain ⟨g', e1, W1, U1⟩ := aWa V.K.G V.I (cKn N V.I V.K.G 3 t x ok L) hn V.K.W
 refine ⟨g', ?_, V.up W1 U1, U1⟩
 rw [e1, cFr N V.I V.K.G 3 t x L]
theorem aJm {t : Th} {ds : List DV} {q : Pos → Prop} (ok : t.ok) (T : TV q h t ds) (hn : 1031 ≤ h.next.toNat) {n : Nat} (hm : 500 < n) :
  ∃ g', cK (n + 5) 12 [.a ds] h = some (.s ((rfT bS 3 t).take 1000), g') ∧ Up h g' := by
 obtain ⟨sh1, sh2⟩ := T.shape
 have ns := dKd h.next
 obtain ⟨h1, hh1⟩ : ∃ h1 : Hp, (⟨h.next.succ, Tr.set (.row .ex ds) h.next h.bl⟩ : Hp) = h1 := ⟨_, rfl⟩
 have eb : cB (.a ds) h = some (.p h.next 0, h1) := by rw [← hh1]; rfl
 have U1 : Up h h1 := by
  rw [← hh1]
  exact ⟨by show _ ≤ h.next.succ.toNat; omega, fun p _ hp => dKb _ _ _ _ (fun e => by subst e; omega)⟩
 have hb : h1.bl.get h.next = some (.row .ex ds) := by rw [← hh1]; exact dKc _ _ _
 have el : aN 4 (.p h.next 0) h1 = some (.a ds, h1) := by
  have : gJ 4 ds = some ds := by have := kC (r := []) sh1 sh2; rwa [List.append_nil] at this
  simp only [aN, cellsAt, rowOf, hb, List.drop_zero, this]
 obtain ⟨h2, e2, U2⟩ := cRu 3 (by omega) t ds q h1 ok (TV.up U1 _ _ T) (Nat.le_trans hn U1.next) n hm
 have hl := aCj 3 t ok
 have hB := (aUr 3 (by omega)).1
 refine ⟨h2, ?_, U1.trans U2⟩
 rw [mJ 12 rfl, cJf]
 unfold s12
 have ez : Int.ofNat (3 - 3) = Int.ofNat 0 := rfl
 rw [ez] at e2
 simp only [g0, eb, aL, el, e2, rT, cM]
 generalize rfT bS 3 t = s at hl ⊢
 by_cases c : (s.length : Int) > Int.ofNat 1000
 ·simp only [decide_eq_true c, aZ, aVm s 1000 (by simp at c; omega) h2, aL]
 ·simp only [decide_eq_false c, aV]
  rw [List.take_of_length_le (by simp at c; omega)]
end
noncomputable def cJk (a : Nat) : Bool := !(MN.t.get (a + 1) == RN.getD 10 0)
theorem bBw : wM cJk plN = true := by kernel_rfl
noncomputable def dDg (a : Nat) : Bool := match MN.t.get (bM (MN.t.get (a + 3)) MN.pl + 3) with
 | .ofNat c => Nat.ble 65 c
 | .negSucc _ => false
theorem bKv : wM dDg CLW = true := by kernel_rfl
theorem cPn {a : Nat} (h : MN.pl.get a ≠ 0) : a ∈ plN := by
 rw [bOq] at h
 rcases qK (oZ plF 583 ++ plW) .e a (fun x hx => by have := gA bIv x hx; simpa [gF] using this) h with q | q
 ·exact q
 ·exact absurd rfl q
theorem bNk (x : Int) : ∀ v, jG MN RN x = some v → -9223372036854775808 ≤ v ∧ v ≤ 9223372036854775807 := by
 intro v hv
 unfold jG at hv
 cases hs : cU x with
 | true =>
  rw [hs, if_pos rfl] at hv
  cases hv
  exact aOc hs
 | false =>
  rw [hs, if_neg (by simp)] at hv
  by_cases c : (bM x MN.pl ≠ 0 ∧ cW MN x = RN.getD 10 0) ∧ cE MN x % 4 = 1
  ·have hb := gA bBw _ (cPn (aXk c.1.1))
   unfold cJk at hb
   have hc : MN.t.get (bM x MN.pl + 1) = RN.getD 10 0 := c.1.2
   rw [hc] at hb
   simp at hb
  ·rw [if_neg c] at hv
   cases hv
theorem cIy : ∀ (d : Nat) (x : Int), RgW MN RN d x
 | 0, x => bNk x
 | d + 1, x => ⟨bNk x, fun _ _ i _ => cIy d _⟩
theorem cEv {c : Int} (h : isC MN RN c = true) : ∃ b l, fY MN RN c = b :: l ∧ 65 ≤ b := by
 obtain ⟨h1, h2⟩ := sI h
 obtain ⟨e1, O, _, _⟩ := GIN.headOb GN h1
 have hm := O.cls h2
 have hcl := GIN.cl _ hm
 obtain ⟨s, T, s1, _⟩ := hcl.nm
 have hh : cE MN c = 24 := by
  have := hcl.hd
  rw [e1] at this
  exact Int.ofNat.inj this
 have eg : dV MN c 0 = MN.t.get (bM c MN.pl + 3) := by
  unfold dV
  rw [if_pos ⟨h1, by rw [hh]; decide⟩]
 have cap := gA bKv _ hm
 unfold dDg at cap
 obtain ⟨t, ec, es⟩ := T.txW GIN GN (.inr rfl)
 rw [← eg] at t ec es cap
 have hname : fY MN RN c = s := by
  unfold fY
  rw [if_pos h, if_pos (isTxB_iff.2 t), es]
 rw [hname]
 cases s with
 | nil => simp at s1
 | cons b l =>
  refine ⟨b, l, rfl, ?_⟩
  have := T.get 0 b rfl
  rw [← eg, Nat.add_zero] at this
  rw [this] at cap
  exact Nat.le_of_ble_eq_true cap
theorem aTb : ∀ (f n : Nat) (acc : List Nat), (∀ c ∈ acc, c < 58) → ∀ c ∈ eZ f n acc, c < 58
 | 0, n, acc, h => h
 | f + 1, n, acc, h => by
  rw [fQ]
  by_cases hn : 10 ≤ n
  ·rw [if_pos hn]
   exact aTb f _ _ fun c hc => by
    simp only [List.mem_cons] at hc
    rcases hc with rfl | hc
    ·omega
    ·exact h c hc
  ·rw [if_neg hn]
   intro c hc
   simp only [List.mem_cons] at hc
   rcases hc with rfl | hc
   ·omega
   ·exact h c hc
theorem aVl : ∀ (f n : Nat) (acc : List Nat), acc ≠ [] ∨ 0 < f → eZ f n acc ≠ []
 | 0, n, acc, h => by
  rcases h with h | h
  ·exact h
  ·omega
 | f + 1, n, acc, h => by
  rw [fQ]
  by_cases hn : 10 ≤ n
  ·rw [if_pos hn]; exact aVl f _ _ (.inl (by simp))
  ·rw [if_neg hn]; simp
theorem aUv (n : Int) : bS n ≠ [] ∧ bS n ≠ [63] := by
 cases n with
 | ofNat n =>
  refine ⟨aVl 20 n [] (.inr (by omega)), fun e => ?_⟩
  have := aTb 20 n [] (by simp) 63 (by rw [show eZ 20 n [] = [63] from e]; simp)
  omega
 | negSucc n =>
  refine ⟨by simp [bS], fun e => ?_⟩
  have e : 45 :: eZ 20 (n + 1) [] = [63] := e
  cases e
theorem bPt {arr : List Nat} (ha : ∃ l, arr = 40 :: l) (x : Int) : jD MN RN arr x ≠ [] ∧ (jD MN RN arr x = [63] ↔ dK x MN.pl = false) := by
 unfold jD
 cases hm : dK x MN.pl with
 | false => simp
 | true =>
  have key : ∀ s : List Nat, s ≠ [] → s ≠ [63] → s ≠ [] ∧ (s = [63] ↔ true = false) := fun s h1 h2 => ⟨h1, by simp [h2]⟩
  simp only [Bool.true_eq_false, if_false]
  have key : ∀ s : List Nat, s ≠ [] → s ≠ [63] → s ≠ [] ∧ (s = [63] ↔ False) := fun s h1 h2 => ⟨h1, by simp [h2]⟩
  cases hv : jG MN RN x with
  | some v => exact key _ (aUv v).1 (aUv v).2
  | none =>
   simp only
   by_cases h1 : bM x MN.pl = 0
   ·rw [if_pos h1]
    unfold wU
    split
    ·exact key _ (by simp) (by simp)
    ·split <;> exact key _ (by simp) (by simp)
   ·rw [if_neg h1]
    by_cases h2 : qL MN RN x = true
    ·rw [if_pos h2]
     split
     ·exact key _ (by simp) (by simp)
     ·exact key _ (by simp) (by simp)
    ·rw [if_neg h2]
     by_cases h3 : cW MN x = RN.getD 11 0
     ·rw [if_pos h3]
      obtain ⟨l, rfl⟩ := ha
      exact key _ (by simp) (by simp)
     ·rw [if_neg h3]
      by_cases h4 : 0 ≤ jH MN RN x
      ·rw [if_pos h4]
       have hc : isC MN RN x = true := by
        cases hc : isC MN RN x with
        | true => rfl
        | false =>
         unfold jH at h4
         rw [hc] at h4
         simp at h4
       obtain ⟨b, l, e, hb⟩ := cEv hc
       rw [e]
       refine key _ (by simp) fun q => ?_
       have : b = 63 := by
        have := congrArg (fun l => l.head?) q
        simpa using this
       omega
      ·rw [if_neg h4]
       cases fY MN RN (cW MN x) with
       | nil => exact key _ (by simp [aAr]) (by simp [aAr])
       | cons c l =>
        rw [sH]
        split <;> exact key _ (by simp) (by simp)
theorem bLz (x : Int) : ∃ k, aE CF dB 900 4 [.i .i64 x] hS = some (.b true, k) := by
 obtain ⟨g, e1, W1, U1⟩ := aWa (n := 887) GN GIN (cIy 3 x) (by omega) (WvN hS).K.W
 have ha : ∃ l, rM (eH MN RN 2) 0 [40] (mK MN x) = 40 :: l := by
  obtain ⟨t, ht⟩ := aYj (eH MN RN 2) (mK MN x) 0 [40]
  exact ⟨t, by rw [ht]; rfl⟩
 obtain ⟨n1, n2⟩ := bPt ha x
 have es : eH MN RN 3 x = jD MN RN (rM (eH MN RN 2) 0 [40] (mK MN x)) x := rfl
 rw [es] at e1
 generalize jD MN RN (rM (eH MN RN 2) 0 [40] (mK MN x)) x = s at e1 n1 n2
 have hw : dB 8 [] hS = some (.p (aM 7) 0, zL hS) := nE hS (by kernel_rfl)
 have h10 : ∀ h, dB 10 [.p (aM 7) 0, .i .i64 x] h = cK (887 + 13) 10 [.p (aM 7) 0, .i .i64 x] h := fun h => rC _ _
 have em : ∀ h, dB 14 [.p (aM 7) 0] h = cK (899 + 1) 14 [.p (aM 7) 0] h := fun h => cDm _ _
 have my := W1.may x
 have e14 := W1.memory 899
 have lv := rG
 have hlen : (s.take 1000).length ≤ 1000 := by rw [List.length_take]; omega
 have hpos : 0 < (s.take 1000).length := by
  rw [List.length_take]
  have : 0 < s.length := List.length_pos_iff.2 n1
  omega
 have d1 : decide (((s.take 1000).length : Int) > Int.ofNat 0) = true := decide_eq_true (by simp only [Int.ofNat_eq_natCast]; omega)
 have d2 : decide (((s.take 1000).length : Int) ≤ Int.ofNat 1000) = true := decide_eq_true (by simp only [Int.ofNat_eq_natCast]; omega)
 have hq : oU (s.take 1000) [63] = !(dK x MN.pl) := by
  rw [Bool.eq_iff_iff, kX]
  have : s.take 1000 = [63] ↔ s = [63] := by
   constructor
   ·intro q
    have hl := congrArg List.length q
    rw [List.length_take, List.length_singleton] at hl
    rwa [List.take_of_length_le (by omega)] at q
   ·rintro rfl; rfl
  rw [this, n2]
  cases dK x MN.pl <;> simp
 refine ⟨g, ?_⟩
 rw [cZv]
 unfold s4
 simp only [g0, hw, aL, pE0, aV, h10, e1, rT, cM, d1, fT, wA, d2, bL, oB, em, e14, my, gT, hq, dFa, beq_self_eq_true, lv]
end Go.Dd

namespace Go.Dd
open Go.Proofs
noncomputable def rnB (j : Nat) : Bool := okB (bRg dB 900 (.i .i64 (Int.ofNat j)) (.p (aM 7) 0) (zL hS))
theorem rn1 : rnB 1 = true := by kernel_rfl
theorem rn2 : rnB 2 = true := by kernel_rfl
theorem rn3 : rnB 3 = true := by kernel_rfl
theorem rn4 : rnB 4 = true := by kernel_rfl
theorem rn5 : rnB 5 = true := by kernel_rfl
theorem rn6 : rnB 6 = true := by kernel_rfl
theorem rn7 : rnB 7 = true := by kernel_rfl
theorem rn8 : rnB 8 = true := by kernel_rfl
theorem rn9 : rnB 9 = true := by kernel_rfl
theorem dIw : rnB 10 = true := by kernel_rfl
theorem gO {r : aG} (h : okB r = true) : ∃ k, r = some (.b true, k) := by
 unfold okB at h
 split at h
 ·rename_i x k
  subst h
  exact ⟨k, rfl⟩
 ·cases h
theorem dBo (j : Nat) (h1 : 1 ≤ j) (h2 : j ≤ 10) : ∃ k, bRg dB 900 (.i .i64 (Int.ofNat j)) (.p (aM 7) 0) (zL hS) = some (.b true, k) := by
 have h : j = 1 ∨ j = 2 ∨ j = 3 ∨ j = 4 ∨ j = 5 ∨ j = 6 ∨ j = 7 ∨ j = 8 ∨ j = 9 ∨ j = 10 := by omega
 rcases h with rfl | rfl | rfl | rfl | rfl | rfl | rfl | rfl | rfl | rfl
 ·exact gO rn1
 ·exact gO rn2
 ·exact gO rn3
 ·exact gO rn4
 ·exact gO rn5
 ·exact gO rn6
 ·exact gO rn7
 ·exact gO rn8
 ·exact gO rn9
 ·exact gO dIw
theorem cJi {a : Int} (hr : -9223372036854775807 ≤ a ∧ a ≤ 9223372036854775807) (h : Hp) : jW .neg (.i .i64 a) h = some (.i .i64 (-a), h) := by
 have : IntKind.i64.wrap (0 - a) = 0 - a := hC _ (by omega)
 simp only [jW, this]
 rw [Int.zero_sub]
theorem bNs {a : Int} (ha : uC a) : ∃ k, aE CF dB 900 6 [.i .i64 a] hS = some (.b true, k) := by
 have hw : dB 8 [] hS = some (.p (aM 7) 0, zL hS) := nE hS (by kernel_rfl)
 have hr1 := ha.1
 have hr2 := ha.2
 have fin : ∀ n : Int, 0 ≤ n → n ≤ 9223372036854775807 → ∃ k, bBs dB 900 (.i .i64 n) (.p (aM 7) 0) (zL hS) = some (.b true, k) := fun n hn hn2 => by
  obtain ⟨j, rfl⟩ : ∃ j : Nat, n = Int.ofNat j := ⟨n.toNat, by simp; omega⟩
  obtain ⟨k, hk⟩ := dBo (1 + j % 10) (by omega) (by omega)
  refine ⟨k, ?_⟩
  unfold bBs
  have e1 : (Int.ofNat j).tmod 10 = Int.ofNat (j % 10) := rfl
  simp only [yN, e1, aL, cY 1 (j % 10) (zL hS) (by omega)]
  exact hk
 rw [cWr]
 unfold s6 cCp bZs cEp
 simp only [g0, hw, aL, pE0, aV, bJ]
 by_cases c : a < 0
 ·have d : decide (a < Int.ofNat 0) = true := decide_eq_true c
  simp only [d, aZ, jO a (Int.ofNat 1) (zL hS) (by simp; omega), cJi (a := a + Int.ofNat 1) (by simp; omega), aL]
  exact fin _ (by simp; omega) (by simp; omega)
 ·have d : decide (a < Int.ofNat 0) = false := decide_eq_false c
  simp only [d, aV]
  exact fin a (by omega) hr2
end Go.Dd

namespace Go.Dd
open Go.Proofs Go.RowKit
theorem aBl {w : World} {base n : Nat} {a : Addr} {cs : List Value} (h : w.cells? base a n = some cs) : cs.length = n ∧ ∀ j, j < n → w.cell? (a.add j) = cs[j]? := by
 unfold World.cells? at h
 split at h
 ·exact ⟨by simpa using mapM_some_length h, fun j hj => mapM_some_get h j j (by simp [hj])⟩
 ·cases h
theorem oL {n : Int} (w : (Lit.int .i64 n).wf = true) : uC n := Go.bounds_i64 w
theorem fO (bs : ByteArray) : ∀ c ∈ bs.data.toList.map (·.toNat), c < 256 := fun c hc => by
 obtain ⟨b, _, rfl⟩ := List.mem_map.1 hc
 exact b.toNat_lt
theorem Ro.addUp {w : World} {ρ : Ren} {h : Hp} (R : Ro w ρ h) (l : List DV) (hn : h.next.toNat < 1024) : Up h ⟨h.next.succ, Tr.set (.row .ro l) h.next h.bl⟩ ∧ Qr ⟨h.next.succ, Tr.set (.row .ro l) h.next h.bl⟩ h.next l := by
 have ns := dKd h.next
 refine ⟨⟨by show _ ≤ h.next.succ.toNat; omega, fun b _ hb => dKb _ _ _ _ (fun e => by subst e; omega)⟩, ⟨.ro, dKc _ _ _⟩, .inl hn, by show _ < h.next.succ.toNat; omega⟩
theorem aEu : Tryz.prog.cellsOf 24 = 4 := by kernel_rfl
theorem cMt : Tryz.prog.cellsOf 3 = 1 := by kernel_rfl
theorem cOh : Tryz.prog.cellsOf 9 = 1 := by kernel_rfl
theorem cNa : Tryz.prog.cellsOf 22 = 1 := by kernel_rfl
section
variable {H : Type} {enc : TypeId × Value → H} {w : World}
theorem aYp {n : Nat} {cs : List Value} {x : DataW H × List MemPlace} (h : DataW.trod enc Tryz.prog w 0 (fun _ => true) true n 24 cs = some x) :
  ∃ (kd N : Int) (s : ByteArray) (v : Value) (m : Nat) (y : DataW H × List MemPlace), cs = [.int .i64 kd, .int .i64 N, .string s, v] ∧ (Lit.int .i64 kd).wf = true ∧ (Lit.int .i64 N).wf = true ∧ DataW.trod enc Tryz.prog w 0 (fun _ => true) true m 22 [v] = some y := by
 obtain ⟨xs, m, e0, _, hl, hxl, hf⟩ := DataW.trod_struct Tryz.underlying24 h
 rw [aEu] at hl
 obtain ⟨v0, v1, v2, v3, rfl⟩ : ∃ v0 v1 v2 v3, cs = [v0, v1, v2, v3] := by
  match cs, hl with
  | [v0, v1, v2, v3], _ => exact ⟨_, _, _, _, rfl⟩
 have hxl : xs.length = 4 := hxl
 have some : ∀ i, i < 4 → ∃ y, xs[i]? = some y := fun i hi => ⟨xs[i]'(by rw [hxl]; exact hi), by simp⟩
 obtain ⟨y0, g0⟩ := some 0 (by omega)
 obtain ⟨y1, g1⟩ := some 1 (by omega)
 obtain ⟨y2, g2⟩ := some 2 (by omega)
 obtain ⟨y3, g3⟩ := some 3 (by omega)
 have f0 := hf 0 _ rfl
 have f1 := hf 1 _ rfl
 have f2 := hf 2 _ rfl
 have f3 := hf 3 _ rfl
 simp only [cMt, cOh, cNa, List.drop_zero, List.drop_succ_cons, List.take_succ_cons, List.take_zero, g0, g1, g2, g3] at f0 f1 f2 f3
 obtain ⟨k, e0, _, w0⟩ := DataW.trod_int Tryz.underlying3 f0
 obtain ⟨nn, e1, _, w1⟩ := DataW.trod_int Tryz.underlying3 f1
 obtain ⟨t, e2, _⟩ := DataW.trod_string Tryz.underlying9 f2
 cases e0; cases e1; cases e2
 exact ⟨k, nn, t, v3, _, _, rfl, w0, w1, f3⟩
theorem aBc {d : Nat} {L : Loc} {len : Nat}
  (ih : ∀ (c : Nat), c < len → ∀ {ρ : Ren} {h : Hp}, Ro w ρ h → ∀ left : Int, 1 ≤ left → h.next.toNat + left.toNat ≤ 1000 →
   ∃ ρ' h' ds t left', Ro w ρ' h' ∧ Up h h' ∧ Ext ρ ρ' ∧ (ds.length = 4 ∧ ∀ v ∈ ds, v.one = true) ∧ (∀ p v, ds[p]? = some v → ∃ v', w.cell? (fH L (c * 4 + p)) = some v' ∧ VR ρ' v v') ∧ FitR h' d ds left t left' ∧ t.ok ∧ 0 ≤ left' ∧ left' + t.sz = left ∧ h'.next.toNat ≤ h.next.toNat + (left - left').toNat) :
  ∀ (m i : Nat) (left : Int), 0 ≤ left → ∀ {ρ : Ren} {h : Hp}, Ro w ρ h → h.next.toNat + left.toNat ≤ 1000 →
   ∃ ρ' h' rows ks left', Ro w ρ' h' ∧ Up h h' ∧ Ext ρ ρ' ∧ (∀ p v, rows[p]? = some v → ∃ v', w.cell? (fH L (i * 4 + p)) = some v' ∧ VR ρ' v v') ∧ (∀ pre : List DV, pre.length = i * 4 → KidsR (FitR h' d) len (pre ++ rows) m i left ks left') ∧ okL ks ∧ ks.length ≤ m ∧ 0 ≤ left' ∧ left' + oW ks = left ∧ h'.next.toNat ≤ h.next.toNat + (left - left').toNat
 | 0, i, left, hl, ρ, h, R, hb => ⟨ρ, h, [], [], left, R, Up.refl h, fun _ _ e => e, fun p v e => by simp at e, fun pre _ => by unfold KidsR; exact ⟨rfl, rfl⟩, trivial, by simp, hl, by simp [oW], by omega⟩
 | m + 1, i, left, hl, ρ, h, R, hb => by
  by_cases c : i < len ∧ 0 < left
  ·obtain ⟨ρ1, h1, ds, t, lm, R1, U1, E1, S1, C1, F1, O1, P1, Q1, N1⟩ := ih i c.1 R left (by omega) hb
   obtain ⟨ρ2, h2, rows, ks, left', R2, U2, E2, C2, F2, O2, W2, P2, Q2, N2⟩ := aBc ih m (i + 1) lm P1 R1 (by omega)
   refine ⟨ρ2, h2, ds ++ rows, t :: ks, left', R2, U1.trans U2, E1.trans E2, fun p v e => ?_, fun pre hp => ?_, ⟨O1, O2⟩, by simp; omega, P2, by simp only [oW]; omega, by omega⟩
   ·by_cases hp : p < ds.length
    ·rw [List.getElem?_append_left hp] at e
     obtain ⟨v', q1, q2⟩ := C1 p v e
     exact ⟨v', q1, q2.mono E2⟩
    ·rw [List.getElem?_append_right (by omega)] at e
     obtain ⟨v', q1, q2⟩ := C2 _ v e
     rw [S1.1] at q1 hp
     rw [show (i + 1) * 4 + (p - 4) = i * 4 + p by omega] at q1
     exact ⟨v', q1, q2⟩
   ·unfold KidsR
    refine .inr ⟨c.1, c.2, ds, t, lm, ks, ?_, F1.up U2, ?_, rfl⟩
    ·rw [← hp, List.drop_left, kC S1.1 S1.2]
    ·have := F2 (pre ++ ds) (by rw [List.length_append, hp, S1.1]; omega)
     rwa [List.append_assoc] at this
  ·exact ⟨ρ, h, [], [], left, R, Up.refl h, fun _ _ e => e, fun p v e => by simp at e, fun pre _ => by unfold KidsR; exact .inl ⟨c, rfl, rfl⟩, trivial, by simp, hl, by simp [oW], by omega⟩
theorem aJb : ∀ (d n : Nat) (cs : List Value) (x : DataW H × List MemPlace), DataW.trod enc Tryz.prog w 0 (fun _ => true) true n 24 cs = some x → ∀ {ρ : Ren} {h : Hp}, Ro w ρ h → ∀ left : Int, 1 ≤ left → h.next.toNat + left.toNat ≤ 1000 →
  ∃ ρ' h' ds t left', Ro w ρ' h' ∧ Up h h' ∧ Ext ρ ρ' ∧ (ds.length = 4 ∧ ∀ v ∈ ds, v.one = true) ∧ VRs ρ' ds cs ∧ FitR h' d ds left t left' ∧ t.ok ∧ 0 ≤ left' ∧ left' + t.sz = left ∧ h'.next.toNat ≤ h.next.toNat + (left - left').toNat := by
 intro d
 induction d with
 | zero =>
  intro n cs x hx ρ h R left hl hb
  obtain ⟨k, nn, s, v, m, y, rfl, wk, wn, hv⟩ := aYp hx
  have ik := oL wk
  have inn := oL wn
  obtain ⟨r1, r2⟩ := aAx 0 k
  obtain ⟨n1, n2⟩ := aFb (bV 0 k) nn
  obtain ⟨t1, t2, t3⟩ := yT (bV 0 k) (s.data.toList.map (·.toNat)) (fO s)
  have okt : (Th.mk (bV 0 k) (pZ (bV 0 k) nn) (kV (bV 0 k) (s.data.toList.map (·.toNat))) []).ok := ⟨r1, r2, n1, by omega, fun q => ⟨t2 q, t1⟩, n2, by simp, t3, trivial⟩
  rcases DataW.trod_slice Tryz.underlying22 hv with ⟨e5, _⟩ | ⟨a, len, cap, elems, rest, m', em, e5, _, _, q4, q5, q6, q7, _⟩
  ·cases e5
   refine ⟨ρ, h, [iD k, iD nn, .s (s.data.toList.map (·.toNat)), .l0], _, left - 1, R, Up.refl h, fun _ _ e => e, ⟨rfl, ?_⟩, .cons _ _ _ _ (.i _ _) (.cons _ _ _ _ (.i _ _) (.cons _ _ _ _ (.s _ s rfl) (.cons _ _ _ _ .l0 .nil))), ⟨k, nn, _, .l0, 0, [], rfl, fO s, ik, inn, .inl ⟨.inl rfl, rfl⟩, by omega, rfl, rfl⟩, okt, by omega, by simp only [Th.sz, oW]; omega, by omega⟩
   intro v hv
   simp only [List.mem_cons, List.not_mem_nil, or_false] at hv
   rcases hv with rfl | rfl | rfl | rfl <;> rfl
  ·cases e5
   let L : Loc := ⟨a.block, a.off, 0, a.spot⟩
   obtain ⟨R', E'⟩ := R.add L [] rfl (fun i v hv => by simp at hv)
   obtain ⟨U', Q'⟩ := R.addUp [] (by omega)
   have ns := dKd h.next
   refine ⟨_, _, [iD k, iD nn, .s (s.data.toList.map (·.toNat)), .l h.next 0 len cap], _, left - 1, R', U', E', ⟨rfl, ?_⟩, .cons _ _ _ _ (.i _ _) (.cons _ _ _ _ (.i _ _) (.cons _ _ _ _ (.s _ s rfl) (.cons _ _ _ _ (.l h.next 0 len cap L (bR _ _ _)) .nil))), ⟨k, nn, _, .l h.next 0 len cap, len, [], rfl, fO s, ik, inn, .inr ⟨h.next, cap, rfl, Q'⟩, ?_, rfl, rfl⟩, okt, by omega, by simp only [Th.sz, oW]; omega, by show h.next.succ.toNat ≤ _; omega⟩
   ·intro v hv
    simp only [List.mem_cons, List.not_mem_nil, or_false] at hv
    rcases hv with rfl | rfl | rfl | rfl <;> rfl
   ·have : maxLen = 9223372036854775807 := by rfl
    omega
 | succ d ih =>
  intro n cs x hx ρ h R left hl hb
  obtain ⟨k, nn, s, v, m, y, rfl, wk, wn, hv⟩ := aYp hx
  have ik := oL wk
  have inn := oL wn
  by_cases h3 : bV (d + 1) k = 3
  ·obtain ⟨n1, n2⟩ := aFb 3 nn
   obtain ⟨t1, t2, t3⟩ := yT 3 (s.data.toList.map (·.toNat)) (fO s)
   rcases DataW.trod_slice Tryz.underlying22 hv with ⟨e5, _⟩ | ⟨a, len, cap, elems, rest, m', em, e5, _, _, q4, q5, q6, q7, _⟩
   ·cases e5
    refine ⟨ρ, h, [iD k, iD nn, .s (s.data.toList.map (·.toNat)), .l0], .mk 3 (pZ 3 nn) (kV 3 (s.data.toList.map (·.toNat))) [], left - 1, R, Up.refl h, fun _ _ e => e, ⟨rfl, ?_⟩, .cons _ _ _ _ (.i _ _) (.cons _ _ _ _ (.i _ _) (.cons _ _ _ _ (.s _ s rfl) (.cons _ _ _ _ .l0 .nil))), ?_, ⟨by omega, by omega, n1, by omega, fun q => ⟨t2 q, t1⟩, n2, by simp, t3, trivial⟩, by omega, by simp only [Th.sz, oW]; omega, by omega⟩
    ·intro v hv
     simp only [List.mem_cons, List.not_mem_nil, or_false] at hv
     rcases hv with rfl | rfl | rfl | rfl <;> rfl
    ·exact ⟨k, nn, _, .l0, 0, [], rfl, fO s, ik, inn, .inl ⟨.inl rfl, rfl⟩, by omega, .inr ⟨h3, [], rfl, by unfold KidsR; exact .inl ⟨by omega, rfl, rfl⟩⟩⟩
   ·cases e5
    rw [aEu] at q7
    let L : Loc := ⟨a.block, a.off, 0, a.spot⟩
    have ha : a = fH L 0 := rfl
    obtain ⟨ρ2, h2, rows, ks, left', R2, U2, E2, C2, F2, O2, W2, P2, Q2, N2⟩ := aBc (w := w) (d := d) (L := L) (len := len) (fun c hc ρ1 h1 R1 left1 hl1 hb1 => by
     have e := q7 c hc
     rw [show elems[c]? = some (elems[c]'(by omega)) by simp] at e
     simp only [Option.bind_eq_some_iff] at e
     obtain ⟨cs, e1, e2⟩ := e
     obtain ⟨c1, c2⟩ := aBl e1
     obtain ⟨ρ4, h4, ds, t, l4, R4, U4, E4, S4, V4, F4, O4, P4, Q4, N4⟩ := ih m' cs _ e2 R1 left1 hl1 hb1
     refine ⟨ρ4, h4, ds, t, l4, R4, U4, E4, S4, fun p v hv => ?_, F4, O4, P4, Q4, N4⟩
     obtain ⟨v', q8, q9⟩ := VRs.get V4 p v hv
     refine ⟨v', ?_, q9⟩
     have hp : p < 4 := by
      have := (gLt hv)
      omega
     have := c2 p hp
     rw [ha, eT, eT] at this
     rw [show c * 4 + p = 0 + c * 4 + p by omega, this]
     exact q8) 30 0 (left - 1) (by omega) R (by omega)
    obtain ⟨R', E'⟩ := R2.add L rows rfl (fun i v hv => by
     obtain ⟨v', q8, q9⟩ := C2 i v hv
     exact ⟨v', by simpa using q8, q9⟩)
    obtain ⟨U', Q'⟩ := R2.addUp rows (by omega)
    have ns := dKd h2.next
    have K := F2 [] (by simp)
    rw [List.nil_append] at K
    refine ⟨_, _, [iD k, iD nn, .s (s.data.toList.map (·.toNat)), .l h2.next 0 len cap], .mk 3 (pZ 3 nn) (kV 3 (s.data.toList.map (·.toNat))) ks, left', R', U2.trans U', E2.trans E', ⟨rfl, ?_⟩, .cons _ _ _ _ (.i _ _) (.cons _ _ _ _ (.i _ _) (.cons _ _ _ _ (.s _ s rfl) (.cons _ _ _ _ (.l h2.next 0 len cap L (bR _ _ _)) .nil))), ⟨k, nn, _, .l h2.next 0 len cap, len, rows, rfl, fO s, ik, inn, .inr ⟨h2.next, cap, rfl, Q'⟩, ?_, .inr ⟨h3, ks, rfl, K.mono (fun _ _ _ _ f => f.up U') _ _ _ _ _⟩⟩, ⟨by omega, by omega, n1, by omega, fun q => ⟨t2 q, t1⟩, n2, W2, t3, O2⟩, P2, by simp only [Th.sz]; omega, by show h2.next.succ.toNat ≤ _; omega⟩
    ·intro v hv
     simp only [List.mem_cons, List.not_mem_nil, or_false] at hv
     rcases hv with rfl | rfl | rfl | rfl <;> rfl
    ·have : maxLen = 9223372036854775807 := by rfl
     omega
  ·obtain ⟨r1, r2⟩ := aAx (d + 1) k
   obtain ⟨n1, n2⟩ := aFb (bV (d + 1) k) nn
   obtain ⟨t1, t2, t3⟩ := yT (bV (d + 1) k) (s.data.toList.map (·.toNat)) (fO s)
   have okt : (Th.mk (bV (d + 1) k) (pZ (bV (d + 1) k) nn) (kV (bV (d + 1) k) (s.data.toList.map (·.toNat))) []).ok := ⟨r1, r2, n1, by omega, fun q => ⟨t2 q, t1⟩, n2, by simp, t3, trivial⟩
   rcases DataW.trod_slice Tryz.underlying22 hv with ⟨e5, _⟩ | ⟨a, len, cap, elems, rest, m', em, e5, _, _, q4, q5, q6, q7, _⟩
   ·cases e5
    refine ⟨ρ, h, [iD k, iD nn, .s (s.data.toList.map (·.toNat)), .l0], _, left - 1, R, Up.refl h, fun _ _ e => e, ⟨rfl, ?_⟩, .cons _ _ _ _ (.i _ _) (.cons _ _ _ _ (.i _ _) (.cons _ _ _ _ (.s _ s rfl) (.cons _ _ _ _ .l0 .nil))), ⟨k, nn, _, .l0, 0, [], rfl, fO s, ik, inn, .inl ⟨.inl rfl, rfl⟩, by omega, .inl ⟨h3, rfl, rfl⟩⟩, okt, by omega, by simp only [Th.sz, oW]; omega, by omega⟩
    intro v hv
    simp only [List.mem_cons, List.not_mem_nil, or_false] at hv
    rcases hv with rfl | rfl | rfl | rfl <;> rfl
   ·cases e5
    let L : Loc := ⟨a.block, a.off, 0, a.spot⟩
    obtain ⟨R', E'⟩ := R.add L [] rfl (fun i v hv => by simp at hv)
    obtain ⟨U', Q'⟩ := R.addUp [] (by omega)
    have ns := dKd h.next
    refine ⟨_, _, [iD k, iD nn, .s (s.data.toList.map (·.toNat)), .l h.next 0 len cap], _, left - 1, R', U', E', ⟨rfl, ?_⟩, .cons _ _ _ _ (.i _ _) (.cons _ _ _ _ (.i _ _) (.cons _ _ _ _ (.s _ s rfl) (.cons _ _ _ _ (.l h.next 0 len cap L (bR _ _ _)) .nil))), ⟨k, nn, _, .l h.next 0 len cap, len, [], rfl, fO s, ik, inn, .inr ⟨h.next, cap, rfl, Q'⟩, ?_, .inl ⟨h3, rfl, rfl⟩⟩, okt, by omega, by simp only [Th.sz, oW]; omega, by show h.next.succ.toNat ≤ _; omega⟩
    ·intro v hv
     simp only [List.mem_cons, List.not_mem_nil, or_false] at hv
     rcases hv with rfl | rfl | rfl | rfl <;> rfl
    ·have : maxLen = 9223372036854775807 := by rfl
     omega
end
end Go.Dd

namespace Go.Dd
open Go.Proofs
def tS (s : List Nat) : Th := .mk 1 0 s []
def cS (s : List Nat) : List DV := [iD 1, iD 0, .s s, .l0]
def rpS (s : List Nat) : Nat → List DV
 | 0 => []
 | n + 1 => rpS s n ++ cS s
theorem tvS (q : Pos → Prop) (h : Hp) (s : List Nat) : TV q h (tS s) (cS s) := by
 unfold tS TV
 exact ⟨.l0, rfl, rfl, .inl ⟨rfl, rfl⟩⟩
theorem bQs {α : Type} (n : Nat) (a : α) : List.replicate (n + 1) a = List.replicate n a ++ [a] := List.replicate_succ'
theorem cXi (q : Pos → Prop) (h : Hp) (s : List Nat) : ∀ n, TVL q h (List.replicate n (tS s)) (rpS s n)
 | 0 => by rw [List.replicate_zero]; unfold TVL rpS; rfl
 | n + 1 => by
  rw [bQs]
  exact (cXi q h s n).app (TVL.one (tvS q h s))
theorem dDz {s : List Nat} (hs : s.length ≤ 200) (hb : ∀ c ∈ s, c < 256) : ∀ n, okL (List.replicate n (tS s)) ∧ oW (List.replicate n (tS s)) = n
 | 0 => ⟨trivial, rfl⟩
 | n + 1 => by
  obtain ⟨a, b⟩ := dDz hs hb n
  rw [List.replicate_succ]
  refine ⟨⟨?_, a⟩, ?_⟩
  ·unfold tS Th.ok
   exact ⟨by omega, by omega, fun q => by omega, hs, fun q => by omega, fun q => by omega, by simp, hb, trivial⟩
  ·simp only [oW, b]
   unfold tS
   simp only [Th.sz, oW]
   omega
theorem aBt {n0 : Int} {N : Nat} (hN : n0.tmod 30 = Int.ofNat N) (hN30 : N ≤ 30) {s : List Nat} {h0 : Hp} {b : Pos} (hb : b = h0.next) (h31 : 1031 ≤ h0.next.toNat) {w : DV} {n : Nat} :
  ∀ (r i m : Nat) (sl : DV) (h : Hp), i + r = N → r < m → T4 h b (iD 3) (iD 0) (.s []) sl → GrZ 4 sl i (rpS s i) (h0.next.toNat + 1) h → Lo h0.next.toNat h0 h → h0.next.toNat + 1 ≤ h.next.toNat →
   ∃ sl' h', xQ dB n m (.s s) (.i .i64 n0) w (.p b 0) (.i .i64 (Int.ofNat i)) h = jZ dB n w (.p b 0) h' ∧ T4 h' b (iD 3) (iD 0) (.s []) sl' ∧ GrZ 4 sl' N (rpS s N) (h0.next.toNat + 1) h' ∧ Lo h0.next.toNat h0 h' ∧ h0.next.toNat + 1 ≤ h'.next.toNat
 | 0, i, m, sl, h, he, hm, T, S, L, hn => by
  obtain ⟨m, rfl⟩ : ∃ m', m = m' + 1 := ⟨m - 1, by omega⟩
  have hi : i = N := by omega
  subst hi
  refine ⟨sl, h, ?_, T, S, L, hn⟩
  show vU dB n (xQ dB n m) _ _ _ _ _ h = _
  unfold vU
  have e30 : aD .rem (.i .i64 n0) (.i .i64 (Int.ofNat 30)) h = some (.i .i64 (Int.ofNat i), h) := by
   simp only [aD, if_true, fD]
   rw [← hN]
   rfl
  have d : decide (Int.ofNat i < Int.ofNat i) = false := decide_eq_false (by simp)
  simp only [e30, aL, bJ, d, aV]
 | r + 1, i, m, sl, h, he, hm, T, S, L, hn => by
  obtain ⟨m, rfl⟩ : ∃ m', m = m' + 1 := ⟨m - 1, by omega⟩
  have so : sl.one = true := by obtain ⟨_, _, q | ⟨b, q, _⟩⟩ := S <;> simp [q, DV.one]
  obtain ⟨y, g, e2, x', g', e3, S3, L3, k3, f3⟩ := S.app (zeros := [(.i .i64 (Int.ofNat 0)), (.i .i64 (Int.ofNat 0)), (.s []), .l0]) (c := cS s) hn (by omega) rfl rfl (by
   intro v hv
   simp only [cS, List.mem_cons, List.not_mem_nil, or_false] at hv
   rcases hv with rfl | rfl | rfl | rfl <;> rfl) (bytes := 56) (by unfold jU; omega)
  have hn3 := L3.next
  have T3 : T4 g' b (iD 3) (iD 0) (.s []) sl := by unfold T4; rw [L3.get b (by rw [hb]; omega)]; exact T
  have ox : x'.one = true := by obtain ⟨_, _, q | ⟨b, q, _⟩⟩ := S3 <;> simp [q, DV.one]
  have oc : cT x' = some [x'] := by obtain ⟨_, _, q | ⟨b, q, _⟩⟩ := S3 <;> simp [q, cT]
  have e4 := T3.s3 (v := x') so ox oc
  obtain ⟨h4, hh4⟩ : ∃ h4 : Hp, hst g' b (.row .ex [iD 3, iD 0, .s [], x']) = h4 := ⟨_, rfl⟩
  rw [hh4] at e4
  have T4' : T4 h4 b (iD 3) (iD 0) (.s []) x' := by rw [← hh4]; exact fL _
  have n4 : h4.next = g'.next := by rw [← hh4]; rfl
  have S4 : GrZ 4 x' (i + 1) (rpS s (i + 1)) (h0.next.toNat + 1) h4 := GrZ.keep S3 (by rw [n4]; exact Nat.le_refl _) (fun p hp _ => by rw [← hh4]; exact kB (fun e => by rw [e, hb] at hp; omega))
  have L4 : Lo h0.next.toNat h0 h4 := ⟨by rw [n4]; have := L.next; omega, fun p hp => by
   rw [← hh4, kB (fun e => by rw [e, hb] at hp; omega), L3.get p (by omega)]
   exact L.get p hp⟩
  obtain ⟨sl', h', e5, q1, q2, q3, q4⟩ := aBt hN hN30 (s := s) hb h31 (w := w) (n := n) r (i + 1) m x' h4 (by omega) (by omega) T4' S4 L4 (by rw [n4]; omega)
  refine ⟨sl', h', ?_, q1, q2, q3, q4⟩
  rw [← e5]
  show vU dB n (xQ dB n m) _ _ _ _ _ h = _
  unfold vU
  have e30 : aD .rem (.i .i64 n0) (.i .i64 (Int.ofNat 30)) h = some (.i .i64 (Int.ofNat N), h) := by
   simp only [aD, if_true, fD]
   rw [← hN]
   rfl
  have d : decide (Int.ofNat i < Int.ofNat N) = true := decide_eq_true (by simp; omega)
  have l3 := T.l3 so
  have eB : cI [(.i .i64 (Int.ofNat 0)), (.i .i64 (Int.ofNat 0)), (.s []), .l0] [(0, 1, (.i .i64 (Int.ofNat 1))), (2, 1, .s s)] h = some (.a (cS s), h) := rfl
  simp only [e30, aL, bJ, d, aZ, gL, l3, eB, e2, e3, e4, cY i 1 h4 (by omega)]
theorem bJk {s : List Nat} (hs : s.length ≤ 200) (hb8 : ∀ c ∈ s, c < 256) {N : Nat} (hN : N ≤ 30) {h : Hp} {b : Pos} {sl : DV} (hb : 1029 ≤ b.toNat ∧ b.toNat < h.next.toNat) (T : T4 h b (iD 3) (iD 0) (.s []) sl) {lo : Nat} (hlo : 1029 ≤ lo) (S : GrZ 4 sl N (rpS s N) lo h) (V : Wv 40000 h MN RN esN) :
  ∃ k, jZ dB 900 (.p (aM 7) 0) (.p b 0) h = some (.b true, k) := by
 have so : sl.one = true := by obtain ⟨_, _, q | ⟨b, q, _⟩⟩ := S <;> simp [q, DV.one]
 have TT : TV (fun _ => True) h (.mk 3 0 [] (List.replicate N (tS s))) [iD 3, iD 0, .s [], sl] := by
  unfold TV
  refine ⟨sl, rfl, so, ?_⟩
  obtain ⟨s1, s2, q | ⟨b8, q, g1, g2, g3⟩⟩ := S
  ·exact .inl ⟨by rw [q.2, List.replicate_zero], q.1⟩
  ·refine .inr ⟨b8, rpS s N, by rw [List.length_replicate]; exact q, ⟨⟨_, g1⟩, .inr (by omega), g3⟩, trivial, cXi _ _ s N⟩
 obtain ⟨okl, szl⟩ := dDz hs hb8 N
 have ok : (Th.mk 3 0 [] (List.replicate N (tS s))).ok := by
  unfold Th.ok
  exact ⟨by omega, by omega, fun q => by omega, by simp, fun q => by omega, fun q => by omega, by rw [List.length_replicate]; exact hN, by simp, okl⟩
 have esz : (Th.mk 3 0 [] (List.replicate N (tS s))).sz = 1 + N := by unfold Th.sz; rw [szl]
 have eL := T.la rfl rfl rfl so
 generalize hT : Th.mk 3 0 [] (List.replicate N (tS s)) = t at TT ok esz
 obtain ⟨v, h1, M1, R1, es1, e1, V1, U1, S1, L1⟩ := qZ t.sz t (Nat.le_refl _) _ _ h MN RN esN 30000 ok TT (V.less (by rw [esz]; omega)) (900 - t.sz) (by rw [esz]; omega)
 rw [show 900 - t.sz + t.sz = 900 by rw [esz]; omega] at e1
 obtain ⟨h2, e2, V2, U2⟩ := mC V1 (NmsN.stay S1 V.I V.K.G) ok L1 (n := 887) (by omega)
 have T2 : T4 h2 b (iD 3) (iD 0) (.s []) sl := by unfold T4; rw [(U1.trans U2).get b (.inr hb.1) hb.2]; exact T
 have eL2 := T2.la rfl rfl rfl so
 have nx2 := V2.K.W.nx
 obtain ⟨h3, e3, U3⟩ := aJm ok (TV.up (U1.trans U2) _ _ TT) nx2 (n := 895) (by omega)
 refine ⟨h3, ?_⟩
 have e11 : ∀ h, dB 11 [.p (aM 7) 0, .a [iD 3, iD 0, .s [], sl]] h = cK 900 11 [.p (aM 7) 0, .a [iD 3, iD 0, .s [], sl]] h := fun h => aEr _ _
 have e10 : ∀ h, dB 10 [.p (aM 7) 0, iD v] h = cK (887 + 13) 10 [.p (aM 7) 0, iD v] h := fun h => rC _ _
 have e12 : ∀ h, dB 12 [.a [iD 3, iD 0, .s [], sl]] h = cK (895 + 5) 12 [.a [iD 3, iD 0, .s [], sl]] h := fun h => aRp _ _
 have lv := rG
 have hq : (rfT bS 3 t).take 1000 = (lA bS 3 t).take 1000 := (pV bS 3 t).take.symm
 rw [hq] at e3
 have hlen : ((lA bS 3 t).take 1000).length ≤ 1000 := by rw [List.length_take]; omega
 generalize (lA bS 3 t).take 1000 = A at e2 e3 hlen
 have d2 : decide ((A.length : Int) ≤ Int.ofNat 1000) = true := decide_eq_true (by simp only [Int.ofNat_eq_natCast]; omega)
 have eqr : oU A A = true := rE _
 unfold jZ
 simp only [iD] at eL eL2 e1 e2 e3 e10 e11 e12
 simp only [eL, aL, e11, e1, e10, e2, eL2, e12, e3, oB, eqr, fT, rT, wA, d2, bL, lv]
theorem bUd {s : List Nat} (hs : ∀ c ∈ s, c < 256) {a : Int} (ha : uC a) : ∃ k, aE CF dB 900 5 [.s s, .i .i64 a] hS = some (.b true, k) := by
 have hw : dB 8 [] hS = some (.p (aM 7) 0, zL hS) := nE hS (by kernel_rfl)
 have hr1 := ha.1
 have hr2 := ha.2
 have V := WvN hS
 have nx := V.K.W.nx
 generalize zL hS = h0 at hw V nx
 have fin : ∀ (t : List Nat) (n : Int), t.length ≤ 200 → (∀ c ∈ t, c < 256) → 0 ≤ n → n ≤ 9223372036854775807 → ∃ k, aQl dB 900 (.s t) (.i .i64 n) (.p (aM 7) 0) h0 = some (.b true, k) := fun t n ht hb hn hn2 => by
  obtain ⟨j, rfl⟩ : ∃ j : Nat, n = Int.ofNat j := ⟨n.toNat, by simp; omega⟩
  have ns := dKd h0.next
  obtain ⟨g1, hg1⟩ : ∃ g1 : Hp, (⟨h0.next.succ, Tr.set (.row .ex [.i .i64 (Int.ofNat 0), .i .i64 (Int.ofNat 0), .s [], .l0]) h0.next h0.bl⟩ : Hp) = g1 := ⟨_, rfl⟩
  have eN : cF [(.i .i64 (Int.ofNat 0)), (.i .i64 (Int.ofNat 0)), (.s []), .l0] h0 = some (.p h0.next 0, g1) := by rw [← hg1]; rfl
  have T1 : T4 g1 h0.next (.i .i64 (Int.ofNat 0)) (.i .i64 (Int.ofNat 0)) (.s []) .l0 := by rw [← hg1]; exact dKc _ _ _
  have eS := T1.sa (d0 := iD 3) (d1 := iD 0) (d2 := .s []) (d3 := .l0) rfl rfl rfl rfl rfl rfl rfl rfl
  obtain ⟨g2', hg2⟩ : ∃ g2' : Hp, hst g1 h0.next (.row .ex [iD 3, iD 0, .s [], .l0]) = g2' := ⟨_, rfl⟩
  rw [hg2] at eS
  have T2 : T4 g2' h0.next (iD 3) (iD 0) (.s []) .l0 := by rw [← hg2]; exact fL _
  have n2 : g2'.next = h0.next.succ := by rw [← hg2, ← hg1]; rfl
  have L2 : Lo h0.next.toNat h0 g2' := ⟨by rw [n2]; omega, fun p hp => by
   rw [← hg2, kB (fun e => by subst e; omega), ← hg1]
   exact dKb _ _ _ _ (fun e => by subst e; omega)⟩
  obtain ⟨sl, h', e3, T3, S3, L3, n3⟩ := aBt (n0 := Int.ofNat j) (N := j % 30) rfl (by omega) (s := t) (h0 := h0) rfl nx (w := .p (aM 7) 0) (n := 900) (j % 30) 0 900 .l0 g2' (by omega) (by omega) T2 (GrZ.nil 4 _ _) L2 (by rw [n2]; omega)
  have V3 : Wv 40000 h' MN RN esN := V.lower L3.next fun p hp => L3.get p (by omega)
  obtain ⟨k, hk⟩ := bJk ht hb (N := j % 30) (by omega) ⟨by omega, by omega⟩ T3 (by omega) S3 V3
  refine ⟨k, ?_⟩
  unfold aQl bCi cFb cTd
  have eB : cI [(.i .i64 (Int.ofNat 0)), (.i .i64 (Int.ofNat 0)), (.s []), .l0] [(0, 1, (.i .i64 (Int.ofNat 3)))] h0 = some (.a [iD 3, iD 0, .s [], .l0], h0) := rfl
  simp only [eB, aL, eN, eS]
  rw [e3]
  exact hk
 have neg : ∀ t : List Nat, t.length ≤ 200 → (∀ c ∈ t, c < 256) → ∃ k, bAk dB 900 (.s t) (.i .i64 a) (.p (aM 7) 0) h0 = some (.b true, k) := fun t ht hb => by
  unfold bAk
  by_cases c : a < 0
  ·have d : decide (a < Int.ofNat 0) = true := decide_eq_true c
   simp only [bJ, d, aL, aZ, jO a (Int.ofNat 1) h0 (by simp; omega), cJi (a := a + Int.ofNat 1) (by simp; omega)]
   exact fin t _ ht hb (by simp; omega) (by simp; omega)
  ·have d : decide (a < Int.ofNat 0) = false := decide_eq_false c
   simp only [bJ, d, aL, aV]
   exact fin t a ht hb (by omega) hr2
 rw [cYr]
 unfold s5 cAx bZi bYc
 simp only [g0, g1, hw, aL, pE0, aV, rT, cM]
 by_cases c : (s.length : Int) > Int.ofNat 200
 ·simp only [decide_eq_true c, aZ, aVm s 200 (by simp at c; omega) h0, aL]
  exact neg _ (by rw [List.length_take]; omega) fun x hx => hs x (List.mem_of_mem_take hx)
 ·simp only [decide_eq_false c, aV]
  exact neg s (by simp at c; omega) hs
end Go.Dd

