/- A part of the proof: P45 P46 P47 P20 P48 P49 P51 P52: each text has a comment of its own. -/
import Derived.Test.YtliejomdaookoaaGreatDoorSr3
set_option linter.unusedVariables false
set_option linter.unusedSimpArgs false
set_option linter.constructorNameAsVariable false
set_option maxRecDepth 100000
namespace Go.Dd
theorem aWl {f : Nat} (hP : SO Any (PP f) CU) (hE : SO Any (dO f) CE) : SO Any (dO (f + 1)) CE := fun st y st' hp he h0 => by
 have he : mB (PP f) (dO f) f st = some (y, st') := he
 unfold mB at he
 obtain ⟨c, e1, he⟩ := bC he
 cases c with
 | false =>
  rw [if_neg (by decide), Option.bind_some, if_neg (by decide)] at he
  exact vF hP st y st' trivial he h0
 | true =>
  rw [if_pos rfl] at he
  obtain ⟨b, e2, h9⟩ := bC he
  cases b with
  | false =>
   rw [if_neg (by decide)] at h9
   exact vF hP st y st' trivial h9 h0
  | true =>
   rw [if_pos rfl] at h9
   obtain ⟨t2, l1, e2⟩ := bC e2
   have l2 : t2.kind = 9 := by simpa using e2
   have l3 := (kI e1).2
   have := cBx (P := fun s => Any s ∧ Hk 1 [] s ∧ bD s 1 = some t2) (fun _ s => Any s ∧ bD s 0 = some t2) (fun (r : Tok) s => (aV s).bind fun q => (dO f q.2).bind fun u => some (Node.mk 6 r.text 0 [] [] [u.1], u.2)) ((dD (P := Any) (k := 1) (x := [])).pre fun s h => ⟨trivial, h.2.1⟩) (fun s x s1 h1 h2 => by
    obtain ⟨a, b, c⟩ := h1
    obtain ⟨u, u1, u2, _⟩ := b
    have := (uT h2).2
    rw [u1] at this
    cases this
    exact ⟨trivial, xI h2 (by omega) c⟩) (fun r => bZh (fun (_ : Tok) s => (dO f s).bind fun u => some (Node.mk 6 r.text 0 [] [] [u.1], u.2)) iO fun _ => bZh (fun (u : Node) s => some (Node.mk 6 r.text 0 [] [] [u], s)) hE fun u => SO.ret _)
   obtain ⟨q1, q2⟩ := this st y st' ⟨trivial, l3, l1⟩ h9 h0
   refine ⟨q1, fun d m S => ?_⟩
   have hm := S.2.2.2.2.2
   obtain ⟨n, m', r1, r2, t1, a, b, rfl, ⟨⟨hk1, hx⟩, hv, rfl⟩, t3, a2, b2, rfl, ⟨rfl, hv2, rfl⟩, u, a3, b3, rfl, ⟨x1, x2, x3, x4⟩, rfl, rfl⟩ := q2 d m S
   obtain ⟨k1, k2, k3, k4, k5⟩ := rK hv hk1 (by decide) (by decide)
   obtain ⟨_, j2, _⟩ := rK hv2 l2 (by decide) (by decide)
   have j3 : kE t3 = 4 := j2
   obtain ⟨g1, g2⟩ := x1.assign k1
   refine ⟨_, m', r1, r2, g1, ?_, ⟨by omega, by omega, by omega, by unfold bQ; simp, x3, trivial⟩, ⟨k4, fun x hx => (by cases hx), fun x hx => (by cases hx), x4, trivial⟩⟩
   rw [g2]
   simp only [List.length_append, List.length_cons]
   omega
theorem xM : ∀ f, SO Any (dO f) CE
 | 0 => fun st y st' _ h => by cases h
 | f + 1 => aWl (aEx (aMa f) (xM f) f) (xM f)
theorem aBc {f : Nat} {st : PSt} {ts : List (List Nat)} {ks : List Node} {s1 s2 s3 : PSt} {t : Tok} (e1 : fV f st = some (ts, s1)) (e2 : cW (dO f) f [] s1 = some (ks, s2)) (e3 : bL s2 0 [] = some (t, s3)) (h0 : s3.err = 0) :
 st.err = 0 ∧ ∀ m, Sst st 0 m → ∃ l : List (Node × List Nat), ks = l.map Prod.fst ∧ TZ ts ∧ SOk 0 l ∧ (∀ z ∈ l, z.2 = fE z.1 ∧ Sk z.1 ∧ By z.1) ∧ l.length ≤ m ∧ (aS ts (l.map Prod.snd)).length ≤ m := by
 obtain ⟨a1, a2⟩ := gC (P := Any) 0 [] s2 t s3 trivial e3 h0
 obtain ⟨b1, b2⟩ := sL (xM f) f [] s1 ks s2 trivial e2 a1
 obtain ⟨c1, c2⟩ := aCg f st ts s1 trivial e1 b1
 refine ⟨c1, fun m S => ?_⟩
 obtain ⟨n1, m1, i1, i2, i3, i4⟩ := c2 0 m S
 obtain ⟨n2, m2, j1, j2, l, rfl, j3, j4, j5⟩ := b2 0 m1 i2
 have := kT [46, 32] (l.map Prod.snd)
 refine ⟨l, rfl, i3, j3 0 (Nat.le_refl _), j4, by omega, ?_⟩
 rw [aJs, List.length_append]
 simp only [List.length_map, List.length_cons, List.length_nil] at this
 omega
theorem nZ {u : List Nat} (hu : u.length ≤ 2000) (hb : AB u) (h : (iV u).2.2 = 0) : VT (iV u).1 ∧ mu (iV u).1 ≤ 3 * u.length := by
 have e := jV u
 obtain ⟨_, h2⟩ := bMk hu e h
 exact aDf _ _ _ hb h2
theorem uH {u : List Nat} (hu : u.length ≤ 500) (hb : AB u) (h : (dV u).2.2 = 0) :
 (dV (aS (dV u).1.temps (gG (dV u).1.kids))).2.2 = 0 ∧ (dV (aS (dV u).1.temps (gG (dV u).1.kids))).1 = (dV u).1 ∧ Sk (dV u).1 ∧ By (dV u).1 ∧ (aS (dV u).1.temps (gG (dV u).1.kids)).length ≤ 1500 := by
 have q := mI u
 unfold fF at q
 by_cases hl : (iV u).2.2 = 0
 ·obtain ⟨v1, v2⟩ := nZ (by omega) hb hl
  rw [if_pos hl] at q
  obtain ⟨⟨x, s0⟩, e0, q⟩ := bC q
  cases e0
  obtain ⟨⟨ts, s1⟩, e1, q⟩ := bC q
  obtain ⟨⟨ks, s2⟩, e2, q⟩ := bC q
  obtain ⟨⟨t, s3⟩, e3, q⟩ := bC q
  by_cases h3 : s3.err = 0
  ·have q : some ((Node.mk 11 [100, 111, 73, 116] 0 [] [] []).with ts ks, (0 : Int), (0 : Int)) = some (dV u) := by
    have q : (if s3.err = 0 then some ((Node.mk 11 [100, 111, 73, 116] 0 [] [] []).with ts ks, (0 : Int), (0 : Int)) else some (zN, s3.pos, s3.err)) = some (dV u) := q
    rw [if_pos h3] at q
    exact q
   obtain ⟨a1, a2⟩ := aBc e1 e2 e3 h3
   obtain ⟨l, rfl, b1, b2, b3, b5, b4⟩ := a2 _ ⟨rfl, rfl, by omega, v1, rfl, by show mu (iV u).1 ≤ 100000; omega⟩
   have b4 : (aS ts (l.map Prod.snd)).length ≤ mu (iV u).1 := b4
   have b5 : l.length ≤ mu (iV u).1 := b5
   have q := Option.some.inj q
   rw [← q]
   have ek : gG (l.map Prod.fst) = l.map Prod.snd := by
    unfold gG
    rw [List.map_map]
    exact List.map_congr_left fun z hz => (b3 z hz).1.symm
   show (dV (aS ts (gG (l.map Prod.fst)))).2.2 = 0 ∧ (dV (aS ts (gG (l.map Prod.fst)))).1 = Node.mk 11 [100, 111, 73, 116] 0 [] ts (l.map Prod.fst) ∧ Sk (Node.mk 11 [100, 111, 73, 116] 0 [] ts (l.map Prod.fst)) ∧ By (Node.mk 11 [100, 111, 73, 116] 0 [] ts (l.map Prod.fst)) ∧ (aS ts (gG (l.map Prod.fst))).length ≤ 1500
   rw [ek, bHv (fun t ht => (b1 t ht).1) b2 (by omega)]
   refine ⟨rfl, rfl, ⟨by simp, by omega, by omega, by rw [List.length_map]; unfold bQ; omega, oD fun x hx => ?_⟩, ⟨fun c hc => ?_, fun x hx => (by cases hx), fun x hx => (b1 x hx).2, nS fun x hx => ?_⟩, by omega⟩
   ·obtain ⟨z, hz, rfl⟩ := List.mem_map.1 hx
    exact (b3 z hz).2.1
   ·have : c = 100 ∨ c = 111 ∨ c = 73 ∨ c = 116 := by simpa using hc
    omega
   ·obtain ⟨z, hz, rfl⟩ := List.mem_map.1 hx
    exact (b3 z hz).2.2
  ·have q : (if s3.err = 0 then some ((Node.mk 11 [100, 111, 73, 116] 0 [] [] []).with ts ks, (0 : Int), (0 : Int)) else some (zN, s3.pos, s3.err)) = some (dV u) := q
   rw [if_neg h3] at q
   have q := Option.some.inj q
   rw [← q] at h
   exact absurd h h3
 ·rw [if_neg hl] at q
  have q := Option.some.inj q
  rw [← q] at h
  exact absurd h hl
end Go.Dd

namespace Go.Dd
theorem aJt {P : PSt → Prop} (k : Int) (len : Nat) : SO P (fun st => gN st k len) (fun d y n => len ≠ 4 ∧ ∃ t : Tok, y = t.text ∧ t.kind = k ∧ TKV t ∧ n = kE t) := fun st y st' hp he h0 => by
 unfold gN at he
 obtain ⟨⟨t, s1⟩, e2, e1⟩ := bC he
 by_cases h4 : len = 4
 ·rw [if_pos h4] at e1
  cases e1
  exfalso
  have h0 : (bV s1 t 18).err = 0 := h0
  unfold bV at h0
  split at h0
  ·cases h0
  ·exact absurd h0 (by assumption)
 ·rw [if_neg h4] at e1
  cases e1
  obtain ⟨b1, b2⟩ := gC (P := P) k [] st t s1 hp e2 h0
  refine ⟨b1, fun d m S => ?_⟩
  obtain ⟨n, m', c1, c2, ⟨c3, _⟩, c4, rfl⟩ := b2 d m S
  exact ⟨_, m', c1, c2, h4, t, rfl, c3, c4, rfl⟩
def ZZ (zs : List (List Nat × List Nat)) (n : Nat) : Prop := (∀ z ∈ zs, (TV 2 z.1 ∧ TV 1 z.2) ∧ AB z.1 ∧ AB z.2) ∧ (YQ zs).length + 2 * zs.length ≤ n
theorem aJv : ∀ (f : Nat) (t : List Nat) (l : List (List Nat)) (first : Bool), SO Any (kA f t l first) (fun d y n => ∃ zs, y = (t ++ (zs.map Prod.fst).flatten, l ++ zs.map Prod.snd) ∧ ZZ zs n ∧ (l.length ≤ 4 → l.length + zs.length ≤ 4) ∧ (first = true → zs ≠ []))
 | 0, t, l, first => fun st y st' _ h => by cases h
 | f + 1, t, l, first => by
  have key : SO Any (fun st => (bL st 2 []).bind fun r => if t.length + r.1.text.length ≤ bQ then (gN r.2 1 l.length).bind fun q => kA f (t ++ r.1.text) (l ++ [q.1]) false q.2 else none) (fun d y n => ∃ zs, y = (t ++ (zs.map Prod.fst).flatten, l ++ zs.map Prod.snd) ∧ ZZ zs n ∧ (l.length ≤ 4 → l.length + zs.length ≤ 4) ∧ zs ≠ []) := by
   refine (bZh (fun (r : Tok) st => if t.length + r.text.length ≤ bQ then (gN st 1 l.length).bind fun q => kA f (t ++ r.text) (l ++ [q.1]) false q.2 else none) (gC 2 []) (E := fun r d y n => ∃ q a b, a + b = n ∧ (l.length ≠ 4 ∧ ∃ u : Tok, q = u.text ∧ u.kind = 1 ∧ TKV u ∧ a = kE u) ∧ ∃ zs, y = (t ++ r.text ++ (zs.map Prod.fst).flatten, l ++ [q] ++ zs.map Prod.snd) ∧ ZZ zs b ∧ ((l ++ [q]).length ≤ 4 → (l ++ [q]).length + zs.length ≤ 4)) fun r => ?_).mono ?_
   ·by_cases hl : t.length + r.text.length ≤ bQ
    ·refine cAf (fun st => if_pos hl) ((bZh (fun (q : List Nat) st => kA f (t ++ r.text) (l ++ [q]) false st) (aJt 1 l.length) fun q => aJv f (t ++ r.text) (l ++ [q]) false).mono ?_)
     rintro d y n hd hn ⟨q, a, b, e, h1, zs, h2, h3, h4, _⟩
     exact ⟨q, a, b, e, h1, zs, h2, h3, h4⟩
    ·refine cAf (fun st => if_neg hl) fun st y st' hp he h0 => by cases he
   ·rintro d y n hd hn ⟨r, a, b, rfl, ⟨⟨hk, _⟩, hv, rfl⟩, q, a2, b2, rfl, ⟨h4, u, rfl, hk2, hv2, rfl⟩, zs, rfl, ⟨z1, z2⟩, h5⟩
    obtain ⟨k1, k2, k3, k4, k5⟩ := rK hv hk (by decide) (by decide)
    obtain ⟨j1, j2, j3, j4, j5⟩ := rK hv2 hk2 (by decide) (by decide)
    refine ⟨(r.text, u.text) :: zs, by simp, ⟨fun z hz => ?_, ?_⟩, fun hl => ?_, by simp⟩
    ·rcases List.mem_cons.1 hz with rfl | hz
     ·exact ⟨⟨k1, j1⟩, k4, j4⟩
     ·exact z1 z hz
    ·show (r.text ++ 32 :: (u.text ++ 32 :: YQ zs)).length + 2 * (zs.length + 1) ≤ _
     simp only [List.length_append, List.length_cons]
     omega
    ·have := h5 (by simp; omega)
     simp only [laE, lcE, lnE] at this ⊢
     omega
  intro st y st' hp he h0
  unfold kA at he
  cases first with
  | true =>
   rw [if_pos rfl, Option.bind_some, if_pos rfl] at he
   obtain ⟨a, b⟩ := key st y st' trivial he h0
   refine ⟨a, fun d m S => ?_⟩
   obtain ⟨n, m', c1, c2, zs, c3, c4, c5, c6⟩ := b d m S
   exact ⟨n, m', c1, c2, zs, c3, c4, c5, fun _ => c6⟩
  | false =>
   rw [if_neg (by decide)] at he
   obtain ⟨c, e1, h9⟩ := bC he
   cases c with
   | true =>
    rw [if_pos rfl] at h9
    obtain ⟨a, b⟩ := key st y st' trivial h9 h0
    refine ⟨a, fun d m S => ?_⟩
    obtain ⟨n, m', c1, c2, zs, c3, c4, c5, c6⟩ := b d m S
    exact ⟨n, m', c1, c2, zs, c3, c4, c5, fun _ => c6⟩
   | false =>
    rw [if_neg (by decide)] at h9
    cases h9
    exact ⟨h0, fun d m S => ⟨0, m, rfl, S, [], by simp, ⟨fun z hz => (by cases hz), Nat.le_refl _⟩, fun h => by simpa using h, fun h => by cases h⟩⟩
def PaC (y : List Nat × List (List Nat)) (n : Nat) : Prop := vY y.1 y.2 ∧ (aX y.1 y.2).length + 1 ≤ n ∧ AB y.1 ∧ (∀ x ∈ y.2, AB x) ∧ y.1.length ≤ n
theorem aLy (f : Nat) : SO Any (fY f) (fun d y n => PaC y n) := by
 show SO Any (fun st => (dU st 1 []).bind fun c => if c then (aV st).bind fun r => some ((r.1.text, []), r.2) else (dU st 3 []).bind fun c =>
  if c then (aV st).bind fun r => (gN r.2 1 0).bind fun q => some ((r.1.text, [q.1]), q.2) else kA f [] [] true st) _
 refine cAp ((bZh (fun (t : Tok) st => some ((t.text, []), st)) dD fun t => SO.ret _).mono ?_) (cAp ((bZh (fun (t : Tok) st => (gN st 1 0).bind fun q => some ((t.text, [q.1]), q.2)) dD fun t => bZh (fun (q : List Nat) st => some ((t.text, [q]), st)) (aJt 1 0) fun q => SO.ret _).mono ?_) (((aJv f [] [] true).pre fun _ _ => trivial).mono ?_))
 ·rintro d y n hd hn ⟨t, a, b, rfl, ⟨⟨hk, _⟩, hv, rfl⟩, rfl, rfl⟩
  obtain ⟨k1, k2, k3, k4, k5⟩ := rK hv hk (by decide) (by decide)
  refine ⟨.inl ⟨k1, rfl⟩, ?_, k4, fun x hx => (by cases hx), by show t.text.length ≤ _; omega⟩
  have e : aX t.text [] = t.text := by unfold aX; rw [((dH k1).1 rfl).1]; rfl
  show (aX t.text []).length + 1 ≤ _
  rw [e]
  omega
 ·rintro d y n hd hn ⟨t, a, b, rfl, ⟨⟨hk, _⟩, hv, rfl⟩, q, a2, b2, rfl, ⟨_, u, rfl, hk2, hv2, rfl⟩, rfl, rfl⟩
  obtain ⟨k1, k2, k3, k4, k5⟩ := rK hv hk (by decide) (by decide)
  obtain ⟨j1, j2, j3, j4, j5⟩ := rK hv2 hk2 (by decide) (by decide)
  refine ⟨.inr (.inl ⟨k1, u.text, rfl, j1⟩), ?_, k4, fun x hx => ?_, by show t.text.length ≤ _; omega⟩
  ·have e : aX t.text [u.text] = t.text ++ 32 :: u.text := by unfold aX; rw [((dH k1).2.2 rfl).1]; rfl
   show (aX t.text [u.text]).length + 1 ≤ _
   rw [e, List.length_append, List.length_cons]
   omega
  ·have : x = u.text := by simpa using hx
   rw [this]
   exact j4
 ·rintro d y n hd hn ⟨zs, rfl, ⟨z1, z2⟩, h4, h5⟩
  have hne := h5 rfl
  have hk : ∀ q ∈ zs.map Prod.fst, TV 2 q := fun q hq => by
   obtain ⟨z, h1, rfl⟩ := List.mem_map.1 hq
   exact (z1 z h1).1.1
  have e : aX (zs.map Prod.fst).flatten (zs.map Prod.snd) ++ 32 :: [] = YQ zs ++ [] := by
   unfold aX
   rw [gH hk (by simpa using hne), if_neg (by decide), if_pos rfl, jC hk, show dT (zs.map Prod.snd) (zs.map Prod.fst) 0 = _ from kX zs []]
   exact rT zs [] hne
  have e2 := congrArg List.length e
  simp only [laE, lcE, lnE] at e2
  have e3 : (zs.map Prod.fst).flatten.length ≤ (YQ zs).length := by
   clear e e2 hk h4 h5 z1 z2 hne
   induction zs with
   | nil => exact Nat.le_refl _
   | cons z zs ih =>
    simp only [List.map_cons, List.flatten_cons, YQ, List.length_append, List.length_cons]
    omega
  refine ⟨.inr (.inr ⟨zs, rfl, rfl, hne, by simpa using h4 (by simp), fun z hz => (z1 z hz).1⟩), ?_, ?_, fun x hx => ?_, ?_⟩
  ·show (aX (zs.map Prod.fst).flatten (zs.map Prod.snd)).length + 1 ≤ _
   omega
  ·exact cBr fun p hp => by
    obtain ⟨z, hz, rfl⟩ := List.mem_map.1 hp
    exact (z1 z hz).2.1
  ·have hx : x ∈ zs.map Prod.snd := hx
   obtain ⟨z, hz, rfl⟩ := List.mem_map.1 hx
   exact (z1 z hz).2.2
  ·show (zs.map Prod.fst).flatten.length ≤ _
   omega
end Go.Dd

namespace Go.Dd
theorem aKf : SO Any oU (fun d y n => ∃ m : Nat, y = (m : Int) ∧ m ≤ 255 ∧ (vQ m []).length ≤ n) := by
 show SO Any (fun st => (dU st 3 [60]).bind fun c => if c then (aV st).bind fun r => (bL r.2 2 primT).bind fun a => (bL a.2 4 []).bind fun b =>
  (bL (if 255 < b.1.num then bV b.2 b.1 2 else b.2) 3 [62]).bind fun d => some (b.1.num, d.2) else some (0, st)) _
 refine cAp ((bZh (fun (_ : Tok) st => (bL st 2 primT).bind fun a => (bL a.2 4 []).bind fun b =>
  (bL (if 255 < b.1.num then bV b.2 b.1 2 else b.2) 3 [62]).bind fun d => some (b.1.num, d.2)) dD fun _ => bZh (fun (_ : Tok) st => (bL st 4 []).bind fun b =>
  (bL (if 255 < b.1.num then bV b.2 b.1 2 else b.2) 3 [62]).bind fun d => some (b.1.num, d.2)) (gC 2 primT) fun _ => bZh (fun (b : Tok) st => (bL (if 255 < b.num then bV st b 2 else st) 3 [62]).bind fun d => some (b.num, d.2)) (gC 4 []) (E := fun b d y n => y = b.num ∧ b.num ≤ 255 ∧ n = 3) fun b => ?_).mono ?_) ((SO.ret _).mono ?_)
 ·by_cases h : 255 < b.num
  ·refine cAf (G := fun st => (bL (bV st b 2) 3 [62]).bind fun d => some (b.num, d.2)) (fun st => by rw [if_pos h]) ?_
   intro st y st' hp he h0
   obtain ⟨⟨t, s1⟩, e1, e2⟩ := bC he
   cases e2
   have := (gC (P := Any) 3 [62] (bV st b 2) t s1 trivial e1 h0).1
   exfalso
   unfold bV at this
   split at this
   ·cases this
   ·exact absurd this (by assumption)
  ·refine cAf (G := fun st => (bL st 3 [62]).bind fun d => some (b.num, d.2)) (fun st => by rw [if_neg h]) ?_
   refine (bZh (fun (_ : Tok) st => some (b.num, st)) (gC 3 [62]) fun _ => SO.ret _).mono ?_
   rintro d y n hd hn ⟨t, a, b2, rfl, ⟨⟨hk, hx⟩, hv, rfl⟩, rfl, rfl⟩
   obtain ⟨k1, k2, _⟩ := rK hv hk (by decide) (by decide)
   rw [hx (by decide)] at k2
   exact ⟨rfl, by omega, k2⟩
 ·rintro d y n hd hn ⟨t1, a1, b1, rfl, ⟨⟨hk1, hx1⟩, hv1, rfl⟩, t2, a2, b2, rfl, ⟨⟨hk2, hx2⟩, hv2, rfl⟩, t3, a3, b3, rfl, ⟨⟨hk3, _⟩, hv3, rfl⟩, rfl, h255, rfl⟩
  obtain ⟨k1, k2, _⟩ := rK hv1 hk1 (by decide) (by decide)
  obtain ⟨j1, j2, _⟩ := rK hv2 hk2 (by decide) (by decide)
  rw [hx1 (by decide)] at k2
  rw [hx2 (by decide)] at j2
  have k3 : kE t1 = 3 := k2
  have j3 : kE t2 = 12 := j2
  obtain ⟨_, hv3⟩ := hv3
  rcases hv3 with hv3 | ⟨_, _, k, hk, hle⟩ | hv3
  ·omega
  ·have hw : kE t3 = (dg k).length + 2 := by
    unfold kE
    rw [if_neg (by omega), if_pos hk3, hk]
    rfl
   refine ⟨k, hk, by omega, ?_⟩
   unfold vQ
   split
   ·exact Nat.zero_le _
   ·show (60 :: (primT ++ 32 :: (dg k ++ 62 :: 32 :: []))).length ≤ _
    have : primT.length = 10 := rfl
    simp only [List.length_cons, List.length_append, List.length_nil]
    omega
  ·exact absurd hk3 hv3.2.1
 ·rintro d y n hd hn ⟨rfl, rfl⟩
  exact ⟨0, rfl, by omega, Nat.le_refl _⟩
theorem bGa (m : Nat) (w : List Nat) : (vQ m w).length = (vQ m []).length + w.length := by
 unfold vQ
 split
 ·simp
 ·simp; omega
theorem tC {u : List Nat} (hu : u.length ≤ 500) (hb : AB u) (h : (dN u).2.2 = 0) :
 (dN (iX (dN u).1)).2.2 = 0 ∧ (dN (iX (dN u).1)).1 = (dN u).1 ∧ Sk (dN u).1 ∧ By (dN u).1 ∧ (iX (dN u).1).length ≤ 1600 := by
 have q := kG u
 unfold fF at q
 by_cases hl : (iV u).2.2 = 0
 ·obtain ⟨v1, v2⟩ := nZ (by omega) hb hl
  rw [if_pos hl] at q
  obtain ⟨⟨x, s0⟩, e0, q⟩ := bC q
  unfold kH at e0
  obtain ⟨⟨⟨t, ns⟩, sa⟩, ea, e0⟩ := bC e0
  obtain ⟨⟨pm, sb⟩, eb, e0⟩ := bC e0
  cases e0
  obtain ⟨⟨ts, s1⟩, e1, q⟩ := bC q
  obtain ⟨⟨ks, s2⟩, e2, q⟩ := bC q
  obtain ⟨⟨tz, s3⟩, e3, q⟩ := bC q
  by_cases h3 : s3.err = 0
  ·have q : some ((Node.mk 11 t pm ns [] []).with ts ks, (0 : Int), (0 : Int)) = some (dN u) := by
    have q : (if s3.err = 0 then some ((Node.mk 11 t pm ns [] []).with ts ks, (0 : Int), (0 : Int)) else some (zN, s3.pos, s3.err)) = some (dN u) := q
    rw [if_pos h3] at q
    exact q
   obtain ⟨a1, a2⟩ := aBc e1 e2 e3 h3
   obtain ⟨p1, p2⟩ := aKf sa pm sb trivial eb a1
   obtain ⟨r1, r2⟩ := aLy 2004 _ (t, ns) sa trivial ea p1
   obtain ⟨n1, m1, c1, c2, c3, c4, c5, c6, c7⟩ := r2 0 (mu (iV u).1) ⟨rfl, rfl, by omega, v1, rfl, by omega⟩
   obtain ⟨n2, m2, d1, d2, m, rfl, d4, d5⟩ := p2 0 m1 c2
   obtain ⟨l, rfl, b1, b2, b3, b5, b4⟩ := a2 m2 d2
   have q := Option.some.inj q
   rw [← q]
   have ek : gG (l.map Prod.fst) = l.map Prod.snd := by
    unfold gG
    rw [List.map_map]
    exact List.map_congr_left fun z hz => (b3 z hz).1.symm
   have hlen : (dG t (m : Int) ns ++ aS ts (l.map Prod.snd)).length ≤ 1600 := by
    rw [aLx, List.length_append, List.length_cons, bGa]
    have c4 : (aX t ns).length + 1 ≤ n1 := c4
    omega
   show (dN (dG t (m : Int) ns ++ aS ts (gG (l.map Prod.fst)))).2.2 = 0 ∧ (dN (dG t (m : Int) ns ++ aS ts (gG (l.map Prod.fst)))).1 = Node.mk 11 t (m : Int) ns ts (l.map Prod.fst) ∧ Sk (Node.mk 11 t (m : Int) ns ts (l.map Prod.fst)) ∧ By (Node.mk 11 t (m : Int) ns ts (l.map Prod.fst)) ∧ (dG t (m : Int) ns ++ aS ts (gG (l.map Prod.fst))).length ≤ 1600
   have c3 : vY t ns := c3
   rw [ek, bBb c3 d4 (fun t ht => (b1 t ht).1) b2 (by omega)]
   refine ⟨rfl, rfl, ⟨by have : t.length ≤ n1 := c7; omega, by omega, by omega, by rw [List.length_map]; unfold bQ; omega, oD fun x hx => ?_⟩, ⟨c5, c6, fun x hx => (b1 x hx).2, nS fun x hx => ?_⟩, hlen⟩
   ·obtain ⟨z, hz, rfl⟩ := List.mem_map.1 hx
    exact (b3 z hz).2.1
   ·obtain ⟨z, hz, rfl⟩ := List.mem_map.1 hx
    exact (b3 z hz).2.2
  ·have q : (if s3.err = 0 then some ((Node.mk 11 t pm ns [] []).with ts ks, (0 : Int), (0 : Int)) else some (zN, s3.pos, s3.err)) = some (dN u) := q
   rw [if_neg h3] at q
   have q := Option.some.inj q
   rw [← q] at h
   exact absurd h h3
 ·rw [if_neg hl] at q
  have q := Option.some.inj q
  rw [← q] at h
  exact absurd h hl
end Go.Dd

namespace Go.Dd
open Go.Proofs
section
variable {I : Im} {A L : Ls} {h : Hp}
structure Shw (x : Node) : Prop where
 kids : ∀ y ∈ x.kids, kQ y
 len : (aS x.temps (gG x.kids)).length ≤ bQ
 by' : AB (aS x.temps (gG x.kids))
end
end Go.Dd

namespace Go.Dd
open Go.Proofs
section
variable {I : Im} {A L : Ls} {h : Hp}
theorem bAg (n : Nat) (x : DV) (h : Hp) : aI (n + 1) 15 [x] h = s15 (aI n) n x h := by kernel_rfl
theorem aYe {s : List Nat} (S : Sy I A [] L h) : Ev (fun n => aI n 15 [.s s] h) (fun v h' => v = .s (s.take 500) ∧ Sy I A [] L h') := by
 refine Ev.enter (fun n => bAg n _ h) ?_
 unfold s15
 refine cAi ?_
 refine cAw (fun e1 => ?_) (fun e1 => ?_)
 ·refine yt ?_
  refine Ev.op (bYv (b := 500) (by have : (s.length : Int) > Int.ofNat 500 := e1; simp at this; omega) _) ?_
  exact bZg ⟨rfl, S⟩
 ·refine yj ?_
  refine bZg ⟨?_, S⟩
  have : ¬ ((s.length : Int) > Int.ofNat 500) := e1
  rw [List.take_of_length_le (by simp at this; omega)]
theorem aGl {u : List Nat} (hu : u.length ≤ 500) (hb : AB u) (he : (dV u).2.2 = 0) :
 Shw (dV u).1 ∧ aIe (dV u).1 = (aS (dV u).1.temps (gG (dV u).1.kids), 0) := by
 obtain ⟨h1, h2, h3, h4, h5⟩ := uH hu hb he
 refine ⟨⟨(tE _ h3).2.1, by unfold bQ; omega, h4.body⟩, ?_⟩
 unfold aIe pI
 rw [if_pos ⟨h1, by rw [h2]; exact lV _⟩]
end
end Go.Dd

namespace Go.Dd
structure ShwN (x : Node) : Prop where
 kids : ∀ y ∈ x.kids, kQ y
 t0 : x.text.length ≤ 10000
 n0 : cN x.names ≤ 10000
 m0 : -9223372036854775808 ≤ x.num
 m1 : x.num ≤ 9223372036854775807
 b0 : (aS x.temps (gG x.kids)).length ≤ 1000000000
 a0 : AB (iX x)
end Go.Dd

namespace Go.Dd
theorem aCc {t : List Nat} {ns : List (List Nat)} (h : vY t ns) : t.length ≤ (aX t ns).length + 1 ∧ cN ns ≤ (aX t ns).length + 1 := by
 rcases h with ⟨h1, rfl⟩ | ⟨h3, a, rfl, ha⟩ | ⟨zs, rfl, rfl, hne, h4, hz⟩
 ·have e : aX t [] = t := by unfold aX; rw [((dH h1).1 rfl).1]; rfl
  rw [e]
  exact ⟨by omega, Nat.zero_le _⟩
 ·have e : aX t [a] = t ++ 32 :: a := by unfold aX; rw [((dH h3).2.2 rfl).1]; rfl
  rw [e, jL]
  have : cN [] = 0 := rfl
  simp only [List.length_append, List.length_cons]
  omega
 ·have hk : ∀ q ∈ zs.map Prod.fst, TV 2 q := fun q hq => by
   obtain ⟨z, h1, rfl⟩ := List.mem_map.1 hq
   exact (hz z h1).1
  have e : aX (zs.map Prod.fst).flatten (zs.map Prod.snd) ++ 32 :: [] = YQ zs ++ [] := by
   unfold aX
   rw [gH hk (by simpa using hne), if_neg (by decide), if_pos rfl, jC hk, show dT (zs.map Prod.snd) (zs.map Prod.fst) 0 = _ from kX zs []]
   exact rT zs [] hne
  have e2 := congrArg List.length e
  simp only [laE, lcE, lnE] at e2
  have e3 : (zs.map Prod.fst).flatten.length ≤ (YQ zs).length ∧ cN (zs.map Prod.snd) ≤ (YQ zs).length := by
   clear e e2 hk h4 hz hne
   induction zs with
   | nil => exact ⟨Nat.le_refl _, Nat.le_refl _⟩
   | cons z zs ih =>
    simp only [List.map_cons, List.flatten_cons, YQ, List.length_append, List.length_cons, jL]
    omega
  omega
theorem aHa {u : List Nat} (hu : u.length ≤ 500) (hb : AB u) (h : (dN u).2.2 = 0) :
 ∃ t ns, ∃ m : Nat, ∃ ts, ∃ l : List (Node × List Nat), (dN u).1 = .mk 11 t (m : Int) ns ts (l.map Prod.fst) ∧ vY t ns ∧ (aX t ns).length ≤ 1600 ∧ AB t ∧ (∀ x ∈ ns, AB x) ∧ m ≤ 255 := by
 have q := kG u
 unfold fF at q
 by_cases hl : (iV u).2.2 = 0
 ·obtain ⟨v1, v2⟩ := nZ (by omega) hb hl
  rw [if_pos hl] at q
  obtain ⟨⟨x, s0⟩, e0, q⟩ := bC q
  unfold kH at e0
  obtain ⟨⟨⟨t, ns⟩, sa⟩, ea, e0⟩ := bC e0
  obtain ⟨⟨pm, sb⟩, eb, e0⟩ := bC e0
  cases e0
  obtain ⟨⟨ts, s1⟩, e1, q⟩ := bC q
  obtain ⟨⟨ks, s2⟩, e2, q⟩ := bC q
  obtain ⟨⟨tz, s3⟩, e3, q⟩ := bC q
  by_cases h3 : s3.err = 0
  ·have q : some ((Node.mk 11 t pm ns [] []).with ts ks, (0 : Int), (0 : Int)) = some (dN u) := by
    have q : (if s3.err = 0 then some ((Node.mk 11 t pm ns [] []).with ts ks, (0 : Int), (0 : Int)) else some (zN, s3.pos, s3.err)) = some (dN u) := q
    rw [if_pos h3] at q
    exact q
   obtain ⟨a1, a2⟩ := aBc e1 e2 e3 h3
   obtain ⟨p1, p2⟩ := aKf sa pm sb trivial eb a1
   obtain ⟨r1, r2⟩ := aLy 2004 _ (t, ns) sa trivial ea p1
   obtain ⟨n1, m1, c1, c2, c3, c4, c5, c6, c7⟩ := r2 0 (mu (iV u).1) ⟨rfl, rfl, by omega, v1, rfl, by omega⟩
   obtain ⟨n2, m2, d1, d2, m, rfl, d4, d5⟩ := p2 0 m1 c2
   obtain ⟨l, rfl, b1, b2, b3, b5, b4⟩ := a2 m2 d2
   have q := Option.some.inj q
   rw [← q]
   have c4 : (aX t ns).length + 1 ≤ n1 := c4
   exact ⟨t, ns, m, ts, l, rfl, c3, by omega, c5, c6, d4⟩
  ·have q : (if s3.err = 0 then some ((Node.mk 11 t pm ns [] []).with ts ks, (0 : Int), (0 : Int)) else some (zN, s3.pos, s3.err)) = some (dN u) := q
   rw [if_neg h3] at q
   have q := Option.some.inj q
   rw [← q] at h
   exact absurd h h3
 ·rw [if_neg hl] at q
  have q := Option.some.inj q
  rw [← q] at h
  exact absurd h hl
theorem wW {t : List Nat} {ns : List (List Nat)} (ht : AB t) (hn : ∀ x ∈ ns, AB x) : AB (aX t ns) := by
 have ha : ∀ i, AB (fU ns i) := fun i => by
  unfold fU
  cases e : ns[i]? with
  | none => exact AB.nil
  | some x => exact hn x (List.mem_of_getElem? e)
 have hk : ∀ (ps : List (List Nat)) (i : Nat), (∀ x ∈ ps, AB x) → ∀ x ∈ dT ns ps i, AB x := fun ps => by
  induction ps with
  | nil => intro i h x hx; cases hx
  | cons p ps ih =>
   intro i h x hx
   rcases List.mem_cons.1 hx with rfl | hx
   ·exact AB.app (h p (by simp)) (AB.cons (by omega) (ha i))
   ·exact ih (i + 1) (fun y hy => h y (by simp [hy])) x hx
 unfold aX
 split
 ·exact AB.app ht (AB.cons (by omega) (ha 0))
 split
 ·exact AB.join (by intro c hc; simp at hc; omega) (hk _ 0 (AB.parts ht))
 ·exact ht
theorem aOo {u : List Nat} (hu : u.length ≤ 500) (hb : AB u) (he : (dN u).2.2 = 0) :
 ShwN (dN u).1 ∧ aLw (dN u).1 = (iX (dN u).1, 0) := by
 obtain ⟨h1, h2, h3, h4, h5⟩ := tC hu hb he
 have sk := (tE _ h3).2.1
 have eb := h4.body
 refine ⟨?_, by unfold aLw pI; rw [if_pos ⟨h1, by rw [h2]; exact lV _⟩]⟩
 obtain ⟨t, ns, m, ts, l, e, p1, p2, p3, p4, p5⟩ := aHa hu hb he
 rw [e] at sk eb h5 ⊢
 obtain ⟨q1, q2⟩ := aCc p1
 have h5 : (dG t (m : Int) ns ++ aS ts (gG (l.map Prod.fst))).length ≤ 1600 := h5
 rw [List.length_append] at h5
 refine ⟨sk, by show t.length ≤ 10000; omega, by show cN ns ≤ 10000; omega, by show -9223372036854775808 ≤ (m : Int); omega, by show (m : Int) ≤ 9223372036854775807; omega, by show (aS ts (gG (l.map Prod.fst))).length ≤ 1000000000; omega, ?_⟩
 show AB (dG t (m : Int) ns ++ aS ts (gG (l.map Prod.fst)))
 refine AB.app ?_ eb
 unfold dG
 refine AB.app ?_ (by intro c hc; simp at hc; omega)
 split
 ·exact wW p3 p4
 ·exact AB.app (wW p3 p4) (AB.app (by unfold AB eS; decide) (AB.app (AB.itoa _) (by intro c hc; simp at hc; omega)))
end Go.Dd

namespace Go.Dd
open Go.Proofs
section
variable {I : Im} {A L : Ls} {h : Hp}
theorem aYs {s : List Nat} (hs : AB s) (S : Sy I A [] L h) : Ev (fun n => aZz (mJ 10 true n) n (.s s) h) (fun v h' => v = .b true) := by
 have e11 : ∀ n, mJ 10 true n 11 = aI n 11 := fun n => fO true n rfl
 have e15 : ∀ n, mJ 10 true n 15 = aI n 15 := fun n => fO true n rfl
 have e16 : ∀ n, mJ 10 true n 16 = aI n 16 := fun n => fO true n rfl
 have e17 : ∀ n, mJ 10 true n 17 = aI n 17 := fun n => fO true n rfl
 unfold aZz bRv bOd
 simp only [e11, e15, e16, e17, aOc]
 refine bZe (aYe S) ?_
 rintro _ h1 ⟨rfl, S1⟩
 have hu : (s.take 500).length ≤ 500 := by rw [List.length_take]; omega
 have hb : AB (s.take 500) := fun c hc => hs c (List.mem_of_mem_take hc)
 generalize s.take 500 = u at hu hb
 refine bZe (qQ S1 (by simp [bQ]; omega) hb 2001 2001 2004 2004 (by simp [bQ]) (by simp [bQ]) (by simp [bQ]) _ (jV u) _ (kG u)) ?_
 rintro _ h2 ⟨J, cs, rfl, g1, S2, N1⟩
 obtain ⟨c1, o1, b1⟩ := N1.shape
 refine wx ?_; refine wx ?_; refine wx ?_; refine wa fun _ _ _ => ?_; refine wt fun _ _ => ?_
 refine bZj (fun e1 => ?_) (fun e1 => ?_)
 ·have he : (dN u).2.2 = 0 := e1
  obtain ⟨W1, W2⟩ := aOo hu hb he
  obtain ⟨r1, r2, r3, r4, r5⟩ := tC hu hb he
  refine yt ?_; refine ws ?_
  refine bZe (aDc (by assumption) N1 W1.kids W1.t0 W1.n0 W1.m0 W1.m1 W1.b0 W1.a0) ?_
  rintro _ h3 ⟨rfl, S3⟩
  rw [W2]
  refine wx ?_; refine wx ?_
  refine bZe (qQ (by assumption) (by simp [bQ]; omega) W1.a0 2001 2001 2004 2004 (by simp [bQ]) (by simp [bQ]) (by simp [bQ]) _ (jV _) _ (kG _)) ?_
  rintro _ h4 ⟨K, cs2, rfl, g2, S4, N2⟩
  rw [r2] at N2
  rw [r1]
  obtain ⟨c2, o2, b2⟩ := N2.shape
  refine wx ?_; refine wx ?_; refine wx ?_; refine wa fun _ _ _ => ?_; refine wt fun _ _ => ?_; refine ws ?_; refine ws ?_
  refine bZe (xV _ _ K A [] _ _ _ _ (by assumption) (N1.mono g2) N2) ?_
  rintro _ h5 ⟨rfl, S5⟩
  rw [lV]
  refine bZy (fun e4 => absurd rfl e4) (fun e4 => ?_)
  refine zf (wm (zf ?_))
  refine bZy (fun e4 => absurd rfl e4) (fun e4 => ?_)
  refine aq (zf (wm (zf (an (aq (yj (wm ?_)))))))
  exact bZg rfl
 ·refine yj (wm ?_)
  exact bZg rfl
theorem aXq {s : List Nat} (hs : AB s) (S : Sy I A [] L h) : Ev (fun n => s5 (mJ 10 true n) n (.s s) h) (fun v h' => v = .b true) := by
 have e13 : ∀ n, mJ 10 true n 13 = aI n 13 := fun n => fO true n rfl
 have e14 : ∀ n, mJ 10 true n 14 = aI n 14 := fun n => fO true n rfl
 have e15 : ∀ n, mJ 10 true n 15 = aI n 15 := fun n => fO true n rfl
 have e16 : ∀ n, mJ 10 true n 16 = aI n 16 := fun n => fO true n rfl
 unfold s5 bVu bUs
 simp only [e13, e14, e15, e16]
 refine bZe (aYe S) ?_
 rintro _ h1 ⟨rfl, S1⟩
 have hu : (s.take 500).length ≤ 500 := by rw [List.length_take]; omega
 have hb : AB (s.take 500) := fun c hc => hs c (List.mem_of_mem_take hc)
 generalize s.take 500 = u at hu hb
 refine bZe (xR S1 (by simp [bQ]; omega) hb 2001 2001 2004 (by simp [bQ]) (by simp [bQ]) _ (jV u) _ (mI u)) ?_
 rintro _ h2 ⟨J, cs, rfl, g1, S2, N1⟩
 obtain ⟨c1, o1, b1⟩ := N1.shape
 refine wx ?_; refine wx ?_; refine wx ?_; refine wa fun _ _ _ => ?_; refine wt fun _ _ => ?_
 refine bZj (fun e1 => ?_) (fun e1 => ?_)
 ·have he : (dV u).2.2 = 0 := e1
  obtain ⟨W1, W2⟩ := aGl hu hb he
  obtain ⟨r1, r2, r3, r4, r5⟩ := uH hu hb he
  refine yt ?_; refine ws ?_
  refine bZe (aOp (by assumption) N1 W1.kids W1.len W1.by') ?_
  rintro _ h3 ⟨rfl, S3⟩
  rw [W2]
  refine wx ?_; refine wx ?_
  refine bZe (xR (by assumption) W1.len W1.by' 2001 2001 2004 (by simp [bQ]) (by simp [bQ]) _ (jV _) _ (mI _)) ?_
  rintro _ h4 ⟨K, cs2, rfl, g2, S4, N2⟩
  rw [r2] at N2
  rw [r1]
  obtain ⟨c2, o2, b2⟩ := N2.shape
  refine wx ?_; refine wx ?_; refine wx ?_; refine wa fun _ _ _ => ?_; refine wt fun _ _ => ?_; refine ws ?_; refine ws ?_
  refine bZe (xV _ _ K A [] _ _ _ _ (by assumption) (N1.mono g2) N2) ?_
  rintro _ h5 ⟨rfl, S5⟩
  rw [lV]
  refine bZy (fun e4 => absurd rfl e4) (fun e4 => ?_)
  refine zf (wm (zf ?_))
  refine bZy (fun e4 => absurd rfl e4) (fun e4 => ?_)
  refine aq (zf (wm (zf (an (aq (yj ?_))))))
  exact aYs hs (by assumption)
 ·refine yj ?_
  exact aYs hs (by assumption)
end
end Go.Dd

