/- A part of the proof: HD HE OC T0 TL TM TN TP TQ TR HF HG HI W1 W2 W3 W4 W5 LT0 LT1 LT2 LT3 R12 W6 QX W7 W8 TX1 TX2: each text has a comment of its own. -/
import Derived.Test.YtdpdcbdfgfeoeaaGreatKt7
import Derived.Lib.Bytealg
set_option linter.unusedVariables false
set_option linter.unusedSimpArgs false
set_option linter.constructorNameAsVariable false
set_option maxRecDepth 100000
namespace Go.Dd
theorem lU : ∀ p q : Pos, oT p q = true → p = q
 | .h, .h, _ => rfl
 | .h, .o q, h => by cases h
 | .h, .i q, h => by cases h
 | .o p, .h, h => by cases h
 | .o p, .o q, h => by rw [lU p q h]
 | .o p, .i q, h => by cases h
 | .i p, .h, h => by cases h
 | .i p, .o q, h => by cases h
 | .i p, .i q, h => by rw [lU p q h]
theorem nT (x y : Int) (h : aAy x y = true) : x = y := by
 cases x <;> cases y <;> simp only [aAy] at h
 ·rw [Nat.eq_of_beq_eq_true h]
 ·cases h
 ·cases h
 ·rw [Nat.eq_of_beq_eq_true h]
theorem yS : ∀ t u : WT, wtE t u = true → t = u
 | .e, .e, _ => rfl
 | .e, .n _ _ _, h => by cases h
 | .n _ _ _, .e, h => by cases h
 | .n l v r, .n l' v' r', h => by
  have h' : (aAy v v' && (wtE l l' && wtE r r')) = true := h
  simp only [Bool.and_eq_true] at h'
  rw [nT _ _ h'.1, yS _ _ h'.2.1, yS _ _ h'.2.2]
theorem aPy (x y : DV) (h : dvE x y = true) : x = y := by
 unfold dvE at h
 split at h <;> (try (cases h; done)) <;> (try rfl)
 ·rw [nT _ _ h]
 ·rw [(kJ _ _).1 h]
 ·simp only [Bool.and_eq_true] at h
  rw [lU _ _ h.1, Nat.eq_of_beq_eq_true h.2]
 ·simp only [Bool.and_eq_true] at h
  rw [lU _ _ h.1, Nat.eq_of_beq_eq_true h.2.1, Nat.eq_of_beq_eq_true h.2.2.1, Nat.eq_of_beq_eq_true h.2.2.2]
 ·rw [lU _ _ h]
 ·simp at h; rw [h]
theorem aCi : ∀ l m : List DV, bWk l m = true → l = m
 | [], [], _ => rfl
 | [], _ :: _, h => by cases h
 | _ :: _, [], h => by cases h
 | x :: l, y :: m, h => by
  have h' : (dvE x y && bWk l m) = true := h
  simp only [Bool.and_eq_true] at h'
  rw [aPy _ _ h'.1, aCi _ _ h'.2]
theorem aVq : ∀ l m : List (DV × DV), cRh l m = true → l = m
 | [], [], _ => rfl
 | [], _ :: _, h => by cases h
 | _ :: _, [], h => by cases h
 | x :: l, y :: m, h => by
  have h' : (dvE x.1 y.1 && (dvE x.2 y.2 && cRh l m)) = true := h
  simp only [Bool.and_eq_true] at h'
  rw [aVq _ _ h'.2.2]
  congr 1
  exact Prod.ext (aPy _ _ h'.1) (aPy _ _ h'.2.1)
theorem cLa (o p : Ob) (h : obE o p = true) : o = p := by
 unfold obE at h
 split at h <;> (try (cases h; done))
 ·rw [aCi _ _ h]
 ·rw [aVq _ _ h]
 ·simp only [Bool.and_eq_true] at h
  rw [Nat.eq_of_beq_eq_true h.1, yS _ _ h.2]
 ·rw [yS _ _ h]
theorem aIl (t : Tr Ob) : ∀ l : List (Pos × Ob), bJg t l = true → ∀ x ∈ l, t.get x.1 = some x.2
 | [], _, x, hx => by cases hx
 | y :: l, h, x, hx => by
  have h' : ((match t.get y.1 with
   | some o => obE o y.2
   | none => false) && bJg t l) = true := h
  simp only [Bool.and_eq_true] at h'
  rcases List.mem_cons.1 hx with rfl | hx
  ·have h1 := h'.1
   split at h1
   ·rename_i o ho
    rw [ho, cLa _ _ h1]
   ·cases h1
  ·exact aIl t l h'.2 x hx
theorem aHc : ∀ (l : List (Pos × Ob)) (b : Pos) (o : Ob), (cOq l).get b = some o → (b, o) ∈ l
 | [], b, o, h => by cases b <;> cases h
 | y :: l, b, o, h => by
  have h' : (Tr.set y.2 y.1 (cOq l)).get b = some o := h
  by_cases e : b = y.1
  ·subst e
   rw [dDw] at h'
   simp only [bB] at h'
   rw [← h']
   exact List.mem_cons_self
  ·rw [dDv _ _ _ _ e] at h'
   exact List.mem_cons_of_mem _ (aHc l b o h')
theorem jI (o : Ob) : xY true o o := by cases o <;> simp [xY]
theorem Sim.refl (h : Hp) : Sim true h h := ⟨rfl, fun b o hb => ⟨o, hb, jI o⟩⟩
theorem iO {o o' : Ob} (h : xY true o o') : o' = o := by cases o <;> simpa [xY] using h
theorem Sim.trans {a b c : Hp} (h : Sim true a b) (k : Sim true b c) : Sim true a c := ⟨k.next.trans h.next, fun p o hp => by
 obtain ⟨o', h1, h2⟩ := h.get p o hp
 rw [iO h2] at h1
 exact k.get p o h1⟩
theorem aTl {r : aH} {vs : List DV} {nx : Nat} {l : List (Pos × Ob)} (h : jS r vs nx l = true) : ∃ g, r = some (.t vs, g) ∧ Sim true (hU nx l) g := by
 unfold jS at h
 split at h <;> (try (cases h; done))
 rename_i us g
 simp only [Bool.and_eq_true] at h
 refine ⟨g, by rw [aCi _ _ h.1], ?_, fun b o hb => ⟨o, ?_, jI o⟩⟩
 ·exact lU _ _ h.2.1
 ·exact aIl _ _ h.2.2 (b, o) (aHc _ _ _ hb)
end Go.Dd

namespace Go.Dd
open Go.Proofs
noncomputable section
def pN0 : Code := cf Tryz.f10
def pN1 : Code := cR pN0
def pN2 : Code := cR pN1
def pN3 : Code := cR pN2
def pN4 : Code := cR pN3
def pN5 : Code := cR pN4
def pN6 : Code := cR pN5
def bWd : Code := .seq (cL pN0) (.seq (cL pN1) (.seq (cL pN2) (.seq (cL pN3) (.seq (cL pN4) (.seq (cL pN5) (cL (cL pN6)))))))
def bQo : Code := cR (cL pN6)
def cVf : Code := cR pN6
def lE : Hp := ⟨.h, .e⟩
def cRy : K := fun e h => some (.t [e 5, e 155, e 156, e 157], h)
def cNa (n : Nat) : aH := aP CF (jR 899) 179 899 bWd (fun _ _ _ => none) (fun _ _ => none) cRy (aJ [.i .i64 (.ofNat n)]) lE
end
theorem he0 : jS (cNa 20000) (jE 0) 432 (lQ 20000 553 84 18 [1076, 1096, 6, 24, 42, 60, 78, 96, 114, 132, 150, 168, 186, 204, 222, 240, 258, 276] [(10, 0), (19, 0), (46, 0), (55, 0), (64, 0), (91, 0), (100, 0), (109, 0), (118, 0), (127, 0), (145, 0)] 0) = true := by kernel_rfl
end Go.Dd

namespace Go.Dd
inductive Out where
 | n (e : aU) (h : Hp)
 | x (i : Nat) (e : aU) (h : Hp)
 | r (e : aU) (h : Hp)
def dEu (o : Option Out) (X : Nat → K) (kr k : K) : aH :=
 match o with
 | none => none
 | some (.n e h) => k e h
 | some (.x i e h) => X i e h
 | some (.r e h) => kr e h
section
variable {C : Cfg} {rec : FuncId → List DV → Hp → aH} {nt : Nat}
theorem aSb (all : Array Oper) : ∀ l : List Oper, ∃ O : aU → Hp → Option (aU × Hp), ∀ k env h, jA C rec nt all l k env h = match O env h with
  | none => none
  | some (e, h) => k e h
 | [] => ⟨fun e h => some (e, h), fun k env h => rfl⟩
 | o :: l => by
  obtain ⟨O, hO⟩ := aSb all l
  refine ⟨fun env h => bif cT nt o.dst then (match bF C rec all o env h with
   | some (v, h') => O (bK env o.dst v) h'
   | none => none) else none, fun k env h => ?_⟩
  change cnd (cT nt o.dst) (bnd (bF C rec all o env h) fun v h' => jA C rec nt all l k (bK env o.dst v) h') = _
  cases cT nt o.dst with
  | false => rfl
  | true =>
   simp only [cond_true]
   cases hs : bF C rec all o env h with
   | none => rfl
   | some p => exact hO k _ _
theorem aHb (all : Array Oper) (m : Array Nat) (p0 : Pos) : ∀ (l : List Oper) (i c : Nat) (dirty : Bool) (rd : List Seen) (hs : List (Option Nat × Hp)), ∃ O : aU → Hp → Option (aU × Hp),
  ∀ k env h, dU C rec nt all m p0 l k i c dirty rd hs env h = match O env h with
   | none => none
   | some (e, h) => k e h
 | [], i, c, dirty, rd, hs => ⟨fun e h => some (e, h), fun k env h => rfl⟩
 | o :: l, i, c, dirty, rd, hs => by
  have ih := aHb all m p0 l
  cases hc : bO C.P o.op with
  | pure =>
   obtain ⟨O, hO⟩ := ih (i + 1) c dirty rd hs
   refine ⟨fun env h => bif cT nt o.dst then (match bF C rec all o env h with
    | some (v, h') => O (bK env o.dst v) h'
    | none => none) else none, fun k env h => ?_⟩
   have e : dU C rec nt all m p0 (o :: l) k i c dirty rd hs env h = cnd (cT nt o.dst) (bnd (bF C rec all o env h) fun v h' => dU C rec nt all m p0 l k (i + 1) c dirty rd hs (bK env o.dst v) h') := by
    change cnd (cT nt o.dst) (match bO C.P o.op with | .pure => _ | .reads => _ | .makes => _ | .acts => _) = _
    rw [hc]
    rfl
   rw [e]
   cases cT nt o.dst with
   | false => rfl
   | true =>
    simp only [cond_true]
    cases hs : bF C rec all o env h with
    | none => rfl
    | some p => exact hO k _ _
  | reads =>
   have hex : ∀ (env : aU) (v : DV), ∃ O : aU → Hp → Option (aU × Hp), ∀ k e h, dU C rec nt all m p0 l k (i + 1) c dirty (⟨i, bF C rec all o env, v⟩ :: rd) hs e h = match O e h with
    | none => none
    | some (e, h) => k e h := fun env v => ih (i + 1) c dirty (⟨i, bF C rec all o env, v⟩ :: rd) hs
   refine ⟨fun env h => bif cT nt o.dst then (match bF C rec all o env h with
    | some (v, h') => bif dX m i v (bF C rec all o env) dirty hs then (hex env v).choose (bK env o.dst v) h' else none
    | none => none) else none, fun k env h => ?_⟩
   have e : dU C rec nt all m p0 (o :: l) k i c dirty rd hs env h = cnd (cT nt o.dst) (bnd (bF C rec all o env h) fun v h' =>
     cnd (dX m i v (bF C rec all o env) dirty hs) (dU C rec nt all m p0 l k (i + 1) c dirty (⟨i, bF C rec all o env, v⟩ :: rd) hs (bK env o.dst v) h')) := by
    change cnd (cT nt o.dst) (match bO C.P o.op with | .pure => _ | .reads => _ | .makes => _ | .acts => _) = _
    rw [hc]
    rfl
   rw [e]
   cases cT nt o.dst with
   | false => rfl
   | true =>
    simp only [cond_true]
    cases hs2 : bF C rec all o env h with
    | none => rfl
    | some p =>
     obtain ⟨v, h'⟩ := p
     show cnd (dX m i v (bF C rec all o env) dirty hs) _ = _
     cases hcc : dX m i v (bF C rec all o env) dirty hs with
     | false => simp only [hcc, cond_false]
     | true => simp only [hcc, cond_true]; exact (hex env v).choose_spec k _ _
  | makes =>
   obtain ⟨O, hO⟩ := ih (i + 1) (c + 1) true rd hs
   refine ⟨fun env h => bif cT nt o.dst then (match dG C o (bQ c p0) env h with
    | some (v, h') => O (bK env o.dst v) h'
    | none => none) else none, fun k env h => ?_⟩
   have e : dU C rec nt all m p0 (o :: l) k i c dirty rd hs env h = cnd (cT nt o.dst) (bnd (dG C o (bQ c p0) env h) fun v h' => dU C rec nt all m p0 l k (i + 1) (c + 1) true rd hs (bK env o.dst v) h') := by
    change cnd (cT nt o.dst) (match bO C.P o.op with | .pure => _ | .reads => _ | .makes => _ | .acts => _) = _
    rw [hc]
    rfl
   rw [e]
   cases cT nt o.dst with
   | false => rfl
   | true =>
    simp only [cond_true]
    cases hs : dG C o (bQ c p0) env h with
    | none => rfl
    | some p => exact hO k _ _
  | acts =>
   have hex : ∀ h' : Hp, ∃ O : aU → Hp → Option (aU × Hp), ∀ k e h, dU C rec nt all m p0 l k (i + 1) c false rd ((some i, h') :: hs) e h = match O e h with
    | none => none
    | some (e, h) => k e h := fun h' => ih (i + 1) c false rd ((some i, h') :: hs)
   refine ⟨fun env h => bif cT nt o.dst then (match bF C rec all o env h with
    | some (v, h') => bif rd.all (fun q => fN m q.at_ i || bJ (q.look h') q.v) then (hex h').choose (bK env o.dst v) h' else none
    | none => none) else none, fun k env h => ?_⟩
   have e : dU C rec nt all m p0 (o :: l) k i c dirty rd hs env h = cnd (cT nt o.dst) (bnd (bF C rec all o env h) fun v h' =>
     cnd (rd.all (fun q => fN m q.at_ i || bJ (q.look h') q.v)) (dU C rec nt all m p0 l k (i + 1) c false rd ((some i, h') :: hs) (bK env o.dst v) h')) := by
    change cnd (cT nt o.dst) (match bO C.P o.op with | .pure => _ | .reads => _ | .makes => _ | .acts => _) = _
    rw [hc]
    rfl
   rw [e]
   cases cT nt o.dst with
   | false => rfl
   | true =>
    simp only [cond_true]
    cases hs2 : bF C rec all o env h with
    | none => rfl
    | some p =>
     obtain ⟨v, h'⟩ := p
     show cnd (rd.all (fun q => fN m q.at_ i || bJ (q.look h') q.v)) _ = _
     cases hcc : rd.all (fun q => fN m q.at_ i || bJ (q.look h') q.v) with
     | false => simp only [hcc, cond_false]
     | true => simp only [hcc, cond_true]; exact (hex h').choose_spec k _ _
theorem aHl (n : Nat) : ∀ c : Code, ∃ O : aU → Hp → Option Out, ∀ X kr k env h, aP C rec nt n c X kr k env h = dEu (O env h) X kr k := by
 have hfail : ∃ O : aU → Hp → Option Out, ∀ (X : Nat → K) (kr k : K) (env : aU) (h : Hp), hZ env h = dEu (O env h) X kr k := ⟨fun _ _ => none, fun X kr k env h => rfl⟩
 intro c
 induction c with
 | skip => exact ⟨fun e h => some (.n e h), fun X kr k env h => rfl⟩
 | region id ops dr =>
  cases dr with
  | false =>
   obtain ⟨O, hO⟩ := aSb (C := C) (rec := rec) (nt := nt) ops ops.toList
   refine ⟨fun env h => (O env h).map fun p => .n p.1 p.2, fun X kr k env h => ?_⟩
   show jA C rec nt ops ops.toList k env h = _
   rw [hO]
   dsimp only
   cases hh : O env h <;> rfl
  | true =>
   cases hd : fF C.P ops with
   | false =>
    refine ⟨fun _ _ => none, fun X kr k env h => ?_⟩
    show (Bool.rec (motive := fun _ => K) hZ (iG C rec nt ops k) (fF C.P ops)) env h = _
    rw [hd]; rfl
   | true =>
    have hex : ∀ h : Hp, _ := fun h => aHb (C := C) (rec := rec) (nt := nt) ops (Region.before ops) h.next ops.toList 0 0 false [] [(none, resv (bW C.P ops.toList) h)]
    refine ⟨fun env h => ((hex h).choose env (resv (bW C.P ops.toList) h)).map fun p => .n p.1 p.2, fun X kr k env h => ?_⟩
    have e : aP C rec nt n (.region id ops true) X kr k env h = iG C rec nt ops k env h := by
     show (Bool.rec (motive := fun _ => K) hZ (iG C rec nt ops k) (fF C.P ops)) env h = _
     rw [hd]
    rw [e]
    unfold iG
    rw [(hex h).choose_spec k env _]
    dsimp only
    cases hh : (hex h).choose env (resv (bW C.P ops.toList) h) <;> rfl
 | seq x y ihx ihy =>
  obtain ⟨O1, h1⟩ := ihx
  obtain ⟨O2, h2⟩ := ihy
  refine ⟨fun env h => match O1 env h with
   | some (.n e h) => O2 e h
   | o => o, fun X kr k env h => ?_⟩
  show aP C rec nt n x X kr (aP C rec nt n y X kr k) env h = _
  rw [h1]
  dsimp only
  cases ho : O1 env h with
  | none => rfl
  | some o =>
   cases o with
   | n e h' => exact h2 X kr k e h'
   | x i e h' => rfl
   | r e h' => rfl
 | cond c x y ihx ihy =>
  obtain ⟨O1, h1⟩ := ihx
  obtain ⟨O2, h2⟩ := ihy
  refine ⟨fun env h => match opr env c with
   | .b true => O1 env h
   | .b false => O2 env h
   | _ => none, fun X kr k env h => ?_⟩
  show aS (opr env c) (aP C rec nt n x X kr k env h) (aP C rec nt n y X kr k env h) = _
  rw [h1, h2]
  unfold aS
  dsimp only
  cases opr env c <;> try rfl
  rename_i b
  cases b <;> rfl
 | block id x ih =>
  obtain ⟨O1, h1⟩ := ih
  refine ⟨fun env h => match O1 env h with
   | some (.x i e h') => bif Nat.beq i id then some (.n e h') else some (.x i e h')
   | o => o, fun X kr k env h => ?_⟩
  show aP C rec nt n x (fun j => bif Nat.beq j id then k else X j) kr k env h = _
  rw [h1]
  dsimp only
  cases ho : O1 env h with
  | none => rfl
  | some o =>
   cases o with
   | n e h' => rfl
   | r e h' => rfl
   | x i e h' =>
    simp only [dEu]
    cases hb : Nat.beq i id with
    | true => rfl
    | false => rfl
 | loop x ih =>
  obtain ⟨O1, h1⟩ := ih
  have key : ∀ m : Nat, ∃ O : aU → Hp → Option Out, ∀ (X : Nat → K) (kr k : K) env h, aN (fun kk => aP C rec nt n x X kr kk) m env h = dEu (O env h) X kr k := by
   intro m
   induction m with
   | zero => exact ⟨fun _ _ => none, fun X kr k env h => rfl⟩
   | succ m ihm =>
    obtain ⟨O2, h2⟩ := ihm
    refine ⟨fun env h => match O1 env h with
     | some (.n e h) => O2 e h
     | o => o, fun X kr k env h => ?_⟩
    show aP C rec nt n x X kr (aN (fun kk => aP C rec nt n x X kr kk) m) env h = _
    rw [h1]
    dsimp only
    cases ho : O1 env h with
    | none => rfl
    | some o =>
     cases o with
     | n e h' => exact h2 X kr k e h'
     | x i e h' => rfl
     | r e h' => rfl
  exact key n
 | rangeFunc f ps x y ihx ihy => exact hfail
 | exit id => exact ⟨fun e h => some (.x id e h), fun X kr k env h => rfl⟩
 | scope x ih => exact ih
 | label l => exact ⟨fun e h => some (.n e h), fun X kr k env h => rfl⟩
 | goto l => exact hfail
 | ret => exact ⟨fun e h => some (.r e h), fun X kr k env h => rfl⟩
 | refuse why => exact hfail
end
end Go.Dd

namespace Go.Dd
open Go.Proofs
noncomputable def t20 (rec : FuncId → List DV → Hp → aH) (n : Nat) (x0 x1 : DV) (h0 : Hp) : aH :=
 bnd (aD .eql x1 (.i .i64 (Int.ofNat 0)) h0) fun v1 h1 =>
 bnd (gD v1 false (some (x1, h1)) h1) fun v2 h2 =>
 bnd (gD v1 false (aD .eql v2 (.i .i64 (Int.ofNat 2)) h2) h2) fun v3 h3 =>
 bnd (aM v1 (.b true) v3 h3) fun v4 h4 =>
 bnd (gD v4 false (some (x1, h4)) h4) fun v5 h5 =>
 bnd (gD v4 false (aD .eql v5 (.i .i64 (Int.ofNat 4)) h5) h5) fun v6 h6 =>
 bnd (aM v4 (.b true) v6 h6) fun v7 h7 =>
 bnd (gD v7 false (some (x1, h7)) h7) fun v8 h8 =>
 bnd (gD v7 false (rec 54 [v8] h8) h8) fun v9 h9 =>
 bnd (aM v7 (.b true) v9 h9) fun v10 h10 =>
 bnd (gD v10 false (some (x0, h10)) h10) fun v11 h11 =>
 bnd (gD v10 false (some (x1, h11)) h11) fun v12 h12 =>
 bnd (gD v10 false (rec 21 [v11, v12] h12) h12) fun v13 h13 =>
 bnd (aM v10 (.b true) v13 h13) fun v14 h14 =>
 some (v14, h14)
noncomputable def E20 (rec : FuncId → List DV → Hp → aH) (n : Nat) (c : Code) (X : Nat → K) (k : K) : K := aP CF1 rec 24 n c X (aO CF1 Tryz.f20) k
theorem dBf (rec : FuncId → List DV → Hp → aH) (n : Nat) : E20 rec n (cf Tryz.f20) x0 (aO CF1 Tryz.f20) = (fun (env : aU) (h : Hp) => t20 rec n (env 0) (env 1) h) :=
 (by kernel_rfl)
theorem cXf (rec : FuncId → List DV → Hp → aH) (n : Nat) (args : List DV) (h : Hp) : aG CF1 rec n 20 args h = t20 rec n (args.getD 0 aT) (args.getD 1 aT) h :=
 (by kernel_rfl : aG CF1 rec n 20 args h = E20 rec n (cf Tryz.f20) x0 (aO CF1 Tryz.f20) (aJ args) h).trans ((congrFun (congrFun (dBf rec n) (aJ args)) h).trans (by kernel_rfl))
noncomputable def t21 (rec : FuncId → List DV → Hp → aH) (n : Nat) (x0 x1 : DV) (h0 : Hp) : aH :=
 bnd (rec 63 [x1] h0) fun v1 h1 =>
 bnd (gD v1 true (some (x0, h1)) h1) fun v2 h2 =>
 bnd (gD v1 true (aQ v2 h2) h2) fun v3 h3 =>
 bnd (gD v1 true (aB 3 v3 h3) h3) fun v4 h4 =>
 bnd (gD v1 true (aA v4 h4) h4) fun v5 h5 =>
 bnd (gD v1 true (some (x1, h5)) h5) fun v6 h6 =>
 bnd (gD v1 true (rec 64 [v6] h6) h6) fun v7 h7 =>
 cnd (bJ (gD v1 true (aA v4 h7) h7) v5 && true) (
 bnd (gD v1 true (dV (.int .i64) (.b false) false v5 v7 h7) h7) fun v8 h8 =>
 bnd (aM v1 v8 (.b false) h8) fun v9 h9 =>
 some (v9, h9))
noncomputable def E21 (rec : FuncId → List DV → Hp → aH) (n : Nat) (c : Code) (X : Nat → K) (k : K) : K := aP CF1 rec 16 n c X (aO CF1 Tryz.f21) k
theorem cZe (rec : FuncId → List DV → Hp → aH) (n : Nat) : E21 rec n (cf Tryz.f21) x0 (aO CF1 Tryz.f21) = (fun (env : aU) (h : Hp) => t21 rec n (env 0) (env 1) h) :=
 (by kernel_rfl)
theorem cYd (rec : FuncId → List DV → Hp → aH) (n : Nat) (args : List DV) (h : Hp) : aG CF1 rec n 21 args h = t21 rec n (args.getD 0 aT) (args.getD 1 aT) h :=
 (by kernel_rfl : aG CF1 rec n 21 args h = E21 rec n (cf Tryz.f21) x0 (aO CF1 Tryz.f21) (aJ args) h).trans ((congrFun (congrFun (cZe rec n) (aJ args)) h).trans (by kernel_rfl))
noncomputable def t22 (rec : FuncId → List DV → Hp → aH) (n : Nat) (x0 : DV) (h0 : Hp) : aH :=
 bnd (aQ x0 h0) fun v1 h1 =>
 bnd (aB 0 v1 h1) fun v2 h2 =>
 bnd (aA v2 h2) fun v3 h3 =>
 bnd (bS v3 h3) fun v4 h4 =>
 some (v4, h4)
noncomputable def E22 (rec : FuncId → List DV → Hp → aH) (n : Nat) (c : Code) (X : Nat → K) (k : K) : K := aP CF1 rec 8 n c X (aO CF1 Tryz.f22) k
theorem cZh (rec : FuncId → List DV → Hp → aH) (n : Nat) : E22 rec n (cf Tryz.f22) x0 (aO CF1 Tryz.f22) = (fun (env : aU) (h : Hp) => t22 rec n (env 0) h) :=
 (by kernel_rfl)
theorem cYl (rec : FuncId → List DV → Hp → aH) (n : Nat) (args : List DV) (h : Hp) : aG CF1 rec n 22 args h = t22 rec n (args.getD 0 aT) h :=
 (by kernel_rfl : aG CF1 rec n 22 args h = E22 rec n (cf Tryz.f22) x0 (aO CF1 Tryz.f22) (aJ args) h).trans ((congrFun (congrFun (cZh rec n) (aJ args)) h).trans (by kernel_rfl))
noncomputable def t29 (rec : FuncId → List DV → Hp → aH) (n : Nat) (x0 : DV) (h0 : Hp) : aH :=
 bnd (aQ x0 h0) fun v1 h1 =>
 bnd (aB 0 v1 h1) fun v2 h2 =>
 bnd (aA v2 h2) fun v3 h3 =>
 bnd (bS v3 h3) fun v4 h4 =>
 bnd (aQ x0 h4) fun v5 h5 =>
 bnd (aB 1 v5 h5) fun v6 h6 =>
 bnd (aA v6 h6) fun v7 h7 =>
 bnd (aD .sub v4 v7 h7) fun v8 h8 =>
 some (v8, h8)
noncomputable def E29 (rec : FuncId → List DV → Hp → aH) (n : Nat) (c : Code) (X : Nat → K) (k : K) : K := aP CF1 rec 13 n c X (aO CF1 Tryz.f29) k
theorem dBc (rec : FuncId → List DV → Hp → aH) (n : Nat) : E29 rec n (cf Tryz.f29) x0 (aO CF1 Tryz.f29) = (fun (env : aU) (h : Hp) => t29 rec n (env 0) h) :=
 (by kernel_rfl)
theorem cSs (rec : FuncId → List DV → Hp → aH) (n : Nat) (args : List DV) (h : Hp) : aG CF1 rec n 29 args h = t29 rec n (args.getD 0 aT) h :=
 (by kernel_rfl : aG CF1 rec n 29 args h = E29 rec n (cf Tryz.f29) x0 (aO CF1 Tryz.f29) (aJ args) h).trans ((congrFun (congrFun (dBc rec n) (aJ args)) h).trans (by kernel_rfl))
noncomputable def t30 (rec : FuncId → List DV → Hp → aH) (n : Nat) (x0 x1 x2 x3 : DV) (h0 : Hp) : aH :=
 bnd (rec 74 [x0, x1] h0) fun v1 h1 =>
 bnd (gG .not v1 h1) fun v2 h2 =>
 bnd (gD v2 false (some (x2, h2)) h2) fun v3 h3 =>
 bnd (gD v2 false (aD .lss v3 (.i .i64 (Int.ofNat 0)) h3) h3) fun v4 h4 =>
 bnd (aM v2 (.b true) v4 h4) fun v5 h5 =>
 bnd (gD v5 false (some (x2, h5)) h5) fun v6 h6 =>
 bnd (gD v5 false (aD .gtr v6 (.i .i64 (Int.ofNat 2)) h6) h6) fun v7 h7 =>
 bnd (aM v5 (.b true) v7 h7) fun v8 h8 =>
 bnd (gD v8 false (some (x3, h8)) h8) fun v9 h9 =>
 bnd (gD v8 false (aD .lss v9 (.i .i64 (Int.ofNat 0)) h9) h9) fun v10 h10 =>
 bnd (aM v8 (.b true) v10 h10) fun v11 h11 =>
 bnd (gD v11 false (some (x3, h11)) h11) fun v12 h12 =>
 bnd (gD v11 false (aD .gtr v12 (.i .i64 (Int.ofNat 256)) h12) h12) fun v13 h13 =>
 bnd (aM v11 (.b true) v13 h13) fun v14 h14 =>
 aS v14 (
  some (.t [(.i .i64 (Int.ofNat 0)), (.i .i64 (Int.ofNat 1))], h14)) (
  bnd (rec 29 [x0] h14) fun v15 h15 =>
  bnd (aD .add x3 (.i .i64 (Int.ofNat 3)) h15) fun v16 h16 =>
  bnd (aD .lss v15 v16 h16) fun v17 h17 =>
  bnd (gD v17 false (some (x0, h17)) h17) fun v18 h18 =>
  bnd (gD v17 false (aQ v18 h18) h18) fun v19 h19 =>
  bnd (gD v17 false (aB 2 v19 h19) h19) fun v20 h20 =>
  bnd (gD v17 false (aA v20 h20) h20) fun v21 h21 =>
  bnd (gD v17 false (aD .geq v21 (.i .i64 (Int.ofNat 1099511627776)) h21) h21) fun v22 h22 =>
  bnd (aM v17 (.b true) v22 h22) fun v23 h23 =>
  aS v23 (
   some (.t [(.i .i64 (Int.ofNat 0)), (.i .i64 (Int.ofNat 4))], h23)) (
   bnd (aQ x0 h23) fun v24 h24 =>
   bnd (aB 1 v24 h24) fun v25 h25 =>
   bnd (aA v25 h25) fun v26 h26 =>
   bnd (aQ x0 h26) fun v27 h27 =>
   bnd (aB 2 v27 h27) fun v28 h28 =>
   bnd (aA v28 h28) fun v29 h29 =>
   bnd (aD .add v29 (.i .i64 (Int.ofNat 1)) h29) fun v30 h30 =>
   bnd (aQ x0 h30) fun v31 h31 =>
   bnd (aB 2 v31 h31) fun v32 h32 =>
   bnd (aF 1 v32 v30 h32) fun _ h33 =>
   bnd (aQ x0 h33) fun v34 h34 =>
   bnd (aB 0 v34 h34) fun v35 h35 =>
   bnd (aA v35 h35) fun v36 h36 =>
   bnd (aQ x0 h36) fun v37 h37 =>
   bnd (aB 0 v37 h37) fun v38 h38 =>
   bnd (aA v38 h38) fun v39 h39 =>
   bnd (aD .add v26 (.i .i64 (Int.ofNat 1)) h39) fun v40 h40 =>
   bnd (aQ x0 h40) fun v41 h41 =>
   bnd (aB 0 v41 h41) fun v42 h42 =>
   bnd (aA v42 h42) fun v43 h43 =>
   bnd (aD .add v26 (.i .i64 (Int.ofNat 2)) h43) fun v44 h44 =>
   bnd (cV .shl x3 (.i .u64 (Int.ofNat 2)) h44) fun v45 h45 =>
   bnd (aD .or v45 x2 h45) fun v46 h46 =>
   bnd (aQ x0 h46) fun v47 h47 =>
   bnd (aB 2 v47 h47) fun v48 h48 =>
   bnd (aA v48 h48) fun v49 h49 =>
   bnd (aI 1 v36 v26 h49) fun v50 h50 =>
   bnd (aF 1 v50 v46 h50) fun v51 h51 =>
   bnd (aI 1 v39 v40 h51) fun v52 h52 =>
   bnd (aF 1 v52 x1 h52) fun v53 h53 =>
   bnd (aI 1 v43 v44 h53) fun v54 h54 =>
   bnd (aF 1 v54 v49 h54) fun v55 h55 =>
   bnd (aQ x0 h55) fun v56 h56 =>
   bnd (aB 0 v56 h56) fun v57 h57 =>
   bnd (aA v57 h57) fun v58 h58 =>
   bnd (aD .add v26 (.i .i64 (Int.ofNat 3)) h58) fun v59 h59 =>
   bnd (aD .add v26 (.i .i64 (Int.ofNat 3)) h59) fun v60 h60 =>
   bnd (aD .add v60 x3 h60) fun v61 h61 =>
   bnd (cI 1 v58 (some v59) (some v61) h61) fun v62 h62 =>
   bnd (iE [(.i .i64 (Int.ofNat 0))] v62 h62) fun _ h63 =>
   bnd (aQ x0 h63) fun v64 h64 =>
   bnd (aB 1 v64 h64) fun v65 h65 =>
   bnd (aA v65 h65) fun v66 h66 =>
   bnd (aD .add x3 (.i .i64 (Int.ofNat 3)) h66) fun v67 h67 =>
   bnd (aD .add v66 v67 h67) fun v68 h68 =>
   bnd (aQ x0 h68) fun v69 h69 =>
   bnd (aB 1 v69 h69) fun v70 h70 =>
   bnd (aF 1 v70 v68 h70) fun _ h71 =>
   bnd (aQ x0 h71) fun v72 h72 =>
   bnd (aB 3 v72 h72) fun v73 h73 =>
   bnd (aA v73 h73) fun v74 h74 =>
   bnd (fL (.int .i64) v74 v26 (.b true) h74) fun _ h75 =>
   bnd (rec 75 [v26] h75) fun v76 h76 =>
   bnd (aC 0 v76 h76) fun v77 h77 =>
   bnd (aC 1 v76 h77) fun v78 h78 =>
   some (.t [v77, (.i .i64 (Int.ofNat 0))], h78)))
noncomputable def E30 (rec : FuncId → List DV → Hp → aH) (n : Nat) (c : Code) (X : Nat → K) (k : K) : K := aP CF1 rec 118 n c X (aO CF1 Tryz.f30) k
theorem dBk (rec : FuncId → List DV → Hp → aH) (n : Nat) : E30 rec n (cf Tryz.f30) x0 (aO CF1 Tryz.f30) = (fun (env : aU) (h : Hp) => t30 rec n (env 0) (env 1) (env 2) (env 3) h) :=
 (by kernel_rfl)
theorem cRx (rec : FuncId → List DV → Hp → aH) (n : Nat) (args : List DV) (h : Hp) : aG CF1 rec n 30 args h = t30 rec n (args.getD 0 aT) (args.getD 1 aT) (args.getD 2 aT) (args.getD 3 aT) h :=
 (by kernel_rfl : aG CF1 rec n 30 args h = E30 rec n (cf Tryz.f30) x0 (aO CF1 Tryz.f30) (aJ args) h).trans ((congrFun (congrFun (dBk rec n) (aJ args)) h).trans (by kernel_rfl))
noncomputable def t41 (rec : FuncId → List DV → Hp → aH) (n : Nat) (x0 : DV) (h0 : Hp) : aH :=
 bnd (aD .lss x0 (.i .i64 (Int.ofNat 16)) h0) fun v1 h1 =>
 bnd (gD v1 false (some (x0, h1)) h1) fun v2 h2 =>
 bnd (gD v1 false (aD .gtr v2 (.i .i64 (Int.ofNat 131072)) h2) h2) fun v3 h3 =>
 bnd (aM v1 (.b true) v3 h3) fun v4 h4 =>
 aS v4 (
  some (.p0, h4)) (
  bnd (cB 1 8 [(.i .i64 (Int.ofNat 0))] x0 x0 h4) fun v5 h5 =>
  bnd (dL h5) fun v6 h6 =>
  bnd (aZ [.l0, (.i .i64 (Int.ofNat 0)), (.i .i64 (Int.ofNat 0)), .m0] [(0, 1, v5), (1, 1, (.i .i64 (Int.ofNat 3))), (3, 1, v6)] h6) fun v7 h7 =>
  bnd (bU v7 h7) fun v8 h8 =>
  some (v8, h8))
noncomputable def E41 (rec : FuncId → List DV → Hp → aH) (n : Nat) (c : Code) (X : Nat → K) (k : K) : K := aP CF1 rec 14 n c X (aO CF1 Tryz.f41) k
theorem dAk (rec : FuncId → List DV → Hp → aH) (n : Nat) : E41 rec n (cf Tryz.f41) x0 (aO CF1 Tryz.f41) = (fun (env : aU) (h : Hp) => t41 rec n (env 0) h) :=
 (by kernel_rfl)
theorem cGn (rec : FuncId → List DV → Hp → aH) (n : Nat) (args : List DV) (h : Hp) : aG CF1 rec n 41 args h = t41 rec n (args.getD 0 aT) h :=
 (by kernel_rfl : aG CF1 rec n 41 args h = E41 rec n (cf Tryz.f41) x0 (aO CF1 Tryz.f41) (aJ args) h).trans ((congrFun (congrFun (dAk rec n) (aJ args)) h).trans (by kernel_rfl))
noncomputable def t44 (rec : FuncId → List DV → Hp → aH) (n : Nat) (x0 x1 x2 : DV) (h0 : Hp) : aH :=
 bnd (rec 105 [x0, x1] h0) fun v1 h1 =>
 bnd (aD .eql v1 (.i .i64 (Int.ofNat 0)) h1) fun v2 h2 =>
 bnd (gD v2 false (some (x0, h2)) h2) fun v3 h3 =>
 bnd (gD v2 false (some (x2, h3)) h3) fun v4 h4 =>
 bnd (gD v2 false (rec 74 [v3, v4] h4) h4) fun v5 h5 =>
 bnd (gD v2 false (gG .not v5 h5) h5) fun v6 h6 =>
 bnd (aM v2 (.b true) v6 h6) fun v7 h7 =>
 aS v7 (
  some ((.i .i64 (Int.ofNat 1)), h7)) (
  bnd (aQ x0 h7) fun v8 h8 =>
  bnd (aB 0 v8 h8) fun v9 h9 =>
  bnd (aA v9 h9) fun v10 h10 =>
  bnd (aD .add v1 (.i .i64 (Int.ofNat 1)) h10) fun v11 h11 =>
  bnd (aI 1 v10 v11 h11) fun v12 h12 =>
  bnd (aF 1 v12 x2 h12) fun _ h13 =>
  some ((.i .i64 (Int.ofNat 0)), h13))
noncomputable def E44 (rec : FuncId → List DV → Hp → aH) (n : Nat) (c : Code) (X : Nat → K) (k : K) : K := aP CF1 rec 27 n c X (aO CF1 Tryz.f44) k
theorem dAe (rec : FuncId → List DV → Hp → aH) (n : Nat) : E44 rec n (cf Tryz.f44) x0 (aO CF1 Tryz.f44) = (fun (env : aU) (h : Hp) => t44 rec n (env 0) (env 1) (env 2) h) :=
 (by kernel_rfl)
theorem cSk (rec : FuncId → List DV → Hp → aH) (n : Nat) (args : List DV) (h : Hp) : aG CF1 rec n 44 args h = t44 rec n (args.getD 0 aT) (args.getD 1 aT) (args.getD 2 aT) h :=
 (by kernel_rfl : aG CF1 rec n 44 args h = E44 rec n (cf Tryz.f44) x0 (aO CF1 Tryz.f44) (aJ args) h).trans ((congrFun (congrFun (dAe rec n) (aJ args)) h).trans (by kernel_rfl))
noncomputable def pV (rec : FuncId → List DV → Hp → aH) (n : Nat) (x0 x3 x9 : DV) (h0 : Hp) : aH :=
 bnd (aQ x0 h0) fun v1 h1 =>
 bnd (aB 0 v1 h1) fun v2 h2 =>
 bnd (aA v2 h2) fun v3 h3 =>
 bnd (aI 1 v3 x9 h3) fun v4 h4 =>
 bnd (aF 1 v4 x3 h4) fun _ h5 =>
 some ((.i .i64 (Int.ofNat 0)), h5)
noncomputable def aUr (rec : FuncId → List DV → Hp → aH) (n : Nat) (x0 x1 x3 x9 : DV) (h0 : Hp) : aH :=
 bnd (rec 51 [x0, x1] h0) fun v11 h11 =>
 bnd (aD .eql v11 (.i .i64 (Int.ofNat 0)) h11) fun v12 h12 =>
 aS v12 (
  bnd (rec 20 [x0, x3] h12) fun v13 h13 =>
  bnd (gG .not v13 h13) fun v14 h14 =>
  aS v14 (
   some ((.i .i64 (Int.ofNat 6)), h14)) (
   pV rec n x0 x3 x9 h14)) (
  bnd (aD .eql v11 (.i .i64 (Int.ofNat 2)) h12) fun v15 h15 =>
  aS v15 (
   bnd (aD .lss x3 (.i .i64 (Int.ofNat 0)) h15) fun v16 h16 =>
   bnd (gD v16 false (some (x3, h16)) h16) fun v17 h17 =>
   bnd (gD v16 false (aD .gtr v17 (.i .i64 (Int.ofNat 255)) h17) h17) fun v18 h18 =>
   bnd (aM v16 (.b true) v18 h18) fun v19 h19 =>
   aS v19 (
    some ((.i .i64 (Int.ofNat 6)), h19)) (
    pV rec n x0 x3 x9 h19)) (
   pV rec n x0 x3 x9 h15))
noncomputable def aHk (rec : FuncId → List DV → Hp → aH) (n : Nat) (x0 x1 x3 x9 x10 : DV) (h0 : Hp) : aH :=
 bnd (aD .neq x10 (.i .i64 (Int.ofNat 0)) h0) fun v29 h29 =>
 aS v29 (
  some (x10, h29)) (
  aUr rec n x0 x1 x3 x9 h29)
noncomputable def aRj (rec : FuncId → List DV → Hp → aH) (n : Nat) (x0 x1 x2 x3 : DV) (h0 : Hp) : aH :=
 bnd (rec 107 [x0, x1, x2] h0) fun v31 h31 =>
 bnd (aC 0 v31 h31) fun v32 h32 =>
 bnd (aC 1 v31 h32) fun v33 h33 =>
 aHk rec n x0 x1 x3 v32 v33 h33
noncomputable def t47 (rec : FuncId → List DV → Hp → aH) (n : Nat) (x0 x1 x2 x3 : DV) (h0 : Hp) : aH :=
 aRj rec n x0 x1 x2 x3 h0
noncomputable def E47 (rec : FuncId → List DV → Hp → aH) (n : Nat) (c : Code) (X : Nat → K) (k : K) : K := aP CF1 rec 45 n c X (aO CF1 Tryz.f47) k
theorem cMm (rec : FuncId → List DV → Hp → aH) (n : Nat) : E47 rec n (cR (cR (cR (cR (cf Tryz.f47))))) x0 (aO CF1 Tryz.f47) = (fun (env : aU) (h : Hp) => pV rec n (env 0) (env 3) (env 9) h) :=
 (by kernel_rfl)
theorem cCs (rec : FuncId → List DV → Hp → aH) (n : Nat) : E47 rec n (cR (cR (cR (cf Tryz.f47)))) x0 (aO CF1 Tryz.f47) = E47 rec n (cL (cR (cR (cR (cf Tryz.f47))))) x0 (fun (env : aU) (h : Hp) => pV rec n (env 0) (env 3) (env 9) h) :=
 congrArg (fun k => E47 rec n (cL (cR (cR (cR (cf Tryz.f47))))) x0 k) (cMm rec n)
theorem cIs (rec : FuncId → List DV → Hp → aH) (n : Nat) : E47 rec n (cR (cR (cR (cf Tryz.f47)))) x0 (aO CF1 Tryz.f47) = (fun (env : aU) (h : Hp) => aUr rec n (env 0) (env 1) (env 3) (env 9) h) :=
 (cCs rec n).trans
 ((by kernel_rfl))
theorem bXp (rec : FuncId → List DV → Hp → aH) (n : Nat) : E47 rec n (cR (cR (cf Tryz.f47))) x0 (aO CF1 Tryz.f47) = E47 rec n (cL (cR (cR (cf Tryz.f47)))) x0 (fun (env : aU) (h : Hp) => aUr rec n (env 0) (env 1) (env 3) (env 9) h) :=
 congrArg (fun k => E47 rec n (cL (cR (cR (cf Tryz.f47)))) x0 k) (cIs rec n)
theorem cPv (rec : FuncId → List DV → Hp → aH) (n : Nat) : E47 rec n (cR (cR (cf Tryz.f47))) x0 (aO CF1 Tryz.f47) = (fun (env : aU) (h : Hp) => aHk rec n (env 0) (env 1) (env 3) (env 9) (env 10) h) :=
 (bXp rec n).trans
 ((by kernel_rfl))
theorem bUk (rec : FuncId → List DV → Hp → aH) (n : Nat) : E47 rec n (cR (cf Tryz.f47)) x0 (aO CF1 Tryz.f47) = E47 rec n (cL (cR (cf Tryz.f47))) x0 (fun (env : aU) (h : Hp) => aHk rec n (env 0) (env 1) (env 3) (env 9) (env 10) h) :=
 congrArg (fun k => E47 rec n (cL (cR (cf Tryz.f47))) x0 k) (cPv rec n)
theorem cKc (rec : FuncId → List DV → Hp → aH) (n : Nat) : E47 rec n (cR (cf Tryz.f47)) x0 (aO CF1 Tryz.f47) = (fun (env : aU) (h : Hp) => aRj rec n (env 0) (env 1) (env 2) (env 3) h) :=
 (bUk rec n).trans
 ((by kernel_rfl))
theorem cUa (rec : FuncId → List DV → Hp → aH) (n : Nat) : E47 rec n (cf Tryz.f47) x0 (aO CF1 Tryz.f47) = E47 rec n (cL (cf Tryz.f47)) x0 (fun (env : aU) (h : Hp) => aRj rec n (env 0) (env 1) (env 2) (env 3) h) :=
 congrArg (fun k => E47 rec n (cL (cf Tryz.f47)) x0 k) (cKc rec n)
theorem dBg (rec : FuncId → List DV → Hp → aH) (n : Nat) : E47 rec n (cf Tryz.f47) x0 (aO CF1 Tryz.f47) = (fun (env : aU) (h : Hp) => t47 rec n (env 0) (env 1) (env 2) (env 3) h) :=
 (cUa rec n).trans
 ((by kernel_rfl))
theorem cTm (rec : FuncId → List DV → Hp → aH) (n : Nat) (args : List DV) (h : Hp) : aG CF1 rec n 47 args h = t47 rec n (args.getD 0 aT) (args.getD 1 aT) (args.getD 2 aT) (args.getD 3 aT) h :=
 (by kernel_rfl : aG CF1 rec n 47 args h = E47 rec n (cf Tryz.f47) x0 (aO CF1 Tryz.f47) (aJ args) h).trans ((congrFun (congrFun (dBg rec n) (aJ args)) h).trans (by kernel_rfl))
noncomputable def t50 (rec : FuncId → List DV → Hp → aH) (n : Nat) (x0 x1 : DV) (h0 : Hp) : aH :=
 bnd (aQ x0 h0) fun v1 h1 =>
 bnd (aB 0 v1 h1) fun v2 h2 =>
 bnd (aA v2 h2) fun v3 h3 =>
 bnd (rec 105 [x0, x1] h3) fun v4 h4 =>
 cnd (bJ (aA v2 h4) v3 && true) (
 bnd (aD .add v4 (.i .i64 (Int.ofNat 1)) h4) fun v5 h5 =>
 bnd (aI 1 v3 v5 h5) fun v6 h6 =>
 bnd (aA v6 h6) fun v7 h7 =>
 some (v7, h7))
noncomputable def E50 (rec : FuncId → List DV → Hp → aH) (n : Nat) (c : Code) (X : Nat → K) (k : K) : K := aP CF1 rec 15 n c X (aO CF1 Tryz.f50) k
theorem dDd (rec : FuncId → List DV → Hp → aH) (n : Nat) : E50 rec n (cf Tryz.f50) x0 (aO CF1 Tryz.f50) = (fun (env : aU) (h : Hp) => t50 rec n (env 0) (env 1) h) :=
 (by kernel_rfl)
theorem cWo (rec : FuncId → List DV → Hp → aH) (n : Nat) (args : List DV) (h : Hp) : aG CF1 rec n 50 args h = t50 rec n (args.getD 0 aT) (args.getD 1 aT) h :=
 (by kernel_rfl : aG CF1 rec n 50 args h = E50 rec n (cf Tryz.f50) x0 (aO CF1 Tryz.f50) (aJ args) h).trans ((congrFun (congrFun (dDd rec n) (aJ args)) h).trans (by kernel_rfl))
noncomputable def t51 (rec : FuncId → List DV → Hp → aH) (n : Nat) (x0 x1 : DV) (h0 : Hp) : aH :=
 bnd (aQ x0 h0) fun v1 h1 =>
 bnd (aB 0 v1 h1) fun v2 h2 =>
 bnd (aA v2 h2) fun v3 h3 =>
 bnd (rec 105 [x0, x1] h3) fun v4 h4 =>
 cnd (bJ (aA v2 h4) v3 && true) (
 bnd (aI 1 v3 v4 h4) fun v5 h5 =>
 bnd (aA v5 h5) fun v6 h6 =>
 bnd (aD .and v6 (.i .i64 (Int.ofNat 3)) h6) fun v7 h7 =>
 some (v7, h7))
noncomputable def E51 (rec : FuncId → List DV → Hp → aH) (n : Nat) (c : Code) (X : Nat → K) (k : K) : K := aP CF1 rec 15 n c X (aO CF1 Tryz.f51) k
theorem dBo (rec : FuncId → List DV → Hp → aH) (n : Nat) : E51 rec n (cf Tryz.f51) x0 (aO CF1 Tryz.f51) = (fun (env : aU) (h : Hp) => t51 rec n (env 0) (env 1) h) :=
 (by kernel_rfl)
theorem cVq (rec : FuncId → List DV → Hp → aH) (n : Nat) (args : List DV) (h : Hp) : aG CF1 rec n 51 args h = t51 rec n (args.getD 0 aT) (args.getD 1 aT) h :=
 (by kernel_rfl : aG CF1 rec n 51 args h = E51 rec n (cf Tryz.f51) x0 (aO CF1 Tryz.f51) (aJ args) h).trans ((congrFun (congrFun (dBo rec n) (aJ args)) h).trans (by kernel_rfl))
noncomputable def t52 (rec : FuncId → List DV → Hp → aH) (n : Nat) (x0 x1 : DV) (h0 : Hp) : aH :=
 bnd (aQ x0 h0) fun v1 h1 =>
 bnd (aB 0 v1 h1) fun v2 h2 =>
 bnd (aA v2 h2) fun v3 h3 =>
 bnd (rec 105 [x0, x1] h3) fun v4 h4 =>
 cnd (bJ (aA v2 h4) v3 && true) (
 bnd (aI 1 v3 v4 h4) fun v5 h5 =>
 bnd (aA v5 h5) fun v6 h6 =>
 bnd (cV .shr v6 (.i .u64 (Int.ofNat 2)) h6) fun v7 h7 =>
 some (v7, h7))
noncomputable def E52 (rec : FuncId → List DV → Hp → aH) (n : Nat) (c : Code) (X : Nat → K) (k : K) : K := aP CF1 rec 15 n c X (aO CF1 Tryz.f52) k
theorem dCp (rec : FuncId → List DV → Hp → aH) (n : Nat) : E52 rec n (cf Tryz.f52) x0 (aO CF1 Tryz.f52) = (fun (env : aU) (h : Hp) => t52 rec n (env 0) (env 1) h) :=
 (by kernel_rfl)
theorem cVh (rec : FuncId → List DV → Hp → aH) (n : Nat) (args : List DV) (h : Hp) : aG CF1 rec n 52 args h = t52 rec n (args.getD 0 aT) (args.getD 1 aT) h :=
 (by kernel_rfl : aG CF1 rec n 52 args h = E52 rec n (cf Tryz.f52) x0 (aO CF1 Tryz.f52) (aJ args) h).trans ((congrFun (congrFun (dCp rec n) (aJ args)) h).trans (by kernel_rfl))
noncomputable def t54 (rec : FuncId → List DV → Hp → aH) (n : Nat) (x0 : DV) (h0 : Hp) : aH :=
 bnd (aD .and x0 (.i .i64 (Int.ofNat 1)) h0) fun v1 h1 =>
 bnd (aD .eql v1 (.i .i64 (Int.ofNat 1)) h1) fun v2 h2 =>
 bnd (gD v2 true (some (x0, h2)) h2) fun v3 h3 =>
 bnd (gD v2 true (cV .shr v3 (.i .u64 (Int.ofNat 1)) h3) h3) fun v4 h4 =>
 bnd (gD v2 true (rec 108 [v4, (.i .i64 (Int.negSucc 1073741823)), (.i .i64 (Int.ofNat 1073741823))] h4) h4) fun v5 h5 =>
 bnd (aM v2 v5 (.b false) h5) fun v6 h6 =>
 some (v6, h6)
noncomputable def E54 (rec : FuncId → List DV → Hp → aH) (n : Nat) (c : Code) (X : Nat → K) (k : K) : K := aP CF1 rec 11 n c X (aO CF1 Tryz.f54) k
theorem dDi (rec : FuncId → List DV → Hp → aH) (n : Nat) : E54 rec n (cf Tryz.f54) x0 (aO CF1 Tryz.f54) = (fun (env : aU) (h : Hp) => t54 rec n (env 0) h) :=
 (by kernel_rfl)
theorem cXz (rec : FuncId → List DV → Hp → aH) (n : Nat) (args : List DV) (h : Hp) : aG CF1 rec n 54 args h = t54 rec n (args.getD 0 aT) h :=
 (by kernel_rfl : aG CF1 rec n 54 args h = E54 rec n (cf Tryz.f54) x0 (aO CF1 Tryz.f54) (aJ args) h).trans ((congrFun (congrFun (dDi rec n) (aJ args)) h).trans (by kernel_rfl))
noncomputable def t60 (rec : FuncId → List DV → Hp → aH) (n : Nat) (x0 : DV) (h0 : Hp) : aH :=
 bnd (rec 108 [x0, (.i .i64 (Int.negSucc 1073741823)), (.i .i64 (Int.ofNat 1073741823))] h0) fun v1 h1 =>
 bnd (gG .not v1 h1) fun v2 h2 =>
 aS v2 (
  some (.t [(.i .i64 (Int.ofNat 0)), (.b false)], h2)) (
  bnd (cV .shl x0 (.i .u64 (Int.ofNat 1)) h2) fun v3 h3 =>
  bnd (aD .or v3 (.i .i64 (Int.ofNat 1)) h3) fun v4 h4 =>
  some (.t [v4, (.b true)], h4))
noncomputable def E60 (rec : FuncId → List DV → Hp → aH) (n : Nat) (c : Code) (X : Nat → K) (k : K) : K := aP CF1 rec 10 n c X (aO CF1 Tryz.f60) k
theorem dDp (rec : FuncId → List DV → Hp → aH) (n : Nat) : E60 rec n (cf Tryz.f60) x0 (aO CF1 Tryz.f60) = (fun (env : aU) (h : Hp) => t60 rec n (env 0) h) :=
 (by kernel_rfl)
theorem cXw (rec : FuncId → List DV → Hp → aH) (n : Nat) (args : List DV) (h : Hp) : aG CF1 rec n 60 args h = t60 rec n (args.getD 0 aT) h :=
 (by kernel_rfl : aG CF1 rec n 60 args h = E60 rec n (cf Tryz.f60) x0 (aO CF1 Tryz.f60) (aJ args) h).trans ((congrFun (congrFun (dDp rec n) (aJ args)) h).trans (by kernel_rfl))
noncomputable def t62 (rec : FuncId → List DV → Hp → aH) (n : Nat) (x0 : DV) (h0 : Hp) : aH :=
 bnd (rec 54 [x0] h0) fun v1 h1 =>
 bnd (gG .not v1 h1) fun v2 h2 =>
 aS v2 (
  some ((.i .i64 (Int.ofNat 0)), h2)) (
  bnd (cV .shr x0 (.i .u64 (Int.ofNat 1)) h2) fun v3 h3 =>
  some (v3, h3))
noncomputable def E62 (rec : FuncId → List DV → Hp → aH) (n : Nat) (c : Code) (X : Nat → K) (k : K) : K := aP CF1 rec 8 n c X (aO CF1 Tryz.f62) k
theorem dAs (rec : FuncId → List DV → Hp → aH) (n : Nat) : E62 rec n (cf Tryz.f62) x0 (aO CF1 Tryz.f62) = (fun (env : aU) (h : Hp) => t62 rec n (env 0) h) :=
 (by kernel_rfl)
theorem cUh (rec : FuncId → List DV → Hp → aH) (n : Nat) (args : List DV) (h : Hp) : aG CF1 rec n 62 args h = t62 rec n (args.getD 0 aT) h :=
 (by kernel_rfl : aG CF1 rec n 62 args h = E62 rec n (cf Tryz.f62) x0 (aO CF1 Tryz.f62) (aJ args) h).trans ((congrFun (congrFun (dAs rec n) (aJ args)) h).trans (by kernel_rfl))
noncomputable def t63 (rec : FuncId → List DV → Hp → aH) (n : Nat) (x0 : DV) (h0 : Hp) : aH :=
 bnd (aD .and x0 (.i .i64 (Int.ofNat 1)) h0) fun v1 h1 =>
 bnd (aD .eql v1 (.i .i64 (Int.ofNat 0)) h1) fun v2 h2 =>
 bnd (gD v2 true (some (x0, h2)) h2) fun v3 h3 =>
 bnd (gD v2 true (cV .shr v3 (.i .u64 (Int.ofNat 1)) h3) h3) fun v4 h4 =>
 bnd (gD v2 true (rec 108 [v4, (.i .i64 (Int.ofNat 3)), (.i .i64 (Int.ofNat 131072))] h4) h4) fun v5 h5 =>
 bnd (aM v2 v5 (.b false) h5) fun v6 h6 =>
 some (v6, h6)
noncomputable def E63 (rec : FuncId → List DV → Hp → aH) (n : Nat) (c : Code) (X : Nat → K) (k : K) : K := aP CF1 rec 11 n c X (aO CF1 Tryz.f63) k
theorem dCn (rec : FuncId → List DV → Hp → aH) (n : Nat) : E63 rec n (cf Tryz.f63) x0 (aO CF1 Tryz.f63) = (fun (env : aU) (h : Hp) => t63 rec n (env 0) h) :=
 (by kernel_rfl)
theorem cXr (rec : FuncId → List DV → Hp → aH) (n : Nat) (args : List DV) (h : Hp) : aG CF1 rec n 63 args h = t63 rec n (args.getD 0 aT) h :=
 (by kernel_rfl : aG CF1 rec n 63 args h = E63 rec n (cf Tryz.f63) x0 (aO CF1 Tryz.f63) (aJ args) h).trans ((congrFun (congrFun (dCn rec n) (aJ args)) h).trans (by kernel_rfl))
noncomputable def t64 (rec : FuncId → List DV → Hp → aH) (n : Nat) (x0 : DV) (h0 : Hp) : aH :=
 bnd (rec 63 [x0] h0) fun v1 h1 =>
 bnd (gG .not v1 h1) fun v2 h2 =>
 aS v2 (
  some ((.i .i64 (Int.ofNat 0)), h2)) (
  bnd (cV .shr x0 (.i .u64 (Int.ofNat 1)) h2) fun v3 h3 =>
  some (v3, h3))
noncomputable def E64 (rec : FuncId → List DV → Hp → aH) (n : Nat) (c : Code) (X : Nat → K) (k : K) : K := aP CF1 rec 8 n c X (aO CF1 Tryz.f64) k
theorem dAg (rec : FuncId → List DV → Hp → aH) (n : Nat) : E64 rec n (cf Tryz.f64) x0 (aO CF1 Tryz.f64) = (fun (env : aU) (h : Hp) => t64 rec n (env 0) h) :=
 (by kernel_rfl)
theorem cXq (rec : FuncId → List DV → Hp → aH) (n : Nat) (args : List DV) (h : Hp) : aG CF1 rec n 64 args h = t64 rec n (args.getD 0 aT) h :=
 (by kernel_rfl : aG CF1 rec n 64 args h = E64 rec n (cf Tryz.f64) x0 (aO CF1 Tryz.f64) (aJ args) h).trans ((congrFun (congrFun (dAg rec n) (aJ args)) h).trans (by kernel_rfl))
noncomputable def t73 (rec : FuncId → List DV → Hp → aH) (n : Nat) (x0 x1 x2 : DV) (h0 : Hp) : aH :=
 bnd (rec 107 [x0, x1, x2] h0) fun v1 h1 =>
 bnd (aC 0 v1 h1) fun v2 h2 =>
 bnd (aC 1 v1 h2) fun v3 h3 =>
 bnd (aD .neq v3 (.i .i64 (Int.ofNat 0)) h3) fun v4 h4 =>
 aS v4 (
  some (.t [(.i .i64 (Int.ofNat 0)), v3], h4)) (
  bnd (aQ x0 h4) fun v5 h5 =>
  bnd (aB 0 v5 h5) fun v6 h6 =>
  bnd (aA v6 h6) fun v7 h7 =>
  bnd (aI 1 v7 v2 h7) fun v8 h8 =>
  bnd (aA v8 h8) fun v9 h9 =>
  some (.t [v9, (.i .i64 (Int.ofNat 0))], h9))
noncomputable def E73 (rec : FuncId → List DV → Hp → aH) (n : Nat) (c : Code) (X : Nat → K) (k : K) : K := aP CF1 rec 27 n c X (aO CF1 Tryz.f73) k
theorem dAb (rec : FuncId → List DV → Hp → aH) (n : Nat) : E73 rec n (cf Tryz.f73) x0 (aO CF1 Tryz.f73) = (fun (env : aU) (h : Hp) => t73 rec n (env 0) (env 1) (env 2) h) :=
 (by kernel_rfl)
theorem cGm (rec : FuncId → List DV → Hp → aH) (n : Nat) (args : List DV) (h : Hp) : aG CF1 rec n 73 args h = t73 rec n (args.getD 0 aT) (args.getD 1 aT) (args.getD 2 aT) h :=
 (by kernel_rfl : aG CF1 rec n 73 args h = E73 rec n (cf Tryz.f73) x0 (aO CF1 Tryz.f73) (aJ args) h).trans ((congrFun (congrFun (dAb rec n) (aJ args)) h).trans (by kernel_rfl))
noncomputable def t74 (rec : FuncId → List DV → Hp → aH) (n : Nat) (x0 x1 : DV) (h0 : Hp) : aH :=
 bnd (aD .eql x1 (.i .i64 (Int.ofNat 0)) h0) fun v1 h1 =>
 bnd (gD v1 false (some (x0, h1)) h1) fun v2 h2 =>
 bnd (gD v1 false (some (x1, h2)) h2) fun v3 h3 =>
 bnd (gD v1 false (rec 21 [v2, v3] h3) h3) fun v4 h4 =>
 bnd (aM v1 (.b true) v4 h4) fun v5 h5 =>
 some (v5, h5)
noncomputable def E74 (rec : FuncId → List DV → Hp → aH) (n : Nat) (c : Code) (X : Nat → K) (k : K) : K := aP CF1 rec 12 n c X (aO CF1 Tryz.f74) k
theorem dBh (rec : FuncId → List DV → Hp → aH) (n : Nat) : E74 rec n (cf Tryz.f74) x0 (aO CF1 Tryz.f74) = (fun (env : aU) (h : Hp) => t74 rec n (env 0) (env 1) h) :=
 (by kernel_rfl)
theorem cTy (rec : FuncId → List DV → Hp → aH) (n : Nat) (args : List DV) (h : Hp) : aG CF1 rec n 74 args h = t74 rec n (args.getD 0 aT) (args.getD 1 aT) h :=
 (by kernel_rfl : aG CF1 rec n 74 args h = E74 rec n (cf Tryz.f74) x0 (aO CF1 Tryz.f74) (aJ args) h).trans ((congrFun (congrFun (dBh rec n) (aJ args)) h).trans (by kernel_rfl))
noncomputable def t75 (rec : FuncId → List DV → Hp → aH) (n : Nat) (x0 : DV) (h0 : Hp) : aH :=
 bnd (rec 108 [x0, (.i .i64 (Int.ofNat 3)), (.i .i64 (Int.ofNat 131072))] h0) fun v1 h1 =>
 bnd (gG .not v1 h1) fun v2 h2 =>
 aS v2 (
  some (.t [(.i .i64 (Int.ofNat 0)), (.b false)], h2)) (
  bnd (cV .shl x0 (.i .u64 (Int.ofNat 1)) h2) fun v3 h3 =>
  some (.t [v3, (.b true)], h3))
noncomputable def E75 (rec : FuncId → List DV → Hp → aH) (n : Nat) (c : Code) (X : Nat → K) (k : K) : K := aP CF1 rec 9 n c X (aO CF1 Tryz.f75) k
theorem dCc (rec : FuncId → List DV → Hp → aH) (n : Nat) : E75 rec n (cf Tryz.f75) x0 (aO CF1 Tryz.f75) = (fun (env : aU) (h : Hp) => t75 rec n (env 0) h) :=
 (by kernel_rfl)
theorem cUc (rec : FuncId → List DV → Hp → aH) (n : Nat) (args : List DV) (h : Hp) : aG CF1 rec n 75 args h = t75 rec n (args.getD 0 aT) h :=
 (by kernel_rfl : aG CF1 rec n 75 args h = E75 rec n (cf Tryz.f75) x0 (aO CF1 Tryz.f75) (aJ args) h).trans ((congrFun (congrFun (dCc rec n) (aJ args)) h).trans (by kernel_rfl))
noncomputable def cQb (rec : FuncId → List DV → Hp → aH) (n : Nat) (x0 x1 : DV) (h0 : Hp) : aH :=
 bnd (rec 21 [x0, x1] h0) fun v1 h1 =>
 bnd (gG .not v1 h1) fun v2 h2 =>
 aS v2 (
  some ((.i .i64 (Int.ofNat 0)), h2)) (
  bnd (rec 64 [x1] h2) fun v3 h3 =>
  some (v3, h3))
noncomputable def cYp (rec : FuncId → List DV → Hp → aH) (n : Nat) (c : Code) (X : Nat → K) (k : K) : K := aP CF1 rec 11 n c X (aO CF1 Tryz.f105) k
theorem cRr (rec : FuncId → List DV → Hp → aH) (n : Nat) : cYp rec n (cf Tryz.f105) x0 (aO CF1 Tryz.f105) = (fun (env : aU) (h : Hp) => cQb rec n (env 0) (env 1) h) :=
 (by kernel_rfl)
theorem cNw (rec : FuncId → List DV → Hp → aH) (n : Nat) (args : List DV) (h : Hp) : aG CF1 rec n 105 args h = cQb rec n (args.getD 0 aT) (args.getD 1 aT) h :=
 (by kernel_rfl : aG CF1 rec n 105 args h = cYp rec n (cf Tryz.f105) x0 (aO CF1 Tryz.f105) (aJ args) h).trans ((congrFun (congrFun (cRr rec n) (aJ args)) h).trans (by kernel_rfl))
noncomputable def aYx (rec : FuncId → List DV → Hp → aH) (n : Nat) (x0 x1 x2 : DV) (h0 : Hp) : aH :=
 bnd (rec 105 [x0, x1] h0) fun v1 h1 =>
 bnd (aD .eql v1 (.i .i64 (Int.ofNat 0)) h1) fun v2 h2 =>
 aS v2 (
  some (.t [(.i .i64 (Int.ofNat 0)), (.i .i64 (Int.ofNat 1))], h2)) (
  bnd (aD .lss x2 (.i .i64 (Int.ofNat 0)) h2) fun v3 h3 =>
  bnd (gD v3 false (some (x2, h3)) h3) fun v4 h4 =>
  bnd (gD v3 false (some (x0, h4)) h4) fun v5 h5 =>
  bnd (gD v3 false (some (x1, h5)) h5) fun v6 h6 =>
  bnd (gD v3 false (rec 52 [v5, v6] h6) h6) fun v7 h7 =>
  bnd (gD v3 false (aD .geq v4 v7 h7) h7) fun v8 h8 =>
  bnd (aM v3 (.b true) v8 h8) fun v9 h9 =>
  aS v9 (
   some (.t [(.i .i64 (Int.ofNat 0)), (.i .i64 (Int.ofNat 5))], h9)) (
   bnd (aD .add v1 (.i .i64 (Int.ofNat 3)) h9) fun v10 h10 =>
   bnd (aD .add v10 x2 h10) fun v11 h11 =>
   some (.t [v11, (.i .i64 (Int.ofNat 0))], h11)))
noncomputable def cVi (rec : FuncId → List DV → Hp → aH) (n : Nat) (c : Code) (X : Nat → K) (k : K) : K := aP CF1 rec 29 n c X (aO CF1 Tryz.f107) k
theorem cUf (rec : FuncId → List DV → Hp → aH) (n : Nat) : cVi rec n (cf Tryz.f107) x0 (aO CF1 Tryz.f107) = (fun (env : aU) (h : Hp) => aYx rec n (env 0) (env 1) (env 2) h) :=
 (by kernel_rfl)
theorem aAb (rec : FuncId → List DV → Hp → aH) (n : Nat) (args : List DV) (h : Hp) : aG CF1 rec n 107 args h = aYx rec n (args.getD 0 aT) (args.getD 1 aT) (args.getD 2 aT) h :=
 (by kernel_rfl : aG CF1 rec n 107 args h = cVi rec n (cf Tryz.f107) x0 (aO CF1 Tryz.f107) (aJ args) h).trans ((congrFun (congrFun (cUf rec n) (aJ args)) h).trans (by kernel_rfl))
noncomputable def cLs (rec : FuncId → List DV → Hp → aH) (n : Nat) (x0 x1 x2 : DV) (h0 : Hp) : aH :=
 bnd (aD .geq x0 x1 h0) fun v1 h1 =>
 bnd (gD v1 true (some (x0, h1)) h1) fun v2 h2 =>
 bnd (gD v1 true (some (x2, h2)) h2) fun v3 h3 =>
 bnd (gD v1 true (aD .leq v2 v3 h3) h3) fun v4 h4 =>
 bnd (aM v1 v4 (.b false) h4) fun v5 h5 =>
 some (v5, h5)
noncomputable def cTt (rec : FuncId → List DV → Hp → aH) (n : Nat) (c : Code) (X : Nat → K) (k : K) : K := aP CF1 rec 15 n c X (aO CF1 Tryz.f108) k
theorem cSd (rec : FuncId → List DV → Hp → aH) (n : Nat) : cTt rec n (cf Tryz.f108) x0 (aO CF1 Tryz.f108) = (fun (env : aU) (h : Hp) => cLs rec n (env 0) (env 1) (env 2) h) :=
 (by kernel_rfl)
theorem cLp (rec : FuncId → List DV → Hp → aH) (n : Nat) (args : List DV) (h : Hp) : aG CF1 rec n 108 args h = cLs rec n (args.getD 0 aT) (args.getD 1 aT) (args.getD 2 aT) h :=
 (by kernel_rfl : aG CF1 rec n 108 args h = cTt rec n (cf Tryz.f108) x0 (aO CF1 Tryz.f108) (aJ args) h).trans ((congrFun (congrFun (cSd rec n) (aJ args)) h).trans (by kernel_rfl))
end Go.Dd

namespace Go.Dd
theorem oG {a b : Nat} : Nat.beq a b = decide (a = b) := by
 cases h : Nat.beq a b with
 | true => simp [Nat.eq_of_beq_eq_true h]
 | false =>
  have : a ≠ b := by intro e; subst e; simp at h
  simp [this]
theorem kO {a b : Nat} : Nat.ble a b = decide (a ≤ b) := by
 cases h : Nat.ble a b with
 | true => simp [Nat.le_of_ble_eq_true h]
 | false =>
  have : ¬ a ≤ b := by intro e; rw [Nat.ble_eq_true_of_le e] at h; cases h
  simp [this]
theorem iJ {a b : Nat} : Nat.blt a b = decide (a < b) := by
 show Nat.ble (a + 1) b = _
 rw [kO]
 simp [Nat.succ_le_iff]
theorem vN (w : Int) : (gO w ≠ 0 ↔ (w % 2 = 0 ∧ 3 ≤ w / 2 ∧ w / 2 ≤ 131072)) ∧ (gO w ≠ 0 → (gO w : Int) = w / 2) ∧ gO w ≤ 131072 := by
 cases w with
 | ofNat w =>
  simp only [gO, oG, kO]
  have e1 : Nat.mod w 2 = w % 2 := rfl
  have e2 : Nat.div w 2 = w / 2 := rfl
  rw [e1, e2]
  by_cases hc : w % 2 = 0 ∧ 6 ≤ w ∧ w ≤ 262144
  ·obtain ⟨h1, h2, h3⟩ := hc
   simp only [h1, h2, h3, decide_true, Bool.and_self, cond_true]
   simp only [Int.ofNat_eq_natCast]
   refine ⟨⟨fun _ => ⟨by omega, by omega, by omega⟩, fun _ => by omega⟩, fun _ => by omega, by omega⟩
  ·have : (decide (w % 2 = 0) && (decide (6 ≤ w) && decide (w ≤ 262144))) = false := by
    rw [← Bool.not_eq_true]
    simpa using hc
   rw [this]
   simp only [cond_false, Int.ofNat_eq_natCast]
   refine ⟨⟨fun h => absurd rfl h, fun h => by omega⟩, fun h => absurd rfl h, by omega⟩
 | negSucc w =>
  simp only [gO]
  refine ⟨⟨fun h => absurd rfl h, fun h => by omega⟩, fun h => absurd rfl h, by omega⟩
theorem aPu (w : Int) : eZ w = decide (w % 2 = 1 ∧ -1073741824 ≤ w / 2 ∧ w / 2 ≤ 1073741823) := by
 rw [Bool.eq_iff_iff, decide_eq_true_iff]
 cases w with
 | ofNat w =>
  simp only [eZ, oG, iJ, Bool.and_eq_true, decide_eq_true_eq]
  have e1 : Nat.mod w 2 = w % 2 := rfl
  rw [e1]
  simp only [Int.ofNat_eq_natCast]
  omega
 | negSucc w =>
  simp only [eZ, oG, iJ, Bool.and_eq_true, decide_eq_true_eq]
  have e1 : Nat.mod w 2 = w % 2 := rfl
  rw [e1]
  omega
theorem aYy (w : Int) : cGt w = w / 2 := by
 cases w with
 | ofNat w => show Int.ofNat (w / 2) = _; simp
 | negSucc w => show Int.negSucc (w / 2) = _; omega
theorem iR (a : Int) (h : -9223372036854775808 ≤ a ∧ a ≤ 9223372036854775807) : IntKind.i64.wrap a = a := by
 simp [IntKind.wrap, IntKind.signed, IntKind.bits, Int.bmod]
 omega
theorem fO (a : Int) : (BitVec.ofInt 64 a).toNat = (a % 18446744073709551616).toNat := by
 rw [BitVec.toNat_ofInt]
 rfl
theorem dCz (w : Int) : IntKind.i64.wrap (((BitVec.ofInt 64 w &&& BitVec.ofInt 64 1).toNat : Nat) : Int) = w % 2 := by
 rw [BitVec.toNat_and, fO, fO]
 rw [show ((1 : Int) % 18446744073709551616).toNat = 1 from rfl, Nat.and_one_is_mod]
 rw [iR _ (by omega)]
 omega
theorem cZv (w : Int) : IntKind.i64.wrap (((BitVec.ofInt 64 w &&& BitVec.ofInt 64 3).toNat : Nat) : Int) = w % 4 := by
 rw [BitVec.toNat_and, fO, fO]
 rw [show ((3 : Int) % 18446744073709551616).toNat = 2 ^ 2 - 1 from rfl, Nat.and_two_pow_sub_one_eq_mod]
 rw [iR _ (by omega)]
 omega
theorem cKr (a : Nat) (k b : Nat) (hb : b < 2 ^ k) (hs : a * 2 ^ k + b < 9223372036854775808) : IntKind.i64.wrap (((BitVec.ofInt 64 ((a * 2 ^ k : Nat) : Int) ||| BitVec.ofInt 64 (b : Int)).toNat : Nat) : Int) = ((a * 2 ^ k + b : Nat) : Int) := by
 have h1 : (BitVec.ofInt 64 ((a * 2 ^ k : Nat) : Int)).toNat = a * 2 ^ k := by rw [fO]; omega
 have h2 : (BitVec.ofInt 64 (b : Int)).toNat = b := by rw [fO]; omega
 rw [BitVec.toNat_or, h1, h2, Nat.mul_comm a, ← Nat.two_pow_add_eq_or_of_lt hb, Nat.mul_comm]
 exact iR _ (by omega)
theorem aHq (a : Int) (b : Int) (hb : 0 ≤ b) : a.fdiv b = a / b := Int.fdiv_eq_ediv_of_nonneg a hb
theorem eI (k : IntKind) (a b : Int) (h : Hp) : aD .eql (.i k a) (.i k b) h = some (.b (a == b), h) := by simp only [aD, if_true, fY]
theorem fZ (k : IntKind) (a b : Int) (h : Hp) : aD .neq (.i k a) (.i k b) h = some (.b (a != b), h) := by simp only [aD, if_true, fY]
theorem dY (k : IntKind) (a b : Int) (h : Hp) : aD .lss (.i k a) (.i k b) h = some (.b (decide (a < b)), h) := by simp only [aD, if_true, fY]
theorem bRg (k : IntKind) (a b : Int) (h : Hp) : aD .leq (.i k a) (.i k b) h = some (.b (decide (a ≤ b)), h) := by simp only [aD, if_true, fY]
theorem gS (k : IntKind) (a b : Int) (h : Hp) : aD .gtr (.i k a) (.i k b) h = some (.b (decide (a > b)), h) := by simp only [aD, if_true, fY]
theorem oL (k : IntKind) (a b : Int) (h : Hp) : aD .geq (.i k a) (.i k b) h = some (.b (decide (a ≥ b)), h) := by simp only [aD, if_true, fY]
theorem kB (a b : Int) (h : Hp) (hr : -9223372036854775808 ≤ a + b ∧ a + b ≤ 9223372036854775807) : aD .add (.i .i64 a) (.i .i64 b) h = some (.i .i64 (a + b), h) := by simp only [aD, if_true, fY, iR _ hr]
theorem cMy (a b : Int) (h : Hp) (hr : -9223372036854775808 ≤ a - b ∧ a - b ≤ 9223372036854775807) : aD .sub (.i .i64 a) (.i .i64 b) h = some (.i .i64 (a - b), h) := by simp only [aD, if_true, fY, iR _ hr]
theorem aVj (w : Int) (h : Hp) : aD .and (.i .i64 w) (.i .i64 (Int.ofNat 1)) h = some (.i .i64 (w % 2), h) := by
 have : fY .and .i64 w (Int.ofNat 1) = some (.i .i64 (w % 2)) := by
  rw [← dCz w]; rfl
 simp only [aD, if_true, this]
theorem bXc (w : Int) (h : Hp) : aD .and (.i .i64 w) (.i .i64 (Int.ofNat 3)) h = some (.i .i64 (w % 4), h) := by
 have : fY .and .i64 w (Int.ofNat 3) = some (.i .i64 (w % 4)) := by
  rw [← cZv w]; rfl
 simp only [aD, if_true, this]
theorem qS (w : Int) (h : Hp) : cV .shr (.i .i64 w) (.i .u64 (Int.ofNat 1)) h = some (.i .i64 (w / 2), h) := by
 have : w.fdiv (2 ^ (min (Int.ofNat 1).toNat IntKind.i64.bits)) = w / 2 := aHq w (2 ^ 1) (by decide)
 simp only [cV, show ¬ ((Int.ofNat 1) < 0) by decide, if_false, this]
theorem cAq (w : Int) (h : Hp) : cV .shr (.i .i64 w) (.i .u64 (Int.ofNat 2)) h = some (.i .i64 (w / 4), h) := by
 have : w.fdiv (2 ^ (min (Int.ofNat 2).toNat IntKind.i64.bits)) = w / 4 := aHq w (2 ^ 2) (by decide)
 simp only [cV, show ¬ ((Int.ofNat 2) < 0) by decide, if_false, this]
theorem aTh (w : Int) (h : Hp) (hr : -4611686018427387904 ≤ w ∧ w ≤ 4611686018427387903) : cV .shl (.i .i64 w) (.i .u64 (Int.ofNat 1)) h = some (.i .i64 (2 * w), h) := by
 have : IntKind.i64.wrap (w * 2 ^ (min (Int.ofNat 1).toNat IntKind.i64.bits)) = 2 * w := by
  rw [show w * 2 ^ (min (Int.ofNat 1).toNat IntKind.i64.bits) = 2 * w from Int.mul_comm w 2]
  exact iR _ (by omega)
 simp only [cV, show ¬ ((Int.ofNat 1) < 0) by decide, if_false, this]
theorem bUc (w : Int) (h : Hp) (hr : -2305843009213693952 ≤ w ∧ w ≤ 2305843009213693951) : cV .shl (.i .i64 w) (.i .u64 (Int.ofNat 2)) h = some (.i .i64 (4 * w), h) := by
 have : IntKind.i64.wrap (w * 2 ^ (min (Int.ofNat 2).toNat IntKind.i64.bits)) = 4 * w := by
  rw [show w * 2 ^ (min (Int.ofNat 2).toNat IntKind.i64.bits) = 4 * w from Int.mul_comm w 4]
  exact iR _ (by omega)
 simp only [cV, show ¬ ((Int.ofNat 2) < 0) by decide, if_false, this]
theorem aLx (r : aH) (h : Hp) : gD (.b true) true r h = r := Eq.trans rfl rfl
theorem gT (r : aH) (h : Hp) : gD (.b false) false r h = r := Eq.trans rfl rfl
theorem gP (r : aH) (h : Hp) : gD (.b true) false r h = some (aT, h) := Eq.trans rfl rfl
theorem uS (r : aH) (h : Hp) : gD (.b false) true r h = some (aT, h) := Eq.trans rfl rfl
theorem bWe (w : Bool) (r : aH) (h : Hp) : gD aT w r h = some (aT, h) := Eq.trans rfl rfl
theorem bA (v : DV) (h : Hp) (k : DV → Hp → aH) : bnd (some (v, h)) k = k v h := Eq.trans rfl rfl
theorem dC (x y : DV) (h : Hp) : aM (.b true) x y h = some (x, h) := Eq.trans rfl rfl
theorem cN (x y : DV) (h : Hp) : aM (.b false) x y h = some (y, h) := Eq.trans rfl rfl
theorem jJ (b : Bool) (h : Hp) : gG .not (.b b) h = some (.b (!b), h) := Eq.trans rfl rfl
theorem cO (a b : aH) : aS (.b true) a b = a := Eq.trans rfl rfl
theorem cF (a b : aH) : aS (.b false) a b = b := Eq.trans rfl rfl
theorem g0 (a : DV) (l : List DV) : (a :: l).getD 0 aT = a := Eq.trans rfl rfl
theorem g1 (a b : DV) (l : List DV) : (a :: b :: l).getD 1 aT = b := Eq.trans rfl rfl
theorem g2 (a b c : DV) (l : List DV) : (a :: b :: c :: l).getD 2 aT = c := Eq.trans rfl rfl
theorem g3 (a b c d : DV) (l : List DV) : (a :: b :: c :: d :: l).getD 3 aT = d := Eq.trans rfl rfl
theorem bV (C : Cfg) (n : Nat) (f : FuncId) (args : List DV) (h : Hp) : eA C (n + 1) f args h = aG C (eA C n) n f args h := Eq.trans rfl rfl
theorem aRc (n : Nat) (a b c : Int) (h : Hp) : eA CF1 (n + 1) 108 [.i .i64 a, .i .i64 b, .i .i64 c] h = some (.b (decide (b ≤ a ∧ a ≤ c)), h) := by
 rw [bV, cLp]
 simp only [cLs, g0, g1, g2, oL, bA]
 by_cases h1 : b ≤ a
 ·simp only [ge_iff_le, h1, decide_true, aLx, bA, bRg, dC, true_and]
 ·simp only [ge_iff_le, h1, decide_false, uS, bA, cN, false_and]
theorem cIg (n : Nat) (w : Int) (h : Hp) : eA CF1 (n + 2) 54 [.i .i64 w] h = some (.b (eZ w), h) := by
 rw [bV, cXz]
 simp only [t54, g0, aVj, bA, eI, aPu]
 by_cases h1 : w % 2 = 1
 ·have e : (w % 2 == Int.ofNat 1) = true := by simpa using h1
  rw [e]
  simp only [aLx, bA, qS, aRc, dC, h1, true_and]
  rfl
 ·have e : (w % 2 == Int.ofNat 1) = false := by simpa using h1
  rw [e]
  simp only [uS, bA, cN, h1, false_and, decide_false]
theorem cRs (n : Nat) (w : Int) (h : Hp) : eA CF1 (n + 2) 63 [.i .i64 w] h = some (.b (!(Nat.beq (gO w) 0)), h) := by
 rw [bV, cXr]
 simp only [t63, g0, aVj, bA, eI, oG]
 have hp := (vN w).1
 by_cases h1 : w % 2 = 0
 ·have e : (w % 2 == Int.ofNat 0) = true := by simpa using h1
  rw [e]
  simp only [aLx, bA, qS, aRc, dC]
  by_cases h2 : gO w = 0
  ·have : ¬ (Int.ofNat 3 ≤ w / 2 ∧ w / 2 ≤ Int.ofNat 131072) := fun h => (hp.2 ⟨h1, h⟩) h2
   simp only [h2, this, decide_true, Bool.not_true, decide_false]
  ·have : Int.ofNat 3 ≤ w / 2 ∧ w / 2 ≤ Int.ofNat 131072 := (hp.1 h2).2
   simp only [h2, this, decide_false, Bool.not_false, and_self, decide_true]
 ·have h2 : gO w = 0 := by
   by_cases h2 : gO w = 0
   ·exact h2
   ·exact absurd (hp.1 h2).1 h1
  have e : (w % 2 == Int.ofNat 0) = false := by simpa using h1
  rw [e]
  simp only [uS, bA, cN, h2, decide_true, Bool.not_true]
theorem cVe (n : Nat) (w : Int) (h : Hp) : eA CF1 (n + 3) 64 [.i .i64 w] h = some (.i .i64 (gO w), h) := by
 rw [bV, cXq]
 simp only [t64, g0, cRs, bA, jJ, oG]
 by_cases h2 : gO w = 0
 ·simp only [h2, decide_true, Bool.not_true, Bool.not_false, cO]; rfl
 ·have hp := (vN w).2.1 h2
  simp only [h2, decide_false, Bool.not_false, Bool.not_true, cF, qS, bA, hp]
theorem cXt (n : Nat) (w : Int) (h : Hp) : eA CF1 (n + 2) 60 [.i .i64 w] h = some (if -1073741824 ≤ w ∧ w ≤ 1073741823 then .t [.i .i64 (2 * w + 1), .b true] else .t [.i .i64 0, .b false], h) := by
 rw [bV, cXw]
 simp only [t60, g0, aRc, bA, jJ]
 by_cases h1 : -1073741824 ≤ w ∧ w ≤ 1073741823
 ·have h1' : Int.negSucc 1073741823 ≤ w ∧ w ≤ Int.ofNat 1073741823 := h1
  rw [if_pos h1]
  simp only [h1', decide_true, and_self, cF, Bool.not_true]
  rw [aTh w h (by omega)]
  have hb : fY .or .i64 (2 * w) (Int.ofNat 1) = some (.i .i64 (2 * w + 1)) := by
   have : IntKind.i64.wrap (((BitVec.ofInt 64 (2 * w) ||| BitVec.ofInt 64 (Int.ofNat 1)).toNat : Nat) : Int) = 2 * w + 1 := by
    rw [BitVec.toNat_or, fO, fO]
    rw [show ((Int.ofNat 1) % 18446744073709551616).toNat = 1 from rfl]
    obtain ⟨q, hq⟩ : ∃ q : Nat, ((2 * w) % 18446744073709551616).toNat = 2 ^ 1 * q := ⟨((2 * w) % 18446744073709551616).toNat / 2, by omega⟩
    rw [hq, ← Nat.two_pow_add_eq_or_of_lt (show 1 < 2 ^ 1 by omega)]
    rw [← hq]
    simp [IntKind.wrap, IntKind.signed, IntKind.bits, Int.bmod]
    omega
   rw [← this]; rfl
  simp only [bA, aD, if_true, hb]
 ·have h1' : ¬ (Int.negSucc 1073741823 ≤ w ∧ w ≤ Int.ofNat 1073741823) := h1
  rw [if_neg h1]
  simp only [h1', decide_false, cO, Bool.not_false]
  rfl
theorem dBq (n : Nat) (w : Int) (h : Hp) : eA CF1 (n + 3) 62 [.i .i64 w] h = some (if eZ w then .i .i64 (w / 2) else .i .i64 0, h) := by
 rw [bV, cUh]
 simp only [t62, g0, cIg, bA, jJ]
 cases eZ w with
 | false => rfl
 | true => simp only [Bool.not_true, cF, qS, bA, if_true]
theorem dDb (n : Nat) (a : Int) (h : Hp) : eA CF1 (n + 2) 75 [.i .i64 a] h = some (if 3 ≤ a ∧ a ≤ 131072 then .t [.i .i64 (2 * a), .b true] else .t [.i .i64 0, .b false], h) := by
 rw [bV, cUc]
 simp only [t75, g0, aRc, bA, jJ]
 by_cases h1 : 3 ≤ a ∧ a ≤ 131072
 ·have h1' : Int.ofNat 3 ≤ a ∧ a ≤ Int.ofNat 131072 := h1
  rw [if_pos h1]
  simp only [h1', decide_true, and_self, cF, Bool.not_true]
  rw [aTh a h (by omega)]
  rfl
 ·have h1' : ¬ (Int.ofNat 3 ≤ a ∧ a ≤ Int.ofNat 131072) := h1
  rw [if_neg h1]
  simp only [h1', decide_false, cO, Bool.not_false]
  rfl
end Go.Dd

namespace Go.Dd
structure ML (m : Pos) (M : MemV) (h : Hp) : Prop where
 row : h.bl.get m = some (.row .ex [.l M.wb 0 M.n M.n, .i .i64 (Int.ofNat M.fin), .i .i64 (Int.ofNat M.made), .m M.pb])
 words : h.bl.get M.wb = some (.row .ex (gE M.n M.t))
 places : ∃ es, h.bl.get M.pb = some (.mp es) ∧ ∀ a : Int, cY (.int .i64) (.i .i64 a) es = some (if 0 ≤ a ∧ M.pl.get a.toNat ≠ 0 then some (.b true) else none)
 n_lt : M.n < 1000000
 fin_le : M.fin ≤ M.n
 made_lt : M.made < 2000000
 d1 : m ≠ M.wb
 d2 : m ≠ M.pb
 d3 : M.wb ≠ M.pb
theorem oY {m : Pos} {M : MemV} {h : Hp} (hm : kI m h = some M) :
  h.bl.get m = some (.row .ex [.l M.wb 0 M.n M.n, .i .i64 (Int.ofNat M.fin), .i .i64 (Int.ofNat M.made), .m M.pb]) ∧ h.bl.get M.wb = some (.big M.n M.t) ∧ h.bl.get M.pb = some (.mi M.pl) ∧ M.n < 1000000 ∧ M.fin ≤ M.n ∧ M.made < 1000000 := by
 unfold kI at hm
 split at hm <;> (try (cases hm; done))
 rename_i wb n c fin made pb hr
 split at hm <;> (try (cases hm; done))
 rename_i n' t pl h1 h2
 cases hb : (Nat.beq n n' && Nat.beq n c) with
 | false => rw [hb] at hm; cases hm
 | true =>
  rw [hb] at hm
  simp only [cond_true] at hm
  cases hc : (Nat.blt n 1000000 && (Nat.ble fin n && Nat.blt made 1000000)) with
  | false => rw [hc] at hm; cases hm
  | true =>
   rw [hc] at hm
   simp only [cond_true, bB] at hm
   subst hm
   simp only [oG, kO, iJ, Bool.and_eq_true, decide_eq_true_eq] at hb hc
   obtain ⟨rfl, rfl⟩ := hb
   exact ⟨hr, h1, h2, hc.1, hc.2.1, hc.2.2⟩
theorem eU {m : Pos} {M : MemV} {h h' : Hp} (hm : kI m h = some M) (S : Sim false h h') : ML m M h' := by
 obtain ⟨h1, h2, h3, h4, h5, h6⟩ := oY hm
 refine ⟨S.row h1, ?_, ?_, h4, h5, by omega, fun e => by (rw [e, h2] at h1; cases h1), fun e => by (rw [e, h3] at h1; cases h1), fun e => by (rw [e, h3] at h2; cases h2)⟩
 ·obtain ⟨o', e1, e2⟩ := S.get _ _ h2
  have e2' : o' = .row .ex (gE M.n M.t) := by simpa [aE, xY] using e2
  rw [e1, e2']
 ·obtain ⟨o', e1, e2⟩ := S.get _ _ h3
  have e2' : ∃ es, o' = .mp es ∧ ∀ a : Int, cY (.int .i64) (.i .i64 a) es = some (if 0 ≤ a ∧ M.pl.get a.toNat ≠ 0 then some (.b true) else none) := by simpa [aE, xY] using e2
  obtain ⟨es, rfl, e3⟩ := e2'
  exact ⟨es, e1, e3⟩
section
variable {m : Pos} {M : MemV} {h : Hp}
theorem fT (b : Pos) (o : Nat) (h : Hp) : aQ (.p b o) h = some (.p b o, h) := Eq.trans rfl rfl
theorem dJ (k : Nat) (b : Pos) (o : Nat) (h : Hp) : aB k (.p b o) h = some (.p b (o + k), h) := Eq.trans rfl rfl
theorem ML.l0 (H : ML m M h) : aA (.p m (0 + 0)) h = some (.l M.wb 0 M.n M.n, h) := by
 simp [aA, cellD, rowOf, H.row, DV.one]
theorem ML.l1 (H : ML m M h) : aA (.p m (0 + 1)) h = some (.i .i64 (Int.ofNat M.fin), h) := by
 simp [aA, cellD, rowOf, H.row, DV.one]
theorem ML.l2 (H : ML m M h) : aA (.p m (0 + 2)) h = some (.i .i64 (Int.ofNat M.made), h) := by
 simp [aA, cellD, rowOf, H.row, DV.one]
theorem ML.l3 (H : ML m M h) : aA (.p m (0 + 3)) h = some (.m M.pb, h) := by
 simp [aA, cellD, rowOf, H.row, DV.one]
theorem jH {n : Nat} {t : WT} {i : Nat} (h : i < n) : (gE n t)[i]? = some (.i .i64 (t.get i)) := by
 simp [gE, h]
theorem ML.ix (H : ML m M h) {a : Nat} (ha : a < M.n) : aI 1 (.l M.wb 0 M.n M.n) (.i .i64 (a : Int)) h = some (.p M.wb a, h) := by
 have : (0 : Int) ≤ (a : Int) ∧ (a : Int) < (M.n : Int) := by omega
 simp [aI, this]
theorem ML.ld (H : ML m M h) {a : Nat} (ha : a < M.n) : aA (.p M.wb a) h = some (.i .i64 (M.t.get a), h) := by
 simp [aA, cellD, rowOf, H.words, jH ha, DV.one]
theorem kC (o : Int) (pl : WT) : cD o pl = 0 ∨ (cD o pl = gO o ∧ gO o ≠ 0) := by
 unfold cD
 by_cases h0 : gO o = 0
 ·simp [h0, oG]
 ·simp only [oG, h0, decide_false, cond_false]
  split
  ·exact .inl rfl
  ·exact .inr ⟨rfl, h0⟩
theorem atN_pos {o : Int} {pl : WT} : (cD o pl ≠ 0) ↔ (gO o ≠ 0 ∧ pl.get (gO o) ≠ 0) := by
 unfold cD
 by_cases h0 : gO o = 0
 ·simp [h0, oG]
 ·simp only [oG, h0, decide_false, cond_false]
  split
  ·rename_i e; simp [e]
  ·rename_i e
   refine ⟨fun _ => ⟨h0, fun e' => e (by rw [e']; rfl)⟩, fun _ => h0⟩
theorem ML.lookup (H : ML m M h) (a : Nat) : dV (.int .i64) (.b false) false (.m M.pb) (.i .i64 (a : Int)) h = some (.b (decide (M.pl.get a ≠ 0)), h) := by
 obtain ⟨es, h1, h2⟩ := H.places
 have := h2 a
 simp only [Int.toNat_natCast] at this
 simp only [dV, fW, h1, this]
 by_cases hc : M.pl.get a = 0
 ·simp [hc]
 ·simp [hc]
theorem kA {r : aH} {v : DV} {h : Hp} (hr : r = some (v, h)) (hv : DV.beq v v = true) : bJ r v = true := by
 rw [hr]; exact hv
theorem cSr (b : Pos) : DV.beq (.m b) (.m b) = true := by simp [DV.beq]
theorem bOf (b : Pos) (o n c : Nat) : DV.beq (.l b o n c) (.l b o n c) = true := by simp [DV.beq]
theorem bXg (H : ML m M h) (n : Nat) (w : Int) : eA CF1 (n + 4) 21 [.p m 0, .i .i64 w] h = some (.b (!(Nat.beq (cD w M.pl) 0)), h) := by
 rw [bV, cYd]
 simp only [t21, g0, g1, cRs, bA, oG]
 by_cases h0 : gO w = 0
 ·have : cD w M.pl = 0 := by
   rcases kC w M.pl with e | ⟨e, e'⟩
   ·exact e
   ·exact absurd h0 e'
  simp only [h0, decide_true, Bool.not_true, uS, bA, this]
  simp [bJ, aT, DV.beq, dEo, cnd, bnd, aM]
 ·simp only [h0, decide_false, Bool.not_false, aLx, bA, fT, dJ, H.l3, cVe]
  rw [kA rfl (cSr _), Bool.and_self]
  simp only [cnd, H.lookup, bA, dC]
  by_cases h1 : M.pl.get (gO w) = 0
  ·have : cD w M.pl = 0 := by
    by_cases e : cD w M.pl = 0
    ·exact e
    ·exact absurd h1 (atN_pos.1 e).2
   simp [h1, this]
  ·have : cD w M.pl ≠ 0 := atN_pos.2 ⟨h0, h1⟩
   simp [h1, this]
theorem cZj (H : ML m M h) (n : Nat) : eA CF1 (n + 1) 22 [.p m 0] h = some (.i .i64 (Int.ofNat M.n), h) := by
 rw [bV, cYl]
 simp only [t22, g0, bA, fT, dJ, H.l0]
 rfl
theorem cWs (H : ML m M h) (n : Nat) : eA CF1 (n + 1) 29 [.p m 0] h = some (.i .i64 (Int.ofNat (M.n - M.fin)), h) := by
 rw [bV, cSs]
 have h1 := H.n_lt
 have h2 := H.fin_le
 have e : bS (.l M.wb 0 M.n M.n) h = some (.i .i64 (M.n : Int), h) := rfl
 simp only [t29, g0, bA, fT, dJ, H.l0, H.l1, e]
 rw [cMy _ _ _ (by simp only [Int.ofNat_eq_natCast]; omega)]
 simp only [bA]
 congr 3
 simp only [Int.ofNat_eq_natCast]
 omega
theorem cSp (H : ML m M h) (n : Nat) (w : Int) : eA CF1 (n + 5) 20 [.p m 0, .i .i64 w] h = some (.b (jM w M.pl), h) := by
 rw [bV, cXf]
 have hm : jM w M.pl = (decide (w = 0) || (decide (w = 2) || (decide (w = 4) || (eZ w || !(Nat.beq (cD w M.pl) 0))))) := by
  unfold jM
  split
  ·simp
  ·simp
  ·simp
  ·rename_i h1 h2 h3
   have e1 : w ≠ 0 := fun e => h1 (by rw [e]; rfl)
   have e2 : w ≠ 2 := fun e => h2 (by rw [e]; rfl)
   have e3 : w ≠ 4 := fun e => h3 (by rw [e]; rfl)
   simp [e1, e2, e3]
 rw [hm]
 simp only [t20, g0, g1, eI, bA]
 have b0 : (w == Int.ofNat 0) = decide (w = 0) := rfl
 have b2 : (w == Int.ofNat 2) = decide (w = 2) := rfl
 have b4 : (w == Int.ofNat 4) = decide (w = 4) := rfl
 rw [b0]
 cases decide (w = 0) with
 | true => simp only [gP, bA, dC, Bool.true_or]
 | false =>
  simp only [gT, bA, eI, cN, b2, Bool.false_or]
  cases decide (w = 2) with
  | true => simp only [gP, bA, dC, Bool.true_or]
  | false =>
   simp only [gT, bA, eI, cN, b4, Bool.false_or]
   cases decide (w = 4) with
   | true => simp only [gP, bA, dC, Bool.true_or]
   | false =>
    simp only [gT, bA, cIg, cN, Bool.false_or]
    cases eZ w with
    | true => simp only [gP, bA, dC, Bool.true_or]
    | false => simp only [gT, bA, bXg H, cN, Bool.false_or]
theorem cYq (H : ML m M h) (n : Nat) (w : Int) : eA CF1 (n + 5) 74 [.p m 0, .i .i64 w] h = some (.b (pE w M.pl), h) := by
 rw [bV, cTy]
 have hm : pE w M.pl = (decide (w = 0) || !(Nat.beq (cD w M.pl) 0)) := by
  unfold pE
  split
  ·simp
  ·rename_i h1
   have e1 : w ≠ 0 := fun e => h1 (by rw [e]; rfl)
   simp [e1]
 rw [hm]
 have b0 : (w == Int.ofNat 0) = decide (w = 0) := rfl
 simp only [t74, g0, g1, eI, bA, b0]
 cases decide (w = 0) with
 | true => simp only [gP, bA, dC, Bool.true_or]
 | false => simp only [gT, bA, bXg H, cN, Bool.false_or]
theorem qH (H : ML m M h) (n : Nat) (w : Int) : eA CF1 (n + 5) 105 [.p m 0, .i .i64 w] h = some (.i .i64 (cD w M.pl), h) := by
 rw [bV, cNw]
 simp only [cQb, g0, g1, bXg H, bA, jJ, oG]
 rcases kC w M.pl with e | ⟨e, e'⟩
 ·simp only [e, decide_true, Bool.not_true, Bool.not_false, cO]; rfl
 ·simp only [e, e', decide_false, Bool.not_false, Bool.not_true, cF, cVe, bA]
theorem qT {o : Int} {k : Nat → aH} {r : DV × Hp} (hh : iC M o k = some r) : cD o M.pl + 1 < M.n ∧ ∃ hd, M.t.get (cD o M.pl) = Int.ofNat hd ∧ hd < 1000000000000 ∧ k hd = some r := by
 unfold iC at hh
 cases hb : Nat.blt (Nat.add (cD o M.pl) 1) M.n with
 | false => rw [hb] at hh; cases hh
 | true =>
  rw [hb] at hh
  simp only [cond_true] at hh
  simp only [iJ, decide_eq_true_eq] at hb
  split at hh <;> (try (cases hh; done))
  rename_i hd he
  cases hc : Nat.blt hd 1000000000000 with
  | false => rw [hc] at hh; cases hh
  | true =>
   rw [hc] at hh
   simp only [iJ, decide_eq_true_eq] at hc
   exact ⟨hb, hd, he, hc, hh⟩
theorem cYz (H : ML m M h) (n : Nat) (o : Int) (ho : cD o M.pl + 1 < M.n) : eA CF1 (n + 6) 50 [.p m 0, .i .i64 o] h = some (.i .i64 (M.t.get (cD o M.pl + 1)), h) := by
 rw [bV, cWo]
 have hn := H.n_lt
 simp only [t50, g0, g1, bA, fT, dJ, H.l0, qH H]
 rw [kA rfl (bOf _ _ _ _), Bool.and_self]
 simp only [cnd]
 rw [kB _ _ _ (by simp only [Int.ofNat_eq_natCast]; omega)]
 have e : (cD o M.pl : Int) + Int.ofNat 1 = ((cD o M.pl + 1 : Nat) : Int) := by simp
 simp only [bA, e, H.ix ho, H.ld ho]
theorem cVb (H : ML m M h) (n : Nat) (o : Int) (ho : cD o M.pl < M.n) : eA CF1 (n + 6) 51 [.p m 0, .i .i64 o] h = some (.i .i64 (M.t.get (cD o M.pl) % 4), h) := by
 rw [bV, cVq]
 simp only [t51, g0, g1, bA, fT, dJ, H.l0, qH H]
 rw [kA rfl (bOf _ _ _ _), Bool.and_self]
 simp only [cnd, bA, H.ix ho, H.ld ho, bXc]
theorem cXv (H : ML m M h) (n : Nat) (o : Int) (ho : cD o M.pl < M.n) : eA CF1 (n + 6) 52 [.p m 0, .i .i64 o] h = some (.i .i64 (M.t.get (cD o M.pl) / 4), h) := by
 rw [bV, cVh]
 simp only [t52, g0, g1, bA, fT, dJ, H.l0, qH H]
 rw [kA rfl (bOf _ _ _ _), Bool.and_self]
 simp only [cnd, bA, H.ix ho, H.ld ho, cAq]
end
end Go.Dd

namespace Go.Dd
section
variable {m : Pos} {M : MemV} {h : Hp}
theorem bBt (H : ML m M h) {o i : Int} {bad : Nat → aH} {k : Nat → Nat → aH} {r : DV × Hp} (hf : gU M o i bad k = some r) :
  (∃ e : Nat, e ≠ 0 ∧ bad e = some r ∧ ∀ n, eA CF1 (n + 7) 107 [.p m 0, .i .i64 o, .i .i64 i] h = some (.t [.i .i64 (Int.ofNat 0), .i .i64 (Int.ofNat e)], h)) ∨
  (∃ hd a : Nat, cD o M.pl ≠ 0 ∧ a < M.n ∧ cD o M.pl + 1 < M.n ∧ M.t.get (cD o M.pl) = Int.ofNat hd ∧ k hd a = some r ∧ ∀ n, eA CF1 (n + 7) 107 [.p m 0, .i .i64 o, .i .i64 i] h = some (.t [.i .i64 (a : Int), .i .i64 (Int.ofNat 0)], h)) := by
 have hn := H.n_lt
 unfold gU at hf
 rw [oG] at hf
 by_cases h0 : cD o M.pl = 0
 ·simp only [h0, decide_true, cond_true] at hf
  refine .inl ⟨1, by omega, hf, fun n => ?_⟩
  rw [bV, aAb]
  simp only [aYx, g0, g1, g2, qH H, bA, eI, h0]
  rfl
 ·simp only [h0, decide_false, cond_false] at hf
  have e0 : ((cD o M.pl : Int) == Int.ofNat 0) = false := by simpa using h0
  cases i with
  | negSucc i =>
   refine .inl ⟨5, by omega, hf, fun n => ?_⟩
   rw [bV, aAb]
   have hlt : decide (Int.negSucc i < Int.ofNat 0) = true := decide_eq_true (Int.negSucc_lt_zero i)
   simp only [aYx, g0, g1, g2, qH H, bA, eI, e0, cF, dY, hlt, gP, dC, cO]
  | ofNat i =>
   dsimp only at hf
   obtain ⟨h1, hd, h2, h3, h4⟩ := qT hf
   rw [kO] at h4
   have hlt : decide (Int.ofNat i < Int.ofNat 0) = false := by simp
   have h52 := fun n => cXv H n o (show cD o M.pl < M.n by omega)
   rw [h2] at h52
   by_cases hi : Nat.div hd 4 ≤ i
   ·simp only [hi, decide_true, cond_true] at h4
    refine .inl ⟨5, by omega, h4, fun n => ?_⟩
    rw [bV, aAb]
    have hge : decide (Int.ofNat i ≥ Int.ofNat hd / 4) = true := by
     have : hd / 4 ≤ i := hi
     simp only [decide_eq_true_eq, Int.ofNat_eq_natCast]
     omega
    simp only [aYx, g0, g1, g2, qH H, bA, eI, e0, cF, dY, hlt, gT, h52, oL, hge, cN, cO]
   ·simp only [hi, decide_false, cond_false] at h4
    rw [iJ] at h4
    by_cases ha : Nat.add (Nat.add (cD o M.pl) 3) i < M.n
    ·simp only [ha, decide_true, cond_true] at h4
     have ha' : cD o M.pl + 3 + i < M.n := ha
     refine .inr ⟨hd, _, h0, ha, h1, h2, h4, fun n => ?_⟩
     rw [bV, aAb]
     have hge : decide (Int.ofNat i ≥ Int.ofNat hd / 4) = false := by
      have : ¬ hd / 4 ≤ i := hi
      simp only [decide_eq_false_iff_not, Int.ofNat_eq_natCast]
      omega
     simp only [aYx, g0, g1, g2, qH H, bA, eI, e0, cF, dY, hlt, gT, h52, oL, hge, cN]
     rw [kB _ _ _ (by simp only [Int.ofNat_eq_natCast]; omega)]
     simp only [bA]
     rw [kB _ _ _ (by simp only [Int.ofNat_eq_natCast]; omega)]
     simp only [bA]
     congr 4
    ·simp only [ha, decide_false, cond_false] at h4
     cases h4
theorem bHf (a b : DV) (h : Hp) : aC 0 (.t [a, b]) h = some (a, h) := Eq.trans rfl rfl
theorem bNf (a b : DV) (h : Hp) : aC 1 (.t [a, b]) h = some (b, h) := Eq.trans rfl rfl
theorem cGu {e : Nat} (he : e ≠ 0) : (Int.ofNat e != Int.ofNat 0) = true := by
 simpa using he
theorem ML.put (H : ML m M h) {a : Nat} (ha : a < M.n) (w : Int) : aF 1 (.p M.wb a) (.i .i64 w) h = some (aT, ⟨h.next, Tr.set (.row .ex (gE M.n (M.t.set a w))) M.wb h.bl⟩) := by
 have hput : ∀ (n : Nat) (l : List DV) (x : DV), (∀ v ∈ l, v.one = true) → x.one = true → n < l.length → fP n l [x] = some (l.set n x) := by
  intro n
  induction n with
  | zero =>
   intro l x hl hx hlt
   cases l with
   | nil => simp at hlt
   | cons y l =>
    have hp : jT l [] = some l := by cases l <;> rfl
    simp [fP, jT, hl y (by simp), hx, hp]
  | succ n ih =>
   intro l x hl hx hlt
   cases l with
   | nil => simp at hlt
   | cons y l =>
    simp only [fP, List.set_cons_succ]
    rw [ih l x (fun v hv => hl v (by simp [hv])) hx (by simpa using hlt)]
    rfl
 have hb : ∀ v ∈ gE M.n M.t, v.one = true := by
  intro v hv
  simp only [gE, List.mem_map] at hv
  obtain ⟨i, _, rfl⟩ := hv
  rfl
 have hlen : (gE M.n M.t).length = M.n := by simp [gE]
 have hset : (gE M.n M.t).set a (.i .i64 w) = gE M.n (M.t.set a w) := by
  apply List.ext_getElem?
  intro i
  rw [List.getElem?_set]
  by_cases hi : i < M.n
  ·rw [jH hi, jH hi, WT.get_set M.t a w i (by have := H.n_lt; omega)]
   by_cases e : a = i
   ·subst e
    simp [hlen, hi]
   ·rw [if_neg e, if_neg (by omega)]
  ·have h1 : (gE M.n M.t)[i]? = none := List.getElem?_eq_none (by omega)
   have h2 : (gE M.n (M.t.set a w))[i]? = none := List.getElem?_eq_none (by simp [gE]; omega)
   rw [h2]
   split
   ·rename_i e; subst e; rw [if_neg (by omega)]
   ·exact h1
 simp only [aF, dT, List.length_singleton, if_true, cZ, H.words, Kind.writable]
 rw [hput a _ _ hb rfl (by omega), hset]
theorem dCs (H : ML m M h) {o i : Int} {k : Nat → aH} {kk : Nat → Nat → aH} {r : DV × Hp} (hf : gU M o i k kk = some r) :
  (∃ e : Nat, k e = some r ∧ ∀ n, eA CF1 (n + 8) 73 [.p m 0, .i .i64 o, .i .i64 i] h = some (.t [.i .i64 (Int.ofNat 0), .i .i64 (Int.ofNat e)], h)) ∨
  (∃ hd a : Nat, kk hd a = some r ∧ ∀ n, eA CF1 (n + 8) 73 [.p m 0, .i .i64 o, .i .i64 i] h = some (.t [.i .i64 (M.t.get a), .i .i64 (Int.ofNat 0)], h)) := by
 rcases bBt H hf with ⟨e, he, h1, h2⟩ | ⟨hd, a, h0, h1, h2, h3, h4, h5⟩
 ·refine .inl ⟨e, h1, fun n => ?_⟩
  rw [bV, cGm]
  simp only [t73, g0, g1, g2, h2, bA, bHf, bNf, fZ, cGu he, cO]
 ·refine .inr ⟨hd, a, h4, fun n => ?_⟩
  rw [bV, cGm]
  have e0 : (Int.ofNat 0 != Int.ofNat 0) = false := rfl
  simp only [t73, g0, g1, g2, h5, bA, bHf, bNf, fZ, e0, cF, fT, dJ, H.l0, H.ix h1, H.ld h1]
end
theorem dZ {args : List DV} {h : Hp} {k : MemV → List DV → aH} {r : DV × Hp} (hr : jP args h k = some r) :
  ∃ m rest M, args = .p m 0 :: rest ∧ kI m h = some M ∧ k M rest = some r := by
 unfold jP at hr
 split at hr <;> (try (cases hr; done))
 rename_i m rest
 split at hr <;> (try (cases hr; done))
 rename_i M hM
 exact ⟨m, rest, M, rfl, hM, hr⟩
theorem cNz (n : Nat) (args : List DV) : SimP false (isF args) (eA CF1 (n + 12) 21 args) := fun h h' S v k e => by
 obtain ⟨m, rest, M, rfl, hM, e⟩ := dZ e
 split at e <;> (try (cases e; done))
 simp only [bB, bL] at e
 obtain ⟨rfl, rfl⟩ := e
 exact ⟨h', bXg (eU hM S) (n + 8) _, S⟩
theorem cCx (n : Nat) (args : List DV) : SimP false (bAx args) (eA CF1 (n + 12) 20 args) := fun h h' S v k e => by
 obtain ⟨m, rest, M, rfl, hM, e⟩ := dZ e
 split at e <;> (try (cases e; done))
 simp only [bB, bL] at e
 obtain ⟨rfl, rfl⟩ := e
 exact ⟨h', cSp (eU hM S) (n + 7) _, S⟩
theorem bOv (n : Nat) (args : List DV) : SimP false (xI args) (eA CF1 (n + 12) 22 args) := fun h h' S v k e => by
 obtain ⟨m, rest, M, rfl, hM, e⟩ := dZ e
 split at e <;> (try (cases e; done))
 simp only [bB, bL] at e
 obtain ⟨rfl, rfl⟩ := e
 exact ⟨h', cZj (eU hM S) (n + 11), S⟩
theorem bFo (n : Nat) (args : List DV) : SimP false (aSl args) (eA CF1 (n + 12) 29 args) := fun h h' S v k e => by
 obtain ⟨m, rest, M, rfl, hM, e⟩ := dZ e
 split at e <;> (try (cases e; done))
 simp only [bB, bL] at e
 obtain ⟨rfl, rfl⟩ := e
 exact ⟨h', cWs (eU hM S) (n + 11), S⟩
theorem aYr (n : Nat) (args : List DV) : SimP false (iU args) (eA CF1 (n + 12) 50 args) := fun h h' S v k e => by
 obtain ⟨m, rest, M, rfl, hM, e⟩ := dZ e
 split at e <;> (try (cases e; done))
 obtain ⟨h1, hd, h2, h3, e⟩ := qT e
 simp only [bB, bL] at e
 obtain ⟨rfl, rfl⟩ := e
 exact ⟨h', cYz (eU hM S) (n + 6) _ h1, S⟩
theorem aJt (n : Nat) (args : List DV) : SimP false (iM args) (eA CF1 (n + 12) 51 args) := fun h h' S v k e => by
 obtain ⟨m, rest, M, rfl, hM, e⟩ := dZ e
 split at e <;> (try (cases e; done))
 obtain ⟨h1, hd, h2, h3, e⟩ := qT e
 simp only [bB, bL] at e
 obtain ⟨rfl, rfl⟩ := e
 refine ⟨h', ?_, S⟩
 rw [cVb (eU hM S) (n + 6) _ (by omega), h2]
 rfl
theorem aKm (n : Nat) (args : List DV) : SimP false (gX args) (eA CF1 (n + 12) 52 args) := fun h h' S v k e => by
 obtain ⟨m, rest, M, rfl, hM, e⟩ := dZ e
 split at e <;> (try (cases e; done))
 obtain ⟨h1, hd, h2, h3, e⟩ := qT e
 simp only [bB, bL] at e
 obtain ⟨rfl, rfl⟩ := e
 refine ⟨h', ?_, S⟩
 rw [cXv (eU hM S) (n + 6) _ (by omega), h2]
 rfl
theorem cAz (n : Nat) (args : List DV) : SimP false (aOb args) (eA CF1 (n + 12) 73 args) := fun h h' S v k e => by
 obtain ⟨m, rest, M, rfl, hM, e⟩ := dZ e
 split at e <;> (try (cases e; done))
 rename_i o i
 rcases dCs (eU hM S) e with ⟨er, e1, e2⟩ | ⟨hd, a, e1, e2⟩
 ·simp only [err, bB, bL] at e1
  obtain ⟨rfl, rfl⟩ := e1
  exact ⟨h', e2 (n + 4), S⟩
 ·simp only [bB, bL] at e1
  obtain ⟨rfl, rfl⟩ := e1
  exact ⟨h', e2 (n + 4), S⟩
theorem aJd (n : Nat) (args : List DV) : SimP false (gA args) (eA CF1 (n + 12) 54 args) := fun h h' S v k e => by
 unfold gA at e
 split at e <;> (try (cases e; done))
 simp only [bB, bL] at e
 obtain ⟨rfl, rfl⟩ := e
 exact ⟨h', cIg (n + 10) _ h', S⟩
theorem aZj (n : Nat) (args : List DV) : SimP false (kT args) (eA CF1 (n + 12) 62 args) := fun h h' S v k e => by
 unfold kT at e
 split at e <;> (try (cases e; done))
 rename_i w
 have hc := dBq (n + 9) w h'
 cases hs : eZ w with
 | true =>
  rw [hs] at e hc
  simp only [cond_true, bB, bL] at e
  obtain ⟨rfl, rfl⟩ := e
  exact ⟨h', by rw [hc, aYy]; rfl, S⟩
 | false =>
  rw [hs] at e hc
  simp only [cond_false, bB, bL] at e
  obtain ⟨rfl, rfl⟩ := e
  exact ⟨h', by rw [hc]; rfl, S⟩
theorem bAo (n : Nat) (args : List DV) : SimP false (kU args) (eA CF1 (n + 12) 60 args) := fun h h' S v k e => by
 unfold kU at e
 split at e <;> (try (cases e; done))
 ·rename_i w
  have hc := cXt (n + 10) (Int.ofNat w) h'
  rw [iJ] at e
  by_cases hw : w < 1073741824
  ·simp only [hw, decide_true, cond_true, bB, bL] at e
   obtain ⟨rfl, rfl⟩ := e
   rw [if_pos (by simp only [Int.ofNat_eq_natCast]; omega)] at hc
   refine ⟨h', ?_, S⟩
   rw [hc]
   have : 2 * Int.ofNat w + 1 = Int.ofNat (Nat.succ (Nat.mul w 2)) := by
    have : Nat.mul w 2 = w * 2 := rfl
    rw [this]
    simp only [Int.ofNat_eq_natCast]; omega
   rw [this]
  ·simp only [hw, decide_false, cond_false, bB, bL] at e
   obtain ⟨rfl, rfl⟩ := e
   rw [if_neg (by simp only [Int.ofNat_eq_natCast]; omega)] at hc
   exact ⟨h', by rw [hc]; rfl, S⟩
 ·rename_i w
  have hc := cXt (n + 10) (Int.negSucc w) h'
  rw [iJ] at e
  by_cases hw : w < 1073741824
  ·simp only [hw, decide_true, cond_true, bB, bL] at e
   obtain ⟨rfl, rfl⟩ := e
   rw [if_pos (by omega)] at hc
   refine ⟨h', ?_, S⟩
   rw [hc]
   have : 2 * Int.negSucc w + 1 = Int.negSucc (Nat.mul w 2) := by
    have : Nat.mul w 2 = w * 2 := rfl
    rw [this]; omega
   rw [this]
  ·simp only [hw, decide_false, cond_false, bB, bL] at e
   obtain ⟨rfl, rfl⟩ := e
   rw [if_neg (by omega)] at hc
   exact ⟨h', by rw [hc]; rfl, S⟩
end Go.Dd

namespace Go.Dd
def Oth (m wb pb : Pos) (h h1 : Hp) : Prop := h1.next = h.next ∧ ∀ b, b ≠ m → b ≠ wb → b ≠ pb → h1.bl.get b = h.bl.get b
theorem Oth.refl (m wb pb : Pos) (h : Hp) : Oth m wb pb h h := ⟨rfl, fun _ _ _ _ => rfl⟩
theorem Oth.trans {m wb pb : Pos} {a b c : Hp} (h : Oth m wb pb a b) (k : Oth m wb pb b c) : Oth m wb pb a c := ⟨k.1.trans h.1, fun x h1 h2 h3 => (k.2 x h1 h2 h3).trans (h.2 x h1 h2 h3)⟩
section
variable {m : Pos} {M : MemV} {h : Hp}
def bCu (M : MemV) : Ob := .row .ex [.l M.wb 0 M.n M.n, .i .i64 (Int.ofNat M.fin), .i .i64 (Int.ofNat M.made), .m M.pb]
theorem ML.setM (H : ML m M h) (M' : MemV) (e1 : M'.wb = M.wb) (e2 : M'.pb = M.pb) (e3 : M'.n = M.n) (e4 : M'.t = M.t) (e5 : M'.pl = M.pl) (h1 : M'.fin ≤ M.n) (h2 : M'.made < 2000000) :
  ML m M' ⟨h.next, Tr.set (bCu M') m h.bl⟩ ∧ Oth m M.wb M.pb h ⟨h.next, Tr.set (bCu M') m h.bl⟩ := by
 refine ⟨⟨by rw [dDw]; rfl, ?_, ?_, by rw [e3]; exact H.n_lt, by rw [e3]; exact h1, h2, by rw [e1]; exact H.d1, by rw [e2]; exact H.d2, by rw [e1, e2]; exact H.d3⟩, rfl, fun b h1 _ _ => dDv _ _ _ _ h1⟩
 ·rw [e1, e3, e4, dDv _ _ _ _ (Ne.symm H.d1)]; exact H.words
 ·rw [e2, e5, dDv _ _ _ _ (Ne.symm H.d2)]; exact H.places
theorem ML.st1 (H : ML m M h) {x : Nat} (hx : x ≤ M.n) : ∃ h1, aF 1 (.p m (0 + 1)) (.i .i64 (Int.ofNat x)) h = some (aT, h1) ∧ ML m { M with fin := x } h1 ∧ Oth m M.wb M.pb h h1 := by
 obtain ⟨a, b⟩ := H.setM { M with fin := x } rfl rfl rfl rfl rfl hx H.made_lt
 exact ⟨_, by simp [aF, dT, cZ, H.row, Kind.writable, fP, jT, DV.one, bCu], a, b⟩
theorem ML.st2 (H : ML m M h) {x : Nat} (hx : x < 2000000) : ∃ h1, aF 1 (.p m (0 + 2)) (.i .i64 (Int.ofNat x)) h = some (aT, h1) ∧ ML m { M with made := x } h1 ∧ Oth m M.wb M.pb h h1 := by
 obtain ⟨a, b⟩ := H.setM { M with made := x } rfl rfl rfl rfl rfl H.fin_le hx
 exact ⟨_, by simp [aF, dT, cZ, H.row, Kind.writable, fP, jT, DV.one, bCu], a, b⟩
theorem ML.setW (H : ML m M h) (t : WT) : ML m { M with t := t } ⟨h.next, Tr.set (.row .ex (gE M.n t)) M.wb h.bl⟩ ∧ Oth m M.wb M.pb h ⟨h.next, Tr.set (.row .ex (gE M.n t)) M.wb h.bl⟩ := by
 refine ⟨⟨?_, by rw [dDw], ?_, H.n_lt, H.fin_le, H.made_lt, H.d1, H.d2, H.d3⟩, rfl, fun b _ h1 _ => dDv _ _ _ _ h1⟩
 ·rw [dDv _ _ _ _ H.d1]; exact H.row
 ·rw [dDv _ _ _ _ (Ne.symm H.d3)]; exact H.places
theorem ML.put' (H : ML m M h) {a : Nat} (ha : a < M.n) (w : Int) : ∃ h1, aF 1 (.p M.wb a) (.i .i64 w) h = some (aT, h1) ∧ ML m { M with t := M.t.set a w } h1 ∧ Oth m M.wb M.pb h h1 :=
 ⟨_, H.put ha w, (H.setW _).1, (H.setW _).2⟩
theorem aZa {a : Int} {es : List (DV × DV)} : ∀ (b : Int) {r r' : Option DV}, cY (.int .i64) (.i .i64 a) es = some r → cY (.int .i64) (.i .i64 b) es = some r' →
  cY (.int .i64) (.i .i64 b) (pM (.int .i64) (.i .i64 a) (.b true) es) = some (if b = a then some (.b true) else r') := by
 induction es with
 | nil =>
  intro b r r' h1 h2
  simp only [cY, bB] at h2
  subst h2
  simp only [pM, cY, lV, if_true]
  by_cases e : b = a
  ·simp [e]
  ·have : (b == a) = false := by simpa using e
   simp [e, this]
 | cons e es ih =>
  intro b r r' h1 h2
  simp only [cY] at h1 h2
  have hk : ∃ c, e.1 = .i .i64 c := by
   obtain ⟨x, y⟩ := e
   cases x <;> simp [lV] at h1
   rename_i k c
   cases k <;> simp at h1
   exact ⟨c, rfl⟩
  obtain ⟨c, hc⟩ := hk
  simp only [hc, lV, if_true] at h1 h2
  simp only [pM, hc, lV, if_true]
  by_cases hac : a = c
  ·subst hac
   simp only [beq_self_eq_true] at h1 ⊢
   simp only [cY, lV, if_true]
   by_cases hba : b = a
   ·subst hba; simp
   ·have : (b == a) = false := by simpa using hba
    simp only [this] at h2 ⊢
    rw [h2]; simp [hba]
  ·have hac' : (a == c) = false := by simpa using hac
   simp only [hac'] at h1 ⊢
   simp only [cY, hc, lV, if_true]
   by_cases hbc : b = c
   ·subst hbc
    simp only [beq_self_eq_true, bB] at h2 ⊢
    rw [if_neg (fun e => hac e.symm), h2]
   ·have hbc' : (b == c) = false := by simpa using hbc
    simp only [hbc'] at h2 ⊢
    exact ih b h1 h2
theorem ML.place (H : ML m M h) {a : Nat} (ha : a < 16000000) : ∃ h1, fL (.int .i64) (.m M.pb) (.i .i64 (a : Int)) (.b true) h = some (aT, h1) ∧ ML m { M with pl := M.pl.set a 1 } h1 ∧ Oth m M.wb M.pb h h1 := by
 obtain ⟨es, h1, h2⟩ := H.places
 refine ⟨⟨h.next, Tr.set (.mp (pM (.int .i64) (.i .i64 (a : Int)) (.b true) es)) M.pb h.bl⟩, by simp [fL, h1, h2 a], ⟨?_, ?_, ⟨_, by rw [dDw], fun b => ?_⟩, H.n_lt, H.fin_le, H.made_lt, H.d1, H.d2, H.d3⟩, rfl, fun b _ _ h1 => dDv _ _ _ _ h1⟩
 ·rw [dDv _ _ _ _ H.d2]; exact H.row
 ·rw [dDv _ _ _ _ H.d3]; exact H.words
 ·rw [aZa b (h2 a) (h2 b)]
  congr 1
  by_cases e : b = (a : Int)
  ·subst e
   simp [WT.get_set _ _ _ _ ha]
  ·rw [if_neg e]
   by_cases hb : 0 ≤ b
   ·have : b.toNat ≠ a := by omega
    rw [WT.get_set _ _ _ _ ha, if_neg this]
   ·simp [hb]
theorem bUb {h' h1 : Hp} {M' : MemV} (S : Sim false h h') (hM : kI m h = some M) (H1 : ML m M' h1) (e1 : M'.wb = M.wb) (e2 : M'.pb = M.pb) (e3 : M'.n = M.n) (O : Oth m M.wb M.pb h' h1) :
  Sim false ⟨h.next, Tr.set (bCu M') m (Tr.set (.mi M'.pl) M.pb (Tr.set (.big M.n M'.t) M.wb h.bl))⟩ h1 := by
 have H := eU hM S
 refine ⟨O.1.trans S.next, fun b o hb => ?_⟩
 by_cases b1 : b = m
 ·subst b1
  simp only [dDw, bB] at hb
  subst hb
  exact ⟨_, H1.row, rfl⟩
 ·simp only [dDv _ _ _ _ b1] at hb
  by_cases b2 : b = M.pb
  ·subst b2
   simp only [dDw, bB] at hb
   subst hb
   obtain ⟨es, p1, p2⟩ := H1.places
   rw [e2] at p1
   exact ⟨_, p1, by simp only [xY]; exact ⟨es, rfl, p2⟩⟩
  ·simp only [dDv _ _ _ _ b2] at hb
   by_cases b3 : b = M.wb
   ·subst b3
    simp only [dDw, bB] at hb
    subst hb
    have := H1.words
    rw [e1, e3] at this
    exact ⟨_, this, by simp [xY]⟩
   ·simp only [dDv _ _ _ _ b3] at hb
    rw [O.2 b b1 b3 b2]
    exact S.get b o hb
theorem bAq {h' h1 : Hp} {t : WT} (S : Sim false h h') (hM : kI m h = some M) (H1 : ML m { M with t := t } h1) (O : Oth m M.wb M.pb h' h1) (hm : h1.bl.get m = h'.bl.get m) (hp : h1.bl.get M.pb = h'.bl.get M.pb) :
  Sim false ⟨h.next, Tr.set (.big M.n t) M.wb h.bl⟩ h1 := by
 refine ⟨O.1.trans S.next, fun b o hb => ?_⟩
 by_cases b3 : b = M.wb
 ·subst b3
  simp only [dDw, bB] at hb
  subst hb
  exact ⟨_, H1.words, by simp [xY]⟩
 ·simp only [dDv _ _ _ _ b3] at hb
  by_cases b1 : b = m
  ·subst b1; rw [hm]; exact S.get _ o hb
  ·by_cases b2 : b = M.pb
   ·subst b2; rw [hp]; exact S.get _ o hb
   ·rw [O.2 b b1 b3 b2]
    exact S.get b o hb
end
theorem aHy {m : Pos} {M : MemV} {h h' : Hp} (S : Sim false h h') (hM : kI m h = some M) {a : Nat} (ha : a < M.n) (w : Int) {v : DV} {k : Hp} (hp : lD M a w h = some (v, k)) :
  v = .i .i64 (Int.ofNat 0) ∧ ∃ h1, aF 1 (.p M.wb a) (.i .i64 w) h' = some (aT, h1) ∧ Sim false k h1 := by
 have H := eU hM S
 simp only [lD, bB, bL] at hp
 obtain ⟨rfl, rfl⟩ := hp
 refine ⟨rfl, _, H.put ha w, bAq S hM (H.setW _).1 (H.setW _).2 ?_ ?_⟩
 ·exact dDv _ _ _ _ H.d1
 ·exact dDv _ _ _ _ (Ne.symm H.d3)
theorem bWg (n : Nat) (args : List DV) : SimP false (wQ args) (eA CF1 (n + 12) 47 args) := fun h h' S v k e => by
 obtain ⟨m, rest, M, rfl, hM, e⟩ := dZ e
 split at e <;> (try (cases e; done))
 rename_i o i w _
 have H := eU hM S
 rw [bV, cTm]
 simp only [t47, aRj, g0, g1, g2, g3]
 rcases bBt H e with ⟨er, he, e1, e2⟩ | ⟨hd, a, h0, h1, h2, h3, e1, e2⟩
 ·simp only [bB, bL] at e1
  obtain ⟨rfl, rfl⟩ := e1
  refine ⟨h', ?_, S⟩
  simp only [e2 (n + 4), bA, bHf, bNf, aHk, fZ, cGu he, cO]
 ·have e0 : (Int.ofNat 0 != Int.ofNat 0) = false := rfl
  have h51 := cVb H (n + 5) o (show cD o M.pl < M.n by omega)
  rw [h3] at h51
  simp only [e2 (n + 4), bA, bHf, bNf, aHk, fZ, e0, cF, aUr, h51, eI]
  have hmod : Int.ofNat hd % 4 = Int.ofNat (Nat.mod hd 4) := rfl
  have h4 : pV (eA CF1 (n + 11)) (n + 11) (.p m 0) (.i .i64 w) (.i .i64 (a : Int)) h' = bnd (aF 1 (.p M.wb a) (.i .i64 w) h') fun _ h5 => some (.i .i64 (Int.ofNat 0), h5) := by
   simp only [pV, fT, dJ, bA, H.l0, H.ix h1]
  have hput : lD M a w h = some (v, k) → ∃ h1, pV (eA CF1 (n + 11)) (n + 11) (.p m 0) (.i .i64 w) (.i .i64 (a : Int)) h' = some (v, h1) ∧ Sim false k h1 := by
   intro hp
   obtain ⟨rfl, h1', p1, p2⟩ := aHy S hM h1 w hp
   exact ⟨h1', by rw [h4, p1]; rfl, p2⟩
  rw [hmod]
  split at e1
  ·rename_i hz
   rw [hz]
   have : (Int.ofNat 0 == Int.ofNat 0) = true := rfl
   simp only [this, cO, cSp H, bA, jJ]
   cases hmay : jM w M.pl with
   | true =>
    rw [hmay] at e1
    simp only [cond_true] at e1
    simp only [Bool.not_true, cF]
    exact hput e1
   | false =>
    rw [hmay] at e1
    simp only [cond_false, bB, bL] at e1
    obtain ⟨rfl, rfl⟩ := e1
    exact ⟨h', rfl, S⟩
  ·rename_i hz
   rw [hz]
   have q0 : (Int.ofNat 2 == Int.ofNat 0) = false := rfl
   have q2 : (Int.ofNat 2 == Int.ofNat 2) = true := rfl
   simp only [q0, cF, bA, q2, cO, dY]
   cases w with
   | negSucc c =>
    simp only [bB, bL] at e1
    obtain ⟨rfl, rfl⟩ := e1
    have hlt : decide (Int.negSucc c < Int.ofNat 0) = true := decide_eq_true (Int.negSucc_lt_zero c)
    simp only [hlt, gP, bA, dC, cO]
    exact ⟨h', rfl, S⟩
   | ofNat c =>
    dsimp only at e1
    have hlt : decide (Int.ofNat c < Int.ofNat 0) = false := by simp
    simp only [hlt, gT, bA, cN, gS]
    rw [kO] at e1
    by_cases hc : c ≤ 255
    ·simp only [hc, decide_true, cond_true] at e1
     have hgt : decide (Int.ofNat c > Int.ofNat 255) = false := by
      simp only [decide_eq_false_iff_not, Int.ofNat_eq_natCast]; omega
     simp only [hgt, cF]
     exact hput e1
    ·simp only [hc, decide_false, cond_false, bB, bL] at e1
     obtain ⟨rfl, rfl⟩ := e1
     have hgt : decide (Int.ofNat c > Int.ofNat 255) = true := by
      simp only [decide_eq_true_eq, Int.ofNat_eq_natCast]; omega
     simp only [hgt, cO]
     exact ⟨h', rfl, S⟩
  ·rename_i hz0 hz2
   have q0 : (Int.ofNat (Nat.mod hd 4) == Int.ofNat 0) = false := by
    simp only [beq_eq_false_iff_ne, ne_eq, Int.ofNat_eq_natCast]
    intro e; exact hz0 (by exact_mod_cast e)
   have q2 : (Int.ofNat (Nat.mod hd 4) == Int.ofNat 2) = false := by
    simp only [beq_eq_false_iff_ne, ne_eq, Int.ofNat_eq_natCast]
    intro e; exact hz2 (by exact_mod_cast e)
   simp only [q0, cF, bA, q2, cF]
   exact hput e1
theorem aCb (n : Nat) (args : List DV) : SimP false (jG args) (eA CF1 (n + 12) 44 args) := fun h h' S v k e => by
 obtain ⟨m, rest, M, rfl, hM, e⟩ := dZ e
 split at e <;> (try (cases e; done))
 rename_i o c _
 have H := eU hM S
 rw [bV, cSk]
 simp only [t44, g0, g1, g2, qH H, bA, eI]
 rw [oG] at e
 by_cases h0 : cD o M.pl = 0
 ·simp only [h0, decide_true, Bool.true_or, cond_true, bB, bL] at e
  obtain ⟨rfl, rfl⟩ := e
  have : ((0 : Nat) : Int) = Int.ofNat 0 := rfl
  have q : (((cD o M.pl : Nat) : Int) == Int.ofNat 0) = true := by rw [h0]; rfl
  simp only [q, gP, bA, dC, cO]
  exact ⟨h', rfl, S⟩
 ·have q : (((cD o M.pl : Nat) : Int) == Int.ofNat 0) = false := by simpa using h0
  simp only [q, gT, bA, cN, cYq H, jJ]
  cases hc : pE c M.pl with
  | false =>
   rw [hc] at e
   simp only [h0, decide_false, Bool.not_false, Bool.false_or, cond_true, bB, bL] at e
   obtain ⟨rfl, rfl⟩ := e
   simp only [Bool.not_false, cO]
   exact ⟨h', rfl, S⟩
  | true =>
   rw [hc] at e
   simp only [h0, decide_false, Bool.not_true, Bool.false_or, cond_false] at e
   rw [iJ] at e
   by_cases ha : Nat.add (cD o M.pl) 1 < M.n
   ·simp only [ha, decide_true, cond_true] at e
    have ha' : cD o M.pl + 1 < M.n := ha
    have hn := H.n_lt
    simp only [Bool.not_true, cF, fT, dJ, bA, H.l0]
    rw [kB _ _ _ (by simp only [Int.ofNat_eq_natCast]; omega)]
    have ee : (cD o M.pl : Int) + Int.ofNat 1 = ((cD o M.pl + 1 : Nat) : Int) := by simp
    obtain ⟨rfl, h1', p1, p2⟩ := aHy S hM ha' c e
    simp only [bA, ee, H.ix ha', p1]
    exact ⟨h1', rfl, p2⟩
   ·simp only [ha, decide_false, cond_false] at e
    cases e
end Go.Dd

namespace Go.Dd
theorem iQ (a b : Nat) (h : Hp) (hr : a + b < 4611686018427387904) : aD .add (.i .i64 (Int.ofNat a)) (.i .i64 (Int.ofNat b)) h = some (.i .i64 (Int.ofNat (a + b)), h) := by
 rw [kB _ _ _ (by simp only [Int.ofNat_eq_natCast]; omega)]
 rfl
theorem cNt (c f : Nat) (h : Hp) (hc : c ≤ 256) (hf : f ≤ 2) : aD .or (.i .i64 (4 * Int.ofNat c)) (.i .i64 (Int.ofNat f)) h = some (.i .i64 (Int.ofNat (c * 4 + f)), h) := by
 have hb : fY .or .i64 (4 * Int.ofNat c) (Int.ofNat f) = some (.i .i64 (Int.ofNat (c * 4 + f))) := by
  have := cKr c 2 f (by omega) (by omega)
  have e1 : ((c * 2 ^ 2 : Nat) : Int) = 4 * Int.ofNat c := by simp only [Int.ofNat_eq_natCast]; omega
  have e2 : ((c * 2 ^ 2 + f : Nat) : Int) = Int.ofNat (c * 4 + f) := rfl
  rw [e1, e2] at this
  rw [← this]; rfl
 simp only [aD, if_true, hb]
theorem pP (t : WT) : ∀ (c a j : Nat), a + c < 16000000 → (kM t c a).get j = if a ≤ j ∧ j < a + c then 0 else t.get j
 | 0, a, j, h => by rw [if_neg (by omega)]; rfl
 | c + 1, a, j, h => by
  have e : kM t (c + 1) a = (kM t c (a + 1)).set a (.ofNat 0) := rfl
  rw [e, WT.get_set _ _ _ _ (by omega), pP t c (a + 1) j (by omega)]
  by_cases h1 : j = a
  ·rw [if_pos h1, if_pos (by omega)]; rfl
  ·rw [if_neg h1]
   by_cases h2 : a + 1 ≤ j ∧ j < a + 1 + c
   ·rw [if_pos h2, if_pos (by omega)]
   ·rw [if_neg h2, if_neg (by omega)]
theorem aUm : ∀ (l vs : List DV), (∀ v ∈ l, v.one = true) → (∀ v ∈ vs, v.one = true) → vs.length ≤ l.length → ∃ l', jT l vs = some l'
 | l, [], _, _, _ => ⟨l, by cases l <;> rfl⟩
 | [], v :: vs, _, _, h => by simp at h
 | x :: l, v :: vs, h1, h2, h3 => by
  obtain ⟨l', e⟩ := aUm l vs (fun u hu => h1 u (by simp [hu])) (fun u hu => h2 u (by simp [hu])) (by simpa using h3)
  exact ⟨v :: l', by simp [jT, h1 x (by simp), h2 v (by simp), e]⟩
theorem aHd : ∀ (o : Nat) (l vs : List DV), (∀ v ∈ l, v.one = true) → (∀ v ∈ vs, v.one = true) → o + vs.length ≤ l.length → ∃ l', fP o l vs = some l'
 | 0, l, vs, h1, h2, h3 => by
  obtain ⟨l', e⟩ := aUm l vs h1 h2 (by omega)
  exact ⟨l', e⟩
 | o + 1, [], vs, h1, h2, h3 => by simp at h3
 | o + 1, x :: l, vs, h1, h2, h3 => by
  obtain ⟨l', e⟩ := aHd o l vs (fun u hu => h1 u (by simp [hu])) h2 (by simp at h3; omega)
  exact ⟨x :: l', by simp [fP, e]⟩
section
variable {m : Pos} {M : MemV} {h : Hp}
theorem bBe {n : Nat} {t : WT} : ∀ v ∈ gE n t, v.one = true := by
 intro v hv
 simp only [gE, List.mem_map] at hv
 obtain ⟨i, _, rfl⟩ := hv
 rfl
theorem ML.ix' (H : ML m M h) {a : Nat} (ha : a < M.n) : aI 1 (.l M.wb 0 M.n M.n) (.i .i64 (Int.ofNat a)) h = some (.p M.wb a, h) := H.ix ha
theorem uC (c : Nat) : (List.replicate c [DV.i .i64 (Int.ofNat 0)]).flatten = List.replicate c (.i .i64 (Int.ofNat 0)) := by
 induction c with
 | zero => rfl
 | succ c ih => simp [List.replicate_succ, ih]
theorem ML.clear (H : ML m M h) {a c : Nat} (hac : a + c ≤ M.n) : ∃ v h1, cI 1 (.l M.wb 0 M.n M.n) (some (.i .i64 (Int.ofNat a))) (some (.i .i64 (Int.ofNat (a + c)))) h = some (v, h) ∧
  iE [.i .i64 (Int.ofNat 0)] v h = some (.t [], h1) ∧ ML m { M with t := kM M.t c a } h1 ∧ Oth m M.wb M.pb h h1 := by
 have hn := H.n_lt
 have e1 : fU (.i .i64 (Int.ofNat (a + c))) M.n = some (a + c) := by
  have : (0 : Int) ≤ Int.ofNat (a + c) ∧ Int.ofNat (a + c) ≤ (M.n : Int) := by simp only [Int.ofNat_eq_natCast]; omega
  simp only [fU, this, and_self, if_true]
  rfl
 have e2 : fU (.i .i64 (Int.ofNat a)) (a + c) = some a := by
  have : (0 : Int) ≤ Int.ofNat a ∧ Int.ofNat a ≤ ((a + c : Nat) : Int) := by simp only [Int.ofNat_eq_natCast]; omega
  simp only [fU, this, and_self, if_true]
  rfl
 refine ⟨.l M.wb (if M.n = a then 0 else 0 + a * 1) (a + c - a) (M.n - a), ?_⟩
 have hs : cI 1 (.l M.wb 0 M.n M.n) (some (.i .i64 (Int.ofNat a))) (some (.i .i64 (Int.ofNat (a + c)))) h = some (.l M.wb (if M.n = a then 0 else 0 + a * 1) (a + c - a) (M.n - a), h) := by
  simp only [cI, hiD, loD, e1, e2, H.words]
 by_cases hc : c = 0
 ·subst hc
  refine ⟨h, hs, by simp [iE], H, Oth.refl _ _ _ _⟩
 ·obtain ⟨l', hl'⟩ := aHd a (gE M.n M.t) (List.replicate c (.i .i64 (Int.ofNat 0))) bBe (fun v hv => by rw [List.eq_of_mem_replicate hv]; rfl) (by simp [gE]; omega)
  obtain ⟨p1, p2, p3, p4, p5⟩ := kG _ _ _ _ hl'
  have hll : l' = gE M.n (kM M.t c a) := by
   apply List.ext_getElem?
   intro j
   by_cases hj : j < M.n
   ·rw [jH hj, pP _ _ _ _ (by omega)]
    by_cases hin : a ≤ j ∧ j < a + c
    ·rw [if_pos hin]
     obtain ⟨q1, _⟩ := p4 (j - a) (.i .i64 (Int.ofNat 0)) (by rw [List.getElem?_replicate, if_pos (by omega)])
     rw [show a + (j - a) = j from by omega] at q1
     exact q1
    ·rw [if_neg hin, p5 j (by rw [List.length_replicate]; omega), jH hj]
   ·rw [List.getElem?_eq_none (by rw [p1]; simp [gE]; omega), List.getElem?_eq_none (by simp [gE]; omega)]
  refine ⟨⟨h.next, Tr.set (.row .ex (gE M.n (kM M.t c a))) M.wb h.bl⟩, hs, ?_, (H.setW _).1, (H.setW _).2⟩
  have hna : M.n ≠ a := by omega
  rw [if_neg hna]
  simp only [iE, show a + c - a = c from by omega, hc, if_false, uC, cZ, H.words, Kind.writable, if_true, Nat.zero_add, Nat.mul_one, hl', hll]
end
noncomputable def aQn (rec : FuncId → List DV → Hp → aH) (x0 x3 v26 : DV) (h0 : Hp) : aH :=
 bnd (aQ x0 h0) fun v64 h64 =>
 bnd (aB 1 v64 h64) fun v65 h65 =>
 bnd (aA v65 h65) fun v66 h66 =>
 bnd (aD .add x3 (.i .i64 (Int.ofNat 3)) h66) fun v67 h67 =>
 bnd (aD .add v66 v67 h67) fun v68 h68 =>
 bnd (aQ x0 h68) fun v69 h69 =>
 bnd (aB 1 v69 h69) fun v70 h70 =>
 bnd (aF 1 v70 v68 h70) fun _ h71 =>
 bnd (aQ x0 h71) fun v72 h72 =>
 bnd (aB 3 v72 h72) fun v73 h73 =>
 bnd (aA v73 h73) fun v74 h74 =>
 bnd (fL (.int .i64) v74 v26 (.b true) h74) fun _ h75 =>
 bnd (rec 75 [v26] h75) fun v76 h76 =>
 bnd (aC 0 v76 h76) fun v77 h77 =>
 bnd (aC 1 v76 h77) fun v78 h78 =>
 some (.t [v77, (.i .i64 (Int.ofNat 0))], h78)
noncomputable def aWx (rec : FuncId → List DV → Hp → aH) (x0 x3 v26 : DV) (h0 : Hp) : aH :=
 bnd (aQ x0 h0) fun v56 h56 =>
 bnd (aB 0 v56 h56) fun v57 h57 =>
 bnd (aA v57 h57) fun v58 h58 =>
 bnd (aD .add v26 (.i .i64 (Int.ofNat 3)) h58) fun v59 h59 =>
 bnd (aD .add v26 (.i .i64 (Int.ofNat 3)) h59) fun v60 h60 =>
 bnd (aD .add v60 x3 h60) fun v61 h61 =>
 bnd (cI 1 v58 (some v59) (some v61) h61) fun v62 h62 =>
 bnd (iE [(.i .i64 (Int.ofNat 0))] v62 h62) fun _ h63 =>
 aQn rec x0 x3 v26 h63
noncomputable def aSz (rec : FuncId → List DV → Hp → aH) (x0 x1 x2 x3 v26 : DV) (h0 : Hp) : aH :=
 bnd (aQ x0 h0) fun v34 h34 =>
 bnd (aB 0 v34 h34) fun v35 h35 =>
 bnd (aA v35 h35) fun v36 h36 =>
 bnd (aQ x0 h36) fun v37 h37 =>
 bnd (aB 0 v37 h37) fun v38 h38 =>
 bnd (aA v38 h38) fun v39 h39 =>
 bnd (aD .add v26 (.i .i64 (Int.ofNat 1)) h39) fun v40 h40 =>
 bnd (aQ x0 h40) fun v41 h41 =>
 bnd (aB 0 v41 h41) fun v42 h42 =>
 bnd (aA v42 h42) fun v43 h43 =>
 bnd (aD .add v26 (.i .i64 (Int.ofNat 2)) h43) fun v44 h44 =>
 bnd (cV .shl x3 (.i .u64 (Int.ofNat 2)) h44) fun v45 h45 =>
 bnd (aD .or v45 x2 h45) fun v46 h46 =>
 bnd (aQ x0 h46) fun v47 h47 =>
 bnd (aB 2 v47 h47) fun v48 h48 =>
 bnd (aA v48 h48) fun v49 h49 =>
 bnd (aI 1 v36 v26 h49) fun v50 h50 =>
 bnd (aF 1 v50 v46 h50) fun v51 h51 =>
 bnd (aI 1 v39 v40 h51) fun v52 h52 =>
 bnd (aF 1 v52 x1 h52) fun v53 h53 =>
 bnd (aI 1 v43 v44 h53) fun v54 h54 =>
 bnd (aF 1 v54 v49 h54) fun v55 h55 =>
 aWx rec x0 x3 v26 h55
noncomputable def aAw (rec : FuncId → List DV → Hp → aH) (x0 x1 x2 x3 : DV) (h0 : Hp) : aH :=
 bnd (aQ x0 h0) fun v24 h24 =>
 bnd (aB 1 v24 h24) fun v25 h25 =>
 bnd (aA v25 h25) fun v26 h26 =>
 bnd (aQ x0 h26) fun v27 h27 =>
 bnd (aB 2 v27 h27) fun v28 h28 =>
 bnd (aA v28 h28) fun v29 h29 =>
 bnd (aD .add v29 (.i .i64 (Int.ofNat 1)) h29) fun v30 h30 =>
 bnd (aQ x0 h30) fun v31 h31 =>
 bnd (aB 2 v31 h31) fun v32 h32 =>
 bnd (aF 1 v32 v30 h32) fun _ h33 =>
 aSz rec x0 x1 x2 x3 v26 h33
theorem cKp (rec : FuncId → List DV → Hp → aH) (n : Nat) (x0 x1 x2 x3 : DV) (h0 : Hp) : t30 rec n x0 x1 x2 x3 h0 = (
 bnd (rec 74 [x0, x1] h0) fun v1 h1 =>
 bnd (gG .not v1 h1) fun v2 h2 =>
 bnd (gD v2 false (some (x2, h2)) h2) fun v3 h3 =>
 bnd (gD v2 false (aD .lss v3 (.i .i64 (Int.ofNat 0)) h3) h3) fun v4 h4 =>
 bnd (aM v2 (.b true) v4 h4) fun v5 h5 =>
 bnd (gD v5 false (some (x2, h5)) h5) fun v6 h6 =>
 bnd (gD v5 false (aD .gtr v6 (.i .i64 (Int.ofNat 2)) h6) h6) fun v7 h7 =>
 bnd (aM v5 (.b true) v7 h7) fun v8 h8 =>
 bnd (gD v8 false (some (x3, h8)) h8) fun v9 h9 =>
 bnd (gD v8 false (aD .lss v9 (.i .i64 (Int.ofNat 0)) h9) h9) fun v10 h10 =>
 bnd (aM v8 (.b true) v10 h10) fun v11 h11 =>
 bnd (gD v11 false (some (x3, h11)) h11) fun v12 h12 =>
 bnd (gD v11 false (aD .gtr v12 (.i .i64 (Int.ofNat 256)) h12) h12) fun v13 h13 =>
 bnd (aM v11 (.b true) v13 h13) fun v14 h14 =>
 aS v14 (
 some (.t [(.i .i64 (Int.ofNat 0)), (.i .i64 (Int.ofNat 1))], h14)) (
 bnd (rec 29 [x0] h14) fun v15 h15 =>
 bnd (aD .add x3 (.i .i64 (Int.ofNat 3)) h15) fun v16 h16 =>
 bnd (aD .lss v15 v16 h16) fun v17 h17 =>
 bnd (gD v17 false (some (x0, h17)) h17) fun v18 h18 =>
 bnd (gD v17 false (aQ v18 h18) h18) fun v19 h19 =>
 bnd (gD v17 false (aB 2 v19 h19) h19) fun v20 h20 =>
 bnd (gD v17 false (aA v20 h20) h20) fun v21 h21 =>
 bnd (gD v17 false (aD .geq v21 (.i .i64 (Int.ofNat 1099511627776)) h21) h21) fun v22 h22 =>
 bnd (aM v17 (.b true) v22 h22) fun v23 h23 =>
 aS v23 (
 some (.t [(.i .i64 (Int.ofNat 0)), (.i .i64 (Int.ofNat 4))], h23)) (
 aAw rec x0 x1 x2 x3 h23))) := rfl
section
variable {m : Pos} {M : MemV} {h : Hp}
theorem bFf (H : ML m M h) {c : Nat} (hr : M.fin + (c + 3) ≤ M.n) (ha : 3 ≤ M.fin ∧ M.fin ≤ 131072) (n : Nat) :
  ∃ h1, aQn (eA CF1 (n + 11)) (.p m 0) (.i .i64 (Int.ofNat c)) (.i .i64 (Int.ofNat M.fin)) h = some (.t [.i .i64 (Int.ofNat (Nat.mul M.fin 2)), .i .i64 (Int.ofNat 0)], h1) ∧
   ML m { M with fin := M.fin + (c + 3), pl := M.pl.set M.fin 1 } h1 ∧ Oth m M.wb M.pb h h1 := by
 have hn := H.n_lt
 simp only [aQn, fT, dJ, bA, H.l1, iQ c 3 _ (show c + 3 < 4611686018427387904 by omega), iQ M.fin (c + 3) _ (show M.fin + (c + 3) < 4611686018427387904 by omega)]
 obtain ⟨h6, s6, H6, O6⟩ := H.st1 (x := M.fin + (c + 3)) hr
 simp only [s6, bA, H6.l3]
 obtain ⟨h7, s7, H7, O7⟩ := H6.place (a := M.fin) (by omega)
 rw [show fL (.int .i64) (.m M.pb) (.i .i64 (Int.ofNat M.fin)) (.b true) h6 = some (aT, h7) from s7]
 have hp : 3 ≤ Int.ofNat M.fin ∧ Int.ofNat M.fin ≤ 131072 := by simp only [Int.ofNat_eq_natCast]; omega
 have e2 : 2 * Int.ofNat M.fin = Int.ofNat (Nat.mul M.fin 2) := by
  have : Nat.mul M.fin 2 = M.fin * 2 := rfl
  rw [this]; simp only [Int.ofNat_eq_natCast]; omega
 have h75 := dDb (n + 9) (Int.ofNat M.fin) h7
 rw [if_pos hp, e2] at h75
 simp only [bA, h75, bHf, bNf]
 exact ⟨h7, rfl, H7, O6.trans O7⟩
theorem bGq (H : ML m M h) {c : Nat} (hr : M.fin + (c + 3) ≤ M.n) (n : Nat) :
  ∃ h1, aWx (eA CF1 (n + 11)) (.p m 0) (.i .i64 (Int.ofNat c)) (.i .i64 (Int.ofNat M.fin)) h = aQn (eA CF1 (n + 11)) (.p m 0) (.i .i64 (Int.ofNat c)) (.i .i64 (Int.ofNat M.fin)) h1 ∧
   ML m { M with t := kM M.t c (M.fin + 3) } h1 ∧ Oth m M.wb M.pb h h1 := by
 have hn := H.n_lt
 obtain ⟨vv, h5, s5, s5', H5, O5⟩ := H.clear (a := M.fin + 3) (c := c) (show M.fin + 3 + c ≤ M.n by omega)
 refine ⟨h5, ?_, H5, O5⟩
 simp only [aWx, fT, dJ, bA, H.l0, iQ M.fin 3 _ (show M.fin + 3 < 4611686018427387904 by omega), iQ (M.fin + 3) c _ (show M.fin + 3 + c < 4611686018427387904 by omega), s5, s5']
theorem bIw (H : ML m M h) {cls : Int} {c f : Nat} (hcc : c ≤ 256) (hf : f ≤ 2) (hr : M.fin + (c + 3) ≤ M.n) (n : Nat) :
  ∃ h1, aSz (eA CF1 (n + 11)) (.p m 0) (.i .i64 cls) (.i .i64 (Int.ofNat f)) (.i .i64 (Int.ofNat c)) (.i .i64 (Int.ofNat M.fin)) h = aWx (eA CF1 (n + 11)) (.p m 0) (.i .i64 (Int.ofNat c)) (.i .i64 (Int.ofNat M.fin)) h1 ∧
   ML m { M with t := ((M.t.set M.fin (Int.ofNat (c * 4 + f))).set (M.fin + 1) cls).set (M.fin + 2) (Int.ofNat M.made) } h1 ∧ Oth m M.wb M.pb h h1 := by
 have hn := H.n_lt
 obtain ⟨h2, s2, H2, O2⟩ := H.put' (a := M.fin) (show M.fin < M.n by omega) (Int.ofNat (c * 4 + f))
 obtain ⟨h3, s3, H3, O3⟩ := H2.put' (a := M.fin + 1) (show M.fin + 1 < M.n by omega) cls
 obtain ⟨h4, s4, H4, O4⟩ := H3.put' (a := M.fin + 2) (show M.fin + 2 < M.n by omega) (Int.ofNat M.made)
 have i1 := H.ix' (a := M.fin) (by omega)
 have i2 : aI 1 (.l M.wb 0 M.n M.n) (.i .i64 (Int.ofNat (M.fin + 1))) h2 = some (.p M.wb (M.fin + 1), h2) := H2.ix' (a := M.fin + 1) (show M.fin + 1 < M.n by omega)
 have i3 : aI 1 (.l M.wb 0 M.n M.n) (.i .i64 (Int.ofNat (M.fin + 2))) h3 = some (.p M.wb (M.fin + 2), h3) := H3.ix' (a := M.fin + 2) (show M.fin + 2 < M.n by omega)
 have s3' : aF 1 (.p M.wb (M.fin + 1)) (.i .i64 cls) h2 = some (aT, h3) := s3
 have s4' : aF 1 (.p M.wb (M.fin + 2)) (.i .i64 (Int.ofNat M.made)) h3 = some (aT, h4) := s4
 refine ⟨h4, ?_, H4, (O2.trans O3).trans O4⟩
 simp only [aSz, fT, dJ, bA, H.l0, H.l2, iQ M.fin 1 _ (show M.fin + 1 < 4611686018427387904 by omega), iQ M.fin 2 _ (show M.fin + 2 < 4611686018427387904 by omega),
  bUc (Int.ofNat c) _ (show -2305843009213693952 ≤ Int.ofNat c ∧ Int.ofNat c ≤ 2305843009213693951 by simp only [Int.ofNat_eq_natCast]; omega), cNt c f _ hcc hf, i1, s2, i2, s3', i3, s4']
end
theorem aZi {m : Pos} {M : MemV} {h h' : Hp} (S : Sim false h h') (hM : kI m h = some M) {cls : Int} {c f : Nat} (hcc : c ≤ 256) (hf : f ≤ 2) (hr : M.fin + (c + 3) ≤ M.n) (ha : 3 ≤ M.fin ∧ M.fin ≤ 131072) (n : Nat) :
  ∃ h1, aAw (eA CF1 (n + 11)) (.p m 0) (.i .i64 cls) (.i .i64 (Int.ofNat f)) (.i .i64 (Int.ofNat c)) h' = some (.t [.i .i64 (Int.ofNat (Nat.mul M.fin 2)), .i .i64 (Int.ofNat 0)], h1) ∧
   Sim false ⟨h.next, Tr.set (.row .ex [.l M.wb 0 M.n M.n, .i .i64 (Int.ofNat (M.fin + (c + 3))), .i .i64 (Int.ofNat (M.made + 1)), .m M.pb]) m
    (Tr.set (.mi (M.pl.set M.fin 1)) M.pb
     (Tr.set (.big M.n (kM (((M.t.set M.fin (Int.ofNat (c * 4 + f))).set (M.fin + 1) cls).set (M.fin + 2) (Int.ofNat (M.made + 1))) c (M.fin + 3))) M.wb h.bl))⟩ h1 := by
 have H := eU hM S
 have hmd : M.made < 1000000 := (oY hM).2.2.2.2.2
 obtain ⟨h1, s1, H1, O1⟩ := H.st2 (x := M.made + 1) (by omega)
 obtain ⟨h2, s2, H2, O2⟩ := bIw H1 (cls := cls) hcc hf hr n
 obtain ⟨h3, s3, H3, O3⟩ := bGq H2 hr n
 obtain ⟨h4, s4, H4, O4⟩ := bFf H3 hr ha n
 have e : aAw (eA CF1 (n + 11)) (.p m 0) (.i .i64 cls) (.i .i64 (Int.ofNat f)) (.i .i64 (Int.ofNat c)) h' = aSz (eA CF1 (n + 11)) (.p m 0) (.i .i64 cls) (.i .i64 (Int.ofNat f)) (.i .i64 (Int.ofNat c)) (.i .i64 (Int.ofNat M.fin)) h1 := by
  simp only [aAw, fT, dJ, bA, H.l1, H.l2, iQ M.made 1 _ (show M.made + 1 < 4611686018427387904 by omega), s1]
 refine ⟨h4, e.trans (s2.trans (s3.trans s4)), ?_⟩
 dsimp only at H4
 have H5 : ML m ⟨M.wb, M.n, M.fin + (c + 3), M.made + 1, M.pb, kM (((M.t.set M.fin (Int.ofNat (c * 4 + f))).set (M.fin + 1) cls).set (M.fin + 2) (Int.ofNat (M.made + 1))) c (M.fin + 3), M.pl.set M.fin 1⟩ h4 := H4
 exact bUb S hM H5 rfl rfl rfl (((O1.trans O2).trans O3).trans O4)
theorem bMq (n : Nat) (args : List DV) : SimP false (mD args) (eA CF1 (n + 12) 30 args) := fun h h' S v k e => by
 unfold mD at e
 split at e <;> (try (cases e; done))
 rename_i m cls fmt cnt
 split at e <;> (try (cases e; done))
 rename_i M hM
 have H := eU hM S
 have hn := H.n_lt
 have hfn := H.fin_le
 rw [bV, cRx, cKp]
 simp only [g0, g1, g2, g3, cYq H, bA, jJ]
 have herr : ∀ er : Nat, err er h = some (v, k) → ∃ h1, (some (.t [.i .i64 (Int.ofNat 0), .i .i64 (Int.ofNat er)], h') : aH) = some (v, h1) ∧ Sim false k h1 := by
  intro er he
  simp only [err, bB, bL] at he
  obtain ⟨rfl, rfl⟩ := he
  exact ⟨h', rfl, S⟩
 cases hc : pE cls M.pl with
 | false =>
  rw [hc] at e
  simp only [Bool.not_false, cond_true] at e
  simp only [Bool.not_false, gP, bA, dC, cO]
  exact herr 1 e
 | true =>
  rw [hc] at e
  simp only [Bool.not_true, cond_false] at e
  simp only [Bool.not_true, gT, bA, cN, dY]
  cases fmt with
  | negSucc f =>
   have hlt : decide (Int.negSucc f < Int.ofNat 0) = true := decide_eq_true (Int.negSucc_lt_zero f)
   simp only [hlt, gP, bA, dC, cO]
   exact herr 1 e
  | ofNat f =>
   have hlt : decide (Int.ofNat f < Int.ofNat 0) = false := by simp
   simp only [hlt, gT, bA, cN, gS]
   by_cases hf : f ≤ 2
   ·have hgt : decide (Int.ofNat f > Int.ofNat 2) = false := by simp only [decide_eq_false_iff_not, Int.ofNat_eq_natCast]; omega
    simp only [hgt, gT, bA, cN, dY]
    cases cnt with
    | negSucc c =>
     have hlt : decide (Int.negSucc c < Int.ofNat 0) = true := decide_eq_true (Int.negSucc_lt_zero c)
     simp only [hlt, gP, bA, dC, cO]
     exact herr 1 e
    | ofNat c =>
     have hlt : decide (Int.ofNat c < Int.ofNat 0) = false := by simp
     simp only [hlt, gT, bA, cN, gS]
     dsimp only at e
     simp only [kO, iJ, hf, decide_true, Bool.true_and] at e
     by_cases hcc : c ≤ 256
     ·have hgt : decide (Int.ofNat c > Int.ofNat 256) = false := by simp only [decide_eq_false_iff_not, Int.ofNat_eq_natCast]; omega
      simp only [hgt, cF, cWs H, bA, iQ c 3 _ (by omega), dY]
      simp only [hcc, decide_true, cond_true] at e
      have hsub : Nat.sub M.n M.fin = M.n - M.fin := rfl
      have hadd : Nat.add c 3 = c + 3 := rfl
      rw [hsub, hadd] at e
      by_cases hr : M.n - M.fin < c + 3
      ·simp only [hr, decide_true, cond_true] at e
       have hl : decide (Int.ofNat (M.n - M.fin) < Int.ofNat (c + 3)) = true := by simp only [decide_eq_true_eq, Int.ofNat_eq_natCast]; omega
       simp only [hl, gP, bA, dC, cO]
       exact herr 4 e
      ·simp only [hr, decide_false, cond_false] at e
       have hl : decide (Int.ofNat (M.n - M.fin) < Int.ofNat (c + 3)) = false := by simp only [decide_eq_false_iff_not, Int.ofNat_eq_natCast]; omega
       simp only [hl, gT, bA, cN, fT, dJ, H.l2, oL]
       have hg : decide (Int.ofNat M.made ≥ Int.ofNat 1099511627776) = false := by
        have hmd : M.made < 1000000 := (oY hM).2.2.2.2.2
        simp only [decide_eq_false_iff_not, Int.ofNat_eq_natCast]; omega
       simp only [hg, cF]
       by_cases ha : 3 ≤ M.fin ∧ M.fin ≤ 131072
       ·simp only [ha.1, ha.2, decide_true, Bool.and_self, cond_true, bB, bL] at e
        obtain ⟨rfl, rfl⟩ := e
        exact aZi S hM hcc hf (by omega) ha n
       ·have : (decide (3 ≤ M.fin) && decide (M.fin ≤ 131072)) = false := by
         rw [← Bool.not_eq_true]
         simpa using ha
        rw [this] at e
        simp only [cond_false] at e
        cases e
     ·have hgt : decide (Int.ofNat c > Int.ofNat 256) = true := by simp only [decide_eq_true_eq, Int.ofNat_eq_natCast]; omega
      simp only [hcc, decide_false, cond_false] at e
      simp only [hgt, cO]
      exact herr 1 e
   ·have hgt : decide (Int.ofNat f > Int.ofNat 2) = true := by simp only [decide_eq_true_eq, Int.ofNat_eq_natCast]; omega
    simp only [hgt, gP, bA, dC, cO]
    cases cnt with
    | negSucc c => exact herr 1 e
    | ofNat c =>
     dsimp only at e
     simp only [kO, hf, decide_false, Bool.false_and, cond_false] at e
     exact herr 1 e
theorem aLs (n : Nat) (args : List DV) : SimP false (aKv args) (eA CF1 (n + 12) 41 args) := fun h h' S v k e => by
 unfold aKv at e
 split at e <;> (try (cases e; done))
 ·rename_i w
  rw [bV, cGn]
  simp only [t41, g0, dY, bA]
  simp only [iJ] at e
  by_cases h1 : w < 16
  ·simp only [h1, decide_true, Bool.true_or, cond_true, bB, bL] at e
   obtain ⟨rfl, rfl⟩ := e
   have hl : decide (Int.ofNat w < Int.ofNat 16) = true := by simp only [decide_eq_true_eq, Int.ofNat_eq_natCast]; omega
   simp only [hl, gP, bA, dC, cO]
   exact ⟨h', rfl, S⟩
  ·have hl : decide (Int.ofNat w < Int.ofNat 16) = false := by simp only [decide_eq_false_iff_not, Int.ofNat_eq_natCast]; omega
   simp only [hl, gT, bA, cN, gS]
   by_cases h2 : 131072 < w
   ·simp only [h2, decide_true, Bool.or_true, cond_true, bB, bL] at e
    obtain ⟨rfl, rfl⟩ := e
    have hg : decide (Int.ofNat w > Int.ofNat 131072) = true := by simp only [decide_eq_true_eq, Int.ofNat_eq_natCast]; omega
    simp only [hg, cO]
    exact ⟨h', rfl, S⟩
   ·simp only [h1, h2, decide_false, Bool.or_self, cond_false, bB, bL] at e
    obtain ⟨rfl, rfl⟩ := e
    have hg : decide (Int.ofNat w > Int.ofNat 131072) = false := by simp only [decide_eq_false_iff_not, Int.ofNat_eq_natCast]; omega
    simp only [hg, cF]
    have hms : cB 1 8 [.i .i64 (Int.ofNat 0)] (.i .i64 (Int.ofNat w)) (.i .i64 (Int.ofNat w)) h' = some (.l h'.next 0 w w, ⟨h'.next.succ, Tr.set (.row .ex (gE w .e)) h'.next h'.bl⟩) := by
     have hc : (0 : Int) ≤ Int.ofNat w ∧ Int.ofNat w ≤ Int.ofNat w ∧ (Int.ofNat w).toNat * 8 ≤ 2 ^ 30 ∧ (Int.ofNat w).toNat * 1 ≤ 2 ^ 24 ∧ Int.ofNat w < 2 ^ 32 := by
      have : (Int.ofNat w).toNat = w := rfl
      rw [this]
      simp only [Int.ofNat_eq_natCast]
      omega
     have hz : (List.replicate (Int.ofNat w).toNat [DV.i .i64 (Int.ofNat 0)]).flatten = gE w .e := by
      have : (Int.ofNat w).toNat = w := rfl
      rw [this, uC]
      apply List.ext_getElem?
      intro j
      by_cases hj : j < w
      ·rw [jH hj, List.getElem?_replicate, if_pos hj]; rfl
      ·rw [List.getElem?_replicate, if_neg hj, List.getElem?_eq_none (by simp [gE]; omega)]
     simp only [cB, hc, and_self, if_true, hz]
     rfl
    simp only [hms, bA, dL]
    have hb : ∀ x y h, aZ [.l0, .i .i64 (Int.ofNat 0), .i .i64 (Int.ofNat 0), .m0] [(0, 1, .l x 0 w w), (1, 1, .i .i64 (Int.ofNat 3)), (3, 1, .m y)] h = some (.a [.l x 0 w w, .i .i64 (Int.ofNat 3), .i .i64 (Int.ofNat 0), .m y], h) := fun x y h => rfl
    simp only [hb, bA, bU, dT, bI]
    have hnx := S.next
    refine ⟨_, by rw [hnx]; rfl, ?_⟩
    refine ⟨rfl, fun b o hb => ?_⟩
    show ∃ o', (Tr.set _ (bQ 2 h.next) (Tr.set _ (bQ 1 h.next) (Tr.set _ h.next h'.bl))).get b = some o' ∧ _
    by_cases b1 : b = bQ 2 h.next
    ·subst b1
     simp only [dDw, bB] at hb ⊢
     subst hb
     exact ⟨_, rfl, rfl⟩
    ·simp only [dDv _ _ _ _ b1] at hb ⊢
     by_cases b2 : b = bQ 1 h.next
     ·subst b2
      simp only [dDw, bB] at hb ⊢
      subst hb
      exact ⟨_, rfl, by simp only [xY]; exact ⟨[], rfl, fun a => by simp [cY, WT.get_e]⟩⟩
     ·simp only [dDv _ _ _ _ b2] at hb ⊢
      by_cases b3 : b = h.next
      ·subst b3
       simp only [dDw, bB] at hb ⊢
       subst hb
       exact ⟨_, rfl, by simp [xY]⟩
      ·simp only [dDv _ _ _ _ b3] at hb ⊢
       exact S.get b o hb
 ·rename_i w
  simp only [bB, bL] at e
  obtain ⟨rfl, rfl⟩ := e
  rw [bV, cGn]
  have hl : decide (Int.negSucc w < Int.ofNat 16) = true := by simp only [decide_eq_true_eq]; have := Int.negSucc_lt_zero w; simp only [Int.ofNat_eq_natCast]; omega
  simp only [t41, g0, dY, bA, hl, gP, dC, cO]
  exact ⟨h', rfl, S⟩
end Go.Dd

namespace Go.Dd
theorem aBd {gg : Bool} (args : List DV) : SimP gg (kQ args) (kQ args) := fun h h' S v k e => by
 unfold kQ at e ⊢
 split at e <;> (try (cases e; done))
 rename_i l c
 cases hc : Nat.blt c 256 with
 | false => rw [hc] at e; cases e
 | true =>
  rw [hc] at e
  simp only [cond_true, bB, bL] at e
  obtain ⟨rfl, rfl⟩ := e
  exact ⟨h', rfl, S⟩
theorem aLo {gg : Bool} (q : Pos) (l1 : DV) (cs : List DV) : SimP gg (iB q l1 cs) (iB q l1 cs) := fun h h' S v k e => by
 unfold iB at e ⊢
 split at e <;> (try (cases e; done))
 ·simp only [bB, bL] at e ⊢
  obtain ⟨rfl, rfl⟩ := e
  exact ⟨_, ⟨by rw [S.next], rfl⟩, by rw [S.next]; exact S.setR _ _ _ _⟩
 ·rename_i b o len cap
  cases hc : (Nat.ble cap len && !(oT b q)) with
  | false => rw [hc] at e; cases e
  | true =>
   rw [hc] at e
   simp only [cnd] at e ⊢
   split at e <;> (try (cases e; done))
   rename_i es l old hb hold
   rw [S.row hb, S.cellsAt hold]
   dsimp only
   split at e <;> (try (cases e; done))
   rename_i hr
   rw [if_pos hr]
   simp only [bB, bL] at e ⊢
   obtain ⟨rfl, rfl⟩ := e
   refine ⟨_, ⟨by rw [S.next], rfl⟩, ?_⟩
   rw [S.next]
   exact (S.setR .sp (bN o l) b h.next).setR _ _ _ _
theorem aNa {gg : Bool} (c q : Pos) : SimP gg (pO c q) (pO c q) := by
 intro h h' S
 unfold pO
 refine dEc (jD _ h h' S) fun l1 _ _ _ => ?_
 refine dEc (dDy (lI l1) h h' S) fun n _ _ _ => ?_
 refine dEc (jQ _ _ h h' S) fun x _ _ _ => ?_
 split
 ·refine dEr id ?_
  have S2 : Sim gg ⟨h.next.succ.succ, h.bl⟩ ⟨h'.next.succ.succ, h'.bl⟩ := ⟨by show h'.next.succ.succ = _; rw [S.next], S.get⟩
  refine dEc (aLo _ _ _ _ _ S2) fun l2 h3 h3' T3 => ?_
  exact dEc (jN _ _ _ h3 h3' T3) fun u h4 h4' T4 => SimR.some T4 _
 ·exact SimR.none _
theorem bTh {gg : Bool} (n : Nat) (f : FuncId) (args : List DV) : SimP gg (eA CF0 n f args) (eA CF0 n f args) :=
 zZ (gg := gg) (P := Go.Proofs.Tryz.prog) (I2 := fun _ => none) (I1 := fun _ => none) 0 (fun _ _ => rfl) (fun _ _ h => by cases h) n f args
theorem aGo {gg : Bool} (args : List DV) : SimP gg (kF args) (kF args) := by
 unfold kF
 intro h h' S
 split
 ·rename_i c lit
  dsimp only
  rw [show h'.next = h.next from S.next]
  refine dEc (aBs _ h h' S) fun b h1 h1' T1 => ?_
  refine dEc (jD _ h1 h1' T1) fun ls h2 h2' T2 => ?_
  refine dEc (bTh _ _ _ h2 h2' T2) fun i h3 h3' T3 => ?_
  refine dEc (dDy (uR _ _ _) h3 h3' T3) fun t h4 h4' T4 => ?_
  exact aRw (aNa _ _ h4 h4' T4) (SimR.some T4 _)
 ·exact SimR.none _
theorem lR {C : Cfg} {rec : FuncId → List DV → Hp → aH} {g : FuncId} (h : C.I g = none) (args : List DV) : cJ C rec g args = rec g args := by
 funext k
 unfold cJ
 rw [h]
theorem aJb (g : FuncId) (F : List DV → Hp → aH) (hg : wS g = some F) (n : Nat) (args : List DV) : SimP false (F args) (eA CF1 (n + 12) g args) := by
 unfold wS at hg
 have hb : ∀ k, Nat.beq g k = true → g = k := fun k h => Nat.eq_of_beq_eq_true h
 cases h1 : Nat.beq g 20 with
 | true => rw [h1] at hg; cases hg; rw [hb _ h1]; exact cCx n args
 | false =>
 cases h2 : Nat.beq g 21 with
 | true => rw [h1, h2] at hg; cases hg; rw [hb _ h2]; exact cNz n args
 | false =>
 cases h3 : Nat.beq g 22 with
 | true => rw [h1, h2, h3] at hg; cases hg; rw [hb _ h3]; exact bOv n args
 | false =>
 cases h4 : Nat.beq g 29 with
 | true => rw [h1, h2, h3, h4] at hg; cases hg; rw [hb _ h4]; exact bFo n args
 | false =>
 cases h5 : Nat.beq g 30 with
 | true => rw [h1, h2, h3, h4, h5] at hg; cases hg; rw [hb _ h5]; exact bMq n args
 | false =>
 cases h6 : Nat.beq g 41 with
 | true => rw [h1, h2, h3, h4, h5, h6] at hg; cases hg; rw [hb _ h6]; exact aLs n args
 | false =>
 cases h7 : Nat.beq g 44 with
 | true => rw [h1, h2, h3, h4, h5, h6, h7] at hg; cases hg; rw [hb _ h7]; exact aCb n args
 | false =>
 cases h8 : Nat.beq g 47 with
 | true => rw [h1, h2, h3, h4, h5, h6, h7, h8] at hg; cases hg; rw [hb _ h8]; exact bWg n args
 | false =>
 cases h9 : Nat.beq g 50 with
 | true => rw [h1, h2, h3, h4, h5, h6, h7, h8, h9] at hg; cases hg; rw [hb _ h9]; exact aYr n args
 | false =>
 cases h10 : Nat.beq g 51 with
 | true => rw [h1, h2, h3, h4, h5, h6, h7, h8, h9, h10] at hg; cases hg; rw [hb _ h10]; exact aJt n args
 | false =>
 cases h11 : Nat.beq g 52 with
 | true => rw [h1, h2, h3, h4, h5, h6, h7, h8, h9, h10, h11] at hg; cases hg; rw [hb _ h11]; exact aKm n args
 | false =>
 cases h12 : Nat.beq g 54 with
 | true => rw [h1, h2, h3, h4, h5, h6, h7, h8, h9, h10, h11, h12] at hg; cases hg; rw [hb _ h12]; exact aJd n args
 | false =>
 cases h13 : Nat.beq g 60 with
 | true => rw [h1, h2, h3, h4, h5, h6, h7, h8, h9, h10, h11, h12, h13] at hg; cases hg; rw [hb _ h13]; exact bAo n args
 | false =>
 cases h14 : Nat.beq g 62 with
 | true => rw [h1, h2, h3, h4, h5, h6, h7, h8, h9, h10, h11, h12, h13, h14] at hg; cases hg; rw [hb _ h14]; exact aZj n args
 | false =>
 cases h15 : Nat.beq g 73 with
 | true => rw [h1, h2, h3, h4, h5, h6, h7, h8, h9, h10, h11, h12, h13, h14, h15] at hg; cases hg; rw [hb _ h15]; exact cAz n args
 | false => rw [h1, h2, h3, h4, h5, h6, h7, h8, h9, h10, h11, h12, h13, h14, h15] at hg; cases hg
theorem bPz (n : Nat) (f : FuncId) (args : List DV) : SimP false (eA CF n f args) (eA CF1 (n + 12) f args) := by
 have key := zZ (gg := false) (P := Go.Proofs.Tryz.prog) (I2 := CF.I) (I1 := CF1.I) 12 (fun g hg => by
  show (bif Nat.beq g 266 then some kQ else bif Nat.beq g 242 then some kF else none) = none
  change (bif Nat.beq g 266 then some kQ else bif Nat.beq g 242 then some kF else wS g) = none at hg
  cases h1 : Nat.beq g 266 with
  | true => rw [h1] at hg; cases hg
  | false =>
   cases h2 : Nat.beq g 242 with
   | true => rw [h1, h2] at hg; cases hg
   | false => rfl) (fun g F hg n args => by
  change (bif Nat.beq g 266 then some kQ else bif Nat.beq g 242 then some kF else wS g) = some F at hg
  have hcall : cJ ⟨Go.Proofs.Tryz.prog, CF1.I⟩ (eA ⟨Go.Proofs.Tryz.prog, CF1.I⟩ (n + 12)) g args = fun h => match (bif Nat.beq g 266 then some kQ else bif Nat.beq g 242 then some kF else none : Option (List DV → Hp → aH)) with
   | some F => F args h
   | none => eA ⟨Go.Proofs.Tryz.prog, CF1.I⟩ (n + 12) g args h := rfl
  rw [hcall]
  cases h1 : Nat.beq g 266 with
  | true => rw [h1] at hg; cases hg; exact aBd args
  | false =>
   cases h2 : Nat.beq g 242 with
   | true => rw [h1, h2] at hg; cases hg; exact aGo args
   | false =>
    rw [h1, h2] at hg
    exact aJb g F hg n args) n f args
 exact key
end Go.Dd

namespace Go.Dd
open Go.Proofs
theorem wY {m : Pos} {M : MemV} {h h' : Hp} (S : Sim true h h') (hm : kI m h = some M) : kI m h' = some M := by
 have hget : ∀ b o, h.bl.get b = some o → h'.bl.get b = some o := fun b o hb => by
  obtain ⟨o', h1, h2⟩ := S.get b o hb
  rw [h1, iO h2]
 unfold kI at hm ⊢
 split at hm <;> (try (cases hm; done))
 rename_i wb n c fin made pb hr
 split at hm <;> (try (cases hm; done))
 rename_i n' t pl h1 h2
 simp only [hget _ _ hr, hget _ _ h1, hget _ _ h2]
 exact hm
theorem eR {args : List DV} {k : Hp → MemV → List DV → aH} (hk : ∀ M r, SimP true (fun h => k h M r) (fun h => k h M r)) : SimP true (fun h => jP args h (k h)) (fun h => jP args h (k h)) := fun h h' S v g e => by
 obtain ⟨m, rest, M, rfl, hM, e⟩ := dZ e
 obtain ⟨g', e1, e2⟩ := hk M rest h h' S v g e
 refine ⟨g', ?_, e2⟩
 show (match kI m h' with
  | some M => k h' M rest
  | none => none) = some (v, g')
 rw [wY S hM]
 exact e1
theorem jY {M : MemV} {o : Int} {k k' : Nat → aH} (h : ∀ n, SimR true (k n) (k' n)) : SimR true (iC M o k) (iC M o k') := by
 unfold iC
 cases Nat.blt (Nat.add (cD o M.pl) 1) M.n with
 | false => exact SimR.none _
 | true =>
  simp only [cond_true]
  cases M.t.get (cD o M.pl) with
  | negSucc a => exact SimR.none _
  | ofNat hd =>
   dsimp only
   cases Nat.blt hd 1000000000000 with
   | false => exact SimR.none _
   | true => exact h hd
theorem pU {M : MemV} {o i : Int} {b b' : Nat → aH} {k k' : Nat → Nat → aH} (hb : ∀ n, SimR true (b n) (b' n)) (h : ∀ n m, SimR true (k n m) (k' n m)) : SimR true (gU M o i b k) (gU M o i b' k') := by
 unfold gU
 cases Nat.beq (cD o M.pl) 0 with
 | true => exact hb 1
 | false =>
  simp only [cond_false]
  cases i with
  | negSucc i => exact hb 5
  | ofNat i =>
   dsimp only
   refine jY fun hd => ?_
   cases Nat.ble (Nat.div hd 4) i with
   | true => exact hb 5
   | false =>
    simp only [cond_false]
    cases Nat.blt (Nat.add (Nat.add (cD o M.pl) 3) i) M.n with
    | false => exact SimR.none _
    | true => exact h _ _
theorem hY {h h' : Hp} (S : Sim true h h') (o : Ob) (b n : Pos) : Sim true ⟨n, Tr.set o b h.bl⟩ ⟨n, Tr.set o b h'.bl⟩ := S.set (jI o) b n
theorem lP {M : MemV} {a : Nat} {w : Int} : SimP true (lD M a w) (lD M a w) := fun h h' S v g e => by
 simp only [lD, bB, bL] at e ⊢
 obtain ⟨rfl, rfl⟩ := e
 exact ⟨_, ⟨rfl, rfl⟩, by rw [S.next]; exact hY S _ _ _⟩
theorem bRk (g : FuncId) (F : List DV → Hp → aH) (hg : wS g = some F) (args : List DV) : SimP true (F args) (F args) := by
 have hmay : SimP true (bAx args) (bAx args) := eR (k := fun h M r => match r with
  | [.i .i64 w] => some (.b (jM w M.pl), h)
  | _ => none) fun M r h h' S => by dsimp only; split <;> first | exact SimR.some S _ | exact SimR.none _
 have his : SimP true (isF args) (isF args) := eR (k := fun h M r => match r with
  | [.i .i64 w] => some (.b (!(Nat.beq (cD w M.pl) 0)), h)
  | _ => none) fun M r h h' S => by dsimp only; split <;> first | exact SimR.some S _ | exact SimR.none _
 have hsize : SimP true (xI args) (xI args) := eR (k := fun h M r => match r with
  | [] => some (.i .i64 (.ofNat M.n), h)
  | _ => none) fun M r h h' S => by dsimp only; split <;> first | exact SimR.some S _ | exact SimR.none _
 have hroom : SimP true (aSl args) (aSl args) := eR (k := fun h M r => match r with
  | [] => some (.i .i64 (.ofNat (Nat.sub M.n M.fin)), h)
  | _ => none) fun M r h h' S => by dsimp only; split <;> first | exact SimR.some S _ | exact SimR.none _
 have hclass : SimP true (iU args) (iU args) := eR (k := fun h M r => match r with
  | [.i .i64 o] => iC M o fun _ => some (.i .i64 (M.t.get (Nat.add (cD o M.pl) 1)), h)
  | _ => none) fun M r h h' S => by dsimp only; split <;> first | exact jY (fun _ => SimR.some S _) | exact SimR.none _
 have hformat : SimP true (iM args) (iM args) := eR (k := fun h M r => match r with
  | [.i .i64 o] => iC M o fun hd => some (.i .i64 (.ofNat (Nat.mod hd 4)), h)
  | _ => none) fun M r h h' S => by dsimp only; split <;> first | exact jY (fun _ => SimR.some S _) | exact SimR.none _
 have hfields : SimP true (gX args) (gX args) := eR (k := fun h M r => match r with
  | [.i .i64 o] => iC M o fun hd => some (.i .i64 (.ofNat (Nat.div hd 4)), h)
  | _ => none) fun M r h h' S => by dsimp only; split <;> first | exact jY (fun _ => SimR.some S _) | exact SimR.none _
 have hget : SimP true (aOb args) (aOb args) := eR (k := fun h M r => match r with
  | [.i .i64 o, .i .i64 i] => gU M o i (fun e => err e h) fun _ a => some (.t [.i .i64 (M.t.get a), .i .i64 (.ofNat 0)], h)
  | _ => none) fun M r h h' S => by dsimp only; split <;> first | exact pU (fun _ => SimR.some S _) (fun _ _ => SimR.some S _) | exact SimR.none _
 have hput : SimP true (wQ args) (wQ args) := eR (k := fun h M r => match r with
  | [.i .i64 o, .i .i64 i, .i .i64 w] => gU M o i (fun e => some (.i .i64 (.ofNat e), h)) fun hd a =>
   match Nat.mod hd 4 with
   | 0 => bif jM w M.pl then lD M a w h else some (.i .i64 (.ofNat 6), h)
   | 2 => (match w with
    | .ofNat c => bif Nat.ble c 255 then lD M a w h else some (.i .i64 (.ofNat 6), h)
    | .negSucc _ => some (.i .i64 (.ofNat 6), h))
   | _ => lD M a w h
  | _ => none) fun M r h h' S => by
   dsimp only
   split
   ·rename_i o i w
    refine pU (fun _ => SimR.some S _) fun hd a => ?_
    split
    ·cases jM w M.pl with
     | true => exact lP h h' S
     | false => exact SimR.some S _
    ·cases w with
     | negSucc c => exact SimR.some S _
     | ofNat c =>
      dsimp only
      cases Nat.ble c 255 with
      | true => exact lP h h' S
      | false => exact SimR.some S _
    ·exact lP h h' S
   ·exact SimR.none _
 have hsetc : SimP true (jG args) (jG args) := eR (k := fun h M r => match r with
  | [.i .i64 o, .i .i64 c] => bif Nat.beq (cD o M.pl) 0 || !(pE c M.pl) then some (.i .i64 (.ofNat 1), h) else
   (bif Nat.blt (Nat.add (cD o M.pl) 1) M.n then lD M (Nat.add (cD o M.pl) 1) c h else none)
  | _ => none) fun M r h h' S => by
   dsimp only
   split
   ·rename_i o c
    cases Nat.beq (cD o M.pl) 0 || !(pE c M.pl) with
    | true => exact SimR.some S _
    | false =>
     simp only [cond_false]
     cases Nat.blt (Nat.add (cD o M.pl) 1) M.n with
     | true => exact lP h h' S
     | false => exact SimR.none _
   ·exact SimR.none _
 have hmake : SimP true (mD args) (mD args) := fun h h' S => by
  unfold mD
  split
  ·rename_i m cls fmt cnt
   intro v g e
   split at e
   ·cases e
   ·rename_i M hM
    rw [wY S hM]
    dsimp only
    revert e
    have herr : ∀ n, SimR true (err n h) (err n h') := fun n => SimR.some S _
    suffices hs : SimR true _ _ from fun e => hs v g e
    cases !(pE cls M.pl) with
    | true => exact herr 1
    | false =>
     simp only [cond_false]
     cases fmt with
     | negSucc f => exact herr 1
     | ofNat f =>
      cases cnt with
      | negSucc c => exact herr 1
      | ofNat c =>
       dsimp only
       cases Nat.ble f 2 && Nat.ble c 256 with
       | false => exact herr 1
       | true =>
        simp only [cond_true]
        cases Nat.blt (Nat.sub M.n M.fin) (Nat.add c 3) with
        | true => exact herr 4
        | false =>
         simp only [cond_false]
         cases Nat.ble 3 M.fin && Nat.ble M.fin 131072 with
         | false => exact SimR.none _
         | true =>
          simp only [cond_true]
          intro v g e
          simp only [bB, bL] at e ⊢
          obtain ⟨rfl, rfl⟩ := e
          refine ⟨_, ⟨rfl, rfl⟩, ?_⟩
          rw [S.next]
          exact hY (hY (hY S _ _ h.next) _ _ h.next) _ _ h.next
  ·exact SimR.none _
 have hnew : SimP true (aKv args) (aKv args) := fun h h' S => by
  unfold aKv
  split
  ·rename_i n
   cases Nat.blt n 16 || Nat.blt 131072 n with
   | true => exact SimR.some S _
   | false =>
    simp only [cond_false]
    intro v g e
    simp only [bB, bL] at e ⊢
    obtain ⟨rfl, rfl⟩ := e
    rw [S.next]
    exact ⟨_, ⟨rfl, rfl⟩, hY (hY (hY S _ _ h.next) _ _ h.next) _ _ _⟩
  ·exact SimR.some S _
  ·exact SimR.none _
 have hpure : ∀ F : Hp → aH, (∀ h h', Sim true h h' → SimR true (F h) (F h')) → SimP true F F := fun F hF => hF
 have hsm : SimP true (gA args) (gA args) := fun h h' S => by unfold gA; split <;> first | exact SimR.some S _ | exact SimR.none _
 have hva : SimP true (kT args) (kT args) := fun h h' S => by
  unfold kT
  split
  ·rename_i w
   cases eZ w <;> exact SimR.some S _
  ·exact SimR.none _
 have hsl : SimP true (kU args) (kU args) := fun h h' S => by
  unfold kU
  split
  ·rename_i n; cases Nat.blt n 1073741824 <;> exact SimR.some S _
  ·rename_i n; cases Nat.blt n 1073741824 <;> exact SimR.some S _
  ·exact SimR.none _
 unfold wS at hg
 cases h1 : Nat.beq g 20 with
 | true => rw [h1] at hg; cases hg; exact hmay
 | false =>
 cases h2 : Nat.beq g 21 with
 | true => rw [h1, h2] at hg; cases hg; exact his
 | false =>
 cases h3 : Nat.beq g 22 with
 | true => rw [h1, h2, h3] at hg; cases hg; exact hsize
 | false =>
 cases h4 : Nat.beq g 29 with
 | true => rw [h1, h2, h3, h4] at hg; cases hg; exact hroom
 | false =>
 cases h5 : Nat.beq g 30 with
 | true => rw [h1, h2, h3, h4, h5] at hg; cases hg; exact hmake
 | false =>
 cases h6 : Nat.beq g 41 with
 | true => rw [h1, h2, h3, h4, h5, h6] at hg; cases hg; exact hnew
 | false =>
 cases h7 : Nat.beq g 44 with
 | true => rw [h1, h2, h3, h4, h5, h6, h7] at hg; cases hg; exact hsetc
 | false =>
 cases h8 : Nat.beq g 47 with
 | true => rw [h1, h2, h3, h4, h5, h6, h7, h8] at hg; cases hg; exact hput
 | false =>
 cases h9 : Nat.beq g 50 with
 | true => rw [h1, h2, h3, h4, h5, h6, h7, h8, h9] at hg; cases hg; exact hclass
 | false =>
 cases h10 : Nat.beq g 51 with
 | true => rw [h1, h2, h3, h4, h5, h6, h7, h8, h9, h10] at hg; cases hg; exact hformat
 | false =>
 cases h11 : Nat.beq g 52 with
 | true => rw [h1, h2, h3, h4, h5, h6, h7, h8, h9, h10, h11] at hg; cases hg; exact hfields
 | false =>
 cases h12 : Nat.beq g 54 with
 | true => rw [h1, h2, h3, h4, h5, h6, h7, h8, h9, h10, h11, h12] at hg; cases hg; exact hsm
 | false =>
 cases h13 : Nat.beq g 60 with
 | true => rw [h1, h2, h3, h4, h5, h6, h7, h8, h9, h10, h11, h12, h13] at hg; cases hg; exact hsl
 | false =>
 cases h14 : Nat.beq g 62 with
 | true => rw [h1, h2, h3, h4, h5, h6, h7, h8, h9, h10, h11, h12, h13, h14] at hg; cases hg; exact hva
 | false =>
 cases h15 : Nat.beq g 73 with
 | true => rw [h1, h2, h3, h4, h5, h6, h7, h8, h9, h10, h11, h12, h13, h14, h15] at hg; cases hg; exact hget
 | false => rw [h1, h2, h3, h4, h5, h6, h7, h8, h9, h10, h11, h12, h13, h14, h15] at hg; cases hg
theorem aHe (g : FuncId) (F : List DV → Hp → aH) (hg : CF.I g = some F) (args : List DV) : SimP true (F args) (F args) := by
 change (bif Nat.beq g 266 then some kQ else bif Nat.beq g 242 then some kF else wS g) = some F at hg
 cases h1 : Nat.beq g 266 with
 | true => rw [h1] at hg; cases hg; exact aBd args
 | false =>
  cases h2 : Nat.beq g 242 with
  | true => rw [h1, h2] at hg; cases hg; exact aGo args
  | false => rw [h1, h2] at hg; exact bRk g F hg args
theorem bAj (n : Nat) (f : FuncId) (args : List DV) : SimP true (jR n f args) (jR n f args) := by
 rw [aGk]
 exact zZ (gg := true) (P := Tryz.prog) (I2 := CF.I) (I1 := CF.I) 0 (fun g h => h) (fun g F hg n args => by
  have : cJ ⟨Tryz.prog, CF.I⟩ (eA ⟨Tryz.prog, CF.I⟩ (n + 0)) g args = F args := by
   funext h
   unfold cJ
   rw [show (⟨Tryz.prog, CF.I⟩ : Cfg).I g = some F from hg]
  rw [this]
  exact aHe g F hg args) n f args
theorem aXc (n : Nat) (g : FuncId) (args : List DV) : SimP true (cJ CF (jR n) g args) (cJ CF (jR n) g args) := by
 unfold cJ
 cases hg : CF.I g with
 | none => exact bAj n g args
 | some F => exact aHe g F hg args
end Go.Dd

namespace Go.Dd
open Go.Proofs
abbrev K4T := DV → DV → DV → DV → Hp → aH
noncomputable abbrev R9 : RT := jR 899
noncomputable def XL : Nat → K := xs x0 7 (fun env h => eP R9 899 (env 5) h)
noncomputable def krN : K := aO CF Tryz.f10
noncomputable def bLk : Code := cL (cL (cR (cL (cR (cR (cR (cR (cR (cR (cf Tryz.f10))))))))))
noncomputable def kb (kk : K4T) : K := fun env h => kk (env 5) (env 155) (env 156) (env 157) h
noncomputable def aJe (a b c d : DV) : aU := fun t => bif Nat.beq t 5 then a else bif Nat.beq t 155 then b else bif Nat.beq t 156 then c else bif Nat.beq t 157 then d else .u
theorem zQ (kk : K4T) (a b c d : DV) (h : Hp) : iX R9 899 kk a b c d h = aP CF R9 179 899 bLk XL krN (kb kk) (aJe a b c d) h :=
 (congrFun (congrFun (aSi R9 899 kk) (aJe a b c d)) h).symm
theorem aNh (e : aU) (h : Hp) : krN e h = some (.t [e 2, e 3], h) := by kernel_rfl
def dBw (r : aH) : Prop := ∃ a b c d h, r = some (.t [a, b, c, d], h)
theorem bDd (a b c d : DV) (h : Hp) : (∃ a' b' c' d' h', ∀ kk : K4T, iX R9 899 kk a b c d h = kk a' b' c' d' h') ∨ (∃ r, ¬ dBw r ∧ ∀ kk : K4T, iX R9 899 kk a b c d h = r) := by
 obtain ⟨O, hO⟩ := aHl (C := CF) (rec := R9) (nt := 179) 899 bLk
 have key : ∀ kk : K4T, iX R9 899 kk a b c d h = dEu (O (aJe a b c d) h) XL krN (kb kk) := fun kk => (zQ kk a b c d h).trans (hO _ _ _ _ _)
 cases ho : O (aJe a b c d) h with
 | none => exact .inr ⟨none, (by rintro ⟨_, _, _, _, _, e⟩; cases e), fun kk => by rw [key kk, ho]; rfl⟩
 | some o =>
  cases o with
  | n e h' => exact .inl ⟨e 5, e 155, e 156, e 157, h', fun kk => by rw [key kk, ho]; rfl⟩
  | r e h' => exact .inr ⟨some (.t [e 2, e 3], h'), (by rintro ⟨_, _, _, _, _, q⟩; cases q), fun kk => by rw [key kk, ho]; exact aNh e h'⟩
  | x i e h' =>
   refine .inr ⟨XL i e h', ?_, fun kk => by rw [key kk, ho]; rfl⟩
   rintro ⟨_, _, _, _, _, q⟩
   unfold XL xs at q
   cases hi : Nat.beq i 7 with
   | true => rw [hi] at q; cases q
   | false => rw [hi] at q; cases q
theorem uF (n : Nat) (kk : K4T) : itN (n + 1) kk = iX R9 899 (itN n kk) := rfl
theorem bMz : ∀ (n : Nat) (a b c d : DV) (h : Hp) (a' b' c' d' : DV) (h' : Hp), itN n bOy a b c d h = some (.t [a', b', c', d'], h') → ∀ kk : K4T, itN n kk a b c d h = kk a' b' c' d' h'
 | 0, a, b, c, d, h, a', b', c', d', h', e, kk => by
  have e' : (some (.t [a, b, c, d], h) : aH) = some (.t [a', b', c', d'], h') := e
  simp only [bB, bL, DV.t.injEq, List.cons.injEq, and_true] at e'
  obtain ⟨⟨rfl, rfl, rfl, rfl⟩, rfl⟩ := e'
  rfl
 | n + 1, a, b, c, d, h, a', b', c', d', h', e, kk => by
  rw [uF] at e ⊢
  rcases bDd a b c d h with ⟨a1, b1, c1, d1, h1, hs⟩ | ⟨r, hr, hs⟩
  ·rw [hs] at e ⊢
   exact bMz n a1 b1 c1 d1 h1 a' b' c' d' h' e kk
  ·rw [hs] at e
   exact absurd ⟨_, _, _, _, _, e⟩ hr
theorem bPa (kk : K4T) (hk : ∀ a b c d, SimP true (kk a b c d) (kk a b c d)) : ∀ (n : Nat) (a b c d : DV), SimP true (itN n kk a b c d) (itN n kk a b c d)
 | 0, a, b, c, d => hk a b c d
 | n + 1, a, b, c, d => by
  have ih := bPa kk hk n
  rw [uF]
  have hX : ∀ j, kE true (XL j) (XL j) := by
   intro j env h h' S
   unfold XL xs
   cases Nat.beq j 7 with
   | true => exact SimR.some S _
   | false => exact SimR.none _
  have hR : kE true krN krN := fun env h h' S => by rw [aNh, aNh]; exact SimR.some S _
  have hK : kE true (kb (itN n kk)) (kb (itN n kk)) := fun env => ih _ _ _ _
  have hc := aHv (gg := true) (P := Tryz.prog) (I2 := CF.I) (I1 := CF.I) (rec2 := R9) (rec1 := R9) (fun g args => aXc 899 g args) 179 899 0 bLk XL XL krN krN (kb (itN n kk)) (kb (itN n kk)) hX hR hK (aJe a b c d)
  intro h h' S
  rw [zQ, zQ]
  exact hc h h' S
theorem vO (m : Nat) : ∀ n, iW R9 899 (m + n) = itN n (iW R9 899 m)
 | 0 => rfl
 | n + 1 => by
  rw [uF, ← vO m n]
  rfl
theorem hC {k n nx nx' : Nat} {L L' : List (Pos × Ob)} (hc : jS (lX k n (hU nx L)) (jE (k + n)) nx' L' = true) (m : Nat) {h : Hp} (S : Sim true (hU nx L) h) :
  ∃ h', Sim true (hU nx' L') h' ∧ iW R9 899 (m + n) (.p (bG 7) 0) (.l (bG 431) 0 75 75) (.i .i64 (.ofNat 75)) (.i .i64 (.ofNat k)) h =
   iW R9 899 m (.p (bG 7) 0) (.l (bG 431) 0 75 75) (.i .i64 (.ofNat 75)) (.i .i64 (.ofNat (k + n))) h' := by
 obtain ⟨g, e1, e2⟩ := aTl hc
 obtain ⟨g', f1, f2⟩ := bPa bOy (fun a b c d h h' S => SimR.some S _) n _ _ _ _ (hU nx L) h S _ _ e1
 refine ⟨g', e2.trans f2, ?_⟩
 rw [vO]
 exact bMz n _ _ _ _ _ _ _ _ _ _ f1 _
theorem bAk (k : K) : aP CF R9 179 899 (cf Tryz.f10) x0 krN k = aP CF R9 179 899 bWd x0 krN (aP CF R9 179 899 bQo x0 krN (aP CF R9 179 899 cVf x0 krN k)) := by kernel_rfl
theorem cRi : aP CF R9 179 899 cVf x0 krN krN = fun env h => eP R9 899 (env 5) h := bRr R9 899
theorem cFj : aP CF R9 179 899 bQo x0 krN (fun env h => eP R9 899 (env 5) h) = fun env h => aWs R9 899 (env 5) (env 155) (env 156) (env 157) h :=
 (by kernel_rfl : aP CF R9 179 899 bQo x0 krN (fun env h => eP R9 899 (env 5) h) = D10 R9 899 (cL (cR (cL (cR (cR (cR (cR (cR (cR (cf Tryz.f10)))))))))) (xs x0 7 (fun (env : aU) (h : Hp) => eP R9 899 (env 5) h)) (fun (env : aU) (h : Hp) => eP R9 899 (env 5) h)).trans (bMu R9 899)
theorem cHt (x : DV) (h : Hp) : aG CF R9 899 10 [x] h = aP CF R9 179 899 (cf Tryz.f10) x0 krN krN (aJ [x]) h := by kernel_rfl
theorem cEd : ∃ e h', Sim true (hU 432 (lQ 20000 553 84 18 [1076, 1096, 6, 24, 42, 60, 78, 96, 114, 132, 150, 168, 186, 204, 222, 240, 258, 276] [(10, 0), (19, 0), (46, 0), (55, 0), (64, 0), (91, 0), (100, 0), (109, 0), (118, 0), (127, 0), (145, 0)] 0)) h' ∧ e 5 = .p (bG 7) 0 ∧ e 155 = .l (bG 431) 0 75 75 ∧ e 156 = .i .i64 (.ofNat 75) ∧ e 157 = .i .i64 (.ofNat 0) ∧
  ∀ X kr k, aP CF R9 179 899 bWd X kr k (aJ [.i .i64 (.ofNat 20000)]) lE = k e h' := by
 obtain ⟨O, hO⟩ := aHl (C := CF) (rec := R9) (nt := 179) 899 bWd
 obtain ⟨g, e1, e2⟩ := aTl he0
 have e1' : dEu (O (aJ [.i .i64 (.ofNat 20000)]) lE) (fun _ _ _ => none) (fun _ _ => none) cRy = some (.t (jE 0), g) := (hO _ _ _ _ _).symm.trans e1
 cases ho : O (aJ [.i .i64 (.ofNat 20000)]) lE with
 | none => rw [ho] at e1'; cases e1'
 | some o =>
  rw [ho] at e1'
  cases o with
  | x i e h' => cases e1'
  | r e h' => cases e1'
  | n e h' =>
   have q : (some (.t [e 5, e 155, e 156, e 157], h') : aH) = some (.t (jE 0), g) := e1'
   simp only [jE, bB, bL, DV.t.injEq, List.cons.injEq, and_true] at q
   obtain ⟨⟨q1, q2, q3, q4⟩, q5⟩ := q
   exact ⟨e, h', by rw [q5]; exact e2, q1, q2, q3, q4, fun X kr k => by rw [hO, ho]; rfl⟩
theorem cLc : ∃ g, jR 900 10 [.i .i64 (.ofNat 20000)] lE = some (.t [.p (bG 7) 0, .i .i64 (.ofNat 0)], g) ∧ Sim true (hU 26855 (lQ 20000 4321 583 80 [8370, 1096, 6, 24, 42, 60, 78, 96, 114, 132, 150, 168, 186, 204, 222, 240, 258, 276] [] 75)) g := by
 obtain ⟨e, h0, S0, p1, p2, p3, p4, hpre⟩ := cEd
 obtain ⟨h1, S1, c1⟩ := hC hc0 894 S0
 obtain ⟨h2, S2, c2⟩ := hC hc5 889 S1
 obtain ⟨h3, S3, c3⟩ := hC dCx 884 S2
 obtain ⟨h4, S4, c4⟩ := hC dDa 879 S3
 obtain ⟨h5, S5, c5⟩ := hC dBy 874 S4
 obtain ⟨h6, S6, c6⟩ := hC dBa 869 S5
 obtain ⟨h7, S7, c7⟩ := hC dCd 864 S6
 obtain ⟨h8, S8, c8⟩ := hC dBr 859 S7
 obtain ⟨h9, S9, c9⟩ := hC dAq 854 S8
 obtain ⟨h10, S10, c10⟩ := hC dBu 849 S9
 obtain ⟨h11, S11, c11⟩ := hC dCk 844 S10
 obtain ⟨h12, S12, c12⟩ := hC cZf 839 S11
 obtain ⟨h13, S13, c13⟩ := hC dCa 834 S12
 obtain ⟨h14, S14, c14⟩ := hC dBn 829 S13
 obtain ⟨h15, S15, c15⟩ := hC dAr 824 S14
 refine ⟨h15, ?_, S15⟩
 have e0 : jR 900 10 [.i .i64 (.ofNat 20000)] lE = aG CF R9 899 10 [.i .i64 (.ofNat 20000)] lE := by
  show shB R9 899 10 _ _ = _
  rw [aPr]
 rw [e0, cHt, bAk, cRi, cFj, hpre]
 show aWs R9 899 (e 5) (e 155) (e 156) (e 157) h0 = _
 rw [p1, p2, p3, p4]
 show iW R9 899 899 _ _ _ _ h0 = _
 refine c1.trans ?_
 refine c2.trans ?_
 refine c3.trans ?_
 refine c4.trans ?_
 refine c5.trans ?_
 refine c6.trans ?_
 refine c7.trans ?_
 refine c8.trans ?_
 refine c9.trans ?_
 refine c10.trans ?_
 refine c11.trans ?_
 refine c12.trans ?_
 refine c13.trans ?_
 refine c14.trans ?_
 refine c15.trans ?_
 rw [show (824 : Nat) = 823 + 1 from rfl]
 show iX R9 899 (iW R9 899 823) _ _ _ _ h15 = _
 unfold iX
 have hl : decide (Int.ofNat 75 < Int.ofNat 75) = false := rfl
 simp only [dY, bA, hl, cF]
 rfl
end Go.Dd

namespace Go.Dd
open Go.Proofs
noncomputable def hN : Hp := hU 26855 (lQ 20000 4321 583 80 [8370, 1096, 6, 24, 42, 60, 78, 96, 114, 132, 150, 168, 186, 204, 222, 240, 258, 276] [] 75)
noncomputable def zN (n : Nat) : RT := fun g args h => bif Nat.beq g 10 then (match args, h with
 | [.i .i64 (.ofNat m)], ⟨.h, .e⟩ => bif Nat.beq m 20000 then some (.t [.p (bG 7) 0, .i .i64 (.ofNat 0)], hN) else none
 | _, _ => none) else jR n g args h
noncomputable def okB (r : aH) : Bool := match r with
 | some (.b x, _) => x
 | _ => false
theorem cPj : okB (s16 (zN 900) 900 lE) = true := by kernel_rfl
end Go.Dd

namespace Go.Dd
open Go.Proofs
abbrev iD (n : Int) : DV := .i .i64 n
structure Wd (h : Hp) (M : MemV) (R : List Int) (es : List (DV × DV)) : Prop where
 w : h.bl.get (bG 7) = some (.row .ex [.p (bG 3) 0, .l (bG 4) 0 18 18, .m (bG 5), .m (bG 6)])
 r : h.bl.get (bG 4) = some (.row .ex (R.map iD))
 rl : R.length = 18
 sy : h.bl.get (bG 5) = some (.mp es)
 mem : kI (bG 3) h = some M
 nx : 8 ≤ h.next.toNat
 wb : M.wb = bG 1
 pb : M.pb = bG 2
structure Good (M : MemV) : Prop where
 n : M.n < 1000000
 le : M.fin ≤ M.n
 lo : 3 ≤ M.fin
 hi : M.n ≤ 131072
 md : M.made < 900000
 ob : ∀ a, M.pl.get a ≠ 0 → 3 ≤ a ∧ ∃ hd : Nat, M.t.get a = .ofNat hd ∧ hd < 1000000000000 ∧ a + 3 + hd / 4 ≤ M.fin ∧ cD (M.t.get (a + 1)) M.pl ≠ 0
theorem shS (n : Nat) (f : FuncId) (args : List DV) (h : Hp) : jR (n + 1) f args h = aG CF (jR n) n f args h := by
 show shB (jR n) n f args h = _
 rw [aPr]
theorem kY (b : Pos) (o : Nat) (h : Hp) : aQ (.p b o) h = some (.p b o, h) := Eq.trans rfl rfl
theorem fld (b : Pos) (o k : Nat) (h : Hp) : aB k (.p b o) h = some (.p b (o + k), h) := Eq.trans rfl rfl
section
theorem Wd.l0 {h : Hp} {M : MemV} {R : List Int} {es : List (DV × DV)} (W : Wd h M R es) : aA (.p (bG 7) 0) h = some (.p (bG 3) 0, h) := by
 simp only [aA, cellD, rowOf, W.w, List.getElem?_cons_zero, DV.one, if_true]
theorem Wd.l00 {h : Hp} {M : MemV} {R : List Int} {es : List (DV × DV)} (W : Wd h M R es) : aA (.p (bG 7) (0 + 0)) h = some (.p (bG 3) 0, h) := W.l0
theorem Wd.l1 {h : Hp} {M : MemV} {R : List Int} {es : List (DV × DV)} (W : Wd h M R es) : aA (.p (bG 7) (0 + 1)) h = some (.l (bG 4) 0 18 18, h) := by
 simp only [aA, cellD, rowOf, W.w, Nat.zero_add, List.getElem?_cons_succ, List.getElem?_cons_zero, DV.one, if_true]
theorem Wd.l2 {h : Hp} {M : MemV} {R : List Int} {es : List (DV × DV)} (W : Wd h M R es) : aA (.p (bG 7) (0 + 2)) h = some (.m (bG 5), h) := by
 simp only [aA, cellD, rowOf, W.w, Nat.zero_add, List.getElem?_cons_succ, List.getElem?_cons_zero, DV.one, if_true]
theorem Wd.root {h : Hp} {M : MemV} {R : List Int} {es : List (DV × DV)} (W : Wd h M R es) {i : Nat} (hi : i < 18) : aA (.p (bG 4) i) h = some (iD (R.getD i 0), h) := by
 have e : (R.map iD)[i]? = some (iD (R.getD i 0)) := by
  have : i < R.length := by rw [W.rl]; exact hi
  simp [List.getElem?_map, List.getElem?_eq_getElem this, List.getD]
 simp only [aA, cellD, rowOf, W.r, e, DV.one, if_true]
theorem Wd.known {h : Hp} {M : MemV} {R : List Int} {es : List (DV × DV)} (W : Wd h M R es) {i : Nat} (hi : i < 16) (n : Nat) : jR (n + 1) 15 [.p (bG 7) 0, .i .i64 (Int.ofNat i)] h = some (iD (R.getD (2 + i) 0), h) := by
 rw [shS, cGf]
 unfold s15
 have h1 : decide (Int.ofNat i < Int.ofNat 0) = false := by simp
 have h2 : decide (Int.ofNat i ≥ Int.ofNat 16) = false := by simp; omega
 have h3 : aI 1 (.l (bG 4) 0 18 18) (.i .i64 (Int.ofNat 2 + Int.ofNat i)) h = some (.p (bG 4) (2 + i), h) := by
  show (if (0 : Int) ≤ Int.ofNat 2 + Int.ofNat i ∧ Int.ofNat 2 + Int.ofNat i < ((18 : Nat) : Int) then some (DV.p (bG 4) (0 + (Int.ofNat 2 + Int.ofNat i).toNat * 1), h) else none) = _
  rw [if_pos (by simp; omega), show (Int.ofNat 2 + Int.ofNat i).toNat = 2 + i by simp; omega]
  simp
 simp only [g0, g1, dY, oL, bA, gT, cN, cF, h1, h2, kY, fld, W.l1, kB _ _ _ (show -9223372036854775808 ≤ Int.ofNat 2 + Int.ofNat i ∧ Int.ofNat 2 + Int.ofNat i ≤ 9223372036854775807 by simp; omega), h3, W.root (show 2 + i < 18 by omega)]
theorem Wd.is {h : Hp} {M : MemV} {R : List Int} {es : List (DV × DV)} (W : Wd h M R es) (w : Int) : isF [.p (bG 3) 0, .i .i64 w] h = some (.b (!(Nat.beq (cD w M.pl) 0)), h) := by
 simp only [isF, jP, W.mem]
theorem Wd.head {h : Hp} {M : MemV} {R : List Int} {es : List (DV × DV)} (W : Wd h M R es) {o : Int} (G : Good M) (ho : cD o M.pl ≠ 0) : ∃ hd : Nat, M.t.get (cD o M.pl) = .ofNat hd ∧ hd < 1000000000000 ∧ 3 ≤ cD o M.pl ∧ cD o M.pl + 3 + hd / 4 ≤ M.fin ∧ (∀ k, iC M o k = k hd) ∧ cD (M.t.get (cD o M.pl + 1)) M.pl ≠ 0 := by
 have hp : M.pl.get (cD o M.pl) ≠ 0 := by
  rcases kC o M.pl with e | ⟨e, _⟩
  ·exact absurd e ho
  ·have := (atN_pos (o := o) (pl := M.pl)).1 ho
   rw [e]; exact this.2
 obtain ⟨h0, hd, h1, h2, h3, h4⟩ := G.ob _ hp
 refine ⟨hd, h1, h2, h0, h3, fun k => ?_, h4⟩
 have hl := G.le
 have b1 : Nat.blt (Nat.add (cD o M.pl) 1) M.n = true := by
  rw [iJ]; exact decide_eq_true (show cD o M.pl + 1 < M.n by omega)
 have b2 : Nat.blt hd 1000000000000 = true := by rw [iJ]; exact decide_eq_true h2
 unfold iC
 rw [b1, h1]
 simp only [cond_true, b2]
theorem Wd.cls {h : Hp} {M : MemV} {R : List Int} {es : List (DV × DV)} (W : Wd h M R es) (G : Good M) {o : Int} (ho : cD o M.pl ≠ 0) : iU [.p (bG 3) 0, .i .i64 o] h = some (iD (M.t.get (cD o M.pl + 1)), h) := by
 obtain ⟨hd, _, _, _, _, hk, _⟩ := W.head G ho
 simp only [iU, jP, W.mem, hk, Nat.add_eq]
noncomputable def bXm (M : MemV) (R : List Int) (x : Int) : Int :=
 if cD x M.pl ≠ 0 then M.t.get (cD x M.pl + 1) else if eZ x then R.getD 9 0 else if x = 0 then R.getD 4 0 else if x = 2 then R.getD 6 0 else if x = 4 then R.getD 7 0 else 0
theorem Wd.classOf {h : Hp} {M : MemV} {R : List Int} {es : List (DV × DV)} (W : Wd h M R es) (G : Good M) (x : Int) (n : Nat) : jR (n + 2) 14 [.p (bG 7) 0, .i .i64 x] h = some (iD (bXm M R x), h) := by
 rw [shS, cGk]
 unfold s14 bXm
 by_cases ha : cD x M.pl = 0
 ·have b : (!(Nat.beq (cD x M.pl) 0)) = false := by rw [ha]; rfl
  have c0 : ∀ k : Nat, (x == Int.ofNat k) = decide (x = Int.ofNat k) := fun k => rfl
  have hs : ∀ h, gA [.i .i64 x] h = some (.b (eZ x), h) := fun h => rfl
  rw [if_neg (by simp [ha])]
  simp only [g0, g1, kY, fld, bA, W.l00, W.is, b, cF, hs, eI, W.known (show 7 < 16 by omega), W.known (show 2 < 16 by omega), W.known (show 4 < 16 by omega), W.known (show 5 < 16 by omega)]
  cases hsm : eZ x with
  | true => simp only [cO, if_true]
  | false =>
   simp only [cF, Bool.false_eq_true, if_false]
   by_cases e0 : x = 0
   ·subst e0; rfl
   ·rw [if_neg e0]
    have q0 : (x == Int.ofNat 0) = false := by simpa using e0
    simp only [q0, cF]
    by_cases e2 : x = 2
    ·subst e2; rfl
    ·rw [if_neg e2]
     have q2 : (x == Int.ofNat 2) = false := by simpa using e2
     simp only [q2, cF]
     by_cases e4 : x = 4
     ·subst e4; rfl
     ·rw [if_neg e4]
      have q4 : (x == Int.ofNat 4) = false := by simpa using e4
      simp only [q4, cF]
      rfl
 ·have b : (!(Nat.beq (cD x M.pl) 0)) = true := by
   cases hb : Nat.beq (cD x M.pl) 0 with
   | true => exact absurd (Nat.eq_of_beq_eq_true hb) ha
   | false => rfl
  rw [if_pos ha]
  simp only [g0, g1, kY, fld, bA, W.l00, W.is, b, cO, W.cls G ha]
end
end Go.Dd

namespace Go.Dd
open Go.Proofs
theorem pn1 : (bG 1).toNat = 1 := by kernel_rfl
theorem pn2 : (bG 2).toNat = 2 := by kernel_rfl
theorem pn3 : (bG 3).toNat = 3 := by kernel_rfl
theorem pn4 : (bG 4).toNat = 4 := by kernel_rfl
theorem pn5 : (bG 5).toNat = 5 := by kernel_rfl
theorem pn7 : (bG 7).toNat = 7 := by kernel_rfl
theorem pne {a b : Nat} {p q : Pos} (hp : p.toNat = a) (hq : q.toNat = b) (h : a ≠ b) : p ≠ q := fun e => h (by rw [← hp, ← hq, e])
theorem pnl {a : Nat} {p q : Pos} (hp : p.toNat = a) (hq : 8 ≤ q.toNat) (h : a < 8) : q ≠ p := fun e => by rw [e, hp] at hq; omega
theorem lG {m : Pos} {h : Hp} {M : MemV} (e : kI m h = some M) : h.bl.get m = some (.row .ex [.l M.wb 0 M.n M.n, .i .i64 (.ofNat M.fin), .i .i64 (.ofNat M.made), .m M.pb]) ∧ h.bl.get M.wb = some (.big M.n M.t) ∧
  h.bl.get M.pb = some (.mi M.pl) ∧ M.n < 1000000 ∧ M.fin ≤ M.n ∧ M.made < 1000000 := by
 unfold kI at e
 split at e <;> (try (cases e; done))
 rename_i wb n c fin made pb hr
 split at e <;> (try (cases e; done))
 rename_i n' t pl h1 h2
 cases hc : (Nat.beq n n' && Nat.beq n c) with
 | false => rw [hc] at e; cases e
 | true =>
  rw [hc, cond_true] at e
  simp only [Bool.and_eq_true] at hc
  have q1 := Nat.eq_of_beq_eq_true hc.1
  have q2 := Nat.eq_of_beq_eq_true hc.2
  subst q1; subst q2
  cases hd : (Nat.blt n 1000000 && (Nat.ble fin n && Nat.blt made 1000000)) with
  | false => rw [hd] at e; cases e
  | true =>
   rw [hd, cond_true] at e
   cases e
   simp only [Bool.and_eq_true, iJ, kO, decide_eq_true_eq] at hd
   exact ⟨hr, h1, h2, hd.1, hd.2.1, hd.2.2⟩
theorem nQ {m : Pos} {h : Hp} {M : MemV} (h1 : h.bl.get m = some (.row .ex [.l M.wb 0 M.n M.n, .i .i64 (.ofNat M.fin), .i .i64 (.ofNat M.made), .m M.pb])) (h2 : h.bl.get M.wb = some (.big M.n M.t))
  (h3 : h.bl.get M.pb = some (.mi M.pl)) (h4 : M.n < 1000000) (h5 : M.fin ≤ M.n) (h6 : M.made < 1000000) : kI m h = some M := by
 unfold kI
 simp only [h1, h2, h3]
 have q1 : (Nat.beq M.n M.n && Nat.beq M.n M.n) = true := by simp
 have q2 : (Nat.blt M.n 1000000 && (Nat.ble M.fin M.n && Nat.blt M.made 1000000)) = true := by simp [iJ, kO, h4, h5, h6]
 rw [q1, cond_true, q2, cond_true]
structure Up (h h' : Hp) : Prop where
 next : h.next.toNat ≤ h'.next.toNat
 get : ∀ b : Pos, 8 ≤ b.toNat → b.toNat < h.next.toNat → h'.bl.get b = h.bl.get b
theorem Up.refl (h : Hp) : Up h h := ⟨Nat.le_refl _, fun _ _ _ => rfl⟩
theorem Up.trans {a b c : Hp} (u : Up a b) (v : Up b c) : Up a c := ⟨Nat.le_trans u.next v.next, fun p h1 h2 => (v.get p h1 (Nat.lt_of_lt_of_le h2 u.next)).trans (u.get p h1 h2)⟩
def SlI (x : DV) (l : List Int) (h : Hp) : Prop := (x = .l0 ∧ l = []) ∨ ∃ b cap k, x = .l b 0 l.length cap ∧ h.bl.get b = some (.row k (l.map iD)) ∧ 8 ≤ b.toNat ∧ b.toNat < h.next.toNat
theorem SlI.up {x : DV} {l : List Int} {h h' : Hp} (s : SlI x l h) (u : Up h h') : SlI x l h' := by
 rcases s with ⟨rfl, rfl⟩ | ⟨b, cap, k, e, g, h1, h2⟩
 ·exact .inl ⟨rfl, rfl⟩
 ·exact .inr ⟨b, cap, k, e, by rw [u.get b h1 h2]; exact g, h1, Nat.lt_of_lt_of_le h2 u.next⟩
theorem SlI.len {x : DV} {l : List Int} {h h' : Hp} (s : SlI x l h) : bS x h' = some (iD l.length, h') := by
 rcases s with ⟨rfl, rfl⟩ | ⟨b, cap, k, e, g, h1, h2⟩
 ·rfl
 ·rw [e]; rfl
theorem SlI.at {x : DV} {l : List Int} {h : Hp} (s : SlI x l h) {i : Nat} {v : Int} (hi : l[i]? = some v) : ∃ a, aI 1 x (.i .i64 (Int.ofNat i)) h = some (a, h) ∧ aA a h = some (iD v, h) := by
 have hl : i < l.length := by
  rcases Nat.lt_or_ge i l.length with q | q
  ·exact q
  ·rw [List.getElem?_eq_none q] at hi; cases hi
 rcases s with ⟨rfl, rfl⟩ | ⟨b, cap, k, e, g, h1, h2⟩
 ·simp at hi
 ·refine ⟨.p b i, ?_, ?_⟩
  ·rw [e]
   show (if (0 : Int) ≤ Int.ofNat i ∧ Int.ofNat i < ((l.length : Nat) : Int) then some (DV.p b (0 + (Int.ofNat i).toNat * 1), h) else none) = _
   rw [if_pos ⟨by simp, by simpa using hl⟩]
   simp
  ·have e : (l.map iD)[i]? = some (iD v) := by rw [List.getElem?_map, hi]; rfl
   simp only [aA, cellD, rowOf, g, e, DV.one, if_true]
section
theorem Wd.up {h : Hp} {M : MemV} {R : List Int} {es : List (DV × DV)} (W : Wd h M R es) {h' : Hp} (u : Up h h') (e : ∀ b : Pos, b.toNat < 8 → h'.bl.get b = h.bl.get b) : Wd h' M R es := by
 obtain ⟨m1, m2, m3, m4, m5, m6⟩ := lG W.mem
 refine ⟨by rw [e _ (by rw [pn7]; omega)]; exact W.w, by rw [e _ (by rw [pn4]; omega)]; exact W.r, W.rl, by rw [e _ (by rw [pn5]; omega)]; exact W.sy, ?_, Nat.le_trans W.nx u.next, W.wb, W.pb⟩
 exact nQ (by rw [e _ (by rw [pn3]; omega)]; exact m1) (by rw [e _ (by rw [W.wb, pn1]; omega)]; exact m2) (by rw [e _ (by rw [W.pb, pn2]; omega)]; exact m3) m4 m5 m6
theorem Wd.new {h : Hp} {M : MemV} {R : List Int} {es : List (DV × DV)} (W : Wd h M R es) (o : Ob) : Up h ⟨h.next.succ, Tr.set o h.next h.bl⟩ ∧ Wd ⟨h.next.succ, Tr.set o h.next h.bl⟩ M R es := by
 have u : Up h ⟨h.next.succ, Tr.set o h.next h.bl⟩ := ⟨by show _ ≤ (h.next.succ).toNat; rw [dDz]; omega, fun b h1 h2 => by
  show (Tr.set o h.next h.bl).get b = _
  rw [dDv]
  intro e; subst e; omega⟩
 refine ⟨u, W.up u fun b hb => ?_⟩
 show (Tr.set o h.next h.bl).get b = _
 rw [dDv]
 intro e; subst e
 have := W.nx
 omega
theorem Wd.setT {h : Hp} {M : MemV} {R : List Int} {es : List (DV × DV)} (W : Wd h M R es) (t' : WT) : Wd ⟨h.next, Tr.set (.big M.n t') M.wb h.bl⟩ { M with t := t' } R es ∧ Up h ⟨h.next, Tr.set (.big M.n t') M.wb h.bl⟩ := by
 obtain ⟨m1, m2, m3, m4, m5, m6⟩ := lG W.mem
 have ne : ∀ b : Pos, b.toNat ≠ 1 → (Tr.set (.big M.n t') M.wb h.bl).get b = h.bl.get b := fun b hb => by
  rw [dDv]
  intro e; rw [e, W.wb, pn1] at hb; exact hb rfl
 refine ⟨⟨by rw [ne _ (by rw [pn7]; omega)]; exact W.w, by rw [ne _ (by rw [pn4]; omega)]; exact W.r, W.rl, by rw [ne _ (by rw [pn5]; omega)]; exact W.sy, ?_, W.nx, W.wb, W.pb⟩, ⟨Nat.le_refl _, fun b h1 h2 => ne b (by omega)⟩⟩
 exact nQ (by show (Tr.set (.big M.n t') M.wb h.bl).get _ = _; rw [ne _ (by rw [pn3]; omega)]; exact m1) (by show (Tr.set (.big M.n t') M.wb h.bl).get M.wb = _; rw [dDw])
  (by show (Tr.set (.big M.n t') M.wb h.bl).get M.pb = _; rw [ne _ (by rw [W.pb, pn2]; omega)]; exact m3) m4 m5 m6
end
end Go.Dd

namespace Go.Dd
open Go.Proofs
noncomputable def MemV.mk1 (M : MemV) (f c : Nat) (cls : Int) : MemV := ⟨M.wb, M.n, M.fin + (c + 3), M.made + 1, M.pb,
 kM (((M.t.set M.fin (.ofNat (c * 4 + f))).set (M.fin + 1) cls).set (M.fin + 2) (.ofNat (M.made + 1))) c (M.fin + 3), M.pl.set M.fin (.ofNat 1)⟩
def okV (f : Nat) (pl : WT) (v : Int) : Prop := match f with
 | 0 => jM v pl = true
 | 2 => 0 ≤ v ∧ v ≤ 255
 | _ => True
theorem bWz {c : Int} {pl : WT} (h : cD c pl ≠ 0) : pE c pl = true := by
 unfold pE
 split
 ·rfl
 ·have : Nat.beq (cD c pl) 0 = false := by
   cases hb : Nat.beq (cD c pl) 0 with
   | true => exact absurd (Nat.eq_of_beq_eq_true hb) h
   | false => rfl
  rw [this]; rfl
section
theorem Wd.make {h : Hp} {M : MemV} {R : List Int} {es : List (DV × DV)} (W : Wd h M R es) (G : Good M) {cls : Int} (hc : cD cls M.pl ≠ 0) {f c : Nat} (hf : f ≤ 2) (h256 : c ≤ 256) (room : M.fin + c + 3 ≤ M.n) :
  ∃ h1, mD [.p (bG 3) 0, .i .i64 cls, .i .i64 (.ofNat f), .i .i64 (.ofNat c)] h = some (.t [.i .i64 (.ofNat (M.fin * 2)), .i .i64 (.ofNat 0)], h1) ∧ Wd h1 (M.mk1 f c cls) R es ∧ Up h h1 ∧ h1.next = h.next := by
 obtain ⟨m1, m2, m3, m4, m5, m6⟩ := lG W.mem
 have q1 : (!(pE cls M.pl)) = false := by rw [bWz hc]; rfl
 have q2 : (Nat.ble f 2 && Nat.ble c 256) = true := by simp [kO, hf, h256]
 have q3 : Nat.blt (Nat.sub M.n M.fin) (Nat.add c 3) = false := by
  rw [iJ]; exact decide_eq_false (by show ¬ M.n - M.fin < c + 3; omega)
 have hlo := G.lo
 have hhi := G.hi
 have hmd := G.md
 have q4 : (Nat.ble 3 M.fin && Nat.ble M.fin 131072) = true := by simp [kO]; omega
 refine ⟨⟨h.next, Tr.set (.row .ex [.l M.wb 0 M.n M.n, .i .i64 (.ofNat (M.fin + (c + 3))), .i .i64 (.ofNat (M.made + 1)), .m M.pb]) (bG 3) (Tr.set (.mi (M.pl.set M.fin (.ofNat 1))) M.pb (Tr.set (.big M.n (M.mk1 f c cls).t) M.wb h.bl))⟩, ?_, ?_, ?_, ?_⟩
 ·simp only [mD, W.mem, q1, q2, q3, q4, cond_false, cond_true]
  rfl
 ·have ne : ∀ (b : Pos) (o1 o2 o3 : Ob), b.toNat ≠ 1 → b.toNat ≠ 2 → b.toNat ≠ 3 → (Tr.set o1 (bG 3) (Tr.set o2 M.pb (Tr.set o3 M.wb h.bl))).get b = h.bl.get b := fun b o1 o2 o3 h1 h2 h3 => by
   rw [dDv _ _ _ _ (fun e => h3 (by rw [e, pn3])), dDv _ _ _ _ (fun e => h2 (by rw [e, W.pb, pn2])), dDv _ _ _ _ (fun e => h1 (by rw [e, W.wb, pn1]))]
  refine ⟨(ne _ _ _ _ (by rw [pn7]; omega) (by rw [pn7]; omega) (by rw [pn7]; omega)).trans W.w, (ne _ _ _ _ (by rw [pn4]; omega) (by rw [pn4]; omega) (by rw [pn4]; omega)).trans W.r, W.rl,
   (ne _ _ _ _ (by rw [pn5]; omega) (by rw [pn5]; omega) (by rw [pn5]; omega)).trans W.sy, ?_, W.nx, W.wb, W.pb⟩
  refine nQ (by show (Tr.set _ (bG 3) _).get (bG 3) = _; rw [dDw]; rfl) ?_ ?_ m4 (show M.fin + (c + 3) ≤ M.n by omega) (show M.made + 1 < 1000000 by omega)
  ·show (Tr.set _ (bG 3) (Tr.set _ M.pb (Tr.set _ M.wb h.bl))).get M.wb = _
   rw [dDv _ _ _ _ (by rw [W.wb]; exact pne pn1 pn3 (by omega)), dDv _ _ _ _ (by rw [W.wb, W.pb]; exact pne pn1 pn2 (by omega))]
   exact dDw _ _ _
  ·show (Tr.set _ (bG 3) (Tr.set _ M.pb (Tr.set _ M.wb h.bl))).get M.pb = _
   rw [dDv _ _ _ _ (by rw [W.pb]; exact pne pn2 pn3 (by omega))]
   exact dDw _ _ _
 ·refine ⟨Nat.le_refl _, fun b h1 h2 => ?_⟩
  show (Tr.set _ (bG 3) (Tr.set _ M.pb (Tr.set _ M.wb h.bl))).get b = _
  rw [dDv _ _ _ _ (pnl pn3 h1 (by omega)), dDv _ _ _ _ (by rw [W.pb]; exact pnl pn2 h1 (by omega)), dDv _ _ _ _ (by rw [W.wb]; exact pnl pn1 h1 (by omega))]
 ·rfl
theorem Wd.put {h : Hp} {M : MemV} {R : List Int} {es : List (DV × DV)} (W : Wd h M R es) {o v : Int} {i hd : Nat} (ho : cD o M.pl ≠ 0) (hh : M.t.get (cD o M.pl) = .ofNat hd) (hb : hd < 1000000000000) (hi : i < hd / 4) (hn : cD o M.pl + 3 + hd / 4 ≤ M.n) (hv : okV (hd % 4) M.pl v) :
  wQ [.p (bG 3) 0, .i .i64 o, .i .i64 (.ofNat i), .i .i64 v] h = some (.i .i64 (.ofNat 0), ⟨h.next, Tr.set (.big M.n (M.t.set (cD o M.pl + 3 + i) v)) M.wb h.bl⟩) := by
 have b0 : Nat.beq (cD o M.pl) 0 = false := by
  cases hb : Nat.beq (cD o M.pl) 0 with
  | true => exact absurd (Nat.eq_of_beq_eq_true hb) ho
  | false => rfl
 have b1 : Nat.blt (Nat.add (cD o M.pl) 1) M.n = true := by
  rw [iJ]; exact decide_eq_true (show cD o M.pl + 1 < M.n by omega)
 have b2 : Nat.blt hd 1000000000000 = true := by rw [iJ]; exact decide_eq_true hb
 have b3 : Nat.ble (Nat.div hd 4) i = false := by rw [kO]; exact decide_eq_false (show ¬ hd / 4 ≤ i by omega)
 have b4 : Nat.blt (Nat.add (Nat.add (cD o M.pl) 3) i) M.n = true := by rw [iJ]; exact decide_eq_true (show cD o M.pl + 3 + i < M.n by omega)
 simp only [wQ, jP, W.mem, gU, b0, cond_false, iC, b1, cond_true, hh, b2, b3, b4]
 show (match hd % 4 with
  | 0 => bif jM v M.pl then lD M (cD o M.pl + 3 + i) v h else some (.i .i64 (.ofNat 6), h)
  | 2 => (match (generalizing := false) v with
   | .ofNat c => bif Nat.ble c 255 then lD M (cD o M.pl + 3 + i) v h else some (.i .i64 (.ofNat 6), h)
   | .negSucc _ => some (.i .i64 (.ofNat 6), h))
  | _ => lD M (cD o M.pl + 3 + i) v h) = _
 have hm : hd % 4 < 4 := Nat.mod_lt _ (by omega)
 generalize hd % 4 = f at hv hm
 match f, hv with
 | 0, hv =>
  change jM v M.pl = true at hv
  simp only [hv, cond_true]
  rfl
 | 1, hv => rfl
 | 2, hv =>
  change 0 ≤ v ∧ v ≤ 255 at hv
  cases v with
  | negSucc c => omega
  | ofNat c =>
   have : Nat.ble c 255 = true := by rw [kO]; exact decide_eq_true (by have := hv.2; simp at this; omega)
   simp only [this, cond_true]
   rfl
 | 3, hv => rfl
 | n + 4, hv => omega
end
theorem fill {R : List Int} {es : List (DV × DV)} {o : Int} {x : DV} {a hd n : Nat} {pl : WT} {rec : FuncId → List DV → Hp → aH} (ha : cD o pl = a) (h0 : a ≠ 0) (hb : hd < 1000000000000) : ∀ (l2 done : List Int) (m : Nat) (M : MemV) (h : Hp), Wd h M R es → SlI x (done ++ l2) h →
  M.pl = pl → M.t.get a = .ofNat hd → hd / 4 = (done ++ l2).length → a + 3 + hd / 4 ≤ M.n → M.n ≤ 131072 → (∀ v ∈ l2, okV (hd % 4) pl v) → l2.length < m →
  ∃ h' t', mF rec n m (.p (bG 7) 0) (.i .i64 o) x (iD (done ++ l2).length) (.i .i64 (.ofNat done.length)) h = some (.t [.i .i64 o, .i .i64 (.ofNat 0)], h') ∧ Wd h' { M with t := t' } R es ∧ Up h h' ∧ h'.next = h.next ∧
   ∀ j, t'.get j = if a + 3 + done.length ≤ j ∧ j < a + 3 + (done ++ l2).length then l2.getD (j - (a + 3 + done.length)) 0 else M.t.get j
 | [], done, m + 1, M, h, W, S, e1, e2, e3, e4, e5, e6, e7 => by
  refine ⟨h, M.t, ?_, W, Up.refl h, rfl, fun j => by rw [if_neg (by simp)]⟩
  show oV rec n (mF rec n m) _ _ _ _ _ h = _
  unfold oV
  have hl : decide (Int.ofNat done.length < ((done ++ []).length : Int)) = false := by simp
  simp only [dY, bA, hl, cF]
  rfl
 | v :: l2, done, m + 1, M, h, W, S, e1, e2, e3, e4, e5, e6, e7 => by
  subst e1
  obtain ⟨ad, q1, q2⟩ := S.at (i := done.length) (v := v) (by simp)
  have hp := W.put (o := o) (v := v) (i := done.length) (hd := hd) (by rw [ha]; exact h0) (by rw [ha]; exact e2) hb (by rw [e3]; simp) (by rw [ha]; exact e4) (e6 v (by simp))
  rw [ha] at hp
  obtain ⟨W1, U1⟩ := W.setT (M.t.set (a + 3 + done.length) v)
  have hlen : (done ++ v :: l2).length = done.length + 1 + l2.length := by simp; omega
  have hset : ∀ j, (M.t.set (a + 3 + done.length) v).get j = if j = a + 3 + done.length then v else M.t.get j := fun j => WT.get_set _ _ _ _ (by omega)
  obtain ⟨h', t', r1, r2, r3, r4, r5⟩ := fill ha h0 hb l2 (done ++ [v]) m { M with t := M.t.set (a + 3 + done.length) v } _ W1 (by rw [List.append_assoc]; exact S.up U1) rfl (by
   show (M.t.set (a + 3 + done.length) v).get a = _
   rw [hset, if_neg (by omega)]; exact e2) (by rw [e3]; simp) e4 e5 (fun u hu => e6 u (by simp [hu])) (by simp at e7; omega)
  refine ⟨h', t', ?_, r2, U1.trans r3, r4, fun j => ?_⟩
  ·show oV rec n (mF rec n m) _ _ _ _ _ h = _
   unfold oV
   have hl : decide (Int.ofNat done.length < ((done ++ v :: l2).length : Int)) = true := by simp; omega
   simp only [dY, bA, hl, cO, q1, q2, kY, fld, W.l00, hp]
   rw [kB _ _ _ (by simp; omega), bA]
   have el : (Int.ofNat done.length + Int.ofNat 1) = Int.ofNat (done ++ [v]).length := by simp
   rw [el]
   have el2 : (done ++ v :: l2) = done ++ [v] ++ l2 := by simp
   rw [el2]
   exact r1
  ·rw [r5 j]
   simp only [hset, laE, lcE, lnE]
   by_cases c1 : a + 3 + done.length + 1 ≤ j ∧ j < a + 3 + (done.length + 1 + l2.length)
   ·rw [if_pos (by omega), if_pos (by omega)]
    have : j - (a + 3 + done.length) = (j - (a + 3 + (done.length + (0 + 1)))) + 1 := by omega
    rw [this]
    simp
   ·rw [if_neg (by omega)]
    by_cases c2 : j = a + 3 + done.length
    ·rw [if_pos c2, if_pos (by omega)]
     subst c2
     simp
    ·rw [if_neg c2, if_neg (by omega)]
end Go.Dd

namespace Go.Dd
open Go.Proofs
structure Grown (M M' : MemV) (f : Nat) (cls : Int) (l : List Int) : Prop where
 n : M'.n = M.n
 fin : M'.fin = M.fin + (l.length + 3)
 made : M'.made = M.made + 1
 pl : M'.pl = M.pl.set M.fin (.ofNat 1)
 hd : M'.t.get M.fin = .ofNat (l.length * 4 + f)
 cl : M'.t.get (M.fin + 1) = cls
 old : ∀ j, j < M.fin → M'.t.get j = M.t.get j
 new : ∀ i v, l[i]? = some v → M'.t.get (M.fin + 3 + i) = v
theorem aUt {a : Nat} (h3 : 3 ≤ a) (hi : a ≤ 131072) : gO (.ofNat (a * 2)) = a := by
 obtain ⟨h1, h2, _⟩ := vN (.ofNat (a * 2))
 have h0 : gO (.ofNat (a * 2)) ≠ 0 := h1.2 (by simp; omega)
 have h4 := h2 h0
 have h5 : (Int.ofNat (a * 2)) / 2 = (a : Int) := by rw [Int.ofNat_eq_natCast]; omega
 rw [h5] at h4
 exact Int.ofNat.inj h4
theorem aMy (pl : WT) {k : Nat} (hk : k < 16000000) (j : Nat) : (pl.set k (.ofNat 1)).get j = if j = k then 1 else pl.get j := WT.get_set _ _ _ _ hk
theorem pR {w : Int} {pl : WT} {k : Nat} (hk : k < 16000000) (h : cD w pl ≠ 0) : cD w (pl.set k (.ofNat 1)) = cD w pl := by
 have h1 := atN_pos.1 h
 have h2 : cD w (pl.set k (.ofNat 1)) ≠ 0 := atN_pos.2 ⟨h1.1, by rw [aMy _ hk]; split <;> simp [h1.2]⟩
 rcases kC w pl with e | ⟨e, _⟩
 ·exact absurd e h
 ·rcases kC w (pl.set k (.ofNat 1)) with e' | ⟨e', _⟩
  ·exact absurd e' h2
  ·rw [e, e']
theorem aKz {pl : WT} {a : Nat} (h3 : 3 ≤ a) (hi : a ≤ 131072) : cD (.ofNat (a * 2)) (pl.set a (.ofNat 1)) = a := by
 have hp := aUt h3 hi
 have h2 : cD (.ofNat (a * 2)) (pl.set a (.ofNat 1)) ≠ 0 := atN_pos.2 ⟨by rw [hp]; omega, by rw [hp, aMy _ (by omega), if_pos rfl]; decide⟩
 rcases kC (.ofNat (a * 2)) (pl.set a (.ofNat 1)) with e' | ⟨e', _⟩
 ·exact absurd e' h2
 ·rw [e', hp]
theorem Grown.good {M M' : MemV} {f : Nat} {cls : Int} {l : List Int} (g : Grown M M' f cls l) (G : Good M) (hc : cD cls M.pl ≠ 0) (hf : f ≤ 2) (h256 : l.length ≤ 256) (room : M.fin + l.length + 3 ≤ M.n) (hm : M.made < 899999) : Good M' := by
 have h1 := G.le
 have h2 := G.lo
 have h3 := G.hi
 refine ⟨by rw [g.n]; exact G.n, by rw [g.n, g.fin]; omega, by rw [g.fin]; omega, by rw [g.n]; exact G.hi, by rw [g.made]; omega, fun a ha => ?_⟩
 rw [g.pl, aMy _ (by omega)] at ha
 by_cases e : a = M.fin
 ·subst e
  refine ⟨h2, l.length * 4 + f, g.hd, by omega, by rw [g.fin]; omega, ?_⟩
  rw [g.cl, g.pl, pR (by omega) hc]
  exact hc
 ·rw [if_neg e] at ha
  obtain ⟨p1, hd, p2, p3, p4, p5⟩ := G.ob a ha
  refine ⟨p1, hd, by rw [g.old _ (by omega)]; exact p2, p3, by rw [g.fin]; omega, ?_⟩
  rw [g.old _ (by omega), g.pl, pR (by omega) p5]
  exact p5
section
theorem Wd.make61 {h : Hp} {M : MemV} {R : List Int} {es : List (DV × DV)} (W : Wd h M R es) (G : Good M) {cls : Int} (hc : cD cls M.pl ≠ 0) {f : Nat} (hf : f ≤ 2) {x : DV} {l : List Int} (S : SlI x l h) (h256 : l.length ≤ 256) (room : M.fin + l.length + 3 ≤ M.n)
  (hv : ∀ v ∈ l, okV f (M.pl.set M.fin (.ofNat 1)) v) {n : Nat} (hn : 256 < n) :
  ∃ h' M', jR (n + 1) 61 [.p (bG 7) 0, .i .i64 cls, .i .i64 (.ofNat f), x] h = some (.t [.i .i64 (.ofNat (M.fin * 2)), .i .i64 (.ofNat 0)], h') ∧ Wd h' M' R es ∧ Up h h' ∧ h'.next = h.next ∧ Grown M M' f cls l := by
 have h1 := G.le
 have h2 := G.lo
 have h3 := G.hi
 obtain ⟨gg, e1, W1, U1, N1⟩ := W.make G hc hf h256 room
 have t1 : ∀ j, (M.mk1 f l.length cls).t.get j = if M.fin + 3 ≤ j ∧ j < M.fin + 3 + l.length then 0 else if j = M.fin + 2 then .ofNat (M.made + 1) else if j = M.fin + 1 then cls else if j = M.fin then .ofNat (l.length * 4 + f) else M.t.get j := fun j => by
  show (kM _ l.length (M.fin + 3)).get j = _
  rw [pP _ _ _ _ (by omega), WT.get_set _ _ _ _ (by omega), WT.get_set _ _ _ _ (by omega), WT.get_set _ _ _ _ (by omega)]
 have ha : cD (.ofNat (M.fin * 2)) (M.mk1 f l.length cls).pl = M.fin := aKz h2 (by omega)
 have hq : (l.length * 4 + f) / 4 = l.length := by omega
 have hr : (l.length * 4 + f) % 4 = f := by omega
 obtain ⟨h', t', e2, W2, U2, N2, q⟩ := fill (n := n) (rec := jR n) (o := .ofNat (M.fin * 2)) (x := x) (a := M.fin) (hd := l.length * 4 + f) (pl := (M.mk1 f l.length cls).pl) ha (by omega) (by omega) l [] n (M.mk1 f l.length cls) gg W1
  (S.up U1) rfl (by rw [t1, if_neg (by omega), if_neg (by omega), if_neg (by omega), if_pos rfl]) (by rw [hq]; rfl) (by rw [hq]; show M.fin + 3 + l.length ≤ M.n; omega) h3 (by rw [hr]; exact hv) (by omega)
 refine ⟨h', _, ?_, W2, U1.trans U2, N2.trans N1, ?_⟩
 ·rw [shS, cGv]
  unfold s61 aSk aQj aWl aQe bQk
  have px0 : ∀ (a b : DV) (h : Hp), aC 0 (.t [a, b]) h = some (a, h) := fun a b h => rfl
  have px1 : ∀ (a b : DV) (h : Hp), aC 1 (.t [a, b]) h = some (b, h) := fun a b h => rfl
  have hne : (Int.ofNat 0 != Int.ofNat 0) = false := rfl
  have el : iD (l.length : Int) = .i .i64 (.ofNat l.length) := rfl
  simp only [g0, g1, g2, g3, kY, fld, bA, W.l00, S.len (h' := h), el, e1, px0, px1, fZ, hne, cF, S.len (h' := gg)]
  exact e2
 ·have q' : ∀ j, t'.get j = if M.fin + 3 ≤ j ∧ j < M.fin + 3 + l.length then l.getD (j - (M.fin + 3)) 0 else (M.mk1 f l.length cls).t.get j := q
  refine ⟨rfl, rfl, rfl, rfl, ?_, ?_, fun j hj => ?_, fun i v hi => ?_⟩
  ·show t'.get M.fin = _
   rw [q', if_neg (by omega), t1, if_neg (by omega), if_neg (by omega), if_neg (by omega), if_pos rfl]
  ·show t'.get (M.fin + 1) = _
   rw [q', if_neg (by omega), t1, if_neg (by omega), if_neg (by omega), if_pos rfl]
  ·show t'.get j = _
   rw [q', if_neg (by omega), t1, if_neg (by omega), if_neg (by omega), if_neg (by omega), if_neg (by omega)]
  ·show t'.get (M.fin + 3 + i) = _
   have hl : i < l.length := by
    rcases Nat.lt_or_ge i l.length with q | q
    ·exact q
    ·rw [List.getElem?_eq_none q] at hi; cases hi
   rw [q', if_pos (by omega), show M.fin + 3 + i - (M.fin + 3) = i by omega]
   simp [List.getD, hi]
end
end Go.Dd

namespace Go.Dd
open Go.Proofs
theorem aVp : ∀ (l : List Nat) (t : WT) (a : Nat), (∀ x ∈ l, x < 16000000) → (mkP l t).get a ≠ 0 → a ∈ l ∨ t.get a ≠ 0
 | [], t, a, _, h => .inr h
 | x :: l, t, a, hx, h => by
  rcases aVp l (t.set x (.ofNat 1)) a (fun y hy => hx y (by simp [hy])) h with h1 | h1
  ·exact .inl (by simp [h1])
  ·rw [WT.get_set _ _ _ _ (hx x (by simp))] at h1
   by_cases e : a = x
   ·exact .inl (by simp [e])
   ·rw [if_neg e] at h1
    exact .inr h1
noncomputable def bXq (M : MemV) (a : Nat) : Bool := Nat.ble 3 a && (Nat.ble a 131072 && (match M.t.get a with
 | .ofNat hd => Nat.blt hd 1000000000000 && (Nat.ble (Nat.add (Nat.add a 3) (Nat.div hd 4)) M.fin && !(Nat.beq (cD (M.t.get (Nat.add a 1)) M.pl) 0))
 | .negSucc _ => false))
noncomputable def cAl (p : Nat → Bool) (l : List Nat) : Bool := List.rec (motive := fun _ => Bool) true (fun x _ ih => p x && ih) l
theorem uX {p : Nat → Bool} : ∀ {l : List Nat}, cAl p l = true → ∀ a ∈ l, p a = true
 | [], _, a, h => by cases h
 | x :: l, hl, a, h => by
  change (p x && cAl p l) = true at hl
  simp only [Bool.and_eq_true] at hl
  simp only [List.mem_cons] at h
  rcases h with rfl | h
  ·exact hl.1
  ·exact uX hl.2 a h
theorem bSt {M : MemV} {l : List Nat} (hp : M.pl = mkP l .e) (hc : cAl (bXq M) l = true) (hn : M.n ≤ 131072) (hf : M.fin ≤ M.n) (h3 : 3 ≤ M.fin) (hm : M.made < 900000) : Good M := by
 have ha : ∀ a ∈ l, bXq M a = true := uX hc
 refine ⟨by omega, hf, h3, hn, hm, fun a h => ?_⟩
 have hl : ∀ x ∈ l, x < 16000000 := fun x hx => by
  have := ha x hx
  simp only [bXq, Bool.and_eq_true, kO, decide_eq_true_eq] at this
  omega
 have hm : a ∈ l := by
  rw [hp] at h
  rcases aVp l .e a hl h with h1 | h1
  ·exact h1
  ·exact absurd rfl h1
 have := ha a hm
 simp only [bXq, Bool.and_eq_true, kO, decide_eq_true_eq] at this
 obtain ⟨p1, p2, p3⟩ := this
 refine ⟨p1, ?_⟩
 cases ht : M.t.get a with
 | negSucc x => rw [ht] at p3; cases p3
 | ofNat hd =>
  rw [ht] at p3
  simp only [Bool.and_eq_true, iJ, kO, decide_eq_true_eq] at p3
  obtain ⟨q1, q2, q3⟩ := p3
  refine ⟨hd, rfl, q1, q2, fun e => ?_⟩
  change (!(Nat.beq (cD (M.t.get (a + 1)) M.pl) 0)) = true at q3
  rw [e] at q3
  cases q3
noncomputable def MN : MemV := ⟨bG 1, 20000, 4321, 583, bG 2, bIu [] (mkW (aIo wsF 4321) 0 .e), mkP (aIo plF 583) .e⟩
def RN : List Int := [8370, 1096, 6, 24, 42, 60, 78, 96, 114, 132, 150, 168, 186, 204, 222, 240, 258, 276]
noncomputable def esN : List (DV × DV) := bOr (bFh syF 80)
theorem WN : Wd hN MN RN esN where
 w := by kernel_rfl
 r := by kernel_rfl
 rl := by kernel_rfl
 sy := by kernel_rfl
 mem := by kernel_rfl
 nx := by
  have : hN.next.toNat = 26855 := by kernel_rfl
  omega
 wb := rfl
 pb := rfl
theorem GN : Good MN := bSt (l := aIo plF 583) rfl (by kernel_rfl) (by show 20000 ≤ 131072; omega) (by show 4321 ≤ 20000; omega) (by show 3 ≤ 4321; omega) (by show 583 < 900000; omega)
theorem RNb : cAl (fun i => !(Nat.beq (cD (RN.getD (2 + i) 0) MN.pl) 0)) [0, 1, 2, 3, 4, 5, 6, 7, 8, 9, 10, 11, 12, 13, 14, 15] = true := by kernel_rfl
theorem cYx (i : Nat) (hi : i < 16) : cD (RN.getD (2 + i) 0) MN.pl ≠ 0 := fun e => by
 have := uX RNb i (by simp only [List.mem_cons, List.not_mem_nil, or_false]; omega)
 rw [e] at this
 cases this
end Go.Dd

namespace Go.Dd
open Go.Proofs
def fH : Code → Array Oper
 | .region _ ops _ => ops
 | _ => #[]
theorem rg0 (rec : FuncId → List DV → Hp → aH) (k : K) (env : aU) (h : Hp) : jA CF0 rec 49 (fH (cL (cf Tryz.f242))) (fH (cL (cf Tryz.f242))).toList k env h = (
 bnd (bU (env 1) h) fun v1 h1 =>
 k (bK (bK env (some 3) v1) (some 4) (.i .i64 (Int.ofNat 0))) h1) := by kernel_rfl
theorem rg1 (rec : FuncId → List DV → Hp → aH) (k : K) (env : aU) (h : Hp) : jA CF0 rec 49 (fH (cL (cR (cf Tryz.f242)))) (fH (cL (cR (cf Tryz.f242)))).toList k env h = (
 bnd (aQ (env 0) h) fun v1 h1 =>
 bnd (aB 0 v1 h1) fun v2 h2 =>
 bnd (aB 4 v2 h2) fun v3 h3 =>
 bnd (aA v3 h3) fun v4 h4 =>
 bnd (rec 187 [v4, (.f 277 [] [(env 3)])] h4) fun v5 h5 =>
 k (bK (bK (bK (bK (bK (bK (bK (bK env (some 6) (env 0)) (some 7) v1) (some 8) v2) (some 9) v3) (some 10) v4) (some 11) (.f 277 [] [(env 3)])) (some 12) v5) (some 5) v5) h5) := by kernel_rfl
theorem rg2 (rec : FuncId → List DV → Hp → aH) (k : K) (env : aU) (h : Hp) : jA CF0 rec 49 (fH (cL (cL (cR (cR (cf Tryz.f242)))))) (fH (cL (cL (cR (cR (cf Tryz.f242)))))).toList k env h = (
 bnd (aD .lss (env 5) (.i .i64 (Int.ofNat 0)) h) fun v1 h1 =>
 k (bK (bK env (some 13) (env 5)) (some 14) v1) h1) := by kernel_rfl
theorem rg3 (rec : FuncId → List DV → Hp → aH) (k : K) (env : aU) (h : Hp) : jA CF0 rec 49 (fH (cL (cL (cR (cL (cR (cR (cf Tryz.f242)))))))) (fH (cL (cL (cR (cL (cR (cR (cf Tryz.f242)))))))).toList k env h = (
 bnd (aQ (env 0) h) fun v1 h1 =>
 bnd (aB 0 v1 h1) fun v2 h2 =>
 bnd (aB 4 v2 h2) fun v3 h3 =>
 bnd (aA v3 h3) fun v4 h4 =>
 bnd (bS v4 h4) fun v5 h5 =>
 k (bK (bK (bK (bK (bK (bK (bK env (some 15) (env 0)) (some 16) v1) (some 17) v2) (some 18) v3) (some 19) v4) (some 20) v5) (some 5) v5) h5) := by kernel_rfl
theorem rg5 (rec : FuncId → List DV → Hp → aH) (k : K) (env : aU) (h : Hp) : jA CF0 rec 49 (fH (cL (cL (cR (cR (cL (cR (cL (cR (cR (cf Tryz.f242))))))))))) (fH (cL (cL (cR (cR (cL (cR (cL (cR (cR (cf Tryz.f242))))))))))).toList k env h = (
 bnd (aQ (env 0) h) fun v1 h1 =>
 bnd (aB 0 v1 h1) fun v2 h2 =>
 bnd (aB 4 v2 h2) fun v3 h3 =>
 bnd (aA v3 h3) fun v4 h4 =>
 bnd (bS v4 h4) fun v5 h5 =>
 bnd (aL [(.i .i64 (Int.ofNat 0)), (.s []), (.i .i64 (Int.ofNat 0)), .l0] 1 [(0, 4, (.a [(.i .i64 (Int.ofNat 0)), (.s []), (.i .i64 (Int.ofNat 0)), .l0]))] h5) fun v6 h6 =>
 bnd (aX 4 56 v4 v6 h6) fun v7 h7 =>
 bnd (aQ (env 0) h7) fun v8 h8 =>
 bnd (aB 0 v8 h8) fun v9 h9 =>
 bnd (aB 4 v9 h9) fun v10 h10 =>
 bnd (aF 1 v10 v7 h10) fun _ h11 =>
 k (bK (bK (bK (bK (bK (bK (bK (bK (bK (bK (bK env (some 23) (env 0)) (some 24) v1) (some 25) v2) (some 26) v3) (some 27) v4) (some 28) v5) (some 29) v6) (some 30) v7) (some 31) v8) (some 32) v9) (some 33) v10) h11) := by kernel_rfl
theorem rg6 (rec : FuncId → List DV → Hp → aH) (k : K) (env : aU) (h : Hp) : jA CF0 rec 49 (fH (cR (cL (cR (cR (cL (cR (cL (cR (cR (cf Tryz.f242))))))))))) (fH (cR (cL (cR (cR (cL (cR (cL (cR (cR (cf Tryz.f242))))))))))).toList k env h = (
 bnd (aK 4 (env 3) h) fun v1 h1 =>
 bnd (aI 4 (env 30) (env 28) h1) fun v2 h2 =>
 bnd (aF 4 v2 v1 h2) fun _ h3 =>
 k (bK (bK env (some 34) v1) (some 35) v2) h3) := by kernel_rfl
theorem rg7 (rec : FuncId → List DV → Hp → aH) (k : K) (env : aU) (h : Hp) : iG CF0 rec 49 (fH (cR (cR (cR (cL (cR (cL (cR (cR (cf Tryz.f242)))))))))) k env h = (
 bnd (aQ (env 0) (resv 1 h)) fun v1 h1 =>
 bnd (aB 0 v1 h1) fun v2 h2 =>
 bnd (aB 4 v2 h2) fun v3 h3 =>
 bnd (aA v3 h3) fun v4 h4 =>
 bnd (aK 4 (env 3) h4) fun v5 h5 =>
 bnd (bH (bQ 0 h.next) [(.i .i64 (Int.ofNat 0)), (.s []), (.i .i64 (Int.ofNat 0)), .l0] 1 [(0, 4, v5)] h5) fun v6 h6 =>
 bnd (aX 4 56 v4 v6 h6) fun v7 h7 =>
 bnd (aQ (env 0) h7) fun v8 h8 =>
 bnd (aB 0 v8 h8) fun v9 h9 =>
 bnd (aB 4 v9 h9) fun v10 h10 =>
 bnd (aF 1 v10 v7 h10) fun v11 h11 =>
 k (bK (bK (bK (bK (bK (bK (bK (bK (bK (bK (bK (bK env (some 36) (env 0)) (some 37) (env 0)) (some 38) v1) (some 39) v2) (some 40) v3) (some 41) v4) (some 42) v5) (some 43) v6) (some 44) v7) (some 45) v8) (some 46) v9) (some 47) v10) h11) := by kernel_rfl
theorem rg8 (rec : FuncId → List DV → Hp → aH) (k : K) (env : aU) (h : Hp) : jA CF0 rec 49 (fH (cL (cR (cR (cR (cf Tryz.f242)))))) (fH (cL (cR (cR (cR (cf Tryz.f242)))))).toList k env h = (
 k (bK (bK env (some 48) (env 5)) (some 4) (env 5)) h) := by kernel_rfl
end Go.Dd

namespace Go.Dd
open Go.Proofs
theorem HR.sub {G : Gd} {ρ : dB} {h h' : Hp} {w : World} (S : Sim true h h') (H : HR G ρ h' w) : HR G ρ h w := by
 have hg : ∀ b o, h.bl.get b = some o → h'.bl.get b = some o := fun b o hb => by
  obtain ⟨o', h1, h2⟩ := S.get b o hb
  rw [h1, iO h2]
 have hc : ∀ b a, Claims ρ h b a → Claims ρ h' b a := fun b a ⟨k, l, L, h1, h2, h3⟩ => ⟨k, l, L, hg _ _ h1, h2, h3⟩
 have hro : ∀ b a, Claims ρ h b a → ¬ eN h b → ¬ eN h' b := fun b a ⟨k, l, L, h1, h2, h3⟩ hn ⟨l', hl⟩ => by
  rw [hg _ _ h1] at hl
  simp only [bB, Ob.row.injEq] at hl
  exact hn ⟨l, by rw [h1, hl.1]⟩
 exact ⟨H.gl, H.sz, by rw [← S.next]; exact H.nx, fun b a h1 ⟨l, h2⟩ => H.ro b a (hc b a h1) ⟨l, hg _ _ h2⟩, fun b o hb => H.dom b o (hg b o hb), fun b L hb => by rw [← S.next]; exact H.lt b L hb,
  fun b k l L i v h1 => H.cell b k l L i v (hg _ _ h1), fun b l L es j h1 => H.spare b l L es j (hg _ _ h1), fun b a h1 h2 => H.free b a (hc b a h1) (hro b a h1 h2),
  fun b b' a h1 h2 h3 => H.inj b b' a (hc b a h1) (hc b' a h2) (hro b a h1 h3),
  fun b l L h1 => H.ex b l L (h1.elim (fun q => .inl (hg _ _ q)) (fun q => .inr (hg _ _ q))), fun b es l i v h1 => H.grone b es l i v (hg _ _ h1),
  fun b o L h1 h2 => H.itr b o L h1 (hg _ _ h2), fun b o b' o' L L' h1 h2 h3 h4 => H.itj b o b' o' L L' h1 h2 (hg _ _ h3) (hg _ _ h4)⟩
theorem pS : ∀ p : Pos, oT p p = true
 | .h => rfl
 | .o p => pS p
 | .i p => pS p
theorem aWf {p q : Pos} (h : oT p q = false) : p ≠ q := fun e => by subst e; rw [pS] at h; cases h
open Classical in
noncomputable def kk (N : aU → Hp → Prop) : K := fun env h => if N env h then some (aT, h) else none
theorem pW {N : aU → Hp → Prop} {env : aU} {h : Hp} (hn : N env h) : ∃ r, kk N env h = some r := ⟨_, if_pos hn⟩
theorem cGj {N : aU → Hp → Prop} {env : aU} {h : Hp} {r} (hn : kk N env h = some r) : N env h := by
 unfold kk at hn
 split at hn
 ·assumption
 ·cases hn
section
variable {C : Cfg} {rec : FuncId → List DV → Hp → aH} {nt : Nat} {X : Nat → aU → Hp → Prop} {R N : aU → Hp → Prop} {env : aU} {h : Hp}
theorem wpS {a b : Code} (H : pJ C rec nt a X R (pJ C rec nt b X R N) env h) : pJ C rec nt (.seq a b) X R N env h := H
theorem aPl {id : Nat} {ops : Array Oper} (H : ∃ r, jA C rec nt ops ops.toList (kk fun e h => mA h → N e h) env h = some r) : pJ C rec nt (.region id ops false) X R N env h := by
 obtain ⟨r, hr⟩ := H
 obtain ⟨env', h', h1, h2⟩ := tL _ _ _ _ _ hr
 simp only [pJ, Bool.false_eq_true, if_false]
 exact ⟨env', h', h1, cGj h2⟩
theorem dDo {id : Nat} {ops : Array Oper} (hd : fF C.P ops = true) (H : ∃ r, iG C rec nt ops (kk fun e h => mA h → N e h) env h = some r) : pJ C rec nt (.region id ops true) X R N env h := by
 obtain ⟨r, hr⟩ := H
 simp only [pJ, if_true]
 exact .inr ⟨hd, _, r, hr, fun env' h' h1 h2 => cGj h1 h2⟩
theorem cZn {id : Nat} {ops : Array Oper} (H : aIn C rec nt ops (fun e h => mA h → N e h) ops.size (Array.replicate ops.size false) env h) : pJ C rec nt (.region id ops true) X R N env h := by
 simp only [pJ, if_true]
 exact .inl H
theorem wpC {c : Operand} {a b : Code} {t : Bool} (hc : opr env c = .b t) (H : (t = true → pJ C rec nt a X R N env h) ∧ (t = false → pJ C rec nt b X R N env h)) : pJ C rec nt (.cond c a b) X R N env h := by
 cases t with
 | true => exact .inl ⟨hc, H.1 rfl⟩
 | false => exact .inr ⟨hc, H.2 rfl⟩
end
noncomputable def dAo : Code := cL (cR (cL (cR (cL (cR (cR (cf Tryz.f242)))))))
noncomputable def R4 : Array Oper := fH dAo
theorem cUz : cf Tryz.f242 = .seq (.region 0 (fH (cL (cf Tryz.f242))) false) (.seq (.region 1 (fH (cL (cR (cf Tryz.f242)))) false) (.seq (.seq (.region 2 (fH (cL (cL (cR (cR (cf Tryz.f242)))))) false)
 (.cond (.tmp 14) (.seq (.region 3 (fH (cL (cL (cR (cL (cR (cR (cf Tryz.f242)))))))) false) (.seq (.region 4 R4 true) (.cond (.tmp 22)
  (.seq (.region 5 (fH (cL (cL (cR (cR (cL (cR (cL (cR (cR (cf Tryz.f242))))))))))) false) (.region 6 (fH (cR (cL (cR (cR (cL (cR (cL (cR (cR (cf Tryz.f242))))))))))) false))
  (.region 7 (fH (cR (cR (cR (cL (cR (cL (cR (cR (cf Tryz.f242)))))))))) true)))) .skip)) (.seq (.region 8 (fH (cL (cR (cR (cR (cf Tryz.f242)))))) false) .ret))) := by kernel_rfl
noncomputable def o4 (i : Nat) : Oper := (R4.toList[i]?).getD (Oper.mk none (.move (.tmp 0)) 0 "" #[] none)
theorem dBb : R4[0]? = some (o4 0) := by kernel_rfl
theorem cXe : R4[1]? = some (o4 1) := by kernel_rfl
theorem cVg : R4[2]? = some (o4 2) := by kernel_rfl
theorem dAc : R4[3]? = some (o4 3) := by kernel_rfl
theorem cZi (rec : FuncId → List DV → Hp → aH) (env : aU) (h : Hp) : bF CF0 rec R4 (o4 0) env h = bI [.b false] h := by kernel_rfl
theorem cSh (rec : FuncId → List DV → Hp → aH) (env : aU) (h : Hp) : bF CF0 rec R4 (o4 1) env h = aF 1 (env 21) (.b true) h := by kernel_rfl
theorem cUm (rec : FuncId → List DV → Hp → aH) (env : aU) (h : Hp) : bF CF0 rec R4 (o4 2) env h = aF 1 (env 21) (.b false) h := by kernel_rfl
theorem dDk (rec : FuncId → List DV → Hp → aH) (env : aU) (h : Hp) : bF CF0 rec R4 (o4 3) env h = aA (env 21) h := by kernel_rfl
theorem cXo : (o4 0).dst = some 21 := by kernel_rfl
theorem bUs : (o4 1).dst = none := by kernel_rfl
theorem cFv : (o4 2).dst = none := by kernel_rfl
theorem cYu : (o4 3).dst = some 22 := by kernel_rfl
theorem z4 : Array.replicate R4.size false = #[false, false, false, false] := by kernel_rfl
theorem y4 : R4.size = 4 := by kernel_rfl
theorem dAd : Region.ready .any R4 #[false, false, false, false] = [0] := by kernel_rfl
theorem cVv : Region.ready .any R4 #[true, false, false, false] = [1, 2] := by kernel_rfl
theorem dDn : Region.ready .any R4 #[true, true, false, false] = [2] := by kernel_rfl
theorem dAx : Region.ready .any R4 #[true, false, true, false] = [1] := by kernel_rfl
theorem dBe : Region.ready .any R4 #[true, true, true, false] = [3] := by kernel_rfl
theorem cZy : Region.ready .any R4 #[true, true, true, true] = [] := by kernel_rfl
theorem dDr : (#[false, false, false, false] : Array Bool).setIfInBounds 0 true = #[true, false, false, false] := by kernel_rfl
theorem dCm : (#[true, false, false, false] : Array Bool).setIfInBounds 1 true = #[true, true, false, false] := by kernel_rfl
theorem dAv : (#[true, false, false, false] : Array Bool).setIfInBounds 2 true = #[true, false, true, false] := by kernel_rfl
theorem dAn : (#[true, true, false, false] : Array Bool).setIfInBounds 2 true = #[true, true, true, false] := by kernel_rfl
theorem dAw : (#[true, false, true, false] : Array Bool).setIfInBounds 1 true = #[true, true, true, false] := by kernel_rfl
theorem dDm : (#[true, true, true, false] : Array Bool).setIfInBounds 3 true = #[true, true, true, true] := by kernel_rfl
theorem cEh {C : Cfg} {rec : FuncId → List DV → Hp → aH} {nt f i : Nat} {ops : Array Oper} {kP : aU → Hp → Prop} {listed l' : Array Bool} {env : aU} {h h' : Hp} {o : Oper} {v : DV} (hr : Region.ready .any ops listed = [i])
  (ho : ops[i]? = some o) (hf : cT nt o.dst = true) (hs : bF C rec ops o env h = some (v, h')) (hl : listed.setIfInBounds i true = l') (hn : aIn C rec nt ops kP f l' (bK env o.dst v) h') : aIn C rec nt ops kP (f + 1) listed env h := by
 refine ⟨fun e => ?_, fun j hj => ?_⟩
 ·rw [hr] at e; cases e
 ·rw [hr] at hj
  simp only [List.mem_singleton] at hj
  subst hj
  exact ⟨o, v, h', ho, hf, hs, by rw [hl]; exact hn⟩
structure After (h h' : Hp) : Prop where
 next : h'.next = h.next.succ
 get : ∀ b, b ≠ h.next → h'.bl.get b = h.bl.get b
theorem cZu {rec : FuncId → List DV → Hp → aH} {kP : aU → Hp → Prop} {env : aU} {h : Hp} (H : ∀ x h', After h h' → kP (bK (bK env (some 21) (.p h.next 0)) (some 22) (.b x)) h') :
  aIn CF0 rec 49 R4 kP R4.size (Array.replicate R4.size false) env h := by
 rw [z4, y4]
 have st : ∀ (n : Pos) (bl : Tr Ob) (x y : Bool), bl.get h.next = some (.row .ex [.b y]) → aF 1 (.p h.next 0) (.b x) ⟨n, bl⟩ = some (aT, ⟨n, Tr.set (.row .ex [.b x]) h.next bl⟩) := fun n bl x y e => by
  simp only [aF, dT, cZ, e, Kind.writable, List.length_singleton, if_true, fP, jT, DV.one, Bool.and_self, Option.map_some]
 have ld : ∀ (n : Pos) (bl : Tr Ob) (x : Bool), bl.get h.next = some (.row .ex [.b x]) → aA (.p h.next 0) ⟨n, bl⟩ = some (.b x, ⟨n, bl⟩) := fun n bl x e => by
  simp only [aA, cellD, rowOf, e, List.getElem?_cons_zero, DV.one, if_true]
 have g0 : ∀ (t : Tr Ob) (x : Bool), (Tr.set (.row .ex [.b x]) h.next t).get h.next = some (.row .ex [.b x]) := fun t x => dDw _ _ _
 have go : ∀ (t : Tr Ob) (x : Bool) (b : Pos), b ≠ h.next → (Tr.set (.row .ex [.b x]) h.next t).get b = t.get b := fun t x b e => dDv _ _ _ _ e
 have fin : ∀ (t : Tr Ob) (x : Bool), (∀ b, b ≠ h.next → t.get b = h.bl.get b) → t.get h.next = some (.row .ex [.b x]) →
   aIn CF0 rec 49 R4 kP 1 #[true, true, true, false] (bK env (some 21) (.p h.next 0)) ⟨h.next.succ, t⟩ := fun t x e1 e2 => by
  refine cEh dBe dAc (by rw [cYu]; rfl) ((dDk _ _ _).trans (ld _ _ x e2)) dDm ?_
  rw [cYu]
  exact ⟨cZy, H x _ ⟨rfl, e1⟩⟩
 refine cEh dAd dBb (by rw [cXo]; rfl) (cZi _ _ _) dDr ?_
 rw [cXo]
 refine ⟨fun e => (by rw [cVv] at e; cases e), fun j hj => ?_⟩
 rw [cVv] at hj
 simp only [List.mem_cons, List.not_mem_nil, or_false] at hj
 rcases hj with rfl | rfl
 ·refine ⟨_, _, _, cXe, by rw [bUs]; rfl, (cSh _ _ _).trans (st _ _ true false (g0 _ _)), ?_⟩
  rw [dCm, bUs]
  refine cEh dDn cVg (by rw [cFv]; rfl) ((cUm _ _ _).trans (st _ _ false true (g0 _ _))) dAn ?_
  rw [cFv]
  exact fin _ false (fun b e => by rw [go _ _ _ e, go _ _ _ e, go _ _ _ e]) (g0 _ _)
 ·refine ⟨_, _, _, cVg, by rw [cFv]; rfl, (cUm _ _ _).trans (st _ _ false false (g0 _ _)), ?_⟩
  rw [dAv, cFv]
  refine cEh dAx cXe (by rw [bUs]; rfl) ((cSh _ _ _).trans (st _ _ true false (g0 _ _))) dAw ?_
  rw [bUs]
  exact fin _ true (fun b e => by rw [go _ _ _ e, go _ _ _ e, go _ _ _ e]) (g0 _ _)
end Go.Dd

namespace Go.Dd
open Go.Proofs
theorem bEp {h h' g : Hp} {x v : DV} (hg : ∀ b o, h.bl.get b = some o → h'.bl.get b = some o) (e : aA x h = some (v, g)) : aA x h' = some (v, h') := by
 have S : Sim true ⟨h'.next, h.bl⟩ h' := ⟨rfl, fun b o hb => ⟨o, hg b o hb, jI o⟩⟩
 have e' : aA x ⟨h'.next, h.bl⟩ = some (v, ⟨h'.next, h.bl⟩) := by
  unfold aA at e ⊢
  split at e <;> (try (cases e; done))
  rename_i b o
  change (match cellD b o ⟨h'.next, h.bl⟩ with
   | some v => some (v, (⟨h'.next, h.bl⟩ : Hp))
   | none => none) = _
  change (match cellD b o ⟨h'.next, h.bl⟩ with
   | some v => some (v, h)
   | none => none) = _ at e
  split at e <;> (try (cases e; done))
  rename_i u hu
  simp only [bB, bL] at e
  rw [e.1]
 obtain ⟨k, e1, e2⟩ := jD x _ _ S v _ e'
 obtain ⟨rfl, _⟩ := (show k = h' ∧ True by
  unfold aA at e1
  split at e1 <;> (try (cases e1; done))
  split at e1 <;> (try (cases e1; done))
  simp only [bB, bL] at e1
  exact ⟨e1.2.symm, trivial⟩)
 exact e1
theorem bQi {h h' g : Hp} {n : Nat} {x v : DV} (hg : ∀ b o, h.bl.get b = some o → h'.bl.get b = some o) (e : aK n x h = some (v, g)) : aK n x h' = some (v, h') := by
 have S : Sim true ⟨h'.next, h.bl⟩ h' := ⟨rfl, fun b o hb => ⟨o, hg b o hb, jI o⟩⟩
 have e' : aK n x ⟨h'.next, h.bl⟩ = some (v, ⟨h'.next, h.bl⟩) := by
  unfold aK at e ⊢
  split at e <;> (try (cases e; done))
  rename_i b o
  change (match cellsAt b o n ⟨h'.next, h.bl⟩ with
   | some v => some (DV.a v, (⟨h'.next, h.bl⟩ : Hp))
   | none => none) = _
  change (match cellsAt b o n ⟨h'.next, h.bl⟩ with
   | some v => some (DV.a v, h)
   | none => none) = _ at e
  split at e <;> (try (cases e; done))
  rename_i u hu
  simp only [bB, bL] at e
  rw [← e.1]
 obtain ⟨k, e1, e2⟩ := jQ n x _ _ S v _ e'
 obtain ⟨rfl, _⟩ := (show k = h' ∧ True by
  unfold aK at e1
  split at e1 <;> (try (cases e1; done))
  split at e1 <;> (try (cases e1; done))
  simp only [bB, bL] at e1
  exact ⟨e1.2.symm, trivial⟩)
 exact e1
theorem bFs {q : Pos} {l1 v : DV} {cs : List DV} {h k : Hp} (e : iB q l1 cs h = some (v, k)) : ∃ (n : Nat) (old : List DV) (t : Tr Ob), v = .l h.next 0 (n + 1) (n + 1) ∧ (∀ g, bS l1 g = some (.i .i64 (n : Int), g)) ∧
  old.length = n * 4 ∧ (∀ v ∈ old, v.one = true) ∧ k = ⟨h.next.succ, Tr.set (.row (.gr 4) (old ++ cs)) h.next t⟩ ∧ t.get q = h.bl.get q ∧ (∀ b, t.get b ≠ none → h.bl.get b ≠ none) ∧
  ∀ zs, iB q l1 zs h = some (v, ⟨h.next.succ, Tr.set (.row (.gr 4) (old ++ zs)) h.next t⟩) := by
 unfold iB at e
 split at e <;> (try (cases e; done))
 ·simp only [bB, bL] at e
  obtain ⟨rfl, rfl⟩ := e
  exact ⟨0, [], h.bl, rfl, fun g => rfl, rfl, by simp, rfl, rfl, fun b hb => hb, fun zs => rfl⟩
 ·rename_i b o len cap
  cases hc : (Nat.ble cap len && !(oT b q)) with
  | false => rw [hc] at e; cases e
  | true =>
   rw [hc] at e
   simp only [cnd] at e
   split at e <;> (try (cases e; done))
   rename_i es l old hb hold
   split at e <;> (try (cases e; done))
   rename_i hr
   simp only [bB, bL] at e
   obtain ⟨rfl, rfl⟩ := e
   have hq : q ≠ b := by
    simp only [Bool.and_eq_true, Bool.not_eq_true'] at hc
    exact Ne.symm (aWf hc.2)
   have hl : old.length = len * 4 ∧ ∀ v ∈ old, v.one = true := by
    unfold cellsAt at hold
    split at hold <;> (try (cases hold; done))
    obtain ⟨h1, _, _, h4⟩ := jW _ _ _ hold
    exact ⟨h1, h4⟩
   refine ⟨len, old, Tr.set (.row .sp (bN o l)) b h.bl, rfl, fun g => rfl, hl.1, hl.2, rfl, dDv _ _ _ _ hq, fun x hx => ?_, fun zs => ?_⟩
   ·by_cases e : x = b
    ·rw [e, hb]; simp
    ·rwa [dDv _ _ _ _ e] at hx
   ·unfold iB
    dsimp only
    rw [hc]
    simp only [cnd, hb, hold, if_pos hr]
theorem aWo {q : Pos} {l1 x v : DV} {cs : List DV} {h h' k : Hp} (S : Sim true h h') (hx : qI 4 x h' = some (1, cs)) (e : iB q l1 cs h = some (v, k)) : ∃ k', aX 4 56 l1 x h' = some (v, k') ∧ Sim true k k' := by
 unfold iB at e
 split at e <;> (try (cases e; done))
 ·simp only [bB, bL] at e
  obtain ⟨rfl, rfl⟩ := e
  refine ⟨⟨h'.next.succ, Tr.set (.row (.gr 4) cs) h'.next h'.bl⟩, ?_, ?_⟩
  ·unfold aX
   rw [hx]
   dsimp only
   rw [if_neg (by simp), if_pos (by decide), S.next]
  ·rw [S.next]; exact S.setR _ _ _ _
 ·rename_i b o len cap
  cases hc : (Nat.ble cap len && !(oT b q)) with
  | false => rw [hc] at e; cases e
  | true =>
   rw [hc] at e
   simp only [cnd] at e
   split at e <;> (try (cases e; done))
   rename_i es l old hb hold
   split at e <;> (try (cases e; done))
   rename_i hr
   simp only [bB, bL] at e
   obtain ⟨rfl, rfl⟩ := e
   have hle : cap ≤ len := by
    simp only [Bool.and_eq_true] at hc
    exact Nat.le_of_ble_eq_true hc.1
   refine ⟨⟨h'.next.succ, Tr.set (.row (.gr 4) (old ++ cs)) h'.next (Tr.set (.row .sp (bN o l)) b h'.bl)⟩, ?_, ?_⟩
   ·unfold aX
    rw [hx]
    dsimp only
    rw [if_neg (by omega), S.row hb, S.cellsAt hold]
    dsimp only
    rw [if_pos hr.2.2, if_pos ⟨hr.1, hr.2.1⟩, S.next]
   ·rw [S.next]
    exact (S.setR .sp (bN o l) b h.next).setR _ _ _ _
theorem aRa : ∀ (old zs cs : List DV), zs.length = cs.length → (∀ v ∈ zs, v.one = true) → (∀ v ∈ cs, v.one = true) → fP old.length (old ++ zs) cs = some (old ++ cs)
 | [], zs, cs, hl, hz, hc => by
  show jT zs cs = some cs
  induction cs generalizing zs with
  | nil => cases zs with
   | nil => rfl
   | cons z zs => simp at hl
  | cons c cs ih => cases zs with
   | nil => simp at hl
   | cons z zs =>
    simp only [jT, hz z (by simp), hc c (by simp), Bool.and_self, if_true]
    rw [ih zs (by simpa using hl) (fun v hv => hz v (by simp [hv])) (fun v hv => hc v (by simp [hv]))]
    rfl
 | x :: old, zs, cs, hl, hz, hc => by
  show (fP old.length (old ++ zs) cs).map (x :: ·) = _
  rw [aRa old zs cs hl hz hc]
  rfl
end Go.Dd

namespace Go.Dd
open Go.Proofs
theorem bAw : (Tryz.prog.funcs.toList.all fun fn => !(fn.name == "runtime.NumGoroutine")) = true := by kernel_rfl
theorem Try_ok : POk Tryz.prog where
 mixed := by kernel_rfl
 names := by
  intro f fn hf
  have h := List.all_eq_true.1 bAw fn (by
   obtain ⟨hlt, rfl⟩ := Array.getElem?_eq_some_iff.1 hf
   simp)
  simpa using h
theorem KC0 : OkC CF0 (eA CF0 60) := ⟨fun G g F h => (by cases h), fun G g => aBu (C := CF0) Try_ok (fun G g F h => (by cases h)) 60 G g⟩
theorem cPk (e : aU) (h : Hp) : aO CF0 Tryz.f242 e h = some (e 4, h) := by kernel_rfl
theorem cWp : Tryz.f242.ntmps = 49 := by kernel_rfl
theorem cRz : Tryz.prog.funcs[242]? = some Tryz.f242 := by kernel_rfl
theorem cCm : Tryz.f242.body = some (cf Tryz.f242) := by kernel_rfl
theorem cSj : fF CF0.P (fH (cR (cR (cR (cL (cR (cL (cR (cR (cf Tryz.f242)))))))))) = true := by kernel_rfl
theorem aQr {X : Nat → aU → Hp → Prop} {N : aU → Hp → Prop} {env : aU} {v : DV} {h h1 : Hp} (he : env 5 = v) (S : Sim true h1 h) :
  pJ CF0 (eA CF0 60) 49 (.seq (.region 8 (fH (cL (cR (cR (cR (cf Tryz.f242)))))) false) .ret) X (fun env h' => ∃ h2, aO CF0 Tryz.f242 env h' = some (v, h2) ∧ Le h2 h1) N env h := by
 refine wpS (aPl ?_)
 rw [rg8]
 refine pW fun _ => ?_
 exact ⟨h, (cPk _ _).trans (by rw [show (bK (bK env (some 48) (env 5)) (some 4) (env 5)) 4 = env 5 from rfl, he]), fun G ρ w H => H.sub S⟩
theorem uQ {F : Hp → aH} (hF : PureP F) {h g : Hp} {v : DV} (e : F h = some (v, g)) : g = h ∧ ∀ h', F h' = some (v, h') := hF h v g e
theorem oP {h g : Hp} {c : Pos} {o : Nat} {v : DV} (e : aA (.p c o) h = some (v, g)) : g = h ∧ ∃ u, h.bl.get c = some u := by
 change (match cellD c o h with
  | some v => some (v, h)
  | none => none) = _ at e
 split at e <;> (try (cases e; done))
 rename_i u hu
 simp only [bB, bL] at e
 refine ⟨e.2.symm, ?_⟩
 unfold cellD rowOf at hu
 cases hc : h.bl.get c with
 | none => rw [hc] at hu; cases hu
 | some u => exact ⟨u, rfl⟩
theorem pF {h g : Hp} {c : Pos} {o n : Nat} {v : DV} (e : aK n (.p c o) h = some (v, g)) : g = h ∧ (∃ u, h.bl.get c = some u) ∧ ∃ cs, v = .a cs ∧ cs.length = n ∧ ∀ x ∈ cs, x.one = true := by
 change (match cellsAt c o n h with
  | some cs => some (DV.a cs, h)
  | none => none) = _ at e
 split at e <;> (try (cases e; done))
 rename_i u hu
 simp only [bB, bL] at e
 refine ⟨e.2.symm, ?_⟩
 unfold cellsAt rowOf at hu
 cases hc : h.bl.get c with
 | none => rw [hc] at hu; cases hu
 | some ob =>
  refine ⟨⟨ob, rfl⟩, u, e.1.symm, ?_⟩
  rw [hc] at hu
  split at hu <;> (try (cases hu; done))
  obtain ⟨h1, _, _, h4⟩ := jW _ _ _ hu
  exact ⟨h1, h4⟩
theorem Sim.of_get {h h' : Hp} (e : h'.next = h.next) (g : ∀ b o, h.bl.get b = some o → h'.bl.get b = some o) : Sim true h h' := ⟨e, fun b o hb => ⟨o, g b o hb, jI o⟩⟩
theorem bFn (c : Pos) (h : Hp) : aQ (.p c 0) h = some (.p c 0, h) := rfl
theorem cPy (c : Pos) (h : Hp) : aB 0 (.p c 0) h = some (.p c 0, h) := rfl
theorem cMu (c : Pos) (h : Hp) : aB 4 (.p c 0) h = some (.p c 4, h) := rfl
theorem aIq (env : aU) (i : Nat) (v : DV) (j : Nat) (h : Nat.beq j i = false) : bK env (some i) v j = env j := by
 show (bif Nat.beq j i then v else env j) = _
 rw [h]; rfl
theorem bEs (env : aU) (i : Nat) (v : DV) : bK env (some i) v i = v := by
 show (bif Nat.beq i i then v else env i) = _
 rw [Nat.beq_refl]; rfl
theorem vK : ∀ cs : List DV, (∀ v ∈ cs, v.one = true) → lJ cs.length cs = some cs
 | [], _ => rfl
 | c :: cs, h => by
  show (if c.one then (lJ cs.length cs).map (c :: ·) else none) = _
  rw [if_pos (h c (by simp)), vK cs fun v hv => h v (by simp [hv])]
  rfl
theorem aRu {cs : List DV} (h4 : cs.length = 4) (ho : ∀ v ∈ cs, v.one = true) (p n : Pos) (t : Tr Ob) : qI 4 (.l p 0 1 1) ⟨n, Tr.set (.row .ex cs) p t⟩ = some (1, cs) := by
 have e : cellsAt p 0 (1 * 4) ⟨n, Tr.set (.row .ex cs) p t⟩ = some cs := by
  unfold cellsAt rowOf
  simp only [dDw, List.drop_zero]
  rw [show 1 * 4 = cs.length by rw [h4]]
  exact vK cs ho
 simp only [qI, e]
theorem bRx {h h' : Hp} {n o : Nat} {q : Pos} {v : DV} (hg : h'.bl.get q = h.bl.get q) (e : aK n (.p q o) h = some (v, h)) : aK n (.p q o) h' = some (v, h') := by
 have e1 : cellsAt q o n h' = cellsAt q o n h := by
  unfold cellsAt rowOf
  rw [hg]
 change (match cellsAt q o n h with
  | some cs => some (DV.a cs, h)
  | none => none) = _ at e
 show (match cellsAt q o n h' with
  | some cs => some (DV.a cs, h')
  | none => none) = _
 rw [e1]
 split at e <;> (try (cases e; done))
 simp only [bB, bL] at e
 rw [e.1]
structure Way (g3 h5 : Hp) (c q : Pos) (l1 l2 n u : DV) (cs : List DV) (k3 k4 : Hp) (env : aU) : Prop where
 fr : mA g3
 af : After g3 h5
 hl : aA (.p c 4) g3 = some (l1, g3)
 hx : aK 4 (.p q 0) g3 = some (.a cs, g3)
 ne : c ≠ q
 hn : bS l1 g3 = some (n, g3)
 ap : iB q l1 cs ⟨g3.next.succ.succ, g3.bl⟩ = some (l2, k3)
 st : aF 1 (.p c 4) l2 k3 = some (u, k4)
 e0 : env 0 = .p c 0
 e3 : env 3 = .p q 0
 e5 : env 5 = n
section
theorem Way.up {g3 h5 : Hp} {c q : Pos} {l1 l2 n u : DV} {cs : List DV} {k3 k4 : Hp} {env : aU} (W : Way g3 h5 c q l1 l2 n u cs k3 k4 env) : ∀ b o, g3.bl.get b = some o → h5.bl.get b = some o := fun b o hb => by
 rw [W.af.get b (fun e => ?_)]
 ·exact hb
 ·subst e; exact Nat.lt_irrefl _ (W.fr _ _ hb)
theorem Way.c5 {g3 h5 : Hp} {c q : Pos} {l1 l2 n u : DV} {cs : List DV} {k3 k4 : Hp} {env : aU} (W : Way g3 h5 c q l1 l2 n u cs k3 k4 env) (n' : Pos) : aA (.p c 4) ⟨n', h5.bl⟩ = some (l1, ⟨n', h5.bl⟩) := bEp W.up W.hl
theorem Way.q5 {g3 h5 : Hp} {c q : Pos} {l1 l2 n u : DV} {cs : List DV} {k3 k4 : Hp} {env : aU} (W : Way g3 h5 c q l1 l2 n u cs k3 k4 env) (n' : Pos) : aK 4 (.p q 0) ⟨n', h5.bl⟩ = some (.a cs, ⟨n', h5.bl⟩) := bQi W.up W.hx
theorem Way.len {g3 h5 : Hp} {c q : Pos} {l1 l2 n u : DV} {cs : List DV} {k3 k4 : Hp} {env : aU} (W : Way g3 h5 c q l1 l2 n u cs k3 k4 env) (h : Hp) : bS l1 h = some (n, h) := (uQ (lI l1) W.hn).2 h
theorem Way.base {g3 h5 : Hp} {c q : Pos} {l1 l2 n u : DV} {cs : List DV} {k3 k4 : Hp} {env : aU} (W : Way g3 h5 c q l1 l2 n u cs k3 k4 env) (o : Ob) : Sim true ⟨g3.next.succ.succ, g3.bl⟩ ⟨h5.next.succ, Tr.set o h5.next h5.bl⟩ := Sim.of_get (by rw [W.af.next]) fun b ob hb => by
 show (Tr.set o h5.next h5.bl).get b = _
 rw [dDv, W.up b ob hb]
 intro e
 have h1 := W.fr b ob hb
 have s1 := dDz g3.next
 rw [e, W.af.next] at h1
 omega
theorem Way.app {g3 h5 : Hp} {c q : Pos} {l1 l2 n u : DV} {cs : List DV} {k3 k4 : Hp} {env : aU} (W : Way g3 h5 c q l1 l2 n u cs k3 k4 env) {hh : Hp} (S : Sim true ⟨g3.next.succ.succ, g3.bl⟩ hh) {y : DV} (hy : qI 4 y hh = some (1, cs)) : ∃ k', aX 4 56 l1 y hh = some (l2, k') ∧ ∃ k'', aF 1 (.p c 4) l2 k' = some (u, k'') ∧ Sim true k4 k'' := by
 obtain ⟨k', h1, h2⟩ := aWo S hy W.ap
 obtain ⟨k'', h3, h4⟩ := jN 1 _ _ _ _ h2 _ _ W.st
 exact ⟨k', h1, k'', h3, h4⟩
theorem Way.one {g3 h5 : Hp} {c q : Pos} {l1 l2 n u : DV} {cs : List DV} {k3 k4 : Hp} {env : aU} (W : Way g3 h5 c q l1 l2 n u cs k3 k4 env) : cs.length = 4 ∧ ∀ v ∈ cs, v.one = true := by
 obtain ⟨_, _, cs', e, h1, h2⟩ := pF W.hx
 cases e
 exact ⟨h1, h2⟩
theorem Way.B {g3 h5 : Hp} {c q : Pos} {l1 l2 n u : DV} {cs : List DV} {k3 k4 : Hp} {env : aU} (W : Way g3 h5 c q l1 l2 n u cs k3 k4 env) {X : Nat → aU → Hp → Prop} {R N : aU → Hp → Prop} (hN : ∀ env' h', env' 5 = n → Sim true k4 h' → N env' h') : pJ CF0 (eA CF0 60) 49 (.region 7 (fH (cR (cR (cR (cL (cR (cL (cR (cR (cf Tryz.f242)))))))))) true) X R N env h5 := by
 obtain ⟨k', h1, k'', h2, h3⟩ := W.app (W.base (.row .ex cs)) (aRu W.one.1 W.one.2 h5.next h5.next.succ h5.bl)
 have fl : bH (bQ 0 h5.next) [(.i .i64 (Int.ofNat 0)), (.s []), (.i .i64 (Int.ofNat 0)), .l0] 1 [(0, 4, .a cs)] ⟨h5.next.succ, h5.bl⟩ = some (.l h5.next 0 1 1, ⟨h5.next.succ, Tr.set (.row .ex cs) h5.next h5.bl⟩) := by
  simp only [bH, kN, dT, W.one.1]
  simp [bQ]
 refine dDo cSj ?_
 rw [rg7]
 simp only [W.e0, W.e3, bFn, bA, cPy, cMu, show resv 1 h5 = ⟨h5.next.succ, h5.bl⟩ from rfl, W.c5, W.q5, fl, h1, h2]
 refine pW fun _ => hN _ _ ?_ h3
 simp only [aIq, Nat.beq]
 exact W.e5
theorem Way.A {g3 h5 : Hp} {c q : Pos} {l1 l2 n u : DV} {cs : List DV} {k3 k4 : Hp} {env : aU} (W : Way g3 h5 c q l1 l2 n u cs k3 k4 env) {X : Nat → aU → Hp → Prop} {R N : aU → Hp → Prop} (hN : ∀ env' h', env' 5 = n → Sim true k4 h' → N env' h') : pJ CF0 (eA CF0 60) 49 (.seq (.region 5 (fH (cL (cL (cR (cR (cL (cR (cL (cR (cR (cf Tryz.f242))))))))))) false)
  (.region 6 (fH (cR (cL (cR (cR (cL (cR (cL (cR (cR (cf Tryz.f242))))))))))) false)) X R N env h5 := by
 obtain ⟨m, old, t, hl2, hm, hol, hoo, hk3, htq, htd, hz⟩ := bFs W.ap
 have hzz := hz [.i .i64 (Int.ofNat 0), .s [], .i .i64 (Int.ofNat 0), .l0]
 have hn : n = .i .i64 (m : Int) := by
  have e1 := W.len g3
  rw [hm] at e1
  simp only [bB, bL, and_true] at e1
  exact e1.symm
 dsimp only at hl2 hk3 htq htd hzz
 obtain ⟨_, uc, huc⟩ := oP W.hl
 have hcs : c ≠ g3.next.succ.succ := fun e => by
  have h1 := W.fr _ _ huc
  have s1 := dDz g3.next
  have s2 := dDz g3.next.succ
  rw [e] at h1
  omega
 obtain ⟨_, ⟨uq, huq⟩, _⟩ := pF W.hx
 have hqs : q ≠ g3.next.succ.succ := fun e => by
  have h1 := W.fr _ _ huq
  have s1 := dDz g3.next
  have s2 := dDz g3.next.succ
  rw [e] at h1
  omega
 have hst := W.st
 rw [hk3] at hst
 have hst2 : ∃ kd l l', t.get c = some (.row kd l) ∧ k4 = ⟨g3.next.succ.succ.succ, Tr.set (.row kd l') c (Tr.set (.row (.gr 4) (old ++ cs)) g3.next.succ.succ t)⟩ ∧
   ∀ zs, aF 1 (.p c 4) l2 ⟨g3.next.succ.succ.succ, Tr.set (.row (.gr 4) zs) g3.next.succ.succ t⟩ = some (u, ⟨g3.next.succ.succ.succ, Tr.set (.row kd l') c (Tr.set (.row (.gr 4) zs) g3.next.succ.succ t)⟩) := by
  rw [hl2] at hst ⊢
  simp only [aF, dT, List.length_singleton, if_true, cZ, dDv _ _ _ _ hcs] at hst ⊢
  cases htc : t.get c with
  | none => rw [htc] at hst; cases hst
  | some o =>
   rw [htc] at hst
   cases o with
   | row kd l =>
    dsimp only at hst ⊢
    cases hw : kd.writable with
    | false => rw [hw] at hst; cases hst
    | true =>
     rw [hw, if_pos rfl] at hst
     cases hp : fP 4 l [.l g3.next.succ.succ 0 (m + 1) (m + 1)] with
     | none => rw [hp] at hst; cases hst
     | some l' =>
      rw [hp] at hst
      simp only [bB, bL] at hst
      exact ⟨kd, l, l', rfl, hst.2.symm, fun zs => by simp only [hw, if_true, hp, hst.1]⟩
   | it s p => cases hst
   | mp es => cases hst
   | big n t => cases hst
   | mi t => cases hst
 obtain ⟨kd, l, l', htc, hk4, hstz⟩ := hst2
 obtain ⟨k6, h6, S6⟩ := aWo (W.base (.row .ex [.i .i64 (Int.ofNat 0), .s [], .i .i64 (Int.ofNat 0), .l0])) (aRu rfl (by simp [DV.one]) h5.next h5.next.succ h5.bl) hzz
 obtain ⟨k7, h7, S7⟩ := jN 1 _ _ _ _ S6 _ _ (hstz _)
 have hqz := bRx (h' := ⟨g3.next.succ.succ.succ, Tr.set (.row kd l') c (Tr.set (.row (.gr 4) (old ++ [.i .i64 (Int.ofNat 0), .s [], .i .i64 (Int.ofNat 0), .l0])) g3.next.succ.succ t)⟩) (by
  show (Tr.set _ c (Tr.set _ _ t)).get q = _
  rw [dDv _ _ _ _ (Ne.symm W.ne), dDv _ _ _ _ hqs, htq]) W.hx
 obtain ⟨k8, h8, S8⟩ := jQ 4 _ _ _ S7 _ _ hqz
 have hfin : aF 4 (.p g3.next.succ.succ (0 + m * 4)) (.a cs) ⟨g3.next.succ.succ.succ, Tr.set (.row kd l') c (Tr.set (.row (.gr 4) (old ++ [.i .i64 (Int.ofNat 0), .s [], .i .i64 (Int.ofNat 0), .l0])) g3.next.succ.succ t)⟩ =
   some (aT, ⟨g3.next.succ.succ.succ, Tr.set (.row (.gr 4) (old ++ cs)) g3.next.succ.succ (Tr.set (.row kd l') c (Tr.set (.row (.gr 4) (old ++ [.i .i64 (Int.ofNat 0), .s [], .i .i64 (Int.ofNat 0), .l0])) g3.next.succ.succ t))⟩) := by
  have hp := aRa old [.i .i64 (Int.ofNat 0), .s [], .i .i64 (Int.ofNat 0), .l0] cs (by rw [W.one.1]; rfl) (by simp [DV.one]) W.one.2
  simp only [aF, dT, W.one.1, if_true, cZ, dDv _ _ _ _ (Ne.symm hcs), dDw, Kind.writable, Nat.zero_add, ← hol, hp]
 obtain ⟨k9, h9, S9⟩ := jN 4 _ _ _ _ S8 _ _ hfin
 have S10 : Sim true k4 k9 := by
  refine Sim.trans ?_ S9
  rw [hk4]
  refine Sim.of_get rfl fun b o hb => ?_
  change (Tr.set (.row kd l') c (Tr.set _ g3.next.succ.succ t)).get b = some o at hb
  show (Tr.set _ g3.next.succ.succ (Tr.set (.row kd l') c (Tr.set _ g3.next.succ.succ t))).get b = some o
  by_cases e1 : b = g3.next.succ.succ
  ·rw [e1] at hb ⊢
   rw [dDv _ _ _ _ (Ne.symm hcs), dDw] at hb
   rw [dDw, hb]
  ·rw [dDv _ _ _ _ e1]
   by_cases e2 : b = c
   ·rw [e2] at hb ⊢
    rw [dDw] at hb ⊢
    exact hb
   ·rw [dDv _ _ _ _ e2, dDv _ _ _ _ e1] at hb ⊢
    exact hb
 have fl : aL [(.i .i64 (Int.ofNat 0)), (.s []), (.i .i64 (Int.ofNat 0)), .l0] 1 [(0, 4, (.a [(.i .i64 (Int.ofNat 0)), (.s []), (.i .i64 (Int.ofNat 0)), .l0]))] h5 = some (.l h5.next 0 1 1, ⟨h5.next.succ, Tr.set (.row .ex [.i .i64 (Int.ofNat 0), .s [], .i .i64 (Int.ofNat 0), .l0]) h5.next h5.bl⟩) := by
  simp [aL, kN, dT]
 refine wpS (aPl ?_)
 rw [rg5]
 have c5 : aA (.p c 4) h5 = some (l1, h5) := W.c5 h5.next
 have ix : aI 4 l2 n k8 = some (.p g3.next.succ.succ (0 + m * 4), k8) := by
  rw [hl2, hn]
  show (if (0 : Int) ≤ (m : Int) ∧ (m : Int) < ((m + 1 : Nat) : Int) then some (DV.p g3.next.succ.succ (0 + (m : Int).toNat * 4), k8) else none) = _
  rw [if_pos (by omega)]
  simp
 simp only [W.e0, W.e3, bFn, bA, cPy, cMu, c5, W.len, fl, h6, h7]
 refine pW fun _ => aPl ?_
 rw [rg6]
 simp only [aIq, bEs, Nat.beq, W.e3, h8, bA, ix, h9]
 refine pW fun _ => hN _ _ ?_ S10
 simp only [aIq, Nat.beq]
 exact W.e5
end
theorem cFh {h h1 : Hp} {c q : Pos} {v : DV} (hr : pO c q h = some (v, h1)) (hf : mA h) {env : aU} (e0 : env 0 = .p c 0) (e3 : env 3 = .p q 0)
  {X : Nat → aU → Hp → Prop} {R N : aU → Hp → Prop} (hN : ∀ env' h', env' 5 = v → Sim true h1 h' → N env' h') :
  pJ CF0 (eA CF0 60) 49 (.seq (.region 3 (fH (cL (cL (cR (cL (cR (cR (cf Tryz.f242)))))))) false) (.seq (.region 4 R4 true) (.cond (.tmp 22)
   (.seq (.region 5 (fH (cL (cL (cR (cR (cL (cR (cL (cR (cR (cf Tryz.f242))))))))))) false) (.region 6 (fH (cR (cL (cR (cR (cL (cR (cL (cR (cR (cf Tryz.f242))))))))))) false))
   (.region 7 (fH (cR (cR (cR (cL (cR (cL (cR (cR (cf Tryz.f242)))))))))) true)))) X R N env h := by
 unfold pO at hr
 obtain ⟨l1, g1, hl1, hr⟩ := cX hr
 obtain ⟨n, g2, hn, hr⟩ := cX hr
 obtain ⟨x, g3, hx, hr⟩ := cX hr
 obtain ⟨rfl, uc, huc⟩ := oP hl1
 have hn0 := hn
 obtain ⟨rfl, hn⟩ := uQ (lI l1) hn
 obtain ⟨rfl, ⟨uq, huq⟩, cs, rfl, hcl, hco⟩ := pF hx
 dsimp only at hr
 cases hcq : oT c q with
 | true => rw [hcq] at hr; cases hr
 | false =>
 rw [hcq] at hr
 have hcq' : c ≠ q := aWf hcq
 simp only [cnd, Bool.not_false] at hr
 obtain ⟨l2, k3, ha, hr⟩ := cX hr
 obtain ⟨u, k4, hs, hr⟩ := cX hr
 simp only [bB, bL] at hr
 obtain ⟨rfl, rfl⟩ := hr
 refine wpS (aPl ?_)
 rw [rg3]
 rw [show aQ (env 0) g3 = some (.p c 0, g3) from by rw [e0]; rfl]
 show ∃ r, bnd (aA (.p c 4) g3) _ = some r
 rw [hl1]
 show ∃ r, bnd (bS l1 g3) _ = some r
 rw [hn0, bA]
 refine pW fun _ => ?_
 refine wpS (cZn (cZu fun x h5 A F5 => ?_))
 have W : Way g3 h5 c q l1 l2 n u cs k3 k4 (bK (bK (bK (bK (bK (bK (bK (bK (bK env (some 15) (env 0)) (some 16) (DV.p c 0)) (some 17) (DV.p c (0 + 0))) (some 18) (DV.p c (0 + 0 + 4))) (some 19) l1) (some 20) n) (some 5) n) (some 21) (DV.p g3.next 0)) (some 22) (DV.b x)) :=
  ⟨hf, A, hl1, hx, hcq', hn0, ha, hs, e0, e3, rfl⟩
 refine wpC (t := x) rfl ⟨fun _ => ?_, fun _ => ?_⟩
 ·exact W.A hN
 ·exact W.B hN
theorem bAf (c : Pos) (lit : List DV) (h : Hp) : bU (aJ [.p c 0, .a lit] 1) h = some (.p h.next 0, ⟨h.next.succ, Tr.set (.row .ex lit) h.next h.bl⟩) := rfl
theorem cPa (G : Gd) : wR Tryz.prog G 242 kF := by
 refine cOs (C := CF0) (rec := eA CF0 60) KC0 Try_ok cRz cCm fun args h v h1 hr hf => ?_
 unfold kF at hr
 split at hr <;> (try (cases hr; done))
 rename_i c lit
 obtain ⟨vb, hb, h0, hr⟩ := cX hr
 simp only [bI, bB, bL] at h0
 obtain ⟨rfl, rfl⟩ := h0
 obtain ⟨ls, h2, hl, hr⟩ := cX hr
 obtain ⟨rfl, _⟩ := oP hl
 obtain ⟨i, h3, hi, hr⟩ := cX hr
 obtain ⟨tt, h4, ht, hif⟩ := cX hr
 clear hr
 obtain ⟨rfl, hlt⟩ := uQ (uR _ _ _) ht
 rw [cUz, cWp]
 refine wpS (aPl ?_)
 rw [rg0, bAf, bA]
 refine pW fun _ => ?_
 refine wpS (aPl ?_)
 rw [rg1]
 simp only [aIq, bEs, Nat.beq, show aJ [.p c 0, .a lit] 0 = .p c 0 from rfl, bFn, bA, cPy, cMu, hl, hi]
 refine pW fun F4 => ?_
 refine wpS (wpS (aPl ?_))
 rw [rg2]
 simp only [aIq, bEs, Nat.beq, ht, bA]
 refine pW fun _ => ?_
 unfold aS at hif
 split at hif <;> (try (cases hif; done))
 ·refine wpC (t := true) rfl ⟨fun _ => ?_, fun e => (by cases e)⟩
  refine cFh hif F4 ?_ ?_ ?_
  ·rfl
  ·rfl
  ·intro env' h' e5 S
   exact aQr e5 S
 ·simp only [bB, bL] at hif
  obtain ⟨rfl, rfl⟩ := hif
  refine wpC (t := false) rfl ⟨fun e => (by cases e), fun _ => ?_⟩
  exact aQr rfl (Sim.refl _)
end Go.Dd

namespace Go.Dd
open Go.Proofs Go.Lib Go.RowKit
theorem aHm (c : Nat) (hc : c < 256) : ∀ (l : List UInt8) (i : Nat), aHn c (l.map (·.toNat)) i = if indexByte l c.toUInt8 = -1 then -1 else indexByte l c.toUInt8 + i
 | [], i => rfl
 | b :: l, i => by
  have hb : Nat.beq b.toNat c = (b == c.toUInt8) := by
   rw [Bool.eq_iff_iff]
   constructor
   ·intro h
    have := Nat.eq_of_beq_eq_true h
    simp [← this]
   ·intro h
    have h2 : b = c.toUInt8 := by simpa using h
    rw [h2]
    have : (c.toUInt8).toNat = c := by simp [Nat.toUInt8]; omega
    rw [this]; simp
  show (bif Nat.beq b.toNat c then Int.ofNat i else aHn c (l.map (·.toNat)) (i + 1)) = _
  rw [hb]
  unfold indexByte
  cases h : (b == c.toUInt8) with
  | true => simp
  | false =>
   have ih := aHm c hc l (i + 1)
   have hge := indexByte_ge l c.toUInt8
   simp only [cond_false, Bool.false_eq_true, if_false]
   rw [ih]
   by_cases h1 : indexByte l c.toUInt8 = -1
   ·simp [h1]
   ·simp only [h1, if_false, beq_iff_eq]
    rw [if_neg (by omega)]
    omega
theorem cKh (G : Gd) : wR Tryz.prog G 266 kQ := by
 intro args h v h1 hr ρ w args' H hargs
 unfold kQ at hr
 split at hr <;> (try (cases hr; done))
 rename_i l c
 cases hc : Nat.blt c 256 with
 | false => rw [hc] at hr; cases hr
 | true =>
  rw [hc] at hr
  have hc' : c < 256 := by simpa using hc
  simp only [cond_true, bB, bL] at hr
  obtain ⟨rfl, rfl⟩ := hr
  obtain ⟨a⟩ := args'
  cases hargs with
  | cons x x' l1 l1' hx hxs =>
  cases hxs with
  | cons y y' l2 l2' hy hys =>
  cases hys
  cases hx with
  | s l bs hbs =>
  cases hy with
  | i k n =>
  refine .inr ⟨ρ, w, .int .i64 (indexByte bs.data.toList c.toUInt8), ?_, Ex.refl _ _, ?_, H, Kp.refl _ _⟩
  ·rw [run_callFunc_extern (fn := Tryz.f266) (e := Extern.BytealgIndexByte.indexByte) (by kernel_rfl) (by kernel_rfl) (by kernel_rfl) (by kernel_rfl) (by kernel_rfl)]
   rw [run_indexByteString bs (Int.ofNat c) w]
   rfl
  ·have e := aHm c hc' bs.data.toList 0
   rw [hbs] at e
   have e2 : aHn c l 0 = indexByte bs.data.toList c.toUInt8 := by
    rw [e]
    split
    ·rename_i h; exact h.symm
    ·simp
   rw [e2]
   exact .i _ _
theorem aAi (G : Gd) (g : FuncId) (F : List DV → Hp → aH) (h : CF1.I g = some F) : wR CF1.P G g F := by
 have e : CF1.I g = bif Nat.beq g 266 then some kQ else bif Nat.beq g 242 then some kF else none := rfl
 rw [e] at h
 cases hg : Nat.beq g 266 with
 | true => rw [hg] at h; cases h; cases Nat.eq_of_beq_eq_true hg; exact cKh G
 | false =>
 rw [hg, cond_false] at h
 cases hg : Nat.beq g 242 with
 | true => rw [hg] at h; cases h; cases Nat.eq_of_beq_eq_true hg; exact cPa G
 | false => rw [hg] at h; cases h
def cIz (w : World) (F : bGu w) : Gd := ⟨w.heap.size, fun _ => False, 0, w.heap, fun _ _ => trivial⟩
theorem top {n : Nat} {f : FuncId} {args : List DV} {v : DV} {h1 : Hp} (hr : eA CF1 n f args lE = some (v, h1)) (fn : Func) (hf : Tryz.prog.funcs[f]? = some fn) (hb : fn.body.isSome = true)
  (w : World) (F : bGu w) (args' : Array Value) (hargs : VRs (fun _ => none) args args'.toList) :
  Calls Tryz.prog f args' w fun e w' => ∃ ρ' v', e = .returned v' ∧ VR ρ' v v' ∧ HR (cIz w F) ρ' h1 w' ∧ Below w.heap.size w w' := by
 have H : HR (cIz w F) (fun _ => none) lE w := by
  constructor
  ·exact fun _ _ => rfl
  ·exact ⟨Nat.le_refl _, fun _ h => h.elim⟩
  ·exact Nat.zero_le _
  ·rintro b a ⟨k, l, L, _, h2, _⟩; cases h2
  ·intro b o h; cases b <;> cases h
  ·intro b L h; cases h
  ·intro b k l L i v h h2; cases h2
  ·intro b l L es j h h2; cases h2
  ·rintro b a ⟨k, l, L, _, h2, _⟩; cases h2
  ·rintro b b' a ⟨k, l, L, _, h2, _⟩; cases h2
  ·intro b l L h h2; cases h2
  ·intro b es l i v h; cases b <;> cases h
  ·intro b s pos L h h2; cases h2
  ·intro b s pos b' s' pos' L L' h h' h2; cases h2
 rcases aBu (C := CF1) Try_ok aAi n _ f args lE v h1 hr _ w args' H hargs with ⟨_, h⟩ | ⟨ρ', w', v', h, _⟩
 ·refine h.mono ?_
  rintro e w' ⟨ρ', v', h1, h2, h3, h4, h5⟩
  exact ⟨ρ', v', h1, h3, h4, h5.low⟩
 ·exfalso
  have hf' : CF1.P.funcs[f]? = some fn := hf
  have hn : ¬ fn.name = "runtime.NumGoroutine" := by simpa using Try_ok.names f fn hf'
  have hbn : fn.body ≠ none := by intro e; rw [e] at hb; cases hb
  unfold callFunc at h
  simp [hf', hn, hbn] at h
end Go.Dd

namespace Go.Dd
open Go.Proofs Go.RowKit
theorem HR.later {G : Gd} {ρ : dB} {h : Hp} {w w' : World} (H : HR G ρ h w) (e : Below w.heap.size w w') : HR G ρ h w' where
 gl := fun k hk => (e.block k (Nat.lt_of_lt_of_le hk H.sz.1)).trans (H.gl k hk)
 sz := ⟨Nat.le_trans H.sz.1 e.size, fun k hk => Nat.lt_of_lt_of_le (H.sz.2 k hk) e.size⟩
 nx := H.nx
 ro := H.ro
 dom := H.dom
 lt := H.lt
 cell := fun b k l L i v h1 h2 h3 h4 => by
  obtain ⟨v', h5, h6⟩ := H.cell b k l L i v h1 h2 h3 h4
  exact ⟨v', by rw [e.cell (fK h5)]; exact h5, h6⟩
 spare := fun b l L es j h1 h2 h3 => by
  obtain ⟨v', h5⟩ := H.spare b l L es j h1 h2 h3
  exact ⟨v', by rw [e.cell (fK h5)]; exact h5⟩
 free := fun b a h1 h2 => by
  obtain ⟨v, hv⟩ := H.lt_cell h1
  rw [e.frozen (fK hv)]
  exact H.free b a h1 h2
 inj := H.inj
 ex := H.ex
 grone := H.grone
 itr := fun b o L h1 h2 h3 => by
  obtain ⟨a, b, x, c, d⟩ := H.itr b o L h1 h2 h3
  refine ⟨a, b, x, ?_, d⟩
  rw [e.block _ (Array.getElem?_eq_some_iff.1 c).1]
  exact c
 itj := H.itj
theorem Kp.later {G : Gd} {ρ : dB} {h : Hp} {w w' : World} (H : HR G ρ h w) (e : Below w.heap.size w w') : Kp G w w' :=
 ⟨e.mono H.sz.1, fun k hk => e.block k (H.sz.2 k hk)⟩
theorem bAe {n : Nat} {f : FuncId} {r : Bool} {h1 : Hp} (hr : eA CF1 n f [] lE = some (.b r, h1)) (fn : Func) (hf : Tryz.prog.funcs[f]? = some fn) (hb : fn.body.isSome = true) (G : Gd) :
  wR Tryz.prog G f (fun args h => match args with
   | [] => some (.b r, h)
   | _ => none) := by
 intro args h v h2 he ρ w args' H hargs
 cases args with
 | cons _ _ => cases he
 | nil =>
  simp only [bB, bL] at he
  obtain ⟨rfl, rfl⟩ := he
  have e0 : args' = #[] := by
   obtain ⟨a⟩ := args'
   cases hargs
   rfl
  subst e0
  refine .inl ⟨?_, ?_⟩
  ·have hf' : Tryz.prog.funcs[f]? = some fn := hf
   have hn : ¬ fn.name = "runtime.NumGoroutine" := by simpa using Try_ok.names f fn hf'
   have hbn : fn.body ≠ none := by intro e; rw [e] at hb; cases hb
   unfold callFunc
   simp [hf', hn, hbn]
  ·refine (top hr fn hf hb w (G.ok w H.gl) #[] .nil).mono ?_
   rintro e w' ⟨ρ', v', rfl, hv, _, hbel⟩
   cases hv
   exact ⟨ρ, _, rfl, Ex.refl _ _, .b _, H.later hbel, Kp.later H hbel⟩
theorem Sim.tf {a b c : Hp} (h : Sim true a b) (k : Sim false b c) : Sim false a c := ⟨k.next.trans h.next, fun p o hp => by
 obtain ⟨o', h1, h2⟩ := h.get p o hp
 rw [iO h2] at h1
 exact k.get p o h1⟩
theorem Sim.zero (h : Hp) (hn : h.next = .h) : Sim false lE h := ⟨hn, fun b o hb => by cases b <;> cases hb⟩
theorem aUu (g : FuncId) (F : List DV → Hp → aH) (hg : CF.I g = some F) (n : Nat) (args : List DV) : SimP false (F args) (cJ CF1 (eA CF1 (n + 12)) g args) := by
 change (bif Nat.beq g 266 then some kQ else bif Nat.beq g 242 then some kF else wS g) = some F at hg
 have hcall : cJ CF1 (eA CF1 (n + 12)) g args = fun h => match (bif Nat.beq g 266 then some kQ else bif Nat.beq g 242 then some kF else none : Option (List DV → Hp → aH)) with
  | some F => F args h
  | none => eA CF1 (n + 12) g args h := rfl
 rw [hcall]
 cases h1 : Nat.beq g 266 with
 | true => rw [h1] at hg; cases hg; exact aBd args
 | false =>
  cases h2 : Nat.beq g 242 with
  | true => rw [h1, h2] at hg; cases hg; exact aGo args
  | false =>
   rw [h1, h2] at hg
   exact aJb g F hg n args
theorem aHu {g : FuncId} (hg : CF.I g = none) : CF1.I g = none := by
 show (bif Nat.beq g 266 then some kQ else bif Nat.beq g 242 then some kF else none) = none
 change (bif Nat.beq g 266 then some kQ else bif Nat.beq g 242 then some kF else wS g) = none at hg
 cases h1 : Nat.beq g 266 with
 | true => rw [h1] at hg; cases hg
 | false =>
  cases h2 : Nat.beq g 242 with
  | true => rw [h1, h2] at hg; cases hg
  | false => rfl
theorem cLj (h' : Hp) (hn : h'.next = .h) : ∃ g', eA CF1 912 10 [.i .i64 (.ofNat 20000)] h' = some (.t [.p (bG 7) 0, .i .i64 (.ofNat 0)], g') ∧ Sim false hN g' := by
 obtain ⟨g, h1, h2⟩ := cLc
 rw [aGk] at h1
 obtain ⟨g', h3, h4⟩ := bPz 900 10 [.i .i64 (.ofNat 20000)] lE h' (Sim.zero h' hn) _ _ h1
 exact ⟨g', h3, h2.tf h4⟩
noncomputable def cOr (args : List DV) (h : Hp) : aH := match args, h with
 | [.i .i64 (.ofNat m)], ⟨.h, .e⟩ => bif Nat.beq m 20000 then some (.t [.p (bG 7) 0, .i .i64 (.ofNat 0)], hN) else none
 | _, _ => none
theorem bKs (args : List DV) : SimP false (cOr args) (eA CF1 912 10 args) := by
 intro h h' S
 unfold cOr
 split
 ·rename_i m
  cases hm : Nat.beq m 20000 with
  | false => exact SimR.none _
  | true =>
   cases Nat.eq_of_beq_eq_true hm
   rw [cond_true]
   obtain ⟨g', h1, h2⟩ := cLj h' S.next
   intro v k e
   simp only [bB, bL] at e
   obtain ⟨rfl, rfl⟩ := e
   exact ⟨g', h1, h2⟩
 ·exact SimR.none _
theorem aQk (n : Nat) (g : FuncId) (args : List DV) (h : Hp) : zN n g args h = bif Nat.beq g 10 then cOr args h else jR n g args h := rfl
theorem aTm (g : FuncId) (args : List DV) : SimP false (zN 900 g args) (eA CF1 912 g args) := by
 intro h h' S
 rw [aQk]
 cases hg : Nat.beq g 10 with
 | false =>
  rw [cond_false, aGk]
  exact bPz 900 g args h h' S
 | true =>
  rw [cond_true]
  cases Nat.eq_of_beq_eq_true hg
  exact bKs args h h' S
theorem HCN (g : FuncId) (args : List DV) : SimP false (cJ CF (zN 900) g args) (cJ CF1 (eA CF1 912) g args) := by
 cases hg : CF.I g with
 | none => rw [lR hg, lR (aHu hg)]; exact aTm g args
 | some F =>
  have e : cJ CF (zN 900) g args = F args := by funext k; unfold cJ; rw [hg]
  rw [e]
  exact aUu g F hg 900 args
theorem bKh : ∃ g, eA CF1 913 16 [] lE = some (.b true, g) := by
 have hl := cPj
 cases hr : s16 (zN 900) 900 lE with
 | none => rw [hr] at hl; cases hl
 | some p =>
  obtain ⟨v, k⟩ := p
  rw [hr] at hl
  cases v <;> (try (cases hl; done))
  rename_i b
  change b = true at hl
  subst hl
  obtain ⟨g, h1, h2⟩ := wI (P := Tryz.prog) (I2 := CF.I) (I1 := CF1.I) HCN 900 12 16 [] lE lE (Sim.zero lE rfl) _ _ ((cGc (zN 900) 900 [] lE).trans hr)
  exact ⟨g, h1⟩
noncomputable def iY : RT := fun g args h => bif Nat.beq g 16 then (match args with
 | [] => some (.b true, h)
 | _ => none) else zN 900 g args h
noncomputable def aIx : RT := fun g => bif Nat.beq g 16 then (fun args h => match args with
 | [] => some (.b true, h)
 | _ => none) else eA CF1 912 g
theorem bDm : OkC CF1 aIx := by
 refine ⟨aAi, fun G g => ?_⟩
 unfold aIx
 cases hg : Nat.beq g 16 with
 | true =>
  cases Nat.eq_of_beq_eq_true hg
  obtain ⟨k, hk⟩ := bKh
  exact bAe hk Tryz.f16 Tryz.func16 (by kernel_rfl) G
 | false => exact aBu (C := CF1) Try_ok aAi 912 G g
theorem HCX (g : FuncId) (args : List DV) : SimP false (cJ CF iY g args) (cJ CF1 aIx g args) := by
 cases hg : CF.I g with
 | none =>
  rw [lR hg, lR (aHu hg)]
  intro h h' S
  show SimR false (bif Nat.beq g 16 then (match args with
   | [] => some (.b true, h)
   | _ => none) else zN 900 g args h) ((bif Nat.beq g 16 then (fun args h => match args with
   | [] => some (.b true, h)
   | _ => none : List DV → Hp → aH) else eA CF1 912 g) args h')
  cases h16 : Nat.beq g 16 with
  | true =>
   rw [cond_true, cond_true]
   cases args with
   | nil => exact SimR.some S _
   | cons a l => exact SimR.none _
  | false => rw [cond_false, cond_false]; exact aTm g args h h' S
 | some F =>
  have e : cJ CF iY g args = F args := by funext k; unfold cJ; rw [hg]
  rw [e]
  have e1 : cJ CF1 aIx g args = cJ CF1 (eA CF1 912) g args := by
   cases h16 : Nat.beq g 16 with
   | true =>
    cases Nat.eq_of_beq_eq_true h16
    exact absurd hg (by show ¬ CF.I 16 = some F; exact fun e => by cases e)
   | false =>
    funext k
    unfold cJ aIx
    rw [h16]
    rfl
  rw [e1]
  exact aUu g F hg 900 args
theorem cHa {f : FuncId} {args : List DV} (hr : ∃ k, aG CF iY 900 f args lE = some (.b true, k)) (fn : Func) (hf : Tryz.prog.funcs[f]? = some fn) (hb : fn.body.isSome = true)
  (w : World) (args' : Array Value) (hargs : VRs (fun _ => none) args args'.toList) :
  Calls Tryz.prog f args' w fun e w' => e = .returned (.bool true) ∧ Below w.heap.size w w' := by
 obtain ⟨k, hk⟩ := hr
 obtain ⟨g, h1, _⟩ := wI (P := Tryz.prog) (I2 := CF.I) (I1 := CF1.I) HCX 900 12 f args lE lE (Sim.zero lE rfl) _ _ hk
 have H : HR (cIz w trivial) (fun _ => none) lE w := by
  constructor
  ·exact fun _ _ => rfl
  ·exact ⟨Nat.le_refl _, fun _ h => h.elim⟩
  ·exact Nat.zero_le _
  ·rintro b a ⟨k, l, L, _, h2, _⟩; cases h2
  ·intro b o h; cases b <;> cases h
  ·intro b L h; cases h
  ·intro b k l L i v h h2; cases h2
  ·intro b l L es j h h2; cases h2
  ·rintro b a ⟨k, l, L, _, h2, _⟩; cases h2
  ·rintro b b' a ⟨k, l, L, _, h2, _⟩; cases h2
  ·intro b l L h h2; cases h2
  ·intro b es l i v h; cases b <;> cases h
  ·intro b s pos L h h2; cases h2
  ·intro b s pos b' s' pos' L L' h h' h2; cases h2
 rcases aUy bDm Try_ok 912 f args lE _ g h1 _ w args' H hargs with ⟨_, h⟩ | ⟨ρ', w', v', h, _⟩
 ·refine h.mono ?_
  rintro e w' ⟨ρ', v', rfl, h2, h3, h4, h5⟩
  cases h3
  exact ⟨rfl, h5.low⟩
 ·exfalso
  have hn : ¬ fn.name = "runtime.NumGoroutine" := by simpa using Try_ok.names f fn hf
  have hbn : fn.body ≠ none := by intro e; rw [e] at hb; cases hb
  unfold callFunc at h
  simp [show CF1.P.funcs[f]? = some fn from hf, hn, hbn] at h
end Go.Dd

namespace Go.Dd
open Go.Proofs
noncomputable def xL (rec : FuncId → List DV → Hp → aH) (n : Nat) (h0 : Hp) : aH :=
 bnd (rec 16 [] h0) fun v1 h1 =>
 some (v1, h1)
noncomputable def xA (rec : FuncId → List DV → Hp → aH) (n : Nat) (x0 x5 x7 x13 x14 : DV) (h0 : Hp) : aH :=
 bnd (aD .eql x14 (.i .i64 (Int.ofNat 0)) h0) fun v3 h3 =>
 aS v3 (
  bnd (rec 13 [x5, x13] h3) fun v4 h4 =>
  bnd (aC 0 v4 h4) fun v5 h5 =>
  bnd (aC 1 v4 h5) fun v6 h6 =>
  bnd (eB .neq v5 x0 h6) fun v7 h7 =>
  bnd (gD v7 false (some (v6, h7)) h7) fun v8 h8 =>
  bnd (gD v7 false (gG .not v8 h8) h8) fun v9 h9 =>
  bnd (aM v7 (.b true) v9 h9) fun v10 h10 =>
  bnd (gD v10 false (some (x13, h10)) h10) fun v11 h11 =>
  bnd (gD v10 false (some (x7, h11)) h11) fun v12 h12 =>
  bnd (gD v10 false (aD .eql v11 v12 h12) h12) fun v13 h13 =>
  bnd (aM v10 (.b true) v13 h13) fun v14 h14 =>
  bnd (gD v14 false (some (x5, h14)) h14) fun v15 h15 =>
  bnd (gD v14 false (some (x13, h15)) h15) fun v16 h16 =>
  bnd (gD v14 false (rec 14 [v15, v16] h16) h16) fun v17 h17 =>
  bnd (gD v14 false (some (x5, h17)) h17) fun v18 h18 =>
  bnd (gD v14 false (rec 15 [v18, (.i .i64 (Int.ofNat 10))] h18) h18) fun v19 h19 =>
  bnd (gD v14 false (aD .neq v17 v19 h19) h19) fun v20 h20 =>
  bnd (aM v14 (.b true) v20 h20) fun v21 h21 =>
  aS v21 (
   some ((.b false), h21)) (
   xL rec n h21)) (
  xL rec n h3)
noncomputable def xM (rec : FuncId → List DV → Hp → aH) (n : Nat) (x0 x1 x5 x7 x8 x9 x10 x13 x14 : DV) (h0 : Hp) : aH :=
 bnd (aD .eql x8 (.i .i64 (Int.ofNat 0)) h0) fun v41 h41 =>
 aS v41 (
  bnd (rec 13 [x5, x7] h41) fun v42 h42 =>
  bnd (aC 0 v42 h42) fun v43 h43 =>
  bnd (aC 1 v42 h43) fun v44 h44 =>
  bnd (eB .neq v43 x0 h44) fun v45 h45 =>
  bnd (gD v45 false (some (v44, h45)) h45) fun v46 h46 =>
  bnd (gD v45 false (gG .not v46 h46) h46) fun v47 h47 =>
  bnd (aM v45 (.b true) v47 h47) fun v48 h48 =>
  bnd (gD v48 false (some (x10, h48)) h48) fun v49 h49 =>
  bnd (gD v48 false (aD .eql v49 (.i .i64 (Int.ofNat 0)) h49) h49) fun v50 h50 =>
  bnd (gD v48 false (some (v50, h50)) h50) fun v51 h51 =>
  bnd (gD v51 true (some (x7, h51)) h51) fun v52 h52 =>
  bnd (gD v51 true (some (x9, h52)) h52) fun v53 h53 =>
  bnd (gD v51 true (aD .eql v52 v53 h53) h53) fun v54 h54 =>
  bnd (gD v51 true (some (x0, h54)) h54) fun v55 h55 =>
  bnd (gD v51 true (some (x1, h55)) h55) fun v56 h56 =>
  bnd (gD v51 true (eB .eql v55 v56 h56) h56) fun v57 h57 =>
  bnd (gD v51 true (pEq .bool false v54 v57 h57) h57) fun v58 h58 =>
  bnd (gD v48 false (aM v51 v58 (.b false) h58) h58) fun v59 h59 =>
  bnd (aM v48 (.b true) v59 h59) fun v60 h60 =>
  bnd (gD v60 false (some (x5, h60)) h60) fun v61 h61 =>
  bnd (gD v60 false (some (x7, h61)) h61) fun v62 h62 =>
  bnd (gD v60 false (rec 14 [v61, v62] h62) h62) fun v63 h63 =>
  bnd (gD v60 false (some (x5, h63)) h63) fun v64 h64 =>
  bnd (gD v60 false (rec 15 [v64, (.i .i64 (Int.ofNat 11))] h64) h64) fun v65 h65 =>
  bnd (gD v60 false (aD .neq v63 v65 h65) h65) fun v66 h66 =>
  bnd (aM v60 (.b true) v66 h66) fun v67 h67 =>
  aS v67 (
   some ((.b false), h67)) (
   xA rec n x0 x5 x7 x13 x14 h67)) (
  xA rec n x0 x5 x7 x13 x14 h41)
noncomputable def bBm (rec : FuncId → List DV → Hp → aH) (n : Nat) (x0 x1 x5 x7 x8 x9 x10 x11 x12 x13 x14 : DV) (h0 : Hp) : aH :=
 bnd (aD .eql x8 (.i .i64 (Int.ofNat 0)) h0) fun v95 h95 =>
 bnd (cU x0 h95) fun v96 h96 =>
 bnd (aD .geq v96 (.i .i64 (Int.ofNat 1)) h96) fun v97 h97 =>
 bnd (gD v97 true (some (x0, h97)) h97) fun v98 h98 =>
 bnd (gD v97 true (cU v98 h98) h98) fun v99 h99 =>
 bnd (gD v97 true (aD .leq v99 (.i .i64 (Int.ofNat 60)) h99) h99) fun v100 h100 =>
 bnd (aM v97 v100 (.b false) h100) fun v101 h101 =>
 bnd (pEq .bool false v95 v101 h101) fun v102 h102 =>
 bnd (gD v102 false (some (x10, h102)) h102) fun v103 h103 =>
 bnd (gD v102 false (aD .eql v103 (.i .i64 (Int.ofNat 0)) h103) h103) fun v104 h104 =>
 bnd (gD v102 false (some (x1, h104)) h104) fun v105 h105 =>
 bnd (gD v102 false (cU v105 h105) h105) fun v106 h106 =>
 bnd (gD v102 false (aD .geq v106 (.i .i64 (Int.ofNat 1)) h106) h106) fun v107 h107 =>
 bnd (gD v102 false (some (v107, h107)) h107) fun v108 h108 =>
 bnd (gD v108 true (some (x1, h108)) h108) fun v109 h109 =>
 bnd (gD v108 true (cU v109 h109) h109) fun v110 h110 =>
 bnd (gD v108 true (aD .leq v110 (.i .i64 (Int.ofNat 60)) h110) h110) fun v111 h111 =>
 bnd (gD v102 false (aM v108 v111 (.b false) h111) h111) fun v112 h112 =>
 bnd (gD v102 false (pEq .bool false v104 v112 h112) h112) fun v113 h113 =>
 bnd (aM v102 (.b true) v113 h113) fun v114 h114 =>
 bnd (gD v114 false (some (x8, h114)) h114) fun v115 h115 =>
 bnd (gD v114 false (some (x12, h115)) h115) fun v116 h116 =>
 bnd (gD v114 false (aD .neq v115 v116 h116) h116) fun v117 h117 =>
 bnd (aM v114 (.b true) v117 h117) fun v118 h118 =>
 bnd (gD v118 false (some (x7, h118)) h118) fun v119 h119 =>
 bnd (gD v118 false (some (x11, h119)) h119) fun v120 h120 =>
 bnd (gD v118 false (aD .neq v119 v120 h120) h120) fun v121 h121 =>
 bnd (aM v118 (.b true) v121 h121) fun v122 h122 =>
 bnd (gD v122 false (some (x14, h122)) h122) fun v123 h123 =>
 bnd (gD v122 false (aD .eql v123 (.i .i64 (Int.ofNat 0)) h123) h123) fun v124 h124 =>
 bnd (gD v122 false (some (x0, h124)) h124) fun v125 h125 =>
 bnd (gD v122 false (cU v125 h125) h125) fun v126 h126 =>
 bnd (gD v122 false (aD .leq v126 (.i .i64 (Int.ofNat 250)) h126) h126) fun v127 h127 =>
 bnd (gD v122 false (pEq .bool false v124 v127 h127) h127) fun v128 h128 =>
 bnd (aM v122 (.b true) v128 h128) fun v129 h129 =>
 aS v129 (
  some ((.b false), h129)) (
  xM rec n x0 x1 x5 x7 x8 x9 x10 x13 x14 h129)
noncomputable def cEj (rec : FuncId → List DV → Hp → aH) (n : Nat) (x0 x1 x5 x7 x8 x9 x10 x11 x12 : DV) (h0 : Hp) : aH :=
 bnd (rec 12 [x5, x0] h0) fun v165 h165 =>
 bnd (aC 0 v165 h165) fun v166 h166 =>
 bnd (aC 1 v165 h166) fun v167 h167 =>
 bBm rec n x0 x1 x5 x7 x8 x9 x10 x11 x12 v166 v167 h167
noncomputable def bYk (rec : FuncId → List DV → Hp → aH) (n : Nat) (x0 x1 x5 x7 x8 x9 x10 : DV) (h0 : Hp) : aH :=
 bnd (rec 11 [x5, x0] h0) fun v171 h171 =>
 bnd (aC 0 v171 h171) fun v172 h172 =>
 bnd (aC 1 v171 h172) fun v173 h173 =>
 cEj rec n x0 x1 x5 x7 x8 x9 x10 v172 v173 h173
noncomputable def cBf (rec : FuncId → List DV → Hp → aH) (n : Nat) (x0 x1 x5 x7 x8 : DV) (h0 : Hp) : aH :=
 bnd (rec 11 [x5, x1] h0) fun v177 h177 =>
 bnd (aC 0 v177 h177) fun v178 h178 =>
 bnd (aC 1 v177 h178) fun v179 h179 =>
 bYk rec n x0 x1 x5 x7 x8 v178 v179 h179
noncomputable def cAk (rec : FuncId → List DV → Hp → aH) (n : Nat) (x0 x1 x5 : DV) (h0 : Hp) : aH :=
 bnd (rec 11 [x5, x0] h0) fun v183 h183 =>
 bnd (aC 0 v183 h183) fun v184 h184 =>
 bnd (aC 1 v183 h184) fun v185 h185 =>
 cBf rec n x0 x1 x5 v184 v185 h185
noncomputable def bWb (rec : FuncId → List DV → Hp → aH) (n : Nat) (x0 x1 x5 x6 : DV) (h0 : Hp) : aH :=
 bnd (pEq (.pointer 83) true x5 .p0 h0) fun v189 h189 =>
 bnd (gD v189 false (some (x6, h189)) h189) fun v190 h190 =>
 bnd (gD v189 false (aD .neq v190 (.i .i64 (Int.ofNat 0)) h190) h190) fun v191 h191 =>
 bnd (aM v189 (.b true) v191 h191) fun v192 h192 =>
 aS v192 (
  some ((.b false), h192)) (
  cAk rec n x0 x1 x5 h192)
noncomputable def aXx (rec : FuncId → List DV → Hp → aH) (n : Nat) (x0 x1 : DV) (h0 : Hp) : aH :=
 bnd (rec 10 [(.i .i64 (Int.ofNat 20000))] h0) fun v197 h197 =>
 bnd (aC 0 v197 h197) fun v198 h198 =>
 bnd (aC 1 v197 h198) fun v199 h199 =>
 bWb rec n x0 x1 v198 v199 h199
noncomputable def aYv (rec : FuncId → List DV → Hp → aH) (n : Nat) (x0 x1 : DV) (h0 : Hp) : aH :=
 bnd (cU x1 h0) fun v203 h203 =>
 bnd (aD .gtr v203 (.i .i64 (Int.ofNat 300)) h203) fun v204 h204 =>
 aS v204 (
  bnd (fC x1 none (some (.i .i64 (Int.ofNat 300))) h204) fun v205 h205 =>
  aXx rec n x0 v205 h205) (
  aXx rec n x0 x1 h204)
noncomputable def bOo (rec : FuncId → List DV → Hp → aH) (n : Nat) (x0 x1 : DV) (h0 : Hp) : aH :=
 bnd (cU x0 h0) fun v209 h209 =>
 bnd (aD .gtr v209 (.i .i64 (Int.ofNat 300)) h209) fun v210 h210 =>
 aS v210 (
  bnd (fC x0 none (some (.i .i64 (Int.ofNat 300))) h210) fun v211 h211 =>
  aYv rec n v211 x1 h211) (
  aYv rec n x0 x1 h210)
noncomputable def s3 (rec : FuncId → List DV → Hp → aH) (n : Nat) (x0 x1 : DV) (h0 : Hp) : aH :=
 bOo rec n x0 x1 h0
noncomputable def D3 (rec : FuncId → List DV → Hp → aH) (n : Nat) (c : Code) (X : Nat → K) (k : K) : K := aP CF rec 170 n c X (aO CF Tryz.f3) k
theorem cMk (rec : FuncId → List DV → Hp → aH) (n : Nat) : D3 rec n (cR (cR (cR (cR (cR (cR (cR (cR (cR (cR (cR (cR (cf Tryz.f3))))))))))))) x0 (aO CF Tryz.f3) = (fun (env : aU) (h : Hp) => xL rec n h) :=
 (by kernel_rfl)
theorem bZh (rec : FuncId → List DV → Hp → aH) (n : Nat) : D3 rec n (cR (cR (cR (cR (cR (cR (cR (cR (cR (cR (cR (cf Tryz.f3)))))))))))) x0 (aO CF Tryz.f3) = D3 rec n (cL (cR (cR (cR (cR (cR (cR (cR (cR (cR (cR (cR (cf Tryz.f3))))))))))))) x0 (fun (env : aU) (h : Hp) => xL rec n h) :=
 congrArg (fun k => D3 rec n (cL (cR (cR (cR (cR (cR (cR (cR (cR (cR (cR (cR (cf Tryz.f3))))))))))))) x0 k) (cMk rec n)
theorem cKt (rec : FuncId → List DV → Hp → aH) (n : Nat) : D3 rec n (cR (cR (cR (cR (cR (cR (cR (cR (cR (cR (cR (cf Tryz.f3)))))))))))) x0 (aO CF Tryz.f3) = (fun (env : aU) (h : Hp) => xA rec n (env 0) (env 5) (env 7) (env 13) (env 14) h) :=
 (bZh rec n).trans
 ((by kernel_rfl))
theorem bZz (rec : FuncId → List DV → Hp → aH) (n : Nat) : D3 rec n (cR (cR (cR (cR (cR (cR (cR (cR (cR (cR (cf Tryz.f3))))))))))) x0 (aO CF Tryz.f3) = D3 rec n (cL (cR (cR (cR (cR (cR (cR (cR (cR (cR (cR (cf Tryz.f3)))))))))))) x0 (fun (env : aU) (h : Hp) => xA rec n (env 0) (env 5) (env 7) (env 13) (env 14) h) :=
 congrArg (fun k => D3 rec n (cL (cR (cR (cR (cR (cR (cR (cR (cR (cR (cR (cf Tryz.f3)))))))))))) x0 k) (cKt rec n)
theorem cPp (rec : FuncId → List DV → Hp → aH) (n : Nat) : D3 rec n (cR (cR (cR (cR (cR (cR (cR (cR (cR (cR (cf Tryz.f3))))))))))) x0 (aO CF Tryz.f3) = (fun (env : aU) (h : Hp) => xM rec n (env 0) (env 1) (env 5) (env 7) (env 8) (env 9) (env 10) (env 13) (env 14) h) :=
 (bZz rec n).trans
 ((by kernel_rfl))
theorem cPm (rec : FuncId → List DV → Hp → aH) (n : Nat) : D3 rec n (cR (cR (cR (cR (cR (cR (cR (cR (cR (cf Tryz.f3)))))))))) x0 (aO CF Tryz.f3) = D3 rec n (cL (cR (cR (cR (cR (cR (cR (cR (cR (cR (cf Tryz.f3))))))))))) x0 (fun (env : aU) (h : Hp) => xM rec n (env 0) (env 1) (env 5) (env 7) (env 8) (env 9) (env 10) (env 13) (env 14) h) :=
 congrArg (fun k => D3 rec n (cL (cR (cR (cR (cR (cR (cR (cR (cR (cR (cf Tryz.f3))))))))))) x0 k) (cPp rec n)
theorem cWb (rec : FuncId → List DV → Hp → aH) (n : Nat) : D3 rec n (cR (cR (cR (cR (cR (cR (cR (cR (cR (cf Tryz.f3)))))))))) x0 (aO CF Tryz.f3) = (fun (env : aU) (h : Hp) => bBm rec n (env 0) (env 1) (env 5) (env 7) (env 8) (env 9) (env 10) (env 11) (env 12) (env 13) (env 14) h) :=
 (cPm rec n).trans
 ((by kernel_rfl))
theorem cGw (rec : FuncId → List DV → Hp → aH) (n : Nat) : D3 rec n (cR (cR (cR (cR (cR (cR (cR (cR (cf Tryz.f3))))))))) x0 (aO CF Tryz.f3) = D3 rec n (cL (cR (cR (cR (cR (cR (cR (cR (cR (cf Tryz.f3)))))))))) x0 (fun (env : aU) (h : Hp) => bBm rec n (env 0) (env 1) (env 5) (env 7) (env 8) (env 9) (env 10) (env 11) (env 12) (env 13) (env 14) h) :=
 congrArg (fun k => D3 rec n (cL (cR (cR (cR (cR (cR (cR (cR (cR (cf Tryz.f3)))))))))) x0 k) (cWb rec n)
theorem cUe (rec : FuncId → List DV → Hp → aH) (n : Nat) : D3 rec n (cR (cR (cR (cR (cR (cR (cR (cR (cf Tryz.f3))))))))) x0 (aO CF Tryz.f3) = (fun (env : aU) (h : Hp) => cEj rec n (env 0) (env 1) (env 5) (env 7) (env 8) (env 9) (env 10) (env 11) (env 12) h) :=
 (cGw rec n).trans
 ((by kernel_rfl))
theorem cQt (rec : FuncId → List DV → Hp → aH) (n : Nat) : D3 rec n (cR (cR (cR (cR (cR (cR (cR (cf Tryz.f3)))))))) x0 (aO CF Tryz.f3) = D3 rec n (cL (cR (cR (cR (cR (cR (cR (cR (cf Tryz.f3))))))))) x0 (fun (env : aU) (h : Hp) => cEj rec n (env 0) (env 1) (env 5) (env 7) (env 8) (env 9) (env 10) (env 11) (env 12) h) :=
 congrArg (fun k => D3 rec n (cL (cR (cR (cR (cR (cR (cR (cR (cf Tryz.f3))))))))) x0 k) (cUe rec n)
theorem cYk (rec : FuncId → List DV → Hp → aH) (n : Nat) : D3 rec n (cR (cR (cR (cR (cR (cR (cR (cf Tryz.f3)))))))) x0 (aO CF Tryz.f3) = (fun (env : aU) (h : Hp) => bYk rec n (env 0) (env 1) (env 5) (env 7) (env 8) (env 9) (env 10) h) :=
 (cQt rec n).trans
 ((by kernel_rfl))
theorem cJj (rec : FuncId → List DV → Hp → aH) (n : Nat) : D3 rec n (cR (cR (cR (cR (cR (cR (cf Tryz.f3))))))) x0 (aO CF Tryz.f3) = D3 rec n (cL (cR (cR (cR (cR (cR (cR (cf Tryz.f3)))))))) x0 (fun (env : aU) (h : Hp) => bYk rec n (env 0) (env 1) (env 5) (env 7) (env 8) (env 9) (env 10) h) :=
 congrArg (fun k => D3 rec n (cL (cR (cR (cR (cR (cR (cR (cf Tryz.f3)))))))) x0 k) (cYk rec n)
theorem cSl (rec : FuncId → List DV → Hp → aH) (n : Nat) : D3 rec n (cR (cR (cR (cR (cR (cR (cf Tryz.f3))))))) x0 (aO CF Tryz.f3) = (fun (env : aU) (h : Hp) => cBf rec n (env 0) (env 1) (env 5) (env 7) (env 8) h) :=
 (cJj rec n).trans
 ((by kernel_rfl))
theorem cNv (rec : FuncId → List DV → Hp → aH) (n : Nat) : D3 rec n (cR (cR (cR (cR (cR (cf Tryz.f3)))))) x0 (aO CF Tryz.f3) = D3 rec n (cL (cR (cR (cR (cR (cR (cf Tryz.f3))))))) x0 (fun (env : aU) (h : Hp) => cBf rec n (env 0) (env 1) (env 5) (env 7) (env 8) h) :=
 congrArg (fun k => D3 rec n (cL (cR (cR (cR (cR (cR (cf Tryz.f3))))))) x0 k) (cSl rec n)
theorem cXb (rec : FuncId → List DV → Hp → aH) (n : Nat) : D3 rec n (cR (cR (cR (cR (cR (cf Tryz.f3)))))) x0 (aO CF Tryz.f3) = (fun (env : aU) (h : Hp) => cAk rec n (env 0) (env 1) (env 5) h) :=
 (cNv rec n).trans
 ((by kernel_rfl))
theorem cMe (rec : FuncId → List DV → Hp → aH) (n : Nat) : D3 rec n (cR (cR (cR (cR (cf Tryz.f3))))) x0 (aO CF Tryz.f3) = D3 rec n (cL (cR (cR (cR (cR (cf Tryz.f3)))))) x0 (fun (env : aU) (h : Hp) => cAk rec n (env 0) (env 1) (env 5) h) :=
 congrArg (fun k => D3 rec n (cL (cR (cR (cR (cR (cf Tryz.f3)))))) x0 k) (cXb rec n)
theorem cRt (rec : FuncId → List DV → Hp → aH) (n : Nat) : D3 rec n (cR (cR (cR (cR (cf Tryz.f3))))) x0 (aO CF Tryz.f3) = (fun (env : aU) (h : Hp) => bWb rec n (env 0) (env 1) (env 5) (env 6) h) :=
 (cMe rec n).trans
 ((by kernel_rfl))
theorem cQi (rec : FuncId → List DV → Hp → aH) (n : Nat) : D3 rec n (cR (cR (cR (cf Tryz.f3)))) x0 (aO CF Tryz.f3) = D3 rec n (cL (cR (cR (cR (cf Tryz.f3))))) x0 (fun (env : aU) (h : Hp) => bWb rec n (env 0) (env 1) (env 5) (env 6) h) :=
 congrArg (fun k => D3 rec n (cL (cR (cR (cR (cf Tryz.f3))))) x0 k) (cRt rec n)
theorem cUj (rec : FuncId → List DV → Hp → aH) (n : Nat) : D3 rec n (cR (cR (cR (cf Tryz.f3)))) x0 (aO CF Tryz.f3) = (fun (env : aU) (h : Hp) => aXx rec n (env 0) (env 1) h) :=
 (cQi rec n).trans
 ((by kernel_rfl))
theorem bZq (rec : FuncId → List DV → Hp → aH) (n : Nat) : D3 rec n (cR (cR (cf Tryz.f3))) x0 (aO CF Tryz.f3) = D3 rec n (cL (cR (cR (cf Tryz.f3)))) x0 (fun (env : aU) (h : Hp) => aXx rec n (env 0) (env 1) h) :=
 congrArg (fun k => D3 rec n (cL (cR (cR (cf Tryz.f3)))) x0 k) (cUj rec n)
theorem cVx (rec : FuncId → List DV → Hp → aH) (n : Nat) : D3 rec n (cR (cR (cf Tryz.f3))) x0 (aO CF Tryz.f3) = (fun (env : aU) (h : Hp) => aYv rec n (env 0) (env 1) h) :=
 (bZq rec n).trans
 ((by kernel_rfl))
theorem cEp (rec : FuncId → List DV → Hp → aH) (n : Nat) : D3 rec n (cR (cf Tryz.f3)) x0 (aO CF Tryz.f3) = D3 rec n (cL (cR (cf Tryz.f3))) x0 (fun (env : aU) (h : Hp) => aYv rec n (env 0) (env 1) h) :=
 congrArg (fun k => D3 rec n (cL (cR (cf Tryz.f3))) x0 k) (cVx rec n)
theorem cYf (rec : FuncId → List DV → Hp → aH) (n : Nat) : D3 rec n (cR (cf Tryz.f3)) x0 (aO CF Tryz.f3) = (fun (env : aU) (h : Hp) => bOo rec n (env 0) (env 1) h) :=
 (cEp rec n).trans
 ((by kernel_rfl))
theorem cWy (rec : FuncId → List DV → Hp → aH) (n : Nat) : D3 rec n (cf Tryz.f3) x0 (aO CF Tryz.f3) = D3 rec n (cL (cf Tryz.f3)) x0 (fun (env : aU) (h : Hp) => bOo rec n (env 0) (env 1) h) :=
 congrArg (fun k => D3 rec n (cL (cf Tryz.f3)) x0 k) (cYf rec n)
theorem s3m (rec : FuncId → List DV → Hp → aH) (n : Nat) : D3 rec n (cf Tryz.f3) x0 (aO CF Tryz.f3) = (fun (env : aU) (h : Hp) => s3 rec n (env 0) (env 1) h) :=
 (cWy rec n).trans
 ((by kernel_rfl))
theorem dCi (rec : FuncId → List DV → Hp → aH) (n : Nat) (args : List DV) (h : Hp) : aG CF rec n 3 args h = s3 rec n (args.getD 0 aT) (args.getD 1 aT) h :=
 (by kernel_rfl : aG CF rec n 3 args h = D3 rec n (cf Tryz.f3) x0 (aO CF Tryz.f3) (aJ args) h).trans ((congrFun (congrFun (s3m rec n) (aJ args)) h).trans (by kernel_rfl))
noncomputable def lW (rec : FuncId → List DV → Hp → aH) (n : Nat) (x1 x5 : DV) (h0 : Hp) : aH :=
 bnd (rec 14 [x5, x1] h0) fun v1 h1 =>
 bnd (rec 19 [x5] h1) fun v2 h2 =>
 bnd (bAx [v2, x1] h2) fun v3 h3 =>
 bnd (aD .neq v1 (.i .i64 (Int.ofNat 0)) h3) fun v4 h4 =>
 bnd (pEq .bool true v4 v3 h4) fun v5 h5 =>
 bnd (gD v5 true (some (v3, h5)) h5) fun v6 h6 =>
 bnd (gD v5 true (gG .not v6 h6) h6) fun v7 h7 =>
 bnd (gD v5 true (some (v7, h7)) h7) fun v8 h8 =>
 bnd (gD v8 false (some (x5, h8)) h8) fun v9 h9 =>
 bnd (gD v8 false (rec 19 [v9] h9) h9) fun v10 h10 =>
 bnd (gD v8 false (some (v1, h10)) h10) fun v11 h11 =>
 bnd (gD v8 false (isF [v10, v11] h11) h11) fun v12 h12 =>
 bnd (gD v5 true (aM v8 (.b true) v12 h12) h12) fun v13 h13 =>
 bnd (aM v5 v13 (.b false) h13) fun v14 h14 =>
 bnd (gD v14 true (rec 16 [] h14) h14) fun v15 h15 =>
 bnd (aM v14 v15 (.b false) h15) fun v16 h16 =>
 some (v16, h16)
noncomputable def aQs (rec : FuncId → List DV → Hp → aH) (n : Nat) (x0 x1 x5 x7 x9 x10 x11 : DV) (h0 : Hp) : aH :=
 bnd (aD .neq x9 x0 h0) fun v33 h33 =>
 bnd (gD v33 false (some (x10, h33)) h33) fun v34 h34 =>
 bnd (gD v33 false (gG .not v34 h34) h34) fun v35 h35 =>
 bnd (aM v33 (.b true) v35 h35) fun v36 h36 =>
 bnd (gD v36 false (some (x5, h36)) h36) fun v37 h37 =>
 bnd (gD v36 false (some (x7, h37)) h37) fun v38 h38 =>
 bnd (gD v36 false (rec 14 [v37, v38] h38) h38) fun v39 h39 =>
 bnd (gD v36 false (some (x11, h39)) h39) fun v40 h40 =>
 bnd (gD v36 false (aD .neq v39 v40 h40) h40) fun v41 h41 =>
 bnd (aM v36 (.b true) v41 h41) fun v42 h42 =>
 aS v42 (
  some ((.b false), h42)) (
  lW rec n x1 x5 h42)
noncomputable def bHh (rec : FuncId → List DV → Hp → aH) (n : Nat) (x0 x1 x5 x7 x9 x10 x11 : DV) (h0 : Hp) : aH :=
 bnd (aD .geq x0 (.i .i64 (Int.negSucc 1073741823)) h0) fun v53 h53 =>
 bnd (gD v53 true (some (x0, h53)) h53) fun v54 h54 =>
 bnd (gD v53 true (aD .leq v54 (.i .i64 (Int.ofNat 1073741823)) h54) h54) fun v55 h55 =>
 bnd (aM v53 v55 (.b false) h55) fun v56 h56 =>
 aS v56 (
  bnd (rec 15 [x5, (.i .i64 (Int.ofNat 7))] h56) fun v57 h57 =>
  aQs rec n x0 x1 x5 x7 x9 x10 v57 h57) (
  aQs rec n x0 x1 x5 x7 x9 x10 x11 h56)
noncomputable def cRa (rec : FuncId → List DV → Hp → aH) (n : Nat) (x0 x1 x5 x7 x9 x10 : DV) (h0 : Hp) : aH :=
 bnd (rec 15 [x5, (.i .i64 (Int.ofNat 8))] h0) fun v63 h63 =>
 bHh rec n x0 x1 x5 x7 x9 x10 v63 h63
noncomputable def cXa (rec : FuncId → List DV → Hp → aH) (n : Nat) (x0 x1 x5 x7 : DV) (h0 : Hp) : aH :=
 bnd (rec 18 [x5, x7] h0) fun v65 h65 =>
 bnd (aC 0 v65 h65) fun v66 h66 =>
 bnd (aC 1 v65 h66) fun v67 h67 =>
 cRa rec n x0 x1 x5 x7 v66 v67 h67
noncomputable def cLz (rec : FuncId → List DV → Hp → aH) (n : Nat) (x0 x1 x5 x7 x48 : DV) (h0 : Hp) : aH :=
 aS x48 (
  cXa rec n x0 x1 x5 x7 h0) (
  lW rec n x1 x5 h0)
noncomputable def cMf (rec : FuncId → List DV → Hp → aH) (n : Nat) (x0 x1 x5 x7 x8 : DV) (h0 : Hp) : aH :=
 bnd (aD .eql x8 (.i .i64 (Int.ofNat 0)) h0) fun v71 h71 =>
 cLz rec n x0 x1 x5 x7 v71 h71
noncomputable def cNj (rec : FuncId → List DV → Hp → aH) (n : Nat) (x0 x1 x5 x7 x8 : DV) (h0 : Hp) : aH :=
 bnd (aD .eql x8 (.i .i64 (Int.ofNat 0)) h0) fun v73 h73 =>
 bnd (aD .geq x0 (.i .i64 (Int.negSucc 1152921504606846975)) h73) fun v74 h74 =>
 bnd (gD v74 true (some (x0, h74)) h74) fun v75 h75 =>
 bnd (gD v74 true (aD .leq v75 (.i .i64 (Int.ofNat 1152921504606846976)) h75) h75) fun v76 h76 =>
 bnd (aM v74 v76 (.b false) h76) fun v77 h77 =>
 bnd (pEq .bool false v73 v77 h77) fun v78 h78 =>
 bnd (gD v78 false (some (x8, h78)) h78) fun v79 h79 =>
 bnd (gD v78 false (aD .neq v79 (.i .i64 (Int.ofNat 0)) h79) h79) fun v80 h80 =>
 bnd (gD v78 false (some (v80, h80)) h80) fun v81 h81 =>
 bnd (gD v81 true (some (x8, h81)) h81) fun v82 h82 =>
 bnd (gD v81 true (aD .neq v82 (.i .i64 (Int.ofNat 2)) h82) h82) fun v83 h83 =>
 bnd (gD v78 false (aM v81 v83 (.b false) h83) h83) fun v84 h84 =>
 bnd (aM v78 (.b true) v84 h84) fun v85 h85 =>
 aS v85 (
  some ((.b false), h85)) (
  cMf rec n x0 x1 x5 x7 x8 h85)
noncomputable def cHx (rec : FuncId → List DV → Hp → aH) (n : Nat) (x0 x1 x5 : DV) (h0 : Hp) : aH :=
 bnd (rec 17 [x5, x0] h0) fun v99 h99 =>
 bnd (aC 0 v99 h99) fun v100 h100 =>
 bnd (aC 1 v99 h100) fun v101 h101 =>
 cNj rec n x0 x1 x5 v100 v101 h101
noncomputable def cIu (rec : FuncId → List DV → Hp → aH) (n : Nat) (x0 x1 x5 x6 : DV) (h0 : Hp) : aH :=
 bnd (pEq (.pointer 83) true x5 .p0 h0) fun v105 h105 =>
 bnd (gD v105 false (some (x6, h105)) h105) fun v106 h106 =>
 bnd (gD v105 false (aD .neq v106 (.i .i64 (Int.ofNat 0)) h106) h106) fun v107 h107 =>
 bnd (aM v105 (.b true) v107 h107) fun v108 h108 =>
 aS v108 (
  some ((.b false), h108)) (
  cHx rec n x0 x1 x5 h108)
noncomputable def cIf (rec : FuncId → List DV → Hp → aH) (n : Nat) (x0 x1 : DV) (h0 : Hp) : aH :=
 bnd (rec 10 [(.i .i64 (Int.ofNat 20000))] h0) fun v113 h113 =>
 bnd (aC 0 v113 h113) fun v114 h114 =>
 bnd (aC 1 v113 h114) fun v115 h115 =>
 cIu rec n x0 x1 v114 v115 h115
noncomputable def s4 (rec : FuncId → List DV → Hp → aH) (n : Nat) (x0 x1 : DV) (h0 : Hp) : aH :=
 cIf rec n x0 x1 h0
noncomputable def D4 (rec : FuncId → List DV → Hp → aH) (n : Nat) (c : Code) (X : Nat → K) (k : K) : K := aP CF rec 103 n c X (aO CF Tryz.f4) k
theorem cUo (rec : FuncId → List DV → Hp → aH) (n : Nat) : D4 rec n (cR (cR (cR (cR (cR (cR (cf Tryz.f4))))))) x0 (aO CF Tryz.f4) = (fun (env : aU) (h : Hp) => lW rec n (env 1) (env 5) h) :=
 (by kernel_rfl)
theorem cMw (rec : FuncId → List DV → Hp → aH) (n : Nat) : D4 rec n (cR (cR (cR (cL (cR (cL (cR (cR (cR (cR (cR (cf Tryz.f4)))))))))))) x0 (fun (env : aU) (h : Hp) => lW rec n (env 1) (env 5) h) = (fun (env : aU) (h : Hp) => aQs rec n (env 0) (env 1) (env 5) (env 7) (env 9) (env 10) (env 11) h) :=
 (by kernel_rfl)
theorem bSx (rec : FuncId → List DV → Hp → aH) (n : Nat) : D4 rec n (cR (cR (cL (cR (cL (cR (cR (cR (cR (cR (cf Tryz.f4))))))))))) x0 (fun (env : aU) (h : Hp) => lW rec n (env 1) (env 5) h) = D4 rec n (cL (cR (cR (cL (cR (cL (cR (cR (cR (cR (cR (cf Tryz.f4)))))))))))) x0 (fun (env : aU) (h : Hp) => aQs rec n (env 0) (env 1) (env 5) (env 7) (env 9) (env 10) (env 11) h) :=
 congrArg (fun k => D4 rec n (cL (cR (cR (cL (cR (cL (cR (cR (cR (cR (cR (cf Tryz.f4)))))))))))) x0 k) (cMw rec n)
theorem cOm (rec : FuncId → List DV → Hp → aH) (n : Nat) : D4 rec n (cR (cR (cL (cR (cL (cR (cR (cR (cR (cR (cf Tryz.f4))))))))))) x0 (fun (env : aU) (h : Hp) => lW rec n (env 1) (env 5) h) = (fun (env : aU) (h : Hp) => bHh rec n (env 0) (env 1) (env 5) (env 7) (env 9) (env 10) (env 11) h) :=
 (bSx rec n).trans
 ((by kernel_rfl))
theorem cHd (rec : FuncId → List DV → Hp → aH) (n : Nat) : D4 rec n (cR (cL (cR (cL (cR (cR (cR (cR (cR (cf Tryz.f4)))))))))) x0 (fun (env : aU) (h : Hp) => lW rec n (env 1) (env 5) h) = D4 rec n (cL (cR (cL (cR (cL (cR (cR (cR (cR (cR (cf Tryz.f4))))))))))) x0 (fun (env : aU) (h : Hp) => bHh rec n (env 0) (env 1) (env 5) (env 7) (env 9) (env 10) (env 11) h) :=
 congrArg (fun k => D4 rec n (cL (cR (cL (cR (cL (cR (cR (cR (cR (cR (cf Tryz.f4))))))))))) x0 k) (cOm rec n)
theorem cSx (rec : FuncId → List DV → Hp → aH) (n : Nat) : D4 rec n (cR (cL (cR (cL (cR (cR (cR (cR (cR (cf Tryz.f4)))))))))) x0 (fun (env : aU) (h : Hp) => lW rec n (env 1) (env 5) h) = (fun (env : aU) (h : Hp) => cRa rec n (env 0) (env 1) (env 5) (env 7) (env 9) (env 10) h) :=
 (cHd rec n).trans
 ((by kernel_rfl))
theorem cMj (rec : FuncId → List DV → Hp → aH) (n : Nat) : D4 rec n (cL (cR (cL (cR (cR (cR (cR (cR (cf Tryz.f4))))))))) x0 (fun (env : aU) (h : Hp) => lW rec n (env 1) (env 5) h) = D4 rec n (cL (cL (cR (cL (cR (cR (cR (cR (cR (cf Tryz.f4)))))))))) x0 (fun (env : aU) (h : Hp) => cRa rec n (env 0) (env 1) (env 5) (env 7) (env 9) (env 10) h) :=
 congrArg (fun k => D4 rec n (cL (cL (cR (cL (cR (cR (cR (cR (cR (cf Tryz.f4)))))))))) x0 k) (cSx rec n)
theorem cVw (rec : FuncId → List DV → Hp → aH) (n : Nat) : D4 rec n (cL (cR (cL (cR (cR (cR (cR (cR (cf Tryz.f4))))))))) x0 (fun (env : aU) (h : Hp) => lW rec n (env 1) (env 5) h) = (fun (env : aU) (h : Hp) => cXa rec n (env 0) (env 1) (env 5) (env 7) h) :=
 (cMj rec n).trans
 ((by kernel_rfl))
theorem cTa (rec : FuncId → List DV → Hp → aH) (n : Nat) : D4 rec n (cR (cL (cR (cR (cR (cR (cR (cf Tryz.f4)))))))) x0 (fun (env : aU) (h : Hp) => lW rec n (env 1) (env 5) h) = (fun (env : aU) (h : Hp) => cLz rec n (env 0) (env 1) (env 5) (env 7) (env 48) h) :=
 (by kernel_rfl : D4 rec n (cR (cL (cR (cR (cR (cR (cR (cf Tryz.f4)))))))) x0 (fun (env : aU) (h : Hp) => lW rec n (env 1) (env 5) h) = (fun (env : aU) (h : Hp) => aS (opr env (cC (cR (cL (cR (cR (cR (cR (cR (cf Tryz.f4)))))))))) (D4 rec n (cL (cR (cL (cR (cR (cR (cR (cR (cf Tryz.f4))))))))) x0 (fun (env : aU) (h : Hp) => lW rec n (env 1) (env 5) h) env h) (D4 rec n (cR (cR (cL (cR (cR (cR (cR (cR (cf Tryz.f4))))))))) x0 (fun (env : aU) (h : Hp) => lW rec n (env 1) (env 5) h) env h))).trans (by rw [cVw rec n]; kernel_rfl)
theorem cKa (rec : FuncId → List DV → Hp → aH) (n : Nat) : D4 rec n (cR (cR (cR (cR (cR (cf Tryz.f4)))))) x0 (aO CF Tryz.f4) = D4 rec n (cL (cR (cR (cR (cR (cR (cf Tryz.f4))))))) x0 (fun (env : aU) (h : Hp) => lW rec n (env 1) (env 5) h) :=
 congrArg (fun k => D4 rec n (cL (cR (cR (cR (cR (cR (cf Tryz.f4))))))) x0 k) (cUo rec n)
theorem cNr (rec : FuncId → List DV → Hp → aH) (n : Nat) : D4 rec n (cL (cR (cR (cR (cR (cR (cf Tryz.f4))))))) x0 (fun (env : aU) (h : Hp) => lW rec n (env 1) (env 5) h) = D4 rec n (cL (cL (cR (cR (cR (cR (cR (cf Tryz.f4)))))))) x0 (fun (env : aU) (h : Hp) => cLz rec n (env 0) (env 1) (env 5) (env 7) (env 48) h) :=
 congrArg (fun k => D4 rec n (cL (cL (cR (cR (cR (cR (cR (cf Tryz.f4)))))))) x0 k) (cTa rec n)
theorem cTp (rec : FuncId → List DV → Hp → aH) (n : Nat) : D4 rec n (cR (cR (cR (cR (cR (cf Tryz.f4)))))) x0 (aO CF Tryz.f4) = (fun (env : aU) (h : Hp) => cMf rec n (env 0) (env 1) (env 5) (env 7) (env 8) h) :=
 (cKa rec n).trans
 ((cNr rec n).trans
 ((by kernel_rfl)))
theorem cRb (rec : FuncId → List DV → Hp → aH) (n : Nat) : D4 rec n (cR (cR (cR (cR (cf Tryz.f4))))) x0 (aO CF Tryz.f4) = D4 rec n (cL (cR (cR (cR (cR (cf Tryz.f4)))))) x0 (fun (env : aU) (h : Hp) => cMf rec n (env 0) (env 1) (env 5) (env 7) (env 8) h) :=
 congrArg (fun k => D4 rec n (cL (cR (cR (cR (cR (cf Tryz.f4)))))) x0 k) (cTp rec n)
theorem cSa (rec : FuncId → List DV → Hp → aH) (n : Nat) : D4 rec n (cR (cR (cR (cR (cf Tryz.f4))))) x0 (aO CF Tryz.f4) = (fun (env : aU) (h : Hp) => cNj rec n (env 0) (env 1) (env 5) (env 7) (env 8) h) :=
 (cRb rec n).trans
 ((by kernel_rfl))
theorem cJx (rec : FuncId → List DV → Hp → aH) (n : Nat) : D4 rec n (cR (cR (cR (cf Tryz.f4)))) x0 (aO CF Tryz.f4) = D4 rec n (cL (cR (cR (cR (cf Tryz.f4))))) x0 (fun (env : aU) (h : Hp) => cNj rec n (env 0) (env 1) (env 5) (env 7) (env 8) h) :=
 congrArg (fun k => D4 rec n (cL (cR (cR (cR (cf Tryz.f4))))) x0 k) (cSa rec n)
theorem cXh (rec : FuncId → List DV → Hp → aH) (n : Nat) : D4 rec n (cR (cR (cR (cf Tryz.f4)))) x0 (aO CF Tryz.f4) = (fun (env : aU) (h : Hp) => cHx rec n (env 0) (env 1) (env 5) h) :=
 (cJx rec n).trans
 ((by kernel_rfl))
theorem cGy (rec : FuncId → List DV → Hp → aH) (n : Nat) : D4 rec n (cR (cR (cf Tryz.f4))) x0 (aO CF Tryz.f4) = D4 rec n (cL (cR (cR (cf Tryz.f4)))) x0 (fun (env : aU) (h : Hp) => cHx rec n (env 0) (env 1) (env 5) h) :=
 congrArg (fun k => D4 rec n (cL (cR (cR (cf Tryz.f4)))) x0 k) (cXh rec n)
theorem cUk (rec : FuncId → List DV → Hp → aH) (n : Nat) : D4 rec n (cR (cR (cf Tryz.f4))) x0 (aO CF Tryz.f4) = (fun (env : aU) (h : Hp) => cIu rec n (env 0) (env 1) (env 5) (env 6) h) :=
 (cGy rec n).trans
 ((by kernel_rfl))
theorem cQg (rec : FuncId → List DV → Hp → aH) (n : Nat) : D4 rec n (cR (cf Tryz.f4)) x0 (aO CF Tryz.f4) = D4 rec n (cL (cR (cf Tryz.f4))) x0 (fun (env : aU) (h : Hp) => cIu rec n (env 0) (env 1) (env 5) (env 6) h) :=
 congrArg (fun k => D4 rec n (cL (cR (cf Tryz.f4))) x0 k) (cUk rec n)
theorem cWl (rec : FuncId → List DV → Hp → aH) (n : Nat) : D4 rec n (cR (cf Tryz.f4)) x0 (aO CF Tryz.f4) = (fun (env : aU) (h : Hp) => cIf rec n (env 0) (env 1) h) :=
 (cQg rec n).trans
 ((by kernel_rfl))
theorem cVl (rec : FuncId → List DV → Hp → aH) (n : Nat) : D4 rec n (cf Tryz.f4) x0 (aO CF Tryz.f4) = D4 rec n (cL (cf Tryz.f4)) x0 (fun (env : aU) (h : Hp) => cIf rec n (env 0) (env 1) h) :=
 congrArg (fun k => D4 rec n (cL (cf Tryz.f4)) x0 k) (cWl rec n)
theorem s4m (rec : FuncId → List DV → Hp → aH) (n : Nat) : D4 rec n (cf Tryz.f4) x0 (aO CF Tryz.f4) = (fun (env : aU) (h : Hp) => s4 rec n (env 0) (env 1) h) :=
 (cVl rec n).trans
 ((by kernel_rfl))
theorem dDu (rec : FuncId → List DV → Hp → aH) (n : Nat) (args : List DV) (h : Hp) : aG CF rec n 4 args h = s4 rec n (args.getD 0 aT) (args.getD 1 aT) h :=
 (by kernel_rfl : aG CF rec n 4 args h = D4 rec n (cf Tryz.f4) x0 (aO CF Tryz.f4) (aJ args) h).trans ((congrFun (congrFun (s4m rec n) (aJ args)) h).trans (by kernel_rfl))
noncomputable def s12 (rec : FuncId → List DV → Hp → aH) (n : Nat) (x0 x1 : DV) (h0 : Hp) : aH :=
 bnd (cU x1 h0) fun v1 h1 =>
 bnd (aD .gtr v1 (.i .i64 (Int.ofNat 250)) h1) fun v2 h2 =>
 aS v2 (
  some (.t [(.i .i64 (Int.ofNat 0)), (.i .i64 (Int.ofNat 1))], h2)) (
  bnd (rec 15 [x0, (.i .i64 (Int.ofNat 10))] h2) fun v3 h3 =>
  bnd (rec 49 [x0, v3, x1] h3) fun v4 h4 =>
  bnd (aC 0 v4 h4) fun v5 h5 =>
  bnd (aC 1 v4 h5) fun v6 h6 =>
  some (.t [v5, v6], h6))
noncomputable def D12 (rec : FuncId → List DV → Hp → aH) (n : Nat) (c : Code) (X : Nat → K) (k : K) : K := aP CF rec 16 n c X (aO CF Tryz.f12) k
theorem cZp (rec : FuncId → List DV → Hp → aH) (n : Nat) : D12 rec n (cf Tryz.f12) x0 (aO CF Tryz.f12) = (fun (env : aU) (h : Hp) => s12 rec n (env 0) (env 1) h) :=
 (by kernel_rfl)
theorem cSn (rec : FuncId → List DV → Hp → aH) (n : Nat) (args : List DV) (h : Hp) : aG CF rec n 12 args h = s12 rec n (args.getD 0 aT) (args.getD 1 aT) h :=
 (by kernel_rfl : aG CF rec n 12 args h = D12 rec n (cf Tryz.f12) x0 (aO CF Tryz.f12) (aJ args) h).trans ((congrFun (congrFun (cZp rec n) (aJ args)) h).trans (by kernel_rfl))
noncomputable def s18 (rec : FuncId → List DV → Hp → aH) (n : Nat) (x0 x1 : DV) (h0 : Hp) : aH :=
 bnd (gA [x1] h0) fun v1 h1 =>
 aS v1 (
  bnd (kT [x1] h1) fun v2 h2 =>
  some (.t [v2, (.b true)], h2)) (
  bnd (aQ x0 h1) fun v3 h3 =>
  bnd (aB 0 v3 h3) fun v4 h4 =>
  bnd (aA v4 h4) fun v5 h5 =>
  bnd (isF [v5, x1] h5) fun v6 h6 =>
  bnd (gD v6 true (some (x0, h6)) h6) fun v7 h7 =>
  bnd (gD v6 true (aQ v7 h7) h7) fun v8 h8 =>
  bnd (gD v6 true (aB 0 v8 h8) h8) fun v9 h9 =>
  bnd (gD v6 true (aA v9 h9) h9) fun v10 h10 =>
  bnd (gD v6 true (some (x1, h10)) h10) fun v11 h11 =>
  bnd (gD v6 true (iU [v10, v11] h11) h11) fun v12 h12 =>
  bnd (gD v6 true (some (x0, h12)) h12) fun v13 h13 =>
  bnd (gD v6 true (rec 15 [v13, (.i .i64 (Int.ofNat 8))] h13) h13) fun v14 h14 =>
  bnd (gD v6 true (aD .eql v12 v14 h14) h14) fun v15 h15 =>
  bnd (aM v6 v15 (.b false) h15) fun v16 h16 =>
  bnd (gD v16 true (some (x0, h16)) h16) fun v17 h17 =>
  bnd (gD v16 true (aQ v17 h17) h17) fun v18 h18 =>
  bnd (gD v16 true (aB 0 v18 h18) h18) fun v19 h19 =>
  bnd (gD v16 true (aA v19 h19) h19) fun v20 h20 =>
  bnd (gD v16 true (some (x1, h20)) h20) fun v21 h21 =>
  bnd (gD v16 true (iM [v20, v21] h21) h21) fun v22 h22 =>
  bnd (gD v16 true (aD .eql v22 (.i .i64 (Int.ofNat 1)) h22) h22) fun v23 h23 =>
  bnd (aM v16 v23 (.b false) h23) fun v24 h24 =>
  aS v24 (
   bnd (rec 53 [x0, x1, (.i .i64 (Int.ofNat 0))] h24) fun v25 h25 =>
   some (.t [v25, (.b true)], h25)) (
   some (.t [(.i .i64 (Int.ofNat 0)), (.b false)], h24)))
noncomputable def D18 (rec : FuncId → List DV → Hp → aH) (n : Nat) (c : Code) (X : Nat → K) (k : K) : K := aP CF rec 41 n c X (aO CF Tryz.f18) k
theorem dBl (rec : FuncId → List DV → Hp → aH) (n : Nat) : D18 rec n (cf Tryz.f18) x0 (aO CF Tryz.f18) = (fun (env : aU) (h : Hp) => s18 rec n (env 0) (env 1) h) :=
 (by kernel_rfl)
theorem dDs (rec : FuncId → List DV → Hp → aH) (n : Nat) (args : List DV) (h : Hp) : aG CF rec n 18 args h = s18 rec n (args.getD 0 aT) (args.getD 1 aT) h :=
 (by kernel_rfl : aG CF rec n 18 args h = D18 rec n (cf Tryz.f18) x0 (aO CF Tryz.f18) (aJ args) h).trans ((congrFun (congrFun (dBl rec n) (aJ args)) h).trans (by kernel_rfl))
noncomputable def s19 (rec : FuncId → List DV → Hp → aH) (n : Nat) (x0 : DV) (h0 : Hp) : aH :=
 bnd (aQ x0 h0) fun v1 h1 =>
 bnd (aB 0 v1 h1) fun v2 h2 =>
 bnd (aA v2 h2) fun v3 h3 =>
 some (v3, h3)
noncomputable def D19 (rec : FuncId → List DV → Hp → aH) (n : Nat) (c : Code) (X : Nat → K) (k : K) : K := aP CF rec 7 n c X (aO CF Tryz.f19) k
theorem dAy (rec : FuncId → List DV → Hp → aH) (n : Nat) : D19 rec n (cf Tryz.f19) x0 (aO CF Tryz.f19) = (fun (env : aU) (h : Hp) => s19 rec n (env 0) h) :=
 (by kernel_rfl)
theorem dDt (rec : FuncId → List DV → Hp → aH) (n : Nat) (args : List DV) (h : Hp) : aG CF rec n 19 args h = s19 rec n (args.getD 0 aT) h :=
 (by kernel_rfl : aG CF rec n 19 args h = D19 rec n (cf Tryz.f19) x0 (aO CF Tryz.f19) (aJ args) h).trans ((congrFun (congrFun (dAy rec n) (aJ args)) h).trans (by kernel_rfl))
end Go.Dd

namespace Go.Dd
open Go.Proofs
theorem px0 (a b : DV) (h : Hp) : aC 0 (.t [a, b]) h = some (a, h) := Eq.trans rfl rfl
theorem px1 (a b : DV) (h : Hp) : aC 1 (.t [a, b]) h = some (b, h) := Eq.trans rfl rfl
theorem cWt (p q : Bool) (h : Hp) : pEq .bool false (.b p) (.b q) h = some (.b (p != q), h) := by cases p <;> cases q <;> rfl
theorem cIm {a : Nat} (h : a ≠ 0) : Nat.beq a 0 = false := by
 cases hb : Nat.beq a 0 with
 | true => exact absurd (Nat.eq_of_beq_eq_true hb) h
 | false => rfl
section
theorem Wd.fmt {h : Hp} {M : MemV} {R : List Int} {es : List (DV × DV)} (W : Wd h M R es) (G : Good M) {o : Int} (ho : cD o M.pl ≠ 0) {hd : Nat} (hh : M.t.get (cD o M.pl) = .ofNat hd) : iM [.p (bG 3) 0, .i .i64 o] h = some (.i .i64 (.ofNat (hd % 4)), h) := by
 obtain ⟨hd', e, _, _, _, hk, _⟩ := W.head G ho
 rw [hh] at e
 cases e
 simp only [iM, jP, W.mem, hk]
 rfl
theorem Wd.fields {h : Hp} {M : MemV} {R : List Int} {es : List (DV × DV)} (W : Wd h M R es) (G : Good M) {o : Int} (ho : cD o M.pl ≠ 0) {hd : Nat} (hh : M.t.get (cD o M.pl) = .ofNat hd) : gX [.p (bG 3) 0, .i .i64 o] h = some (.i .i64 (.ofNat (hd / 4)), h) := by
 obtain ⟨hd', e, _, _, _, hk, _⟩ := W.head G ho
 rw [hh] at e
 cases e
 simp only [gX, jP, W.mem, hk]
 rfl
theorem Wd.get {h : Hp} {M : MemV} {R : List Int} {es : List (DV × DV)} (W : Wd h M R es) (G : Good M) {o : Int} (ho : cD o M.pl ≠ 0) {hd i : Nat} (hh : M.t.get (cD o M.pl) = .ofNat hd) (hi : i < hd / 4) :
  aOb [.p (bG 3) 0, .i .i64 o, .i .i64 (.ofNat i)] h = some (.t [iD (M.t.get (cD o M.pl + 3 + i)), .i .i64 (.ofNat 0)], h) := by
 obtain ⟨hd', e, _, _, h4, hk, _⟩ := W.head G ho
 rw [hh] at e
 cases e
 have h5 := G.le
 have b3 : Nat.ble (Nat.div hd 4) i = false := by rw [kO]; exact decide_eq_false (show ¬ hd / 4 ≤ i by omega)
 have b4 : Nat.blt (Nat.add (Nat.add (cD o M.pl) 3) i) M.n = true := by rw [iJ]; exact decide_eq_true (show cD o M.pl + 3 + i < M.n by omega)
 simp only [aOb, jP, W.mem, gU, cIm ho, cond_false, hk, b3, b4, cond_true]
 rfl
theorem Wd.get53 {h : Hp} {M : MemV} {R : List Int} {es : List (DV × DV)} (W : Wd h M R es) (G : Good M) {o : Int} (ho : cD o M.pl ≠ 0) {hd i : Nat} (hh : M.t.get (cD o M.pl) = .ofNat hd) (hi : i < hd / 4) (n : Nat) :
  jR (n + 1) 53 [.p (bG 7) 0, .i .i64 o, .i .i64 (.ofNat i)] h = some (iD (M.t.get (cD o M.pl + 3 + i)), h) := by
 rw [shS, cGb]
 unfold s53
 simp only [g0, g1, g2, kY, fld, bA, W.l00, W.get G ho hh hi, px0, px1]
end
end Go.Dd

namespace Go.Dd
open Go.Proofs
theorem tX {g : FuncId} (h16 : Nat.beq g 16 = false) (h10 : Nat.beq g 10 = false) (args : List DV) (h : Hp) : iY g args h = jR 900 g args h := by
 unfold iY
 rw [h16, cond_false, aQk, h10, cond_false]
theorem cFg (h : Hp) : iY 16 [] h = some (.b true, h) := rfl
theorem cCr : iY 10 [.i .i64 (.ofNat 20000)] lE = some (.t [.p (bG 7) 0, .i .i64 (.ofNat 0)], hN) := by kernel_rfl
theorem cCc (args : List DV) (h : Hp) : iY 11 args h = jR 900 11 args h := tX rfl rfl args h
theorem cCv (args : List DV) (h : Hp) : iY 12 args h = jR 900 12 args h := tX rfl rfl args h
theorem yT (args : List DV) (h : Hp) : iY 13 args h = jR 900 13 args h := tX rfl rfl args h
theorem aAz (args : List DV) (h : Hp) : iY 14 args h = jR 900 14 args h := tX rfl rfl args h
theorem aGt (args : List DV) (h : Hp) : iY 15 args h = jR 900 15 args h := tX rfl rfl args h
section
end
end Go.Dd

namespace Go.Dd
open Go.Proofs
def GrS (x : DV) (l : List DV) (lo : Nat) (h : Hp) : Prop := (x = .l0 ∧ l = []) ∨ ∃ b, x = .l b 0 l.length l.length ∧ h.bl.get b = some (.row (.gr 1) l) ∧ lo ≤ b.toNat ∧ b.toNat < h.next.toNat
structure Lo (lo : Nat) (h h' : Hp) : Prop where
 next : h.next.toNat ≤ h'.next.toNat
 get : ∀ b : Pos, b.toNat < lo → h'.bl.get b = h.bl.get b
theorem Lo.refl (lo : Nat) (h : Hp) : Lo lo h h := ⟨Nat.le_refl _, fun _ _ => rfl⟩
theorem Lo.trans {lo : Nat} {a b c : Hp} (u : Lo lo a b) (v : Lo lo b c) : Lo lo a c := ⟨Nat.le_trans u.next v.next, fun p h => (v.get p h).trans (u.get p h)⟩
theorem Lo.up {h h' : Hp} (u : Lo h.next.toNat h h') : Up h h' := ⟨u.next, fun b _ h2 => u.get b h2⟩
theorem Wd.lo {h h' : Hp} {M : MemV} {R : List Int} {es : List (DV × DV)} (W : Wd h M R es) (u : Lo h.next.toNat h h') : Wd h' M R es := W.up u.up fun b hb => u.get b (Nat.lt_of_lt_of_le hb W.nx)
theorem aJf : ∀ l : List DV, (∀ v ∈ l, v.one = true) → lJ l.length l = some l := vK
theorem GrS.app {x : DV} {l : List DV} {lo : Nat} {h : Hp} (S : GrS x l lo h) (hlo : lo ≤ h.next.toNat) (hl : ∀ v ∈ l, v.one = true) {z v : DV} (hz : dT v = some [v]) (hv : v.one = true) {bytes : Nat} (hb : (l.length + 1) * bytes ≤ lB) :
  ∃ y g, aL [z] 1 [(0, 1, v)] h = some (y, g) ∧ ∃ x' h', aX 1 bytes x y g = some (x', h') ∧ GrS x' (l ++ [v]) lo h' ∧ Lo lo h h' := by
 refine ⟨.l h.next 0 1 1, ⟨h.next.succ, Tr.set (.row .ex [v]) h.next h.bl⟩, ?_, ?_⟩
 ·simp [aL, kN, hz]
 ·have src : qI 1 (.l h.next 0 1 1) ⟨h.next.succ, Tr.set (.row .ex [v]) h.next h.bl⟩ = some (1, [v]) := by
   have : cellsAt h.next 0 (1 * 1) ⟨h.next.succ, Tr.set (.row .ex [v]) h.next h.bl⟩ = some [v] := by
    simp [cellsAt, rowOf, dDw, lJ, hv]
   simp only [qI, this]
  have ns := dDz h.next
  have ns2 := dDz h.next.succ
  rcases S with ⟨rfl, rfl⟩ | ⟨b, rfl, hbg, h1, h2⟩
  ·refine ⟨.l h.next.succ 0 1 1, ⟨h.next.succ.succ, Tr.set (.row (.gr 1) [v]) h.next.succ (Tr.set (.row .ex [v]) h.next h.bl)⟩, ?_, ?_, ?_⟩
   ·unfold aX
    rw [src]
    dsimp only
    rw [if_neg (by simp), if_pos (by simpa using hb)]
   ·exact .inr ⟨h.next.succ, rfl, dDw _ _ _, by omega, by show _ < h.next.succ.succ.toNat; omega⟩
   ·refine ⟨by show _ ≤ h.next.succ.succ.toNat; omega, fun p hp => ?_⟩
    show (Tr.set _ h.next.succ (Tr.set _ h.next h.bl)).get p = _
    rw [dDv _ _ _ _ (fun e => by subst e; omega), dDv _ _ _ _ (fun e => by subst e; omega)]
  ·have hne : b ≠ h.next := fun e => by subst e; omega
   have hget : (Tr.set (.row .ex [v]) h.next h.bl).get b = some (.row (.gr 1) l) := by rw [dDv _ _ _ _ hne]; exact hbg
   have hcells : cellsAt b 0 (l.length * 1) ⟨h.next.succ, Tr.set (.row .ex [v]) h.next h.bl⟩ = some l := by
    simp only [cellsAt, rowOf, hget, List.drop_zero, Nat.mul_one]
    exact aJf l hl
   refine ⟨.l h.next.succ 0 (l.length + 1) (l.length + 1), ⟨h.next.succ.succ, Tr.set (.row (.gr 1) (l ++ [v])) h.next.succ (Tr.set (.row .sp (bN 0 l)) b (Tr.set (.row .ex [v]) h.next h.bl))⟩, ?_, ?_, ?_⟩
   ·unfold aX
    rw [src]
    dsimp only
    rw [if_neg (by omega), hget, hcells]
    dsimp only
    rw [if_pos hb, if_pos (by simp)]
   ·exact .inr ⟨h.next.succ, by simp, dDw _ _ _, by omega, by show _ < h.next.succ.succ.toNat; omega⟩
   ·refine ⟨by show _ ≤ h.next.succ.succ.toNat; omega, fun p hp => ?_⟩
    show (Tr.set _ h.next.succ (Tr.set _ b (Tr.set _ h.next h.bl))).get p = _
    rw [dDv _ _ _ _ (fun e => by subst e; omega), dDv _ _ _ _ (fun e => by subst e; omega), dDv _ _ _ _ (fun e => by subst e; omega)]
theorem aIz (k : IntKind) (hk : k = .i64 ∨ k = .u8) {c : Nat} (hc : c < 256) : k.wrap (c : Int) = (c : Int) := by
 rcases hk with rfl | rfl
 ·exact iR _ (by omega)
 ·have : (IntKind.u8.wrap (c : Int)) = (c : Int) % 256 := by
   simp [IntKind.wrap, IntKind.bits, IntKind.signed]
  rw [this]
  omega
end Go.Dd

namespace Go.Dd
open Go.Proofs
def iN (c : Nat) : DV := .i .i64 (Int.ofNat c)
def uN (c : Nat) : DV := .i .u8 (Int.ofNat c)
theorem cQc (l : List Nat) : ∀ v ∈ l.map iN, v.one = true := by
 intro v hv
 obtain ⟨c, _, rfl⟩ := List.mem_map.1 hv
 rfl
theorem bRb (l : List Nat) : ∀ v ∈ l.map uN, v.one = true := by
 intro v hv
 obtain ⟨c, _, rfl⟩ := List.mem_map.1 hv
 rfl
theorem wA {rec : FuncId → List DV → Hp → aH} {n lo : Nat} {x0 x1 : DV} : ∀ (rest done : List Nat) (m : Nat) (x : DV) (h : Hp), GrS x (done.map iN) lo h → lo ≤ h.next.toNat → (∀ c ∈ done ++ rest, c < 256) → (done ++ rest).length ≤ 300 → rest.length < m →
  ∃ x' h', mP rec n m x0 x1 (.s (done ++ rest)) x (.i .i64 ((done ++ rest).length : Int)) (.i .i64 (Int.ofNat done.length)) h = eY rec n x0 x1 x' h' ∧ GrS x' ((done ++ rest).map iN) lo h' ∧ Lo lo h h'
 | [], done, m + 1, x, h, S, hlo, hc, hl, hm => by
  refine ⟨x, h, ?_, by rw [List.append_nil]; exact S, Lo.refl lo h⟩
  show mM rec n (mP rec n m) _ _ _ _ _ _ h = _
  unfold mM
  have hl : decide (Int.ofNat done.length < ((done ++ []).length : Int)) = false := by simp
  simp only [dY, bA, hl, cF]
 | c :: rest, done, m + 1, x, h, S, hlo, hc, hl, hm => by
  have hc1 : c < 256 := hc c (by simp)
  obtain ⟨y, g, e1, x', h', e2, S', L'⟩ := S.app hlo (cQc done) (z := .i .i64 (Int.ofNat 0)) (v := iN c) rfl rfl (bytes := 8) (by simp at hl ⊢; unfold lB; omega)
  have S2 : GrS x' ((done ++ [c]).map iN) lo h' := by rw [List.map_append]; exact S'
  obtain ⟨x2, h2, e3, S3, L3⟩ := wA (rec := rec) (n := n) (lo := lo) (x0 := x0) (x1 := x1) rest (done ++ [c]) m x' h' S2 (Nat.le_trans hlo L'.next) (by simpa using hc) (by simpa using hl) (by simp at hm; omega)
  refine ⟨x2, h2, ?_, by simpa using S3, L'.trans L3⟩
  rw [← e3]
  show mM rec n (mP rec n m) _ _ _ _ _ _ h = _
  unfold mM
  have hl1 : decide (Int.ofNat done.length < ((done ++ c :: rest).length : Int)) = true := by simp; omega
  have hix : eS (.s (done ++ c :: rest)) (.i .i64 (Int.ofNat done.length)) h = some (.i .u8 (c : Int), h) := by
   show (if (0 : Int) ≤ Int.ofNat done.length then (match (done ++ c :: rest)[(Int.ofNat done.length).toNat]? with
    | some c => some (DV.i .u8 (c : Int), h)
    | none => none) else none) = _
   rw [if_pos (by simp), show (Int.ofNat done.length).toNat = done.length from rfl]
   simp
  have hcv : dH .i64 (.i .u8 (c : Int)) h = some (iN c, h) := by
   show some (DV.i .i64 (IntKind.i64.wrap (c : Int)), h) = _
   rw [aIz .i64 (.inl rfl) hc1]
   rfl
  have hadd : aD .add (.i .i64 (Int.ofNat done.length)) (.i .i64 (Int.ofNat 1)) h' = some (.i .i64 (Int.ofNat (done ++ [c]).length), h') := by
   rw [kB _ _ _ (by simp at hl ⊢; omega)]
   simp
  simp only [dY, bA, hl1, cO, hix, hcv, e1, e2, hadd]
  simp
structure TxO (M : MemV) (cls o : Int) (s : List Nat) : Prop where
 at0 : cD o M.pl ≠ 0
 hd : M.t.get (cD o M.pl) = .ofNat (s.length * 4 + 2)
 cls : M.t.get (cD o M.pl + 1) = cls
 by8 : ∀ c ∈ s, c < 256
 len : s.length ≤ 256
 get : ∀ i c, s[i]? = some c → M.t.get (cD o M.pl + 3 + i) = .ofNat c
theorem Grown.txo {M M' : MemV} {f : Nat} {k : Int} {l : List Int} (g : Grown M M' f k l) (G : Good M) {cls o : Int} {s : List Nat} (T : TxO M cls o s) : TxO M' cls o s := by
 have h1 := G.le
 have h3 := G.hi
 have hp : M.pl.get (cD o M.pl) ≠ 0 := by
  rcases kC o M.pl with e | ⟨e, _⟩
  ·exact absurd e T.at0
  ·rw [e]; exact (atN_pos.1 T.at0).2
 obtain ⟨_, hd, e1, e2, e3, _⟩ := G.ob _ hp
 rw [T.hd] at e1
 cases e1
 have ea : cD o M'.pl = cD o M.pl := by rw [g.pl]; exact pR (by omega) T.at0
 refine ⟨by rw [ea]; exact T.at0, by rw [ea, g.old _ (by omega)]; exact T.hd, by rw [ea, g.old _ (by omega)]; exact T.cls, T.by8, T.len, fun i c hi => ?_⟩
 have hil : i < s.length := by
  rcases Nat.lt_or_ge i s.length with q | q
  ·exact q
  ·rw [List.getElem?_eq_none q] at hi; cases hi
 rw [ea, g.old _ (by omega)]
 exact T.get i c hi
theorem Grown.new_txo {M M' : MemV} {cls : Int} {s : List Nat} (g : Grown M M' 2 cls (s.map Int.ofNat)) (G : Good M) (hs : ∀ c ∈ s, c < 256) (hl : s.length ≤ 256) : TxO M' cls (.ofNat (M.fin * 2)) s := by
 have h1 := G.le
 have h2 := G.lo
 have h3 := G.hi
 have ha : cD (.ofNat (M.fin * 2)) M'.pl = M.fin := by rw [g.pl]; exact aKz h2 (by omega)
 refine ⟨by rw [ha]; omega, by rw [ha, g.hd]; simp, by rw [ha, g.cl], hs, hl, fun i c hi => ?_⟩
 rw [ha]
 exact g.new i _ (by rw [List.getElem?_map, hi]; rfl)
section
variable {h : Hp} {M : MemV} {R : List Int} {es : List (DV × DV)}
theorem Wd.bytes49 (W : Wd h M R es) (G : Good M) {cls : Int} (hc : cD cls M.pl ≠ 0) {s : List Nat} (hs : ∀ c ∈ s, c < 256) (h256 : s.length ≤ 256) (room : M.fin + s.length + 3 ≤ M.n) {n : Nat} (hn : 300 < n) :
  ∃ h' M', jR (n + 2) 49 [.p (bG 7) 0, .i .i64 cls, .s s] h = some (.t [.i .i64 (.ofNat (M.fin * 2)), .i .i64 (.ofNat 0)], h') ∧ Wd h' M' R es ∧ Up h h' ∧ Grown M M' 2 cls (s.map Int.ofNat) := by
 obtain ⟨x', h1, e1, S1, L1⟩ := wA (rec := jR (n + 1)) (n := n + 1) (lo := h.next.toNat) (x0 := .p (bG 7) 0) (x1 := .i .i64 cls) s [] (n + 1) .l0 h (.inl ⟨rfl, rfl⟩) (Nat.le_refl _) (by simpa using hs) (by simp; omega) (by omega)
 have W1 := W.lo L1
 have S2 : SlI x' (s.map Int.ofNat) h1 := by
  have em : (([] : List Nat) ++ s).map iN = (s.map Int.ofNat).map iD := by simp [iN, iD]
  rcases S1 with ⟨rfl, e⟩ | ⟨b, e, hb, h2, h3⟩
  ·refine .inl ⟨rfl, ?_⟩
   have : s = [] := by simpa using e
   rw [this]; rfl
  ·refine .inr ⟨b, s.length, .gr 1, by rw [e]; simp, by rw [hb, em], Nat.le_trans W.nx h2, h3⟩
 obtain ⟨h', M', e2, W2, U2, _, g⟩ := W1.make61 G hc (f := 2) (by omega) S2 (by simpa using h256) (by simpa using room) (fun v hv => by
  obtain ⟨c, hc', rfl⟩ := List.mem_map.1 hv
  have := hs c hc'
  show 0 ≤ Int.ofNat c ∧ Int.ofNat c ≤ 255
  simp; omega) (n := n) (by omega)
 refine ⟨h', M', ?_, W2, L1.up.trans U2, g⟩
 rw [shS, cGp]
 unfold s49 aQb aUo aSo bDv
 have el : cU (.s s) h = some (.i .i64 (s.length : Int), h) := rfl
 simp only [g0, g1, g2, el, bA]
 refine Eq.trans e1 ?_
 unfold eY
 rw [e2]
 simp only [bA, px0, px1]
end
theorem xP {R : List Int} {es : List (DV × DV)} {M : MemV} {k : Nat} {cls o : Int} {s : List Nat} {b0 : Hp} (W0 : Wd b0 M R es) (G : Good M) (T : TxO M cls o s) : ∀ (rest done : List Nat) (m : Nat) (x : DV) (h : Hp), s = done ++ rest → Lo b0.next.toNat b0 h → GrS x (done.map uN) b0.next.toNat h → rest.length < m →
  ∃ h', mG (jR (k + 1)) (k + 1) m (.p (bG 7) 0) (.i .i64 o) x (.i .i64 (s.length : Int)) (.i .i64 (Int.ofNat done.length)) h = some (.t [.s s, .b true], h') ∧ Lo b0.next.toNat b0 h'
 | [], done, m + 1, x, h, es', L0, S, hm => by
  refine ⟨h, ?_, L0⟩
  show nE (jR (k + 1)) (k + 1) (mG (jR (k + 1)) (k + 1) m) _ _ _ _ _ h = _
  unfold nE
  have hl : decide (Int.ofNat done.length < (s.length : Int)) = false := by rw [es']; simp
  simp only [dY, bA, hl, cF]
  unfold fD
  have hd : s = done := by rw [es']; simp
  have hb : fE x h = some (.s s, h) := by
   rcases S with ⟨rfl, e⟩ | ⟨b, e, hb, h2, h3⟩
   ·have : done = [] := by simpa using e
    rw [hd, this]; rfl
   ·rw [e]
    have hby : ∀ l : List Nat, (∀ c ∈ l, c < 256) → mQ (l.map uN) = some l := by
     intro l
     induction l with
     | nil => intro _; rfl
     | cons c l ih =>
      intro hc
      show (if c < 256 then (mQ (l.map uN)).map (c :: ·) else none) = _
      rw [if_pos (hc c (by simp)), ih (fun d hd => hc d (by simp [hd]))]
      rfl
    have hcells : cellsAt b 0 (done.map uN).length h = some (done.map uN) := by
     simp only [cellsAt, rowOf, hb, List.drop_zero]
     exact aJf _ (bRb done)
    simp only [fE, hcells, hby done (by rw [← hd]; exact T.by8), hd]
  simp only [hb, bA]
 | c :: rest, done, m + 1, x, h, es', L0, S, hm => by
  have W := W0.lo L0
  have hc1 : c < 256 := T.by8 c (by rw [es']; simp)
  have hgc : s[done.length]? = some c := by rw [es']; simp
  have hlen := T.len
  have hlt : done.length < s.length := by rw [es']; simp
  obtain ⟨y, g, e1, x', h', e2, S', L'⟩ := S.app L0.next (bRb done) (z := .i .u8 (Int.ofNat 0)) (v := uN c) rfl rfl (bytes := 1) (by simp; unfold lB; omega)
  have S2 : GrS x' ((done ++ [c]).map uN) b0.next.toNat h' := by rw [List.map_append]; exact S'
  obtain ⟨h2, e3, L3⟩ := xP (k := k) W0 G T rest (done ++ [c]) m x' h' (by rw [es']; simp) (L0.trans L') S2 (by simp at hm; omega)
  refine ⟨h2, ?_, L3⟩
  rw [← e3]
  show nE (jR (k + 1)) (k + 1) (mG (jR (k + 1)) (k + 1) m) _ _ _ _ _ h = _
  unfold nE
  have hl1 : decide (Int.ofNat done.length < (s.length : Int)) = true := by simp; omega
  have hg := W.get53 G T.at0 (i := done.length) T.hd (by omega) k
  rw [T.get _ c hgc] at hg
  have hcv : dH .u8 (.i .i64 (Int.ofNat c)) h = some (uN c, h) := by
   show some (DV.i .u8 (IntKind.u8.wrap (c : Int)), h) = _
   rw [aIz .u8 (.inr rfl) hc1]
   rfl
  have hadd : aD .add (.i .i64 (Int.ofNat done.length)) (.i .i64 (Int.ofNat 1)) h' = some (.i .i64 (Int.ofNat (done ++ [c]).length), h') := by
   rw [kB _ _ _ (by simp; omega)]
   simp
  simp only [dY, bA, hl1, cO, hg, hcv, e1, e2, hadd]
theorem Wd.text {h : Hp} {M : MemV} {R : List Int} {es : List (DV × DV)} (W : Wd h M R es) (G : Good M) {cls o : Int} {s : List Nat} (T : TxO M cls o s) (hk : cls = R.getD 12 0 ∨ cls = R.getD 13 0) {k : Nat} (hn : 300 < k) :
  ∃ h', jR (k + 2) 13 [.p (bG 7) 0, .i .i64 o] h = some (.t [.s s, .b true], h') ∧ Wd h' M R es ∧ Up h h' := by
 obtain ⟨h', e1, L1⟩ := xP (k := k) W G T s [] (k + 1) .l0 h rfl (Lo.refl _ h) (.inl ⟨rfl, rfl⟩) (by have := T.len; omega)
 refine ⟨h', ?_, W.lo L1, L1.up⟩
 rw [shS, cGa]
 unfold s13 aSh aQh
 have hi : (!(Nat.beq (cD o M.pl) 0)) = true := by rw [cIm T.at0]; rfl
 have ef := W.fmt G T.at0 T.hd
 rw [show (s.length * 4 + 2) % 4 = 2 by omega] at ef
 have e9 : (Int.ofNat 2 != Int.ofNat 2) = false := rfl
 have efs := W.fields G T.at0 T.hd
 rw [show (s.length * 4 + 2) / 4 = s.length by omega] at efs
 have fin : aHt (jR (k + 1)) (k + 1) (.p (bG 7) 0) (.i .i64 o) h = some (.t [.s s, .b true], h') := by
  unfold aHt aUj aTv bRv
  simp only [kY, fld, bA, W.l00, efs]
  exact e1
 have zn : ∀ y : Int, (y != y) = false := fun y => by simp
 by_cases hc : cls = R.getD 12 0
 ·simp only [g0, g1, kY, fld, bA, W.l00, W.cls G T.at0, T.cls, W.is, hi, jJ, Bool.not_true, gT, W.known (show 10 < 16 by omega), show 2 + 10 = 12 from rfl, hc, fZ, zn, uS, bWe, cN, ef, e9, cF]
  exact fin
 ·have h13 : cls = R.getD 13 0 := hk.resolve_left hc
  have z1 : (cls != R.getD 12 0) = true := by simpa using hc
  simp only [g0, g1, kY, fld, bA, W.l00, W.cls G T.at0, T.cls, W.is, hi, jJ, Bool.not_true, gT, aLx, W.known (show 10 < 16 by omega), W.known (show 11 < 16 by omega), show 2 + 10 = 12 from rfl, show 2 + 11 = 13 from rfl, fZ, z1, dC, cN, ← h13, zn, ef, e9, cF]
  exact fin
end Go.Dd

