/- A part of the proof: HD HE OC T0 TL TM TN TP TQ TR HF HG HI W1 W2 W3 W4 W5 LT0 LT1 LT2 LT3 RH R12 NJ W6 FG0 W7 W8 TX1 XL6 FG1 FG2 FG3 FG4 FG5 FG6: each text has a comment of its own. -/
import Derived.Test.YtkdndgecldkiiaaGreatPk4
import Derived.Test.YtkdndgecldkiiaaGreatPk5
import Derived.Test.YtkdndgecldkiiaaGreatPk6
import Derived.Test.YtkdndgecldkiiaaGreatPk7
import Derived.Lib.Bytealg
set_option linter.unusedVariables false
set_option linter.unusedSimpArgs false
set_option linter.constructorNameAsVariable false
set_option maxRecDepth 100000
namespace Go.Dd
theorem kM : ∀ p q : Pos, lJ p q = true → p = q
 | .h, .h, _ => rfl
 | .h, .o q, h => by cases h
 | .h, .i q, h => by cases h
 | .o p, .h, h => by cases h
 | .o p, .o q, h => by rw [kM p q h]
 | .o p, .i q, h => by cases h
 | .i p, .h, h => by cases h
 | .i p, .o q, h => by cases h
 | .i p, .i q, h => by rw [kM p q h]
theorem aUq (x y : Int) (h : bOw x y = true) : x = y := by
 cases x <;> cases y <;> simp only [bOw] at h
 ·rw [Nat.eq_of_beq_eq_true h]
 ·cases h
 ·cases h
 ·rw [Nat.eq_of_beq_eq_true h]
theorem aEt : ∀ t u : WT, wtE t u = true → t = u
 | .e, .e, _ => rfl
 | .e, .n _ _ _, h => by cases h
 | .n _ _ _, .e, h => by cases h
 | .n l v r, .n l' v' r', h => by
  have h' : (bOw v v' && (wtE l l' && wtE r r')) = true := h
  simp only [Bool.and_eq_true] at h'
  rw [aUq _ _ h'.1, aEt _ _ h'.2.1, aEt _ _ h'.2.2]
theorem aOy (x y : DV) (h : dvE x y = true) : x = y := by
 unfold dvE at h
 split at h <;> (try (cases h; done)) <;> (try rfl)
 ·rw [aUq _ _ h]
 ·rw [(aGs _ _).1 h]
 ·simp only [Bool.and_eq_true] at h
  rw [kM _ _ h.1, Nat.eq_of_beq_eq_true h.2]
 ·simp only [Bool.and_eq_true] at h
  rw [kM _ _ h.1, Nat.eq_of_beq_eq_true h.2.1, Nat.eq_of_beq_eq_true h.2.2.1, Nat.eq_of_beq_eq_true h.2.2.2]
 ·rw [kM _ _ h]
 ·simp at h; rw [h]
theorem aAu : ∀ l m : List DV, cBz l m = true → l = m
 | [], [], _ => rfl
 | [], _ :: _, h => by cases h
 | _ :: _, [], h => by cases h
 | x :: l, y :: m, h => by
  have h' : (dvE x y && cBz l m) = true := h
  simp only [Bool.and_eq_true] at h'
  rw [aOy _ _ h'.1, aAu _ _ h'.2]
theorem aUo : ∀ l m : List (DV × DV), cSf l m = true → l = m
 | [], [], _ => rfl
 | [], _ :: _, h => by cases h
 | _ :: _, [], h => by cases h
 | x :: l, y :: m, h => by
  have h' : (dvE x.1 y.1 && (dvE x.2 y.2 && cSf l m)) = true := h
  simp only [Bool.and_eq_true] at h'
  rw [aUo _ _ h'.2.2]
  congr 1
  exact Prod.ext (aOy _ _ h'.1) (aOy _ _ h'.2.1)
theorem cQi (o p : Ob) (h : obE o p = true) : o = p := by
 unfold obE at h
 split at h <;> (try (cases h; done))
 ·rw [aAu _ _ h]
 ·rw [aUo _ _ h]
 ·simp only [Bool.and_eq_true] at h
  rw [Nat.eq_of_beq_eq_true h.1, aEt _ _ h.2]
 ·rw [aEt _ _ h]
theorem aIc (t : Tr Ob) : ∀ l : List (Pos × Ob), bFy t l = true → ∀ x ∈ l, t.get x.1 = some x.2
 | [], _, x, hx => by cases hx
 | y :: l, h, x, hx => by
  have h' : ((match t.get y.1 with
   | some o => obE o y.2
   | none => false) && bFy t l) = true := h
  simp only [Bool.and_eq_true] at h'
  rcases List.mem_cons.1 hx with rfl | hx
  ·have h1 := h'.1
   split at h1
   ·rename_i o ho
    rw [ho, cQi _ _ h1]
   ·cases h1
  ·exact aIc t l h'.2 x hx
theorem aHd : ∀ (l : List (Pos × Ob)) (b : Pos) (o : Ob), (cVb l).get b = some o → (b, o) ∈ l
 | [], b, o, h => by cases b <;> cases h
 | y :: l, b, o, h => by
  have h' : (Tr.set y.2 y.1 (cVb l)).get b = some o := h
  by_cases e : b = y.1
  ·subst e
   rw [dIa] at h'
   simp only [bB] at h'
   rw [← h']
   exact List.mem_cons_self
  ·rw [dHz _ _ _ _ e] at h'
   exact List.mem_cons_of_mem _ (aHd l b o h')
theorem jZ (o : Ob) : rL true o o := by cases o <;> simp [rL]
theorem Sim.refl (h : Hp) : Sim true h h := ⟨rfl, fun b o hb => ⟨o, hb, jZ o⟩⟩
theorem jE {o o' : Ob} (h : rL true o o') : o' = o := by cases o <;> simpa [rL] using h
theorem Sim.trans {a b c : Hp} (h : Sim true a b) (k : Sim true b c) : Sim true a c := ⟨k.next.trans h.next, fun p o hp => by
 obtain ⟨o', h1, h2⟩ := h.get p o hp
 rw [jE h2] at h1
 exact k.get p o h1⟩
theorem aVq {r : aG} {vs : List DV} {nx : Nat} {l : List (Pos × Ob)} (h : kQ r vs nx l = true) : ∃ g, r = some (.t vs, g) ∧ Sim true (hY nx l) g := by
 unfold kQ at h
 split at h <;> (try (cases h; done))
 rename_i us g
 simp only [Bool.and_eq_true] at h
 refine ⟨g, by rw [aAu _ _ h.1], ?_, fun b o hb => ⟨o, ?_, jZ o⟩⟩
 ·exact kM _ _ h.2.1
 ·exact aIc _ _ h.2.2 (b, o) (aHd _ _ _ hb)
end Go.Dd

namespace Go.Dd
open Go.Proofs
noncomputable section
def pN0 : Code := cf Tryz.f7
def pN1 : Code := cR pN0
def pN2 : Code := cR pN1
def pN3 : Code := cR pN2
def pN4 : Code := cR pN3
def pN5 : Code := cR pN4
def pN6 : Code := cR pN5
def cCa : Code := .seq (cL pN0) (.seq (cL pN1) (.seq (cL pN2) (.seq (cL pN3) (.seq (cL pN4) (.seq (cL pN5) (cL (cL pN6)))))))
def bKu : Code := cR (cL pN6)
def cZl : Code := cR pN6
def hS : Hp := ⟨dH 1, .e⟩
def cYb : K := fun e h => some (.t [e 5, e 155, e 156, e 157], h)
def cLh (n : Nat) : aG := aM CF (fW 899) 179 899 cCa (fun _ _ _ => none) (fun _ _ => none) cYb (aJ [.i .i64 (.ofNat n)]) hS
end
theorem he0 : kQ (cLh 20000) (jX 0) 432 (mK 20000 553 84 18 [1076, 1096, 6, 24, 42, 60, 78, 96, 114, 132, 150, 168, 186, 204, 222, 240, 258, 276] [(10, 0), (19, 0), (46, 0), (55, 0), (64, 0), (91, 0), (100, 0), (109, 0), (118, 0), (127, 0), (145, 0)] 0) = true := by kernel_rfl
end Go.Dd

namespace Go.Dd
inductive Out where
 | n (e : aS) (h : Hp)
 | x (i : Nat) (e : aS) (h : Hp)
 | r (e : aS) (h : Hp)
def dIz (o : Option Out) (X : Nat → K) (kr k : K) : aG :=
 match o with
 | none => none
 | some (.n e h) => k e h
 | some (.x i e h) => X i e h
 | some (.r e h) => kr e h
section
variable {C : Cfg} {rec : FuncId → List DV → Hp → aG} {nt : Nat}
theorem aUh (all : Array Oper) : ∀ l : List Oper, ∃ O : aS → Hp → Option (aS × Hp), ∀ k env h, fU C rec nt all l k env h = match O env h with
  | none => none
  | some (e, h) => k e h
 | [] => ⟨fun e h => some (e, h), fun k env h => rfl⟩
 | o :: l => by
  obtain ⟨O, hO⟩ := aUh all l
  refine ⟨fun env h => bif cM nt o.dst then (match bF C rec all o env h with
   | some (v, h') => O (bI env o.dst v) h'
   | none => none) else none, fun k env h => ?_⟩
  change cnd (cM nt o.dst) (bnd (bF C rec all o env h) fun v h' => fU C rec nt all l k (bI env o.dst v) h') = _
  cases cM nt o.dst with
  | false => rfl
  | true =>
   simp only [cond_true]
   cases hs : bF C rec all o env h with
   | none => rfl
   | some p => exact hO k _ _
theorem aHb (all : Array Oper) (m : Array Nat) (p0 : Pos) : ∀ (l : List Oper) (i c : Nat) (dirty : Bool) (rd : List Seen) (hs : List (Option Nat × Hp)), ∃ O : aS → Hp → Option (aS × Hp),
  ∀ k env h, dV C rec nt all m p0 l k i c dirty rd hs env h = match O env h with
   | none => none
   | some (e, h) => k e h
 | [], i, c, dirty, rd, hs => ⟨fun e h => some (e, h), fun k env h => rfl⟩
 | o :: l, i, c, dirty, rd, hs => by
  have ih := aHb all m p0 l
  cases hc : bO C.P o.op with
  | pure =>
   obtain ⟨O, hO⟩ := ih (i + 1) c dirty rd hs
   refine ⟨fun env h => bif cM nt o.dst then (match bF C rec all o env h with
    | some (v, h') => O (bI env o.dst v) h'
    | none => none) else none, fun k env h => ?_⟩
   have e : dV C rec nt all m p0 (o :: l) k i c dirty rd hs env h = cnd (cM nt o.dst) (bnd (bF C rec all o env h) fun v h' => dV C rec nt all m p0 l k (i + 1) c dirty rd hs (bI env o.dst v) h') := by
    change cnd (cM nt o.dst) (match bO C.P o.op with | .pure => _ | .reads => _ | .makes => _ | .acts => _) = _
    rw [hc]
    rfl
   rw [e]
   cases cM nt o.dst with
   | false => rfl
   | true =>
    simp only [cond_true]
    cases hs : bF C rec all o env h with
    | none => rfl
    | some p => exact hO k _ _
  | reads =>
   have hex : ∀ (env : aS) (v : DV), ∃ O : aS → Hp → Option (aS × Hp), ∀ k e h, dV C rec nt all m p0 l k (i + 1) c dirty (⟨i, bF C rec all o env, v⟩ :: rd) hs e h = match O e h with
    | none => none
    | some (e, h) => k e h := fun env v => ih (i + 1) c dirty (⟨i, bF C rec all o env, v⟩ :: rd) hs
   refine ⟨fun env h => bif cM nt o.dst then (match bF C rec all o env h with
    | some (v, h') => bif dW m i v (bF C rec all o env) dirty hs then (hex env v).choose (bI env o.dst v) h' else none
    | none => none) else none, fun k env h => ?_⟩
   have e : dV C rec nt all m p0 (o :: l) k i c dirty rd hs env h = cnd (cM nt o.dst) (bnd (bF C rec all o env h) fun v h' =>
     cnd (dW m i v (bF C rec all o env) dirty hs) (dV C rec nt all m p0 l k (i + 1) c dirty (⟨i, bF C rec all o env, v⟩ :: rd) hs (bI env o.dst v) h')) := by
    change cnd (cM nt o.dst) (match bO C.P o.op with | .pure => _ | .reads => _ | .makes => _ | .acts => _) = _
    rw [hc]
    rfl
   rw [e]
   cases cM nt o.dst with
   | false => rfl
   | true =>
    simp only [cond_true]
    cases hs2 : bF C rec all o env h with
    | none => rfl
    | some p =>
     obtain ⟨v, h'⟩ := p
     show cnd (dW m i v (bF C rec all o env) dirty hs) _ = _
     cases hcc : dW m i v (bF C rec all o env) dirty hs with
     | false => simp only [hcc, cond_false]
     | true => simp only [hcc, cond_true]; exact (hex env v).choose_spec k _ _
  | makes =>
   obtain ⟨O, hO⟩ := ih (i + 1) (c + 1) true rd hs
   refine ⟨fun env h => bif cM nt o.dst then (match dJ C o (aY c p0) env h with
    | some (v, h') => O (bI env o.dst v) h'
    | none => none) else none, fun k env h => ?_⟩
   have e : dV C rec nt all m p0 (o :: l) k i c dirty rd hs env h = cnd (cM nt o.dst) (bnd (dJ C o (aY c p0) env h) fun v h' => dV C rec nt all m p0 l k (i + 1) (c + 1) true rd hs (bI env o.dst v) h') := by
    change cnd (cM nt o.dst) (match bO C.P o.op with | .pure => _ | .reads => _ | .makes => _ | .acts => _) = _
    rw [hc]
    rfl
   rw [e]
   cases cM nt o.dst with
   | false => rfl
   | true =>
    simp only [cond_true]
    cases hs : dJ C o (aY c p0) env h with
    | none => rfl
    | some p => exact hO k _ _
  | acts =>
   have hex : ∀ h' : Hp, ∃ O : aS → Hp → Option (aS × Hp), ∀ k e h, dV C rec nt all m p0 l k (i + 1) c false rd ((some i, h') :: hs) e h = match O e h with
    | none => none
    | some (e, h) => k e h := fun h' => ih (i + 1) c false rd ((some i, h') :: hs)
   refine ⟨fun env h => bif cM nt o.dst then (match bF C rec all o env h with
    | some (v, h') => bif rd.all (fun q => fP m q.at_ i || bD (q.look h') q.v) then (hex h').choose (bI env o.dst v) h' else none
    | none => none) else none, fun k env h => ?_⟩
   have e : dV C rec nt all m p0 (o :: l) k i c dirty rd hs env h = cnd (cM nt o.dst) (bnd (bF C rec all o env h) fun v h' =>
     cnd (rd.all (fun q => fP m q.at_ i || bD (q.look h') q.v)) (dV C rec nt all m p0 l k (i + 1) c false rd ((some i, h') :: hs) (bI env o.dst v) h')) := by
    change cnd (cM nt o.dst) (match bO C.P o.op with | .pure => _ | .reads => _ | .makes => _ | .acts => _) = _
    rw [hc]
    rfl
   rw [e]
   cases cM nt o.dst with
   | false => rfl
   | true =>
    simp only [cond_true]
    cases hs2 : bF C rec all o env h with
    | none => rfl
    | some p =>
     obtain ⟨v, h'⟩ := p
     show cnd (rd.all (fun q => fP m q.at_ i || bD (q.look h') q.v)) _ = _
     cases hcc : rd.all (fun q => fP m q.at_ i || bD (q.look h') q.v) with
     | false => simp only [hcc, cond_false]
     | true => simp only [hcc, cond_true]; exact (hex h').choose_spec k _ _
theorem aHu (n : Nat) : ∀ c : Code, ∃ O : aS → Hp → Option Out, ∀ X kr k env h, aM C rec nt n c X kr k env h = dIz (O env h) X kr k := by
 have hfail : ∃ O : aS → Hp → Option Out, ∀ (X : Nat → K) (kr k : K) (env : aS) (h : Hp), cD env h = dIz (O env h) X kr k := ⟨fun _ _ => none, fun X kr k env h => rfl⟩
 intro c
 induction c with
 | skip => exact ⟨fun e h => some (.n e h), fun X kr k env h => rfl⟩
 | region id ops dr =>
  cases dr with
  | false =>
   obtain ⟨O, hO⟩ := aUh (C := C) (rec := rec) (nt := nt) ops ops.toList
   refine ⟨fun env h => (O env h).map fun p => .n p.1 p.2, fun X kr k env h => ?_⟩
   show fU C rec nt ops ops.toList k env h = _
   rw [hO]
   dsimp only
   cases hh : O env h <;> rfl
  | true =>
   cases hd : eA C.P ops with
   | false =>
    refine ⟨fun _ _ => none, fun X kr k env h => ?_⟩
    show (Bool.rec (motive := fun _ => K) cD (gN C rec nt ops k) (eA C.P ops)) env h = _
    rw [hd]; rfl
   | true =>
    have hex : ∀ h : Hp, _ := fun h => aHb (C := C) (rec := rec) (nt := nt) ops (Region.before ops) h.next ops.toList 0 0 false [] [(none, resv (bY C.P ops.toList) h)]
    refine ⟨fun env h => ((hex h).choose env (resv (bY C.P ops.toList) h)).map fun p => .n p.1 p.2, fun X kr k env h => ?_⟩
    have e : aM C rec nt n (.region id ops true) X kr k env h = gN C rec nt ops k env h := by
     show (Bool.rec (motive := fun _ => K) cD (gN C rec nt ops k) (eA C.P ops)) env h = _
     rw [hd]
    rw [e]
    unfold gN
    rw [(hex h).choose_spec k env _]
    dsimp only
    cases hh : (hex h).choose env (resv (bY C.P ops.toList) h) <;> rfl
 | seq x y ihx ihy =>
  obtain ⟨O1, h1⟩ := ihx
  obtain ⟨O2, h2⟩ := ihy
  refine ⟨fun env h => match O1 env h with
   | some (.n e h) => O2 e h
   | o => o, fun X kr k env h => ?_⟩
  show aM C rec nt n x X kr (aM C rec nt n y X kr k) env h = _
  rw [h1]
  dsimp only
  cases ho : O1 env h with
  | none => rfl
  | some o =>
   cases o with
   | n e h' => exact h2 X kr k e h'
   | x i e h' => rfl
   | r e h' => rfl
 | cond c x y ihx ihy =>
  obtain ⟨O1, h1⟩ := ihx
  obtain ⟨O2, h2⟩ := ihy
  refine ⟨fun env h => match opr env c with
   | .b true => O1 env h
   | .b false => O2 env h
   | _ => none, fun X kr k env h => ?_⟩
  show aU (opr env c) (aM C rec nt n x X kr k env h) (aM C rec nt n y X kr k env h) = _
  rw [h1, h2]
  unfold aU
  dsimp only
  cases opr env c <;> try rfl
  rename_i b
  cases b <;> rfl
 | block id x ih =>
  obtain ⟨O1, h1⟩ := ih
  refine ⟨fun env h => match O1 env h with
   | some (.x i e h') => bif Nat.beq i id then some (.n e h') else some (.x i e h')
   | o => o, fun X kr k env h => ?_⟩
  show aM C rec nt n x (fun j => bif Nat.beq j id then k else X j) kr k env h = _
  rw [h1]
  dsimp only
  cases ho : O1 env h with
  | none => rfl
  | some o =>
   cases o with
   | n e h' => rfl
   | r e h' => rfl
   | x i e h' =>
    simp only [dIz]
    cases hb : Nat.beq i id with
    | true => rfl
    | false => rfl
 | loop x ih =>
  obtain ⟨O1, h1⟩ := ih
  have key : ∀ m : Nat, ∃ O : aS → Hp → Option Out, ∀ (X : Nat → K) (kr k : K) env h, aL (fun kk => aM C rec nt n x X kr kk) m env h = dIz (O env h) X kr k := by
   intro m
   induction m with
   | zero => exact ⟨fun _ _ => none, fun X kr k env h => rfl⟩
   | succ m ihm =>
    obtain ⟨O2, h2⟩ := ihm
    refine ⟨fun env h => match O1 env h with
     | some (.n e h) => O2 e h
     | o => o, fun X kr k env h => ?_⟩
    show aM C rec nt n x X kr (aL (fun kk => aM C rec nt n x X kr kk) m) env h = _
    rw [h1]
    dsimp only
    cases ho : O1 env h with
    | none => rfl
    | some o =>
     cases o with
     | n e h' => exact h2 X kr k e h'
     | x i e h' => rfl
     | r e h' => rfl
  exact key n
 | rangeFunc f ps x y ihx ihy => exact hfail
 | exit id => exact ⟨fun e h => some (.x id e h), fun X kr k env h => rfl⟩
 | scope x ih => exact ih
 | label l => exact ⟨fun e h => some (.n e h), fun X kr k env h => rfl⟩
 | goto l => exact hfail
 | ret => exact ⟨fun e h => some (.r e h), fun X kr k env h => rfl⟩
 | refuse why => exact hfail
end
end Go.Dd

namespace Go.Dd
open Go.Proofs
noncomputable def t20 (rec : FuncId → List DV → Hp → aG) (n : Nat) (x0 x1 : DV) (h0 : Hp) : aG :=
 bnd (aD .eql x1 (.i .i64 (Int.ofNat 0)) h0) fun v1 h1 =>
 bnd (gD v1 false (some (x1, h1)) h1) fun v2 h2 =>
 bnd (gD v1 false (aD .eql v2 (.i .i64 (Int.ofNat 2)) h2) h2) fun v3 h3 =>
 bnd (aO v1 (.b true) v3 h3) fun v4 h4 =>
 bnd (gD v4 false (some (x1, h4)) h4) fun v5 h5 =>
 bnd (gD v4 false (aD .eql v5 (.i .i64 (Int.ofNat 4)) h5) h5) fun v6 h6 =>
 bnd (aO v4 (.b true) v6 h6) fun v7 h7 =>
 bnd (gD v7 false (some (x1, h7)) h7) fun v8 h8 =>
 bnd (gD v7 false (rec 45 [v8] h8) h8) fun v9 h9 =>
 bnd (aO v7 (.b true) v9 h9) fun v10 h10 =>
 bnd (gD v10 false (some (x0, h10)) h10) fun v11 h11 =>
 bnd (gD v10 false (some (x1, h11)) h11) fun v12 h12 =>
 bnd (gD v10 false (rec 46 [v11, v12] h12) h12) fun v13 h13 =>
 bnd (aO v10 (.b true) v13 h13) fun v14 h14 =>
 some (v14, h14)
noncomputable def E20 (rec : FuncId → List DV → Hp → aG) (n : Nat) (c : Code) (X : Nat → K) (k : K) : K := aM CF1 rec 24 n c X (aQ CF1 Tryz.f18) k
theorem dGk (rec : FuncId → List DV → Hp → aG) (n : Nat) : E20 rec n (cf Tryz.f18) x0 (aQ CF1 Tryz.f18) = (fun (env : aS) (h : Hp) => t20 rec n (env 0) (env 1) h) :=
 (by kernel_rfl)
theorem dBa (rec : FuncId → List DV → Hp → aG) (n : Nat) (args : List DV) (h : Hp) : aF CF1 rec n 18 args h = t20 rec n (args.getD 0 aV) (args.getD 1 aV) h :=
 (by kernel_rfl : aF CF1 rec n 18 args h = E20 rec n (cf Tryz.f18) x0 (aQ CF1 Tryz.f18) (aJ args) h).trans ((congrFun (congrFun (dGk rec n) (aJ args)) h).trans (by kernel_rfl))
noncomputable def t21 (rec : FuncId → List DV → Hp → aG) (n : Nat) (x0 x1 : DV) (h0 : Hp) : aG :=
 bnd (rec 98 [x1] h0) fun v1 h1 =>
 bnd (gD v1 true (some (x0, h1)) h1) fun v2 h2 =>
 bnd (gD v1 true (aP v2 h2) h2) fun v3 h3 =>
 bnd (gD v1 true (aB 3 v3 h3) h3) fun v4 h4 =>
 bnd (gD v1 true (aA v4 h4) h4) fun v5 h5 =>
 bnd (gD v1 true (some (x1, h5)) h5) fun v6 h6 =>
 bnd (gD v1 true (rec 99 [v6] h6) h6) fun v7 h7 =>
 cnd (bD (gD v1 true (aA v4 h7) h7) v5 && true) (
 bnd (gD v1 true (eS (.int .i64) (.b false) false v5 v7 h7) h7) fun v8 h8 =>
 bnd (aO v1 v8 (.b false) h8) fun v9 h9 =>
 some (v9, h9))
noncomputable def E21 (rec : FuncId → List DV → Hp → aG) (n : Nat) (c : Code) (X : Nat → K) (k : K) : K := aM CF1 rec 16 n c X (aQ CF1 Tryz.f46) k
theorem dFd (rec : FuncId → List DV → Hp → aG) (n : Nat) : E21 rec n (cf Tryz.f46) x0 (aQ CF1 Tryz.f46) = (fun (env : aS) (h : Hp) => t21 rec n (env 0) (env 1) h) :=
 (by kernel_rfl)
theorem dBl (rec : FuncId → List DV → Hp → aG) (n : Nat) (args : List DV) (h : Hp) : aF CF1 rec n 46 args h = t21 rec n (args.getD 0 aV) (args.getD 1 aV) h :=
 (by kernel_rfl : aF CF1 rec n 46 args h = E21 rec n (cf Tryz.f46) x0 (aQ CF1 Tryz.f46) (aJ args) h).trans ((congrFun (congrFun (dFd rec n) (aJ args)) h).trans (by kernel_rfl))
noncomputable def t22 (rec : FuncId → List DV → Hp → aG) (n : Nat) (x0 : DV) (h0 : Hp) : aG :=
 bnd (aP x0 h0) fun v1 h1 =>
 bnd (aB 0 v1 h1) fun v2 h2 =>
 bnd (aA v2 h2) fun v3 h3 =>
 bnd (bQ v3 h3) fun v4 h4 =>
 some (v4, h4)
noncomputable def E22 (rec : FuncId → List DV → Hp → aG) (n : Nat) (c : Code) (X : Nat → K) (k : K) : K := aM CF1 rec 8 n c X (aQ CF1 Tryz.f94) k
theorem dHx (rec : FuncId → List DV → Hp → aG) (n : Nat) : E22 rec n (cf Tryz.f94) x0 (aQ CF1 Tryz.f94) = (fun (env : aS) (h : Hp) => t22 rec n (env 0) h) :=
 (by kernel_rfl)
theorem dBp (rec : FuncId → List DV → Hp → aG) (n : Nat) (args : List DV) (h : Hp) : aF CF1 rec n 94 args h = t22 rec n (args.getD 0 aV) h :=
 (by kernel_rfl : aF CF1 rec n 94 args h = E22 rec n (cf Tryz.f94) x0 (aQ CF1 Tryz.f94) (aJ args) h).trans ((congrFun (congrFun (dHx rec n) (aJ args)) h).trans (by kernel_rfl))
noncomputable def t29 (rec : FuncId → List DV → Hp → aG) (n : Nat) (x0 : DV) (h0 : Hp) : aG :=
 bnd (aP x0 h0) fun v1 h1 =>
 bnd (aB 0 v1 h1) fun v2 h2 =>
 bnd (aA v2 h2) fun v3 h3 =>
 bnd (bQ v3 h3) fun v4 h4 =>
 bnd (aP x0 h4) fun v5 h5 =>
 bnd (aB 1 v5 h5) fun v6 h6 =>
 bnd (aA v6 h6) fun v7 h7 =>
 bnd (aD .sub v4 v7 h7) fun v8 h8 =>
 some (v8, h8)
noncomputable def E29 (rec : FuncId → List DV → Hp → aG) (n : Nat) (c : Code) (X : Nat → K) (k : K) : K := aM CF1 rec 13 n c X (aQ CF1 Tryz.f75) k
theorem dHh (rec : FuncId → List DV → Hp → aG) (n : Nat) : E29 rec n (cf Tryz.f75) x0 (aQ CF1 Tryz.f75) = (fun (env : aS) (h : Hp) => t29 rec n (env 0) h) :=
 (by kernel_rfl)
theorem dCh (rec : FuncId → List DV → Hp → aG) (n : Nat) (args : List DV) (h : Hp) : aF CF1 rec n 75 args h = t29 rec n (args.getD 0 aV) h :=
 (by kernel_rfl : aF CF1 rec n 75 args h = E29 rec n (cf Tryz.f75) x0 (aQ CF1 Tryz.f75) (aJ args) h).trans ((congrFun (congrFun (dHh rec n) (aJ args)) h).trans (by kernel_rfl))
noncomputable def t30 (rec : FuncId → List DV → Hp → aG) (n : Nat) (x0 x1 x2 x3 : DV) (h0 : Hp) : aG :=
 bnd (rec 74 [x0, x1] h0) fun v1 h1 =>
 bnd (fL .not v1 h1) fun v2 h2 =>
 bnd (gD v2 false (some (x2, h2)) h2) fun v3 h3 =>
 bnd (gD v2 false (aD .lss v3 (.i .i64 (Int.ofNat 0)) h3) h3) fun v4 h4 =>
 bnd (aO v2 (.b true) v4 h4) fun v5 h5 =>
 bnd (gD v5 false (some (x2, h5)) h5) fun v6 h6 =>
 bnd (gD v5 false (aD .gtr v6 (.i .i64 (Int.ofNat 2)) h6) h6) fun v7 h7 =>
 bnd (aO v5 (.b true) v7 h7) fun v8 h8 =>
 bnd (gD v8 false (some (x3, h8)) h8) fun v9 h9 =>
 bnd (gD v8 false (aD .lss v9 (.i .i64 (Int.ofNat 0)) h9) h9) fun v10 h10 =>
 bnd (aO v8 (.b true) v10 h10) fun v11 h11 =>
 bnd (gD v11 false (some (x3, h11)) h11) fun v12 h12 =>
 bnd (gD v11 false (aD .gtr v12 (.i .i64 (Int.ofNat 256)) h12) h12) fun v13 h13 =>
 bnd (aO v11 (.b true) v13 h13) fun v14 h14 =>
 aU v14 (
  some (.t [(.i .i64 (Int.ofNat 0)), (.i .i64 (Int.ofNat 1))], h14)) (
  bnd (rec 75 [x0] h14) fun v15 h15 =>
  bnd (aD .add x3 (.i .i64 (Int.ofNat 3)) h15) fun v16 h16 =>
  bnd (aD .lss v15 v16 h16) fun v17 h17 =>
  bnd (gD v17 false (some (x0, h17)) h17) fun v18 h18 =>
  bnd (gD v17 false (aP v18 h18) h18) fun v19 h19 =>
  bnd (gD v17 false (aB 2 v19 h19) h19) fun v20 h20 =>
  bnd (gD v17 false (aA v20 h20) h20) fun v21 h21 =>
  bnd (gD v17 false (aD .geq v21 (.i .i64 (Int.ofNat 1099511627776)) h21) h21) fun v22 h22 =>
  bnd (aO v17 (.b true) v22 h22) fun v23 h23 =>
  aU v23 (
   some (.t [(.i .i64 (Int.ofNat 0)), (.i .i64 (Int.ofNat 4))], h23)) (
   bnd (aP x0 h23) fun v24 h24 =>
   bnd (aB 1 v24 h24) fun v25 h25 =>
   bnd (aA v25 h25) fun v26 h26 =>
   bnd (aP x0 h26) fun v27 h27 =>
   bnd (aB 2 v27 h27) fun v28 h28 =>
   bnd (aA v28 h28) fun v29 h29 =>
   bnd (aD .add v29 (.i .i64 (Int.ofNat 1)) h29) fun v30 h30 =>
   bnd (aP x0 h30) fun v31 h31 =>
   bnd (aB 2 v31 h31) fun v32 h32 =>
   bnd (aE 1 v32 v30 h32) fun _ h33 =>
   bnd (aP x0 h33) fun v34 h34 =>
   bnd (aB 0 v34 h34) fun v35 h35 =>
   bnd (aA v35 h35) fun v36 h36 =>
   bnd (aP x0 h36) fun v37 h37 =>
   bnd (aB 0 v37 h37) fun v38 h38 =>
   bnd (aA v38 h38) fun v39 h39 =>
   bnd (aD .add v26 (.i .i64 (Int.ofNat 1)) h39) fun v40 h40 =>
   bnd (aP x0 h40) fun v41 h41 =>
   bnd (aB 0 v41 h41) fun v42 h42 =>
   bnd (aA v42 h42) fun v43 h43 =>
   bnd (aD .add v26 (.i .i64 (Int.ofNat 2)) h43) fun v44 h44 =>
   bnd (dB .shl x3 (.i .u64 (Int.ofNat 2)) h44) fun v45 h45 =>
   bnd (aD .or v45 x2 h45) fun v46 h46 =>
   bnd (aP x0 h46) fun v47 h47 =>
   bnd (aB 2 v47 h47) fun v48 h48 =>
   bnd (aA v48 h48) fun v49 h49 =>
   bnd (aI 1 v36 v26 h49) fun v50 h50 =>
   bnd (aE 1 v50 v46 h50) fun v51 h51 =>
   bnd (aI 1 v39 v40 h51) fun v52 h52 =>
   bnd (aE 1 v52 x1 h52) fun v53 h53 =>
   bnd (aI 1 v43 v44 h53) fun v54 h54 =>
   bnd (aE 1 v54 v49 h54) fun v55 h55 =>
   bnd (aP x0 h55) fun v56 h56 =>
   bnd (aB 0 v56 h56) fun v57 h57 =>
   bnd (aA v57 h57) fun v58 h58 =>
   bnd (aD .add v26 (.i .i64 (Int.ofNat 3)) h58) fun v59 h59 =>
   bnd (aD .add v26 (.i .i64 (Int.ofNat 3)) h59) fun v60 h60 =>
   bnd (aD .add v60 x3 h60) fun v61 h61 =>
   bnd (cG 1 v58 (some v59) (some v61) h61) fun v62 h62 =>
   bnd (iS [(.i .i64 (Int.ofNat 0))] v62 h62) fun _ h63 =>
   bnd (aP x0 h63) fun v64 h64 =>
   bnd (aB 1 v64 h64) fun v65 h65 =>
   bnd (aA v65 h65) fun v66 h66 =>
   bnd (aD .add x3 (.i .i64 (Int.ofNat 3)) h66) fun v67 h67 =>
   bnd (aD .add v66 v67 h67) fun v68 h68 =>
   bnd (aP x0 h68) fun v69 h69 =>
   bnd (aB 1 v69 h69) fun v70 h70 =>
   bnd (aE 1 v70 v68 h70) fun _ h71 =>
   bnd (aP x0 h71) fun v72 h72 =>
   bnd (aB 3 v72 h72) fun v73 h73 =>
   bnd (aA v73 h73) fun v74 h74 =>
   bnd (eK (.int .i64) v74 v26 (.b true) h74) fun _ h75 =>
   bnd (rec 76 [v26] h75) fun v76 h76 =>
   bnd (aC 0 v76 h76) fun v77 h77 =>
   bnd (aC 1 v76 h77) fun v78 h78 =>
   some (.t [v77, (.i .i64 (Int.ofNat 0))], h78)))
noncomputable def E30 (rec : FuncId → List DV → Hp → aG) (n : Nat) (c : Code) (X : Nat → K) (k : K) : K := aM CF1 rec 118 n c X (aQ CF1 Tryz.f31) k
theorem dHk (rec : FuncId → List DV → Hp → aG) (n : Nat) : E30 rec n (cf Tryz.f31) x0 (aQ CF1 Tryz.f31) = (fun (env : aS) (h : Hp) => t30 rec n (env 0) (env 1) (env 2) (env 3) h) :=
 (by kernel_rfl)
theorem dCa (rec : FuncId → List DV → Hp → aG) (n : Nat) (args : List DV) (h : Hp) : aF CF1 rec n 31 args h = t30 rec n (args.getD 0 aV) (args.getD 1 aV) (args.getD 2 aV) (args.getD 3 aV) h :=
 (by kernel_rfl : aF CF1 rec n 31 args h = E30 rec n (cf Tryz.f31) x0 (aQ CF1 Tryz.f31) (aJ args) h).trans ((congrFun (congrFun (dHk rec n) (aJ args)) h).trans (by kernel_rfl))
noncomputable def t41 (rec : FuncId → List DV → Hp → aG) (n : Nat) (x0 : DV) (h0 : Hp) : aG :=
 bnd (aD .lss x0 (.i .i64 (Int.ofNat 16)) h0) fun v1 h1 =>
 bnd (gD v1 false (some (x0, h1)) h1) fun v2 h2 =>
 bnd (gD v1 false (aD .gtr v2 (.i .i64 (Int.ofNat 131072)) h2) h2) fun v3 h3 =>
 bnd (aO v1 (.b true) v3 h3) fun v4 h4 =>
 aU v4 (
  some (.p0, h4)) (
  bnd (cB 1 8 [(.i .i64 (Int.ofNat 0))] x0 x0 h4) fun v5 h5 =>
  bnd (cQ h5) fun v6 h6 =>
  bnd (aX [.l0, (.i .i64 (Int.ofNat 0)), (.i .i64 (Int.ofNat 0)), .m0] [(0, 1, v5), (1, 1, (.i .i64 (Int.ofNat 3))), (3, 1, v6)] h6) fun v7 h7 =>
  bnd (bS v7 h7) fun v8 h8 =>
  some (v8, h8))
noncomputable def E41 (rec : FuncId → List DV → Hp → aG) (n : Nat) (c : Code) (X : Nat → K) (k : K) : K := aM CF1 rec 14 n c X (aQ CF1 Tryz.f30) k
theorem dGy (rec : FuncId → List DV → Hp → aG) (n : Nat) : E41 rec n (cf Tryz.f30) x0 (aQ CF1 Tryz.f30) = (fun (env : aS) (h : Hp) => t41 rec n (env 0) h) :=
 (by kernel_rfl)
theorem cJc (rec : FuncId → List DV → Hp → aG) (n : Nat) (args : List DV) (h : Hp) : aF CF1 rec n 30 args h = t41 rec n (args.getD 0 aV) h :=
 (by kernel_rfl : aF CF1 rec n 30 args h = E41 rec n (cf Tryz.f30) x0 (aQ CF1 Tryz.f30) (aJ args) h).trans ((congrFun (congrFun (dGy rec n) (aJ args)) h).trans (by kernel_rfl))
noncomputable def t44 (rec : FuncId → List DV → Hp → aG) (n : Nat) (x0 x1 x2 : DV) (h0 : Hp) : aG :=
 bnd (rec 85 [x0, x1] h0) fun v1 h1 =>
 bnd (aD .eql v1 (.i .i64 (Int.ofNat 0)) h1) fun v2 h2 =>
 bnd (gD v2 false (some (x0, h2)) h2) fun v3 h3 =>
 bnd (gD v2 false (some (x2, h3)) h3) fun v4 h4 =>
 bnd (gD v2 false (rec 74 [v3, v4] h4) h4) fun v5 h5 =>
 bnd (gD v2 false (fL .not v5 h5) h5) fun v6 h6 =>
 bnd (aO v2 (.b true) v6 h6) fun v7 h7 =>
 aU v7 (
  some ((.i .i64 (Int.ofNat 1)), h7)) (
  bnd (aP x0 h7) fun v8 h8 =>
  bnd (aB 0 v8 h8) fun v9 h9 =>
  bnd (aA v9 h9) fun v10 h10 =>
  bnd (aD .add v1 (.i .i64 (Int.ofNat 1)) h10) fun v11 h11 =>
  bnd (aI 1 v10 v11 h11) fun v12 h12 =>
  bnd (aE 1 v12 x2 h12) fun _ h13 =>
  some ((.i .i64 (Int.ofNat 0)), h13))
noncomputable def E44 (rec : FuncId → List DV → Hp → aG) (n : Nat) (c : Code) (X : Nat → K) (k : K) : K := aM CF1 rec 27 n c X (aQ CF1 Tryz.f35) k
theorem dFx (rec : FuncId → List DV → Hp → aG) (n : Nat) : E44 rec n (cf Tryz.f35) x0 (aQ CF1 Tryz.f35) = (fun (env : aS) (h : Hp) => t44 rec n (env 0) (env 1) (env 2) h) :=
 (by kernel_rfl)
theorem cZp (rec : FuncId → List DV → Hp → aG) (n : Nat) (args : List DV) (h : Hp) : aF CF1 rec n 35 args h = t44 rec n (args.getD 0 aV) (args.getD 1 aV) (args.getD 2 aV) h :=
 (by kernel_rfl : aF CF1 rec n 35 args h = E44 rec n (cf Tryz.f35) x0 (aQ CF1 Tryz.f35) (aJ args) h).trans ((congrFun (congrFun (dFx rec n) (aJ args)) h).trans (by kernel_rfl))
noncomputable def rD (rec : FuncId → List DV → Hp → aG) (n : Nat) (x0 x3 x9 : DV) (h0 : Hp) : aG :=
 bnd (aP x0 h0) fun v1 h1 =>
 bnd (aB 0 v1 h1) fun v2 h2 =>
 bnd (aA v2 h2) fun v3 h3 =>
 bnd (aI 1 v3 x9 h3) fun v4 h4 =>
 bnd (aE 1 v4 x3 h4) fun _ h5 =>
 some ((.i .i64 (Int.ofNat 0)), h5)
noncomputable def aWo (rec : FuncId → List DV → Hp → aG) (n : Nat) (x0 x1 x3 x9 : DV) (h0 : Hp) : aG :=
 bnd (rec 90 [x0, x1] h0) fun v11 h11 =>
 bnd (aD .eql v11 (.i .i64 (Int.ofNat 0)) h11) fun v12 h12 =>
 aU v12 (
  bnd (rec 18 [x0, x3] h12) fun v13 h13 =>
  bnd (fL .not v13 h13) fun v14 h14 =>
  aU v14 (
   some ((.i .i64 (Int.ofNat 6)), h14)) (
   rD rec n x0 x3 x9 h14)) (
  bnd (aD .eql v11 (.i .i64 (Int.ofNat 2)) h12) fun v15 h15 =>
  aU v15 (
   bnd (aD .lss x3 (.i .i64 (Int.ofNat 0)) h15) fun v16 h16 =>
   bnd (gD v16 false (some (x3, h16)) h16) fun v17 h17 =>
   bnd (gD v16 false (aD .gtr v17 (.i .i64 (Int.ofNat 255)) h17) h17) fun v18 h18 =>
   bnd (aO v16 (.b true) v18 h18) fun v19 h19 =>
   aU v19 (
    some ((.i .i64 (Int.ofNat 6)), h19)) (
    rD rec n x0 x3 x9 h19)) (
   rD rec n x0 x3 x9 h15))
noncomputable def aHk (rec : FuncId → List DV → Hp → aG) (n : Nat) (x0 x1 x3 x9 x10 : DV) (h0 : Hp) : aG :=
 bnd (aD .neq x10 (.i .i64 (Int.ofNat 0)) h0) fun v29 h29 =>
 aU v29 (
  some (x10, h29)) (
  aWo rec n x0 x1 x3 x9 h29)
noncomputable def aTi (rec : FuncId → List DV → Hp → aG) (n : Nat) (x0 x1 x2 x3 : DV) (h0 : Hp) : aG :=
 bnd (rec 89 [x0, x1, x2] h0) fun v31 h31 =>
 bnd (aC 0 v31 h31) fun v32 h32 =>
 bnd (aC 1 v31 h32) fun v33 h33 =>
 aHk rec n x0 x1 x3 v32 v33 h33
noncomputable def t47 (rec : FuncId → List DV → Hp → aG) (n : Nat) (x0 x1 x2 x3 : DV) (h0 : Hp) : aG :=
 aTi rec n x0 x1 x2 x3 h0
noncomputable def E47 (rec : FuncId → List DV → Hp → aG) (n : Nat) (c : Code) (X : Nat → K) (k : K) : K := aM CF1 rec 45 n c X (aQ CF1 Tryz.f38) k
theorem cSc (rec : FuncId → List DV → Hp → aG) (n : Nat) : E47 rec n (cR (cR (cR (cR (cf Tryz.f38))))) x0 (aQ CF1 Tryz.f38) = (fun (env : aS) (h : Hp) => rD rec n (env 0) (env 3) (env 9) h) :=
 (by kernel_rfl)
theorem cAz (rec : FuncId → List DV → Hp → aG) (n : Nat) : E47 rec n (cR (cR (cR (cf Tryz.f38)))) x0 (aQ CF1 Tryz.f38) = E47 rec n (cL (cR (cR (cR (cf Tryz.f38))))) x0 (fun (env : aS) (h : Hp) => rD rec n (env 0) (env 3) (env 9) h) :=
 congrArg (fun k => E47 rec n (cL (cR (cR (cR (cf Tryz.f38))))) x0 k) (cSc rec n)
theorem cPr (rec : FuncId → List DV → Hp → aG) (n : Nat) : E47 rec n (cR (cR (cR (cf Tryz.f38)))) x0 (aQ CF1 Tryz.f38) = (fun (env : aS) (h : Hp) => aWo rec n (env 0) (env 1) (env 3) (env 9) h) :=
 (cAz rec n).trans
 ((by kernel_rfl))
theorem cEf (rec : FuncId → List DV → Hp → aG) (n : Nat) : E47 rec n (cR (cR (cf Tryz.f38))) x0 (aQ CF1 Tryz.f38) = E47 rec n (cL (cR (cR (cf Tryz.f38)))) x0 (fun (env : aS) (h : Hp) => aWo rec n (env 0) (env 1) (env 3) (env 9) h) :=
 congrArg (fun k => E47 rec n (cL (cR (cR (cf Tryz.f38)))) x0 k) (cPr rec n)
theorem cMg (rec : FuncId → List DV → Hp → aG) (n : Nat) : E47 rec n (cR (cR (cf Tryz.f38))) x0 (aQ CF1 Tryz.f38) = (fun (env : aS) (h : Hp) => aHk rec n (env 0) (env 1) (env 3) (env 9) (env 10) h) :=
 (cEf rec n).trans
 ((by kernel_rfl))
theorem cGn (rec : FuncId → List DV → Hp → aG) (n : Nat) : E47 rec n (cR (cf Tryz.f38)) x0 (aQ CF1 Tryz.f38) = E47 rec n (cL (cR (cf Tryz.f38))) x0 (fun (env : aS) (h : Hp) => aHk rec n (env 0) (env 1) (env 3) (env 9) (env 10) h) :=
 congrArg (fun k => E47 rec n (cL (cR (cf Tryz.f38))) x0 k) (cMg rec n)
theorem cTf (rec : FuncId → List DV → Hp → aG) (n : Nat) : E47 rec n (cR (cf Tryz.f38)) x0 (aQ CF1 Tryz.f38) = (fun (env : aS) (h : Hp) => aTi rec n (env 0) (env 1) (env 2) (env 3) h) :=
 (cGn rec n).trans
 ((by kernel_rfl))
theorem cWz (rec : FuncId → List DV → Hp → aG) (n : Nat) : E47 rec n (cf Tryz.f38) x0 (aQ CF1 Tryz.f38) = E47 rec n (cL (cf Tryz.f38)) x0 (fun (env : aS) (h : Hp) => aTi rec n (env 0) (env 1) (env 2) (env 3) h) :=
 congrArg (fun k => E47 rec n (cL (cf Tryz.f38)) x0 k) (cTf rec n)
theorem dDr (rec : FuncId → List DV → Hp → aG) (n : Nat) : E47 rec n (cf Tryz.f38) x0 (aQ CF1 Tryz.f38) = (fun (env : aS) (h : Hp) => t47 rec n (env 0) (env 1) (env 2) (env 3) h) :=
 (cWz rec n).trans
 ((by kernel_rfl))
theorem dAh (rec : FuncId → List DV → Hp → aG) (n : Nat) (args : List DV) (h : Hp) : aF CF1 rec n 38 args h = t47 rec n (args.getD 0 aV) (args.getD 1 aV) (args.getD 2 aV) (args.getD 3 aV) h :=
 (by kernel_rfl : aF CF1 rec n 38 args h = E47 rec n (cf Tryz.f38) x0 (aQ CF1 Tryz.f38) (aJ args) h).trans ((congrFun (congrFun (dDr rec n) (aJ args)) h).trans (by kernel_rfl))
noncomputable def t50 (rec : FuncId → List DV → Hp → aG) (n : Nat) (x0 x1 : DV) (h0 : Hp) : aG :=
 bnd (aP x0 h0) fun v1 h1 =>
 bnd (aB 0 v1 h1) fun v2 h2 =>
 bnd (aA v2 h2) fun v3 h3 =>
 bnd (rec 85 [x0, x1] h3) fun v4 h4 =>
 cnd (bD (aA v2 h4) v3 && true) (
 bnd (aD .add v4 (.i .i64 (Int.ofNat 1)) h4) fun v5 h5 =>
 bnd (aI 1 v3 v5 h5) fun v6 h6 =>
 bnd (aA v6 h6) fun v7 h7 =>
 some (v7, h7))
noncomputable def E50 (rec : FuncId → List DV → Hp → aG) (n : Nat) (c : Code) (X : Nat → K) (k : K) : K := aM CF1 rec 15 n c X (aQ CF1 Tryz.f104) k
theorem dHg (rec : FuncId → List DV → Hp → aG) (n : Nat) : E50 rec n (cf Tryz.f104) x0 (aQ CF1 Tryz.f104) = (fun (env : aS) (h : Hp) => t50 rec n (env 0) (env 1) h) :=
 (by kernel_rfl)
theorem cXb (rec : FuncId → List DV → Hp → aG) (n : Nat) (args : List DV) (h : Hp) : aF CF1 rec n 104 args h = t50 rec n (args.getD 0 aV) (args.getD 1 aV) h :=
 (by kernel_rfl : aF CF1 rec n 104 args h = E50 rec n (cf Tryz.f104) x0 (aQ CF1 Tryz.f104) (aJ args) h).trans ((congrFun (congrFun (dHg rec n) (aJ args)) h).trans (by kernel_rfl))
noncomputable def t51 (rec : FuncId → List DV → Hp → aG) (n : Nat) (x0 x1 : DV) (h0 : Hp) : aG :=
 bnd (aP x0 h0) fun v1 h1 =>
 bnd (aB 0 v1 h1) fun v2 h2 =>
 bnd (aA v2 h2) fun v3 h3 =>
 bnd (rec 85 [x0, x1] h3) fun v4 h4 =>
 cnd (bD (aA v2 h4) v3 && true) (
 bnd (aI 1 v3 v4 h4) fun v5 h5 =>
 bnd (aA v5 h5) fun v6 h6 =>
 bnd (aD .and v6 (.i .i64 (Int.ofNat 3)) h6) fun v7 h7 =>
 some (v7, h7))
noncomputable def E51 (rec : FuncId → List DV → Hp → aG) (n : Nat) (c : Code) (X : Nat → K) (k : K) : K := aM CF1 rec 15 n c X (aQ CF1 Tryz.f90) k
theorem dGz (rec : FuncId → List DV → Hp → aG) (n : Nat) : E51 rec n (cf Tryz.f90) x0 (aQ CF1 Tryz.f90) = (fun (env : aS) (h : Hp) => t51 rec n (env 0) (env 1) h) :=
 (by kernel_rfl)
theorem dAm (rec : FuncId → List DV → Hp → aG) (n : Nat) (args : List DV) (h : Hp) : aF CF1 rec n 90 args h = t51 rec n (args.getD 0 aV) (args.getD 1 aV) h :=
 (by kernel_rfl : aF CF1 rec n 90 args h = E51 rec n (cf Tryz.f90) x0 (aQ CF1 Tryz.f90) (aJ args) h).trans ((congrFun (congrFun (dGz rec n) (aJ args)) h).trans (by kernel_rfl))
noncomputable def t52 (rec : FuncId → List DV → Hp → aG) (n : Nat) (x0 x1 : DV) (h0 : Hp) : aG :=
 bnd (aP x0 h0) fun v1 h1 =>
 bnd (aB 0 v1 h1) fun v2 h2 =>
 bnd (aA v2 h2) fun v3 h3 =>
 bnd (rec 85 [x0, x1] h3) fun v4 h4 =>
 cnd (bD (aA v2 h4) v3 && true) (
 bnd (aI 1 v3 v4 h4) fun v5 h5 =>
 bnd (aA v5 h5) fun v6 h6 =>
 bnd (dB .shr v6 (.i .u64 (Int.ofNat 2)) h6) fun v7 h7 =>
 some (v7, h7))
noncomputable def E52 (rec : FuncId → List DV → Hp → aG) (n : Nat) (c : Code) (X : Nat → K) (k : K) : K := aM CF1 rec 15 n c X (aQ CF1 Tryz.f73) k
theorem dEf (rec : FuncId → List DV → Hp → aG) (n : Nat) : E52 rec n (cf Tryz.f73) x0 (aQ CF1 Tryz.f73) = (fun (env : aS) (h : Hp) => t52 rec n (env 0) (env 1) h) :=
 (by kernel_rfl)
theorem cZb (rec : FuncId → List DV → Hp → aG) (n : Nat) (args : List DV) (h : Hp) : aF CF1 rec n 73 args h = t52 rec n (args.getD 0 aV) (args.getD 1 aV) h :=
 (by kernel_rfl : aF CF1 rec n 73 args h = E52 rec n (cf Tryz.f73) x0 (aQ CF1 Tryz.f73) (aJ args) h).trans ((congrFun (congrFun (dEf rec n) (aJ args)) h).trans (by kernel_rfl))
noncomputable def t54 (rec : FuncId → List DV → Hp → aG) (n : Nat) (x0 : DV) (h0 : Hp) : aG :=
 bnd (aD .and x0 (.i .i64 (Int.ofNat 1)) h0) fun v1 h1 =>
 bnd (aD .eql v1 (.i .i64 (Int.ofNat 1)) h1) fun v2 h2 =>
 bnd (gD v2 true (some (x0, h2)) h2) fun v3 h3 =>
 bnd (gD v2 true (dB .shr v3 (.i .u64 (Int.ofNat 1)) h3) h3) fun v4 h4 =>
 bnd (gD v2 true (rec 97 [v4, (.i .i64 (Int.negSucc 1073741823)), (.i .i64 (Int.ofNat 1073741823))] h4) h4) fun v5 h5 =>
 bnd (aO v2 v5 (.b false) h5) fun v6 h6 =>
 some (v6, h6)
noncomputable def E54 (rec : FuncId → List DV → Hp → aG) (n : Nat) (c : Code) (X : Nat → K) (k : K) : K := aM CF1 rec 11 n c X (aQ CF1 Tryz.f45) k
theorem dEg (rec : FuncId → List DV → Hp → aG) (n : Nat) : E54 rec n (cf Tryz.f45) x0 (aQ CF1 Tryz.f45) = (fun (env : aS) (h : Hp) => t54 rec n (env 0) h) :=
 (by kernel_rfl)
theorem cWy (rec : FuncId → List DV → Hp → aG) (n : Nat) (args : List DV) (h : Hp) : aF CF1 rec n 45 args h = t54 rec n (args.getD 0 aV) h :=
 (by kernel_rfl : aF CF1 rec n 45 args h = E54 rec n (cf Tryz.f45) x0 (aQ CF1 Tryz.f45) (aJ args) h).trans ((congrFun (congrFun (dEg rec n) (aJ args)) h).trans (by kernel_rfl))
noncomputable def t60 (rec : FuncId → List DV → Hp → aG) (n : Nat) (x0 : DV) (h0 : Hp) : aG :=
 bnd (rec 97 [x0, (.i .i64 (Int.negSucc 1073741823)), (.i .i64 (Int.ofNat 1073741823))] h0) fun v1 h1 =>
 bnd (fL .not v1 h1) fun v2 h2 =>
 aU v2 (
  some (.t [(.i .i64 (Int.ofNat 0)), (.b false)], h2)) (
  bnd (dB .shl x0 (.i .u64 (Int.ofNat 1)) h2) fun v3 h3 =>
  bnd (aD .or v3 (.i .i64 (Int.ofNat 1)) h3) fun v4 h4 =>
  some (.t [v4, (.b true)], h4))
noncomputable def E60 (rec : FuncId → List DV → Hp → aG) (n : Nat) (c : Code) (X : Nat → K) (k : K) : K := aM CF1 rec 10 n c X (aQ CF1 Tryz.f88) k
theorem dFv (rec : FuncId → List DV → Hp → aG) (n : Nat) : E60 rec n (cf Tryz.f88) x0 (aQ CF1 Tryz.f88) = (fun (env : aS) (h : Hp) => t60 rec n (env 0) h) :=
 (by kernel_rfl)
theorem cWb (rec : FuncId → List DV → Hp → aG) (n : Nat) (args : List DV) (h : Hp) : aF CF1 rec n 88 args h = t60 rec n (args.getD 0 aV) h :=
 (by kernel_rfl : aF CF1 rec n 88 args h = E60 rec n (cf Tryz.f88) x0 (aQ CF1 Tryz.f88) (aJ args) h).trans ((congrFun (congrFun (dFv rec n) (aJ args)) h).trans (by kernel_rfl))
noncomputable def t62 (rec : FuncId → List DV → Hp → aG) (n : Nat) (x0 : DV) (h0 : Hp) : aG :=
 bnd (rec 45 [x0] h0) fun v1 h1 =>
 bnd (fL .not v1 h1) fun v2 h2 =>
 aU v2 (
  some ((.i .i64 (Int.ofNat 0)), h2)) (
  bnd (dB .shr x0 (.i .u64 (Int.ofNat 1)) h2) fun v3 h3 =>
  some (v3, h3))
noncomputable def E62 (rec : FuncId → List DV → Hp → aG) (n : Nat) (c : Code) (X : Nat → K) (k : K) : K := aM CF1 rec 8 n c X (aQ CF1 Tryz.f122) k
theorem dGh (rec : FuncId → List DV → Hp → aG) (n : Nat) : E62 rec n (cf Tryz.f122) x0 (aQ CF1 Tryz.f122) = (fun (env : aS) (h : Hp) => t62 rec n (env 0) h) :=
 (by kernel_rfl)
theorem cWn (rec : FuncId → List DV → Hp → aG) (n : Nat) (args : List DV) (h : Hp) : aF CF1 rec n 122 args h = t62 rec n (args.getD 0 aV) h :=
 (by kernel_rfl : aF CF1 rec n 122 args h = E62 rec n (cf Tryz.f122) x0 (aQ CF1 Tryz.f122) (aJ args) h).trans ((congrFun (congrFun (dGh rec n) (aJ args)) h).trans (by kernel_rfl))
noncomputable def t63 (rec : FuncId → List DV → Hp → aG) (n : Nat) (x0 : DV) (h0 : Hp) : aG :=
 bnd (aD .and x0 (.i .i64 (Int.ofNat 1)) h0) fun v1 h1 =>
 bnd (aD .eql v1 (.i .i64 (Int.ofNat 0)) h1) fun v2 h2 =>
 bnd (gD v2 true (some (x0, h2)) h2) fun v3 h3 =>
 bnd (gD v2 true (dB .shr v3 (.i .u64 (Int.ofNat 1)) h3) h3) fun v4 h4 =>
 bnd (gD v2 true (rec 97 [v4, (.i .i64 (Int.ofNat 3)), (.i .i64 (Int.ofNat 131072))] h4) h4) fun v5 h5 =>
 bnd (aO v2 v5 (.b false) h5) fun v6 h6 =>
 some (v6, h6)
noncomputable def E63 (rec : FuncId → List DV → Hp → aG) (n : Nat) (c : Code) (X : Nat → K) (k : K) : K := aM CF1 rec 11 n c X (aQ CF1 Tryz.f98) k
theorem dFw (rec : FuncId → List DV → Hp → aG) (n : Nat) : E63 rec n (cf Tryz.f98) x0 (aQ CF1 Tryz.f98) = (fun (env : aS) (h : Hp) => t63 rec n (env 0) h) :=
 (by kernel_rfl)
theorem dCl (rec : FuncId → List DV → Hp → aG) (n : Nat) (args : List DV) (h : Hp) : aF CF1 rec n 98 args h = t63 rec n (args.getD 0 aV) h :=
 (by kernel_rfl : aF CF1 rec n 98 args h = E63 rec n (cf Tryz.f98) x0 (aQ CF1 Tryz.f98) (aJ args) h).trans ((congrFun (congrFun (dFw rec n) (aJ args)) h).trans (by kernel_rfl))
noncomputable def t64 (rec : FuncId → List DV → Hp → aG) (n : Nat) (x0 : DV) (h0 : Hp) : aG :=
 bnd (rec 98 [x0] h0) fun v1 h1 =>
 bnd (fL .not v1 h1) fun v2 h2 =>
 aU v2 (
  some ((.i .i64 (Int.ofNat 0)), h2)) (
  bnd (dB .shr x0 (.i .u64 (Int.ofNat 1)) h2) fun v3 h3 =>
  some (v3, h3))
noncomputable def E64 (rec : FuncId → List DV → Hp → aG) (n : Nat) (c : Code) (X : Nat → K) (k : K) : K := aM CF1 rec 8 n c X (aQ CF1 Tryz.f99) k
theorem dGu (rec : FuncId → List DV → Hp → aG) (n : Nat) : E64 rec n (cf Tryz.f99) x0 (aQ CF1 Tryz.f99) = (fun (env : aS) (h : Hp) => t64 rec n (env 0) h) :=
 (by kernel_rfl)
theorem dCu (rec : FuncId → List DV → Hp → aG) (n : Nat) (args : List DV) (h : Hp) : aF CF1 rec n 99 args h = t64 rec n (args.getD 0 aV) h :=
 (by kernel_rfl : aF CF1 rec n 99 args h = E64 rec n (cf Tryz.f99) x0 (aQ CF1 Tryz.f99) (aJ args) h).trans ((congrFun (congrFun (dGu rec n) (aJ args)) h).trans (by kernel_rfl))
noncomputable def t73 (rec : FuncId → List DV → Hp → aG) (n : Nat) (x0 x1 x2 : DV) (h0 : Hp) : aG :=
 bnd (rec 89 [x0, x1, x2] h0) fun v1 h1 =>
 bnd (aC 0 v1 h1) fun v2 h2 =>
 bnd (aC 1 v1 h2) fun v3 h3 =>
 bnd (aD .neq v3 (.i .i64 (Int.ofNat 0)) h3) fun v4 h4 =>
 aU v4 (
  some (.t [(.i .i64 (Int.ofNat 0)), v3], h4)) (
  bnd (aP x0 h4) fun v5 h5 =>
  bnd (aB 0 v5 h5) fun v6 h6 =>
  bnd (aA v6 h6) fun v7 h7 =>
  bnd (aI 1 v7 v2 h7) fun v8 h8 =>
  bnd (aA v8 h8) fun v9 h9 =>
  some (.t [v9, (.i .i64 (Int.ofNat 0))], h9))
noncomputable def E73 (rec : FuncId → List DV → Hp → aG) (n : Nat) (c : Code) (X : Nat → K) (k : K) : K := aM CF1 rec 27 n c X (aQ CF1 Tryz.f52) k
theorem dGo (rec : FuncId → List DV → Hp → aG) (n : Nat) : E73 rec n (cf Tryz.f52) x0 (aQ CF1 Tryz.f52) = (fun (env : aS) (h : Hp) => t73 rec n (env 0) (env 1) (env 2) h) :=
 (by kernel_rfl)
theorem cJi (rec : FuncId → List DV → Hp → aG) (n : Nat) (args : List DV) (h : Hp) : aF CF1 rec n 52 args h = t73 rec n (args.getD 0 aV) (args.getD 1 aV) (args.getD 2 aV) h :=
 (by kernel_rfl : aF CF1 rec n 52 args h = E73 rec n (cf Tryz.f52) x0 (aQ CF1 Tryz.f52) (aJ args) h).trans ((congrFun (congrFun (dGo rec n) (aJ args)) h).trans (by kernel_rfl))
noncomputable def t74 (rec : FuncId → List DV → Hp → aG) (n : Nat) (x0 x1 : DV) (h0 : Hp) : aG :=
 bnd (aD .eql x1 (.i .i64 (Int.ofNat 0)) h0) fun v1 h1 =>
 bnd (gD v1 false (some (x0, h1)) h1) fun v2 h2 =>
 bnd (gD v1 false (some (x1, h2)) h2) fun v3 h3 =>
 bnd (gD v1 false (rec 46 [v2, v3] h3) h3) fun v4 h4 =>
 bnd (aO v1 (.b true) v4 h4) fun v5 h5 =>
 some (v5, h5)
noncomputable def E74 (rec : FuncId → List DV → Hp → aG) (n : Nat) (c : Code) (X : Nat → K) (k : K) : K := aM CF1 rec 12 n c X (aQ CF1 Tryz.f74) k
theorem dEc (rec : FuncId → List DV → Hp → aG) (n : Nat) : E74 rec n (cf Tryz.f74) x0 (aQ CF1 Tryz.f74) = (fun (env : aS) (h : Hp) => t74 rec n (env 0) (env 1) h) :=
 (by kernel_rfl)
theorem cXa (rec : FuncId → List DV → Hp → aG) (n : Nat) (args : List DV) (h : Hp) : aF CF1 rec n 74 args h = t74 rec n (args.getD 0 aV) (args.getD 1 aV) h :=
 (by kernel_rfl : aF CF1 rec n 74 args h = E74 rec n (cf Tryz.f74) x0 (aQ CF1 Tryz.f74) (aJ args) h).trans ((congrFun (congrFun (dEc rec n) (aJ args)) h).trans (by kernel_rfl))
noncomputable def t75 (rec : FuncId → List DV → Hp → aG) (n : Nat) (x0 : DV) (h0 : Hp) : aG :=
 bnd (rec 97 [x0, (.i .i64 (Int.ofNat 3)), (.i .i64 (Int.ofNat 131072))] h0) fun v1 h1 =>
 bnd (fL .not v1 h1) fun v2 h2 =>
 aU v2 (
  some (.t [(.i .i64 (Int.ofNat 0)), (.b false)], h2)) (
  bnd (dB .shl x0 (.i .u64 (Int.ofNat 1)) h2) fun v3 h3 =>
  some (.t [v3, (.b true)], h3))
noncomputable def E75 (rec : FuncId → List DV → Hp → aG) (n : Nat) (c : Code) (X : Nat → K) (k : K) : K := aM CF1 rec 9 n c X (aQ CF1 Tryz.f76) k
theorem dHi (rec : FuncId → List DV → Hp → aG) (n : Nat) : E75 rec n (cf Tryz.f76) x0 (aQ CF1 Tryz.f76) = (fun (env : aS) (h : Hp) => t75 rec n (env 0) h) :=
 (by kernel_rfl)
theorem dAu (rec : FuncId → List DV → Hp → aG) (n : Nat) (args : List DV) (h : Hp) : aF CF1 rec n 76 args h = t75 rec n (args.getD 0 aV) h :=
 (by kernel_rfl : aF CF1 rec n 76 args h = E75 rec n (cf Tryz.f76) x0 (aQ CF1 Tryz.f76) (aJ args) h).trans ((congrFun (congrFun (dHi rec n) (aJ args)) h).trans (by kernel_rfl))
noncomputable def cJv (rec : FuncId → List DV → Hp → aG) (n : Nat) (x0 x1 : DV) (h0 : Hp) : aG :=
 bnd (rec 46 [x0, x1] h0) fun v1 h1 =>
 bnd (fL .not v1 h1) fun v2 h2 =>
 aU v2 (
  some ((.i .i64 (Int.ofNat 0)), h2)) (
  bnd (rec 99 [x1] h2) fun v3 h3 =>
  some (v3, h3))
noncomputable def cZx (rec : FuncId → List DV → Hp → aG) (n : Nat) (c : Code) (X : Nat → K) (k : K) : K := aM CF1 rec 11 n c X (aQ CF1 Tryz.f85) k
theorem cVu (rec : FuncId → List DV → Hp → aG) (n : Nat) : cZx rec n (cf Tryz.f85) x0 (aQ CF1 Tryz.f85) = (fun (env : aS) (h : Hp) => cJv rec n (env 0) (env 1) h) :=
 (by kernel_rfl)
theorem cMd (rec : FuncId → List DV → Hp → aG) (n : Nat) (args : List DV) (h : Hp) : aF CF1 rec n 85 args h = cJv rec n (args.getD 0 aV) (args.getD 1 aV) h :=
 (by kernel_rfl : aF CF1 rec n 85 args h = cZx rec n (cf Tryz.f85) x0 (aQ CF1 Tryz.f85) (aJ args) h).trans ((congrFun (congrFun (cVu rec n) (aJ args)) h).trans (by kernel_rfl))
noncomputable def aYt (rec : FuncId → List DV → Hp → aG) (n : Nat) (x0 x1 x2 : DV) (h0 : Hp) : aG :=
 bnd (rec 85 [x0, x1] h0) fun v1 h1 =>
 bnd (aD .eql v1 (.i .i64 (Int.ofNat 0)) h1) fun v2 h2 =>
 aU v2 (
  some (.t [(.i .i64 (Int.ofNat 0)), (.i .i64 (Int.ofNat 1))], h2)) (
  bnd (aD .lss x2 (.i .i64 (Int.ofNat 0)) h2) fun v3 h3 =>
  bnd (gD v3 false (some (x2, h3)) h3) fun v4 h4 =>
  bnd (gD v3 false (some (x0, h4)) h4) fun v5 h5 =>
  bnd (gD v3 false (some (x1, h5)) h5) fun v6 h6 =>
  bnd (gD v3 false (rec 73 [v5, v6] h6) h6) fun v7 h7 =>
  bnd (gD v3 false (aD .geq v4 v7 h7) h7) fun v8 h8 =>
  bnd (aO v3 (.b true) v8 h8) fun v9 h9 =>
  aU v9 (
   some (.t [(.i .i64 (Int.ofNat 0)), (.i .i64 (Int.ofNat 5))], h9)) (
   bnd (aD .add v1 (.i .i64 (Int.ofNat 3)) h9) fun v10 h10 =>
   bnd (aD .add v10 x2 h10) fun v11 h11 =>
   some (.t [v11, (.i .i64 (Int.ofNat 0))], h11)))
noncomputable def cYo (rec : FuncId → List DV → Hp → aG) (n : Nat) (c : Code) (X : Nat → K) (k : K) : K := aM CF1 rec 29 n c X (aQ CF1 Tryz.f89) k
theorem dAp (rec : FuncId → List DV → Hp → aG) (n : Nat) : cYo rec n (cf Tryz.f89) x0 (aQ CF1 Tryz.f89) = (fun (env : aS) (h : Hp) => aYt rec n (env 0) (env 1) (env 2) h) :=
 (by kernel_rfl)
theorem aBh (rec : FuncId → List DV → Hp → aG) (n : Nat) (args : List DV) (h : Hp) : aF CF1 rec n 89 args h = aYt rec n (args.getD 0 aV) (args.getD 1 aV) (args.getD 2 aV) h :=
 (by kernel_rfl : aF CF1 rec n 89 args h = cYo rec n (cf Tryz.f89) x0 (aQ CF1 Tryz.f89) (aJ args) h).trans ((congrFun (congrFun (dAp rec n) (aJ args)) h).trans (by kernel_rfl))
noncomputable def cSz (rec : FuncId → List DV → Hp → aG) (n : Nat) (x0 x1 x2 : DV) (h0 : Hp) : aG :=
 bnd (aD .geq x0 x1 h0) fun v1 h1 =>
 bnd (gD v1 true (some (x0, h1)) h1) fun v2 h2 =>
 bnd (gD v1 true (some (x2, h2)) h2) fun v3 h3 =>
 bnd (gD v1 true (aD .leq v2 v3 h3) h3) fun v4 h4 =>
 bnd (aO v1 v4 (.b false) h4) fun v5 h5 =>
 some (v5, h5)
noncomputable def cWg (rec : FuncId → List DV → Hp → aG) (n : Nat) (c : Code) (X : Nat → K) (k : K) : K := aM CF1 rec 15 n c X (aQ CF1 Tryz.f97) k
theorem dBx (rec : FuncId → List DV → Hp → aG) (n : Nat) : cWg rec n (cf Tryz.f97) x0 (aQ CF1 Tryz.f97) = (fun (env : aS) (h : Hp) => cSz rec n (env 0) (env 1) (env 2) h) :=
 (by kernel_rfl)
theorem cLl (rec : FuncId → List DV → Hp → aG) (n : Nat) (args : List DV) (h : Hp) : aF CF1 rec n 97 args h = cSz rec n (args.getD 0 aV) (args.getD 1 aV) (args.getD 2 aV) h :=
 (by kernel_rfl : aF CF1 rec n 97 args h = cWg rec n (cf Tryz.f97) x0 (aQ CF1 Tryz.f97) (aJ args) h).trans ((congrFun (congrFun (dBx rec n) (aJ args)) h).trans (by kernel_rfl))
end Go.Dd

namespace Go.Dd
theorem mQ {a b : Nat} : Nat.beq a b = decide (a = b) := by
 cases h : Nat.beq a b with
 | true => simp [Nat.eq_of_beq_eq_true h]
 | false =>
  have : a ≠ b := by intro e; subst e; simp at h
  simp [this]
theorem vR {a b : Nat} : Nat.ble a b = decide (a ≤ b) := by
 cases h : Nat.ble a b with
 | true => simp [Nat.le_of_ble_eq_true h]
 | false =>
  have : ¬ a ≤ b := by intro e; rw [Nat.ble_eq_true_of_le e] at h; cases h
  simp [this]
theorem lH {a b : Nat} : Nat.blt a b = decide (a < b) := by
 show Nat.ble (a + 1) b = _
 rw [vR]
 simp [Nat.succ_le_iff]
theorem aIj (w : Int) : (iP w ≠ 0 ↔ (w % 2 = 0 ∧ 3 ≤ w / 2 ∧ w / 2 ≤ 131072)) ∧ (iP w ≠ 0 → (iP w : Int) = w / 2) ∧ iP w ≤ 131072 := by
 cases w with
 | ofNat w =>
  simp only [iP, mQ, vR]
  have e1 : Nat.mod w 2 = w % 2 := rfl
  have e2 : Nat.div w 2 = w / 2 := rfl
  rw [e1, e2]
  by_cases hc : w % 2 = 0 ∧ 6 ≤ w ∧ w ≤ 262144
  ·obtain ⟨h1, h2, h3⟩ := hc
   simp only [h1, h2, h3, decide_true, Bool.and_self, cond_true]
   simp only [Int.ofNat_eq_natCast]
   refine ⟨⟨fun _ => ⟨by omega, by omega, by omega⟩, fun _ => by omega⟩, fun _ => by omega, by omega⟩
  ·have : (decide (w % 2 = 0) && (decide (6 ≤ w) && decide (w ≤ 262144))) = false := by
    rw [← Bool.not_eq_true]
    simpa using hc
   rw [this]
   simp only [cond_false, Int.ofNat_eq_natCast]
   refine ⟨⟨fun h => absurd rfl h, fun h => by omega⟩, fun h => absurd rfl h, by omega⟩
 | negSucc w =>
  simp only [iP]
  refine ⟨⟨fun h => absurd rfl h, fun h => by omega⟩, fun h => absurd rfl h, by omega⟩
theorem aKx (w : Int) : gV w = decide (w % 2 = 1 ∧ -1073741824 ≤ w / 2 ∧ w / 2 ≤ 1073741823) := by
 rw [Bool.eq_iff_iff, decide_eq_true_iff]
 cases w with
 | ofNat w =>
  simp only [gV, mQ, lH, Bool.and_eq_true, decide_eq_true_eq]
  have e1 : Nat.mod w 2 = w % 2 := rfl
  rw [e1]
  simp only [Int.ofNat_eq_natCast]
  omega
 | negSucc w =>
  simp only [gV, mQ, lH, Bool.and_eq_true, decide_eq_true_eq]
  have e1 : Nat.mod w 2 = w % 2 := rfl
  rw [e1]
  omega
theorem aYu (w : Int) : cIy w = w / 2 := by
 cases w with
 | ofNat w => show Int.ofNat (w / 2) = _; simp
 | negSucc w => show Int.negSucc (w / 2) = _; omega
theorem jJ (a : Int) (h : -9223372036854775808 ≤ a ∧ a ≤ 9223372036854775807) : IntKind.i64.wrap a = a := by
 simp [IntKind.wrap, IntKind.signed, IntKind.bits, Int.bmod]
 omega
theorem fT (a : Int) : (BitVec.ofInt 64 a).toNat = (a % 18446744073709551616).toNat := by
 rw [BitVec.toNat_ofInt]
 rfl
theorem dEv (w : Int) : IntKind.i64.wrap (((BitVec.ofInt 64 w &&& BitVec.ofInt 64 1).toNat : Nat) : Int) = w % 2 := by
 rw [BitVec.toNat_and, fT, fT]
 rw [show ((1 : Int) % 18446744073709551616).toNat = 1 from rfl, Nat.and_one_is_mod]
 rw [jJ _ (by omega)]
 omega
theorem dFk (w : Int) : IntKind.i64.wrap (((BitVec.ofInt 64 w &&& BitVec.ofInt 64 3).toNat : Nat) : Int) = w % 4 := by
 rw [BitVec.toNat_and, fT, fT]
 rw [show ((3 : Int) % 18446744073709551616).toNat = 2 ^ 2 - 1 from rfl, Nat.and_two_pow_sub_one_eq_mod]
 rw [jJ _ (by omega)]
 omega
theorem cKc (a : Nat) (k b : Nat) (hb : b < 2 ^ k) (hs : a * 2 ^ k + b < 9223372036854775808) : IntKind.i64.wrap (((BitVec.ofInt 64 ((a * 2 ^ k : Nat) : Int) ||| BitVec.ofInt 64 (b : Int)).toNat : Nat) : Int) = ((a * 2 ^ k + b : Nat) : Int) := by
 have h1 : (BitVec.ofInt 64 ((a * 2 ^ k : Nat) : Int)).toNat = a * 2 ^ k := by rw [fT]; omega
 have h2 : (BitVec.ofInt 64 (b : Int)).toNat = b := by rw [fT]; omega
 rw [BitVec.toNat_or, h1, h2, Nat.mul_comm a, ← Nat.two_pow_add_eq_or_of_lt hb, Nat.mul_comm]
 exact jJ _ (by omega)
theorem aJc (a : Int) (b : Int) (hb : 0 ≤ b) : a.fdiv b = a / b := Int.fdiv_eq_ediv_of_nonneg a hb
theorem gS (k : IntKind) (a b : Int) (h : Hp) : aD .eql (.i k a) (.i k b) h = some (.b (a == b), h) := by simp only [aD, if_true, fQ]
theorem iF (k : IntKind) (a b : Int) (h : Hp) : aD .neq (.i k a) (.i k b) h = some (.b (a != b), h) := by simp only [aD, if_true, fQ]
theorem dR (k : IntKind) (a b : Int) (h : Hp) : aD .lss (.i k a) (.i k b) h = some (.b (decide (a < b)), h) := by simp only [aD, if_true, fQ]
theorem cTq (k : IntKind) (a b : Int) (h : Hp) : aD .leq (.i k a) (.i k b) h = some (.b (decide (a ≤ b)), h) := by simp only [aD, if_true, fQ]
theorem kV (k : IntKind) (a b : Int) (h : Hp) : aD .gtr (.i k a) (.i k b) h = some (.b (decide (a > b)), h) := by simp only [aD, if_true, fQ]
theorem qA (k : IntKind) (a b : Int) (h : Hp) : aD .geq (.i k a) (.i k b) h = some (.b (decide (a ≥ b)), h) := by simp only [aD, if_true, fQ]
theorem jN (a b : Int) (h : Hp) (hr : -9223372036854775808 ≤ a + b ∧ a + b ≤ 9223372036854775807) : aD .add (.i .i64 a) (.i .i64 b) h = some (.i .i64 (a + b), h) := by simp only [aD, if_true, fQ, jJ _ hr]
theorem cPl (a b : Int) (h : Hp) (hr : -9223372036854775808 ≤ a - b ∧ a - b ≤ 9223372036854775807) : aD .sub (.i .i64 a) (.i .i64 b) h = some (.i .i64 (a - b), h) := by simp only [aD, if_true, fQ, jJ _ hr]
theorem aUk (w : Int) (h : Hp) : aD .and (.i .i64 w) (.i .i64 (Int.ofNat 1)) h = some (.i .i64 (w % 2), h) := by
 have : fQ .and .i64 w (Int.ofNat 1) = some (.i .i64 (w % 2)) := by
  rw [← dEv w]; rfl
 simp only [aD, if_true, this]
theorem cBj (w : Int) (h : Hp) : aD .and (.i .i64 w) (.i .i64 (Int.ofNat 3)) h = some (.i .i64 (w % 4), h) := by
 have : fQ .and .i64 w (Int.ofNat 3) = some (.i .i64 (w % 4)) := by
  rw [← dFk w]; rfl
 simp only [aD, if_true, this]
theorem tF (w : Int) (h : Hp) : dB .shr (.i .i64 w) (.i .u64 (Int.ofNat 1)) h = some (.i .i64 (w / 2), h) := by
 have : w.fdiv (2 ^ (min (Int.ofNat 1).toNat IntKind.i64.bits)) = w / 2 := aJc w (2 ^ 1) (by decide)
 simp only [dB, show ¬ ((Int.ofNat 1) < 0) by decide, if_false, this]
theorem bWb (w : Int) (h : Hp) : dB .shr (.i .i64 w) (.i .u64 (Int.ofNat 2)) h = some (.i .i64 (w / 4), h) := by
 have : w.fdiv (2 ^ (min (Int.ofNat 2).toNat IntKind.i64.bits)) = w / 4 := aJc w (2 ^ 2) (by decide)
 simp only [dB, show ¬ ((Int.ofNat 2) < 0) by decide, if_false, this]
theorem aWb (w : Int) (h : Hp) (hr : -4611686018427387904 ≤ w ∧ w ≤ 4611686018427387903) : dB .shl (.i .i64 w) (.i .u64 (Int.ofNat 1)) h = some (.i .i64 (2 * w), h) := by
 have : IntKind.i64.wrap (w * 2 ^ (min (Int.ofNat 1).toNat IntKind.i64.bits)) = 2 * w := by
  rw [show w * 2 ^ (min (Int.ofNat 1).toNat IntKind.i64.bits) = 2 * w from Int.mul_comm w 2]
  exact jJ _ (by omega)
 simp only [dB, show ¬ ((Int.ofNat 1) < 0) by decide, if_false, this]
theorem bZz (w : Int) (h : Hp) (hr : -2305843009213693952 ≤ w ∧ w ≤ 2305843009213693951) : dB .shl (.i .i64 w) (.i .u64 (Int.ofNat 2)) h = some (.i .i64 (4 * w), h) := by
 have : IntKind.i64.wrap (w * 2 ^ (min (Int.ofNat 2).toNat IntKind.i64.bits)) = 4 * w := by
  rw [show w * 2 ^ (min (Int.ofNat 2).toNat IntKind.i64.bits) = 4 * w from Int.mul_comm w 4]
  exact jJ _ (by omega)
 simp only [dB, show ¬ ((Int.ofNat 2) < 0) by decide, if_false, this]
theorem bQc (r : aG) (h : Hp) : gD (.b true) true r h = r := Eq.trans rfl rfl
theorem iG (r : aG) (h : Hp) : gD (.b false) false r h = r := Eq.trans rfl rfl
theorem eV (r : aG) (h : Hp) : gD (.b true) false r h = some (aV, h) := Eq.trans rfl rfl
theorem aQh (r : aG) (h : Hp) : gD (.b false) true r h = some (aV, h) := Eq.trans rfl rfl
theorem aIi (w : Bool) (r : aG) (h : Hp) : gD aV w r h = some (aV, h) := Eq.trans rfl rfl
theorem aZ (v : DV) (h : Hp) (k : DV → Hp → aG) : bnd (some (v, h)) k = k v h := Eq.trans rfl rfl
theorem cN (x y : DV) (h : Hp) : aO (.b true) x y h = some (x, h) := Eq.trans rfl rfl
theorem cP (x y : DV) (h : Hp) : aO (.b false) x y h = some (y, h) := Eq.trans rfl rfl
theorem qX (b : Bool) (h : Hp) : fL .not (.b b) h = some (.b (!b), h) := Eq.trans rfl rfl
theorem cI (a b : aG) : aU (.b true) a b = a := Eq.trans rfl rfl
theorem cX (a b : aG) : aU (.b false) a b = b := Eq.trans rfl rfl
theorem g0 (a : DV) (l : List DV) : (a :: l).getD 0 aV = a := Eq.trans rfl rfl
theorem g1 (a b : DV) (l : List DV) : (a :: b :: l).getD 1 aV = b := Eq.trans rfl rfl
theorem g2 (a b c : DV) (l : List DV) : (a :: b :: c :: l).getD 2 aV = c := Eq.trans rfl rfl
theorem g3 (a b c d : DV) (l : List DV) : (a :: b :: c :: d :: l).getD 3 aV = d := Eq.trans rfl rfl
theorem aQu (n : Nat) (a b c : Int) (h : Hp) : eZ CF1 (n + 1) 97 [.i .i64 a, .i .i64 b, .i .i64 c] h = some (.b (decide (b ≤ a ∧ a ≤ c)), h) := by
 rw [bW 97 rfl, cLl]
 simp only [cSz, g0, g1, g2, qA, aZ]
 by_cases h1 : b ≤ a
 ·simp only [ge_iff_le, h1, decide_true, bQc, aZ, cTq, cN, true_and]
 ·simp only [ge_iff_le, h1, decide_false, aQh, aZ, cP, false_and]
theorem cOw (n : Nat) (w : Int) (h : Hp) : eZ CF1 (n + 2) 45 [.i .i64 w] h = some (.b (gV w), h) := by
 rw [bW 45 rfl, cWy]
 simp only [t54, g0, aUk, aZ, gS, aKx]
 by_cases h1 : w % 2 = 1
 ·have e : (w % 2 == Int.ofNat 1) = true := by simpa using h1
  rw [e]
  simp only [bQc, aZ, tF, aQu, cN, h1, true_and]
  rfl
 ·have e : (w % 2 == Int.ofNat 1) = false := by simpa using h1
  rw [e]
  simp only [aQh, aZ, cP, h1, false_and, decide_false]
theorem cXs (n : Nat) (w : Int) (h : Hp) : eZ CF1 (n + 2) 98 [.i .i64 w] h = some (.b (!(Nat.beq (iP w) 0)), h) := by
 rw [bW 98 rfl, dCl]
 simp only [t63, g0, aUk, aZ, gS, mQ]
 have hp := (aIj w).1
 by_cases h1 : w % 2 = 0
 ·have e : (w % 2 == Int.ofNat 0) = true := by simpa using h1
  rw [e]
  simp only [bQc, aZ, tF, aQu, cN]
  by_cases h2 : iP w = 0
  ·have : ¬ (Int.ofNat 3 ≤ w / 2 ∧ w / 2 ≤ Int.ofNat 131072) := fun h => (hp.2 ⟨h1, h⟩) h2
   simp only [h2, this, decide_true, Bool.not_true, decide_false]
  ·have : Int.ofNat 3 ≤ w / 2 ∧ w / 2 ≤ Int.ofNat 131072 := (hp.1 h2).2
   simp only [h2, this, decide_false, Bool.not_false, and_self, decide_true]
 ·have h2 : iP w = 0 := by
   by_cases h2 : iP w = 0
   ·exact h2
   ·exact absurd (hp.1 h2).1 h1
  have e : (w % 2 == Int.ofNat 0) = false := by simpa using h1
  rw [e]
  simp only [aQh, aZ, cP, h2, decide_true, Bool.not_true]
theorem cZv (n : Nat) (w : Int) (h : Hp) : eZ CF1 (n + 3) 99 [.i .i64 w] h = some (.i .i64 (iP w), h) := by
 rw [bW 99 rfl, dCu]
 simp only [t64, g0, cXs, aZ, qX, mQ]
 by_cases h2 : iP w = 0
 ·simp only [h2, decide_true, Bool.not_true, Bool.not_false, cI]; rfl
 ·have hp := (aIj w).2.1 h2
  simp only [h2, decide_false, Bool.not_false, Bool.not_true, cX, tF, aZ, hp]
theorem dBw (n : Nat) (w : Int) (h : Hp) : eZ CF1 (n + 2) 88 [.i .i64 w] h = some (if -1073741824 ≤ w ∧ w ≤ 1073741823 then .t [.i .i64 (2 * w + 1), .b true] else .t [.i .i64 0, .b false], h) := by
 rw [bW 88 rfl, cWb]
 simp only [t60, g0, aQu, aZ, qX]
 by_cases h1 : -1073741824 ≤ w ∧ w ≤ 1073741823
 ·have h1' : Int.negSucc 1073741823 ≤ w ∧ w ≤ Int.ofNat 1073741823 := h1
  rw [if_pos h1]
  simp only [h1', decide_true, and_self, cX, Bool.not_true]
  rw [aWb w h (by omega)]
  have hb : fQ .or .i64 (2 * w) (Int.ofNat 1) = some (.i .i64 (2 * w + 1)) := by
   have : IntKind.i64.wrap (((BitVec.ofInt 64 (2 * w) ||| BitVec.ofInt 64 (Int.ofNat 1)).toNat : Nat) : Int) = 2 * w + 1 := by
    rw [BitVec.toNat_or, fT, fT]
    rw [show ((Int.ofNat 1) % 18446744073709551616).toNat = 1 from rfl]
    obtain ⟨q, hq⟩ : ∃ q : Nat, ((2 * w) % 18446744073709551616).toNat = 2 ^ 1 * q := ⟨((2 * w) % 18446744073709551616).toNat / 2, by omega⟩
    rw [hq, ← Nat.two_pow_add_eq_or_of_lt (show 1 < 2 ^ 1 by omega)]
    rw [← hq]
    simp [IntKind.wrap, IntKind.signed, IntKind.bits, Int.bmod]
    omega
   rw [← this]; rfl
  simp only [aZ, aD, if_true, hb]
 ·have h1' : ¬ (Int.negSucc 1073741823 ≤ w ∧ w ≤ Int.ofNat 1073741823) := h1
  rw [if_neg h1]
  simp only [h1', decide_false, cI, Bool.not_false]
  rfl
theorem dGf (n : Nat) (w : Int) (h : Hp) : eZ CF1 (n + 3) 122 [.i .i64 w] h = some (if gV w then .i .i64 (w / 2) else .i .i64 0, h) := by
 rw [bW 122 rfl, cWn]
 simp only [t62, g0, cOw, aZ, qX]
 cases gV w with
 | false => rfl
 | true => simp only [Bool.not_true, cX, tF, aZ, if_true]
theorem dEx (n : Nat) (a : Int) (h : Hp) : eZ CF1 (n + 2) 76 [.i .i64 a] h = some (if 3 ≤ a ∧ a ≤ 131072 then .t [.i .i64 (2 * a), .b true] else .t [.i .i64 0, .b false], h) := by
 rw [bW 76 rfl, dAu]
 simp only [t75, g0, aQu, aZ, qX]
 by_cases h1 : 3 ≤ a ∧ a ≤ 131072
 ·have h1' : Int.ofNat 3 ≤ a ∧ a ≤ Int.ofNat 131072 := h1
  rw [if_pos h1]
  simp only [h1', decide_true, and_self, cX, Bool.not_true]
  rw [aWb a h (by omega)]
  rfl
 ·have h1' : ¬ (Int.ofNat 3 ≤ a ∧ a ≤ Int.ofNat 131072) := h1
  rw [if_neg h1]
  simp only [h1', decide_false, cI, Bool.not_false]
  rfl
end Go.Dd

namespace Go.Dd
structure ML (m : Pos) (M : MemV) (h : Hp) : Prop where
 row : h.bl.get m = some (.row .ex [.l M.wb 0 M.n M.n, .i .i64 (Int.ofNat M.fin), .i .i64 (Int.ofNat M.made), .m M.pb])
 words : h.bl.get M.wb = some (.row .ex (gM M.n M.t))
 places : ∃ es, h.bl.get M.pb = some (.mp es) ∧ ∀ a : Int, gO (.int .i64) (.i .i64 a) es = some (if 0 ≤ a ∧ M.pl.get a.toNat ≠ 0 then some (.b true) else none)
 n_lt : M.n < 1000000
 fin_le : M.fin ≤ M.n
 made_lt : M.made < 2000000
 d1 : m ≠ M.wb
 d2 : m ≠ M.pb
 d3 : M.wb ≠ M.pb
theorem iM {m : Pos} {M : MemV} {h : Hp} (hm : gQ m h = some M) :
  h.bl.get m = some (.row .ex [.l M.wb 0 M.n M.n, .i .i64 (Int.ofNat M.fin), .i .i64 (Int.ofNat M.made), .m M.pb]) ∧ h.bl.get M.wb = some (.big M.n M.t) ∧ h.bl.get M.pb = some (.mi M.pl) ∧ M.n < 1000000 ∧ M.fin ≤ M.n ∧ M.made < 1000000 := by
 unfold gQ at hm
 split at hm <;> (try (cases hm; done))
 rename_i wb n c fin made pb hr
 split at hm <;> (try (cases hm; done))
 rename_i n' t pl h1 h2
 cases hb : (Nat.beq n n' && Nat.beq n c) with
 | false => rw [hb] at hm; cases hm
 | true =>
  rw [hb] at hm
  simp only [cond_true] at hm
  cases hc : (Nat.blt n 1000000 && (Nat.ble fin n && Nat.blt made 1000000)) with
  | false => rw [hc] at hm; cases hm
  | true =>
   rw [hc] at hm
   simp only [cond_true, bB] at hm
   subst hm
   simp only [mQ, vR, lH, Bool.and_eq_true, decide_eq_true_eq] at hb hc
   obtain ⟨rfl, rfl⟩ := hb
   exact ⟨hr, h1, h2, hc.1, hc.2.1, hc.2.2⟩
theorem eP {m : Pos} {M : MemV} {h h' : Hp} (hm : gQ m h = some M) (S : Sim false h h') : ML m M h' := by
 obtain ⟨h1, h2, h3, h4, h5, h6⟩ := iM hm
 refine ⟨S.row h1, ?_, ?_, h4, h5, by omega, fun e => by (rw [e, h2] at h1; cases h1), fun e => by (rw [e, h3] at h1; cases h1), fun e => by (rw [e, h3] at h2; cases h2)⟩
 ·obtain ⟨o', e1, e2⟩ := S.get _ _ h2
  have e2' : o' = .row .ex (gM M.n M.t) := by simpa [aH, rL] using e2
  rw [e1, e2']
 ·obtain ⟨o', e1, e2⟩ := S.get _ _ h3
  have e2' : ∃ es, o' = .mp es ∧ ∀ a : Int, gO (.int .i64) (.i .i64 a) es = some (if 0 ≤ a ∧ M.pl.get a.toNat ≠ 0 then some (.b true) else none) := by simpa [aH, rL] using e2
  obtain ⟨es, rfl, e3⟩ := e2'
  exact ⟨es, e1, e3⟩
section
variable {m : Pos} {M : MemV} {h : Hp}
theorem gK (b : Pos) (o : Nat) (h : Hp) : aP (.p b o) h = some (.p b o, h) := Eq.trans rfl rfl
theorem dM (k : Nat) (b : Pos) (o : Nat) (h : Hp) : aB k (.p b o) h = some (.p b (o + k), h) := Eq.trans rfl rfl
theorem ML.l0 (H : ML m M h) : aA (.p m (0 + 0)) h = some (.l M.wb 0 M.n M.n, h) := by
 simp [aA, cellD, rowOf, H.row, DV.one]
theorem ML.l1 (H : ML m M h) : aA (.p m (0 + 1)) h = some (.i .i64 (Int.ofNat M.fin), h) := by
 simp [aA, cellD, rowOf, H.row, DV.one]
theorem ML.l2 (H : ML m M h) : aA (.p m (0 + 2)) h = some (.i .i64 (Int.ofNat M.made), h) := by
 simp [aA, cellD, rowOf, H.row, DV.one]
theorem ML.l3 (H : ML m M h) : aA (.p m (0 + 3)) h = some (.m M.pb, h) := by
 simp [aA, cellD, rowOf, H.row, DV.one]
theorem kD {n : Nat} {t : WT} {i : Nat} (h : i < n) : (gM n t)[i]? = some (.i .i64 (t.get i)) := by
 simp [gM, h]
theorem ML.ix (H : ML m M h) {a : Nat} (ha : a < M.n) : aI 1 (.l M.wb 0 M.n M.n) (.i .i64 (a : Int)) h = some (.p M.wb a, h) := by
 have : (0 : Int) ≤ (a : Int) ∧ (a : Int) < (M.n : Int) := by omega
 simp [aI, this]
theorem ML.ld (H : ML m M h) {a : Nat} (ha : a < M.n) : aA (.p M.wb a) h = some (.i .i64 (M.t.get a), h) := by
 simp [aA, cellD, rowOf, H.words, kD ha, DV.one]
theorem aLf (o : Int) (pl : WT) : dX o pl = 0 ∨ (dX o pl = iP o ∧ iP o ≠ 0) := by
 unfold dX
 by_cases h0 : iP o = 0
 ·simp [h0, mQ]
 ·simp only [mQ, h0, decide_false, cond_false]
  split
  ·exact .inl rfl
  ·exact .inr ⟨rfl, h0⟩
theorem atN_pos {o : Int} {pl : WT} : (dX o pl ≠ 0) ↔ (iP o ≠ 0 ∧ pl.get (iP o) ≠ 0) := by
 unfold dX
 by_cases h0 : iP o = 0
 ·simp [h0, mQ]
 ·simp only [mQ, h0, decide_false, cond_false]
  split
  ·rename_i e; simp [e]
  ·rename_i e
   refine ⟨fun _ => ⟨h0, fun e' => e (by rw [e']; rfl)⟩, fun _ => h0⟩
theorem ML.lookup (H : ML m M h) (a : Nat) : eS (.int .i64) (.b false) false (.m M.pb) (.i .i64 (a : Int)) h = some (.b (decide (M.pl.get a ≠ 0)), h) := by
 obtain ⟨es, h1, h2⟩ := H.places
 have := h2 a
 simp only [Int.toNat_natCast] at this
 simp only [eS, jA, h1, this]
 by_cases hc : M.pl.get a = 0
 ·simp [hc]
 ·simp [hc]
theorem kX {r : aG} {v : DV} {h : Hp} (hr : r = some (v, h)) (hv : DV.beq v v = true) : bD r v = true := by
 rw [hr]; exact hv
theorem cVn (b : Pos) : DV.beq (.m b) (.m b) = true := by simp [DV.beq]
theorem bRo (b : Pos) (o n c : Nat) : DV.beq (.l b o n c) (.l b o n c) = true := by simp [DV.beq]
theorem cGe (H : ML m M h) (n : Nat) (w : Int) : eZ CF1 (n + 4) 46 [.p m 0, .i .i64 w] h = some (.b (!(Nat.beq (dX w M.pl) 0)), h) := by
 rw [bW 46 rfl, dBl]
 simp only [t21, g0, g1, cXs, aZ, mQ]
 by_cases h0 : iP w = 0
 ·have : dX w M.pl = 0 := by
   rcases aLf w M.pl with e | ⟨e, e'⟩
   ·exact e
   ·exact absurd h0 e'
  simp only [h0, decide_true, Bool.not_true, aQh, aZ, this]
  simp [bD, aV, DV.beq, dIt, cnd, bnd, aO]
 ·simp only [h0, decide_false, Bool.not_false, bQc, aZ, gK, dM, H.l3, cZv]
  rw [kX rfl (cVn _), Bool.and_self]
  simp only [cnd, H.lookup, aZ, cN]
  by_cases h1 : M.pl.get (iP w) = 0
  ·have : dX w M.pl = 0 := by
    by_cases e : dX w M.pl = 0
    ·exact e
    ·exact absurd h1 (atN_pos.1 e).2
   simp [h1, this]
  ·have : dX w M.pl ≠ 0 := atN_pos.2 ⟨h0, h1⟩
   simp [h1, this]
theorem dFy (H : ML m M h) (n : Nat) : eZ CF1 (n + 1) 94 [.p m 0] h = some (.i .i64 (Int.ofNat M.n), h) := by
 rw [bW 94 rfl, dBp]
 simp only [t22, g0, aZ, gK, dM, H.l0]
 rfl
theorem dAt (H : ML m M h) (n : Nat) : eZ CF1 (n + 1) 75 [.p m 0] h = some (.i .i64 (Int.ofNat (M.n - M.fin)), h) := by
 rw [bW 75 rfl, dCh]
 have h1 := H.n_lt
 have h2 := H.fin_le
 have e : bQ (.l M.wb 0 M.n M.n) h = some (.i .i64 (M.n : Int), h) := rfl
 simp only [t29, g0, aZ, gK, dM, H.l0, H.l1, e]
 rw [cPl _ _ _ (by simp only [Int.ofNat_eq_natCast]; omega)]
 simp only [aZ]
 congr 3
 simp only [Int.ofNat_eq_natCast]
 omega
theorem cVo (H : ML m M h) (n : Nat) (w : Int) : eZ CF1 (n + 5) 18 [.p m 0, .i .i64 w] h = some (.b (rE w M.pl), h) := by
 rw [bW 18 rfl, dBa]
 have hm : rE w M.pl = (decide (w = 0) || (decide (w = 2) || (decide (w = 4) || (gV w || !(Nat.beq (dX w M.pl) 0))))) := by
  unfold rE
  split
  ·simp
  ·simp
  ·simp
  ·rename_i h1 h2 h3
   have e1 : w ≠ 0 := fun e => h1 (by rw [e]; rfl)
   have e2 : w ≠ 2 := fun e => h2 (by rw [e]; rfl)
   have e3 : w ≠ 4 := fun e => h3 (by rw [e]; rfl)
   simp [e1, e2, e3]
 rw [hm]
 simp only [t20, g0, g1, gS, aZ]
 have b0 : (w == Int.ofNat 0) = decide (w = 0) := rfl
 have b2 : (w == Int.ofNat 2) = decide (w = 2) := rfl
 have b4 : (w == Int.ofNat 4) = decide (w = 4) := rfl
 rw [b0]
 cases decide (w = 0) with
 | true => simp only [eV, aZ, cN, Bool.true_or]
 | false =>
  simp only [iG, aZ, gS, cP, b2, Bool.false_or]
  cases decide (w = 2) with
  | true => simp only [eV, aZ, cN, Bool.true_or]
  | false =>
   simp only [iG, aZ, gS, cP, b4, Bool.false_or]
   cases decide (w = 4) with
   | true => simp only [eV, aZ, cN, Bool.true_or]
   | false =>
    simp only [iG, aZ, cOw, cP, Bool.false_or]
    cases gV w with
    | true => simp only [eV, aZ, cN, Bool.true_or]
    | false => simp only [iG, aZ, cGe H, cP, Bool.false_or]
theorem cVm (H : ML m M h) (n : Nat) (w : Int) : eZ CF1 (n + 5) 74 [.p m 0, .i .i64 w] h = some (.b (uE w M.pl), h) := by
 rw [bW 74 rfl, cXa]
 have hm : uE w M.pl = (decide (w = 0) || !(Nat.beq (dX w M.pl) 0)) := by
  unfold uE
  split
  ·simp
  ·rename_i h1
   have e1 : w ≠ 0 := fun e => h1 (by rw [e]; rfl)
   simp [e1]
 rw [hm]
 have b0 : (w == Int.ofNat 0) = decide (w = 0) := rfl
 simp only [t74, g0, g1, gS, aZ, b0]
 cases decide (w = 0) with
 | true => simp only [eV, aZ, cN, Bool.true_or]
 | false => simp only [iG, aZ, cGe H, cP, Bool.false_or]
theorem qY (H : ML m M h) (n : Nat) (w : Int) : eZ CF1 (n + 5) 85 [.p m 0, .i .i64 w] h = some (.i .i64 (dX w M.pl), h) := by
 rw [bW 85 rfl, cMd]
 simp only [cJv, g0, g1, cGe H, aZ, qX, mQ]
 rcases aLf w M.pl with e | ⟨e, e'⟩
 ·simp only [e, decide_true, Bool.not_true, Bool.not_false, cI]; rfl
 ·simp only [e, e', decide_false, Bool.not_false, Bool.not_true, cX, cZv, aZ]
theorem tM {o : Int} {k : Nat → aG} {r : DV × Hp} (hh : iC M o k = some r) : dX o M.pl + 1 < M.n ∧ ∃ hd, M.t.get (dX o M.pl) = Int.ofNat hd ∧ hd < 1000000000000 ∧ k hd = some r := by
 unfold iC at hh
 cases hb : Nat.blt (Nat.add (dX o M.pl) 1) M.n with
 | false => rw [hb] at hh; cases hh
 | true =>
  rw [hb] at hh
  simp only [cond_true] at hh
  simp only [lH, decide_eq_true_eq] at hb
  split at hh <;> (try (cases hh; done))
  rename_i hd he
  cases hc : Nat.blt hd 1000000000000 with
  | false => rw [hc] at hh; cases hh
  | true =>
   rw [hc] at hh
   simp only [lH, decide_eq_true_eq] at hc
   exact ⟨hb, hd, he, hc, hh⟩
theorem dDg (H : ML m M h) (n : Nat) (o : Int) (ho : dX o M.pl + 1 < M.n) : eZ CF1 (n + 6) 104 [.p m 0, .i .i64 o] h = some (.i .i64 (M.t.get (dX o M.pl + 1)), h) := by
 rw [bW 104 rfl, cXb]
 have hn := H.n_lt
 simp only [t50, g0, g1, aZ, gK, dM, H.l0, qY H]
 rw [kX rfl (bRo _ _ _ _), Bool.and_self]
 simp only [cnd]
 rw [jN _ _ _ (by simp only [Int.ofNat_eq_natCast]; omega)]
 have e : (dX o M.pl : Int) + Int.ofNat 1 = ((dX o M.pl + 1 : Nat) : Int) := by simp
 simp only [aZ, e, H.ix ho, H.ld ho]
theorem dBd (H : ML m M h) (n : Nat) (o : Int) (ho : dX o M.pl < M.n) : eZ CF1 (n + 6) 90 [.p m 0, .i .i64 o] h = some (.i .i64 (M.t.get (dX o M.pl) % 4), h) := by
 rw [bW 90 rfl, dAm]
 simp only [t51, g0, g1, aZ, gK, dM, H.l0, qY H]
 rw [kX rfl (bRo _ _ _ _), Bool.and_self]
 simp only [cnd, aZ, H.ix ho, H.ld ho, cBj]
theorem cWt (H : ML m M h) (n : Nat) (o : Int) (ho : dX o M.pl < M.n) : eZ CF1 (n + 6) 73 [.p m 0, .i .i64 o] h = some (.i .i64 (M.t.get (dX o M.pl) / 4), h) := by
 rw [bW 73 rfl, cZb]
 simp only [t52, g0, g1, aZ, gK, dM, H.l0, qY H]
 rw [kX rfl (bRo _ _ _ _), Bool.and_self]
 simp only [cnd, aZ, H.ix ho, H.ld ho, bWb]
end
end Go.Dd

namespace Go.Dd
section
variable {m : Pos} {M : MemV} {h : Hp}
theorem bCb (H : ML m M h) {o i : Int} {bad : Nat → aG} {k : Nat → Nat → aG} {r : DV × Hp} (hf : iQ M o i bad k = some r) :
  (∃ e : Nat, e ≠ 0 ∧ bad e = some r ∧ ∀ n, eZ CF1 (n + 7) 89 [.p m 0, .i .i64 o, .i .i64 i] h = some (.t [.i .i64 (Int.ofNat 0), .i .i64 (Int.ofNat e)], h)) ∨
  (∃ hd a : Nat, dX o M.pl ≠ 0 ∧ a < M.n ∧ dX o M.pl + 1 < M.n ∧ M.t.get (dX o M.pl) = Int.ofNat hd ∧ k hd a = some r ∧ ∀ n, eZ CF1 (n + 7) 89 [.p m 0, .i .i64 o, .i .i64 i] h = some (.t [.i .i64 (a : Int), .i .i64 (Int.ofNat 0)], h)) := by
 have hn := H.n_lt
 unfold iQ at hf
 rw [mQ] at hf
 by_cases h0 : dX o M.pl = 0
 ·simp only [h0, decide_true, cond_true] at hf
  refine .inl ⟨1, by omega, hf, fun n => ?_⟩
  rw [bW 89 rfl, aBh]
  simp only [aYt, g0, g1, g2, qY H, aZ, gS, h0]
  rfl
 ·simp only [h0, decide_false, cond_false] at hf
  have e0 : ((dX o M.pl : Int) == Int.ofNat 0) = false := by simpa using h0
  cases i with
  | negSucc i =>
   refine .inl ⟨5, by omega, hf, fun n => ?_⟩
   rw [bW 89 rfl, aBh]
   have hlt : decide (Int.negSucc i < Int.ofNat 0) = true := decide_eq_true (Int.negSucc_lt_zero i)
   simp only [aYt, g0, g1, g2, qY H, aZ, gS, e0, cX, dR, hlt, eV, cN, cI]
  | ofNat i =>
   dsimp only at hf
   obtain ⟨h1, hd, h2, h3, h4⟩ := tM hf
   rw [vR] at h4
   have hlt : decide (Int.ofNat i < Int.ofNat 0) = false := by simp
   have h52 := fun n => cWt H n o (show dX o M.pl < M.n by omega)
   rw [h2] at h52
   by_cases hi : Nat.div hd 4 ≤ i
   ·simp only [hi, decide_true, cond_true] at h4
    refine .inl ⟨5, by omega, h4, fun n => ?_⟩
    rw [bW 89 rfl, aBh]
    have hge : decide (Int.ofNat i ≥ Int.ofNat hd / 4) = true := by
     have : hd / 4 ≤ i := hi
     simp only [decide_eq_true_eq, Int.ofNat_eq_natCast]
     omega
    simp only [aYt, g0, g1, g2, qY H, aZ, gS, e0, cX, dR, hlt, iG, h52, qA, hge, cP, cI]
   ·simp only [hi, decide_false, cond_false] at h4
    rw [lH] at h4
    by_cases ha : Nat.add (Nat.add (dX o M.pl) 3) i < M.n
    ·simp only [ha, decide_true, cond_true] at h4
     have ha' : dX o M.pl + 3 + i < M.n := ha
     refine .inr ⟨hd, _, h0, ha, h1, h2, h4, fun n => ?_⟩
     rw [bW 89 rfl, aBh]
     have hge : decide (Int.ofNat i ≥ Int.ofNat hd / 4) = false := by
      have : ¬ hd / 4 ≤ i := hi
      simp only [decide_eq_false_iff_not, Int.ofNat_eq_natCast]
      omega
     simp only [aYt, g0, g1, g2, qY H, aZ, gS, e0, cX, dR, hlt, iG, h52, qA, hge, cP]
     rw [jN _ _ _ (by simp only [Int.ofNat_eq_natCast]; omega)]
     simp only [aZ]
     rw [jN _ _ _ (by simp only [Int.ofNat_eq_natCast]; omega)]
     simp only [aZ]
     congr 4
    ·simp only [ha, decide_false, cond_false] at h4
     cases h4
theorem bLo (a b : DV) (h : Hp) : aC 0 (.t [a, b]) h = some (a, h) := Eq.trans rfl rfl
theorem bKx (a b : DV) (h : Hp) : aC 1 (.t [a, b]) h = some (b, h) := Eq.trans rfl rfl
theorem cIe {e : Nat} (he : e ≠ 0) : (Int.ofNat e != Int.ofNat 0) = true := by
 simpa using he
theorem ML.put (H : ML m M h) {a : Nat} (ha : a < M.n) (w : Int) : aE 1 (.p M.wb a) (.i .i64 w) h = some (aV, ⟨h.next, Tr.set (.row .ex (gM M.n (M.t.set a w))) M.wb h.bl⟩) := by
 have hput : ∀ (n : Nat) (l : List DV) (x : DV), (∀ v ∈ l, v.one = true) → x.one = true → n < l.length → gI n l [x] = some (l.set n x) := by
  intro n
  induction n with
  | zero =>
   intro l x hl hx hlt
   cases l with
   | nil => simp at hlt
   | cons y l =>
    have hp : mN l [] = some l := by cases l <;> rfl
    simp [gI, mN, hl y (by simp), hx, hp]
  | succ n ih =>
   intro l x hl hx hlt
   cases l with
   | nil => simp at hlt
   | cons y l =>
    simp only [gI, List.set_cons_succ]
    rw [ih l x (fun v hv => hl v (by simp [hv])) hx (by simpa using hlt)]
    rfl
 have hb : ∀ v ∈ gM M.n M.t, v.one = true := by
  intro v hv
  simp only [gM, List.mem_map] at hv
  obtain ⟨i, _, rfl⟩ := hv
  rfl
 have hlen : (gM M.n M.t).length = M.n := by simp [gM]
 have hset : (gM M.n M.t).set a (.i .i64 w) = gM M.n (M.t.set a w) := by
  apply List.ext_getElem?
  intro i
  rw [List.getElem?_set]
  by_cases hi : i < M.n
  ·rw [kD hi, kD hi, WT.get_set M.t a w i (by have := H.n_lt; omega)]
   by_cases e : a = i
   ·subst e
    simp [hlen, hi]
   ·rw [if_neg e, if_neg (by omega)]
  ·have h1 : (gM M.n M.t)[i]? = none := List.getElem?_eq_none (by omega)
   have h2 : (gM M.n (M.t.set a w))[i]? = none := List.getElem?_eq_none (by simp [gM]; omega)
   rw [h2]
   split
   ·rename_i e; subst e; rw [if_neg (by omega)]
   ·exact h1
 simp only [aE, eJ, List.length_singleton, if_true, dI, H.words, Kind.writable]
 rw [hput a _ _ hb rfl (by omega), hset]
theorem dDx (H : ML m M h) {o i : Int} {k : Nat → aG} {kk : Nat → Nat → aG} {r : DV × Hp} (hf : iQ M o i k kk = some r) :
  (∃ e : Nat, k e = some r ∧ ∀ n, eZ CF1 (n + 8) 52 [.p m 0, .i .i64 o, .i .i64 i] h = some (.t [.i .i64 (Int.ofNat 0), .i .i64 (Int.ofNat e)], h)) ∨
  (∃ hd a : Nat, kk hd a = some r ∧ ∀ n, eZ CF1 (n + 8) 52 [.p m 0, .i .i64 o, .i .i64 i] h = some (.t [.i .i64 (M.t.get a), .i .i64 (Int.ofNat 0)], h)) := by
 rcases bCb H hf with ⟨e, he, h1, h2⟩ | ⟨hd, a, h0, h1, h2, h3, h4, h5⟩
 ·refine .inl ⟨e, h1, fun n => ?_⟩
  rw [bW 52 rfl, cJi]
  simp only [t73, g0, g1, g2, h2, aZ, bLo, bKx, iF, cIe he, cI]
 ·refine .inr ⟨hd, a, h4, fun n => ?_⟩
  rw [bW 52 rfl, cJi]
  have e0 : (Int.ofNat 0 != Int.ofNat 0) = false := rfl
  simp only [t73, g0, g1, g2, h5, aZ, bLo, bKx, iF, e0, cX, gK, dM, H.l0, H.ix h1, H.ld h1]
end
theorem dZ {args : List DV} {h : Hp} {k : MemV → List DV → aG} {r : DV × Hp} (hr : iR args h k = some r) :
  ∃ m rest M, args = .p m 0 :: rest ∧ gQ m h = some M ∧ k M rest = some r := by
 unfold iR at hr
 split at hr <;> (try (cases hr; done))
 rename_i m rest
 split at hr <;> (try (cases hr; done))
 rename_i M hM
 exact ⟨m, rest, M, rfl, hM, hr⟩
theorem cQx (n : Nat) (args : List DV) : SimP false (isF args) (eZ CF1 (n + 12) 46 args) := fun h h' S v k e => by
 obtain ⟨m, rest, M, rfl, hM, e⟩ := dZ e
 split at e <;> (try (cases e; done))
 simp only [bB, bK] at e
 obtain ⟨rfl, rfl⟩ := e
 exact ⟨h', cGe (eP hM S) (n + 8) _, S⟩
theorem cFf (n : Nat) (args : List DV) : SimP false (aIn args) (eZ CF1 (n + 12) 18 args) := fun h h' S v k e => by
 obtain ⟨m, rest, M, rfl, hM, e⟩ := dZ e
 split at e <;> (try (cases e; done))
 simp only [bB, bK] at e
 obtain ⟨rfl, rfl⟩ := e
 exact ⟨h', cVo (eP hM S) (n + 7) _, S⟩
theorem bOj (n : Nat) (args : List DV) : SimP false (mA args) (eZ CF1 (n + 12) 94 args) := fun h h' S v k e => by
 obtain ⟨m, rest, M, rfl, hM, e⟩ := dZ e
 split at e <;> (try (cases e; done))
 simp only [bB, bK] at e
 obtain ⟨rfl, rfl⟩ := e
 exact ⟨h', dFy (eP hM S) (n + 11), S⟩
theorem bQj (n : Nat) (args : List DV) : SimP false (aVn args) (eZ CF1 (n + 12) 75 args) := fun h h' S v k e => by
 obtain ⟨m, rest, M, rfl, hM, e⟩ := dZ e
 split at e <;> (try (cases e; done))
 simp only [bB, bK] at e
 obtain ⟨rfl, rfl⟩ := e
 exact ⟨h', dAt (eP hM S) (n + 11), S⟩
theorem aXs (n : Nat) (args : List DV) : SimP false (fH args) (eZ CF1 (n + 12) 104 args) := fun h h' S v k e => by
 obtain ⟨m, rest, M, rfl, hM, e⟩ := dZ e
 split at e <;> (try (cases e; done))
 obtain ⟨h1, hd, h2, h3, e⟩ := tM e
 simp only [bB, bK] at e
 obtain ⟨rfl, rfl⟩ := e
 exact ⟨h', dDg (eP hM S) (n + 6) _ h1, S⟩
theorem aLg (n : Nat) (args : List DV) : SimP false (fN args) (eZ CF1 (n + 12) 90 args) := fun h h' S v k e => by
 obtain ⟨m, rest, M, rfl, hM, e⟩ := dZ e
 split at e <;> (try (cases e; done))
 obtain ⟨h1, hd, h2, h3, e⟩ := tM e
 simp only [bB, bK] at e
 obtain ⟨rfl, rfl⟩ := e
 refine ⟨h', ?_, S⟩
 rw [dBd (eP hM S) (n + 6) _ (by omega), h2]
 rfl
theorem aOg (n : Nat) (args : List DV) : SimP false (fO args) (eZ CF1 (n + 12) 73 args) := fun h h' S v k e => by
 obtain ⟨m, rest, M, rfl, hM, e⟩ := dZ e
 split at e <;> (try (cases e; done))
 obtain ⟨h1, hd, h2, h3, e⟩ := tM e
 simp only [bB, bK] at e
 obtain ⟨rfl, rfl⟩ := e
 refine ⟨h', ?_, S⟩
 rw [cWt (eP hM S) (n + 6) _ (by omega), h2]
 rfl
theorem cHi (n : Nat) (args : List DV) : SimP false (aMt args) (eZ CF1 (n + 12) 52 args) := fun h h' S v k e => by
 obtain ⟨m, rest, M, rfl, hM, e⟩ := dZ e
 split at e <;> (try (cases e; done))
 rename_i o i
 rcases dDx (eP hM S) e with ⟨er, e1, e2⟩ | ⟨hd, a, e1, e2⟩
 ·simp only [err, bB, bK] at e1
  obtain ⟨rfl, rfl⟩ := e1
  exact ⟨h', e2 (n + 4), S⟩
 ·simp only [bB, bK] at e1
  obtain ⟨rfl, rfl⟩ := e1
  exact ⟨h', e2 (n + 4), S⟩
theorem aJa (n : Nat) (args : List DV) : SimP false (iA args) (eZ CF1 (n + 12) 45 args) := fun h h' S v k e => by
 unfold iA at e
 split at e <;> (try (cases e; done))
 simp only [bB, bK] at e
 obtain ⟨rfl, rfl⟩ := e
 exact ⟨h', cOw (n + 10) _ h', S⟩
theorem aZv (n : Nat) (args : List DV) : SimP false (lI args) (eZ CF1 (n + 12) 122 args) := fun h h' S v k e => by
 unfold lI at e
 split at e <;> (try (cases e; done))
 rename_i w
 have hc := dGf (n + 9) w h'
 cases hs : gV w with
 | true =>
  rw [hs] at e hc
  simp only [cond_true, bB, bK] at e
  obtain ⟨rfl, rfl⟩ := e
  exact ⟨h', by rw [hc, aYu]; rfl, S⟩
 | false =>
  rw [hs] at e hc
  simp only [cond_false, bB, bK] at e
  obtain ⟨rfl, rfl⟩ := e
  exact ⟨h', by rw [hc]; rfl, S⟩
theorem aZj (n : Nat) (args : List DV) : SimP false (mB args) (eZ CF1 (n + 12) 88 args) := fun h h' S v k e => by
 unfold mB at e
 split at e <;> (try (cases e; done))
 ·rename_i w
  have hc := dBw (n + 10) (Int.ofNat w) h'
  rw [lH] at e
  by_cases hw : w < 1073741824
  ·simp only [hw, decide_true, cond_true, bB, bK] at e
   obtain ⟨rfl, rfl⟩ := e
   rw [if_pos (by simp only [Int.ofNat_eq_natCast]; omega)] at hc
   refine ⟨h', ?_, S⟩
   rw [hc]
   have : 2 * Int.ofNat w + 1 = Int.ofNat (Nat.succ (Nat.mul w 2)) := by
    have : Nat.mul w 2 = w * 2 := rfl
    rw [this]
    simp only [Int.ofNat_eq_natCast]; omega
   rw [this]
  ·simp only [hw, decide_false, cond_false, bB, bK] at e
   obtain ⟨rfl, rfl⟩ := e
   rw [if_neg (by simp only [Int.ofNat_eq_natCast]; omega)] at hc
   exact ⟨h', by rw [hc]; rfl, S⟩
 ·rename_i w
  have hc := dBw (n + 10) (Int.negSucc w) h'
  rw [lH] at e
  by_cases hw : w < 1073741824
  ·simp only [hw, decide_true, cond_true, bB, bK] at e
   obtain ⟨rfl, rfl⟩ := e
   rw [if_pos (by omega)] at hc
   refine ⟨h', ?_, S⟩
   rw [hc]
   have : 2 * Int.negSucc w + 1 = Int.negSucc (Nat.mul w 2) := by
    have : Nat.mul w 2 = w * 2 := rfl
    rw [this]; omega
   rw [this]
  ·simp only [hw, decide_false, cond_false, bB, bK] at e
   obtain ⟨rfl, rfl⟩ := e
   rw [if_neg (by omega)] at hc
   exact ⟨h', by rw [hc]; rfl, S⟩
end Go.Dd

namespace Go.Dd
def Oth (m wb pb : Pos) (h h1 : Hp) : Prop := h1.next = h.next ∧ ∀ b, b ≠ m → b ≠ wb → b ≠ pb → h1.bl.get b = h.bl.get b
theorem Oth.refl (m wb pb : Pos) (h : Hp) : Oth m wb pb h h := ⟨rfl, fun _ _ _ _ => rfl⟩
theorem Oth.trans {m wb pb : Pos} {a b c : Hp} (h : Oth m wb pb a b) (k : Oth m wb pb b c) : Oth m wb pb a c := ⟨k.1.trans h.1, fun x h1 h2 h3 => (k.2 x h1 h2 h3).trans (h.2 x h1 h2 h3)⟩
section
variable {m : Pos} {M : MemV} {h : Hp}
def bJx (M : MemV) : Ob := .row .ex [.l M.wb 0 M.n M.n, .i .i64 (Int.ofNat M.fin), .i .i64 (Int.ofNat M.made), .m M.pb]
theorem ML.setM (H : ML m M h) (M' : MemV) (e1 : M'.wb = M.wb) (e2 : M'.pb = M.pb) (e3 : M'.n = M.n) (e4 : M'.t = M.t) (e5 : M'.pl = M.pl) (h1 : M'.fin ≤ M.n) (h2 : M'.made < 2000000) :
  ML m M' ⟨h.next, Tr.set (bJx M') m h.bl⟩ ∧ Oth m M.wb M.pb h ⟨h.next, Tr.set (bJx M') m h.bl⟩ := by
 refine ⟨⟨by rw [dIa]; rfl, ?_, ?_, by rw [e3]; exact H.n_lt, by rw [e3]; exact h1, h2, by rw [e1]; exact H.d1, by rw [e2]; exact H.d2, by rw [e1, e2]; exact H.d3⟩, rfl, fun b h1 _ _ => dHz _ _ _ _ h1⟩
 ·rw [e1, e3, e4, dHz _ _ _ _ (Ne.symm H.d1)]; exact H.words
 ·rw [e2, e5, dHz _ _ _ _ (Ne.symm H.d2)]; exact H.places
theorem ML.st1 (H : ML m M h) {x : Nat} (hx : x ≤ M.n) : ∃ h1, aE 1 (.p m (0 + 1)) (.i .i64 (Int.ofNat x)) h = some (aV, h1) ∧ ML m { M with fin := x } h1 ∧ Oth m M.wb M.pb h h1 := by
 obtain ⟨a, b⟩ := H.setM { M with fin := x } rfl rfl rfl rfl rfl hx H.made_lt
 exact ⟨_, by simp [aE, eJ, dI, H.row, Kind.writable, gI, mN, DV.one, bJx], a, b⟩
theorem ML.st2 (H : ML m M h) {x : Nat} (hx : x < 2000000) : ∃ h1, aE 1 (.p m (0 + 2)) (.i .i64 (Int.ofNat x)) h = some (aV, h1) ∧ ML m { M with made := x } h1 ∧ Oth m M.wb M.pb h h1 := by
 obtain ⟨a, b⟩ := H.setM { M with made := x } rfl rfl rfl rfl rfl H.fin_le hx
 exact ⟨_, by simp [aE, eJ, dI, H.row, Kind.writable, gI, mN, DV.one, bJx], a, b⟩
theorem ML.setW (H : ML m M h) (t : WT) : ML m { M with t := t } ⟨h.next, Tr.set (.row .ex (gM M.n t)) M.wb h.bl⟩ ∧ Oth m M.wb M.pb h ⟨h.next, Tr.set (.row .ex (gM M.n t)) M.wb h.bl⟩ := by
 refine ⟨⟨?_, by rw [dIa], ?_, H.n_lt, H.fin_le, H.made_lt, H.d1, H.d2, H.d3⟩, rfl, fun b _ h1 _ => dHz _ _ _ _ h1⟩
 ·rw [dHz _ _ _ _ H.d1]; exact H.row
 ·rw [dHz _ _ _ _ (Ne.symm H.d3)]; exact H.places
theorem ML.put' (H : ML m M h) {a : Nat} (ha : a < M.n) (w : Int) : ∃ h1, aE 1 (.p M.wb a) (.i .i64 w) h = some (aV, h1) ∧ ML m { M with t := M.t.set a w } h1 ∧ Oth m M.wb M.pb h h1 :=
 ⟨_, H.put ha w, (H.setW _).1, (H.setW _).2⟩
theorem bAw {a : Int} {es : List (DV × DV)} : ∀ (b : Int) {r r' : Option DV}, gO (.int .i64) (.i .i64 a) es = some r → gO (.int .i64) (.i .i64 b) es = some r' →
  gO (.int .i64) (.i .i64 b) (qF (.int .i64) (.i .i64 a) (.b true) es) = some (if b = a then some (.b true) else r') := by
 induction es with
 | nil =>
  intro b r r' h1 h2
  simp only [gO, bB] at h2
  subst h2
  simp only [qF, gO, wF, if_true]
  by_cases e : b = a
  ·simp [e]
  ·have : (b == a) = false := by simpa using e
   simp [e, this]
 | cons e es ih =>
  intro b r r' h1 h2
  simp only [gO] at h1 h2
  have hk : ∃ c, e.1 = .i .i64 c := by
   obtain ⟨x, y⟩ := e
   cases x <;> simp [wF] at h1
   rename_i k c
   cases k <;> simp at h1
   exact ⟨c, rfl⟩
  obtain ⟨c, hc⟩ := hk
  simp only [hc, wF, if_true] at h1 h2
  simp only [qF, hc, wF, if_true]
  by_cases hac : a = c
  ·subst hac
   simp only [beq_self_eq_true] at h1 ⊢
   simp only [gO, wF, if_true]
   by_cases hba : b = a
   ·subst hba; simp
   ·have : (b == a) = false := by simpa using hba
    simp only [this] at h2 ⊢
    rw [h2]; simp [hba]
  ·have hac' : (a == c) = false := by simpa using hac
   simp only [hac'] at h1 ⊢
   simp only [gO, hc, wF, if_true]
   by_cases hbc : b = c
   ·subst hbc
    simp only [beq_self_eq_true, bB] at h2 ⊢
    rw [if_neg (fun e => hac e.symm), h2]
   ·have hbc' : (b == c) = false := by simpa using hbc
    simp only [hbc'] at h2 ⊢
    exact ih b h1 h2
theorem ML.place (H : ML m M h) {a : Nat} (ha : a < 16000000) : ∃ h1, eK (.int .i64) (.m M.pb) (.i .i64 (a : Int)) (.b true) h = some (aV, h1) ∧ ML m { M with pl := M.pl.set a 1 } h1 ∧ Oth m M.wb M.pb h h1 := by
 obtain ⟨es, h1, h2⟩ := H.places
 refine ⟨⟨h.next, Tr.set (.mp (qF (.int .i64) (.i .i64 (a : Int)) (.b true) es)) M.pb h.bl⟩, by simp [eK, h1, h2 a], ⟨?_, ?_, ⟨_, by rw [dIa], fun b => ?_⟩, H.n_lt, H.fin_le, H.made_lt, H.d1, H.d2, H.d3⟩, rfl, fun b _ _ h1 => dHz _ _ _ _ h1⟩
 ·rw [dHz _ _ _ _ H.d2]; exact H.row
 ·rw [dHz _ _ _ _ H.d3]; exact H.words
 ·rw [bAw b (h2 a) (h2 b)]
  congr 1
  by_cases e : b = (a : Int)
  ·subst e
   simp [WT.get_set _ _ _ _ ha]
  ·rw [if_neg e]
   by_cases hb : 0 ≤ b
   ·have : b.toNat ≠ a := by omega
    rw [WT.get_set _ _ _ _ ha, if_neg this]
   ·simp [hb]
theorem bWq {h' h1 : Hp} {M' : MemV} (S : Sim false h h') (hM : gQ m h = some M) (H1 : ML m M' h1) (e1 : M'.wb = M.wb) (e2 : M'.pb = M.pb) (e3 : M'.n = M.n) (O : Oth m M.wb M.pb h' h1) :
  Sim false ⟨h.next, Tr.set (bJx M') m (Tr.set (.mi M'.pl) M.pb (Tr.set (.big M.n M'.t) M.wb h.bl))⟩ h1 := by
 have H := eP hM S
 refine ⟨O.1.trans S.next, fun b o hb => ?_⟩
 by_cases b1 : b = m
 ·subst b1
  simp only [dIa, bB] at hb
  subst hb
  exact ⟨_, H1.row, rfl⟩
 ·simp only [dHz _ _ _ _ b1] at hb
  by_cases b2 : b = M.pb
  ·subst b2
   simp only [dIa, bB] at hb
   subst hb
   obtain ⟨es, p1, p2⟩ := H1.places
   rw [e2] at p1
   exact ⟨_, p1, by simp only [rL]; exact ⟨es, rfl, p2⟩⟩
  ·simp only [dHz _ _ _ _ b2] at hb
   by_cases b3 : b = M.wb
   ·subst b3
    simp only [dIa, bB] at hb
    subst hb
    have := H1.words
    rw [e1, e3] at this
    exact ⟨_, this, by simp [rL]⟩
   ·simp only [dHz _ _ _ _ b3] at hb
    rw [O.2 b b1 b3 b2]
    exact S.get b o hb
theorem aYd {h' h1 : Hp} {t : WT} (S : Sim false h h') (hM : gQ m h = some M) (H1 : ML m { M with t := t } h1) (O : Oth m M.wb M.pb h' h1) (hm : h1.bl.get m = h'.bl.get m) (hp : h1.bl.get M.pb = h'.bl.get M.pb) :
  Sim false ⟨h.next, Tr.set (.big M.n t) M.wb h.bl⟩ h1 := by
 refine ⟨O.1.trans S.next, fun b o hb => ?_⟩
 by_cases b3 : b = M.wb
 ·subst b3
  simp only [dIa, bB] at hb
  subst hb
  exact ⟨_, H1.words, by simp [rL]⟩
 ·simp only [dHz _ _ _ _ b3] at hb
  by_cases b1 : b = m
  ·subst b1; rw [hm]; exact S.get _ o hb
  ·by_cases b2 : b = M.pb
   ·subst b2; rw [hp]; exact S.get _ o hb
   ·rw [O.2 b b1 b3 b2]
    exact S.get b o hb
end
theorem aIy {m : Pos} {M : MemV} {h h' : Hp} (S : Sim false h h') (hM : gQ m h = some M) {a : Nat} (ha : a < M.n) (w : Int) {v : DV} {k : Hp} (hp : oT M a w h = some (v, k)) :
  v = .i .i64 (Int.ofNat 0) ∧ ∃ h1, aE 1 (.p M.wb a) (.i .i64 w) h' = some (aV, h1) ∧ Sim false k h1 := by
 have H := eP hM S
 simp only [oT, bB, bK] at hp
 obtain ⟨rfl, rfl⟩ := hp
 refine ⟨rfl, _, H.put ha w, aYd S hM (H.setW _).1 (H.setW _).2 ?_ ?_⟩
 ·exact dHz _ _ _ _ H.d1
 ·exact dHz _ _ _ _ (Ne.symm H.d3)
theorem cAe (n : Nat) (args : List DV) : SimP false (aHp args) (eZ CF1 (n + 12) 38 args) := fun h h' S v k e => by
 obtain ⟨m, rest, M, rfl, hM, e⟩ := dZ e
 split at e <;> (try (cases e; done))
 rename_i o i w _
 have H := eP hM S
 rw [bW 38 rfl, dAh]
 simp only [t47, aTi, g0, g1, g2, g3]
 rcases bCb H e with ⟨er, he, e1, e2⟩ | ⟨hd, a, h0, h1, h2, h3, e1, e2⟩
 ·simp only [bB, bK] at e1
  obtain ⟨rfl, rfl⟩ := e1
  refine ⟨h', ?_, S⟩
  simp only [e2 (n + 4), aZ, bLo, bKx, aHk, iF, cIe he, cI]
 ·have e0 : (Int.ofNat 0 != Int.ofNat 0) = false := rfl
  have h51 := dBd H (n + 5) o (show dX o M.pl < M.n by omega)
  rw [h3] at h51
  simp only [e2 (n + 4), aZ, bLo, bKx, aHk, iF, e0, cX, aWo, h51, gS]
  have hmod : Int.ofNat hd % 4 = Int.ofNat (Nat.mod hd 4) := rfl
  have h4 : rD (eZ CF1 (n + 11)) (n + 11) (.p m 0) (.i .i64 w) (.i .i64 (a : Int)) h' = bnd (aE 1 (.p M.wb a) (.i .i64 w) h') fun _ h5 => some (.i .i64 (Int.ofNat 0), h5) := by
   simp only [rD, gK, dM, aZ, H.l0, H.ix h1]
  have hput : oT M a w h = some (v, k) → ∃ h1, rD (eZ CF1 (n + 11)) (n + 11) (.p m 0) (.i .i64 w) (.i .i64 (a : Int)) h' = some (v, h1) ∧ Sim false k h1 := by
   intro hp
   obtain ⟨rfl, h1', p1, p2⟩ := aIy S hM h1 w hp
   exact ⟨h1', by rw [h4, p1]; rfl, p2⟩
  rw [hmod]
  split at e1
  ·rename_i hz
   rw [hz]
   have : (Int.ofNat 0 == Int.ofNat 0) = true := rfl
   simp only [this, cI, cVo H, aZ, qX]
   cases hmay : rE w M.pl with
   | true =>
    rw [hmay] at e1
    simp only [cond_true] at e1
    simp only [Bool.not_true, cX]
    exact hput e1
   | false =>
    rw [hmay] at e1
    simp only [cond_false, bB, bK] at e1
    obtain ⟨rfl, rfl⟩ := e1
    exact ⟨h', rfl, S⟩
  ·rename_i hz
   rw [hz]
   have q0 : (Int.ofNat 2 == Int.ofNat 0) = false := rfl
   have q2 : (Int.ofNat 2 == Int.ofNat 2) = true := rfl
   simp only [q0, cX, aZ, q2, cI, dR]
   cases w with
   | negSucc c =>
    simp only [bB, bK] at e1
    obtain ⟨rfl, rfl⟩ := e1
    have hlt : decide (Int.negSucc c < Int.ofNat 0) = true := decide_eq_true (Int.negSucc_lt_zero c)
    simp only [hlt, eV, aZ, cN, cI]
    exact ⟨h', rfl, S⟩
   | ofNat c =>
    dsimp only at e1
    have hlt : decide (Int.ofNat c < Int.ofNat 0) = false := by simp
    simp only [hlt, iG, aZ, cP, kV]
    rw [vR] at e1
    by_cases hc : c ≤ 255
    ·simp only [hc, decide_true, cond_true] at e1
     have hgt : decide (Int.ofNat c > Int.ofNat 255) = false := by
      simp only [decide_eq_false_iff_not, Int.ofNat_eq_natCast]; omega
     simp only [hgt, cX]
     exact hput e1
    ·simp only [hc, decide_false, cond_false, bB, bK] at e1
     obtain ⟨rfl, rfl⟩ := e1
     have hgt : decide (Int.ofNat c > Int.ofNat 255) = true := by
      simp only [decide_eq_true_eq, Int.ofNat_eq_natCast]; omega
     simp only [hgt, cI]
     exact ⟨h', rfl, S⟩
  ·rename_i hz0 hz2
   have q0 : (Int.ofNat (Nat.mod hd 4) == Int.ofNat 0) = false := by
    simp only [beq_eq_false_iff_ne, ne_eq, Int.ofNat_eq_natCast]
    intro e; exact hz0 (by exact_mod_cast e)
   have q2 : (Int.ofNat (Nat.mod hd 4) == Int.ofNat 2) = false := by
    simp only [beq_eq_false_iff_ne, ne_eq, Int.ofNat_eq_natCast]
    intro e; exact hz2 (by exact_mod_cast e)
   simp only [q0, cX, aZ, q2, cX]
   exact hput e1
theorem aEm (n : Nat) (args : List DV) : SimP false (jU args) (eZ CF1 (n + 12) 35 args) := fun h h' S v k e => by
 obtain ⟨m, rest, M, rfl, hM, e⟩ := dZ e
 split at e <;> (try (cases e; done))
 rename_i o c _
 have H := eP hM S
 rw [bW 35 rfl, cZp]
 simp only [t44, g0, g1, g2, qY H, aZ, gS]
 rw [mQ] at e
 by_cases h0 : dX o M.pl = 0
 ·simp only [h0, decide_true, Bool.true_or, cond_true, bB, bK] at e
  obtain ⟨rfl, rfl⟩ := e
  have : ((0 : Nat) : Int) = Int.ofNat 0 := rfl
  have q : (((dX o M.pl : Nat) : Int) == Int.ofNat 0) = true := by rw [h0]; rfl
  simp only [q, eV, aZ, cN, cI]
  exact ⟨h', rfl, S⟩
 ·have q : (((dX o M.pl : Nat) : Int) == Int.ofNat 0) = false := by simpa using h0
  simp only [q, iG, aZ, cP, cVm H, qX]
  cases hc : uE c M.pl with
  | false =>
   rw [hc] at e
   simp only [h0, decide_false, Bool.not_false, Bool.false_or, cond_true, bB, bK] at e
   obtain ⟨rfl, rfl⟩ := e
   simp only [Bool.not_false, cI]
   exact ⟨h', rfl, S⟩
  | true =>
   rw [hc] at e
   simp only [h0, decide_false, Bool.not_true, Bool.false_or, cond_false] at e
   rw [lH] at e
   by_cases ha : Nat.add (dX o M.pl) 1 < M.n
   ·simp only [ha, decide_true, cond_true] at e
    have ha' : dX o M.pl + 1 < M.n := ha
    have hn := H.n_lt
    simp only [Bool.not_true, cX, gK, dM, aZ, H.l0]
    rw [jN _ _ _ (by simp only [Int.ofNat_eq_natCast]; omega)]
    have ee : (dX o M.pl : Int) + Int.ofNat 1 = ((dX o M.pl + 1 : Nat) : Int) := by simp
    obtain ⟨rfl, h1', p1, p2⟩ := aIy S hM ha' c e
    simp only [aZ, ee, H.ix ha', p1]
    exact ⟨h1', rfl, p2⟩
   ·simp only [ha, decide_false, cond_false] at e
    cases e
end Go.Dd

namespace Go.Dd
theorem jI (a b : Nat) (h : Hp) (hr : a + b < 4611686018427387904) : aD .add (.i .i64 (Int.ofNat a)) (.i .i64 (Int.ofNat b)) h = some (.i .i64 (Int.ofNat (a + b)), h) := by
 rw [jN _ _ _ (by simp only [Int.ofNat_eq_natCast]; omega)]
 rfl
theorem cMs (c f : Nat) (h : Hp) (hc : c ≤ 256) (hf : f ≤ 2) : aD .or (.i .i64 (4 * Int.ofNat c)) (.i .i64 (Int.ofNat f)) h = some (.i .i64 (Int.ofNat (c * 4 + f)), h) := by
 have hb : fQ .or .i64 (4 * Int.ofNat c) (Int.ofNat f) = some (.i .i64 (Int.ofNat (c * 4 + f))) := by
  have := cKc c 2 f (by omega) (by omega)
  have e1 : ((c * 2 ^ 2 : Nat) : Int) = 4 * Int.ofNat c := by simp only [Int.ofNat_eq_natCast]; omega
  have e2 : ((c * 2 ^ 2 + f : Nat) : Int) = Int.ofNat (c * 4 + f) := rfl
  rw [e1, e2] at this
  rw [← this]; rfl
 simp only [aD, if_true, hb]
theorem pG (t : WT) : ∀ (c a j : Nat), a + c < 16000000 → (gA t c a).get j = if a ≤ j ∧ j < a + c then 0 else t.get j
 | 0, a, j, h => by rw [if_neg (by omega)]; rfl
 | c + 1, a, j, h => by
  have e : gA t (c + 1) a = (gA t c (a + 1)).set a (.ofNat 0) := rfl
  rw [e, WT.get_set _ _ _ _ (by omega), pG t c (a + 1) j (by omega)]
  by_cases h1 : j = a
  ·rw [if_pos h1, if_pos (by omega)]; rfl
  ·rw [if_neg h1]
   by_cases h2 : a + 1 ≤ j ∧ j < a + 1 + c
   ·rw [if_pos h2, if_pos (by omega)]
   ·rw [if_neg h2, if_neg (by omega)]
theorem aQo : ∀ (l vs : List DV), (∀ v ∈ l, v.one = true) → (∀ v ∈ vs, v.one = true) → vs.length ≤ l.length → ∃ l', mN l vs = some l'
 | l, [], _, _, _ => ⟨l, by cases l <;> rfl⟩
 | [], v :: vs, _, _, h => by simp at h
 | x :: l, v :: vs, h1, h2, h3 => by
  obtain ⟨l', e⟩ := aQo l vs (fun u hu => h1 u (by simp [hu])) (fun u hu => h2 u (by simp [hu])) (by simpa using h3)
  exact ⟨v :: l', by simp [mN, h1 x (by simp), h2 v (by simp), e]⟩
theorem aIp : ∀ (o : Nat) (l vs : List DV), (∀ v ∈ l, v.one = true) → (∀ v ∈ vs, v.one = true) → o + vs.length ≤ l.length → ∃ l', gI o l vs = some l'
 | 0, l, vs, h1, h2, h3 => by
  obtain ⟨l', e⟩ := aQo l vs h1 h2 (by omega)
  exact ⟨l', e⟩
 | o + 1, [], vs, h1, h2, h3 => by simp at h3
 | o + 1, x :: l, vs, h1, h2, h3 => by
  obtain ⟨l', e⟩ := aIp o l vs (fun u hu => h1 u (by simp [hu])) h2 (by simp at h3; omega)
  exact ⟨x :: l', by simp [gI, e]⟩
section
variable {m : Pos} {M : MemV} {h : Hp}
theorem bQi {n : Nat} {t : WT} : ∀ v ∈ gM n t, v.one = true := by
 intro v hv
 simp only [gM, List.mem_map] at hv
 obtain ⟨i, _, rfl⟩ := hv
 rfl
theorem ML.ix' (H : ML m M h) {a : Nat} (ha : a < M.n) : aI 1 (.l M.wb 0 M.n M.n) (.i .i64 (Int.ofNat a)) h = some (.p M.wb a, h) := H.ix ha
theorem vB (c : Nat) : (List.replicate c [DV.i .i64 (Int.ofNat 0)]).flatten = List.replicate c (.i .i64 (Int.ofNat 0)) := by
 induction c with
 | zero => rfl
 | succ c ih => simp [List.replicate_succ, ih]
theorem ML.clear (H : ML m M h) {a c : Nat} (hac : a + c ≤ M.n) : ∃ v h1, cG 1 (.l M.wb 0 M.n M.n) (some (.i .i64 (Int.ofNat a))) (some (.i .i64 (Int.ofNat (a + c)))) h = some (v, h) ∧
  iS [.i .i64 (Int.ofNat 0)] v h = some (.t [], h1) ∧ ML m { M with t := gA M.t c a } h1 ∧ Oth m M.wb M.pb h h1 := by
 have hn := H.n_lt
 have e1 : gJ (.i .i64 (Int.ofNat (a + c))) M.n = some (a + c) := by
  have : (0 : Int) ≤ Int.ofNat (a + c) ∧ Int.ofNat (a + c) ≤ (M.n : Int) := by simp only [Int.ofNat_eq_natCast]; omega
  simp only [gJ, this, and_self, if_true]
  rfl
 have e2 : gJ (.i .i64 (Int.ofNat a)) (a + c) = some a := by
  have : (0 : Int) ≤ Int.ofNat a ∧ Int.ofNat a ≤ ((a + c : Nat) : Int) := by simp only [Int.ofNat_eq_natCast]; omega
  simp only [gJ, this, and_self, if_true]
  rfl
 refine ⟨.l M.wb (if M.n = a then 0 else 0 + a * 1) (a + c - a) (M.n - a), ?_⟩
 have hs : cG 1 (.l M.wb 0 M.n M.n) (some (.i .i64 (Int.ofNat a))) (some (.i .i64 (Int.ofNat (a + c)))) h = some (.l M.wb (if M.n = a then 0 else 0 + a * 1) (a + c - a) (M.n - a), h) := by
  simp only [cG, hiD, loD, e1, e2, H.words]
 by_cases hc : c = 0
 ·subst hc
  refine ⟨h, hs, by simp [iS], H, Oth.refl _ _ _ _⟩
 ·obtain ⟨l', hl'⟩ := aIp a (gM M.n M.t) (List.replicate c (.i .i64 (Int.ofNat 0))) bQi (fun v hv => by rw [List.eq_of_mem_replicate hv]; rfl) (by simp [gM]; omega)
  obtain ⟨p1, p2, p3, p4, p5⟩ := kZ _ _ _ _ hl'
  have hll : l' = gM M.n (gA M.t c a) := by
   apply List.ext_getElem?
   intro j
   by_cases hj : j < M.n
   ·rw [kD hj, pG _ _ _ _ (by omega)]
    by_cases hin : a ≤ j ∧ j < a + c
    ·rw [if_pos hin]
     obtain ⟨q1, _⟩ := p4 (j - a) (.i .i64 (Int.ofNat 0)) (by rw [List.getElem?_replicate, if_pos (by omega)])
     rw [show a + (j - a) = j from by omega] at q1
     exact q1
    ·rw [if_neg hin, p5 j (by rw [List.length_replicate]; omega), kD hj]
   ·rw [List.getElem?_eq_none (by rw [p1]; simp [gM]; omega), List.getElem?_eq_none (by simp [gM]; omega)]
  refine ⟨⟨h.next, Tr.set (.row .ex (gM M.n (gA M.t c a))) M.wb h.bl⟩, hs, ?_, (H.setW _).1, (H.setW _).2⟩
  have hna : M.n ≠ a := by omega
  rw [if_neg hna]
  simp only [iS, show a + c - a = c from by omega, hc, if_false, vB, dI, H.words, Kind.writable, if_true, Nat.zero_add, Nat.mul_one, hl', hll]
end
noncomputable def aSe (rec : FuncId → List DV → Hp → aG) (x0 x3 v26 : DV) (h0 : Hp) : aG :=
 bnd (aP x0 h0) fun v64 h64 =>
 bnd (aB 1 v64 h64) fun v65 h65 =>
 bnd (aA v65 h65) fun v66 h66 =>
 bnd (aD .add x3 (.i .i64 (Int.ofNat 3)) h66) fun v67 h67 =>
 bnd (aD .add v66 v67 h67) fun v68 h68 =>
 bnd (aP x0 h68) fun v69 h69 =>
 bnd (aB 1 v69 h69) fun v70 h70 =>
 bnd (aE 1 v70 v68 h70) fun _ h71 =>
 bnd (aP x0 h71) fun v72 h72 =>
 bnd (aB 3 v72 h72) fun v73 h73 =>
 bnd (aA v73 h73) fun v74 h74 =>
 bnd (eK (.int .i64) v74 v26 (.b true) h74) fun _ h75 =>
 bnd (rec 76 [v26] h75) fun v76 h76 =>
 bnd (aC 0 v76 h76) fun v77 h77 =>
 bnd (aC 1 v76 h77) fun v78 h78 =>
 some (.t [v77, (.i .i64 (Int.ofNat 0))], h78)
noncomputable def aSb (rec : FuncId → List DV → Hp → aG) (x0 x3 v26 : DV) (h0 : Hp) : aG :=
 bnd (aP x0 h0) fun v56 h56 =>
 bnd (aB 0 v56 h56) fun v57 h57 =>
 bnd (aA v57 h57) fun v58 h58 =>
 bnd (aD .add v26 (.i .i64 (Int.ofNat 3)) h58) fun v59 h59 =>
 bnd (aD .add v26 (.i .i64 (Int.ofNat 3)) h59) fun v60 h60 =>
 bnd (aD .add v60 x3 h60) fun v61 h61 =>
 bnd (cG 1 v58 (some v59) (some v61) h61) fun v62 h62 =>
 bnd (iS [(.i .i64 (Int.ofNat 0))] v62 h62) fun _ h63 =>
 aSe rec x0 x3 v26 h63
noncomputable def aTo (rec : FuncId → List DV → Hp → aG) (x0 x1 x2 x3 v26 : DV) (h0 : Hp) : aG :=
 bnd (aP x0 h0) fun v34 h34 =>
 bnd (aB 0 v34 h34) fun v35 h35 =>
 bnd (aA v35 h35) fun v36 h36 =>
 bnd (aP x0 h36) fun v37 h37 =>
 bnd (aB 0 v37 h37) fun v38 h38 =>
 bnd (aA v38 h38) fun v39 h39 =>
 bnd (aD .add v26 (.i .i64 (Int.ofNat 1)) h39) fun v40 h40 =>
 bnd (aP x0 h40) fun v41 h41 =>
 bnd (aB 0 v41 h41) fun v42 h42 =>
 bnd (aA v42 h42) fun v43 h43 =>
 bnd (aD .add v26 (.i .i64 (Int.ofNat 2)) h43) fun v44 h44 =>
 bnd (dB .shl x3 (.i .u64 (Int.ofNat 2)) h44) fun v45 h45 =>
 bnd (aD .or v45 x2 h45) fun v46 h46 =>
 bnd (aP x0 h46) fun v47 h47 =>
 bnd (aB 2 v47 h47) fun v48 h48 =>
 bnd (aA v48 h48) fun v49 h49 =>
 bnd (aI 1 v36 v26 h49) fun v50 h50 =>
 bnd (aE 1 v50 v46 h50) fun v51 h51 =>
 bnd (aI 1 v39 v40 h51) fun v52 h52 =>
 bnd (aE 1 v52 x1 h52) fun v53 h53 =>
 bnd (aI 1 v43 v44 h53) fun v54 h54 =>
 bnd (aE 1 v54 v49 h54) fun v55 h55 =>
 aSb rec x0 x3 v26 h55
noncomputable def aFj (rec : FuncId → List DV → Hp → aG) (x0 x1 x2 x3 : DV) (h0 : Hp) : aG :=
 bnd (aP x0 h0) fun v24 h24 =>
 bnd (aB 1 v24 h24) fun v25 h25 =>
 bnd (aA v25 h25) fun v26 h26 =>
 bnd (aP x0 h26) fun v27 h27 =>
 bnd (aB 2 v27 h27) fun v28 h28 =>
 bnd (aA v28 h28) fun v29 h29 =>
 bnd (aD .add v29 (.i .i64 (Int.ofNat 1)) h29) fun v30 h30 =>
 bnd (aP x0 h30) fun v31 h31 =>
 bnd (aB 2 v31 h31) fun v32 h32 =>
 bnd (aE 1 v32 v30 h32) fun _ h33 =>
 aTo rec x0 x1 x2 x3 v26 h33
theorem cTz (rec : FuncId → List DV → Hp → aG) (n : Nat) (x0 x1 x2 x3 : DV) (h0 : Hp) : t30 rec n x0 x1 x2 x3 h0 = (
 bnd (rec 74 [x0, x1] h0) fun v1 h1 =>
 bnd (fL .not v1 h1) fun v2 h2 =>
 bnd (gD v2 false (some (x2, h2)) h2) fun v3 h3 =>
 bnd (gD v2 false (aD .lss v3 (.i .i64 (Int.ofNat 0)) h3) h3) fun v4 h4 =>
 bnd (aO v2 (.b true) v4 h4) fun v5 h5 =>
 bnd (gD v5 false (some (x2, h5)) h5) fun v6 h6 =>
 bnd (gD v5 false (aD .gtr v6 (.i .i64 (Int.ofNat 2)) h6) h6) fun v7 h7 =>
 bnd (aO v5 (.b true) v7 h7) fun v8 h8 =>
 bnd (gD v8 false (some (x3, h8)) h8) fun v9 h9 =>
 bnd (gD v8 false (aD .lss v9 (.i .i64 (Int.ofNat 0)) h9) h9) fun v10 h10 =>
 bnd (aO v8 (.b true) v10 h10) fun v11 h11 =>
 bnd (gD v11 false (some (x3, h11)) h11) fun v12 h12 =>
 bnd (gD v11 false (aD .gtr v12 (.i .i64 (Int.ofNat 256)) h12) h12) fun v13 h13 =>
 bnd (aO v11 (.b true) v13 h13) fun v14 h14 =>
 aU v14 (
 some (.t [(.i .i64 (Int.ofNat 0)), (.i .i64 (Int.ofNat 1))], h14)) (
 bnd (rec 75 [x0] h14) fun v15 h15 =>
 bnd (aD .add x3 (.i .i64 (Int.ofNat 3)) h15) fun v16 h16 =>
 bnd (aD .lss v15 v16 h16) fun v17 h17 =>
 bnd (gD v17 false (some (x0, h17)) h17) fun v18 h18 =>
 bnd (gD v17 false (aP v18 h18) h18) fun v19 h19 =>
 bnd (gD v17 false (aB 2 v19 h19) h19) fun v20 h20 =>
 bnd (gD v17 false (aA v20 h20) h20) fun v21 h21 =>
 bnd (gD v17 false (aD .geq v21 (.i .i64 (Int.ofNat 1099511627776)) h21) h21) fun v22 h22 =>
 bnd (aO v17 (.b true) v22 h22) fun v23 h23 =>
 aU v23 (
 some (.t [(.i .i64 (Int.ofNat 0)), (.i .i64 (Int.ofNat 4))], h23)) (
 aFj rec x0 x1 x2 x3 h23))) := rfl
section
variable {m : Pos} {M : MemV} {h : Hp}
theorem bFs (H : ML m M h) {c : Nat} (hr : M.fin + (c + 3) ≤ M.n) (ha : 3 ≤ M.fin ∧ M.fin ≤ 131072) (n : Nat) :
  ∃ h1, aSe (eZ CF1 (n + 11)) (.p m 0) (.i .i64 (Int.ofNat c)) (.i .i64 (Int.ofNat M.fin)) h = some (.t [.i .i64 (Int.ofNat (Nat.mul M.fin 2)), .i .i64 (Int.ofNat 0)], h1) ∧
   ML m { M with fin := M.fin + (c + 3), pl := M.pl.set M.fin 1 } h1 ∧ Oth m M.wb M.pb h h1 := by
 have hn := H.n_lt
 simp only [aSe, gK, dM, aZ, H.l1, jI c 3 _ (show c + 3 < 4611686018427387904 by omega), jI M.fin (c + 3) _ (show M.fin + (c + 3) < 4611686018427387904 by omega)]
 obtain ⟨h6, s6, H6, O6⟩ := H.st1 (x := M.fin + (c + 3)) hr
 simp only [s6, aZ, H6.l3]
 obtain ⟨h7, s7, H7, O7⟩ := H6.place (a := M.fin) (by omega)
 rw [show eK (.int .i64) (.m M.pb) (.i .i64 (Int.ofNat M.fin)) (.b true) h6 = some (aV, h7) from s7]
 have hp : 3 ≤ Int.ofNat M.fin ∧ Int.ofNat M.fin ≤ 131072 := by simp only [Int.ofNat_eq_natCast]; omega
 have e2 : 2 * Int.ofNat M.fin = Int.ofNat (Nat.mul M.fin 2) := by
  have : Nat.mul M.fin 2 = M.fin * 2 := rfl
  rw [this]; simp only [Int.ofNat_eq_natCast]; omega
 have h75 := dEx (n + 9) (Int.ofNat M.fin) h7
 rw [if_pos hp, e2] at h75
 simp only [aZ, h75, bLo, bKx]
 exact ⟨h7, rfl, H7, O6.trans O7⟩
theorem bRv (H : ML m M h) {c : Nat} (hr : M.fin + (c + 3) ≤ M.n) (n : Nat) :
  ∃ h1, aSb (eZ CF1 (n + 11)) (.p m 0) (.i .i64 (Int.ofNat c)) (.i .i64 (Int.ofNat M.fin)) h = aSe (eZ CF1 (n + 11)) (.p m 0) (.i .i64 (Int.ofNat c)) (.i .i64 (Int.ofNat M.fin)) h1 ∧
   ML m { M with t := gA M.t c (M.fin + 3) } h1 ∧ Oth m M.wb M.pb h h1 := by
 have hn := H.n_lt
 obtain ⟨vv, h5, s5, s5', H5, O5⟩ := H.clear (a := M.fin + 3) (c := c) (show M.fin + 3 + c ≤ M.n by omega)
 refine ⟨h5, ?_, H5, O5⟩
 simp only [aSb, gK, dM, aZ, H.l0, jI M.fin 3 _ (show M.fin + 3 < 4611686018427387904 by omega), jI (M.fin + 3) c _ (show M.fin + 3 + c < 4611686018427387904 by omega), s5, s5']
theorem bCz (H : ML m M h) {cls : Int} {c f : Nat} (hcc : c ≤ 256) (hf : f ≤ 2) (hr : M.fin + (c + 3) ≤ M.n) (n : Nat) :
  ∃ h1, aTo (eZ CF1 (n + 11)) (.p m 0) (.i .i64 cls) (.i .i64 (Int.ofNat f)) (.i .i64 (Int.ofNat c)) (.i .i64 (Int.ofNat M.fin)) h = aSb (eZ CF1 (n + 11)) (.p m 0) (.i .i64 (Int.ofNat c)) (.i .i64 (Int.ofNat M.fin)) h1 ∧
   ML m { M with t := ((M.t.set M.fin (Int.ofNat (c * 4 + f))).set (M.fin + 1) cls).set (M.fin + 2) (Int.ofNat M.made) } h1 ∧ Oth m M.wb M.pb h h1 := by
 have hn := H.n_lt
 obtain ⟨h2, s2, H2, O2⟩ := H.put' (a := M.fin) (show M.fin < M.n by omega) (Int.ofNat (c * 4 + f))
 obtain ⟨h3, s3, H3, O3⟩ := H2.put' (a := M.fin + 1) (show M.fin + 1 < M.n by omega) cls
 obtain ⟨h4, s4, H4, O4⟩ := H3.put' (a := M.fin + 2) (show M.fin + 2 < M.n by omega) (Int.ofNat M.made)
 have i1 := H.ix' (a := M.fin) (by omega)
 have i2 : aI 1 (.l M.wb 0 M.n M.n) (.i .i64 (Int.ofNat (M.fin + 1))) h2 = some (.p M.wb (M.fin + 1), h2) := H2.ix' (a := M.fin + 1) (show M.fin + 1 < M.n by omega)
 have i3 : aI 1 (.l M.wb 0 M.n M.n) (.i .i64 (Int.ofNat (M.fin + 2))) h3 = some (.p M.wb (M.fin + 2), h3) := H3.ix' (a := M.fin + 2) (show M.fin + 2 < M.n by omega)
 have s3' : aE 1 (.p M.wb (M.fin + 1)) (.i .i64 cls) h2 = some (aV, h3) := s3
 have s4' : aE 1 (.p M.wb (M.fin + 2)) (.i .i64 (Int.ofNat M.made)) h3 = some (aV, h4) := s4
 refine ⟨h4, ?_, H4, (O2.trans O3).trans O4⟩
 simp only [aTo, gK, dM, aZ, H.l0, H.l2, jI M.fin 1 _ (show M.fin + 1 < 4611686018427387904 by omega), jI M.fin 2 _ (show M.fin + 2 < 4611686018427387904 by omega),
  bZz (Int.ofNat c) _ (show -2305843009213693952 ≤ Int.ofNat c ∧ Int.ofNat c ≤ 2305843009213693951 by simp only [Int.ofNat_eq_natCast]; omega), cMs c f _ hcc hf, i1, s2, i2, s3', i3, s4']
end
theorem bAl {m : Pos} {M : MemV} {h h' : Hp} (S : Sim false h h') (hM : gQ m h = some M) {cls : Int} {c f : Nat} (hcc : c ≤ 256) (hf : f ≤ 2) (hr : M.fin + (c + 3) ≤ M.n) (ha : 3 ≤ M.fin ∧ M.fin ≤ 131072) (n : Nat) :
  ∃ h1, aFj (eZ CF1 (n + 11)) (.p m 0) (.i .i64 cls) (.i .i64 (Int.ofNat f)) (.i .i64 (Int.ofNat c)) h' = some (.t [.i .i64 (Int.ofNat (Nat.mul M.fin 2)), .i .i64 (Int.ofNat 0)], h1) ∧
   Sim false ⟨h.next, Tr.set (.row .ex [.l M.wb 0 M.n M.n, .i .i64 (Int.ofNat (M.fin + (c + 3))), .i .i64 (Int.ofNat (M.made + 1)), .m M.pb]) m
    (Tr.set (.mi (M.pl.set M.fin 1)) M.pb
     (Tr.set (.big M.n (gA (((M.t.set M.fin (Int.ofNat (c * 4 + f))).set (M.fin + 1) cls).set (M.fin + 2) (Int.ofNat (M.made + 1))) c (M.fin + 3))) M.wb h.bl))⟩ h1 := by
 have H := eP hM S
 have hmd : M.made < 1000000 := (iM hM).2.2.2.2.2
 obtain ⟨h1, s1, H1, O1⟩ := H.st2 (x := M.made + 1) (by omega)
 obtain ⟨h2, s2, H2, O2⟩ := bCz H1 (cls := cls) hcc hf hr n
 obtain ⟨h3, s3, H3, O3⟩ := bRv H2 hr n
 obtain ⟨h4, s4, H4, O4⟩ := bFs H3 hr ha n
 have e : aFj (eZ CF1 (n + 11)) (.p m 0) (.i .i64 cls) (.i .i64 (Int.ofNat f)) (.i .i64 (Int.ofNat c)) h' = aTo (eZ CF1 (n + 11)) (.p m 0) (.i .i64 cls) (.i .i64 (Int.ofNat f)) (.i .i64 (Int.ofNat c)) (.i .i64 (Int.ofNat M.fin)) h1 := by
  simp only [aFj, gK, dM, aZ, H.l1, H.l2, jI M.made 1 _ (show M.made + 1 < 4611686018427387904 by omega), s1]
 refine ⟨h4, e.trans (s2.trans (s3.trans s4)), ?_⟩
 dsimp only at H4
 have H5 : ML m ⟨M.wb, M.n, M.fin + (c + 3), M.made + 1, M.pb, gA (((M.t.set M.fin (Int.ofNat (c * 4 + f))).set (M.fin + 1) cls).set (M.fin + 2) (Int.ofNat (M.made + 1))) c (M.fin + 3), M.pl.set M.fin 1⟩ h4 := H4
 exact bWq S hM H5 rfl rfl rfl (((O1.trans O2).trans O3).trans O4)
theorem bLe (n : Nat) (args : List DV) : SimP false (lQ args) (eZ CF1 (n + 12) 31 args) := fun h h' S v k e => by
 unfold lQ at e
 split at e <;> (try (cases e; done))
 rename_i m cls fmt cnt
 split at e <;> (try (cases e; done))
 rename_i M hM
 have H := eP hM S
 have hn := H.n_lt
 have hfn := H.fin_le
 rw [bW 31 rfl, dCa, cTz]
 simp only [g0, g1, g2, g3, cVm H, aZ, qX]
 have herr : ∀ er : Nat, err er h = some (v, k) → ∃ h1, (some (.t [.i .i64 (Int.ofNat 0), .i .i64 (Int.ofNat er)], h') : aG) = some (v, h1) ∧ Sim false k h1 := by
  intro er he
  simp only [err, bB, bK] at he
  obtain ⟨rfl, rfl⟩ := he
  exact ⟨h', rfl, S⟩
 cases hc : uE cls M.pl with
 | false =>
  rw [hc] at e
  simp only [Bool.not_false, cond_true] at e
  simp only [Bool.not_false, eV, aZ, cN, cI]
  exact herr 1 e
 | true =>
  rw [hc] at e
  simp only [Bool.not_true, cond_false] at e
  simp only [Bool.not_true, iG, aZ, cP, dR]
  cases fmt with
  | negSucc f =>
   have hlt : decide (Int.negSucc f < Int.ofNat 0) = true := decide_eq_true (Int.negSucc_lt_zero f)
   simp only [hlt, eV, aZ, cN, cI]
   exact herr 1 e
  | ofNat f =>
   have hlt : decide (Int.ofNat f < Int.ofNat 0) = false := by simp
   simp only [hlt, iG, aZ, cP, kV]
   by_cases hf : f ≤ 2
   ·have hgt : decide (Int.ofNat f > Int.ofNat 2) = false := by simp only [decide_eq_false_iff_not, Int.ofNat_eq_natCast]; omega
    simp only [hgt, iG, aZ, cP, dR]
    cases cnt with
    | negSucc c =>
     have hlt : decide (Int.negSucc c < Int.ofNat 0) = true := decide_eq_true (Int.negSucc_lt_zero c)
     simp only [hlt, eV, aZ, cN, cI]
     exact herr 1 e
    | ofNat c =>
     have hlt : decide (Int.ofNat c < Int.ofNat 0) = false := by simp
     simp only [hlt, iG, aZ, cP, kV]
     dsimp only at e
     simp only [vR, lH, hf, decide_true, Bool.true_and] at e
     by_cases hcc : c ≤ 256
     ·have hgt : decide (Int.ofNat c > Int.ofNat 256) = false := by simp only [decide_eq_false_iff_not, Int.ofNat_eq_natCast]; omega
      simp only [hgt, cX, dAt H, aZ, jI c 3 _ (by omega), dR]
      simp only [hcc, decide_true, cond_true] at e
      have hsub : Nat.sub M.n M.fin = M.n - M.fin := rfl
      have hadd : Nat.add c 3 = c + 3 := rfl
      rw [hsub, hadd] at e
      by_cases hr : M.n - M.fin < c + 3
      ·simp only [hr, decide_true, cond_true] at e
       have hl : decide (Int.ofNat (M.n - M.fin) < Int.ofNat (c + 3)) = true := by simp only [decide_eq_true_eq, Int.ofNat_eq_natCast]; omega
       simp only [hl, eV, aZ, cN, cI]
       exact herr 4 e
      ·simp only [hr, decide_false, cond_false] at e
       have hl : decide (Int.ofNat (M.n - M.fin) < Int.ofNat (c + 3)) = false := by simp only [decide_eq_false_iff_not, Int.ofNat_eq_natCast]; omega
       simp only [hl, iG, aZ, cP, gK, dM, H.l2, qA]
       have hg : decide (Int.ofNat M.made ≥ Int.ofNat 1099511627776) = false := by
        have hmd : M.made < 1000000 := (iM hM).2.2.2.2.2
        simp only [decide_eq_false_iff_not, Int.ofNat_eq_natCast]; omega
       simp only [hg, cX]
       by_cases ha : 3 ≤ M.fin ∧ M.fin ≤ 131072
       ·simp only [ha.1, ha.2, decide_true, Bool.and_self, cond_true, bB, bK] at e
        obtain ⟨rfl, rfl⟩ := e
        exact bAl S hM hcc hf (by omega) ha n
       ·have : (decide (3 ≤ M.fin) && decide (M.fin ≤ 131072)) = false := by
         rw [← Bool.not_eq_true]
         simpa using ha
        rw [this] at e
        simp only [cond_false] at e
        cases e
     ·have hgt : decide (Int.ofNat c > Int.ofNat 256) = true := by simp only [decide_eq_true_eq, Int.ofNat_eq_natCast]; omega
      simp only [hcc, decide_false, cond_false] at e
      simp only [hgt, cI]
      exact herr 1 e
   ·have hgt : decide (Int.ofNat f > Int.ofNat 2) = true := by simp only [decide_eq_true_eq, Int.ofNat_eq_natCast]; omega
    simp only [hgt, eV, aZ, cN, cI]
    cases cnt with
    | negSucc c => exact herr 1 e
    | ofNat c =>
     dsimp only at e
     simp only [vR, hf, decide_false, Bool.false_and, cond_false] at e
     exact herr 1 e
theorem aMx (n : Nat) (args : List DV) : SimP false (aEz args) (eZ CF1 (n + 12) 30 args) := fun h h' S v k e => by
 unfold aEz at e
 split at e <;> (try (cases e; done))
 ·rename_i w
  rw [bW 30 rfl, cJc]
  simp only [t41, g0, dR, aZ]
  simp only [lH] at e
  by_cases h1 : w < 16
  ·simp only [h1, decide_true, Bool.true_or, cond_true, bB, bK] at e
   obtain ⟨rfl, rfl⟩ := e
   have hl : decide (Int.ofNat w < Int.ofNat 16) = true := by simp only [decide_eq_true_eq, Int.ofNat_eq_natCast]; omega
   simp only [hl, eV, aZ, cN, cI]
   exact ⟨h', rfl, S⟩
  ·have hl : decide (Int.ofNat w < Int.ofNat 16) = false := by simp only [decide_eq_false_iff_not, Int.ofNat_eq_natCast]; omega
   simp only [hl, iG, aZ, cP, kV]
   by_cases h2 : 131072 < w
   ·simp only [h2, decide_true, Bool.or_true, cond_true, bB, bK] at e
    obtain ⟨rfl, rfl⟩ := e
    have hg : decide (Int.ofNat w > Int.ofNat 131072) = true := by simp only [decide_eq_true_eq, Int.ofNat_eq_natCast]; omega
    simp only [hg, cI]
    exact ⟨h', rfl, S⟩
   ·simp only [h1, h2, decide_false, Bool.or_self, cond_false, bB, bK] at e
    obtain ⟨rfl, rfl⟩ := e
    have hg : decide (Int.ofNat w > Int.ofNat 131072) = false := by simp only [decide_eq_false_iff_not, Int.ofNat_eq_natCast]; omega
    simp only [hg, cX]
    have hms : cB 1 8 [.i .i64 (Int.ofNat 0)] (.i .i64 (Int.ofNat w)) (.i .i64 (Int.ofNat w)) h' = some (.l h'.next 0 w w, ⟨h'.next.succ, Tr.set (.row .ex (gM w .e)) h'.next h'.bl⟩) := by
     have hc : (0 : Int) ≤ Int.ofNat w ∧ Int.ofNat w ≤ Int.ofNat w ∧ (Int.ofNat w).toNat * 8 ≤ 2 ^ 30 ∧ (Int.ofNat w).toNat * 1 ≤ 2 ^ 24 ∧ Int.ofNat w < 2 ^ 32 := by
      have : (Int.ofNat w).toNat = w := rfl
      rw [this]
      simp only [Int.ofNat_eq_natCast]
      omega
     have hz : (List.replicate (Int.ofNat w).toNat [DV.i .i64 (Int.ofNat 0)]).flatten = gM w .e := by
      have : (Int.ofNat w).toNat = w := rfl
      rw [this, vB]
      apply List.ext_getElem?
      intro j
      by_cases hj : j < w
      ·rw [kD hj, List.getElem?_replicate, if_pos hj]; rfl
      ·rw [List.getElem?_replicate, if_neg hj, List.getElem?_eq_none (by simp [gM]; omega)]
     simp only [cB, hc, and_self, if_true, hz]
     rfl
    simp only [hms, aZ, cQ]
    have hb : ∀ x y h, aX [.l0, .i .i64 (Int.ofNat 0), .i .i64 (Int.ofNat 0), .m0] [(0, 1, .l x 0 w w), (1, 1, .i .i64 (Int.ofNat 3)), (3, 1, .m y)] h = some (.a [.l x 0 w w, .i .i64 (Int.ofNat 3), .i .i64 (Int.ofNat 0), .m y], h) := fun x y h => rfl
    simp only [hb, aZ, bS, eJ, bJ]
    have hnx := S.next
    refine ⟨_, by rw [hnx]; rfl, ?_⟩
    refine ⟨rfl, fun b o hb => ?_⟩
    show ∃ o', (Tr.set _ (aY 2 h.next) (Tr.set _ (aY 1 h.next) (Tr.set _ h.next h'.bl))).get b = some o' ∧ _
    by_cases b1 : b = aY 2 h.next
    ·subst b1
     simp only [dIa, bB] at hb ⊢
     subst hb
     exact ⟨_, rfl, rfl⟩
    ·simp only [dHz _ _ _ _ b1] at hb ⊢
     by_cases b2 : b = aY 1 h.next
     ·subst b2
      simp only [dIa, bB] at hb ⊢
      subst hb
      exact ⟨_, rfl, by simp only [rL]; exact ⟨[], rfl, fun a => by simp [gO, WT.get_e]⟩⟩
     ·simp only [dHz _ _ _ _ b2] at hb ⊢
      by_cases b3 : b = h.next
      ·subst b3
       simp only [dIa, bB] at hb ⊢
       subst hb
       exact ⟨_, rfl, by simp [rL]⟩
      ·simp only [dHz _ _ _ _ b3] at hb ⊢
       exact S.get b o hb
 ·rename_i w
  simp only [bB, bK] at e
  obtain ⟨rfl, rfl⟩ := e
  rw [bW 30 rfl, cJc]
  have hl : decide (Int.negSucc w < Int.ofNat 16) = true := by simp only [decide_eq_true_eq]; have := Int.negSucc_lt_zero w; simp only [Int.ofNat_eq_natCast]; omega
  simp only [t41, g0, dR, aZ, hl, eV, cN, cI]
  exact ⟨h', rfl, S⟩
end Go.Dd

namespace Go.Dd
theorem aAi {gg : Bool} (args : List DV) : SimP gg (lC args) (lC args) := fun h h' S v k e => by
 unfold lC at e ⊢
 split at e <;> (try (cases e; done))
 rename_i l c
 cases hc : Nat.blt c 256 with
 | false => rw [hc] at e; cases e
 | true =>
  rw [hc] at e
  simp only [cond_true, bB, bK] at e
  obtain ⟨rfl, rfl⟩ := e
  exact ⟨h', rfl, S⟩
theorem aLd {gg : Bool} (q : Pos) (l1 : DV) (cs : List DV) : SimP gg (iT q l1 cs) (iT q l1 cs) := fun h h' S v k e => by
 unfold iT at e ⊢
 split at e <;> (try (cases e; done))
 ·simp only [bB, bK] at e ⊢
  obtain ⟨rfl, rfl⟩ := e
  exact ⟨_, ⟨by rw [S.next], rfl⟩, by rw [S.next]; exact S.setR _ _ _ _⟩
 ·rename_i b o len cap
  cases hc : (Nat.ble cap len && !(lJ b q)) with
  | false => rw [hc] at e; cases e
  | true =>
   rw [hc] at e
   simp only [cnd] at e ⊢
   split at e <;> (try (cases e; done))
   rename_i es l old hb hold
   rw [S.row hb, S.cellsAt hold]
   dsimp only
   split at e <;> (try (cases e; done))
   rename_i hr
   rw [if_pos hr]
   simp only [bB, bK] at e ⊢
   obtain ⟨rfl, rfl⟩ := e
   refine ⟨_, ⟨by rw [S.next], rfl⟩, ?_⟩
   rw [S.next]
   exact (S.setR .sp (bM o l) b h.next).setR _ _ _ _
theorem aLs {gg : Bool} (c q : Pos) : SimP gg (pE c q) (pE c q) := by
 intro h h' S
 unfold pE
 refine dIh (jV _ h h' S) fun l1 _ _ _ => ?_
 refine dIh (dId (lN l1) h h' S) fun n _ _ _ => ?_
 refine dIh (kC _ _ h h' S) fun x _ _ _ => ?_
 split
 ·refine dIw id ?_
  have S2 : Sim gg ⟨h.next.succ.succ, h.bl⟩ ⟨h'.next.succ.succ, h'.bl⟩ := ⟨by show h'.next.succ.succ = _; rw [S.next], S.get⟩
  refine dIh (aLd _ _ _ _ _ S2) fun l2 h3 h3' T3 => ?_
  exact dIh (kE _ _ _ h3 h3' T3) fun u h4 h4' T4 => SimR.some T4 _
 ·exact SimR.none _
theorem cDy {gg : Bool} (n : Nat) (f : FuncId) (args : List DV) : SimP gg (fnD CF0 n f args) (fnD CF0 n f args) :=
 bPl (gg := gg) (P := Go.Proofs.Tryz.prog) (I2 := fun _ => none) (I1 := fun _ => none) 0 (fun _ _ => rfl) (fun _ _ h => by cases h) n f args
theorem aDs {gg : Bool} (args : List DV) : SimP gg (kN args) (kN args) := by
 unfold kN
 intro h h' S
 split
 ·rename_i c lit
  dsimp only
  rw [show h'.next = h.next from S.next]
  refine dIh (aCd _ h h' S) fun b h1 h1' T1 => ?_
  refine dIh (jV _ h1 h1' T1) fun ls h2 h2' T2 => ?_
  refine dIh (cDy _ _ _ h2 h2' T2) fun i h3 h3' T3 => ?_
  refine dIh (dId (wN _ _ _) h3 h3' T3) fun t h4 h4' T4 => ?_
  exact aGi (aLs _ _ h4 h4' T4) (SimR.some T4 _)
 ·exact SimR.none _
theorem mF {C : Cfg} {rec : FuncId → List DV → Hp → aG} {g : FuncId} (h : C.I g = none) (args : List DV) : bR C rec g args = rec g args := by
 funext k
 unfold bR
 rw [h]
theorem aJh (g : FuncId) (F : List DV → Hp → aG) (hg : xS g = some F) (n : Nat) (args : List DV) : SimP false (F args) (eZ CF1 (n + 12) g args) := by
 unfold xS at hg
 have hb : ∀ k, Nat.beq g k = true → g = k := fun k h => Nat.eq_of_beq_eq_true h
 cases h1 : Nat.beq g 18 with
 | true => rw [h1] at hg; cases hg; rw [hb _ h1]; exact cFf n args
 | false =>
 cases h2 : Nat.beq g 46 with
 | true => rw [h1, h2] at hg; cases hg; rw [hb _ h2]; exact cQx n args
 | false =>
 cases h3 : Nat.beq g 94 with
 | true => rw [h1, h2, h3] at hg; cases hg; rw [hb _ h3]; exact bOj n args
 | false =>
 cases h4 : Nat.beq g 75 with
 | true => rw [h1, h2, h3, h4] at hg; cases hg; rw [hb _ h4]; exact bQj n args
 | false =>
 cases h5 : Nat.beq g 31 with
 | true => rw [h1, h2, h3, h4, h5] at hg; cases hg; rw [hb _ h5]; exact bLe n args
 | false =>
 cases h6 : Nat.beq g 30 with
 | true => rw [h1, h2, h3, h4, h5, h6] at hg; cases hg; rw [hb _ h6]; exact aMx n args
 | false =>
 cases h7 : Nat.beq g 35 with
 | true => rw [h1, h2, h3, h4, h5, h6, h7] at hg; cases hg; rw [hb _ h7]; exact aEm n args
 | false =>
 cases h8 : Nat.beq g 38 with
 | true => rw [h1, h2, h3, h4, h5, h6, h7, h8] at hg; cases hg; rw [hb _ h8]; exact cAe n args
 | false =>
 cases h9 : Nat.beq g 104 with
 | true => rw [h1, h2, h3, h4, h5, h6, h7, h8, h9] at hg; cases hg; rw [hb _ h9]; exact aXs n args
 | false =>
 cases h10 : Nat.beq g 90 with
 | true => rw [h1, h2, h3, h4, h5, h6, h7, h8, h9, h10] at hg; cases hg; rw [hb _ h10]; exact aLg n args
 | false =>
 cases h11 : Nat.beq g 73 with
 | true => rw [h1, h2, h3, h4, h5, h6, h7, h8, h9, h10, h11] at hg; cases hg; rw [hb _ h11]; exact aOg n args
 | false =>
 cases h12 : Nat.beq g 45 with
 | true => rw [h1, h2, h3, h4, h5, h6, h7, h8, h9, h10, h11, h12] at hg; cases hg; rw [hb _ h12]; exact aJa n args
 | false =>
 cases h13 : Nat.beq g 88 with
 | true => rw [h1, h2, h3, h4, h5, h6, h7, h8, h9, h10, h11, h12, h13] at hg; cases hg; rw [hb _ h13]; exact aZj n args
 | false =>
 cases h14 : Nat.beq g 122 with
 | true => rw [h1, h2, h3, h4, h5, h6, h7, h8, h9, h10, h11, h12, h13, h14] at hg; cases hg; rw [hb _ h14]; exact aZv n args
 | false =>
 cases h15 : Nat.beq g 52 with
 | true => rw [h1, h2, h3, h4, h5, h6, h7, h8, h9, h10, h11, h12, h13, h14, h15] at hg; cases hg; rw [hb _ h15]; exact cHi n args
 | false => rw [h1, h2, h3, h4, h5, h6, h7, h8, h9, h10, h11, h12, h13, h14, h15] at hg; cases hg
theorem bKm (n : Nat) (f : FuncId) (args : List DV) : SimP false (eZ CF n f args) (eZ CF1 (n + 12) f args) := by
 have key := aBi (I := itm) (q := rgB) (gg := false) (P := Go.Proofs.Tryz.prog) (I2 := CF.I) (I1 := CF1.I) 12 (fun g hg => by
  show (bif Nat.beq g 229 then some lC else bif Nat.beq g 214 then some kN else none) = none
  change (bif Nat.beq g 229 then some lC else bif Nat.beq g 214 then some kN else xS g) = none at hg
  cases h1 : Nat.beq g 229 with
  | true => rw [h1] at hg; cases hg
  | false =>
   cases h2 : Nat.beq g 214 with
   | true => rw [h1, h2] at hg; cases hg
   | false => rfl) (fun g F hg n args => by
  change (bif Nat.beq g 229 then some lC else bif Nat.beq g 214 then some kN else xS g) = some F at hg
  have hcall : bR ⟨Go.Proofs.Tryz.prog, CF1.I⟩ (eZ ⟨Go.Proofs.Tryz.prog, CF1.I⟩ (n + 12)) g args = fun h => match (bif Nat.beq g 229 then some lC else bif Nat.beq g 214 then some kN else none : Option (List DV → Hp → aG)) with
   | some F => F args h
   | none => eZ ⟨Go.Proofs.Tryz.prog, CF1.I⟩ (n + 12) g args h := rfl
  rw [hcall]
  cases h1 : Nat.beq g 229 with
  | true => rw [h1] at hg; cases hg; exact aAi args
  | false =>
   cases h2 : Nat.beq g 214 with
   | true => rw [h1, h2] at hg; cases hg; exact aDs args
   | false =>
    rw [h1, h2] at hg
    exact aJh g F hg n args) n f args
 exact key
end Go.Dd

namespace Go.Dd
open Go.Proofs
theorem xY {m : Pos} {M : MemV} {h h' : Hp} (S : Sim true h h') (hm : gQ m h = some M) : gQ m h' = some M := by
 have hget : ∀ b o, h.bl.get b = some o → h'.bl.get b = some o := fun b o hb => by
  obtain ⟨o', h1, h2⟩ := S.get b o hb
  rw [h1, jE h2]
 unfold gQ at hm ⊢
 split at hm <;> (try (cases hm; done))
 rename_i wb n c fin made pb hr
 split at hm <;> (try (cases hm; done))
 rename_i n' t pl h1 h2
 simp only [hget _ _ hr, hget _ _ h1, hget _ _ h2]
 exact hm
theorem eO {args : List DV} {k : Hp → MemV → List DV → aG} (hk : ∀ M r, SimP true (fun h => k h M r) (fun h => k h M r)) : SimP true (fun h => iR args h (k h)) (fun h => iR args h (k h)) := fun h h' S v g e => by
 obtain ⟨m, rest, M, rfl, hM, e⟩ := dZ e
 obtain ⟨g', e1, e2⟩ := hk M rest h h' S v g e
 refine ⟨g', ?_, e2⟩
 show (match gQ m h' with
  | some M => k h' M rest
  | none => none) = some (v, g')
 rw [xY S hM]
 exact e1
theorem kP {M : MemV} {o : Int} {k k' : Nat → aG} (h : ∀ n, SimR true (k n) (k' n)) : SimR true (iC M o k) (iC M o k') := by
 unfold iC
 cases Nat.blt (Nat.add (dX o M.pl) 1) M.n with
 | false => exact SimR.none _
 | true =>
  simp only [cond_true]
  cases M.t.get (dX o M.pl) with
  | negSucc a => exact SimR.none _
  | ofNat hd =>
   dsimp only
   cases Nat.blt hd 1000000000000 with
   | false => exact SimR.none _
   | true => exact h hd
theorem qU {M : MemV} {o i : Int} {b b' : Nat → aG} {k k' : Nat → Nat → aG} (hb : ∀ n, SimR true (b n) (b' n)) (h : ∀ n m, SimR true (k n m) (k' n m)) : SimR true (iQ M o i b k) (iQ M o i b' k') := by
 unfold iQ
 cases Nat.beq (dX o M.pl) 0 with
 | true => exact hb 1
 | false =>
  simp only [cond_false]
  cases i with
  | negSucc i => exact hb 5
  | ofNat i =>
   dsimp only
   refine kP fun hd => ?_
   cases Nat.ble (Nat.div hd 4) i with
   | true => exact hb 5
   | false =>
    simp only [cond_false]
    cases Nat.blt (Nat.add (Nat.add (dX o M.pl) 3) i) M.n with
    | false => exact SimR.none _
    | true => exact h _ _
theorem iV {h h' : Hp} (S : Sim true h h') (o : Ob) (b n : Pos) : Sim true ⟨n, Tr.set o b h.bl⟩ ⟨n, Tr.set o b h'.bl⟩ := S.set (jZ o) b n
theorem mM {M : MemV} {a : Nat} {w : Int} : SimP true (oT M a w) (oT M a w) := fun h h' S v g e => by
 simp only [oT, bB, bK] at e ⊢
 obtain ⟨rfl, rfl⟩ := e
 exact ⟨_, ⟨rfl, rfl⟩, by rw [S.next]; exact iV S _ _ _⟩
theorem bIp (g : FuncId) (F : List DV → Hp → aG) (hg : xS g = some F) (args : List DV) : SimP true (F args) (F args) := by
 have hmay : SimP true (aIn args) (aIn args) := eO (k := fun h M r => match r with
  | [.i .i64 w] => some (.b (rE w M.pl), h)
  | _ => none) fun M r h h' S => by dsimp only; split <;> first | exact SimR.some S _ | exact SimR.none _
 have his : SimP true (isF args) (isF args) := eO (k := fun h M r => match r with
  | [.i .i64 w] => some (.b (!(Nat.beq (dX w M.pl) 0)), h)
  | _ => none) fun M r h h' S => by dsimp only; split <;> first | exact SimR.some S _ | exact SimR.none _
 have hsize : SimP true (mA args) (mA args) := eO (k := fun h M r => match r with
  | [] => some (.i .i64 (.ofNat M.n), h)
  | _ => none) fun M r h h' S => by dsimp only; split <;> first | exact SimR.some S _ | exact SimR.none _
 have hroom : SimP true (aVn args) (aVn args) := eO (k := fun h M r => match r with
  | [] => some (.i .i64 (.ofNat (Nat.sub M.n M.fin)), h)
  | _ => none) fun M r h h' S => by dsimp only; split <;> first | exact SimR.some S _ | exact SimR.none _
 have hclass : SimP true (fH args) (fH args) := eO (k := fun h M r => match r with
  | [.i .i64 o] => iC M o fun _ => some (.i .i64 (M.t.get (Nat.add (dX o M.pl) 1)), h)
  | _ => none) fun M r h h' S => by dsimp only; split <;> first | exact kP (fun _ => SimR.some S _) | exact SimR.none _
 have hformat : SimP true (fN args) (fN args) := eO (k := fun h M r => match r with
  | [.i .i64 o] => iC M o fun hd => some (.i .i64 (.ofNat (Nat.mod hd 4)), h)
  | _ => none) fun M r h h' S => by dsimp only; split <;> first | exact kP (fun _ => SimR.some S _) | exact SimR.none _
 have hfields : SimP true (fO args) (fO args) := eO (k := fun h M r => match r with
  | [.i .i64 o] => iC M o fun hd => some (.i .i64 (.ofNat (Nat.div hd 4)), h)
  | _ => none) fun M r h h' S => by dsimp only; split <;> first | exact kP (fun _ => SimR.some S _) | exact SimR.none _
 have hget : SimP true (aMt args) (aMt args) := eO (k := fun h M r => match r with
  | [.i .i64 o, .i .i64 i] => iQ M o i (fun e => err e h) fun _ a => some (.t [.i .i64 (M.t.get a), .i .i64 (.ofNat 0)], h)
  | _ => none) fun M r h h' S => by dsimp only; split <;> first | exact qU (fun _ => SimR.some S _) (fun _ _ => SimR.some S _) | exact SimR.none _
 have hput : SimP true (aHp args) (aHp args) := eO (k := fun h M r => match r with
  | [.i .i64 o, .i .i64 i, .i .i64 w] => iQ M o i (fun e => some (.i .i64 (.ofNat e), h)) fun hd a =>
   match Nat.mod hd 4 with
   | 0 => bif rE w M.pl then oT M a w h else some (.i .i64 (.ofNat 6), h)
   | 2 => (match w with
    | .ofNat c => bif Nat.ble c 255 then oT M a w h else some (.i .i64 (.ofNat 6), h)
    | .negSucc _ => some (.i .i64 (.ofNat 6), h))
   | _ => oT M a w h
  | _ => none) fun M r h h' S => by
   dsimp only
   split
   ·rename_i o i w
    refine qU (fun _ => SimR.some S _) fun hd a => ?_
    split
    ·cases rE w M.pl with
     | true => exact mM h h' S
     | false => exact SimR.some S _
    ·cases w with
     | negSucc c => exact SimR.some S _
     | ofNat c =>
      dsimp only
      cases Nat.ble c 255 with
      | true => exact mM h h' S
      | false => exact SimR.some S _
    ·exact mM h h' S
   ·exact SimR.none _
 have hsetc : SimP true (jU args) (jU args) := eO (k := fun h M r => match r with
  | [.i .i64 o, .i .i64 c] => bif Nat.beq (dX o M.pl) 0 || !(uE c M.pl) then some (.i .i64 (.ofNat 1), h) else
   (bif Nat.blt (Nat.add (dX o M.pl) 1) M.n then oT M (Nat.add (dX o M.pl) 1) c h else none)
  | _ => none) fun M r h h' S => by
   dsimp only
   split
   ·rename_i o c
    cases Nat.beq (dX o M.pl) 0 || !(uE c M.pl) with
    | true => exact SimR.some S _
    | false =>
     simp only [cond_false]
     cases Nat.blt (Nat.add (dX o M.pl) 1) M.n with
     | true => exact mM h h' S
     | false => exact SimR.none _
   ·exact SimR.none _
 have hmake : SimP true (lQ args) (lQ args) := fun h h' S => by
  unfold lQ
  split
  ·rename_i m cls fmt cnt
   intro v g e
   split at e
   ·cases e
   ·rename_i M hM
    rw [xY S hM]
    dsimp only
    revert e
    have herr : ∀ n, SimR true (err n h) (err n h') := fun n => SimR.some S _
    suffices hs : SimR true _ _ from fun e => hs v g e
    cases !(uE cls M.pl) with
    | true => exact herr 1
    | false =>
     simp only [cond_false]
     cases fmt with
     | negSucc f => exact herr 1
     | ofNat f =>
      cases cnt with
      | negSucc c => exact herr 1
      | ofNat c =>
       dsimp only
       cases Nat.ble f 2 && Nat.ble c 256 with
       | false => exact herr 1
       | true =>
        simp only [cond_true]
        cases Nat.blt (Nat.sub M.n M.fin) (Nat.add c 3) with
        | true => exact herr 4
        | false =>
         simp only [cond_false]
         cases Nat.ble 3 M.fin && Nat.ble M.fin 131072 with
         | false => exact SimR.none _
         | true =>
          simp only [cond_true]
          intro v g e
          simp only [bB, bK] at e ⊢
          obtain ⟨rfl, rfl⟩ := e
          refine ⟨_, ⟨rfl, rfl⟩, ?_⟩
          rw [S.next]
          exact iV (iV (iV S _ _ h.next) _ _ h.next) _ _ h.next
  ·exact SimR.none _
 have hnew : SimP true (aEz args) (aEz args) := fun h h' S => by
  unfold aEz
  split
  ·rename_i n
   cases Nat.blt n 16 || Nat.blt 131072 n with
   | true => exact SimR.some S _
   | false =>
    simp only [cond_false]
    intro v g e
    simp only [bB, bK] at e ⊢
    obtain ⟨rfl, rfl⟩ := e
    rw [S.next]
    exact ⟨_, ⟨rfl, rfl⟩, iV (iV (iV S _ _ h.next) _ _ h.next) _ _ _⟩
  ·exact SimR.some S _
  ·exact SimR.none _
 have hpure : ∀ F : Hp → aG, (∀ h h', Sim true h h' → SimR true (F h) (F h')) → SimP true F F := fun F hF => hF
 have hsm : SimP true (iA args) (iA args) := fun h h' S => by unfold iA; split <;> first | exact SimR.some S _ | exact SimR.none _
 have hva : SimP true (lI args) (lI args) := fun h h' S => by
  unfold lI
  split
  ·rename_i w
   cases gV w <;> exact SimR.some S _
  ·exact SimR.none _
 have hsl : SimP true (mB args) (mB args) := fun h h' S => by
  unfold mB
  split
  ·rename_i n; cases Nat.blt n 1073741824 <;> exact SimR.some S _
  ·rename_i n; cases Nat.blt n 1073741824 <;> exact SimR.some S _
  ·exact SimR.none _
 unfold xS at hg
 cases h1 : Nat.beq g 18 with
 | true => rw [h1] at hg; cases hg; exact hmay
 | false =>
 cases h2 : Nat.beq g 46 with
 | true => rw [h1, h2] at hg; cases hg; exact his
 | false =>
 cases h3 : Nat.beq g 94 with
 | true => rw [h1, h2, h3] at hg; cases hg; exact hsize
 | false =>
 cases h4 : Nat.beq g 75 with
 | true => rw [h1, h2, h3, h4] at hg; cases hg; exact hroom
 | false =>
 cases h5 : Nat.beq g 31 with
 | true => rw [h1, h2, h3, h4, h5] at hg; cases hg; exact hmake
 | false =>
 cases h6 : Nat.beq g 30 with
 | true => rw [h1, h2, h3, h4, h5, h6] at hg; cases hg; exact hnew
 | false =>
 cases h7 : Nat.beq g 35 with
 | true => rw [h1, h2, h3, h4, h5, h6, h7] at hg; cases hg; exact hsetc
 | false =>
 cases h8 : Nat.beq g 38 with
 | true => rw [h1, h2, h3, h4, h5, h6, h7, h8] at hg; cases hg; exact hput
 | false =>
 cases h9 : Nat.beq g 104 with
 | true => rw [h1, h2, h3, h4, h5, h6, h7, h8, h9] at hg; cases hg; exact hclass
 | false =>
 cases h10 : Nat.beq g 90 with
 | true => rw [h1, h2, h3, h4, h5, h6, h7, h8, h9, h10] at hg; cases hg; exact hformat
 | false =>
 cases h11 : Nat.beq g 73 with
 | true => rw [h1, h2, h3, h4, h5, h6, h7, h8, h9, h10, h11] at hg; cases hg; exact hfields
 | false =>
 cases h12 : Nat.beq g 45 with
 | true => rw [h1, h2, h3, h4, h5, h6, h7, h8, h9, h10, h11, h12] at hg; cases hg; exact hsm
 | false =>
 cases h13 : Nat.beq g 88 with
 | true => rw [h1, h2, h3, h4, h5, h6, h7, h8, h9, h10, h11, h12, h13] at hg; cases hg; exact hsl
 | false =>
 cases h14 : Nat.beq g 122 with
 | true => rw [h1, h2, h3, h4, h5, h6, h7, h8, h9, h10, h11, h12, h13, h14] at hg; cases hg; exact hva
 | false =>
 cases h15 : Nat.beq g 52 with
 | true => rw [h1, h2, h3, h4, h5, h6, h7, h8, h9, h10, h11, h12, h13, h14, h15] at hg; cases hg; exact hget
 | false => rw [h1, h2, h3, h4, h5, h6, h7, h8, h9, h10, h11, h12, h13, h14, h15] at hg; cases hg
theorem aIk (g : FuncId) (F : List DV → Hp → aG) (hg : CF.I g = some F) (args : List DV) : SimP true (F args) (F args) := by
 change (bif Nat.beq g 229 then some lC else bif Nat.beq g 214 then some kN else xS g) = some F at hg
 cases h1 : Nat.beq g 229 with
 | true => rw [h1] at hg; cases hg; exact aAi args
 | false =>
  cases h2 : Nat.beq g 214 with
  | true => rw [h1, h2] at hg; cases hg; exact aDs args
  | false => rw [h1, h2] at hg; exact bIp g F hg args
theorem aXq (n : Nat) (f : FuncId) (args : List DV) : SimP true (fW n f args) (fW n f args) := by
 rw [aEe]
 exact aBi (I := itm) (q := rgB) (gg := true) (P := Tryz.prog) (I2 := CF.I) (I1 := CF.I) 0 (fun g h => h) (fun g F hg n args => by
  have : bR ⟨Tryz.prog, CF.I⟩ (eZ ⟨Tryz.prog, CF.I⟩ (n + 0)) g args = F args := by
   funext h
   unfold bR
   rw [show (⟨Tryz.prog, CF.I⟩ : Cfg).I g = some F from hg]
  rw [this]
  exact aIk g F hg args) n f args
theorem aYf (n : Nat) (g : FuncId) (args : List DV) : SimP true (bR CF (fW n) g args) (bR CF (fW n) g args) := by
 unfold bR
 cases hg : CF.I g with
 | none => exact aXq n g args
 | some F => exact aIk g F hg args
end Go.Dd

namespace Go.Dd
open Go.Proofs
abbrev K4T := DV → DV → DV → DV → Hp → aG
noncomputable abbrev R9 : RT := fW 899
noncomputable def XL : Nat → K := xs x0 7 (fun env h => iE R9 899 (env 5) h)
noncomputable def krN : K := aQ CF Tryz.f7
noncomputable def bTe : Code := cL (cL (cR (cL (cR (cR (cR (cR (cR (cR (cf Tryz.f7))))))))))
noncomputable def kb (kk : K4T) : K := fun env h => kk (env 5) (env 155) (env 156) (env 157) h
noncomputable def aJg (a b c d : DV) : aS := fun t => bif Nat.beq t 5 then a else bif Nat.beq t 155 then b else bif Nat.beq t 156 then c else bif Nat.beq t 157 then d else .u
theorem aDe (kk : K4T) (a b c d : DV) (h : Hp) : mS R9 899 kk a b c d h = aM CF R9 179 899 bTe XL krN (kb kk) (aJg a b c d) h :=
 (congrFun (congrFun (bGl R9 899 kk) (aJg a b c d)) h).symm
theorem aQd (e : aS) (h : Hp) : krN e h = some (.t [e 2, e 3], h) := by kernel_rfl
def dEk (r : aG) : Prop := ∃ a b c d h, r = some (.t [a, b, c, d], h)
theorem bDp (a b c d : DV) (h : Hp) : (∃ a' b' c' d' h', ∀ kk : K4T, mS R9 899 kk a b c d h = kk a' b' c' d' h') ∨ (∃ r, ¬ dEk r ∧ ∀ kk : K4T, mS R9 899 kk a b c d h = r) := by
 obtain ⟨O, hO⟩ := aHu (C := CF) (rec := R9) (nt := 179) 899 bTe
 have key : ∀ kk : K4T, mS R9 899 kk a b c d h = dIz (O (aJg a b c d) h) XL krN (kb kk) := fun kk => (aDe kk a b c d h).trans (hO _ _ _ _ _)
 cases ho : O (aJg a b c d) h with
 | none => exact .inr ⟨none, (by rintro ⟨_, _, _, _, _, e⟩; cases e), fun kk => by rw [key kk, ho]; rfl⟩
 | some o =>
  cases o with
  | n e h' => exact .inl ⟨e 5, e 155, e 156, e 157, h', fun kk => by rw [key kk, ho]; rfl⟩
  | r e h' => exact .inr ⟨some (.t [e 2, e 3], h'), (by rintro ⟨_, _, _, _, _, q⟩; cases q), fun kk => by rw [key kk, ho]; exact aQd e h'⟩
  | x i e h' =>
   refine .inr ⟨XL i e h', ?_, fun kk => by rw [key kk, ho]; rfl⟩
   rintro ⟨_, _, _, _, _, q⟩
   unfold XL xs at q
   cases hi : Nat.beq i 7 with
   | true => rw [hi] at q; cases q
   | false => rw [hi] at q; cases q
theorem uA (n : Nat) (kk : K4T) : itN (n + 1) kk = mS R9 899 (itN n kk) := rfl
theorem bNb : ∀ (n : Nat) (a b c d : DV) (h : Hp) (a' b' c' d' : DV) (h' : Hp), itN n bRg a b c d h = some (.t [a', b', c', d'], h') → ∀ kk : K4T, itN n kk a b c d h = kk a' b' c' d' h'
 | 0, a, b, c, d, h, a', b', c', d', h', e, kk => by
  have e' : (some (.t [a, b, c, d], h) : aG) = some (.t [a', b', c', d'], h') := e
  simp only [bB, bK, DV.t.injEq, List.cons.injEq, and_true] at e'
  obtain ⟨⟨rfl, rfl, rfl, rfl⟩, rfl⟩ := e'
  rfl
 | n + 1, a, b, c, d, h, a', b', c', d', h', e, kk => by
  rw [uA] at e ⊢
  rcases bDp a b c d h with ⟨a1, b1, c1, d1, h1, hs⟩ | ⟨r, hr, hs⟩
  ·rw [hs] at e ⊢
   exact bNb n a1 b1 c1 d1 h1 a' b' c' d' h' e kk
  ·rw [hs] at e
   exact absurd ⟨_, _, _, _, _, e⟩ hr
theorem bDa (kk : K4T) (hk : ∀ a b c d, SimP true (kk a b c d) (kk a b c d)) : ∀ (n : Nat) (a b c d : DV), SimP true (itN n kk a b c d) (itN n kk a b c d)
 | 0, a, b, c, d => hk a b c d
 | n + 1, a, b, c, d => by
  have ih := bDa kk hk n
  rw [uA]
  have hX : ∀ j, SimK true (XL j) (XL j) := by
   intro j env h h' S
   unfold XL xs
   cases Nat.beq j 7 with
   | true => exact SimR.some S _
   | false => exact SimR.none _
  have hR : SimK true krN krN := fun env h h' S => by rw [aQd, aQd]; exact SimR.some S _
  have hK : SimK true (kb (itN n kk)) (kb (itN n kk)) := fun env => ih _ _ _ _
  have hc := fJ (gg := true) (P := Tryz.prog) (I2 := CF.I) (I1 := CF.I) (rec2 := R9) (rec1 := R9) (fun g args => aYf 899 g args) 179 899 0 bTe XL XL krN krN (kb (itN n kk)) (kb (itN n kk)) hX hR hK (aJg a b c d)
  intro h h' S
  rw [aDe, aDe]
  exact hc h h' S
theorem yB (m : Nat) : ∀ n, mX R9 899 (m + n) = itN n (mX R9 899 m)
 | 0 => rfl
 | n + 1 => by
  rw [uA, ← yB m n]
  rfl
theorem iX {k n nx nx' : Nat} {L L' : List (Pos × Ob)} (hc : kQ (mP k n (hY nx L)) (jX (k + n)) nx' L' = true) (m : Nat) {h : Hp} (S : Sim true (hY nx L) h) :
  ∃ h', Sim true (hY nx' L') h' ∧ mX R9 899 (m + n) (.p (dH 7) 0) (.l (dH 431) 0 75 75) (.i .i64 (.ofNat 75)) (.i .i64 (.ofNat k)) h =
   mX R9 899 m (.p (dH 7) 0) (.l (dH 431) 0 75 75) (.i .i64 (.ofNat 75)) (.i .i64 (.ofNat (k + n))) h' := by
 obtain ⟨g, e1, e2⟩ := aVq hc
 obtain ⟨g', f1, f2⟩ := bDa bRg (fun a b c d h h' S => SimR.some S _) n _ _ _ _ (hY nx L) h S _ _ e1
 refine ⟨g', e2.trans f2, ?_⟩
 rw [yB]
 exact bNb n _ _ _ _ _ _ _ _ _ _ f1 _
theorem bAa (k : K) : aM CF R9 179 899 (cf Tryz.f7) x0 krN k = aM CF R9 179 899 cCa x0 krN (aM CF R9 179 899 bKu x0 krN (aM CF R9 179 899 cZl x0 krN k)) := by kernel_rfl
theorem cOb : aM CF R9 179 899 cZl x0 krN krN = fun env h => iE R9 899 (env 5) h := cIw R9 899
theorem cEd : aM CF R9 179 899 bKu x0 krN (fun env h => iE R9 899 (env 5) h) = fun env h => cGu R9 899 (env 5) (env 155) (env 156) (env 157) h :=
 (by kernel_rfl : aM CF R9 179 899 bKu x0 krN (fun env h => iE R9 899 (env 5) h) = D7 R9 899 (cL (cR (cL (cR (cR (cR (cR (cR (cR (cf Tryz.f7)))))))))) (xs x0 7 (fun (env : aS) (h : Hp) => iE R9 899 (env 5) h)) (fun (env : aS) (h : Hp) => iE R9 899 (env 5) h)).trans (cIg R9 899)
theorem cSk (x : DV) (h : Hp) : aF CF R9 899 7 [x] h = aM CF R9 179 899 (cf Tryz.f7) x0 krN krN (aJ [x]) h := by kernel_rfl
theorem cEy : ∃ e h', Sim true (hY 432 (mK 20000 553 84 18 [1076, 1096, 6, 24, 42, 60, 78, 96, 114, 132, 150, 168, 186, 204, 222, 240, 258, 276] [(10, 0), (19, 0), (46, 0), (55, 0), (64, 0), (91, 0), (100, 0), (109, 0), (118, 0), (127, 0), (145, 0)] 0)) h' ∧ e 5 = .p (dH 7) 0 ∧ e 155 = .l (dH 431) 0 75 75 ∧ e 156 = .i .i64 (.ofNat 75) ∧ e 157 = .i .i64 (.ofNat 0) ∧
  ∀ X kr k, aM CF R9 179 899 cCa X kr k (aJ [.i .i64 (.ofNat 20000)]) hS = k e h' := by
 obtain ⟨O, hO⟩ := aHu (C := CF) (rec := R9) (nt := 179) 899 cCa
 obtain ⟨g, e1, e2⟩ := aVq he0
 have e1' : dIz (O (aJ [.i .i64 (.ofNat 20000)]) hS) (fun _ _ _ => none) (fun _ _ => none) cYb = some (.t (jX 0), g) := (hO _ _ _ _ _).symm.trans e1
 cases ho : O (aJ [.i .i64 (.ofNat 20000)]) hS with
 | none => rw [ho] at e1'; cases e1'
 | some o =>
  rw [ho] at e1'
  cases o with
  | x i e h' => cases e1'
  | r e h' => cases e1'
  | n e h' =>
   have q : (some (.t [e 5, e 155, e 156, e 157], h') : aG) = some (.t (jX 0), g) := e1'
   simp only [jX, bB, bK, DV.t.injEq, List.cons.injEq, and_true] at q
   obtain ⟨⟨q1, q2, q3, q4⟩, q5⟩ := q
   exact ⟨e, h', by rw [q5]; exact e2, q1, q2, q3, q4, fun X kr k => by rw [hO, ho]; rfl⟩
theorem cMh : ∃ g, fW 900 7 [.i .i64 (.ofNat 20000)] hS = some (.t [.p (dH 7) 0, .i .i64 (.ofNat 0)], g) ∧ Sim true (hY 26855 (mK 20000 4321 583 80 [8370, 1096, 6, 24, 42, 60, 78, 96, 114, 132, 150, 168, 186, 204, 222, 240, 258, 276] [] 75)) g := by
 obtain ⟨e, h0, S0, p1, p2, p3, p4, hpre⟩ := cEy
 obtain ⟨h1, S1, c1⟩ := iX hc0 894 S0
 obtain ⟨h2, S2, c2⟩ := iX hc5 889 S1
 obtain ⟨h3, S3, c3⟩ := iX dDu 884 S2
 obtain ⟨h4, S4, c4⟩ := iX dEj 879 S3
 obtain ⟨h5, S5, c5⟩ := iX dDo 874 S4
 obtain ⟨h6, S6, c6⟩ := iX dDs 869 S5
 obtain ⟨h7, S7, c7⟩ := iX dHd 864 S6
 obtain ⟨h8, S8, c8⟩ := iX dDy 859 S7
 obtain ⟨h9, S9, c9⟩ := iX dDq 854 S8
 obtain ⟨h10, S10, c10⟩ := iX dGe 849 S9
 obtain ⟨h11, S11, c11⟩ := iX dGm 844 S10
 obtain ⟨h12, S12, c12⟩ := iX dHe 839 S11
 obtain ⟨h13, S13, c13⟩ := iX dHv 834 S12
 obtain ⟨h14, S14, c14⟩ := iX dDm 829 S13
 obtain ⟨h15, S15, c15⟩ := iX dDb 824 S14
 refine ⟨h15, ?_, S15⟩
 have e0 : fW 900 7 [.i .i64 (.ofNat 20000)] hS = aF CF R9 899 7 [.i .i64 (.ofNat 20000)] hS := aHv 7 rfl 899 _ _
 rw [e0, cSk, bAa, cOb, cEd, hpre]
 show cGu R9 899 (e 5) (e 155) (e 156) (e 157) h0 = _
 rw [p1, p2, p3, p4]
 show mX R9 899 899 _ _ _ _ h0 = _
 refine c1.trans ?_
 refine c2.trans ?_
 refine c3.trans ?_
 refine c4.trans ?_
 refine c5.trans ?_
 refine c6.trans ?_
 refine c7.trans ?_
 refine c8.trans ?_
 refine c9.trans ?_
 refine c10.trans ?_
 refine c11.trans ?_
 refine c12.trans ?_
 refine c13.trans ?_
 refine c14.trans ?_
 refine c15.trans ?_
 rw [show (824 : Nat) = 823 + 1 from rfl]
 show mS R9 899 (mX R9 899 823) _ _ _ _ h15 = _
 unfold mS
 have hl : decide (Int.ofNat 75 < Int.ofNat 75) = false := rfl
 simp only [dR, aZ, hl, cX]
 rfl
end Go.Dd

namespace Go.Dd
open Go.Proofs
noncomputable def HLN : List (Pos × Ob) := mK 20000 4321 583 80 [8370, 1096, 6, 24, 42, 60, 78, 96, 114, 132, 150, 168, 186, 204, 222, 240, 258, 276] [] 75
noncomputable def hN : Hp := hY 26855 HLN
noncomputable def fY (l : List (Pos × Ob)) (t : Tr Ob) : Tr Ob := List.rec (motive := fun _ => Tr Ob) t (fun x _ ih => Tr.set x.2 x.1 ih) l
noncomputable def aMj (p : List DV → Bool) (v0 : DV) (nx0 : Nat) (HL : List (Pos × Ob)) (args : List DV) (h : Hp) : aG :=
 bif p args && lJ h.next (dH 1) then some (v0, ⟨dH nx0, fY HL h.bl⟩) else none
noncomputable def aUn (args : List DV) : Bool := match args with
 | [.i .i64 (.ofNat m)] => Nat.beq m 20000
 | _ => false
noncomputable def cRl : List DV → Hp → aG := aMj aUn (.t [.p (dH 7) 0, .i .i64 (.ofNat 0)]) 26855 HLN
noncomputable def xQ (n : Nat) : RT := fun g args h => bif Nat.beq g 7 then cRl args h else fW n g args h
noncomputable def okB (r : aG) : Bool := match r with
 | some (.b x, _) => x
 | _ => false
end Go.Dd

namespace Go.Dd
open Go.Proofs
abbrev iD (n : Int) : DV := .i .i64 n
theorem shS (f : FuncId) (hf : rgB f = false) (n : Nat) (args : List DV) (h : Hp) : fW (n + 1) f args h = aF CF (fW n) n f args h := aHv f hf n args h
theorem mY (b : Pos) (o : Nat) (h : Hp) : aP (.p b o) h = some (.p b o, h) := Eq.trans rfl rfl
theorem fld (b : Pos) (o k : Nat) (h : Hp) : aB k (.p b o) h = some (.p b (o + k), h) := Eq.trans rfl rfl
section
end
end Go.Dd

namespace Go.Dd
open Go.Proofs
theorem oW {m : Pos} {h : Hp} {M : MemV} (h1 : h.bl.get m = some (.row .ex [.l M.wb 0 M.n M.n, .i .i64 (.ofNat M.fin), .i .i64 (.ofNat M.made), .m M.pb])) (h2 : h.bl.get M.wb = some (.big M.n M.t))
  (h3 : h.bl.get M.pb = some (.mi M.pl)) (h4 : M.n < 1000000) (h5 : M.fin ≤ M.n) (h6 : M.made < 1000000) : gQ m h = some M := by
 unfold gQ
 simp only [h1, h2, h3]
 have q1 : (Nat.beq M.n M.n && Nat.beq M.n M.n) = true := by simp
 have q2 : (Nat.blt M.n 1000000 && (Nat.ble M.fin M.n && Nat.blt M.made 1000000)) = true := by simp [lH, vR, h4, h5, h6]
 rw [q1, cond_true, q2, cond_true]
section
end
end Go.Dd

namespace Go.Dd
open Go.Proofs
section
end
end Go.Dd

namespace Go.Dd
open Go.Proofs
theorem cLu (pl : WT) {k : Nat} (hk : k < 16000000) (j : Nat) : (pl.set k (.ofNat 1)).get j = if j = k then 1 else pl.get j := WT.get_set _ _ _ _ hk
section
end
end Go.Dd

namespace Go.Dd
open Go.Proofs
end Go.Dd

namespace Go.Dd
open Go.Proofs
theorem rg0 (rec : FuncId → List DV → Hp → aG) (k : K) (env : aS) (h : Hp) : fU CF0 rec 49 (eU (cL (cf Tryz.f214))) (eU (cL (cf Tryz.f214))).toList k env h = (
 bnd (bS (env 1) h) fun v1 h1 =>
 k (bI (bI env (some 3) v1) (some 4) (.i .i64 (Int.ofNat 0))) h1) := by kernel_rfl
theorem rg1 (rec : FuncId → List DV → Hp → aG) (k : K) (env : aS) (h : Hp) : fU CF0 rec 49 (eU (cL (cR (cf Tryz.f214)))) (eU (cL (cR (cf Tryz.f214)))).toList k env h = (
 bnd (aP (env 0) h) fun v1 h1 =>
 bnd (aB 0 v1 h1) fun v2 h2 =>
 bnd (aB 4 v2 h2) fun v3 h3 =>
 bnd (aA v3 h3) fun v4 h4 =>
 bnd (rec 163 [v4, (.f 240 [] [(env 3)])] h4) fun v5 h5 =>
 k (bI (bI (bI (bI (bI (bI (bI (bI env (some 6) (env 0)) (some 7) v1) (some 8) v2) (some 9) v3) (some 10) v4) (some 11) (.f 240 [] [(env 3)])) (some 12) v5) (some 5) v5) h5) := by kernel_rfl
theorem rg2 (rec : FuncId → List DV → Hp → aG) (k : K) (env : aS) (h : Hp) : fU CF0 rec 49 (eU (cL (cL (cR (cR (cf Tryz.f214)))))) (eU (cL (cL (cR (cR (cf Tryz.f214)))))).toList k env h = (
 bnd (aD .lss (env 5) (.i .i64 (Int.ofNat 0)) h) fun v1 h1 =>
 k (bI (bI env (some 13) (env 5)) (some 14) v1) h1) := by kernel_rfl
theorem rg3 (rec : FuncId → List DV → Hp → aG) (k : K) (env : aS) (h : Hp) : fU CF0 rec 49 (eU (cL (cL (cR (cL (cR (cR (cf Tryz.f214)))))))) (eU (cL (cL (cR (cL (cR (cR (cf Tryz.f214)))))))).toList k env h = (
 bnd (aP (env 0) h) fun v1 h1 =>
 bnd (aB 0 v1 h1) fun v2 h2 =>
 bnd (aB 4 v2 h2) fun v3 h3 =>
 bnd (aA v3 h3) fun v4 h4 =>
 bnd (bQ v4 h4) fun v5 h5 =>
 k (bI (bI (bI (bI (bI (bI (bI env (some 15) (env 0)) (some 16) v1) (some 17) v2) (some 18) v3) (some 19) v4) (some 20) v5) (some 5) v5) h5) := by kernel_rfl
theorem rg5 (rec : FuncId → List DV → Hp → aG) (k : K) (env : aS) (h : Hp) : fU CF0 rec 49 (eU (cL (cL (cR (cR (cL (cR (cL (cR (cR (cf Tryz.f214))))))))))) (eU (cL (cL (cR (cR (cL (cR (cL (cR (cR (cf Tryz.f214))))))))))).toList k env h = (
 bnd (aP (env 0) h) fun v1 h1 =>
 bnd (aB 0 v1 h1) fun v2 h2 =>
 bnd (aB 4 v2 h2) fun v3 h3 =>
 bnd (aA v3 h3) fun v4 h4 =>
 bnd (bQ v4 h4) fun v5 h5 =>
 bnd (aN [(.i .i64 (Int.ofNat 0)), (.s []), (.i .i64 (Int.ofNat 0)), .l0] 1 [(0, 4, (.a [(.i .i64 (Int.ofNat 0)), (.s []), (.i .i64 (Int.ofNat 0)), .l0]))] h5) fun v6 h6 =>
 bnd (aW 4 56 v4 v6 h6) fun v7 h7 =>
 bnd (aP (env 0) h7) fun v8 h8 =>
 bnd (aB 0 v8 h8) fun v9 h9 =>
 bnd (aB 4 v9 h9) fun v10 h10 =>
 bnd (aE 1 v10 v7 h10) fun _ h11 =>
 k (bI (bI (bI (bI (bI (bI (bI (bI (bI (bI (bI env (some 23) (env 0)) (some 24) v1) (some 25) v2) (some 26) v3) (some 27) v4) (some 28) v5) (some 29) v6) (some 30) v7) (some 31) v8) (some 32) v9) (some 33) v10) h11) := by kernel_rfl
theorem rg6 (rec : FuncId → List DV → Hp → aG) (k : K) (env : aS) (h : Hp) : fU CF0 rec 49 (eU (cR (cL (cR (cR (cL (cR (cL (cR (cR (cf Tryz.f214))))))))))) (eU (cR (cL (cR (cR (cL (cR (cL (cR (cR (cf Tryz.f214))))))))))).toList k env h = (
 bnd (aK 4 (env 3) h) fun v1 h1 =>
 bnd (aI 4 (env 30) (env 28) h1) fun v2 h2 =>
 bnd (aE 4 v2 v1 h2) fun _ h3 =>
 k (bI (bI env (some 34) v1) (some 35) v2) h3) := by kernel_rfl
theorem rg7 (rec : FuncId → List DV → Hp → aG) (k : K) (env : aS) (h : Hp) : gN CF0 rec 49 (eU (cR (cR (cR (cL (cR (cL (cR (cR (cf Tryz.f214)))))))))) k env h = (
 bnd (aP (env 0) (resv 1 h)) fun v1 h1 =>
 bnd (aB 0 v1 h1) fun v2 h2 =>
 bnd (aB 4 v2 h2) fun v3 h3 =>
 bnd (aA v3 h3) fun v4 h4 =>
 bnd (aK 4 (env 3) h4) fun v5 h5 =>
 bnd (bH (aY 0 h.next) [(.i .i64 (Int.ofNat 0)), (.s []), (.i .i64 (Int.ofNat 0)), .l0] 1 [(0, 4, v5)] h5) fun v6 h6 =>
 bnd (aW 4 56 v4 v6 h6) fun v7 h7 =>
 bnd (aP (env 0) h7) fun v8 h8 =>
 bnd (aB 0 v8 h8) fun v9 h9 =>
 bnd (aB 4 v9 h9) fun v10 h10 =>
 bnd (aE 1 v10 v7 h10) fun v11 h11 =>
 k (bI (bI (bI (bI (bI (bI (bI (bI (bI (bI (bI (bI env (some 36) (env 0)) (some 37) (env 0)) (some 38) v1) (some 39) v2) (some 40) v3) (some 41) v4) (some 42) v5) (some 43) v6) (some 44) v7) (some 45) v8) (some 46) v9) (some 47) v10) h11) := by kernel_rfl
theorem rg8 (rec : FuncId → List DV → Hp → aG) (k : K) (env : aS) (h : Hp) : fU CF0 rec 49 (eU (cL (cR (cR (cR (cf Tryz.f214)))))) (eU (cL (cR (cR (cR (cf Tryz.f214)))))).toList k env h = (
 k (bI (bI env (some 48) (env 5)) (some 4) (env 5)) h) := by kernel_rfl
end Go.Dd

namespace Go.Dd
open Go.Proofs
theorem HR.sub {G : Gd} {ρ : cE} {h h' : Hp} {w : World} (S : Sim true h h') (H : HR G ρ h' w) : HR G ρ h w := by
 have hg : ∀ b o, h.bl.get b = some o → h'.bl.get b = some o := fun b o hb => by
  obtain ⟨o', h1, h2⟩ := S.get b o hb
  rw [h1, jE h2]
 have hc : ∀ b a, Claims ρ h b a → Claims ρ h' b a := fun b a ⟨k, l, L, h1, h2, h3⟩ => ⟨k, l, L, hg _ _ h1, h2, h3⟩
 have hro : ∀ b a, Claims ρ h b a → ¬ isRo h b → ¬ isRo h' b := fun b a ⟨k, l, L, h1, h2, h3⟩ hn ⟨l', hl⟩ => by
  rw [hg _ _ h1] at hl
  simp only [bB, Ob.row.injEq] at hl
  exact hn ⟨l, by rw [h1, hl.1]⟩
 exact ⟨H.gl, H.sz, by rw [← S.next]; exact H.nx, fun b a h1 ⟨l, h2⟩ => H.ro b a (hc b a h1) ⟨l, hg _ _ h2⟩, fun b o hb => H.dom b o (hg b o hb), fun b L hb => by rw [← S.next]; exact H.lt b L hb,
  fun b k l L i v h1 => H.cell b k l L i v (hg _ _ h1), fun b l L es j h1 => H.spare b l L es j (hg _ _ h1), fun b a h1 h2 => H.free b a (hc b a h1) (hro b a h1 h2),
  fun b b' a h1 h2 h3 => H.inj b b' a (hc b a h1) (hc b' a h2) (hro b a h1 h3),
  fun b l L h1 => H.ex b l L (h1.elim (fun q => .inl (hg _ _ q)) (fun q => .inr (hg _ _ q))), fun b es l i v h1 => H.grone b es l i v (hg _ _ h1),
  fun b o L h1 h2 => H.itr b o L h1 (hg _ _ h2), fun b o b' o' L L' h1 h2 h3 h4 => H.itj b o b' o' L L' h1 h2 (hg _ _ h3) (hg _ _ h4)⟩
theorem pU : ∀ p : Pos, lJ p p = true
 | .h => rfl
 | .o p => pU p
 | .i p => pU p
theorem aVs {p q : Pos} (h : lJ p q = false) : p ≠ q := fun e => by subst e; rw [pU] at h; cases h
open Classical in
noncomputable def kk (N : aS → Hp → Prop) : K := fun env h => if N env h then some (aV, h) else none
theorem rC {N : aS → Hp → Prop} {env : aS} {h : Hp} (hn : N env h) : ∃ r, kk N env h = some r := ⟨_, if_pos hn⟩
theorem cIs {N : aS → Hp → Prop} {env : aS} {h : Hp} {r} (hn : kk N env h = some r) : N env h := by
 unfold kk at hn
 split at hn
 ·assumption
 ·cases hn
section
variable {C : Cfg} {rec : FuncId → List DV → Hp → aG} {nt : Nat} {X : Nat → aS → Hp → Prop} {R N : aS → Hp → Prop} {env : aS} {h : Hp}
theorem wpS {a b : Code} (H : pZ C rec nt a X R (pZ C rec nt b X R N) env h) : pZ C rec nt (.seq a b) X R N env h := H
theorem aOv {id : Nat} {ops : Array Oper} (H : ∃ r, fU C rec nt ops ops.toList (kk fun e h => mZ h → N e h) env h = some r) : pZ C rec nt (.region id ops false) X R N env h := by
 obtain ⟨r, hr⟩ := H
 obtain ⟨env', h', h1, h2⟩ := lS _ _ _ _ _ hr
 simp only [pZ, Bool.false_eq_true, if_false]
 exact ⟨env', h', h1, cIs h2⟩
theorem dEz {id : Nat} {ops : Array Oper} (hd : eA C.P ops = true) (H : ∃ r, gN C rec nt ops (kk fun e h => mZ h → N e h) env h = some r) : pZ C rec nt (.region id ops true) X R N env h := by
 obtain ⟨r, hr⟩ := H
 simp only [pZ, if_true]
 exact .inr ⟨hd, _, r, hr, fun env' h' h1 h2 => cIs h1 h2⟩
theorem dHo {id : Nat} {ops : Array Oper} (H : aJb C rec nt ops (fun e h => mZ h → N e h) ops.size (Array.replicate ops.size false) env h) : pZ C rec nt (.region id ops true) X R N env h := by
 simp only [pZ, if_true]
 exact .inl H
theorem wpC {c : Operand} {a b : Code} {t : Bool} (hc : opr env c = .b t) (H : (t = true → pZ C rec nt a X R N env h) ∧ (t = false → pZ C rec nt b X R N env h)) : pZ C rec nt (.cond c a b) X R N env h := by
 cases t with
 | true => exact .inl ⟨hc, H.1 rfl⟩
 | false => exact .inr ⟨hc, H.2 rfl⟩
end
noncomputable def dFn : Code := cL (cR (cL (cR (cL (cR (cR (cf Tryz.f214)))))))
noncomputable def R4 : Array Oper := eU dFn
theorem cYt : cf Tryz.f214 = .seq (.region 0 (eU (cL (cf Tryz.f214))) false) (.seq (.region 1 (eU (cL (cR (cf Tryz.f214)))) false) (.seq (.seq (.region 2 (eU (cL (cL (cR (cR (cf Tryz.f214)))))) false)
 (.cond (.tmp 14) (.seq (.region 3 (eU (cL (cL (cR (cL (cR (cR (cf Tryz.f214)))))))) false) (.seq (.region 4 R4 true) (.cond (.tmp 22)
  (.seq (.region 5 (eU (cL (cL (cR (cR (cL (cR (cL (cR (cR (cf Tryz.f214))))))))))) false) (.region 6 (eU (cR (cL (cR (cR (cL (cR (cL (cR (cR (cf Tryz.f214))))))))))) false))
  (.region 7 (eU (cR (cR (cR (cL (cR (cL (cR (cR (cf Tryz.f214)))))))))) true)))) .skip)) (.seq (.region 8 (eU (cL (cR (cR (cR (cf Tryz.f214)))))) false) .ret))) := by kernel_rfl
noncomputable def o4 (i : Nat) : Oper := (R4.toList[i]?).getD (Oper.mk none (.move (.tmp 0)) 0 "" #[] none)
theorem dHq : R4[0]? = some (o4 0) := by kernel_rfl
theorem cZy : R4[1]? = some (o4 1) := by kernel_rfl
theorem cYx : R4[2]? = some (o4 2) := by kernel_rfl
theorem dDi : R4[3]? = some (o4 3) := by kernel_rfl
theorem dFj (rec : FuncId → List DV → Hp → aG) (env : aS) (h : Hp) : bF CF0 rec R4 (o4 0) env h = bJ [.b false] h := by kernel_rfl
theorem dCs (rec : FuncId → List DV → Hp → aG) (env : aS) (h : Hp) : bF CF0 rec R4 (o4 1) env h = aE 1 (env 21) (.b true) h := by kernel_rfl
theorem cWs (rec : FuncId → List DV → Hp → aG) (env : aS) (h : Hp) : bF CF0 rec R4 (o4 2) env h = aE 1 (env 21) (.b false) h := by kernel_rfl
theorem dGv (rec : FuncId → List DV → Hp → aG) (env : aS) (h : Hp) : bF CF0 rec R4 (o4 3) env h = aA (env 21) h := by kernel_rfl
theorem cVp : (o4 0).dst = some 21 := by kernel_rfl
theorem cEg : (o4 1).dst = none := by kernel_rfl
theorem cBh : (o4 2).dst = none := by kernel_rfl
theorem cVq : (o4 3).dst = some 22 := by kernel_rfl
theorem z4 : Array.replicate R4.size false = #[false, false, false, false] := by kernel_rfl
theorem y4 : R4.size = 4 := by kernel_rfl
theorem dEe : Region.ready .any R4 #[false, false, false, false] = [0] := by kernel_rfl
theorem dCk : Region.ready .any R4 #[true, false, false, false] = [1, 2] := by kernel_rfl
theorem dEn : Region.ready .any R4 #[true, true, false, false] = [2] := by kernel_rfl
theorem dDe : Region.ready .any R4 #[true, false, true, false] = [1] := by kernel_rfl
theorem dDd : Region.ready .any R4 #[true, true, true, false] = [3] := by kernel_rfl
theorem dEb : Region.ready .any R4 #[true, true, true, true] = [] := by kernel_rfl
theorem dFb : (#[false, false, false, false] : Array Bool).setIfInBounds 0 true = #[true, false, false, false] := by kernel_rfl
theorem dDp : (#[true, false, false, false] : Array Bool).setIfInBounds 1 true = #[true, true, false, false] := by kernel_rfl
theorem dGq : (#[true, false, false, false] : Array Bool).setIfInBounds 2 true = #[true, false, true, false] := by kernel_rfl
theorem dGw : (#[true, true, false, false] : Array Bool).setIfInBounds 2 true = #[true, true, true, false] := by kernel_rfl
theorem dDv : (#[true, false, true, false] : Array Bool).setIfInBounds 1 true = #[true, true, true, false] := by kernel_rfl
theorem dEy : (#[true, true, true, false] : Array Bool).setIfInBounds 3 true = #[true, true, true, true] := by kernel_rfl
theorem bVy {C : Cfg} {rec : FuncId → List DV → Hp → aG} {nt f i : Nat} {ops : Array Oper} {kF : aS → Hp → Prop} {listed l' : Array Bool} {env : aS} {h h' : Hp} {o : Oper} {v : DV} (hr : Region.ready .any ops listed = [i])
  (ho : ops[i]? = some o) (hf : cM nt o.dst = true) (hs : bF C rec ops o env h = some (v, h')) (hl : listed.setIfInBounds i true = l') (hn : aJb C rec nt ops kF f l' (bI env o.dst v) h') : aJb C rec nt ops kF (f + 1) listed env h := by
 refine ⟨fun e => ?_, fun j hj => ?_⟩
 ·rw [hr] at e; cases e
 ·rw [hr] at hj
  simp only [List.mem_singleton] at hj
  subst hj
  exact ⟨o, v, h', ho, hf, hs, by rw [hl]; exact hn⟩
structure After (h h' : Hp) : Prop where
 next : h'.next = h.next.succ
 get : ∀ b, b ≠ h.next → h'.bl.get b = h.bl.get b
theorem dFa {rec : FuncId → List DV → Hp → aG} {kF : aS → Hp → Prop} {env : aS} {h : Hp} (H : ∀ x h', After h h' → kF (bI (bI env (some 21) (.p h.next 0)) (some 22) (.b x)) h') :
  aJb CF0 rec 49 R4 kF R4.size (Array.replicate R4.size false) env h := by
 rw [z4, y4]
 have st : ∀ (n : Pos) (bl : Tr Ob) (x y : Bool), bl.get h.next = some (.row .ex [.b y]) → aE 1 (.p h.next 0) (.b x) ⟨n, bl⟩ = some (aV, ⟨n, Tr.set (.row .ex [.b x]) h.next bl⟩) := fun n bl x y e => by
  simp only [aE, eJ, dI, e, Kind.writable, List.length_singleton, if_true, gI, mN, DV.one, Bool.and_self, Option.map_some]
 have ld : ∀ (n : Pos) (bl : Tr Ob) (x : Bool), bl.get h.next = some (.row .ex [.b x]) → aA (.p h.next 0) ⟨n, bl⟩ = some (.b x, ⟨n, bl⟩) := fun n bl x e => by
  simp only [aA, cellD, rowOf, e, List.getElem?_cons_zero, DV.one, if_true]
 have g0 : ∀ (t : Tr Ob) (x : Bool), (Tr.set (.row .ex [.b x]) h.next t).get h.next = some (.row .ex [.b x]) := fun t x => dIa _ _ _
 have go : ∀ (t : Tr Ob) (x : Bool) (b : Pos), b ≠ h.next → (Tr.set (.row .ex [.b x]) h.next t).get b = t.get b := fun t x b e => dHz _ _ _ _ e
 have fin : ∀ (t : Tr Ob) (x : Bool), (∀ b, b ≠ h.next → t.get b = h.bl.get b) → t.get h.next = some (.row .ex [.b x]) →
   aJb CF0 rec 49 R4 kF 1 #[true, true, true, false] (bI env (some 21) (.p h.next 0)) ⟨h.next.succ, t⟩ := fun t x e1 e2 => by
  refine bVy dDd dDi (by rw [cVq]; rfl) ((dGv _ _ _).trans (ld _ _ x e2)) dEy ?_
  rw [cVq]
  exact ⟨dEb, H x _ ⟨rfl, e1⟩⟩
 refine bVy dEe dHq (by rw [cVp]; rfl) (dFj _ _ _) dFb ?_
 rw [cVp]
 refine ⟨fun e => (by rw [dCk] at e; cases e), fun j hj => ?_⟩
 rw [dCk] at hj
 simp only [List.mem_cons, List.not_mem_nil, or_false] at hj
 rcases hj with rfl | rfl
 ·refine ⟨_, _, _, cZy, by rw [cEg]; rfl, (dCs _ _ _).trans (st _ _ true false (g0 _ _)), ?_⟩
  rw [dDp, cEg]
  refine bVy dEn cYx (by rw [cBh]; rfl) ((cWs _ _ _).trans (st _ _ false true (g0 _ _))) dGw ?_
  rw [cBh]
  exact fin _ false (fun b e => by rw [go _ _ _ e, go _ _ _ e, go _ _ _ e]) (g0 _ _)
 ·refine ⟨_, _, _, cYx, by rw [cBh]; rfl, (cWs _ _ _).trans (st _ _ false false (g0 _ _)), ?_⟩
  rw [dGq, cBh]
  refine bVy dDe cZy (by rw [cEg]; rfl) ((dCs _ _ _).trans (st _ _ true false (g0 _ _))) dDv ?_
  rw [cEg]
  exact fin _ true (fun b e => by rw [go _ _ _ e, go _ _ _ e, go _ _ _ e]) (g0 _ _)
end Go.Dd

namespace Go.Dd
open Go.Proofs
theorem bIj {h h' g : Hp} {x v : DV} (hg : ∀ b o, h.bl.get b = some o → h'.bl.get b = some o) (e : aA x h = some (v, g)) : aA x h' = some (v, h') := by
 have S : Sim true ⟨h'.next, h.bl⟩ h' := ⟨rfl, fun b o hb => ⟨o, hg b o hb, jZ o⟩⟩
 have e' : aA x ⟨h'.next, h.bl⟩ = some (v, ⟨h'.next, h.bl⟩) := by
  unfold aA at e ⊢
  split at e <;> (try (cases e; done))
  rename_i b o
  change (match cellD b o ⟨h'.next, h.bl⟩ with
   | some v => some (v, (⟨h'.next, h.bl⟩ : Hp))
   | none => none) = _
  change (match cellD b o ⟨h'.next, h.bl⟩ with
   | some v => some (v, h)
   | none => none) = _ at e
  split at e <;> (try (cases e; done))
  rename_i u hu
  simp only [bB, bK] at e
  rw [e.1]
 obtain ⟨k, e1, e2⟩ := jV x _ _ S v _ e'
 obtain ⟨rfl, _⟩ := (show k = h' ∧ True by
  unfold aA at e1
  split at e1 <;> (try (cases e1; done))
  split at e1 <;> (try (cases e1; done))
  simp only [bB, bK] at e1
  exact ⟨e1.2.symm, trivial⟩)
 exact e1
theorem bQy {h h' g : Hp} {n : Nat} {x v : DV} (hg : ∀ b o, h.bl.get b = some o → h'.bl.get b = some o) (e : aK n x h = some (v, g)) : aK n x h' = some (v, h') := by
 have S : Sim true ⟨h'.next, h.bl⟩ h' := ⟨rfl, fun b o hb => ⟨o, hg b o hb, jZ o⟩⟩
 have e' : aK n x ⟨h'.next, h.bl⟩ = some (v, ⟨h'.next, h.bl⟩) := by
  unfold aK at e ⊢
  split at e <;> (try (cases e; done))
  rename_i b o
  change (match cellsAt b o n ⟨h'.next, h.bl⟩ with
   | some v => some (DV.a v, (⟨h'.next, h.bl⟩ : Hp))
   | none => none) = _
  change (match cellsAt b o n ⟨h'.next, h.bl⟩ with
   | some v => some (DV.a v, h)
   | none => none) = _ at e
  split at e <;> (try (cases e; done))
  rename_i u hu
  simp only [bB, bK] at e
  rw [← e.1]
 obtain ⟨k, e1, e2⟩ := kC n x _ _ S v _ e'
 obtain ⟨rfl, _⟩ := (show k = h' ∧ True by
  unfold aK at e1
  split at e1 <;> (try (cases e1; done))
  split at e1 <;> (try (cases e1; done))
  simp only [bB, bK] at e1
  exact ⟨e1.2.symm, trivial⟩)
 exact e1
theorem bRs {q : Pos} {l1 v : DV} {cs : List DV} {h k : Hp} (e : iT q l1 cs h = some (v, k)) : ∃ (n : Nat) (old : List DV) (t : Tr Ob), v = .l h.next 0 (n + 1) (n + 1) ∧ (∀ g, bQ l1 g = some (.i .i64 (n : Int), g)) ∧
  old.length = n * 4 ∧ (∀ v ∈ old, v.one = true) ∧ k = ⟨h.next.succ, Tr.set (.row (.gr 4) (old ++ cs)) h.next t⟩ ∧ t.get q = h.bl.get q ∧ (∀ b, t.get b ≠ none → h.bl.get b ≠ none) ∧
  ∀ zs, iT q l1 zs h = some (v, ⟨h.next.succ, Tr.set (.row (.gr 4) (old ++ zs)) h.next t⟩) := by
 unfold iT at e
 split at e <;> (try (cases e; done))
 ·simp only [bB, bK] at e
  obtain ⟨rfl, rfl⟩ := e
  exact ⟨0, [], h.bl, rfl, fun g => rfl, rfl, by simp, rfl, rfl, fun b hb => hb, fun zs => rfl⟩
 ·rename_i b o len cap
  cases hc : (Nat.ble cap len && !(lJ b q)) with
  | false => rw [hc] at e; cases e
  | true =>
   rw [hc] at e
   simp only [cnd] at e
   split at e <;> (try (cases e; done))
   rename_i es l old hb hold
   split at e <;> (try (cases e; done))
   rename_i hr
   simp only [bB, bK] at e
   obtain ⟨rfl, rfl⟩ := e
   have hq : q ≠ b := by
    simp only [Bool.and_eq_true, Bool.not_eq_true'] at hc
    exact Ne.symm (aVs hc.2)
   have hl : old.length = len * 4 ∧ ∀ v ∈ old, v.one = true := by
    unfold cellsAt at hold
    split at hold <;> (try (cases hold; done))
    obtain ⟨h1, _, _, h4⟩ := kU _ _ _ hold
    exact ⟨h1, h4⟩
   refine ⟨len, old, Tr.set (.row .sp (bM o l)) b h.bl, rfl, fun g => rfl, hl.1, hl.2, rfl, dHz _ _ _ _ hq, fun x hx => ?_, fun zs => ?_⟩
   ·by_cases e : x = b
    ·rw [e, hb]; simp
    ·rwa [dHz _ _ _ _ e] at hx
   ·unfold iT
    dsimp only
    rw [hc]
    simp only [cnd, hb, hold, if_pos hr]
theorem aRt {q : Pos} {l1 x v : DV} {cs : List DV} {h h' k : Hp} (S : Sim true h h') (hx : oN 4 x h' = some (1, cs)) (e : iT q l1 cs h = some (v, k)) : ∃ k', aW 4 56 l1 x h' = some (v, k') ∧ Sim true k k' := by
 unfold iT at e
 split at e <;> (try (cases e; done))
 ·simp only [bB, bK] at e
  obtain ⟨rfl, rfl⟩ := e
  refine ⟨⟨h'.next.succ, Tr.set (.row (.gr 4) cs) h'.next h'.bl⟩, ?_, ?_⟩
  ·unfold aW
   rw [hx]
   dsimp only
   rw [if_neg (by simp), if_pos (by decide), S.next]
  ·rw [S.next]; exact S.setR _ _ _ _
 ·rename_i b o len cap
  cases hc : (Nat.ble cap len && !(lJ b q)) with
  | false => rw [hc] at e; cases e
  | true =>
   rw [hc] at e
   simp only [cnd] at e
   split at e <;> (try (cases e; done))
   rename_i es l old hb hold
   split at e <;> (try (cases e; done))
   rename_i hr
   simp only [bB, bK] at e
   obtain ⟨rfl, rfl⟩ := e
   have hle : cap ≤ len := by
    simp only [Bool.and_eq_true] at hc
    exact Nat.le_of_ble_eq_true hc.1
   refine ⟨⟨h'.next.succ, Tr.set (.row (.gr 4) (old ++ cs)) h'.next (Tr.set (.row .sp (bM o l)) b h'.bl)⟩, ?_, ?_⟩
   ·unfold aW
    rw [hx]
    dsimp only
    rw [if_neg (by omega), S.row hb, S.cellsAt hold]
    dsimp only
    rw [if_pos hr.2.2, if_pos ⟨hr.1, hr.2.1⟩, S.next]
   ·rw [S.next]
    exact (S.setR .sp (bM o l) b h.next).setR _ _ _ _
theorem aQr : ∀ (old zs cs : List DV), zs.length = cs.length → (∀ v ∈ zs, v.one = true) → (∀ v ∈ cs, v.one = true) → gI old.length (old ++ zs) cs = some (old ++ cs)
 | [], zs, cs, hl, hz, hc => by
  show mN zs cs = some cs
  induction cs generalizing zs with
  | nil => cases zs with
   | nil => rfl
   | cons z zs => simp at hl
  | cons c cs ih => cases zs with
   | nil => simp at hl
   | cons z zs =>
    simp only [mN, hz z (by simp), hc c (by simp), Bool.and_self, if_true]
    rw [ih zs (by simpa using hl) (fun v hv => hz v (by simp [hv])) (fun v hv => hc v (by simp [hv]))]
    rfl
 | x :: old, zs, cs, hl, hz, hc => by
  show (gI old.length (old ++ zs) cs).map (x :: ·) = _
  rw [aQr old zs cs hl hz hc]
  rfl
end Go.Dd

namespace Go.Dd
open Go.Proofs
theorem aYq : (Tryz.prog.funcs.toList.all fun fn => !(fn.name == "runtime.NumGoroutine")) = true := by kernel_rfl
theorem Try_ok : POk Tryz.prog where
 mixed := by kernel_rfl
 names := by
  intro f fn hf
  have h := List.all_eq_true.1 aYq fn (by
   obtain ⟨hlt, rfl⟩ := Array.getElem?_eq_some_iff.1 hf
   simp)
  simpa using h
theorem KC0 : OkC CF0 (fnD CF0 60) := ⟨fun G g F h => (by cases h), fun G g => bHh (C := CF0) Try_ok (fun G g F h => (by cases h)) 60 G g⟩
theorem cRw (e : aS) (h : Hp) : aQ CF0 Tryz.f214 e h = some (e 4, h) := by kernel_rfl
theorem dAs : Tryz.f214.ntmps = 49 := by kernel_rfl
theorem cYy : Tryz.prog.funcs[214]? = some Tryz.f214 := by kernel_rfl
theorem bUd : Tryz.f214.body = some (cf Tryz.f214) := by kernel_rfl
theorem cYk : eA CF0.P (eU (cR (cR (cR (cL (cR (cL (cR (cR (cf Tryz.f214)))))))))) = true := by kernel_rfl
theorem aSd {X : Nat → aS → Hp → Prop} {N : aS → Hp → Prop} {env : aS} {v : DV} {h h1 : Hp} (he : env 5 = v) (S : Sim true h1 h) :
  pZ CF0 (fnD CF0 60) 49 (.seq (.region 8 (eU (cL (cR (cR (cR (cf Tryz.f214)))))) false) .ret) X (fun env h' => ∃ h2, aQ CF0 Tryz.f214 env h' = some (v, h2) ∧ Le h2 h1) N env h := by
 refine wpS (aOv ?_)
 rw [rg8]
 refine rC fun _ => ?_
 exact ⟨h, (cRw _ _).trans (by rw [show (bI (bI env (some 48) (env 5)) (some 4) (env 5)) 4 = env 5 from rfl, he]), fun G ρ w H => H.sub S⟩
theorem wP {F : Hp → aG} (hF : PureP F) {h g : Hp} {v : DV} (e : F h = some (v, g)) : g = h ∧ ∀ h', F h' = some (v, h') := hF h v g e
theorem pR {h g : Hp} {c : Pos} {o : Nat} {v : DV} (e : aA (.p c o) h = some (v, g)) : g = h ∧ ∃ u, h.bl.get c = some u := by
 change (match cellD c o h with
  | some v => some (v, h)
  | none => none) = _ at e
 split at e <;> (try (cases e; done))
 rename_i u hu
 simp only [bB, bK] at e
 refine ⟨e.2.symm, ?_⟩
 unfold cellD rowOf at hu
 cases hc : h.bl.get c with
 | none => rw [hc] at hu; cases hu
 | some u => exact ⟨u, rfl⟩
theorem pK {h g : Hp} {c : Pos} {o n : Nat} {v : DV} (e : aK n (.p c o) h = some (v, g)) : g = h ∧ (∃ u, h.bl.get c = some u) ∧ ∃ cs, v = .a cs ∧ cs.length = n ∧ ∀ x ∈ cs, x.one = true := by
 change (match cellsAt c o n h with
  | some cs => some (DV.a cs, h)
  | none => none) = _ at e
 split at e <;> (try (cases e; done))
 rename_i u hu
 simp only [bB, bK] at e
 refine ⟨e.2.symm, ?_⟩
 unfold cellsAt rowOf at hu
 cases hc : h.bl.get c with
 | none => rw [hc] at hu; cases hu
 | some ob =>
  refine ⟨⟨ob, rfl⟩, u, e.1.symm, ?_⟩
  rw [hc] at hu
  split at hu <;> (try (cases hu; done))
  obtain ⟨h1, _, _, h4⟩ := kU _ _ _ hu
  exact ⟨h1, h4⟩
theorem Sim.of_get {h h' : Hp} (e : h'.next = h.next) (g : ∀ b o, h.bl.get b = some o → h'.bl.get b = some o) : Sim true h h' := ⟨e, fun b o hb => ⟨o, g b o hb, jZ o⟩⟩
theorem bGb (c : Pos) (h : Hp) : aP (.p c 0) h = some (.p c 0, h) := rfl
theorem cOf (c : Pos) (h : Hp) : aB 0 (.p c 0) h = some (.p c 0, h) := rfl
theorem cMj (c : Pos) (h : Hp) : aB 4 (.p c 0) h = some (.p c 4, h) := rfl
theorem aJe (env : aS) (i : Nat) (v : DV) (j : Nat) (h : Nat.beq j i = false) : bI env (some i) v j = env j := by
 show (bif Nat.beq j i then v else env j) = _
 rw [h]; rfl
theorem bBk (env : aS) (i : Nat) (v : DV) : bI env (some i) v i = v := by
 show (bif Nat.beq i i then v else env i) = _
 rw [Nat.beq_refl]; rfl
theorem wC : ∀ cs : List DV, (∀ v ∈ cs, v.one = true) → lL cs.length cs = some cs
 | [], _ => rfl
 | c :: cs, h => by
  show (if c.one then (lL cs.length cs).map (c :: ·) else none) = _
  rw [if_pos (h c (by simp)), wC cs fun v hv => h v (by simp [hv])]
  rfl
theorem aTr {cs : List DV} (h4 : cs.length = 4) (ho : ∀ v ∈ cs, v.one = true) (p n : Pos) (t : Tr Ob) : oN 4 (.l p 0 1 1) ⟨n, Tr.set (.row .ex cs) p t⟩ = some (1, cs) := by
 have e : cellsAt p 0 (1 * 4) ⟨n, Tr.set (.row .ex cs) p t⟩ = some cs := by
  unfold cellsAt rowOf
  simp only [dIa, List.drop_zero]
  rw [show 1 * 4 = cs.length by rw [h4]]
  exact wC cs ho
 simp only [oN, e]
theorem bPv {h h' : Hp} {n o : Nat} {q : Pos} {v : DV} (hg : h'.bl.get q = h.bl.get q) (e : aK n (.p q o) h = some (v, h)) : aK n (.p q o) h' = some (v, h') := by
 have e1 : cellsAt q o n h' = cellsAt q o n h := by
  unfold cellsAt rowOf
  rw [hg]
 change (match cellsAt q o n h with
  | some cs => some (DV.a cs, h)
  | none => none) = _ at e
 show (match cellsAt q o n h' with
  | some cs => some (DV.a cs, h')
  | none => none) = _
 rw [e1]
 split at e <;> (try (cases e; done))
 simp only [bB, bK] at e
 rw [e.1]
structure Way (g3 h5 : Hp) (c q : Pos) (l1 l2 n u : DV) (cs : List DV) (k3 k4 : Hp) (env : aS) : Prop where
 fr : mZ g3
 af : After g3 h5
 hl : aA (.p c 4) g3 = some (l1, g3)
 hx : aK 4 (.p q 0) g3 = some (.a cs, g3)
 ne : c ≠ q
 hn : bQ l1 g3 = some (n, g3)
 ap : iT q l1 cs ⟨g3.next.succ.succ, g3.bl⟩ = some (l2, k3)
 st : aE 1 (.p c 4) l2 k3 = some (u, k4)
 e0 : env 0 = .p c 0
 e3 : env 3 = .p q 0
 e5 : env 5 = n
section
theorem Way.up {g3 h5 : Hp} {c q : Pos} {l1 l2 n u : DV} {cs : List DV} {k3 k4 : Hp} {env : aS} (W : Way g3 h5 c q l1 l2 n u cs k3 k4 env) : ∀ b o, g3.bl.get b = some o → h5.bl.get b = some o := fun b o hb => by
 rw [W.af.get b (fun e => ?_)]
 ·exact hb
 ·subst e; exact Nat.lt_irrefl _ (W.fr _ _ hb)
theorem Way.c5 {g3 h5 : Hp} {c q : Pos} {l1 l2 n u : DV} {cs : List DV} {k3 k4 : Hp} {env : aS} (W : Way g3 h5 c q l1 l2 n u cs k3 k4 env) (n' : Pos) : aA (.p c 4) ⟨n', h5.bl⟩ = some (l1, ⟨n', h5.bl⟩) := bIj W.up W.hl
theorem Way.q5 {g3 h5 : Hp} {c q : Pos} {l1 l2 n u : DV} {cs : List DV} {k3 k4 : Hp} {env : aS} (W : Way g3 h5 c q l1 l2 n u cs k3 k4 env) (n' : Pos) : aK 4 (.p q 0) ⟨n', h5.bl⟩ = some (.a cs, ⟨n', h5.bl⟩) := bQy W.up W.hx
theorem Way.len {g3 h5 : Hp} {c q : Pos} {l1 l2 n u : DV} {cs : List DV} {k3 k4 : Hp} {env : aS} (W : Way g3 h5 c q l1 l2 n u cs k3 k4 env) (h : Hp) : bQ l1 h = some (n, h) := (wP (lN l1) W.hn).2 h
theorem Way.base {g3 h5 : Hp} {c q : Pos} {l1 l2 n u : DV} {cs : List DV} {k3 k4 : Hp} {env : aS} (W : Way g3 h5 c q l1 l2 n u cs k3 k4 env) (o : Ob) : Sim true ⟨g3.next.succ.succ, g3.bl⟩ ⟨h5.next.succ, Tr.set o h5.next h5.bl⟩ := Sim.of_get (by rw [W.af.next]) fun b ob hb => by
 show (Tr.set o h5.next h5.bl).get b = _
 rw [dHz, W.up b ob hb]
 intro e
 have h1 := W.fr b ob hb
 have s1 := dIb g3.next
 rw [e, W.af.next] at h1
 omega
theorem Way.app {g3 h5 : Hp} {c q : Pos} {l1 l2 n u : DV} {cs : List DV} {k3 k4 : Hp} {env : aS} (W : Way g3 h5 c q l1 l2 n u cs k3 k4 env) {hh : Hp} (S : Sim true ⟨g3.next.succ.succ, g3.bl⟩ hh) {y : DV} (hy : oN 4 y hh = some (1, cs)) : ∃ k', aW 4 56 l1 y hh = some (l2, k') ∧ ∃ k'', aE 1 (.p c 4) l2 k' = some (u, k'') ∧ Sim true k4 k'' := by
 obtain ⟨k', h1, h2⟩ := aRt S hy W.ap
 obtain ⟨k'', h3, h4⟩ := kE 1 _ _ _ _ h2 _ _ W.st
 exact ⟨k', h1, k'', h3, h4⟩
theorem Way.one {g3 h5 : Hp} {c q : Pos} {l1 l2 n u : DV} {cs : List DV} {k3 k4 : Hp} {env : aS} (W : Way g3 h5 c q l1 l2 n u cs k3 k4 env) : cs.length = 4 ∧ ∀ v ∈ cs, v.one = true := by
 obtain ⟨_, _, cs', e, h1, h2⟩ := pK W.hx
 cases e
 exact ⟨h1, h2⟩
theorem Way.B {g3 h5 : Hp} {c q : Pos} {l1 l2 n u : DV} {cs : List DV} {k3 k4 : Hp} {env : aS} (W : Way g3 h5 c q l1 l2 n u cs k3 k4 env) {X : Nat → aS → Hp → Prop} {R N : aS → Hp → Prop} (hN : ∀ env' h', env' 5 = n → Sim true k4 h' → N env' h') : pZ CF0 (fnD CF0 60) 49 (.region 7 (eU (cR (cR (cR (cL (cR (cL (cR (cR (cf Tryz.f214)))))))))) true) X R N env h5 := by
 obtain ⟨k', h1, k'', h2, h3⟩ := W.app (W.base (.row .ex cs)) (aTr W.one.1 W.one.2 h5.next h5.next.succ h5.bl)
 have fl : bH (aY 0 h5.next) [(.i .i64 (Int.ofNat 0)), (.s []), (.i .i64 (Int.ofNat 0)), .l0] 1 [(0, 4, .a cs)] ⟨h5.next.succ, h5.bl⟩ = some (.l h5.next 0 1 1, ⟨h5.next.succ, Tr.set (.row .ex cs) h5.next h5.bl⟩) := by
  simp only [bH, lB, eJ, W.one.1]
  simp [aY]
 refine dEz cYk ?_
 rw [rg7]
 simp only [W.e0, W.e3, bGb, aZ, cOf, cMj, show resv 1 h5 = ⟨h5.next.succ, h5.bl⟩ from rfl, W.c5, W.q5, fl, h1, h2]
 refine rC fun _ => hN _ _ ?_ h3
 simp only [aJe, Nat.beq]
 exact W.e5
theorem Way.A {g3 h5 : Hp} {c q : Pos} {l1 l2 n u : DV} {cs : List DV} {k3 k4 : Hp} {env : aS} (W : Way g3 h5 c q l1 l2 n u cs k3 k4 env) {X : Nat → aS → Hp → Prop} {R N : aS → Hp → Prop} (hN : ∀ env' h', env' 5 = n → Sim true k4 h' → N env' h') : pZ CF0 (fnD CF0 60) 49 (.seq (.region 5 (eU (cL (cL (cR (cR (cL (cR (cL (cR (cR (cf Tryz.f214))))))))))) false)
  (.region 6 (eU (cR (cL (cR (cR (cL (cR (cL (cR (cR (cf Tryz.f214))))))))))) false)) X R N env h5 := by
 obtain ⟨m, old, t, hl2, hm, hol, hoo, hk3, htq, htd, hz⟩ := bRs W.ap
 have hzz := hz [.i .i64 (Int.ofNat 0), .s [], .i .i64 (Int.ofNat 0), .l0]
 have hn : n = .i .i64 (m : Int) := by
  have e1 := W.len g3
  rw [hm] at e1
  simp only [bB, bK, and_true] at e1
  exact e1.symm
 dsimp only at hl2 hk3 htq htd hzz
 obtain ⟨_, uc, huc⟩ := pR W.hl
 have hcs : c ≠ g3.next.succ.succ := fun e => by
  have h1 := W.fr _ _ huc
  have s1 := dIb g3.next
  have s2 := dIb g3.next.succ
  rw [e] at h1
  omega
 obtain ⟨_, ⟨uq, huq⟩, _⟩ := pK W.hx
 have hqs : q ≠ g3.next.succ.succ := fun e => by
  have h1 := W.fr _ _ huq
  have s1 := dIb g3.next
  have s2 := dIb g3.next.succ
  rw [e] at h1
  omega
 have hst := W.st
 rw [hk3] at hst
 have hst2 : ∃ kd l l', t.get c = some (.row kd l) ∧ k4 = ⟨g3.next.succ.succ.succ, Tr.set (.row kd l') c (Tr.set (.row (.gr 4) (old ++ cs)) g3.next.succ.succ t)⟩ ∧
   ∀ zs, aE 1 (.p c 4) l2 ⟨g3.next.succ.succ.succ, Tr.set (.row (.gr 4) zs) g3.next.succ.succ t⟩ = some (u, ⟨g3.next.succ.succ.succ, Tr.set (.row kd l') c (Tr.set (.row (.gr 4) zs) g3.next.succ.succ t)⟩) := by
  rw [hl2] at hst ⊢
  simp only [aE, eJ, List.length_singleton, if_true, dI, dHz _ _ _ _ hcs] at hst ⊢
  cases htc : t.get c with
  | none => rw [htc] at hst; cases hst
  | some o =>
   rw [htc] at hst
   cases o with
   | row kd l =>
    dsimp only at hst ⊢
    cases hw : kd.writable with
    | false => rw [hw] at hst; cases hst
    | true =>
     rw [hw, if_pos rfl] at hst
     cases hp : gI 4 l [.l g3.next.succ.succ 0 (m + 1) (m + 1)] with
     | none => rw [hp] at hst; cases hst
     | some l' =>
      rw [hp] at hst
      simp only [bB, bK] at hst
      exact ⟨kd, l, l', rfl, hst.2.symm, fun zs => by simp only [hw, if_true, hp, hst.1]⟩
   | it s p => cases hst
   | mp es => cases hst
   | big n t => cases hst
   | mi t => cases hst
 obtain ⟨kd, l, l', htc, hk4, hstz⟩ := hst2
 obtain ⟨k6, h6, S6⟩ := aRt (W.base (.row .ex [.i .i64 (Int.ofNat 0), .s [], .i .i64 (Int.ofNat 0), .l0])) (aTr rfl (by simp [DV.one]) h5.next h5.next.succ h5.bl) hzz
 obtain ⟨k7, h7, S7⟩ := kE 1 _ _ _ _ S6 _ _ (hstz _)
 have hqz := bPv (h' := ⟨g3.next.succ.succ.succ, Tr.set (.row kd l') c (Tr.set (.row (.gr 4) (old ++ [.i .i64 (Int.ofNat 0), .s [], .i .i64 (Int.ofNat 0), .l0])) g3.next.succ.succ t)⟩) (by
  show (Tr.set _ c (Tr.set _ _ t)).get q = _
  rw [dHz _ _ _ _ (Ne.symm W.ne), dHz _ _ _ _ hqs, htq]) W.hx
 obtain ⟨k8, h8, S8⟩ := kC 4 _ _ _ S7 _ _ hqz
 have hfin : aE 4 (.p g3.next.succ.succ (0 + m * 4)) (.a cs) ⟨g3.next.succ.succ.succ, Tr.set (.row kd l') c (Tr.set (.row (.gr 4) (old ++ [.i .i64 (Int.ofNat 0), .s [], .i .i64 (Int.ofNat 0), .l0])) g3.next.succ.succ t)⟩ =
   some (aV, ⟨g3.next.succ.succ.succ, Tr.set (.row (.gr 4) (old ++ cs)) g3.next.succ.succ (Tr.set (.row kd l') c (Tr.set (.row (.gr 4) (old ++ [.i .i64 (Int.ofNat 0), .s [], .i .i64 (Int.ofNat 0), .l0])) g3.next.succ.succ t))⟩) := by
  have hp := aQr old [.i .i64 (Int.ofNat 0), .s [], .i .i64 (Int.ofNat 0), .l0] cs (by rw [W.one.1]; rfl) (by simp [DV.one]) W.one.2
  simp only [aE, eJ, W.one.1, if_true, dI, dHz _ _ _ _ (Ne.symm hcs), dIa, Kind.writable, Nat.zero_add, ← hol, hp]
 obtain ⟨k9, h9, S9⟩ := kE 4 _ _ _ _ S8 _ _ hfin
 have S10 : Sim true k4 k9 := by
  refine Sim.trans ?_ S9
  rw [hk4]
  refine Sim.of_get rfl fun b o hb => ?_
  change (Tr.set (.row kd l') c (Tr.set _ g3.next.succ.succ t)).get b = some o at hb
  show (Tr.set _ g3.next.succ.succ (Tr.set (.row kd l') c (Tr.set _ g3.next.succ.succ t))).get b = some o
  by_cases e1 : b = g3.next.succ.succ
  ·rw [e1] at hb ⊢
   rw [dHz _ _ _ _ (Ne.symm hcs), dIa] at hb
   rw [dIa, hb]
  ·rw [dHz _ _ _ _ e1]
   by_cases e2 : b = c
   ·rw [e2] at hb ⊢
    rw [dIa] at hb ⊢
    exact hb
   ·rw [dHz _ _ _ _ e2, dHz _ _ _ _ e1] at hb ⊢
    exact hb
 have fl : aN [(.i .i64 (Int.ofNat 0)), (.s []), (.i .i64 (Int.ofNat 0)), .l0] 1 [(0, 4, (.a [(.i .i64 (Int.ofNat 0)), (.s []), (.i .i64 (Int.ofNat 0)), .l0]))] h5 = some (.l h5.next 0 1 1, ⟨h5.next.succ, Tr.set (.row .ex [.i .i64 (Int.ofNat 0), .s [], .i .i64 (Int.ofNat 0), .l0]) h5.next h5.bl⟩) := by
  simp [aN, lB, eJ]
 refine wpS (aOv ?_)
 rw [rg5]
 have c5 : aA (.p c 4) h5 = some (l1, h5) := W.c5 h5.next
 have ix : aI 4 l2 n k8 = some (.p g3.next.succ.succ (0 + m * 4), k8) := by
  rw [hl2, hn]
  show (if (0 : Int) ≤ (m : Int) ∧ (m : Int) < ((m + 1 : Nat) : Int) then some (DV.p g3.next.succ.succ (0 + (m : Int).toNat * 4), k8) else none) = _
  rw [if_pos (by omega)]
  simp
 simp only [W.e0, W.e3, bGb, aZ, cOf, cMj, c5, W.len, fl, h6, h7]
 refine rC fun _ => aOv ?_
 rw [rg6]
 simp only [aJe, bBk, Nat.beq, W.e3, h8, aZ, ix, h9]
 refine rC fun _ => hN _ _ ?_ S10
 simp only [aJe, Nat.beq]
 exact W.e5
end
theorem cFm {h h1 : Hp} {c q : Pos} {v : DV} (hr : pE c q h = some (v, h1)) (hf : mZ h) {env : aS} (e0 : env 0 = .p c 0) (e3 : env 3 = .p q 0)
  {X : Nat → aS → Hp → Prop} {R N : aS → Hp → Prop} (hN : ∀ env' h', env' 5 = v → Sim true h1 h' → N env' h') :
  pZ CF0 (fnD CF0 60) 49 (.seq (.region 3 (eU (cL (cL (cR (cL (cR (cR (cf Tryz.f214)))))))) false) (.seq (.region 4 R4 true) (.cond (.tmp 22)
   (.seq (.region 5 (eU (cL (cL (cR (cR (cL (cR (cL (cR (cR (cf Tryz.f214))))))))))) false) (.region 6 (eU (cR (cL (cR (cR (cL (cR (cL (cR (cR (cf Tryz.f214))))))))))) false))
   (.region 7 (eU (cR (cR (cR (cL (cR (cL (cR (cR (cf Tryz.f214)))))))))) true)))) X R N env h := by
 unfold pE at hr
 obtain ⟨l1, g1, hl1, hr⟩ := cZ hr
 obtain ⟨n, g2, hn, hr⟩ := cZ hr
 obtain ⟨x, g3, hx, hr⟩ := cZ hr
 obtain ⟨rfl, uc, huc⟩ := pR hl1
 have hn0 := hn
 obtain ⟨rfl, hn⟩ := wP (lN l1) hn
 obtain ⟨rfl, ⟨uq, huq⟩, cs, rfl, hcl, hco⟩ := pK hx
 dsimp only at hr
 cases hcq : lJ c q with
 | true => rw [hcq] at hr; cases hr
 | false =>
 rw [hcq] at hr
 have hcq' : c ≠ q := aVs hcq
 simp only [cnd, Bool.not_false] at hr
 obtain ⟨l2, k3, ha, hr⟩ := cZ hr
 obtain ⟨u, k4, hs, hr⟩ := cZ hr
 simp only [bB, bK] at hr
 obtain ⟨rfl, rfl⟩ := hr
 refine wpS (aOv ?_)
 rw [rg3]
 rw [show aP (env 0) g3 = some (.p c 0, g3) from by rw [e0]; rfl]
 show ∃ r, bnd (aA (.p c 4) g3) _ = some r
 rw [hl1]
 show ∃ r, bnd (bQ l1 g3) _ = some r
 rw [hn0, aZ]
 refine rC fun _ => ?_
 refine wpS (dHo (dFa fun x h5 A F5 => ?_))
 have W : Way g3 h5 c q l1 l2 n u cs k3 k4 (bI (bI (bI (bI (bI (bI (bI (bI (bI env (some 15) (env 0)) (some 16) (DV.p c 0)) (some 17) (DV.p c (0 + 0))) (some 18) (DV.p c (0 + 0 + 4))) (some 19) l1) (some 20) n) (some 5) n) (some 21) (DV.p g3.next 0)) (some 22) (DV.b x)) :=
  ⟨hf, A, hl1, hx, hcq', hn0, ha, hs, e0, e3, rfl⟩
 refine wpC (t := x) rfl ⟨fun _ => ?_, fun _ => ?_⟩
 ·exact W.A hN
 ·exact W.B hN
theorem aZi (c : Pos) (lit : List DV) (h : Hp) : bS (aJ [.p c 0, .a lit] 1) h = some (.p h.next 0, ⟨h.next.succ, Tr.set (.row .ex lit) h.next h.bl⟩) := rfl
theorem cRe (G : Gd) : jT Tryz.prog G 214 kN := by
 refine cRd (C := CF0) (rec := fnD CF0 60) KC0 Try_ok cYy bUd fun args h v h1 hr hf => ?_
 unfold kN at hr
 split at hr <;> (try (cases hr; done))
 rename_i c lit
 obtain ⟨vb, hb, h0, hr⟩ := cZ hr
 simp only [bJ, bB, bK] at h0
 obtain ⟨rfl, rfl⟩ := h0
 obtain ⟨ls, h2, hl, hr⟩ := cZ hr
 obtain ⟨rfl, _⟩ := pR hl
 obtain ⟨i, h3, hi, hr⟩ := cZ hr
 obtain ⟨tt, h4, ht, hif⟩ := cZ hr
 clear hr
 obtain ⟨rfl, hlt⟩ := wP (wN _ _ _) ht
 rw [cYt, dAs]
 refine wpS (aOv ?_)
 rw [rg0, aZi, aZ]
 refine rC fun _ => ?_
 refine wpS (aOv ?_)
 rw [rg1]
 simp only [aJe, bBk, Nat.beq, show aJ [.p c 0, .a lit] 0 = .p c 0 from rfl, bGb, aZ, cOf, cMj, hl, hi]
 refine rC fun F4 => ?_
 refine wpS (wpS (aOv ?_))
 rw [rg2]
 simp only [aJe, bBk, Nat.beq, ht, aZ]
 refine rC fun _ => ?_
 unfold aU at hif
 split at hif <;> (try (cases hif; done))
 ·refine wpC (t := true) rfl ⟨fun _ => ?_, fun e => (by cases e)⟩
  refine cFm hif F4 ?_ ?_ ?_
  ·rfl
  ·rfl
  ·intro env' h' e5 S
   exact aSd e5 S
 ·simp only [bB, bK] at hif
  obtain ⟨rfl, rfl⟩ := hif
  refine wpC (t := false) rfl ⟨fun e => (by cases e), fun _ => ?_⟩
  exact aSd rfl (Sim.refl _)
end Go.Dd

namespace Go.Dd
open Go.Proofs
theorem bYt : (itm.ops.toList.all fA) = true := by kernel_rfl
theorem bOi : Tryz.f162.body = some itm.code := by kernel_rfl
theorem cPg : ItOk Tryz.prog itm where
 pre := by kernel_rfl
 test := by kernel_rfl
 after := by kernel_rfl
 post := by kernel_rfl
 step := by kernel_rfl
 ops := List.all_eq_true.1 bYt
 dst := by kernel_rfl
 guard := by kernel_rfl
 op := ⟨#[3], by kernel_rfl⟩
 fn := ⟨Tryz.f162, Tryz.func162, bOi, by kernel_rfl, by kernel_rfl, by kernel_rfl⟩
theorem dEa : fR (cf Tryz.f95) = true := by kernel_rfl
theorem dCf : fR (cf Tryz.f287) = true := by kernel_rfl
theorem aVj {fn : Func} {c : Code} (h : fn.body = some c) : cf fn = c := by unfold cf; rw [h]
theorem cQz (f : FuncId) (hf : rgB f = true) (fn : Func) (c : Code) (h1 : Tryz.prog.funcs[f]? = some fn) (h2 : fn.body = some c) : fR c = true := by
 unfold rgB at hf
 simp only [Bool.or_eq_true] at hf
 rcases hf with hf | hf <;> (have e := Nat.eq_of_beq_eq_true hf; subst e)
 ·rw [Tryz.func95] at h1
  cases h1
  rw [← aVj h2]
  exact dEa
 ·rw [Tryz.func287] at h1
  cases h1
  rw [← aVj h2]
  exact dCf
end Go.Dd

namespace Go.Dd
open Go.Proofs Go.Lib Go.RowKit
theorem aHz (c : Nat) (hc : c < 256) : ∀ (l : List UInt8) (i : Nat), aHt c (l.map (·.toNat)) i = if indexByte l c.toUInt8 = -1 then -1 else indexByte l c.toUInt8 + i
 | [], i => rfl
 | b :: l, i => by
  have hb : Nat.beq b.toNat c = (b == c.toUInt8) := by
   rw [Bool.eq_iff_iff]
   constructor
   ·intro h
    have := Nat.eq_of_beq_eq_true h
    simp [← this]
   ·intro h
    have h2 : b = c.toUInt8 := by simpa using h
    rw [h2]
    have : (c.toUInt8).toNat = c := by simp [Nat.toUInt8]; omega
    rw [this]; simp
  show (bif Nat.beq b.toNat c then Int.ofNat i else aHt c (l.map (·.toNat)) (i + 1)) = _
  rw [hb]
  unfold indexByte
  cases h : (b == c.toUInt8) with
  | true => simp
  | false =>
   have ih := aHz c hc l (i + 1)
   have hge := indexByte_ge l c.toUInt8
   simp only [cond_false, Bool.false_eq_true, if_false]
   rw [ih]
   by_cases h1 : indexByte l c.toUInt8 = -1
   ·simp [h1]
   ·simp only [h1, if_false, beq_iff_eq]
    rw [if_neg (by omega)]
    omega
theorem cUe (G : Gd) : jT Tryz.prog G 229 lC := by
 intro args h v h1 hr ρ w args' H hargs
 unfold lC at hr
 split at hr <;> (try (cases hr; done))
 rename_i l c
 cases hc : Nat.blt c 256 with
 | false => rw [hc] at hr; cases hr
 | true =>
  rw [hc] at hr
  have hc' : c < 256 := by simpa using hc
  simp only [cond_true, bB, bK] at hr
  obtain ⟨rfl, rfl⟩ := hr
  obtain ⟨a⟩ := args'
  cases hargs with
  | cons x x' l1 l1' hx hxs =>
  cases hxs with
  | cons y y' l2 l2' hy hys =>
  cases hys
  cases hx with
  | s l bs hbs =>
  cases hy with
  | i k n =>
  refine .inr ⟨ρ, w, .int .i64 (indexByte bs.data.toList c.toUInt8), ?_, Ex.refl _ _, ?_, H, Kp.refl _ _⟩
  ·rw [run_callFunc_extern (fn := Tryz.f229) (e := Extern.BytealgIndexByte.indexByte) (by kernel_rfl) (by kernel_rfl) (by kernel_rfl) (by kernel_rfl) (by kernel_rfl)]
   rw [run_indexByteString bs (Int.ofNat c) w]
   rfl
  ·have e := aHz c hc' bs.data.toList 0
   rw [hbs] at e
   have e2 : aHt c l 0 = indexByte bs.data.toList c.toUInt8 := by
    rw [e]
    split
    ·rename_i h; exact h.symm
    ·simp
   rw [e2]
   exact .i _ _
theorem aBl (G : Gd) (g : FuncId) (F : List DV → Hp → aG) (h : CF1.I g = some F) : jT CF1.P G g F := by
 have e : CF1.I g = bif Nat.beq g 229 then some lC else bif Nat.beq g 214 then some kN else none := rfl
 rw [e] at h
 cases hg : Nat.beq g 229 with
 | true => rw [hg] at h; cases h; cases Nat.eq_of_beq_eq_true hg; exact cUe G
 | false =>
 rw [hg, cond_false] at h
 cases hg : Nat.beq g 214 with
 | true => rw [hg] at h; cases h; cases Nat.eq_of_beq_eq_true hg; exact cRe G
 | false => rw [hg] at h; cases h
theorem bOl (n : Nat) (G : Gd) (f : FuncId) : jT Tryz.prog G f (eZ CF1 n f) := bGi (C := CF1) Try_ok aBl cPg cQz n G f
end Go.Dd

namespace Go.Dd
open Go.RowKit (Below)
theorem HR.later {G : Gd} {ρ : cE} {h : Hp} {w w' : World} (H : HR G ρ h w) (e : Below w.heap.size w w') : HR G ρ h w' where
 gl := fun k hk => (e.block k (Nat.lt_of_lt_of_le hk H.sz.1)).trans (H.gl k hk)
 sz := ⟨Nat.le_trans H.sz.1 e.size, fun k hk => Nat.lt_of_lt_of_le (H.sz.2 k hk) e.size⟩
 nx := H.nx
 ro := H.ro
 dom := H.dom
 lt := H.lt
 cell := fun b k l L i v h1 h2 h3 h4 => by
  obtain ⟨v', h5, h6⟩ := H.cell b k l L i v h1 h2 h3 h4
  exact ⟨v', by rw [e.cell (dN h5)]; exact h5, h6⟩
 spare := fun b l L es j h1 h2 h3 => by
  obtain ⟨v', h5⟩ := H.spare b l L es j h1 h2 h3
  exact ⟨v', by rw [e.cell (dN h5)]; exact h5⟩
 free := fun b a h1 h2 => by
  obtain ⟨v, hv⟩ := H.lt_cell h1
  rw [e.frozen (dN hv)]
  exact H.free b a h1 h2
 inj := H.inj
 ex := H.ex
 grone := H.grone
 itr := fun b o L h1 h2 h3 => by
  obtain ⟨a, b, x, c, d⟩ := H.itr b o L h1 h2 h3
  refine ⟨a, b, x, ?_, d⟩
  rw [e.block _ (Array.getElem?_eq_some_iff.1 c).1]
  exact c
 itj := H.itj
theorem Kp.later {G : Gd} {ρ : cE} {h : Hp} {w w' : World} (H : HR G ρ h w) (e : Below w.heap.size w w') : Kp G w w' :=
 ⟨e.mono H.sz.1, fun k hk => e.block k (H.sz.2 k hk)⟩
def kB (ρ ρ2 : cE) : cE := fun b => match ρ b with
 | some L => some L
 | none => ρ2 b
section
variable {G G2 : Gd} {ρ ρ2 : cE} {h g : Hp} {w w' : World} {J : Tr Ob}
theorem HR.join (H : HR G ρ h w) (hb : Below w.heap.size w w') (H2 : HR G2 ρ2 g w') (hG2 : G2.B = w.heap.size) (low : ∀ b L, ρ2 b = some L → h.next.toNat ≤ b.toNat)
  (hk : ∀ b o, g.bl.get b = some o → o.sg = true ∨ ∃ l, o = .row .ex l) (hn : h.next.toNat ≤ g.next.toNat)
  (hJ : ∀ b, J.get b = match h.bl.get b with
   | some o => some o
   | none => g.bl.get b) : HR G (kB ρ ρ2) ⟨g.next, J⟩ w' ∧ Ex G ρ (kB ρ ρ2) ∧ Ext ρ2 (kB ρ ρ2) := by
 have H' := H.later hb
 have e1 : Ext ρ (kB ρ ρ2) := fun b L hL => by unfold kB; rw [hL]
 have no : ∀ b, h.next.toNat ≤ b.toNat → ρ b = none := fun b hb => by
  cases e : ρ b with
  | none => rfl
  | some L => have := H.lt b L e; omega
 have e2 : Ext ρ2 (kB ρ ρ2) := fun b L hL => by unfold kB; rw [no b (low b L hL)]; exact hL
 have two : ∀ b o, J.get b = some o → (h.bl.get b = some o ∧ ∃ L, ρ b = some L ∧ kB ρ ρ2 b = some L) ∨ (g.bl.get b = some o ∧ ∃ L, ρ2 b = some L ∧ kB ρ ρ2 b = some L) := fun b o ho => by
  rw [hJ] at ho
  cases hh : h.bl.get b with
  | some o' =>
   rw [hh] at ho
   cases ho
   obtain ⟨L, hL⟩ := H.dom b _ hh
   exact .inl ⟨rfl, L, hL, e1 _ _ hL⟩
  | none =>
   rw [hh] at ho
   obtain ⟨L, hL⟩ := H2.dom b o ho
   exact .inr ⟨ho, L, hL, e2 _ _ hL⟩
 have cl : ∀ {b a}, Claims (kB ρ ρ2) ⟨g.next, J⟩ b a → (Claims ρ h b a ∧ ∀ l, J.get b = some (.row .ro l) → h.bl.get b = some (.row .ro l)) ∨ (Claims ρ2 g b a ∧ ¬ isRo g b ∧ ∀ l, J.get b ≠ some (.row .ro l)) := by
  rintro b a ⟨k, l, L, q1, q2, q3⟩
  change J.get b = some (.row k l) at q1
  rcases two b _ q1 with ⟨c1, L', c2, c3⟩ | ⟨c1, L', c2, c3⟩
  ·have c3' := c3.symm.trans q2
   cases c3'
   exact .inl ⟨⟨k, l, L, c1, c2, q3⟩, fun l' hl' => by rw [q1] at hl'; rw [c1]; exact hl'⟩
  ·have c3' := c3.symm.trans q2
   cases c3'
   refine .inr ⟨⟨k, l, L, c1, c2, q3⟩, ?_, ?_⟩
   ·rintro ⟨l', hl'⟩
    rw [c1] at hl'
    cases hl'
    rcases hk b _ c1 with hs | ⟨_, hs⟩ <;> cases hs
   ·intro l' hl'
    rw [q1] at hl'
    cases hl'
    rcases hk b _ c1 with hs | ⟨_, hs⟩ <;> cases hs
 have old : ∀ {b a}, Claims ρ h b a → a.block < w.heap.size := fun hc => by
  obtain ⟨v, hv⟩ := H.lt_cell hc
  exact dN hv
 have own2 : ∀ {k}, Own G2 k → Own G k ∧ w.heap.size ≤ k := fun {k} ho => by
  have h1 := ho.1
  rw [hG2] at h1
  exact ⟨⟨Nat.le_trans H.sz.1 h1, fun hX => by have := H.sz.2 k hX; omega⟩, h1⟩
 refine ⟨⟨H'.gl, H'.sz, Nat.le_trans H.nx hn, ?_, ?_, ?_, ?_, ?_, ?_, ?_, ?_, ?_, ?_, ?_⟩, ⟨e1, fun b L hL => ?_⟩, e2⟩
 ·rintro b a hc ⟨l, hl⟩
  rcases cl hc with ⟨c, hr⟩ | ⟨_, _, hr⟩
  ·exact H'.ro b a c ⟨l, hr l hl⟩
  ·exact absurd hl (hr l)
 ·intro b o ho
  rcases two b o ho with ⟨_, L, _, c⟩ | ⟨_, L, _, c⟩
  ·exact ⟨L, c⟩
  ·exact ⟨L, c⟩
 ·intro b L hL
  unfold kB at hL
  cases e : ρ b with
  | some L' => have := H.lt b L' e; show b.toNat < g.next.toNat; omega
  | none => rw [e] at hL; exact H2.lt b L hL
 ·intro b k l L i v ho hL hi hv
  rcases two b _ ho with ⟨c1, L', c2, c3⟩ | ⟨c1, L', c2, c3⟩
  ·have c3' := c3.symm.trans hL
   cases c3'
   obtain ⟨v', q1, q2⟩ := H'.cell b k l L i v c1 c2 hi hv
   exact ⟨v', q1, q2.mono e1⟩
  ·have c3' := c3.symm.trans hL
   cases c3'
   obtain ⟨v', q1, q2⟩ := H2.cell b k l L i v c1 c2 hi hv
   exact ⟨v', q1, q2.mono e2⟩
 ·intro b l L es j ho hL hj
  rcases two b _ ho with ⟨c1, L', c2, c3⟩ | ⟨c1, L', c2, c3⟩
  ·have c3' := c3.symm.trans hL
   cases c3'
   exact H'.spare b l L es j c1 c2 hj
  ·have c3' := c3.symm.trans hL
   cases c3'
   exact H2.spare b l L es j c1 c2 hj
 ·intro b a hc hr
  rcases cl hc with ⟨c, hro⟩ | ⟨c, hnr, _⟩
  ·refine H'.free b a c fun ⟨l, hl⟩ => hr ⟨l, ?_⟩
   show J.get b = _
   rw [hJ, hl]
  ·obtain ⟨q1, q2⟩ := H2.free b a c hnr
   exact ⟨q1, (own2 q2).1⟩
 ·intro b b' a hc hc' hr
  rcases cl hc with ⟨c, _⟩ | ⟨c, hnr, _⟩
  ·rcases cl hc' with ⟨c', _⟩ | ⟨c', hnr', _⟩
   ·refine H'.inj b b' a c c' fun ⟨l, hl⟩ => hr ⟨l, ?_⟩
    show J.get b = _
    rw [hJ, hl]
   ·have h1 := old c
    have h2 := (own2 (H2.free b' a c' hnr').2).2
    omega
  ·rcases cl hc' with ⟨c', _⟩ | ⟨c', hnr', _⟩
   ·have h1 := old c'
    have h2 := (own2 (H2.free b a c hnr).2).2
    omega
   ·exact H2.inj b b' a c c' hnr
 ·intro b l L ho hL
  have key : ∀ o, J.get b = some o → (o = .row .ro l ∨ o = .row .ex l) → L.sp = 0 := fun o ho' hor => by
   rcases two b o ho' with ⟨c1, L', c2, c3⟩ | ⟨c1, L', c2, c3⟩
   ·have c3' := c3.symm.trans hL
    cases c3'
    rcases hor with rfl | rfl
    ·exact H'.ex b l L (.inl c1) c2
    ·exact H'.ex b l L (.inr c1) c2
   ·have c3' := c3.symm.trans hL
    cases c3'
    rcases hor with rfl | rfl
    ·exact H2.ex b l L (.inl c1) c2
    ·exact H2.ex b l L (.inr c1) c2
  rcases ho with ho | ho
  ·exact key _ ho (.inl rfl)
  ·exact key _ ho (.inr rfl)
 ·intro b es l i v ho hi
  rcases two b _ ho with ⟨c1, _⟩ | ⟨c1, _⟩
  ·exact H'.grone b es l i v c1 hi
  ·exact H2.grone b es l i v c1 hi
 ·intro b o L h0 ho hL
  rcases two b o ho with ⟨c1, L', c2, c3⟩ | ⟨c1, L', c2, c3⟩
  ·have c3' := c3.symm.trans hL
   cases c3'
   obtain ⟨q1, q2, x, q3, q4⟩ := H'.itr b o L h0 c1 c2
   exact ⟨q1, q2, x, q3, q4.mono e1⟩
  ·have c3' := c3.symm.trans hL
   cases c3'
   obtain ⟨q1, q2, x, q3, q4⟩ := H2.itr b o L h0 c1 c2
   exact ⟨(own2 q1).1, q2, x, q3, q4.mono e2⟩
 ·intro b o b' o' L L' h0 h0' ho ho' hL hL' he
  have lo : ∀ {b o L}, o.sg = true → h.bl.get b = some o → ρ b = some L → L.bl < w.heap.size := fun {b o L} s1 s2 s3 => by
   obtain ⟨_, _, x, q, _⟩ := H.itr b o L s1 s2 s3
   exact (Array.getElem?_eq_some_iff.1 q).1
  rcases two b o ho with ⟨c1, K, c2, c3⟩ | ⟨c1, K, c2, c3⟩ <;> (have c3' := c3.symm.trans hL; cases c3') <;>
   rcases two b' o' ho' with ⟨d1, K', d2, d3⟩ | ⟨d1, K', d2, d3⟩ <;> (have d3' := d3.symm.trans hL'; cases d3')
  ·exact H'.itj b o b' o' L L' h0 h0' c1 d1 c2 d2 he
  ·have q1 := lo h0 c1 c2
   have q2 := (own2 (H2.itr b' o' L' h0' d1 d2).1).2
   omega
  ·have q1 := lo h0' d1 d2
   have q2 := (own2 (H2.itr b o L h0 c1 c2).1).2
   omega
  ·exact H2.itj b o b' o' L L' h0 h0' c1 d1 c2 d2 he
 ·unfold kB at hL
  cases e : ρ b with
  | some L' => rw [e] at hL; exact .inl hL
  | none =>
   rw [e] at hL
   exact .inr (Nat.le_trans H.nx (low b L hL))
end
end Go.Dd

namespace Go.Dd
open Go.Proofs Go.RowKit
def gdS (w : World) (N : Nat) : Gd := ⟨w.heap.size, fun _ => False, N, w.heap, fun _ _ => trivial⟩
theorem HR.empty (w : World) (N : Nat) (p : Pos) (hN : N ≤ p.toNat) : HR (gdS w N) (fun _ => none) ⟨p, .e⟩ w := by
 constructor
 ·exact fun _ _ => rfl
 ·exact ⟨Nat.le_refl _, fun _ h => h.elim⟩
 ·exact hN
 ·rintro b a ⟨k, l, L, _, h2, _⟩; cases h2
 ·intro b o h; cases b <;> cases h
 ·intro b L h; cases h
 ·intro b k l L i v h h2; cases h2
 ·intro b l L es j h h2; cases h2
 ·rintro b a ⟨k, l, L, _, h2, _⟩; cases h2
 ·rintro b b' a ⟨k, l, L, _, h2, _⟩; cases h2
 ·intro b l L h h2; cases h2
 ·intro b es l i v h; cases b <;> cases h
 ·intro b s pos L h h2; cases h2
 ·intro b s pos b' s' pos' L L' h h' h2; cases h2
theorem aIe {f : FuncId} {args : List DV} {F : List DV → Hp → aG} {v : DV} {g1 : Hp} (hF : ∀ G, jT Tryz.prog G f F) (hr : F args hS = some (v, g1)) (fn : Func) (hf : Tryz.prog.funcs[f]? = some fn) (hb : fn.body.isSome = true)
  (w : World) (args' : Array Value) (hargs : VRs (fun _ => none) args args'.toList) :
  Calls Tryz.prog f args' w fun e w' => ∃ ρ' v', e = .returned v' ∧ VR ρ' v v' ∧ HR (gdS w 1024) ρ' g1 w' ∧ Below w.heap.size w w' ∧ ∀ b L, ρ' b = some L → 1024 ≤ b.toNat := by
 have hp : (dH 1).toNat = 1024 := by kernel_rfl
 have H : HR (gdS w 1024) (fun _ => none) hS w := HR.empty w 1024 (dH 1) (by rw [hp]; exact Nat.le_refl _)
 rcases hF (gdS w 1024) args hS v g1 hr _ w args' H hargs with ⟨_, h⟩ | ⟨ρ', w', v', h, _⟩
 ·refine h.mono ?_
  rintro e w' ⟨ρ', v', h1, h2, h3, h4, h5⟩
  exact ⟨ρ', v', h1, h3, h4, h5.low, fun b L hL => (h2.new b L hL).resolve_left (fun e => by cases e)⟩
 ·exfalso
  have hn : ¬ fn.name = "runtime.NumGoroutine" := by simpa using Try_ok.names f fn hf
  have hbn : fn.body ≠ none := by intro e; rw [e] at hb; cases hb
  unfold callFunc at h
  simp [hf, hn, hbn] at h
theorem aIa {f : FuncId} {fn : Func} (hf : Tryz.prog.funcs[f]? = some fn) (hb : fn.body.isSome = true) (args : Array Value) (w : World) : (callFunc f args).run Tryz.prog w = .ok (.enter f args) w := by
 have hn : ¬ fn.name = "runtime.NumGoroutine" := by simpa using Try_ok.names f fn hf
 have hbn : fn.body ≠ none := by intro e; rw [e] at hb; cases hb
 unfold callFunc
 simp [hf, hn, hbn]
theorem bAt {f : FuncId} {F : List DV → Hp → aG} {r : Bool} {h1 : Hp} (hF : ∀ G, jT Tryz.prog G f F) (hr : F [] hS = some (.b r, h1)) (fn : Func) (hf : Tryz.prog.funcs[f]? = some fn) (hb : fn.body.isSome = true) (G : Gd) :
  jT Tryz.prog G f (fun args h => match args with
   | [] => some (.b r, h)
   | _ => none) := by
 intro args h v h2 he ρ w args' H hargs
 cases args with
 | cons _ _ => cases he
 | nil =>
  simp only [bB, bK] at he
  obtain ⟨rfl, rfl⟩ := he
  have e0 : args' = #[] := by
   obtain ⟨a⟩ := args'
   cases hargs
   rfl
  subst e0
  refine .inl ⟨aIa hf hb _ _, ?_⟩
  refine (aIe hF hr fn hf hb w #[] .nil).mono ?_
  rintro e w' ⟨ρ', v', rfl, hv, _, hbel, _⟩
  cases hv
  exact ⟨ρ, _, rfl, Ex.refl _ _, .b _, H.later hbel, Kp.later H hbel⟩
theorem Sim.tf {a b c : Hp} (h : Sim true a b) (k : Sim false b c) : Sim false a c := ⟨k.next.trans h.next, fun p o hp => by
 obtain ⟨o', h1, h2⟩ := h.get p o hp
 rw [jE h2] at h1
 exact k.get p o h1⟩
theorem xN (o : Ob) : rL true o o := by cases o <;> simp [rL]
theorem dJe : Sim false hS hS := ⟨rfl, fun b o hb => by cases b <;> cases hb⟩
theorem bYw (g : FuncId) (F : List DV → Hp → aG) (hg : CF.I g = some F) (n : Nat) (args : List DV) : SimP false (F args) (bR CF1 (eZ CF1 (n + 12)) g args) := by
 change (bif Nat.beq g 229 then some lC else bif Nat.beq g 214 then some kN else xS g) = some F at hg
 have hcall : bR CF1 (eZ CF1 (n + 12)) g args = fun h => match (bif Nat.beq g 229 then some lC else bif Nat.beq g 214 then some kN else none : Option (List DV → Hp → aG)) with
  | some F => F args h
  | none => eZ CF1 (n + 12) g args h := rfl
 rw [hcall]
 cases h1 : Nat.beq g 229 with
 | true => rw [h1] at hg; cases hg; exact aAi args
 | false =>
  cases h2 : Nat.beq g 214 with
  | true => rw [h1, h2] at hg; cases hg; exact aDs args
  | false =>
   rw [h1, h2] at hg
   exact aJh g F hg n args
theorem aHr {g : FuncId} (hg : CF.I g = none) : CF1.I g = none := by
 show (bif Nat.beq g 229 then some lC else bif Nat.beq g 214 then some kN else none) = none
 change (bif Nat.beq g 229 then some lC else bif Nat.beq g 214 then some kN else xS g) = none at hg
 cases h1 : Nat.beq g 229 with
 | true => rw [h1] at hg; cases hg
 | false =>
  cases h2 : Nat.beq g 214 with
  | true => rw [h1, h2] at hg; cases hg
  | false => rfl
theorem aPv : ∃ g', eZ CF1 912 7 [.i .i64 (.ofNat 20000)] hS = some (.t [.p (dH 7) 0, .i .i64 (.ofNat 0)], g') ∧ Sim false hN g' := by
 obtain ⟨g, h1, h2⟩ := cMh
 rw [aEe] at h1
 obtain ⟨g', h3, h4⟩ := bKm 900 7 [.i .i64 (.ofNat 20000)] hS hS dJe _ _ h1
 exact ⟨g', h3, h2.tf h4⟩
section known
variable {g1 : Hp} {HL : List (Pos × Ob)} {nx0 : Nat}
noncomputable def exL (g1 : Hp) (l : List (Pos × Ob)) : List (Pos × Ob) := l.map fun x => (x.1, (g1.bl.get x.1).getD x.2)
theorem aHh (l : List (Pos × Ob)) (t : Tr Ob) (b : Pos) : (fY l t).get b = match (fY l .e).get b with
  | some o => some o
  | none => t.get b := by
 induction l with
 | nil => rw [show fY [] t = t from rfl, show fY [] .e = .e from rfl, Tr.get_e]
 | cons x l ih =>
  show (Tr.set x.2 x.1 (fY l t)).get b = match (Tr.set x.2 x.1 (fY l .e)).get b with
   | some o => some o
   | none => t.get b
  by_cases e : b = x.1
  ·rw [e, dIa, dIa]
  ·rw [dHz _ _ _ _ e, dHz _ _ _ _ e]
   exact ih
theorem bEh (l : List (Pos × Ob)) (b : Pos) (o : Ob) (h : (fY l .e).get b = some o) : (b, o) ∈ l := by
 induction l with
 | nil => rw [show fY [] .e = .e from rfl, Tr.get_e] at h; cases h
 | cons x l ih =>
  change (Tr.set x.2 x.1 (fY l .e)).get b = some o at h
  by_cases e : b = x.1
  ·rw [e, dIa] at h
   cases h
   rw [e]
   exact List.mem_cons_self
  ·rw [dHz _ _ _ _ e] at h
   exact List.mem_cons_of_mem _ (ih h)
theorem mJ (g1 : Hp) (l : List (Pos × Ob)) (b : Pos) : (fY (exL g1 l) .e).get b = ((fY l .e).get b).map fun o => (g1.bl.get b).getD o := by
 induction l with
 | nil => rw [show exL g1 [] = [] from rfl, show fY [] .e = .e from rfl, Tr.get_e]; rfl
 | cons x l ih =>
  show (Tr.set ((g1.bl.get x.1).getD x.2) x.1 (fY (exL g1 l) .e)).get b = ((Tr.set x.2 x.1 (fY l .e)).get b).map _
  by_cases e : b = x.1
  ·rw [e, dIa, dIa]
   rfl
  ·rw [dHz _ _ _ _ e, dHz _ _ _ _ e]
   exact ih
theorem aDg (S : Sim false (hY nx0 HL) g1) {b : Pos} {o : Ob} (h : (fY HL .e).get b = some o) : ∃ o', g1.bl.get b = some o' ∧ rL false o o' ∧ (fY (exL g1 HL) .e).get b = some o' := by
 obtain ⟨o', h1, h2⟩ := S.get b o h
 refine ⟨o', h1, h2, ?_⟩
 rw [mJ, h, h1]
 rfl
noncomputable def aJv (o : Ob) : Bool := match o with
 | .row .ex _ => true
 | .mp _ => true
 | .big _ _ => true
 | .mi _ => true
 | _ => false
noncomputable def cEc (l : List (Pos × Ob)) : Bool := List.rec (motive := fun _ => Bool) true (fun x _ ih => aJv x.2 && ih) l
theorem aHo : ∀ {l : List (Pos × Ob)}, cEc l = true → ∀ x ∈ l, aJv x.2 = true
 | [], _, x, h => by cases h
 | y :: l, hl, x, h => by
  change (aJv y.2 && cEc l) = true at hl
  simp only [Bool.and_eq_true] at hl
  simp only [List.mem_cons] at h
  rcases h with rfl | h
  ·exact hl.1
  ·exact aHo hl.2 x h
theorem bAp {o o' : Ob} (hk : aJv o = true) (h : rL false o o') : o'.sg = true ∨ ∃ l, o' = .row .ex l := by
 unfold aJv at hk
 split at hk
 ·have : o' = _ := h
  exact .inr ⟨_, this⟩
 ·have : o' = _ := h
  rw [this]
  exact .inl rfl
 ·exact .inr ⟨_, h⟩
 ·obtain ⟨es, h1, _⟩ := h
  rw [h1]
  exact .inl rfl
 ·cases hk
noncomputable def wM (p : List DV → Bool) (v0 : DV) (nx0 : Nat) (HL : List (Pos × Ob)) (g1 : Hp) (args : List DV) (h : Hp) : aG :=
 bif p args && lJ h.next (dH 1) then some (v0, ⟨dH nx0, fY (exL g1 HL) h.bl⟩) else none
theorem aZd (S1 : Sim false (hY nx0 HL) g1) (p : List DV → Bool) (v0 : DV) (args : List DV) : SimP false (aMj p v0 nx0 HL args) (wM p v0 nx0 HL g1 args) := by
 intro h h' S
 unfold aMj wM
 rw [S.next]
 cases (p args && lJ h.next (dH 1)) with
 | false => exact SimR.none _
 | true =>
  intro v k e
  simp only [cond_true, bB, bK] at e
  obtain ⟨rfl, rfl⟩ := e
  refine ⟨⟨dH nx0, fY (exL g1 HL) h'.bl⟩, rfl, rfl, fun b o ho => ?_⟩
  change (fY HL h.bl).get b = some o at ho
  show ∃ o', (fY (exL g1 HL) h'.bl).get b = some o' ∧ rL false o o'
  rw [aHh] at ho ⊢
  cases hb : (fY HL .e).get b with
  | some o1 =>
   rw [hb] at ho
   cases ho
   obtain ⟨o', _, h2, h3⟩ := aDg S1 hb
   exact ⟨o', by rw [h3], h2⟩
  | none =>
   rw [hb] at ho
   rw [mJ, hb]
   exact S.get b o ho
theorem bJd {f : FuncId} {F : List DV → Hp → aG} (hF : ∀ G, jT Tryz.prog G f F) {args0 : List DV} {v0 : DV} (hr0 : F args0 hS = some (v0, g1)) (S1 : Sim false (hY nx0 HL) g1) (hk : cEc HL = true) (hnx0 : 1024 ≤ (dH nx0).toNat)
  (fn : Func) (hf : Tryz.prog.funcs[f]? = some fn) (hb : fn.body.isSome = true) {p : List DV → Bool} (hp : ∀ args, p args = true → args = args0) (h0 : ∀ ρ l, VRs ρ args0 l → VRs (fun _ => none) args0 l) (G : Gd) : jT Tryz.prog G f (wM p v0 nx0 HL g1) := by
 intro args h v h1 hr ρ w args' H hargs
 unfold wM at hr
 cases hc : (p args && lJ h.next (dH 1)) with
 | false => rw [hc] at hr; cases hr
 | true =>
  rw [hc] at hr
  simp only [cond_true, bB, bK] at hr
  obtain ⟨rfl, rfl⟩ := hr
  simp only [Bool.and_eq_true] at hc
  have ha := hp _ hc.1
  subst ha
  have hnx := kM _ _ hc.2
  have hp1 : (dH 1).toNat = 1024 := by kernel_rfl
  refine .inl ⟨aIa hf hb _ _, ?_⟩
  refine (aIe hF hr0 fn hf hb w args' (h0 _ _ hargs)).mono ?_
  rintro e w' ⟨ρ2, v', rfl, hv, H2, hbel, hlow⟩
  have S2 : Sim true ⟨g1.next, fY (exL g1 HL) .e⟩ g1 := ⟨rfl, fun b o ho => by
   change (fY (exL g1 HL) .e).get b = some o at ho
   rw [mJ] at ho
   cases hb : (fY HL .e).get b with
   | none => rw [hb] at ho; cases ho
   | some o1 =>
    obtain ⟨o', q1, _, q3⟩ := aDg S1 hb
    rw [mJ] at q3
    rw [q3] at ho
    cases ho
    exact ⟨_, q1, xN _⟩⟩
  have hgn : g1.next = dH nx0 := S1.next
  have H3 := HR.sub S2 H2
  obtain ⟨j1, j2, j3⟩ := H.join (J := fY (exL g1 HL) h.bl) hbel H3 rfl (fun b L hL => by rw [hnx, hp1]; exact hlow b L hL) (fun b o ho => by
    change (fY (exL g1 HL) .e).get b = some o at ho
    rw [mJ] at ho
    cases hb : (fY HL .e).get b with
    | none => rw [hb] at ho; cases ho
    | some o1 =>
     obtain ⟨o', q1, q2, q3⟩ := aDg S1 hb
     rw [mJ] at q3
     rw [q3] at ho
     cases ho
     exact bAp (aHo hk _ (bEh _ _ _ hb)) q2) (by
    show h.next.toNat ≤ g1.next.toNat
    rw [hnx, hgn, hp1]
    exact hnx0) (fun b => by
    rw [aHh]
    cases hb : (fY (exL g1 HL) .e).get b with
    | none => cases h.bl.get b <;> rfl
    | some o =>
     cases hh : h.bl.get b with
     | none => rfl
     | some o1 =>
      exfalso
      obtain ⟨L, hL⟩ := H.dom b o1 hh
      have q1 := H.lt b L hL
      obtain ⟨L2, hL2⟩ := H3.dom b o hb
      have q2 := hlow b L2 hL2
      rw [hnx, hp1] at q1
      omega)
  rw [hgn] at j1
  exact ⟨kB ρ ρ2, v', rfl, j2, hv.mono j3, j1, Kp.later H hbel⟩
end known
noncomputable def gN1 : Hp := Classical.choose aPv
theorem bZo : eZ CF1 912 7 [.i .i64 (.ofNat 20000)] hS = some (.t [.p (dH 7) 0, .i .i64 (.ofNat 0)], gN1) := (Classical.choose_spec aPv).1
theorem aUv : Sim false hN gN1 := (Classical.choose_spec aPv).2
theorem aYw : cEc HLN = true := by kernel_rfl
noncomputable def bTf : List DV → Hp → aG := wM aUn (.t [.p (dH 7) 0, .i .i64 (.ofNat 0)]) 26855 HLN gN1
theorem bNa (args : List DV) : SimP false (cRl args) (bTf args) := aZd aUv _ _ _
theorem bMv (args : List DV) (h : aUn args = true) : args = [.i .i64 (.ofNat 20000)] := by
 unfold aUn at h
 split at h
 ·rw [Nat.eq_of_beq_eq_true h]
 ·cases h
theorem cGh {k : IntKind} {n : Int} (ρ : cE) (l : List Value) (h : VRs ρ [.i k n] l) : VRs (fun _ => none) [.i k n] l := by
 cases h with
 | cons _ _ _ _ q1 q2 =>
  cases q1
  cases q2
  exact .cons _ _ _ _ (.i _ _) .nil
theorem bPh (G : Gd) : jT Tryz.prog G 7 bTf :=
 bJd (fun G => bOl 912 G 7) bZo aUv aYw (by rw [show (dH 26855).toNat = 27878 from by kernel_rfl]; decide) Tryz.f7 Tryz.func7 (by kernel_rfl) bMv cGh G
noncomputable def lK : RT := fun g => bif Nat.beq g 7 then bTf else eZ CF1 912 g
theorem recN1_ok : OkC CF1 lK := by
 refine ⟨aBl, fun G g => ?_⟩
 unfold lK
 cases hg : Nat.beq g 7 with
 | true => cases Nat.eq_of_beq_eq_true hg; exact bPh G
 | false => exact bOl 912 G g
theorem aSf (n : Nat) (g : FuncId) (args : List DV) (h : Hp) : xQ n g args h = bif Nat.beq g 7 then cRl args h else fW n g args h := rfl
theorem aTt (g : FuncId) (args : List DV) : SimP false (xQ 900 g args) (lK g args) := by
 intro h h' S
 rw [aSf]
 unfold lK
 cases hg : Nat.beq g 7 with
 | false =>
  rw [cond_false, cond_false, aEe]
  exact bKm 900 g args h h' S
 | true => exact bNa args h h' S
theorem HCN (g : FuncId) (args : List DV) : SimP false (bR CF (xQ 900) g args) (bR CF1 lK g args) := by
 cases hg : CF.I g with
 | none => rw [mF hg, mF (aHr hg)]; exact aTt g args
 | some F =>
  have e : bR CF (xQ 900) g args = F args := by funext k; unfold bR; rw [hg]
  rw [e]
  have e1 : bR CF1 lK g args = bR CF1 (eZ CF1 912) g args := by
   cases h10 : Nat.beq g 7 with
   | true =>
    cases Nat.eq_of_beq_eq_true h10
    exact absurd hg (by show ¬ CF.I 7 = some F; exact fun e => by cases e)
   | false =>
    funext k
    unfold bR lK
    rw [h10]
    rfl
  rw [e1]
  exact bYw g F hg 900 args
structure Ro (w : World) (ρ : cE) (h : Hp) : Prop where
 dom : ∀ b o, h.bl.get b = some o → ∃ L, ρ b = some L
 lt : ∀ b L, ρ b = some L → b.toNat < h.next.toNat
 row : ∀ b o, h.bl.get b = some o → ∃ l, o = .row .ro l
 cell : ∀ b l L i v, h.bl.get b = some (.row .ro l) → ρ b = some L → l[i]? = some v → ∃ v', w.cell? (eQ L i) = some v' ∧ VR ρ v v'
 sp : ∀ b o L, h.bl.get b = some o → ρ b = some L → L.sp = 0
theorem Ro.isRo {w : World} {ρ : cE} {h : Hp} (R : Ro w ρ h) {b : Pos} {a : Addr} (c : Claims ρ h b a) : isRo h b := by
 obtain ⟨k, l, L, h1, h2, _⟩ := c
 obtain ⟨l', e⟩ := R.row b _ h1
 exact ⟨l', by rw [h1, e]⟩
theorem Ro.hr {w : World} {ρ : cE} {h : Hp} (R : Ro w ρ h) : HR (gdS w 0) ρ h w where
 gl := fun _ _ => rfl
 sz := ⟨Nat.le_refl _, fun _ hh => hh.elim⟩
 nx := Nat.zero_le _
 ro := fun b a c _ => by
  obtain ⟨k, l, L, h1, h2, h3⟩ := c
  obtain ⟨l', e⟩ := R.row b _ h1
  cases e
  rcases h3 with ⟨i, v, h4, h5, rfl⟩ | ⟨es, j, h4, _⟩
  ·obtain ⟨v', h6, _⟩ := R.cell b _ L i v h1 h2 h4
   exact dN h6
  ·cases h4
 dom := R.dom
 lt := R.lt
 cell := fun b k l L i v h1 h2 h3 h4 => by
  obtain ⟨l', e⟩ := R.row b _ h1
  cases e
  exact R.cell b _ L i v h1 h2 h3
 spare := fun b l L es j h1 => by
  obtain ⟨l', e⟩ := R.row b _ h1
  cases e
 free := fun b a c hn => absurd (R.isRo c) hn
 inj := fun b b' a c c' hn => absurd (R.isRo c) hn
 ex := fun b l L h1 h2 => by
  rcases h1 with h1 | h1
  ·exact R.sp b _ L h1 h2
  ·exact R.sp b _ L h1 h2
 grone := fun b es l i v h1 => by
  obtain ⟨l', e⟩ := R.row b _ h1
  cases e
 itr := fun b o L hs h1 _ => by
  obtain ⟨l', rfl⟩ := R.row b _ h1
  cases hs
 itj := fun b o b' o' L L' hs hs' h1 _ _ _ _ => by
  obtain ⟨l', rfl⟩ := R.row b _ h1
  cases hs
theorem Ro.none (w : World) (p : Pos) : Ro w (fun _ => none) ⟨p, .e⟩ where
 dom := fun b o h => by cases b <;> cases h
 lt := fun b L h => by cases h
 row := fun b o h => by cases b <;> cases h
 cell := fun b l L i v h => by cases b <;> cases h
 sp := fun b o L h => by cases b <;> cases h
theorem Ro.add {w : World} {ρ : cE} {h : Hp} (R : Ro w ρ h) (L : Loc) (l : List DV) (hsp : L.sp = 0)
  (hc : ∀ (i : Nat) v, l[i]? = some v → ∃ v', w.cell? (eQ L i) = some v' ∧ VR ρ v v') :
  Ro w (kG ρ h.next L) ⟨h.next.succ, Tr.set (.row .ro l) h.next h.bl⟩ ∧ Ext ρ (kG ρ h.next L) := by
 have fresh : ρ h.next = Option.none := by
  cases e : ρ h.next with
  | none => rfl
  | some L' => exact absurd (R.lt _ _ e) (Nat.lt_irrefl _)
 have ext : Ext ρ (kG ρ h.next L) := fun b L' e => by
  have hb : b ≠ h.next := fun e2 => by rw [e2, fresh] at e; cases e
  rw [aR _ _ hb]; exact e
 refine ⟨?_, ext⟩
 have get : ∀ b o, (⟨h.next.succ, Tr.set (.row .ro l) h.next h.bl⟩ : Hp).bl.get b = some o → (b = h.next ∧ o = .row .ro l) ∨ (b ≠ h.next ∧ h.bl.get b = some o) := fun b o e => by
  by_cases hb : b = h.next
  ·subst hb
   rw [show ((⟨h.next.succ, Tr.set (.row .ro l) h.next h.bl⟩ : Hp).bl.get h.next) = some (.row .ro l) from dIa _ _ _] at e
   cases e
   exact .inl ⟨rfl, rfl⟩
  ·refine .inr ⟨hb, ?_⟩
   rw [← dHz (.row .ro l) h.next b h.bl hb]
   exact e
 constructor
 ·intro b o e
  rcases get b o e with ⟨rfl, _⟩ | ⟨hb, e2⟩
  ·exact ⟨L, bN _ _ _⟩
  ·rw [aR _ _ hb]; exact R.dom b o e2
 ·intro b L' e
  show b.toNat < h.next.succ.toNat
  rw [dIb]
  by_cases hb : b = h.next
  ·rw [hb]; omega
  ·rw [aR _ _ hb] at e
   have := R.lt b L' e
   omega
 ·intro b o e
  rcases get b o e with ⟨rfl, rfl⟩ | ⟨hb, e2⟩
  ·exact ⟨l, rfl⟩
  ·exact R.row b o e2
 ·intro b l' L' i v e e2 e3
  rcases get b _ e with ⟨rfl, e4⟩ | ⟨hb, e4⟩
  ·cases e4
   rw [bN] at e2
   cases e2
   obtain ⟨v', h1, h2⟩ := hc i v e3
   exact ⟨v', h1, h2.mono ext⟩
  ·rw [aR _ _ hb] at e2
   obtain ⟨v', h1, h2⟩ := R.cell b l' L' i v e4 e2 e3
   exact ⟨v', h1, h2.mono ext⟩
 ·intro b o L' e e2
  rcases get b _ e with ⟨rfl, e4⟩ | ⟨hb, e4⟩
  ·rw [bN] at e2
   cases e2
   exact hsp
  ·rw [aR _ _ hb] at e2
   exact R.sp b o L' e4 e2
theorem Ro.sim {w : World} {ρ : cE} {h : Hp} (R : Ro w ρ h) : Sim false h h := ⟨rfl, fun b o e => by
 obtain ⟨l, rfl⟩ := R.row b o e
 exact ⟨_, e, rfl⟩⟩
end Go.Dd

namespace Go.Dd
open Go.Proofs Go.RowKit
theorem dGt : okB (s25 (xQ 900) 900 hS) = true := by kernel_rfl
theorem aOs : ∃ g, aF CF1 lK 912 25 [] hS = some (.b true, g) := by
 have hl := dGt
 cases hr : s25 (xQ 900) 900 hS with
 | none => rw [hr] at hl; cases hl
 | some p =>
  obtain ⟨v, k⟩ := p
  rw [hr] at hl
  cases v <;> (try (cases hl; done))
  rename_i b
  change b = true at hl
  subst hl
  obtain ⟨g, h1, h2⟩ := nV (P := Tryz.prog) (I2 := CF.I) (I1 := CF1.I) HCN 900 12 25 [] hS hS dJe _ _ ((cJg (xQ 900) 900 [] hS).trans hr)
  exact ⟨g, h1⟩
noncomputable def lD : RT := fun g args h => bif Nat.beq g 25 then (match args with
 | [] => some (.b true, h)
 | _ => none) else xQ 900 g args h
noncomputable def aIm : RT := fun g => bif Nat.beq g 25 then (fun args h => match args with
 | [] => some (.b true, h)
 | _ => none) else lK g
theorem bEe : OkC CF1 aIm := by
 refine ⟨aBl, fun G g => ?_⟩
 unfold aIm
 cases hg : Nat.beq g 25 with
 | true =>
  cases Nat.eq_of_beq_eq_true hg
  obtain ⟨k, hk⟩ := aOs
  exact bAt (fun G => sI recN1_ok Try_ok 912 25) hk Tryz.f25 Tryz.func25 (by kernel_rfl) G
 | false => exact recN1_ok.fns G g
theorem HCG (g : FuncId) (args : List DV) : SimP false (bR CF lD g args) (bR CF1 aIm g args) := by
 cases hg : CF.I g with
 | none =>
  rw [mF hg, mF (aHr hg)]
  intro h h' S
  show SimR false (bif Nat.beq g 25 then (match args with
   | [] => some (.b true, h)
   | _ => none) else xQ 900 g args h) ((bif Nat.beq g 25 then (fun args h => match args with
   | [] => some (.b true, h)
   | _ => none : List DV → Hp → aG) else lK g) args h')
  cases h16 : Nat.beq g 25 with
  | true =>
   rw [cond_true, cond_true]
   cases args with
   | nil => exact SimR.some S _
   | cons a l => exact SimR.none _
  | false => rw [cond_false, cond_false]; exact aTt g args h h' S
 | some F =>
  have e : bR CF lD g args = F args := by funext k; unfold bR; rw [hg]
  have e0 : bR CF (xQ 900) g args = F args := by funext k; unfold bR; rw [hg]
  have e1 : bR CF1 aIm g args = bR CF1 lK g args := by
   cases h16 : Nat.beq g 25 with
   | true =>
    cases Nat.eq_of_beq_eq_true h16
    exact absurd hg (by show ¬ CF.I 25 = some F; exact fun e => by cases e)
   | false =>
    funext k
    unfold bR aIm
    rw [h16]
    rfl
  rw [e, e1, ← e0]
  exact HCN g args
theorem bYd {f : FuncId} {args : List DV} {h0 : Hp} {ρ : cE} (hr : ∃ k, aF CF lD 900 f args h0 = some (.b true, k)) (fn : Func) (hf : Tryz.prog.funcs[f]? = some fn) (hb : fn.body.isSome = true)
  (w : World) (R : Ro w ρ h0) (args' : Array Value) (hargs : VRs ρ args args'.toList) :
  Calls Tryz.prog f args' w fun e w' => e = .returned (.bool true) ∧ Below w.heap.size w w' := by
 obtain ⟨k, hk⟩ := hr
 obtain ⟨g, h1, _⟩ := nV (P := Tryz.prog) (I2 := CF.I) (I1 := CF1.I) HCG 900 12 f args h0 h0 R.sim _ _ hk
 have H := R.hr
 rcases sI bEe Try_ok 912 f args h0 _ g h1 _ w args' H hargs with ⟨_, h⟩ | ⟨ρ', w', v', h, _⟩
 ·refine h.mono ?_
  rintro e w' ⟨ρ', v', rfl, h2, h3, h4, h5⟩
  cases h3
  exact ⟨rfl, h5.low⟩
 ·exfalso
  have hn : ¬ fn.name = "runtime.NumGoroutine" := by simpa using Try_ok.names f fn hf
  have hbn : fn.body ≠ none := by intro e; rw [e] at hb; cases hb
  unfold callFunc at h
  simp [show CF1.P.funcs[f]? = some fn from hf, hn, hbn] at h
end Go.Dd

namespace Go.Dd
open Go.Proofs
theorem px0 (a b : DV) (h : Hp) : aC 0 (.t [a, b]) h = some (a, h) := Eq.trans rfl rfl
theorem px1 (a b : DV) (h : Hp) : aC 1 (.t [a, b]) h = some (b, h) := Eq.trans rfl rfl
section
end
end Go.Dd

namespace Go.Dd
open Go.Proofs
section
end
end Go.Dd

namespace Go.Dd
open Go.Proofs
def GrS (x : DV) (l : List DV) (lo : Nat) (h : Hp) : Prop := (x = .l0 ∧ l = []) ∨ ∃ b, x = .l b 0 l.length l.length ∧ h.bl.get b = some (.row (.gr 1) l) ∧ lo ≤ b.toNat ∧ b.toNat < h.next.toNat
structure Lo (lo : Nat) (h h' : Hp) : Prop where
 next : h.next.toNat ≤ h'.next.toNat
 get : ∀ b : Pos, b.toNat < lo → h'.bl.get b = h.bl.get b
theorem Lo.refl (lo : Nat) (h : Hp) : Lo lo h h := ⟨Nat.le_refl _, fun _ _ => rfl⟩
theorem aIx : ∀ l : List DV, (∀ v ∈ l, v.one = true) → lL l.length l = some l := wC
theorem GrS.app {x : DV} {l : List DV} {lo : Nat} {h : Hp} (S : GrS x l lo h) (hlo : lo ≤ h.next.toNat) (hl : ∀ v ∈ l, v.one = true) {z v : DV} (hz : eJ v = some [v]) (hv : v.one = true) {bytes : Nat} (hb : (l.length + 1) * bytes ≤ oX) :
  ∃ y g, aN [z] 1 [(0, 1, v)] h = some (y, g) ∧ ∃ x' h', aW 1 bytes x y g = some (x', h') ∧ GrS x' (l ++ [v]) lo h' ∧ Lo lo h h' := by
 refine ⟨.l h.next 0 1 1, ⟨h.next.succ, Tr.set (.row .ex [v]) h.next h.bl⟩, ?_, ?_⟩
 ·simp [aN, lB, hz]
 ·have src : oN 1 (.l h.next 0 1 1) ⟨h.next.succ, Tr.set (.row .ex [v]) h.next h.bl⟩ = some (1, [v]) := by
   have : cellsAt h.next 0 (1 * 1) ⟨h.next.succ, Tr.set (.row .ex [v]) h.next h.bl⟩ = some [v] := by
    simp [cellsAt, rowOf, dIa, lL, hv]
   simp only [oN, this]
  have ns := dIb h.next
  have ns2 := dIb h.next.succ
  rcases S with ⟨rfl, rfl⟩ | ⟨b, rfl, hbg, h1, h2⟩
  ·refine ⟨.l h.next.succ 0 1 1, ⟨h.next.succ.succ, Tr.set (.row (.gr 1) [v]) h.next.succ (Tr.set (.row .ex [v]) h.next h.bl)⟩, ?_, ?_, ?_⟩
   ·unfold aW
    rw [src]
    dsimp only
    rw [if_neg (by simp), if_pos (by simpa using hb)]
   ·exact .inr ⟨h.next.succ, rfl, dIa _ _ _, by omega, by show _ < h.next.succ.succ.toNat; omega⟩
   ·refine ⟨by show _ ≤ h.next.succ.succ.toNat; omega, fun p hp => ?_⟩
    show (Tr.set _ h.next.succ (Tr.set _ h.next h.bl)).get p = _
    rw [dHz _ _ _ _ (fun e => by subst e; omega), dHz _ _ _ _ (fun e => by subst e; omega)]
  ·have hne : b ≠ h.next := fun e => by subst e; omega
   have hget : (Tr.set (.row .ex [v]) h.next h.bl).get b = some (.row (.gr 1) l) := by rw [dHz _ _ _ _ hne]; exact hbg
   have hcells : cellsAt b 0 (l.length * 1) ⟨h.next.succ, Tr.set (.row .ex [v]) h.next h.bl⟩ = some l := by
    simp only [cellsAt, rowOf, hget, List.drop_zero, Nat.mul_one]
    exact aIx l hl
   refine ⟨.l h.next.succ 0 (l.length + 1) (l.length + 1), ⟨h.next.succ.succ, Tr.set (.row (.gr 1) (l ++ [v])) h.next.succ (Tr.set (.row .sp (bM 0 l)) b (Tr.set (.row .ex [v]) h.next h.bl))⟩, ?_, ?_, ?_⟩
   ·unfold aW
    rw [src]
    dsimp only
    rw [if_neg (by omega), hget, hcells]
    dsimp only
    rw [if_pos hb, if_pos (by simp)]
   ·exact .inr ⟨h.next.succ, by simp, dIa _ _ _, by omega, by show _ < h.next.succ.succ.toNat; omega⟩
   ·refine ⟨by show _ ≤ h.next.succ.succ.toNat; omega, fun p hp => ?_⟩
    show (Tr.set _ h.next.succ (Tr.set _ b (Tr.set _ h.next h.bl))).get p = _
    rw [dHz _ _ _ _ (fun e => by subst e; omega), dHz _ _ _ _ (fun e => by subst e; omega), dHz _ _ _ _ (fun e => by subst e; omega)]
end Go.Dd

namespace Go.Dd
open Go.Proofs
noncomputable def bAx (rec : FuncId → List DV → Hp → aG) (n : Nat) (x1 x5 : DV) (h0 : Hp) : aG :=
 bnd (rec 32 [x5, x1] h0) fun v1 h1 =>
 bnd (aC 0 v1 h1) fun v2 h2 =>
 bnd (aC 1 v1 h2) fun v3 h3 =>
 bnd (yU (.pointer 77) true v2 .p0 h3) fun v4 h4 =>
 bnd (gD v4 true (some (v3, h4)) h4) fun v5 h5 =>
 bnd (gD v4 true (aD .eql v5 (.i .i64 (Int.ofNat 7)) h5) h5) fun v6 h6 =>
 bnd (aO v4 v6 (.b false) h6) fun v7 h7 =>
 bnd (gD v7 true (rec 25 [] h7) h7) fun v8 h8 =>
 bnd (aO v7 v8 (.b false) h8) fun v9 h9 =>
 some (v9, h9)
noncomputable def jB (rec : FuncId → List DV → Hp → aG) (n : Nat) (x1 x5 : DV) (h0 : Hp) : aG :=
 bnd (bQ x1 h0) fun v19 h19 =>
 bnd (aD .gtr v19 (.i .i64 (Int.ofNat 40)) h19) fun v20 h20 =>
 aU v20 (
  bnd (cG 1 x1 none (some (.i .i64 (Int.ofNat 40))) h20) fun v21 h21 =>
  bAx rec n v21 x5 h21) (
  bAx rec n x1 x5 h20)
noncomputable def xT (rec : FuncId → List DV → Hp → aG) (n : Nat) (kk8 : DV → DV → DV → DV → Hp → aG) (x0 x1 x5 x6 : DV) (h0 : Hp) : aG :=
  bnd (aD .rem x0 (.i .i64 (Int.ofNat 30)) h0) fun v25 h25 =>
  bnd (aD .lss x6 v25 h25) fun v26 h26 =>
  aU v26 (
   bnd (aD .rem x6 (.i .i64 (Int.ofNat 3)) h26) fun v27 h27 =>
   bnd (aD .rem x6 (.i .i64 (Int.ofNat 8)) h27) fun v28 h28 =>
   bnd (lQ [x5, (.i .i64 (Int.ofNat 0)), v27, v28] h28) fun v29 h29 =>
   bnd (aD .add x6 (.i .i64 (Int.ofNat 1)) h29) fun v30 h30 =>
   kk8 x0 x1 x5 v30 h30) (
   jB rec n x1 x5 h26)
noncomputable def uO (rec : FuncId → List DV → Hp → aG) (n : Nat) (m : Nat) : DV → DV → DV → DV → Hp → aG :=
 Nat.rec (motive := fun _ => DV → DV → DV → DV → Hp → aG) (fun _ _ _ _ _ => none) (fun _ ih => xT rec n ih) m
noncomputable def dBu (rec : FuncId → List DV → Hp → aG) (n : Nat) : DV → DV → DV → DV → Hp → aG := uO rec n n
noncomputable def cOh (rec : FuncId → List DV → Hp → aG) (n : Nat) (x0 x1 x5 x6 : DV) (h0 : Hp) : aG :=
 dBu rec n x0 x1 x5 x6 h0
noncomputable def aXr (rec : FuncId → List DV → Hp → aG) (n : Nat) (x0 x1 x5 : DV) (h0 : Hp) : aG :=
 cOh rec n x0 x1 x5 (.i .i64 (Int.ofNat 0)) h0
noncomputable def bXa (rec : FuncId → List DV → Hp → aG) (n : Nat) (x0 x1 x5 : DV) (h0 : Hp) : aG :=
 bnd (aD .lss x0 (.i .i64 (Int.ofNat 0)) h0) fun v37 h37 =>
 aU v37 (
  bnd (aD .add x0 (.i .i64 (Int.ofNat 1)) h37) fun v38 h38 =>
  bnd (fL .neg v38 h38) fun v39 h39 =>
  aXr rec n v39 x1 x5 h39) (
  aXr rec n x0 x1 x5 h37)
noncomputable def bZa (rec : FuncId → List DV → Hp → aG) (n : Nat) (x0 x1 x5 : DV) (h0 : Hp) : aG :=
 bnd (yU (.pointer 135) true x5 .p0 h0) fun v43 h43 =>
 aU v43 (
  some ((.b false), h43)) (
  bXa rec n x0 x1 x5 h43)
noncomputable def bOb (rec : FuncId → List DV → Hp → aG) (n : Nat) (x0 x1 : DV) (h0 : Hp) : aG :=
 bnd (aEz [(.i .i64 (Int.ofNat 2000))] h0) fun v45 h45 =>
 bZa rec n x0 x1 v45 h45
noncomputable def s6 (rec : FuncId → List DV → Hp → aG) (n : Nat) (x0 x1 : DV) (h0 : Hp) : aG :=
 bOb rec n x0 x1 h0
noncomputable def D6 (rec : FuncId → List DV → Hp → aG) (n : Nat) (c : Code) (X : Nat → K) (k : K) : K := aM CF rec 49 n c X (aQ CF Tryz.f6) k
theorem cZo (rec : FuncId → List DV → Hp → aG) (n : Nat) : D6 rec n (cR (cR (cR (cR (cR (cR (cf Tryz.f6))))))) x0 (aQ CF Tryz.f6) = (fun (env : aS) (h : Hp) => bAx rec n (env 1) (env 5) h) :=
 (by kernel_rfl)
theorem cNy (rec : FuncId → List DV → Hp → aG) (n : Nat) : D6 rec n (cR (cR (cR (cR (cR (cf Tryz.f6)))))) x0 (aQ CF Tryz.f6) = D6 rec n (cL (cR (cR (cR (cR (cR (cf Tryz.f6))))))) x0 (fun (env : aS) (h : Hp) => bAx rec n (env 1) (env 5) h) :=
 congrArg (fun k => D6 rec n (cL (cR (cR (cR (cR (cR (cf Tryz.f6))))))) x0 k) (cZo rec n)
theorem cYd (rec : FuncId → List DV → Hp → aG) (n : Nat) : D6 rec n (cR (cR (cR (cR (cR (cf Tryz.f6)))))) x0 (aQ CF Tryz.f6) = (fun (env : aS) (h : Hp) => jB rec n (env 1) (env 5) h) :=
 (cNy rec n).trans
 ((by kernel_rfl))
theorem cRz (rec : FuncId → List DV → Hp → aG) (n : Nat) (kk8 : DV → DV → DV → DV → Hp → aG) : D6 rec n (cL (cL (cR (cL (cR (cR (cR (cR (cf Tryz.f6))))))))) (xs x0 0 (fun (env : aS) (h : Hp) => jB rec n (env 1) (env 5) h)) (fun (env : aS) (h : Hp) => kk8 (env 0) (env 1) (env 5) (env 6) h) = (fun (env : aS) (h : Hp) => xT rec n kk8 (env 0) (env 1) (env 5) (env 6) h) :=
 (by kernel_rfl)
theorem cPt (rec : FuncId → List DV → Hp → aG) (n : Nat) (m : Nat) : aL (fun kk => D6 rec n (cL (cL (cR (cL (cR (cR (cR (cR (cf Tryz.f6))))))))) (xs x0 0 (fun (env : aS) (h : Hp) => jB rec n (env 1) (env 5) h)) kk) m = (fun (env : aS) (h : Hp) => uO rec n m (env 0) (env 1) (env 5) (env 6) h) := by
 induction m with
 | zero => exact (by kernel_rfl : aL (fun kk => D6 rec n (cL (cL (cR (cL (cR (cR (cR (cR (cf Tryz.f6))))))))) (xs x0 0 (fun (env : aS) (h : Hp) => jB rec n (env 1) (env 5) h)) kk) 0 = (fun (env : aS) (h : Hp) => uO rec n 0 (env 0) (env 1) (env 5) (env 6) h))
 | succ m ih =>
  refine (by kernel_rfl : aL (fun kk => D6 rec n (cL (cL (cR (cL (cR (cR (cR (cR (cf Tryz.f6))))))))) (xs x0 0 (fun (env : aS) (h : Hp) => jB rec n (env 1) (env 5) h)) kk) (m + 1) = D6 rec n (cL (cL (cR (cL (cR (cR (cR (cR (cf Tryz.f6))))))))) (xs x0 0 (fun (env : aS) (h : Hp) => jB rec n (env 1) (env 5) h)) (aL (fun kk => D6 rec n (cL (cL (cR (cL (cR (cR (cR (cR (cf Tryz.f6))))))))) (xs x0 0 (fun (env : aS) (h : Hp) => jB rec n (env 1) (env 5) h)) kk) m)).trans ?_
  rw [ih]
  exact (cRz rec n (uO rec n m)).trans (by kernel_rfl)
theorem cWc (rec : FuncId → List DV → Hp → aG) (n : Nat) : D6 rec n (cL (cR (cL (cR (cR (cR (cR (cf Tryz.f6)))))))) (xs x0 0 (fun (env : aS) (h : Hp) => jB rec n (env 1) (env 5) h)) (fun (env : aS) (h : Hp) => jB rec n (env 1) (env 5) h) = (fun (env : aS) (h : Hp) => dBu rec n (env 0) (env 1) (env 5) (env 6) h) :=
 (by kernel_rfl : D6 rec n (cL (cR (cL (cR (cR (cR (cR (cf Tryz.f6)))))))) (xs x0 0 (fun (env : aS) (h : Hp) => jB rec n (env 1) (env 5) h)) (fun (env : aS) (h : Hp) => jB rec n (env 1) (env 5) h) = aL (fun kk => D6 rec n (cL (cL (cR (cL (cR (cR (cR (cR (cf Tryz.f6))))))))) (xs x0 0 (fun (env : aS) (h : Hp) => jB rec n (env 1) (env 5) h)) kk) n).trans ((cPt rec n n).trans (by kernel_rfl))
theorem dAj (rec : FuncId → List DV → Hp → aG) (n : Nat) : D6 rec n (cR (cL (cR (cR (cR (cR (cf Tryz.f6))))))) x0 (fun (env : aS) (h : Hp) => jB rec n (env 1) (env 5) h) = (fun (env : aS) (h : Hp) => cOh rec n (env 0) (env 1) (env 5) (env 6) h) :=
 (by kernel_rfl : D6 rec n (cR (cL (cR (cR (cR (cR (cf Tryz.f6))))))) x0 (fun (env : aS) (h : Hp) => jB rec n (env 1) (env 5) h) = D6 rec n (cL (cR (cL (cR (cR (cR (cR (cf Tryz.f6)))))))) (xs x0 0 (fun (env : aS) (h : Hp) => jB rec n (env 1) (env 5) h)) (fun (env : aS) (h : Hp) => jB rec n (env 1) (env 5) h)).trans
 ((cWc rec n).trans (by kernel_rfl))
theorem cJy (rec : FuncId → List DV → Hp → aG) (n : Nat) : D6 rec n (cR (cR (cR (cR (cf Tryz.f6))))) x0 (aQ CF Tryz.f6) = D6 rec n (cL (cR (cR (cR (cR (cf Tryz.f6)))))) x0 (fun (env : aS) (h : Hp) => jB rec n (env 1) (env 5) h) :=
 congrArg (fun k => D6 rec n (cL (cR (cR (cR (cR (cf Tryz.f6)))))) x0 k) (cYd rec n)
theorem cOg (rec : FuncId → List DV → Hp → aG) (n : Nat) : D6 rec n (cL (cR (cR (cR (cR (cf Tryz.f6)))))) x0 (fun (env : aS) (h : Hp) => jB rec n (env 1) (env 5) h) = D6 rec n (cL (cL (cR (cR (cR (cR (cf Tryz.f6))))))) x0 (fun (env : aS) (h : Hp) => cOh rec n (env 0) (env 1) (env 5) (env 6) h) :=
 congrArg (fun k => D6 rec n (cL (cL (cR (cR (cR (cR (cf Tryz.f6))))))) x0 k) (dAj rec n)
theorem dBs (rec : FuncId → List DV → Hp → aG) (n : Nat) : D6 rec n (cR (cR (cR (cR (cf Tryz.f6))))) x0 (aQ CF Tryz.f6) = (fun (env : aS) (h : Hp) => aXr rec n (env 0) (env 1) (env 5) h) :=
 (cJy rec n).trans
 ((cOg rec n).trans
 ((by kernel_rfl)))
theorem cPk (rec : FuncId → List DV → Hp → aG) (n : Nat) : D6 rec n (cR (cR (cR (cf Tryz.f6)))) x0 (aQ CF Tryz.f6) = D6 rec n (cL (cR (cR (cR (cf Tryz.f6))))) x0 (fun (env : aS) (h : Hp) => aXr rec n (env 0) (env 1) (env 5) h) :=
 congrArg (fun k => D6 rec n (cL (cR (cR (cR (cf Tryz.f6))))) x0 k) (dBs rec n)
theorem cZd (rec : FuncId → List DV → Hp → aG) (n : Nat) : D6 rec n (cR (cR (cR (cf Tryz.f6)))) x0 (aQ CF Tryz.f6) = (fun (env : aS) (h : Hp) => bXa rec n (env 0) (env 1) (env 5) h) :=
 (cPk rec n).trans
 ((by kernel_rfl))
theorem cPh (rec : FuncId → List DV → Hp → aG) (n : Nat) : D6 rec n (cR (cR (cf Tryz.f6))) x0 (aQ CF Tryz.f6) = D6 rec n (cL (cR (cR (cf Tryz.f6)))) x0 (fun (env : aS) (h : Hp) => bXa rec n (env 0) (env 1) (env 5) h) :=
 congrArg (fun k => D6 rec n (cL (cR (cR (cf Tryz.f6)))) x0 k) (cZd rec n)
theorem dAc (rec : FuncId → List DV → Hp → aG) (n : Nat) : D6 rec n (cR (cR (cf Tryz.f6))) x0 (aQ CF Tryz.f6) = (fun (env : aS) (h : Hp) => bZa rec n (env 0) (env 1) (env 5) h) :=
 (cPh rec n).trans
 ((by kernel_rfl))
theorem cQj (rec : FuncId → List DV → Hp → aG) (n : Nat) : D6 rec n (cR (cf Tryz.f6)) x0 (aQ CF Tryz.f6) = D6 rec n (cL (cR (cf Tryz.f6))) x0 (fun (env : aS) (h : Hp) => bZa rec n (env 0) (env 1) (env 5) h) :=
 congrArg (fun k => D6 rec n (cL (cR (cf Tryz.f6))) x0 k) (dAc rec n)
theorem cXj (rec : FuncId → List DV → Hp → aG) (n : Nat) : D6 rec n (cR (cf Tryz.f6)) x0 (aQ CF Tryz.f6) = (fun (env : aS) (h : Hp) => bOb rec n (env 0) (env 1) h) :=
 (cQj rec n).trans
 ((by kernel_rfl))
theorem dEp (rec : FuncId → List DV → Hp → aG) (n : Nat) : D6 rec n (cf Tryz.f6) x0 (aQ CF Tryz.f6) = D6 rec n (cL (cf Tryz.f6)) x0 (fun (env : aS) (h : Hp) => bOb rec n (env 0) (env 1) h) :=
 congrArg (fun k => D6 rec n (cL (cf Tryz.f6)) x0 k) (cXj rec n)
theorem s6m (rec : FuncId → List DV → Hp → aG) (n : Nat) : D6 rec n (cf Tryz.f6) x0 (aQ CF Tryz.f6) = (fun (env : aS) (h : Hp) => s6 rec n (env 0) (env 1) h) :=
 (dEp rec n).trans
 ((by kernel_rfl))
theorem dHr (rec : FuncId → List DV → Hp → aG) (n : Nat) (args : List DV) (h : Hp) : aF CF rec n 6 args h = s6 rec n (args.getD 0 aV) (args.getD 1 aV) h :=
 (by kernel_rfl : aF CF rec n 6 args h = D6 rec n (cf Tryz.f6) x0 (aQ CF Tryz.f6) (aJ args) h).trans ((congrFun (congrFun (s6m rec n) (aJ args)) h).trans (by kernel_rfl))
noncomputable def gF (rec : FuncId → List DV → Hp → aG) (n : Nat) (x6 : DV) (h0 : Hp) : aG :=
 some (.t [x6, (.i .i64 (Int.ofNat 0))], h0)
noncomputable def bDe (rec : FuncId → List DV → Hp → aG) (n : Nat) (kk9 : DV → DV → DV → DV → DV → Hp → aG) (x6 x7 x56 x57 x58 : DV) (h0 : Hp) : aG :=
  bnd (aD .lss x58 x57 h0) fun v1 h1 =>
  aU v1 (
   bnd (aI 1 x56 x58 h1) fun v2 h2 =>
   bnd (aA v2 h2) fun v3 h3 =>
   bnd (rec 84 [x7, v3] h3) fun v4 h4 =>
   bnd (fL .not v4 h4) fun v5 h5 =>
   aU v5 (
    some (.t [.p0, (.i .i64 (Int.ofNat 7))], h5)) (
    bnd (aD .add x58 (.i .i64 (Int.ofNat 1)) h5) fun v6 h6 =>
    kk9 x6 x7 x56 x57 v6 h6)) (
   gF rec n x6 h1)
noncomputable def yL (rec : FuncId → List DV → Hp → aG) (n : Nat) (m : Nat) : DV → DV → DV → DV → DV → Hp → aG :=
 Nat.rec (motive := fun _ => DV → DV → DV → DV → DV → Hp → aG) (fun _ _ _ _ _ _ => none) (fun _ ih => bDe rec n ih) m
noncomputable def cJk (rec : FuncId → List DV → Hp → aG) (n : Nat) : DV → DV → DV → DV → DV → Hp → aG := yL rec n n
noncomputable def bKs (rec : FuncId → List DV → Hp → aG) (n : Nat) (x6 x7 x56 x57 x58 : DV) (h0 : Hp) : aG :=
 cJk rec n x6 x7 x56 x57 x58 h0
noncomputable def gG (rec : FuncId → List DV → Hp → aG) (n : Nat) (x2 x6 x7 : DV) (h0 : Hp) : aG :=
 bnd (aA x2 h0) fun v13 h13 =>
 bnd (rec 83 [v13] h13) fun v14 h14 =>
 bnd (bQ v14 h14) fun v15 h15 =>
 bKs rec n x6 x7 v14 v15 (.i .i64 (Int.ofNat 0)) h15
noncomputable def aRz (rec : FuncId → List DV → Hp → aG) (n : Nat) (kk11 : DV → DV → DV → DV → Hp → aG) (x2 x6 x7 x46 : DV) (h0 : Hp) : aG :=
  bnd (none) fun v19 h19 =>
  bnd (aC 0 v19 h19) fun v20 h20 =>
  aU v20 (
   bnd (none) fun v21 h21 =>
   bnd (aC 0 v21 h21) fun v22 h22 =>
   bnd (rec 82 [x7, v22] h22) fun v23 h23 =>
   bnd (fL .not v23 h23) fun v24 h24 =>
   aU v24 (
    some (.t [.p0, (.i .i64 (Int.ofNat 7))], h24)) (
    kk11 x2 x6 x7 x46 h24)) (
   gG rec n x2 x6 x7 h20)
noncomputable def sZ (rec : FuncId → List DV → Hp → aG) (n : Nat) (m : Nat) : DV → DV → DV → DV → Hp → aG :=
 Nat.rec (motive := fun _ => DV → DV → DV → DV → Hp → aG) (fun _ _ _ _ _ => none) (fun _ ih => aRz rec n ih) m
noncomputable def bMu (rec : FuncId → List DV → Hp → aG) (n : Nat) : DV → DV → DV → DV → Hp → aG := sZ rec n n
noncomputable def aMf (rec : FuncId → List DV → Hp → aG) (n : Nat) (x2 x6 x7 x46 : DV) (h0 : Hp) : aG :=
 bMu rec n x2 x6 x7 x46 h0
noncomputable def bEr (rec : FuncId → List DV → Hp → aG) (n : Nat) (x2 x6 x7 : DV) (h0 : Hp) : aG :=
 bnd (aP x7 h0) fun v31 h31 =>
 bnd (aB 1 v31 h31) fun v32 h32 =>
 bnd (aA v32 h32) fun v33 h33 =>
 bnd (none) fun v34 h34 =>
 aMf rec n x2 x6 x7 v34 h34
noncomputable def qS (rec : FuncId → List DV → Hp → aG) (n : Nat) (x2 x6 x7 : DV) (h0 : Hp) : aG :=
 bnd (rec 80 [x7] h0) fun v39 h39 =>
 bnd (fL .not v39 h39) fun v40 h40 =>
 bnd (gD v40 false (some (x7, h40)) h40) fun v41 h41 =>
 bnd (gD v40 false (rec 81 [v41] h41) h41) fun v42 h42 =>
 bnd (gD v40 false (fL .not v42 h42) h42) fun v43 h43 =>
 bnd (aO v40 (.b true) v43 h43) fun v44 h44 =>
 aU v44 (
  some (.t [.p0, (.i .i64 (Int.ofNat 7))], h44)) (
  bEr rec n x2 x6 x7 h44)
noncomputable def oZ (rec : FuncId → List DV → Hp → aG) (n : Nat) (x2 x6 : DV) (h0 : Hp) : aG :=
 bnd (cQ h0) fun v51 h51 =>
 bnd (aX [.p0, .m0] [(0, 1, x6), (1, 1, v51)] h51) fun v52 h52 =>
 bnd (bS v52 h52) fun v53 h53 =>
 qS rec n x2 x6 v53 h53
noncomputable def aIt (rec : FuncId → List DV → Hp → aG) (n : Nat) (x1 x2 : DV) (h0 : Hp) : aG :=
 bnd (aA x2 (resv 3 h0)) fun v63 h63 =>
 bnd (rec 79 [x1] h63) fun v64 h64 =>
 cnd (bD (aA x2 h64) v63 && true) (
 bnd (cT (aY 0 h0.next) h64) fun v65 h65 =>
 bnd (cT (aY 1 h0.next) h65) fun v66 h66 =>
 bnd (aX [.p0, .l0, .m0, .m0] [(0, 1, v63), (1, 1, v64), (2, 1, v65), (3, 1, v66)] h66) fun v67 h67 =>
 bnd (lA (aY 2 h0.next) v67 h67) fun v68 h68 =>
 oZ rec n x2 v68 h68)
noncomputable def wB (rec : FuncId → List DV → Hp → aG) (n : Nat) (x1 x2 : DV) (h0 : Hp) : aG :=
 bnd (aA x2 h0) fun v87 h87 =>
 bnd (yU (.pointer 135) true v87 .p0 h87) fun v88 h88 =>
 bnd (gD v88 false (some (x1, h88)) h88) fun v89 h89 =>
 bnd (gD v88 false (bQ v89 h89) h89) fun v90 h90 =>
 bnd (gD v88 false (aD .neq v90 (.i .i64 (Int.ofNat 18)) h90) h90) fun v91 h91 =>
 bnd (aO v88 (.b true) v91 h91) fun v92 h92 =>
 bnd (gD v92 false (some (x1, h92)) h92) fun v93 h93 =>
 bnd (gD v92 false (some ((.f 78 [] [x2]), h93)) h93) fun v94 h94 =>
 bnd (gD v92 false (rec 77 [v93, v94] h94) h94) fun v95 h95 =>
 bnd (aO v92 (.b true) v95 h95) fun v96 h96 =>
 aU v96 (
  some (.t [.p0, (.i .i64 (Int.ofNat 7))], h96)) (
  aIt rec n x1 x2 h96)
noncomputable def s32 (rec : FuncId → List DV → Hp → aG) (n : Nat) (x0 x1 : DV) (h0 : Hp) : aG :=
 bnd (bS x0 h0) fun v107 h107 =>
 wB rec n x1 v107 h107
noncomputable def D32 (rec : FuncId → List DV → Hp → aG) (n : Nat) (c : Code) (X : Nat → K) (k : K) : K := aM CF rec 68 n c X (aQ CF Tryz.f32) k
theorem cTm (rec : FuncId → List DV → Hp → aG) (n : Nat) : D32 rec n (cR (cR (cR (cR (cR (cR (cR (cf Tryz.f32)))))))) x0 (aQ CF Tryz.f32) = (fun (env : aS) (h : Hp) => gF rec n (env 6) h) :=
 (by kernel_rfl)
theorem cGr (rec : FuncId → List DV → Hp → aG) (n : Nat) (kk9 : DV → DV → DV → DV → DV → Hp → aG) : D32 rec n (cL (cL (cR (cL (cR (cR (cR (cR (cR (cR (cf Tryz.f32))))))))))) (xs x0 2 (fun (env : aS) (h : Hp) => gF rec n (env 6) h)) (fun (env : aS) (h : Hp) => kk9 (env 6) (env 7) (env 56) (env 57) (env 58) h) = (fun (env : aS) (h : Hp) => bDe rec n kk9 (env 6) (env 7) (env 56) (env 57) (env 58) h) :=
 (by kernel_rfl)
theorem bZk (rec : FuncId → List DV → Hp → aG) (n : Nat) (m : Nat) : aL (fun kk => D32 rec n (cL (cL (cR (cL (cR (cR (cR (cR (cR (cR (cf Tryz.f32))))))))))) (xs x0 2 (fun (env : aS) (h : Hp) => gF rec n (env 6) h)) kk) m = (fun (env : aS) (h : Hp) => yL rec n m (env 6) (env 7) (env 56) (env 57) (env 58) h) := by
 induction m with
 | zero => exact (by kernel_rfl : aL (fun kk => D32 rec n (cL (cL (cR (cL (cR (cR (cR (cR (cR (cR (cf Tryz.f32))))))))))) (xs x0 2 (fun (env : aS) (h : Hp) => gF rec n (env 6) h)) kk) 0 = (fun (env : aS) (h : Hp) => yL rec n 0 (env 6) (env 7) (env 56) (env 57) (env 58) h))
 | succ m ih =>
  refine (by kernel_rfl : aL (fun kk => D32 rec n (cL (cL (cR (cL (cR (cR (cR (cR (cR (cR (cf Tryz.f32))))))))))) (xs x0 2 (fun (env : aS) (h : Hp) => gF rec n (env 6) h)) kk) (m + 1) = D32 rec n (cL (cL (cR (cL (cR (cR (cR (cR (cR (cR (cf Tryz.f32))))))))))) (xs x0 2 (fun (env : aS) (h : Hp) => gF rec n (env 6) h)) (aL (fun kk => D32 rec n (cL (cL (cR (cL (cR (cR (cR (cR (cR (cR (cf Tryz.f32))))))))))) (xs x0 2 (fun (env : aS) (h : Hp) => gF rec n (env 6) h)) kk) m)).trans ?_
  rw [ih]
  exact (cGr rec n (yL rec n m)).trans (by kernel_rfl)
theorem cKg (rec : FuncId → List DV → Hp → aG) (n : Nat) : D32 rec n (cL (cR (cL (cR (cR (cR (cR (cR (cR (cf Tryz.f32)))))))))) (xs x0 2 (fun (env : aS) (h : Hp) => gF rec n (env 6) h)) (fun (env : aS) (h : Hp) => gF rec n (env 6) h) = (fun (env : aS) (h : Hp) => cJk rec n (env 6) (env 7) (env 56) (env 57) (env 58) h) :=
 (by kernel_rfl : D32 rec n (cL (cR (cL (cR (cR (cR (cR (cR (cR (cf Tryz.f32)))))))))) (xs x0 2 (fun (env : aS) (h : Hp) => gF rec n (env 6) h)) (fun (env : aS) (h : Hp) => gF rec n (env 6) h) = aL (fun kk => D32 rec n (cL (cL (cR (cL (cR (cR (cR (cR (cR (cR (cf Tryz.f32))))))))))) (xs x0 2 (fun (env : aS) (h : Hp) => gF rec n (env 6) h)) kk) n).trans ((bZk rec n n).trans (by kernel_rfl))
theorem cUt (rec : FuncId → List DV → Hp → aG) (n : Nat) : D32 rec n (cR (cL (cR (cR (cR (cR (cR (cR (cf Tryz.f32))))))))) x0 (fun (env : aS) (h : Hp) => gF rec n (env 6) h) = (fun (env : aS) (h : Hp) => bKs rec n (env 6) (env 7) (env 56) (env 57) (env 58) h) :=
 (by kernel_rfl : D32 rec n (cR (cL (cR (cR (cR (cR (cR (cR (cf Tryz.f32))))))))) x0 (fun (env : aS) (h : Hp) => gF rec n (env 6) h) = D32 rec n (cL (cR (cL (cR (cR (cR (cR (cR (cR (cf Tryz.f32)))))))))) (xs x0 2 (fun (env : aS) (h : Hp) => gF rec n (env 6) h)) (fun (env : aS) (h : Hp) => gF rec n (env 6) h)).trans
 ((cKg rec n).trans (by kernel_rfl))
theorem cHe (rec : FuncId → List DV → Hp → aG) (n : Nat) : D32 rec n (cR (cR (cR (cR (cR (cR (cf Tryz.f32))))))) x0 (aQ CF Tryz.f32) = D32 rec n (cL (cR (cR (cR (cR (cR (cR (cf Tryz.f32)))))))) x0 (fun (env : aS) (h : Hp) => gF rec n (env 6) h) :=
 congrArg (fun k => D32 rec n (cL (cR (cR (cR (cR (cR (cR (cf Tryz.f32)))))))) x0 k) (cTm rec n)
theorem bWi (rec : FuncId → List DV → Hp → aG) (n : Nat) : D32 rec n (cL (cR (cR (cR (cR (cR (cR (cf Tryz.f32)))))))) x0 (fun (env : aS) (h : Hp) => gF rec n (env 6) h) = D32 rec n (cL (cL (cR (cR (cR (cR (cR (cR (cf Tryz.f32))))))))) x0 (fun (env : aS) (h : Hp) => bKs rec n (env 6) (env 7) (env 56) (env 57) (env 58) h) :=
 congrArg (fun k => D32 rec n (cL (cL (cR (cR (cR (cR (cR (cR (cf Tryz.f32))))))))) x0 k) (cUt rec n)
theorem cTl (rec : FuncId → List DV → Hp → aG) (n : Nat) : D32 rec n (cR (cR (cR (cR (cR (cR (cf Tryz.f32))))))) x0 (aQ CF Tryz.f32) = (fun (env : aS) (h : Hp) => gG rec n (env 2) (env 6) (env 7) h) :=
 (cHe rec n).trans
 ((bWi rec n).trans
 ((by kernel_rfl)))
theorem bMl (rec : FuncId → List DV → Hp → aG) (n : Nat) (kk11 : DV → DV → DV → DV → Hp → aG) : D32 rec n (cL (cL (cR (cL (cR (cR (cR (cR (cR (cf Tryz.f32)))))))))) (xs x0 0 (fun (env : aS) (h : Hp) => gG rec n (env 2) (env 6) (env 7) h)) (fun (env : aS) (h : Hp) => kk11 (env 2) (env 6) (env 7) (env 46) h) = (fun (env : aS) (h : Hp) => aRz rec n kk11 (env 2) (env 6) (env 7) (env 46) h) :=
 (by kernel_rfl)
theorem bSx (rec : FuncId → List DV → Hp → aG) (n : Nat) (m : Nat) : aL (fun kk => D32 rec n (cL (cL (cR (cL (cR (cR (cR (cR (cR (cf Tryz.f32)))))))))) (xs x0 0 (fun (env : aS) (h : Hp) => gG rec n (env 2) (env 6) (env 7) h)) kk) m = (fun (env : aS) (h : Hp) => sZ rec n m (env 2) (env 6) (env 7) (env 46) h) := by
 induction m with
 | zero => exact (by kernel_rfl : aL (fun kk => D32 rec n (cL (cL (cR (cL (cR (cR (cR (cR (cR (cf Tryz.f32)))))))))) (xs x0 0 (fun (env : aS) (h : Hp) => gG rec n (env 2) (env 6) (env 7) h)) kk) 0 = (fun (env : aS) (h : Hp) => sZ rec n 0 (env 2) (env 6) (env 7) (env 46) h))
 | succ m ih =>
  refine (by kernel_rfl : aL (fun kk => D32 rec n (cL (cL (cR (cL (cR (cR (cR (cR (cR (cf Tryz.f32)))))))))) (xs x0 0 (fun (env : aS) (h : Hp) => gG rec n (env 2) (env 6) (env 7) h)) kk) (m + 1) = D32 rec n (cL (cL (cR (cL (cR (cR (cR (cR (cR (cf Tryz.f32)))))))))) (xs x0 0 (fun (env : aS) (h : Hp) => gG rec n (env 2) (env 6) (env 7) h)) (aL (fun kk => D32 rec n (cL (cL (cR (cL (cR (cR (cR (cR (cR (cf Tryz.f32)))))))))) (xs x0 0 (fun (env : aS) (h : Hp) => gG rec n (env 2) (env 6) (env 7) h)) kk) m)).trans ?_
  rw [ih]
  exact (bMl rec n (sZ rec n m)).trans (by kernel_rfl)
theorem bXh (rec : FuncId → List DV → Hp → aG) (n : Nat) : D32 rec n (cL (cR (cL (cR (cR (cR (cR (cR (cf Tryz.f32))))))))) (xs x0 0 (fun (env : aS) (h : Hp) => gG rec n (env 2) (env 6) (env 7) h)) (fun (env : aS) (h : Hp) => gG rec n (env 2) (env 6) (env 7) h) = (fun (env : aS) (h : Hp) => bMu rec n (env 2) (env 6) (env 7) (env 46) h) :=
 (by kernel_rfl : D32 rec n (cL (cR (cL (cR (cR (cR (cR (cR (cf Tryz.f32))))))))) (xs x0 0 (fun (env : aS) (h : Hp) => gG rec n (env 2) (env 6) (env 7) h)) (fun (env : aS) (h : Hp) => gG rec n (env 2) (env 6) (env 7) h) = aL (fun kk => D32 rec n (cL (cL (cR (cL (cR (cR (cR (cR (cR (cf Tryz.f32)))))))))) (xs x0 0 (fun (env : aS) (h : Hp) => gG rec n (env 2) (env 6) (env 7) h)) kk) n).trans ((bSx rec n n).trans (by kernel_rfl))
theorem cAl (rec : FuncId → List DV → Hp → aG) (n : Nat) : D32 rec n (cR (cL (cR (cR (cR (cR (cR (cf Tryz.f32)))))))) x0 (fun (env : aS) (h : Hp) => gG rec n (env 2) (env 6) (env 7) h) = (fun (env : aS) (h : Hp) => aMf rec n (env 2) (env 6) (env 7) (env 46) h) :=
 (by kernel_rfl : D32 rec n (cR (cL (cR (cR (cR (cR (cR (cf Tryz.f32)))))))) x0 (fun (env : aS) (h : Hp) => gG rec n (env 2) (env 6) (env 7) h) = D32 rec n (cL (cR (cL (cR (cR (cR (cR (cR (cf Tryz.f32))))))))) (xs x0 0 (fun (env : aS) (h : Hp) => gG rec n (env 2) (env 6) (env 7) h)) (fun (env : aS) (h : Hp) => gG rec n (env 2) (env 6) (env 7) h)).trans
 ((bXh rec n).trans (by kernel_rfl))
theorem cAb (rec : FuncId → List DV → Hp → aG) (n : Nat) : D32 rec n (cR (cR (cR (cR (cR (cf Tryz.f32)))))) x0 (aQ CF Tryz.f32) = D32 rec n (cL (cR (cR (cR (cR (cR (cf Tryz.f32))))))) x0 (fun (env : aS) (h : Hp) => gG rec n (env 2) (env 6) (env 7) h) :=
 congrArg (fun k => D32 rec n (cL (cR (cR (cR (cR (cR (cf Tryz.f32))))))) x0 k) (cTl rec n)
theorem cCw (rec : FuncId → List DV → Hp → aG) (n : Nat) : D32 rec n (cL (cR (cR (cR (cR (cR (cf Tryz.f32))))))) x0 (fun (env : aS) (h : Hp) => gG rec n (env 2) (env 6) (env 7) h) = D32 rec n (cL (cL (cR (cR (cR (cR (cR (cf Tryz.f32)))))))) x0 (fun (env : aS) (h : Hp) => aMf rec n (env 2) (env 6) (env 7) (env 46) h) :=
 congrArg (fun k => D32 rec n (cL (cL (cR (cR (cR (cR (cR (cf Tryz.f32)))))))) x0 k) (cAl rec n)
theorem cQw (rec : FuncId → List DV → Hp → aG) (n : Nat) : D32 rec n (cR (cR (cR (cR (cR (cf Tryz.f32)))))) x0 (aQ CF Tryz.f32) = (fun (env : aS) (h : Hp) => bEr rec n (env 2) (env 6) (env 7) h) :=
 (cAb rec n).trans
 ((cCw rec n).trans
 ((by kernel_rfl)))
theorem bUu (rec : FuncId → List DV → Hp → aG) (n : Nat) : D32 rec n (cR (cR (cR (cR (cf Tryz.f32))))) x0 (aQ CF Tryz.f32) = D32 rec n (cL (cR (cR (cR (cR (cf Tryz.f32)))))) x0 (fun (env : aS) (h : Hp) => bEr rec n (env 2) (env 6) (env 7) h) :=
 congrArg (fun k => D32 rec n (cL (cR (cR (cR (cR (cf Tryz.f32)))))) x0 k) (cQw rec n)
theorem cTy (rec : FuncId → List DV → Hp → aG) (n : Nat) : D32 rec n (cR (cR (cR (cR (cf Tryz.f32))))) x0 (aQ CF Tryz.f32) = (fun (env : aS) (h : Hp) => qS rec n (env 2) (env 6) (env 7) h) :=
 (bUu rec n).trans
 ((by kernel_rfl))
theorem bZx (rec : FuncId → List DV → Hp → aG) (n : Nat) : D32 rec n (cR (cR (cR (cf Tryz.f32)))) x0 (aQ CF Tryz.f32) = D32 rec n (cL (cR (cR (cR (cf Tryz.f32))))) x0 (fun (env : aS) (h : Hp) => qS rec n (env 2) (env 6) (env 7) h) :=
 congrArg (fun k => D32 rec n (cL (cR (cR (cR (cf Tryz.f32))))) x0 k) (cTy rec n)
theorem bZp (rec : FuncId → List DV → Hp → aG) (n : Nat) (q0 : DV → DV → DV → Hp → aG) : D32 rec n (cL (cR (cR (cR (cf Tryz.f32))))) x0 (fun (env : aS) (h : Hp) => q0 (env 2) (env 6) (env 7) h) = fun (env : aS) (h : Hp) =>
  bnd (cQ h) fun v57 h57 =>
  bnd (aX [.p0, .m0] [(0, 1, (env 6)), (1, 1, v57)] h57) fun v58 h58 =>
  bnd (bS v58 h58) fun v59 h59 =>
  q0 (env 2) (env 6) v59 h59 := by kernel_rfl
theorem bHp (rec : FuncId → List DV → Hp → aG) (n : Nat) : (fun (env : aS) (h : Hp) =>
  bnd (cQ h) fun v60 h60 =>
  bnd (aX [.p0, .m0] [(0, 1, (env 6)), (1, 1, v60)] h60) fun v61 h61 =>
  bnd (bS v61 h61) fun v62 h62 =>
  qS rec n (env 2) (env 6) v62 h62) = (fun (env : aS) (h : Hp) => oZ rec n (env 2) (env 6) h) := by kernel_rfl
theorem cOl (rec : FuncId → List DV → Hp → aG) (n : Nat) : D32 rec n (cR (cR (cR (cf Tryz.f32)))) x0 (aQ CF Tryz.f32) = (fun (env : aS) (h : Hp) => oZ rec n (env 2) (env 6) h) :=
 (bZx rec n).trans
 ((bZp rec n (qS rec n)).trans (bHp rec n))
theorem bYq (rec : FuncId → List DV → Hp → aG) (n : Nat) : D32 rec n (cR (cR (cf Tryz.f32))) x0 (aQ CF Tryz.f32) = D32 rec n (cL (cR (cR (cf Tryz.f32)))) x0 (fun (env : aS) (h : Hp) => oZ rec n (env 2) (env 6) h) :=
 congrArg (fun k => D32 rec n (cL (cR (cR (cf Tryz.f32)))) x0 k) (cOl rec n)
theorem bWd (rec : FuncId → List DV → Hp → aG) (n : Nat) (q0 : DV → DV → Hp → aG) : D32 rec n (cL (cR (cR (cf Tryz.f32)))) x0 (fun (env : aS) (h : Hp) => q0 (env 2) (env 6) h) = fun (env : aS) (h : Hp) =>
  bnd (aA (env 2) (resv 3 h)) fun v75 h75 =>
  bnd (rec 79 [(env 1)] h75) fun v76 h76 =>
  cnd (bD (aA (env 2) h76) v75 && true) (
  bnd (cT (aY 0 h.next) h76) fun v77 h77 =>
  bnd (cT (aY 1 h.next) h77) fun v78 h78 =>
  bnd (aX [.p0, .l0, .m0, .m0] [(0, 1, v75), (1, 1, v76), (2, 1, v77), (3, 1, v78)] h78) fun v79 h79 =>
  bnd (lA (aY 2 h.next) v79 h79) fun v80 h80 =>
  q0 (env 2) v80 h80) := by kernel_rfl
theorem bPu (rec : FuncId → List DV → Hp → aG) (n : Nat) : (fun (env : aS) (h : Hp) =>
  bnd (aA (env 2) (resv 3 h)) fun v81 h81 =>
  bnd (rec 79 [(env 1)] h81) fun v82 h82 =>
  cnd (bD (aA (env 2) h82) v81 && true) (
  bnd (cT (aY 0 h.next) h82) fun v83 h83 =>
  bnd (cT (aY 1 h.next) h83) fun v84 h84 =>
  bnd (aX [.p0, .l0, .m0, .m0] [(0, 1, v81), (1, 1, v82), (2, 1, v83), (3, 1, v84)] h84) fun v85 h85 =>
  bnd (lA (aY 2 h.next) v85 h85) fun v86 h86 =>
  oZ rec n (env 2) v86 h86)) = (fun (env : aS) (h : Hp) => aIt rec n (env 1) (env 2) h) := by kernel_rfl
theorem cOu (rec : FuncId → List DV → Hp → aG) (n : Nat) : D32 rec n (cR (cR (cf Tryz.f32))) x0 (aQ CF Tryz.f32) = (fun (env : aS) (h : Hp) => aIt rec n (env 1) (env 2) h) :=
 (bYq rec n).trans
 ((bWd rec n (oZ rec n)).trans (bPu rec n))
theorem bPo (rec : FuncId → List DV → Hp → aG) (n : Nat) : D32 rec n (cR (cf Tryz.f32)) x0 (aQ CF Tryz.f32) = D32 rec n (cL (cR (cf Tryz.f32))) x0 (fun (env : aS) (h : Hp) => aIt rec n (env 1) (env 2) h) :=
 congrArg (fun k => D32 rec n (cL (cR (cf Tryz.f32))) x0 k) (cOu rec n)
theorem cKs (rec : FuncId → List DV → Hp → aG) (n : Nat) : D32 rec n (cR (cf Tryz.f32)) x0 (aQ CF Tryz.f32) = (fun (env : aS) (h : Hp) => wB rec n (env 1) (env 2) h) :=
 (bPo rec n).trans
 ((by kernel_rfl))
theorem cOm (rec : FuncId → List DV → Hp → aG) (n : Nat) : D32 rec n (cf Tryz.f32) x0 (aQ CF Tryz.f32) = D32 rec n (cL (cf Tryz.f32)) x0 (fun (env : aS) (h : Hp) => wB rec n (env 1) (env 2) h) :=
 congrArg (fun k => D32 rec n (cL (cf Tryz.f32)) x0 k) (cKs rec n)
theorem cRr (rec : FuncId → List DV → Hp → aG) (n : Nat) (q0 : DV → DV → Hp → aG) : D32 rec n (cL (cf Tryz.f32)) x0 (fun (env : aS) (h : Hp) => q0 (env 1) (env 2) h) = fun (env : aS) (h : Hp) =>
  bnd (bS (env 0) h) fun v109 h109 =>
  q0 (env 1) v109 h109 := by kernel_rfl
theorem cFn (rec : FuncId → List DV → Hp → aG) (n : Nat) : (fun (env : aS) (h : Hp) =>
  bnd (bS (env 0) h) fun v110 h110 =>
  wB rec n (env 1) v110 h110) = (fun (env : aS) (h : Hp) => s32 rec n (env 0) (env 1) h) := by kernel_rfl
theorem dGa (rec : FuncId → List DV → Hp → aG) (n : Nat) : D32 rec n (cf Tryz.f32) x0 (aQ CF Tryz.f32) = (fun (env : aS) (h : Hp) => s32 rec n (env 0) (env 1) h) :=
 (cOm rec n).trans
 ((cRr rec n (wB rec n)).trans (cFn rec n))
theorem cJh (rec : FuncId → List DV → Hp → aG) (n : Nat) (args : List DV) (h : Hp) : aF CF rec n 32 args h = s32 rec n (args.getD 0 aV) (args.getD 1 aV) h :=
 (by kernel_rfl : aF CF rec n 32 args h = D32 rec n (cf Tryz.f32) x0 (aQ CF Tryz.f32) (aJ args) h).trans ((congrFun (congrFun (dGa rec n) (aJ args)) h).trans (by kernel_rfl))
end Go.Dd

namespace Go.Dd
open Go.Proofs
structure Zr (M : MemV) : Prop where
 n : M.n = 2000
 le : M.fin ≤ 2000
 lo : 3 ≤ M.fin
 md : M.made < 1000
 z0 : ∀ a, a < 3 → M.t.get a = 0
 ob : ∀ a, M.pl.get a ≠ 0 → 3 ≤ a ∧ ∃ hd : Nat, M.t.get a = .ofNat hd ∧ hd < 1000000000000 ∧ a + 3 + hd / 4 ≤ M.fin ∧ M.t.get (a + 1) = 0 ∧ ∀ j, j < hd / 4 → M.t.get (a + 3 + j) = 0
theorem cOj (wb pb : Pos) : Zr ⟨wb, 2000, 3, 0, pb, .e, .e⟩ where
 n := rfl
 le := by show 3 ≤ 2000; decide
 lo := by show 3 ≤ 3; decide
 md := by show 0 < 1000; decide
 z0 := fun a _ => WT.get_e a
 ob := fun a h => absurd (WT.get_e a) h
theorem cFz {m : Pos} {M : MemV} {h : Hp} (Z : Zr M) (hm : gQ m h = some M) {f c : Nat} (hf : f ≤ 2) (hc : c ≤ 256) (hr : M.fin + c + 3 ≤ 2000) (hmd : M.made + 1 < 1000) :
  ∃ h' M', lQ [.p m 0, .i .i64 (.ofNat 0), .i .i64 (.ofNat f), .i .i64 (.ofNat c)] h = some (.t [.i .i64 (.ofNat (M.fin * 2)), .i .i64 (.ofNat 0)], h') ∧ gQ m h' = some M' ∧ Zr M' ∧ M'.fin = M.fin + (c + 3) ∧ M'.made = M.made + 1 ∧
   M'.wb = M.wb ∧ M'.pb = M.pb ∧ h'.next = h.next ∧ ∀ p, p ≠ m → p ≠ M.wb → p ≠ M.pb → h'.bl.get p = h.bl.get p := by
 obtain ⟨q1, q2, q3, q4, q5, q6⟩ := iM hm
 have d1 : M.wb ≠ m := fun e => by rw [e, q1] at q2; cases q2
 have d2 : M.pb ≠ m := fun e => by rw [e, q1] at q3; cases q3
 have d3 : M.pb ≠ M.wb := fun e => by rw [e, q2] at q3; cases q3
 have z1 := Z.n
 have z2 := Z.lo
 have b1 : (Nat.ble f 2 && Nat.ble c 256) = true := by simp only [vR, hf, hc, decide_true, Bool.and_self]
 have b2 : Nat.blt (Nat.sub M.n M.fin) (Nat.add c 3) = false := by
  rw [lH]
  exact decide_eq_false (by show ¬ M.n - M.fin < c + 3; omega)
 have b3 : (Nat.ble 3 M.fin && Nat.ble M.fin 131072) = true := by
  simp only [vR]
  rw [decide_eq_true z2, decide_eq_true (show M.fin ≤ 131072 by omega)]
  rfl
 refine ⟨⟨h.next, Tr.set (.row .ex [.l M.wb 0 M.n M.n, .i .i64 (.ofNat (Nat.add M.fin (Nat.add c 3))), .i .i64 (.ofNat (Nat.succ M.made)), .m M.pb]) m (Tr.set (.mi (M.pl.set M.fin (.ofNat 1))) M.pb (Tr.set (.big M.n (gA (((M.t.set M.fin (.ofNat (Nat.add (Nat.mul c 4) f))).set (Nat.add M.fin 1) (.ofNat 0)).set (Nat.add M.fin 2) (.ofNat (Nat.succ M.made))) c (Nat.add M.fin 3))) M.wb h.bl))⟩, ⟨M.wb, M.n, M.fin + (c + 3), M.made + 1, M.pb, gA (((M.t.set M.fin (.ofNat (Nat.add (Nat.mul c 4) f))).set (Nat.add M.fin 1) (.ofNat 0)).set (Nat.add M.fin 2) (.ofNat (Nat.succ M.made))) c (Nat.add M.fin 3), M.pl.set M.fin (.ofNat 1)⟩, ?_, ?_, ?_, rfl, rfl, rfl, rfl, ?_, ?_⟩
 rotate_left
 ·refine oW (M := ⟨M.wb, M.n, M.fin + (c + 3), M.made + 1, M.pb, gA (((M.t.set M.fin (.ofNat (Nat.add (Nat.mul c 4) f))).set (Nat.add M.fin 1) (.ofNat 0)).set (Nat.add M.fin 2) (.ofNat (Nat.succ M.made))) c (Nat.add M.fin 3), M.pl.set M.fin (.ofNat 1)⟩) (dIa _ _ _) ((dHz _ _ _ _ d1).trans ((dHz _ _ _ _ d3.symm).trans (dIa _ _ _))) ((dHz _ _ _ _ d2).trans (dIa _ _ _)) (by show M.n < 1000000; omega) (by show M.fin + (c + 3) ≤ M.n; omega) (by show M.made + 1 < 1000000; omega)
 ·have t1 : ∀ j, (gA (((M.t.set M.fin (.ofNat (Nat.add (Nat.mul c 4) f))).set (Nat.add M.fin 1) (.ofNat 0)).set (Nat.add M.fin 2) (.ofNat (Nat.succ M.made))) c (Nat.add M.fin 3)).get j = if M.fin + 3 ≤ j ∧ j < M.fin + 3 + c then 0 else if j = M.fin + 2 then .ofNat (M.made + 1) else if j = M.fin + 1 then .ofNat 0 else if j = M.fin then .ofNat (c * 4 + f) else M.t.get j := fun j => by
   show (gA _ c (M.fin + 3)).get j = _
   rw [pG _ _ _ _ (by omega), WT.get_set _ _ _ _ (show M.fin + 2 < 16000000 by omega), WT.get_set _ _ _ _ (show M.fin + 1 < 16000000 by omega), WT.get_set _ _ _ _ (by omega)]
   rfl
  refine ⟨z1, by show M.fin + (c + 3) ≤ 2000; omega, by show 3 ≤ M.fin + (c + 3); omega, hmd, fun a ha => ?_, fun a ha => ?_⟩
  ·show (gA _ c _).get a = 0
   rw [t1, if_neg (by omega), if_neg (by omega), if_neg (by omega), if_neg (by omega)]
   exact Z.z0 a ha
  change (M.pl.set M.fin (.ofNat 1)).get a ≠ 0 at ha
  show 3 ≤ a ∧ ∃ hd : Nat, (gA _ c _).get a = .ofNat hd ∧ hd < 1000000000000 ∧ a + 3 + hd / 4 ≤ M.fin + (c + 3) ∧ (gA _ c _).get (a + 1) = 0 ∧ ∀ j, j < hd / 4 → (gA _ c _).get (a + 3 + j) = 0
  rw [cLu _ (by omega)] at ha
  by_cases e : a = M.fin
  ·subst e
   refine ⟨z2, c * 4 + f, ?_, by omega, by omega, ?_, fun j hj => ?_⟩
   ·rw [t1, if_neg (by omega), if_neg (by omega), if_neg (by omega), if_pos rfl]
   ·rw [t1, if_neg (by omega), if_neg (by omega), if_pos rfl]
    rfl
   ·rw [t1, if_pos (by omega)]
  ·rw [if_neg e] at ha
   obtain ⟨p1, hd, p2, p3, p4, p5, p6⟩ := Z.ob a ha
   refine ⟨p1, hd, ?_, p3, by omega, ?_, fun j hj => ?_⟩
   ·rw [t1, if_neg (by omega), if_neg (by omega), if_neg (by omega), if_neg (by omega)]
    exact p2
   ·rw [t1, if_neg (by omega), if_neg (by omega), if_neg (by omega), if_neg (by omega)]
    exact p5
   ·rw [t1, if_neg (by omega), if_neg (by omega), if_neg (by omega), if_neg (by omega)]
    exact p6 j hj
 ·rfl
 ·intro p h1 h2 h3
  show (Tr.set _ m (Tr.set _ M.pb (Tr.set _ M.wb h.bl))).get p = _
  rw [dHz _ _ _ _ h1, dHz _ _ _ _ h3, dHz _ _ _ _ h2]
 ·have cl : uE (Int.ofNat 0) M.pl = true := rfl
  simp only [lQ, hm, cl, Bool.not_true, cond_false, b1, cond_true, b2, b3]
  rfl
end Go.Dd

namespace Go.Dd
open Go.Proofs
theorem jS {b : Pos} {kd : Kind} {l : List DV} {h : Hp} (hb : h.bl.get b = some (.row kd l)) {i : Nat} {v : DV} (hi : l[i]? = some v) (hv : v.one = true) : aA (.p b i) h = some (v, h) := by
 simp only [aA, cellD, rowOf, hb, hi, hv, if_true]
structure Tk (t w m cb : Pos) (M : MemV) (R : List Int) (h : Hp) : Prop where
 ht : ∃ y, h.bl.get t = some (.row .ex [.p w 0, y])
 hw : ∃ a b, h.bl.get w = some (.row .ex [.p m 0, .l cb 0 18 18, a, b])
 hm : gQ m h = some M
 hr : h.bl.get cb = some (.row (.gr 1) (R.map iD))
 rl : R.length = 18
 lt : t.toNat < h.next.toNat ∧ w.toNat < h.next.toNat ∧ m.toNat < h.next.toNat ∧ cb.toNat < h.next.toNat ∧ M.wb.toNat < h.next.toNat ∧ M.pb.toNat < h.next.toNat
section
variable {t w m cb : Pos} {M : MemV} {R : List Int} {h h' : Hp}
theorem Tk.lo (K : Tk t w m cb M R h) (L : Lo h.next.toNat h h') : Tk t w m cb M R h' := by
 obtain ⟨l1, l2, l3, l4, l5, l6⟩ := K.lt
 obtain ⟨y, e1⟩ := K.ht
 obtain ⟨a, b, e2⟩ := K.hw
 have nx := L.next
 have q := iM K.hm
 refine ⟨⟨y, (L.get _ l1).trans e1⟩, ⟨a, b, (L.get _ l2).trans e2⟩, oW ((L.get _ l3).trans q.1) ((L.get _ l5).trans q.2.1) ((L.get _ l6).trans q.2.2.1) q.2.2.2.1 q.2.2.2.2.1 q.2.2.2.2.2, (L.get _ l4).trans K.hr, K.rl, by omega, by omega, by omega, by omega, by omega, by omega⟩
theorem Tk.known (K : Tk t w m cb M R h) {i : Nat} (hi : i < 16) (n : Nat) : fW (n + 1) 34 [.p w 0, .i .i64 (Int.ofNat i)] h = some (iD (R.getD (2 + i) 0), h) := by
 rw [shS 34 rfl, cIu]
 unfold s34
 obtain ⟨a, b, e2⟩ := K.hw
 have h1 : decide (Int.ofNat i < Int.ofNat 0) = false := by simp
 have h2 : decide (Int.ofNat i ≥ Int.ofNat 16) = false := by simp; omega
 have h3 : aI 1 (.l cb 0 18 18) (.i .i64 (Int.ofNat 2 + Int.ofNat i)) h = some (.p cb (2 + i), h) := by
  show (if (0 : Int) ≤ Int.ofNat 2 + Int.ofNat i ∧ Int.ofNat 2 + Int.ofNat i < ((18 : Nat) : Int) then some (DV.p cb (0 + (Int.ofNat 2 + Int.ofNat i).toNat * 1), h) else none) = _
  rw [if_pos (by simp; omega), show (Int.ofNat 2 + Int.ofNat i).toNat = 2 + i by simp; omega]
  simp
 have e : (R.map iD)[2 + i]? = some (iD (R.getD (2 + i) 0)) := by
  have : 2 + i < R.length := by rw [K.rl]; omega
  simp [List.getElem?_map, List.getElem?_eq_getElem this, List.getD]
 simp only [g0, g1, dR, qA, aZ, iG, cP, cX, h1, h2, mY, fld, jS (i := 0 + 1) e2 rfl rfl, jN _ _ _ (show -9223372036854775808 ≤ Int.ofNat 2 + Int.ofNat i ∧ Int.ofNat 2 + Int.ofNat i ≤ 9223372036854775807 by simp; omega), h3, jS K.hr e rfl]
theorem Zr.obj (Z : Zr M) {x : Int} (hx : dX x M.pl ≠ 0) : ∃ hd : Nat, (∀ k, iC M x k = k hd) ∧ M.t.get (dX x M.pl + 1) = 0 ∧ (∀ j, j < hd / 4 → M.t.get (dX x M.pl + 3 + j) = 0) ∧ dX x M.pl + 3 + hd / 4 ≤ 2000 := by
 have hp : M.pl.get (dX x M.pl) ≠ 0 := by
  rcases aLf x M.pl with e | ⟨e, _⟩
  ·exact absurd e hx
  ·rw [e]; exact (atN_pos.1 hx).2
 obtain ⟨p1, hd, p2, p3, p4, p5, p6⟩ := Z.ob _ hp
 have z := Z.n
 have zl := Z.le
 refine ⟨hd, fun k => ?_, p5, p6, by omega⟩
 have b1 : Nat.blt (Nat.add (dX x M.pl) 1) M.n = true := by
  rw [lH]; exact decide_eq_true (show dX x M.pl + 1 < M.n by omega)
 have b2 : Nat.blt hd 1000000000000 = true := by rw [lH]; exact decide_eq_true p3
 unfold iC
 rw [b1, p2]
 simp only [cond_true, b2]
theorem Tk.get0 (K : Tk t w m cb M R h) (Z : Zr M) {x : Int} (hx : dX x M.pl ≠ 0) {hd : Nat} (q1 : ∀ k, iC M x k = k hd) (q3 : ∀ j, j < hd / 4 → M.t.get (dX x M.pl + 3 + j) = 0) (q4 : dX x M.pl + 3 + hd / 4 ≤ 2000) {i : Nat} (hi : i < hd / 4) (n : Nat) : fW (n + 1) 111 [.p w 0, iD x, .i .i64 (Int.ofNat i)] h = some (iD 0, h) := by
 rw [shS 111 rfl, bHi]
 unfold s111
 obtain ⟨a, b, e2⟩ := K.hw
 have zn := Z.n
 have e : aMt [.p m 0, iD x, .i .i64 (Int.ofNat i)] h = some (.t [iD 0, .i .i64 (.ofNat 0)], h) := by
  have b0 : Nat.beq (dX x M.pl) 0 = false := by rw [mQ]; exact decide_eq_false hx
  have b1 : Nat.ble (Nat.div hd 4) i = false := by rw [vR]; exact decide_eq_false (by show ¬ hd / 4 ≤ i; omega)
  have b2 : Nat.blt (Nat.add (Nat.add (dX x M.pl) 3) i) M.n = true := by rw [lH]; exact decide_eq_true (show dX x M.pl + 3 + i < M.n by omega)
  simp only [aMt, iR, K.hm, iQ, b0, cond_false, q1, b1, b2, cond_true]
  rw [show Nat.add (Nat.add (dX x M.pl) 3) i = dX x M.pl + 3 + i from rfl, q3 i hi]
 simp only [g0, g1, show ∀ (a b c : DV) (l : List DV), (a :: b :: c :: l).getD 2 aV = c from fun _ _ _ _ => rfl, mY, fld, aZ, jS (i := 0 + 0) e2 rfl rfl, e, px0, px1]
end
end Go.Dd

namespace Go.Dd
open Go.Proofs
section
variable {t w m cb : Pos} {M : MemV} {R : List Int} {h h' : Hp}
theorem cXu (b : Pos) (o : Nat) (h : Hp) : bD (some (.p b o, h)) (.p b o) = true := by
 unfold bD
 simp [DV.beq]
theorem dAq (h : Hp) : bD (some (aV, h)) aV = true := rfl
theorem xJ (b : Bool) (h : Hp) : fL .not (.b b) h = some (.b (!b), h) := rfl
def LsG (h h' : Hp) (l : DV) : Prop := l = .l0 ∨ ∃ b, l = .l b 0 1 1 ∧ h'.bl.get b = some (.row (.gr 1) [iD 0]) ∧ h.next.toNat ≤ b.toNat ∧ b.toNat < h'.next.toNat
theorem Tk.list (K : Tk t w m cb M R h) (Z : Zr M) (x : Int) (n : Nat) :
  ∃ l z h', fW (n + 3) 124 [.p t 0, iD x] h = some (.t [l, .b z], h') ∧ Lo h.next.toNat h h' ∧ LsG h h' l := by
 rw [shS 124 rfl, bGv]
 show ∃ l z h', kO (fW (n + 2)) (n + 2) (mL (fW (n + 2)) (n + 2) (n + 1)) (.p t 0) (iD x) .l0 (.i .i64 (Int.ofNat 0)) h = some (.t [l, .b z], h') ∧ Lo h.next.toNat h h' ∧ LsG h h' l
 obtain ⟨y, e1⟩ := K.ht
 obtain ⟨a, b, e2⟩ := K.hw
 have lt : aA (.p t (0 + 0)) h = some (.p w 0, h) := jS (i := 0 + 0) e1 rfl rfl
 have lw : aA (.p w (0 + 0)) h = some (.p m 0, h) := jS (i := 0 + 0) e2 rfl rfl
 have sz : mA [.p m 0] h = some (.i .i64 (.ofNat M.n), h) := by simp only [mA, iR, K.hm]
 have gt : decide (Int.ofNat 0 > Int.ofNat M.n) = false := by simp
 have is : isF [.p m 0, .i .i64 x] h = some (.b (!(Nat.beq (dX x M.pl) 0)), h) := by simp only [isF, iR, K.hm]
 unfold kO
 by_cases x0 : x = 0
 ·subst x0
  simp only [iD, iF, show ((0 : Int) != Int.ofNat 0) = false from rfl, aZ, cX]
  exact ⟨.l0, true, h, rfl, Lo.refl _ _, .inl rfl⟩
 ·have nx : (x != Int.ofNat 0) = true := by simpa using x0
  by_cases hx : dX x M.pl = 0
  ·have bq : Nat.beq (dX x M.pl) 0 = true := by rw [hx]; rfl
   simp only [iD, iF, nx, aZ, cI, mY, fld, lt, lw, sz, kV, gt, iG, is, bq, Bool.not_true, xJ, Bool.not_false, cP, eV, aIi, dAq, cnd, Bool.and_self, cN]
   exact ⟨.l0, false, h, rfl, Lo.refl _ _, .inl rfl⟩
  ·have bq : Nat.beq (dX x M.pl) 0 = false := by rw [mQ]; exact decide_eq_false hx
   obtain ⟨hd, q1, q2, q3, q4⟩ := Z.obj hx
   have cl : fH [.p m 0, .i .i64 x] h = some (.i .i64 0, h) := by simp only [fH, iR, K.hm, q1, Nat.add_eq, q2]
   have fo : fN [.p m 0, .i .i64 x] h = some (.i .i64 (.ofNat (Nat.mod hd 4)), h) := by simp only [fN, iR, K.hm, q1]
   have fi : fO [.p m 0, .i .i64 x] h = some (.i .i64 (.ofNat (Nat.div hd 4)), h) := by simp only [fO, iR, K.hm, q1]
   have kn := K.known (show 9 < 16 by omega) (n + 1)
   simp only [iD] at kn
   simp only [iD, iF, nx, aZ, cI, mY, fld, lt, lw, sz, kV, gt, iG, is, bq, Bool.not_true, xJ, Bool.not_false, cP, cl, cXu, cnd, Bool.and_self, kn]
   cases c1 : ((0 : Int) != R.getD (2 + 9) 0) with
   | true =>
    simp only [eV, aIi, aZ, cN, cI]
    exact ⟨.l0, false, h, rfl, Lo.refl _ _, .inl rfl⟩
   | false =>
    simp only [iG, aZ, fo, iF, cP]
    cases c2 : (Int.ofNat (Nat.mod hd 4) != Int.ofNat 0) with
    | true =>
     simp only [eV, aIi, aZ, cN, cI]
     exact ⟨.l0, false, h, rfl, Lo.refl _ _, .inl rfl⟩
    | false =>
     simp only [iG, aZ, fi, iF, cP]
     cases c3 : (Int.ofNat (Nat.div hd 4) != Int.ofNat 2) with
     | true =>
      simp only [cI]
      exact ⟨.l0, false, h, rfl, Lo.refl _ _, .inl rfl⟩
     | false =>
      have h2 : hd / 4 = 2 := by
       have : Int.ofNat (Nat.div hd 4) = Int.ofNat 2 := by simpa using c3
       exact Int.ofNat.inj this
      have g0' := K.get0 Z hx q1 q3 q4 (i := 0) (by omega) (n + 1)
      obtain ⟨u, g, a1, x', h1, a2, S, L⟩ := GrS.app (x := .l0) (l := []) (lo := h.next.toNat) (h := h) (.inl ⟨rfl, rfl⟩) (Nat.le_refl _) (fun v hv => by cases hv) (z := .i .i64 (Int.ofNat 0)) (v := iD 0) rfl rfl (bytes := 8) (by decide)
      have K1 := K.lo L
      have g1' := K1.get0 Z hx q1 q3 q4 (i := 1) (by omega) (n + 1)
      obtain ⟨y1, e1'⟩ := K1.ht
      obtain ⟨a', b', e2'⟩ := K1.hw
      have lt1 : aA (.p t (0 + 0)) h1 = some (.p w 0, h1) := jS (i := 0 + 0) e1' rfl rfl
      simp only [iD] at g0' g1' a1
      simp only [cX, mY, fld, lt, aZ, g0', a1, a2, lt1, g1', jN _ _ _ (show -9223372036854775808 ≤ Int.ofNat 0 + Int.ofNat 1 ∧ Int.ofNat 0 + Int.ofNat 1 ≤ 9223372036854775807 by decide)]
      refine ⟨x', true, h1, ?_, L, ?_⟩
      ·show kO (fW (n + 2)) (n + 2) (mL (fW (n + 2)) (n + 2) n) (.p t 0) (.i .i64 0) x' (.i .i64 (Int.ofNat 0 + Int.ofNat 1)) h1 = _
       unfold kO
       simp only [iF, show ((0 : Int) != Int.ofNat 0) = false from rfl, aZ, cX]
       rfl
      ·rcases S with ⟨_, e⟩ | ⟨b, e, f1, f2, f3⟩
       ·cases e
       ·exact .inr ⟨b, e, f1, f2, f3⟩
end
end Go.Dd

namespace Go.Dd
open Go.Proofs
section
variable {t w m cb : Pos} {M : MemV} {R : List Int} {h h' : Hp}
theorem bEy (k : Hp) : bQ .l0 k = some (.i .i64 (Int.ofNat 0), k) := rfl
theorem yA (b : Pos) (o n c : Nat) (k : Hp) : bQ (.l b o n c) k = some (.i .i64 (Int.ofNat n), k) := rfl
theorem Tk.text0 (K : Tk t w m cb M R h) (Z : Zr M) (n : Nat) : fW (n + 2) 72 [.p w 0, iD 0] h = some (.t [.s [], .b false], h) := by
 rw [shS 72 rfl, cIv]
 show aHj (fW (n + 1)) (n + 1) (.p w 0) (iD 0) h = _
 obtain ⟨a, b, e2⟩ := K.hw
 have lw : aA (.p w (0 + 0)) h = some (.p m 0, h) := jS (i := 0 + 0) e2 rfl rfl
 have a0 : dX 0 M.pl = 0 := rfl
 have zn := Z.n
 have q1 : ∀ k, iC M 0 k = k 0 := fun k => by
  have b1 : Nat.blt (Nat.add (dX 0 M.pl) 1) M.n = true := by rw [a0, lH]; exact decide_eq_true (show 0 + 1 < M.n by omega)
  unfold iC
  rw [b1, a0, Z.z0 0 (by omega)]
  rfl
 have cl : fH [.p m 0, .i .i64 0] h = some (.i .i64 0, h) := by
  simp only [fH, iR, K.hm, q1, Nat.add_eq, a0]
  rw [Z.z0 (0 + 1) (by omega)]
 have is : isF [.p m 0, .i .i64 0] h = some (.b false, h) := by
  simp only [isF, iR, K.hm, a0]
  rfl
 unfold aHj
 simp only [iD, mY, fld, aZ, lw, cl]
 unfold aRm
 simp only [mY, fld, aZ, lw, is, xJ, Bool.not_false, eV, aIi, cN, cI]
theorem Tk.root (K : Tk t w m cb M R h) {i : Nat} (hi : i < 18) : aA (.p cb i) h = some (iD (R.getD i 0), h) := by
 have e : (R.map iD)[i]? = some (iD (R.getD i 0)) := by
  have : i < R.length := by rw [K.rl]; exact hi
  simp [List.getElem?_map, List.getElem?_eq_getElem this, List.getD]
 exact jS K.hr e rfl
theorem Tk.classes (K : Tk t w m cb M R h) (Z : Zr M) (n : Nat) : ∃ h', fW (n + 4) 81 [.p t 0] h = some (.b false, h') ∧ Lo h.next.toNat h h' := by
 rw [shS 81 rfl, cJt]
 show ∃ h', aIz (fW (n + 3)) (n + 3) (.p t 0) h = some (.b false, h') ∧ Lo h.next.toNat h h'
 obtain ⟨y, e1⟩ := K.ht
 obtain ⟨a, b, e2⟩ := K.hw
 have lt : aA (.p t (0 + 0)) h = some (.p w 0, h) := jS (i := 0 + 0) e1 rfl rfl
 have lw : aA (.p w (0 + 1)) h = some (.l cb 0 18 18, h) := jS (i := 0 + 1) e2 rfl rfl
 have ix : aI 1 (.l cb 0 18 18) (.i .i64 (Int.ofNat 1)) h = some (.p cb 1, h) := rfl
 obtain ⟨l, z, h', q1, L, ls⟩ := K.list Z (R.getD 1 0) n
 unfold aIz
 simp only [mY, fld, aZ, lt, lw, ix, K.root (show 1 < 18 by omega), q1, px0, px1]
 unfold aRl
 refine ⟨h', ?_, L⟩
 cases z with
 | false => simp only [xJ, Bool.not_false, aZ, eV, aIi, cN, cI]
 | true =>
  rcases ls with rfl | ⟨b, rfl, _⟩
  ·simp only [xJ, Bool.not_true, aZ, iG, bEy, dR, show decide (Int.ofNat 0 < Int.ofNat 16) = true from rfl, cP, cI]
  ·simp only [xJ, Bool.not_true, aZ, iG, yA, dR, show decide (Int.ofNat 1 < Int.ofNat 16) = true from rfl, cP, cI]
theorem Tk.symbols (K : Tk t w m cb M R h) (Z : Zr M) (n : Nat) : ∃ z h', fW (n + 4) 80 [.p t 0] h = some (.b z, h') ∧ Lo h.next.toNat h h' := by
 rw [shS 80 rfl, cJq]
 show ∃ z h', aHf (fW (n + 3)) (n + 3) (.p t 0) h = some (.b z, h') ∧ Lo h.next.toNat h h'
 obtain ⟨y, e1⟩ := K.ht
 obtain ⟨a, b, e2⟩ := K.hw
 have lt : aA (.p t (0 + 0)) h = some (.p w 0, h) := jS (i := 0 + 0) e1 rfl rfl
 have lw : aA (.p w (0 + 1)) h = some (.l cb 0 18 18, h) := jS (i := 0 + 1) e2 rfl rfl
 have ix : aI 1 (.l cb 0 18 18) (.i .i64 (Int.ofNat 0)) h = some (.p cb 0, h) := rfl
 obtain ⟨l, z, h', q1, L, ls⟩ := K.list Z (R.getD 0 0) n
 have K' := K.lo L
 unfold aHf
 simp only [mY, fld, aZ, lt, lw, ix, K.root (show 0 < 18 by omega), q1, px0, px1]
 unfold aRs
 rcases ls with rfl | ⟨b, rfl, f1, f2, f3⟩
 ·simp only [bEy, aZ]
  refine ⟨z, h', ?_, L⟩
  show qK (fW (n + 3)) (n + 3) (pJ (fW (n + 3)) (n + 3) (n + 2)) (.p t 0) (.b z) .l0 (.i .i64 (Int.ofNat 0)) (.i .i64 (Int.ofNat 0)) h' = _
  unfold qK
  simp only [dR, show decide (Int.ofNat 0 < Int.ofNat 0) = false from rfl, aZ, cX]
  rfl
 ·simp only [yA, aZ]
  refine ⟨false, h', ?_, L⟩
  show qK (fW (n + 3)) (n + 3) (pJ (fW (n + 3)) (n + 3) (n + 2)) (.p t 0) (.b z) (.l b 0 1 1) (.i .i64 (Int.ofNat 1)) (.i .i64 (Int.ofNat 0)) h' = _
  unfold qK
  obtain ⟨y', e1'⟩ := K'.ht
  have lt' : aA (.p t (0 + 0)) h' = some (.p w 0, h') := jS (i := 0 + 0) e1' rfl rfl
  have ix' : aI 1 (.l b 0 1 1) (.i .i64 (Int.ofNat 0)) h' = some (.p b 0, h') := rfl
  have ld : aA (.p b 0) h' = some (iD 0, h') := jS f1 rfl rfl
  simp only [dR, show decide (Int.ofNat 0 < Int.ofNat 1) = true from rfl, aZ, cI, ix', ld, mY, fld, lt', K'.text0 Z (n + 1), px0, px1, xJ, Bool.not_false, eV, aIi, dAq, cnd, Bool.and_self, cN]
end
end Go.Dd

namespace Go.Dd
open Go.Proofs
section
variable {t w m cb rb p0 : Pos} {M : MemV} {R : List Int} {h h' : Hp} {kd : Kind} {cap : Nat}
theorem dHu (rec : FuncId → List DV → Hp → aG) (c p : DV) (h : Hp) : cY CF rec (.f 78 [] [c]) [p] h = rec 78 [p, c] h := rfl
theorem dBm (hp : h.bl.get p0 = some (.row .ex [.p m 0])) (hm : gQ m h = some M) (x : Int) (K : Nat) (hK : 1 ≤ K) : fW K 78 [iD x, .p p0 0] h = some (.b (!(rE x M.pl)), h) := by
 obtain ⟨n, rfl⟩ : ∃ n, K = n + 1 := ⟨K - 1, by omega⟩
 rw [shS 78 rfl, cJo]
 unfold s78
 have hm' : aIn [.p m 0, iD x] h = some (.b (rE x M.pl), h) := by simp only [aIn, iR, hm]
 simp only [g0, g1, jS (i := 0) hp rfl rfl, aZ, hm', xJ]
theorem bTz (hp : h.bl.get p0 = some (.row .ex [.p m 0])) (hm : gQ m h = some M) (hr : h.bl.get rb = some (.row kd (R.map iD))) (rl : R.length = 18) (K : Nat) (hK : 1 ≤ K) (Q : Nat) :
  ∀ (j i fuel : Nat), i + j = 18 → j < fuel → ∃ v, kI (fW K) Q fuel (.l rb 0 18 cap) (.f 78 [] [.p p0 0]) (.i .i64 (Int.ofNat 18)) (.i .i64 (Int.ofNat i)) h = some (iD v, h) := by
 intro j
 induction j with
 | zero =>
  intro i fuel h1 h2
  obtain ⟨fuel, rfl⟩ : ∃ k, fuel = k + 1 := ⟨fuel - 1, by omega⟩
  have e : i = 18 := by omega
  subst e
  refine ⟨-1, ?_⟩
  show mD (fW K) Q (kI (fW K) Q fuel) _ _ _ _ h = _
  unfold mD
  simp only [dR, show decide (Int.ofNat 18 < Int.ofNat 18) = false from rfl, aZ, cX]
  rfl
 | succ j ih =>
  intro i fuel h1 h2
  obtain ⟨fuel, rfl⟩ : ∃ k, fuel = k + 1 := ⟨fuel - 1, by omega⟩
  have lt : decide (Int.ofNat i < Int.ofNat 18) = true := decide_eq_true (by show (i : Int) < 18; omega)
  have ix : aI 1 (.l rb 0 18 cap) (.i .i64 (Int.ofNat i)) h = some (.p rb i, h) := by
   show (if (0 : Int) ≤ Int.ofNat i ∧ Int.ofNat i < ((18 : Nat) : Int) then some (DV.p rb (0 + (Int.ofNat i).toNat * 1), h) else none) = _
   rw [if_pos ⟨by show (0 : Int) ≤ (i : Int); omega, by show (i : Int) < 18; omega⟩]
   simp
  have e : (R.map iD)[i]? = some (iD (R.getD i 0)) := by
   have : i < R.length := by rw [rl]; omega
   simp [List.getElem?_map, List.getElem?_eq_getElem this, List.getD]
  obtain ⟨v, q⟩ := ih (i + 1) fuel (by omega) (by omega)
  show ∃ v, mD (fW K) Q (kI (fW K) Q fuel) _ _ _ _ h = some (iD v, h)
  unfold mD
  simp only [dR, lt, aZ, cI, ix, jS hr e rfl, dHu, dBm hp hm _ K hK]
  cases rE (R.getD i 0) M.pl with
  | false => exact ⟨Int.ofNat i, by simp only [Bool.not_false, cI]⟩
  | true =>
   refine ⟨v, ?_⟩
   simp only [Bool.not_true, cX, jN (Int.ofNat i) (Int.ofNat 1) h (show -9223372036854775808 ≤ (i : Int) + 1 ∧ (i : Int) + 1 ≤ 9223372036854775807 by omega), aZ]
   exact q
theorem aKi (hp : h.bl.get p0 = some (.row .ex [.p m 0])) (hm : gQ m h = some M) (hr : h.bl.get rb = some (.row kd (R.map iD))) (rl : R.length = 18) (n : Nat) :
  ∃ z, fW (n + 30) 77 [.l rb 0 18 cap, .f 78 [] [.p p0 0]] h = some (.b z, h) := by
 obtain ⟨v, q⟩ := bTz (cap := cap) hp hm hr rl (n + 28) (by omega) (n + 28) 18 0 (n + 28) rfl (by omega)
 rw [shS 77 rfl, cIm]
 have e : fW (n + 29) 123 [.l rb 0 18 cap, .f 78 [] [.p p0 0]] h = some (iD v, h) := by
  rw [shS 123 rfl, bKc]
  show vT (fW (n + 28)) (n + 28) (.l rb 0 18 cap) (.f 78 [] [.p p0 0]) h = _
  unfold vT
  simp only [yA, aZ]
  exact q
 unfold s77
 simp only [g0, g1, e, aZ, iD, qA]
 exact ⟨_, rfl⟩
theorem cCn (hr : h.bl.get rb = some (.row kd (R.map iD))) (rl : R.length = 18) (hb : rb.toNat < h.next.toNat) (n : Nat) :
  ∃ cb h', fW (n + 1) 79 [.l rb 0 18 cap] h = some (.l cb 0 18 18, h') ∧ h'.bl.get cb = some (.row (.gr 1) (R.map iD)) ∧ Lo h.next.toNat h h' ∧ h.next.toNat ≤ cb.toNat ∧ cb.toNat < h'.next.toNat := by
 rw [shS 79 rfl, cIf]
 unfold s79
 have eq : yU (.slice 3) true (.l rb 0 18 cap) .l0 h = some (.b false, h) := rfl
 have bs : aN [] 0 [] h = some (.l h.next 0 0 0, ⟨h.next.succ, Tr.set (.row .ex []) h.next h.bl⟩) := rfl
 have ns := dIb h.next
 have ns2 := dIb h.next.succ
 have hne : rb ≠ h.next := fun e => by subst e; omega
 have hl : (R.map iD).length = 18 := by simp [rl]
 have hone : ∀ v ∈ R.map iD, v.one = true := fun v hv => by
  obtain ⟨x, _, rfl⟩ := List.mem_map.1 hv
  rfl
 have hget : (Tr.set (.row .ex []) h.next h.bl).get rb = some (.row kd (R.map iD)) := by rw [dHz _ _ _ _ hne]; exact hr
 have src : oN 1 (.l rb 0 18 cap) ⟨h.next.succ, Tr.set (.row .ex []) h.next h.bl⟩ = some (18, R.map iD) := by
  have : cellsAt rb 0 (18 * 1) ⟨h.next.succ, Tr.set (.row .ex []) h.next h.bl⟩ = some (R.map iD) := by
   simp only [cellsAt, rowOf, hget, List.drop_zero, Nat.mul_one]
   rw [← hl]
   exact aIx _ hone
  simp only [oN, this]
 have ce : cellsAt h.next 0 (0 * 1) ⟨h.next.succ, Tr.set (.row .ex []) h.next h.bl⟩ = some [] := by
  simp only [cellsAt, rowOf, dIa]
  rfl
 have ap : aW 1 8 (.l h.next 0 0 0) (.l rb 0 18 cap) ⟨h.next.succ, Tr.set (.row .ex []) h.next h.bl⟩ = some (.l h.next.succ 0 (0 + 18) (0 + 18), ⟨h.next.succ.succ, Tr.set (.row (.gr 1) ([] ++ R.map iD)) h.next.succ (Tr.set (.row .ex []) h.next h.bl)⟩) := by
  unfold aW
  rw [src]
  dsimp only
  rw [if_neg (by omega), dIa, ce]
  dsimp only
  rw [if_pos (by decide)]
 simp only [g0, eq, aZ, cX, bs, ap]
 refine ⟨h.next.succ, _, rfl, dIa _ _ _, ⟨by show _ ≤ h.next.succ.succ.toNat; omega, fun p hp => ?_⟩, by omega, by show _ < h.next.succ.succ.toNat; omega⟩
 show (Tr.set _ h.next.succ (Tr.set _ h.next h.bl)).get p = _
 rw [dHz _ _ _ _ (fun e => by subst e; omega), dHz _ _ _ _ (fun e => by subst e; omega)]
end
end Go.Dd

namespace Go.Dd
open Go.Proofs
section
variable {m rb : Pos} {M : MemV} {R : List Int} {h : Hp} {kd : Kind} {cap : Nat}
theorem cGy (Z : Zr M) (hm : gQ m h = some M) (hr : h.bl.get rb = some (.row kd (R.map iD))) (rl : R.length = 18)
  (lm : m.toNat < h.next.toNat) (lr : rb.toNat < h.next.toNat) (lw : M.wb.toNat < h.next.toNat) (lp : M.pb.toNat < h.next.toNat) (n : Nat) :
  ∃ h', fW (n + 40) 32 [.p m 0, .l rb 0 18 cap] h = some (.t [.p0, .i .i64 (Int.ofNat 7)], h') := by
 rw [shS 32 rfl, cJh]
 unfold s32
 obtain ⟨h1, e1⟩ : ∃ h1 : Hp, h1 = ⟨h.next.succ, Tr.set (.row .ex [.p m 0]) h.next h.bl⟩ := ⟨_, rfl⟩
 have bx : bS (.p m 0) h = some (.p h.next 0, h1) := by rw [e1]; rfl
 have L1 : Lo h.next.toNat h h1 := by
  rw [e1]
  exact ⟨by show _ ≤ h.next.succ.toNat; rw [dIb]; omega, fun p hp => dHz _ _ _ _ fun e => by subst e; omega⟩
 have n1 : h1.next.toNat = h.next.toNat + 1 := by rw [e1]; exact dIb _
 have r1 : h1.bl.get h.next = some (.row .ex [.p m 0]) := by rw [e1]; exact dIa _ _ _
 have q := iM hm
 have hm1 : gQ m h1 = some M := oW ((L1.get _ lm).trans q.1) ((L1.get _ lw).trans q.2.1) ((L1.get _ lp).trans q.2.2.1) q.2.2.2.1 q.2.2.2.2.1 q.2.2.2.2.2
 have hr1 := (L1.get _ lr).trans hr
 have eq : yU (.pointer 135) true (.p m 0) .p0 h1 = some (.b false, h1) := rfl
 have ne : ((Int.ofNat 18 : Int) != Int.ofNat 18) = false := rfl
 obtain ⟨z, cz⟩ := aKi (cap := cap) r1 hm1 hr1 rl (n + 9)
 have cz : fW (n + 39) 77 [.l rb 0 18 cap, .f 78 [] [.p h.next 0]] h1 = some (.b z, h1) := cz
 simp only [g0, g1, bx, aZ]
 unfold wB
 simp only [jS (i := 0) r1 rfl rfl, aZ, eq, iG, yA, iF, ne, cP, cz]
 cases z with
 | true =>
  simp only [cI]
  exact ⟨_, rfl⟩
 | false =>
  simp only [cX]
  unfold aIt
  obtain ⟨h2, e2⟩ : ∃ h2 : Hp, h2 = resv 3 h1 := ⟨_, rfl⟩
  have b2 : h2.bl = h1.bl := by rw [e2]; rfl
  have n2 : h2.next.toNat = h1.next.toNat + 3 := by
   rw [e2]
   show h1.next.succ.succ.succ.toNat = _
   rw [dIb, dIb, dIb]
  have r2 : h2.bl.get h.next = some (.row .ex [.p m 0]) := by rw [b2]; exact r1
  obtain ⟨cb, h3, c1, c2, L3, c3, c4⟩ := cCn (h := h2) (cap := cap) (by rw [b2]; exact hr1) rl (by omega) (n + 38)
  have c1 : fW (n + 39) 79 [.l rb 0 18 cap] h2 = some (.l cb 0 18 18, h3) := c1
  have r3 : h3.bl.get h.next = some (.row .ex [.p m 0]) := (L3.get _ (by omega)).trans r2
  have p1 := dIb h1.next
  have p2 := dIb h1.next.succ
  have n3 := L3.next
  obtain ⟨h6, e6⟩ : ∃ h6 : Hp, h6 = ⟨h3.next, Tr.set (.row .ex [.p m 0, .l cb 0 18 18, .m h1.next, .m h1.next.succ]) h1.next.succ.succ (Tr.set (.mp []) h1.next.succ (Tr.set (.mp []) h1.next h3.bl))⟩ := ⟨_, rfl⟩
  have mk : (bnd (cT (aY 0 h1.next) h3) fun v65 h65 =>
   bnd (cT (aY 1 h1.next) h65) fun v66 h66 =>
   bnd (aX [.p0, .l0, .m0, .m0] [(0, 1, .p m 0), (1, 1, .l cb 0 18 18), (2, 1, v65), (3, 1, v66)] h66) fun v67 h67 =>
   bnd (lA (aY 2 h1.next) v67 h67) fun v68 h68 =>
   oZ (fW (n + 39)) (n + 39) (.p h.next 0) v68 h68) = oZ (fW (n + 39)) (n + 39) (.p h.next 0) (.p h1.next.succ.succ 0) h6 := by rw [e6]; rfl
  have g6 : ∀ p : Pos, (p.toNat < h1.next.toNat ∨ h2.next.toNat ≤ p.toNat) → h6.bl.get p = h3.bl.get p := fun p hp => by
   rw [e6]
   show (Tr.set _ _ (Tr.set _ _ (Tr.set _ _ h3.bl))).get p = _
   rw [dHz _ _ _ _ (fun e => by subst e; omega), dHz _ _ _ _ (fun e => by subst e; omega), dHz _ _ _ _ (fun e => by subst e; omega)]
  have w6 : h6.bl.get h1.next.succ.succ = some (.row .ex [.p m 0, .l cb 0 18 18, .m h1.next, .m h1.next.succ]) := by rw [e6]; exact dIa _ _ _
  have x6 : h6.next = h3.next := by rw [e6]
  simp only [← e2, jS (i := 0) r2 rfl rfl, aZ, c1, jS (i := 0) r3 rfl rfl, cXu, cnd, Bool.and_self]
  rw [mk]
  unfold oZ
  obtain ⟨h7, e7⟩ : ∃ h7 : Hp, h7 = ⟨h6.next.succ.succ, Tr.set (.row .ex [.p h1.next.succ.succ 0, .m h6.next]) h6.next.succ (Tr.set (.mp []) h6.next h6.bl)⟩ := ⟨_, rfl⟩
  have mk2 : (bnd (cQ h6) fun v51 h51 =>
   bnd (aX [.p0, .m0] [(0, 1, .p h1.next.succ.succ 0), (1, 1, v51)] h51) fun v52 h52 =>
   bnd (bS v52 h52) fun v53 h53 =>
   qS (fW (n + 39)) (n + 39) (.p h.next 0) (.p h1.next.succ.succ 0) v53 h53) = qS (fW (n + 39)) (n + 39) (.p h.next 0) (.p h1.next.succ.succ 0) (.p h6.next.succ 0) h7 := by rw [e7]; rfl
  have s6 := dIb h6.next
  have s7 := dIb h6.next.succ
  have g7 : ∀ p : Pos, p.toNat < h6.next.toNat → h7.bl.get p = h6.bl.get p := fun p hp => by
   rw [e7]
   show (Tr.set _ _ (Tr.set _ _ h6.bl)).get p = _
   rw [dHz _ _ _ _ (fun e => by subst e; omega), dHz _ _ _ _ (fun e => by subst e; omega)]
  have t7 : h7.bl.get h6.next.succ = some (.row .ex [.p h1.next.succ.succ 0, .m h6.next]) := by rw [e7]; exact dIa _ _ _
  have n7 : h7.next.toNat = h6.next.toNat + 2 := by rw [e7]; show h6.next.succ.succ.toNat = _; omega
  have x6' : h6.next.toNat = h3.next.toNat := by rw [x6]
  have old : ∀ p : Pos, p.toNat < h.next.toNat → h7.bl.get p = h.bl.get p := fun p hp => by
   rw [g7 p (by omega), g6 p (.inl (by omega)), L3.get p (by omega), b2, L1.get p hp]
  have K : Tk h6.next.succ h1.next.succ.succ m cb M R h7 := by
   refine ⟨⟨_, t7⟩, ⟨_, _, (g7 _ (by omega)).trans w6⟩, oW ((old _ lm).trans q.1) ((old _ lw).trans q.2.1) ((old _ lp).trans q.2.2.1) q.2.2.2.1 q.2.2.2.2.1 q.2.2.2.2.2, ?_, rl, by omega, by omega, by omega, by omega, by omega, by omega⟩
   rw [g7 _ (by omega), g6 _ (.inr (by omega))]
   exact c2
  rw [mk2]
  unfold qS
  obtain ⟨z1, h8, y1, L8⟩ := K.symbols Z (n + 35)
  have y1 : fW (n + 39) 80 [.p h6.next.succ 0] h7 = some (.b z1, h8) := y1
  have K8 := K.lo L8
  obtain ⟨h9, y2, _⟩ := K8.classes Z (n + 35)
  have y2 : fW (n + 39) 81 [.p h6.next.succ 0] h8 = some (.b false, h9) := y2
  cases z1 with
  | false =>
   simp only [y1, aZ, xJ, Bool.not_false, eV, aIi, cN, cI]
   exact ⟨_, rfl⟩
  | true =>
   simp only [y1, aZ, xJ, Bool.not_true, iG, y2, Bool.not_false, cP, cI]
   exact ⟨_, rfl⟩
end
end Go.Dd

