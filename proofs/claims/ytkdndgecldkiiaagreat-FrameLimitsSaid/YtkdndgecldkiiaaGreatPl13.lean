/- A part of the proof: HD HE OC T0 TL TM TN TP TQ TR HF HG HI HG4 W1 W2 W3 W4 W5 LT0 LT1 LT2 LT3 RH R12 NJ W6 FL0 W7 W8 TX1 FM0 FM FN FO: each text has a comment of its own. -/
import Derived.Test.YtkdndgecldkiiaaGreatPl5
import Derived.Test.YtkdndgecldkiiaaGreatPl6
import Derived.Test.YtkdndgecldkiiaaGreatPl7
import Derived.Test.YtkdndgecldkiiaaGreatPl8
import Derived.Test.YtkdndgecldkiiaaGreatPl9
import Derived.Test.YtkdndgecldkiiaaGreatPl10
import Derived.Test.YtkdndgecldkiiaaGreatPl11
import Derived.Test.YtkdndgecldkiiaaGreatPl12
import Derived.Lib.Bytealg
set_option linter.unusedVariables false
set_option linter.unusedSimpArgs false
set_option linter.constructorNameAsVariable false
set_option maxRecDepth 100000
namespace Go.Dd
theorem kC : ∀ p q : Pos, lU p q = true → p = q
 | .h, .h, _ => rfl
 | .h, .o q, h => by cases h
 | .h, .i q, h => by cases h
 | .o p, .h, h => by cases h
 | .o p, .o q, h => by rw [kC p q h]
 | .o p, .i q, h => by cases h
 | .i p, .h, h => by cases h
 | .i p, .o q, h => by cases h
 | .i p, .i q, h => by rw [kC p q h]
theorem bHj (x y : Int) (h : bRs x y = true) : x = y := by
 cases x <;> cases y <;> simp only [bRs] at h
 ·rw [Nat.eq_of_beq_eq_true h]
 ·cases h
 ·cases h
 ·rw [Nat.eq_of_beq_eq_true h]
theorem aCx : ∀ t u : WT, wtE t u = true → t = u
 | .e, .e, _ => rfl
 | .e, .n _ _ _, h => by cases h
 | .n _ _ _, .e, h => by cases h
 | .n l v r, .n l' v' r', h => by
  have h' : (bRs v v' && (wtE l l' && wtE r r')) = true := h
  simp only [Bool.and_eq_true] at h'
  rw [bHj _ _ h'.1, aCx _ _ h'.2.1, aCx _ _ h'.2.2]
theorem aKl (x y : DV) (h : dvE x y = true) : x = y := by
 unfold dvE at h
 split at h <;> (try (cases h; done)) <;> (try rfl)
 ·rw [bHj _ _ h]
 ·rw [(aCk _ _).1 h]
 ·simp only [Bool.and_eq_true] at h
  rw [kC _ _ h.1, Nat.eq_of_beq_eq_true h.2]
 ·simp only [Bool.and_eq_true] at h
  rw [kC _ _ h.1, Nat.eq_of_beq_eq_true h.2.1, Nat.eq_of_beq_eq_true h.2.2.1, Nat.eq_of_beq_eq_true h.2.2.2]
 ·rw [kC _ _ h]
 ·simp at h; rw [h]
theorem aMu : ∀ l m : List DV, cOw l m = true → l = m
 | [], [], _ => rfl
 | [], _ :: _, h => by cases h
 | _ :: _, [], h => by cases h
 | x :: l, y :: m, h => by
  have h' : (dvE x y && cOw l m) = true := h
  simp only [Bool.and_eq_true] at h'
  rw [aKl _ _ h'.1, aMu _ _ h'.2]
theorem bBi : ∀ l m : List (DV × DV), dJn l m = true → l = m
 | [], [], _ => rfl
 | [], _ :: _, h => by cases h
 | _ :: _, [], h => by cases h
 | x :: l, y :: m, h => by
  have h' : (dvE x.1 y.1 && (dvE x.2 y.2 && dJn l m)) = true := h
  simp only [Bool.and_eq_true] at h'
  rw [bBi _ _ h'.2.2]
  congr 1
  exact Prod.ext (aKl _ _ h'.1) (aKl _ _ h'.2.1)
theorem dKe (o p : Ob) (h : obE o p = true) : o = p := by
 unfold obE at h
 split at h <;> (try (cases h; done))
 ·rw [aMu _ _ h]
 ·rw [bBi _ _ h]
 ·simp only [Bool.and_eq_true] at h
  rw [Nat.eq_of_beq_eq_true h.1, aCx _ _ h.2]
 ·rw [aCx _ _ h]
theorem yK (t : Tr Ob) : ∀ l : List (Pos × Ob), bFo t l = true → ∀ x ∈ l, t.get x.1 = some x.2
 | [], _, x, hx => by cases hx
 | y :: l, h, x, hx => by
  have h' : ((match t.get y.1 with
   | some o => obE o y.2
   | none => false) && bFo t l) = true := h
  simp only [Bool.and_eq_true] at h'
  rcases List.mem_cons.1 hx with rfl | hx
  ·have h1 := h'.1
   split at h1
   ·rename_i o ho
    rw [ho, dKe _ _ h1]
   ·cases h1
  ·exact yK t l h'.2 x hx
theorem wW : ∀ (l : List (Pos × Ob)) (b : Pos) (o : Ob), (dSk l).get b = some o → (b, o) ∈ l
 | [], b, o, h => by cases b <;> cases h
 | y :: l, b, o, h => by
  have h' : (Tr.set y.2 y.1 (dSk l)).get b = some o := h
  by_cases e : b = y.1
  ·subst e
   rw [eOx] at h'
   simp only [bG] at h'
   rw [← h']
   exact List.mem_cons_self
  ·rw [eOw _ _ _ _ e] at h'
   exact List.mem_cons_of_mem _ (wW l b o h')
theorem jM (o : Ob) : uS true o o := by cases o <;> simp [uS]
theorem Sim.refl (h : Hp) : Sim true h h := ⟨rfl, fun b o hb => ⟨o, hb, jM o⟩⟩
theorem jZ {o o' : Ob} (h : uS true o o') : o' = o := by cases o <;> simpa [uS] using h
theorem Sim.trans {a b c : Hp} (h : Sim true a b) (k : Sim true b c) : Sim true a c := ⟨k.next.trans h.next, fun p o hp => by
 obtain ⟨o', h1, h2⟩ := h.get p o hp
 rw [jZ h2] at h1
 exact k.get p o h1⟩
theorem aFm {r : aK} {vs : List DV} {nx : Nat} {l : List (Pos × Ob)} (h : fT r vs nx l = true) : ∃ g, r = some (.t vs, g) ∧ Sim true (dP nx l) g := by
 unfold fT at h
 split at h <;> (try (cases h; done))
 rename_i us g
 simp only [Bool.and_eq_true] at h
 refine ⟨g, by rw [aMu _ _ h.1], ?_, fun b o hb => ⟨o, ?_, jM o⟩⟩
 ·exact kC _ _ h.2.1
 ·exact yK _ _ h.2.2 (b, o) (wW _ _ _ hb)
end Go.Dd

namespace Go.Dd
open Go.Proofs
noncomputable section
def pN0 : Code := cf Tryz.f7
def pN1 : Code := cR pN0
def pN2 : Code := cR pN1
def pN3 : Code := cR pN2
def pN4 : Code := cR pN3
def pN5 : Code := cR pN4
def pN6 : Code := cR pN5
def bOq : Code := .seq (cL pN0) (.seq (cL pN1) (.seq (cL pN2) (.seq (cL pN3) (.seq (cL pN4) (.seq (cL pN5) (cL (cL pN6)))))))
def cAj : Code := cR (cL pN6)
def dYb : Code := cR pN6
def h00 : Hp := ⟨.h, .e⟩
def hS : Hp := ⟨bC 1, .e⟩
def dKi : K := fun e h => some (.t [e 5, e 155, e 156, e 157], h)
def bTa (n : Nat) : aK := aM CF (jW 899) 179 899 bOq (fun _ _ _ => none) (fun _ _ => none) dKi (aJ [.i .i64 (.ofNat n)]) hS
end
theorem he0 : fT (bTa 20000) (eQ 0) 432 (fZ 20000 553 84 18 [1076, 1096, 6, 24, 42, 60, 78, 96, 114, 132, 150, 168, 186, 204, 222, 240, 258, 276] [(10, 0), (19, 0), (46, 0), (55, 0), (64, 0), (91, 0), (100, 0), (109, 0), (118, 0), (127, 0), (145, 0)] 0) = true := by kernel_rfl
end Go.Dd

namespace Go.Dd
inductive Out where
 | n (e : aV) (h : Hp)
 | x (i : Nat) (e : aV) (h : Hp)
 | r (e : aV) (h : Hp)
def ePx (o : Option Out) (X : Nat → K) (kr k : K) : aK :=
 match o with
 | none => none
 | some (.n e h) => k e h
 | some (.x i e h) => X i e h
 | some (.r e h) => kr e h
section
variable {C : Cfg} {rec : FuncId → List DV → Hp → aK} {nt : Nat}
theorem bEl (all : Array Oper) : ∀ l : List Oper, ∃ O : aV → Hp → Option (aV × Hp), ∀ k env h, gV C rec nt all l k env h = match O env h with
  | none => none
  | some (e, h) => k e h
 | [] => ⟨fun e h => some (e, h), fun k env h => rfl⟩
 | o :: l => by
  obtain ⟨O, hO⟩ := bEl all l
  refine ⟨fun env h => bif cV nt o.dst then (match bJ C rec all o env h with
   | some (v, h') => O (bP env o.dst v) h'
   | none => none) else none, fun k env h => ?_⟩
  change cnd (cV nt o.dst) (bnd (bJ C rec all o env h) fun v h' => gV C rec nt all l k (bP env o.dst v) h') = _
  cases cV nt o.dst with
  | false => rfl
  | true =>
   simp only [cond_true]
   cases hs : bJ C rec all o env h with
   | none => rfl
   | some p => exact hO k _ _
theorem aQb (all : Array Oper) (m : Array Nat) (p0 : Pos) : ∀ (l : List Oper) (i c : Nat) (dirty : Bool) (rd : List Seen) (hs : List (Option Nat × Hp)), ∃ O : aV → Hp → Option (aV × Hp),
  ∀ k env h, eE C rec nt all m p0 l k i c dirty rd hs env h = match O env h with
   | none => none
   | some (e, h) => k e h
 | [], i, c, dirty, rd, hs => ⟨fun e h => some (e, h), fun k env h => rfl⟩
 | o :: l, i, c, dirty, rd, hs => by
  have ih := aQb all m p0 l
  cases hc : bU C.P o.op with
  | pure =>
   obtain ⟨O, hO⟩ := ih (i + 1) c dirty rd hs
   refine ⟨fun env h => bif cV nt o.dst then (match bJ C rec all o env h with
    | some (v, h') => O (bP env o.dst v) h'
    | none => none) else none, fun k env h => ?_⟩
   have e : eE C rec nt all m p0 (o :: l) k i c dirty rd hs env h = cnd (cV nt o.dst) (bnd (bJ C rec all o env h) fun v h' => eE C rec nt all m p0 l k (i + 1) c dirty rd hs (bP env o.dst v) h') := by
    change cnd (cV nt o.dst) (match bU C.P o.op with | .pure => _ | .reads => _ | .makes => _ | .acts => _) = _
    rw [hc]
    rfl
   rw [e]
   cases cV nt o.dst with
   | false => rfl
   | true =>
    simp only [cond_true]
    cases hs : bJ C rec all o env h with
    | none => rfl
    | some p => exact hO k _ _
  | reads =>
   have hex : ∀ (env : aV) (v : DV), ∃ O : aV → Hp → Option (aV × Hp), ∀ k e h, eE C rec nt all m p0 l k (i + 1) c dirty (⟨i, bJ C rec all o env, v⟩ :: rd) hs e h = match O e h with
    | none => none
    | some (e, h) => k e h := fun env v => ih (i + 1) c dirty (⟨i, bJ C rec all o env, v⟩ :: rd) hs
   refine ⟨fun env h => bif cV nt o.dst then (match bJ C rec all o env h with
    | some (v, h') => bif eH m i v (bJ C rec all o env) dirty hs then (hex env v).choose (bP env o.dst v) h' else none
    | none => none) else none, fun k env h => ?_⟩
   have e : eE C rec nt all m p0 (o :: l) k i c dirty rd hs env h = cnd (cV nt o.dst) (bnd (bJ C rec all o env h) fun v h' =>
     cnd (eH m i v (bJ C rec all o env) dirty hs) (eE C rec nt all m p0 l k (i + 1) c dirty (⟨i, bJ C rec all o env, v⟩ :: rd) hs (bP env o.dst v) h')) := by
    change cnd (cV nt o.dst) (match bU C.P o.op with | .pure => _ | .reads => _ | .makes => _ | .acts => _) = _
    rw [hc]
    rfl
   rw [e]
   cases cV nt o.dst with
   | false => rfl
   | true =>
    simp only [cond_true]
    cases hs2 : bJ C rec all o env h with
    | none => rfl
    | some p =>
     obtain ⟨v, h'⟩ := p
     show cnd (eH m i v (bJ C rec all o env) dirty hs) _ = _
     cases hcc : eH m i v (bJ C rec all o env) dirty hs with
     | false => simp only [hcc, cond_false]
     | true => simp only [hcc, cond_true]; exact (hex env v).choose_spec k _ _
  | makes =>
   obtain ⟨O, hO⟩ := ih (i + 1) (c + 1) true rd hs
   refine ⟨fun env h => bif cV nt o.dst then (match dO C o (bD c p0) env h with
    | some (v, h') => O (bP env o.dst v) h'
    | none => none) else none, fun k env h => ?_⟩
   have e : eE C rec nt all m p0 (o :: l) k i c dirty rd hs env h = cnd (cV nt o.dst) (bnd (dO C o (bD c p0) env h) fun v h' => eE C rec nt all m p0 l k (i + 1) (c + 1) true rd hs (bP env o.dst v) h') := by
    change cnd (cV nt o.dst) (match bU C.P o.op with | .pure => _ | .reads => _ | .makes => _ | .acts => _) = _
    rw [hc]
    rfl
   rw [e]
   cases cV nt o.dst with
   | false => rfl
   | true =>
    simp only [cond_true]
    cases hs : dO C o (bD c p0) env h with
    | none => rfl
    | some p => exact hO k _ _
  | acts =>
   have hex : ∀ h' : Hp, ∃ O : aV → Hp → Option (aV × Hp), ∀ k e h, eE C rec nt all m p0 l k (i + 1) c false rd ((some i, h') :: hs) e h = match O e h with
    | none => none
    | some (e, h) => k e h := fun h' => ih (i + 1) c false rd ((some i, h') :: hs)
   refine ⟨fun env h => bif cV nt o.dst then (match bJ C rec all o env h with
    | some (v, h') => bif rd.all (fun q => gR m q.at_ i || aW (q.look h') q.v) then (hex h').choose (bP env o.dst v) h' else none
    | none => none) else none, fun k env h => ?_⟩
   have e : eE C rec nt all m p0 (o :: l) k i c dirty rd hs env h = cnd (cV nt o.dst) (bnd (bJ C rec all o env h) fun v h' =>
     cnd (rd.all (fun q => gR m q.at_ i || aW (q.look h') q.v)) (eE C rec nt all m p0 l k (i + 1) c false rd ((some i, h') :: hs) (bP env o.dst v) h')) := by
    change cnd (cV nt o.dst) (match bU C.P o.op with | .pure => _ | .reads => _ | .makes => _ | .acts => _) = _
    rw [hc]
    rfl
   rw [e]
   cases cV nt o.dst with
   | false => rfl
   | true =>
    simp only [cond_true]
    cases hs2 : bJ C rec all o env h with
    | none => rfl
    | some p =>
     obtain ⟨v, h'⟩ := p
     show cnd (rd.all (fun q => gR m q.at_ i || aW (q.look h') q.v)) _ = _
     cases hcc : rd.all (fun q => gR m q.at_ i || aW (q.look h') q.v) with
     | false => simp only [hcc, cond_false]
     | true => simp only [hcc, cond_true]; exact (hex h').choose_spec k _ _
theorem xQ (n : Nat) : ∀ c : Code, ∃ O : aV → Hp → Option Out, ∀ X kr k env h, aM C rec nt n c X kr k env h = ePx (O env h) X kr k := by
 have hfail : ∃ O : aV → Hp → Option Out, ∀ (X : Nat → K) (kr k : K) (env : aV) (h : Hp), cJ env h = ePx (O env h) X kr k := ⟨fun _ _ => none, fun X kr k env h => rfl⟩
 intro c
 induction c with
 | skip => exact ⟨fun e h => some (.n e h), fun X kr k env h => rfl⟩
 | region id ops dr =>
  cases dr with
  | false =>
   obtain ⟨O, hO⟩ := bEl (C := C) (rec := rec) (nt := nt) ops ops.toList
   refine ⟨fun env h => (O env h).map fun p => .n p.1 p.2, fun X kr k env h => ?_⟩
   show gV C rec nt ops ops.toList k env h = _
   rw [hO]
   dsimp only
   cases hh : O env h <;> rfl
  | true =>
   cases hd : eJ C.P ops with
   | false =>
    refine ⟨fun _ _ => none, fun X kr k env h => ?_⟩
    show (Bool.rec (motive := fun _ => K) cJ (iE C rec nt ops k) (eJ C.P ops)) env h = _
    rw [hd]; rfl
   | true =>
    have hex : ∀ h : Hp, _ := fun h => aQb (C := C) (rec := rec) (nt := nt) ops (Region.before ops) h.next ops.toList 0 0 false [] [(none, resv (cE C.P ops.toList) h)]
    refine ⟨fun env h => ((hex h).choose env (resv (cE C.P ops.toList) h)).map fun p => .n p.1 p.2, fun X kr k env h => ?_⟩
    have e : aM C rec nt n (.region id ops true) X kr k env h = iE C rec nt ops k env h := by
     show (Bool.rec (motive := fun _ => K) cJ (iE C rec nt ops k) (eJ C.P ops)) env h = _
     rw [hd]
    rw [e]
    unfold iE
    rw [(hex h).choose_spec k env _]
    dsimp only
    cases hh : (hex h).choose env (resv (cE C.P ops.toList) h) <;> rfl
 | seq x y ihx ihy =>
  obtain ⟨O1, h1⟩ := ihx
  obtain ⟨O2, h2⟩ := ihy
  refine ⟨fun env h => match O1 env h with
   | some (.n e h) => O2 e h
   | o => o, fun X kr k env h => ?_⟩
  show aM C rec nt n x X kr (aM C rec nt n y X kr k) env h = _
  rw [h1]
  dsimp only
  cases ho : O1 env h with
  | none => rfl
  | some o =>
   cases o with
   | n e h' => exact h2 X kr k e h'
   | x i e h' => rfl
   | r e h' => rfl
 | cond c x y ihx ihy =>
  obtain ⟨O1, h1⟩ := ihx
  obtain ⟨O2, h2⟩ := ihy
  refine ⟨fun env h => match opr env c with
   | .b true => O1 env h
   | .b false => O2 env h
   | _ => none, fun X kr k env h => ?_⟩
  show aU (opr env c) (aM C rec nt n x X kr k env h) (aM C rec nt n y X kr k env h) = _
  rw [h1, h2]
  unfold aU
  dsimp only
  cases opr env c <;> try rfl
  rename_i b
  cases b <;> rfl
 | block id x ih =>
  obtain ⟨O1, h1⟩ := ih
  refine ⟨fun env h => match O1 env h with
   | some (.x i e h') => bif Nat.beq i id then some (.n e h') else some (.x i e h')
   | o => o, fun X kr k env h => ?_⟩
  show aM C rec nt n x (fun j => bif Nat.beq j id then k else X j) kr k env h = _
  rw [h1]
  dsimp only
  cases ho : O1 env h with
  | none => rfl
  | some o =>
   cases o with
   | n e h' => rfl
   | r e h' => rfl
   | x i e h' =>
    simp only [ePx]
    cases hb : Nat.beq i id with
    | true => rfl
    | false => rfl
 | loop x ih =>
  obtain ⟨O1, h1⟩ := ih
  have key : ∀ m : Nat, ∃ O : aV → Hp → Option Out, ∀ (X : Nat → K) (kr k : K) env h, aL (fun kk => aM C rec nt n x X kr kk) m env h = ePx (O env h) X kr k := by
   intro m
   induction m with
   | zero => exact ⟨fun _ _ => none, fun X kr k env h => rfl⟩
   | succ m ihm =>
    obtain ⟨O2, h2⟩ := ihm
    refine ⟨fun env h => match O1 env h with
     | some (.n e h) => O2 e h
     | o => o, fun X kr k env h => ?_⟩
    show aM C rec nt n x X kr (aL (fun kk => aM C rec nt n x X kr kk) m) env h = _
    rw [h1]
    dsimp only
    cases ho : O1 env h with
    | none => rfl
    | some o =>
     cases o with
     | n e h' => exact h2 X kr k e h'
     | x i e h' => rfl
     | r e h' => rfl
  exact key n
 | rangeFunc f ps x y ihx ihy => exact hfail
 | exit id => exact ⟨fun e h => some (.x id e h), fun X kr k env h => rfl⟩
 | scope x ih => exact ih
 | label l => exact ⟨fun e h => some (.n e h), fun X kr k env h => rfl⟩
 | goto l => exact hfail
 | ret => exact ⟨fun e h => some (.r e h), fun X kr k env h => rfl⟩
 | refuse why => exact hfail
end
end Go.Dd

namespace Go.Dd
open Go.Proofs
noncomputable def t20 (rec : FuncId → List DV → Hp → aK) (n : Nat) (x0 x1 : DV) (h0 : Hp) : aK :=
 bnd (aF .eql x1 (.i .i64 (Int.ofNat 0)) h0) fun v1 h1 =>
 bnd (gD v1 false (some (x1, h1)) h1) fun v2 h2 =>
 bnd (gD v1 false (aF .eql v2 (.i .i64 (Int.ofNat 2)) h2) h2) fun v3 h3 =>
 bnd (aQ v1 (.b true) v3 h3) fun v4 h4 =>
 bnd (gD v4 false (some (x1, h4)) h4) fun v5 h5 =>
 bnd (gD v4 false (aF .eql v5 (.i .i64 (Int.ofNat 4)) h5) h5) fun v6 h6 =>
 bnd (aQ v4 (.b true) v6 h6) fun v7 h7 =>
 bnd (gD v7 false (some (x1, h7)) h7) fun v8 h8 =>
 bnd (gD v7 false (rec 45 [v8] h8) h8) fun v9 h9 =>
 bnd (aQ v7 (.b true) v9 h9) fun v10 h10 =>
 bnd (gD v10 false (some (x0, h10)) h10) fun v11 h11 =>
 bnd (gD v10 false (some (x1, h11)) h11) fun v12 h12 =>
 bnd (gD v10 false (rec 46 [v11, v12] h12) h12) fun v13 h13 =>
 bnd (aQ v10 (.b true) v13 h13) fun v14 h14 =>
 some (v14, h14)
noncomputable def E20 (rec : FuncId → List DV → Hp → aK) (n : Nat) (c : Code) (X : Nat → K) (k : K) : K := aM CF1 rec 24 n c X (aR CF1 Tryz.f18) k
theorem eKe (rec : FuncId → List DV → Hp → aK) (n : Nat) : E20 rec n (cf Tryz.f18) x0 (aR CF1 Tryz.f18) = (fun (env : aV) (h : Hp) => t20 rec n (env 0) (env 1) h) :=
 (by kernel_rfl)
theorem dZu (rec : FuncId → List DV → Hp → aK) (n : Nat) (args : List DV) (h : Hp) : aE CF1 rec n 18 args h = t20 rec n (args.getD 0 bB) (args.getD 1 bB) h :=
 (by kernel_rfl : aE CF1 rec n 18 args h = E20 rec n (cf Tryz.f18) x0 (aR CF1 Tryz.f18) (aJ args) h).trans ((congrFun (congrFun (eKe rec n) (aJ args)) h).trans (by kernel_rfl))
noncomputable def t21 (rec : FuncId → List DV → Hp → aK) (n : Nat) (x0 x1 : DV) (h0 : Hp) : aK :=
 bnd (rec 98 [x1] h0) fun v1 h1 =>
 bnd (gD v1 true (some (x0, h1)) h1) fun v2 h2 =>
 bnd (gD v1 true (aO v2 h2) h2) fun v3 h3 =>
 bnd (gD v1 true (aB 3 v3 h3) h3) fun v4 h4 =>
 bnd (gD v1 true (aA v4 h4) h4) fun v5 h5 =>
 bnd (gD v1 true (some (x1, h5)) h5) fun v6 h6 =>
 bnd (gD v1 true (rec 99 [v6] h6) h6) fun v7 h7 =>
 cnd (aW (gD v1 true (aA v4 h7) h7) v5 && true) (
 bnd (gD v1 true (gM (.int .i64) (.b false) false v5 v7 h7) h7) fun v8 h8 =>
 bnd (aQ v1 v8 (.b false) h8) fun v9 h9 =>
 some (v9, h9))
noncomputable def E21 (rec : FuncId → List DV → Hp → aK) (n : Nat) (c : Code) (X : Nat → K) (k : K) : K := aM CF1 rec 16 n c X (aR CF1 Tryz.f46) k
theorem eLh (rec : FuncId → List DV → Hp → aK) (n : Nat) : E21 rec n (cf Tryz.f46) x0 (aR CF1 Tryz.f46) = (fun (env : aV) (h : Hp) => t21 rec n (env 0) (env 1) h) :=
 (by kernel_rfl)
theorem eEx (rec : FuncId → List DV → Hp → aK) (n : Nat) (args : List DV) (h : Hp) : aE CF1 rec n 46 args h = t21 rec n (args.getD 0 bB) (args.getD 1 bB) h :=
 (by kernel_rfl : aE CF1 rec n 46 args h = E21 rec n (cf Tryz.f46) x0 (aR CF1 Tryz.f46) (aJ args) h).trans ((congrFun (congrFun (eLh rec n) (aJ args)) h).trans (by kernel_rfl))
noncomputable def t22 (rec : FuncId → List DV → Hp → aK) (n : Nat) (x0 : DV) (h0 : Hp) : aK :=
 bnd (aO x0 h0) fun v1 h1 =>
 bnd (aB 0 v1 h1) fun v2 h2 =>
 bnd (aA v2 h2) fun v3 h3 =>
 bnd (bK v3 h3) fun v4 h4 =>
 some (v4, h4)
noncomputable def E22 (rec : FuncId → List DV → Hp → aK) (n : Nat) (c : Code) (X : Nat → K) (k : K) : K := aM CF1 rec 8 n c X (aR CF1 Tryz.f94) k
theorem eMr (rec : FuncId → List DV → Hp → aK) (n : Nat) : E22 rec n (cf Tryz.f94) x0 (aR CF1 Tryz.f94) = (fun (env : aV) (h : Hp) => t22 rec n (env 0) h) :=
 (by kernel_rfl)
theorem eEz (rec : FuncId → List DV → Hp → aK) (n : Nat) (args : List DV) (h : Hp) : aE CF1 rec n 94 args h = t22 rec n (args.getD 0 bB) h :=
 (by kernel_rfl : aE CF1 rec n 94 args h = E22 rec n (cf Tryz.f94) x0 (aR CF1 Tryz.f94) (aJ args) h).trans ((congrFun (congrFun (eMr rec n) (aJ args)) h).trans (by kernel_rfl))
noncomputable def t29 (rec : FuncId → List DV → Hp → aK) (n : Nat) (x0 : DV) (h0 : Hp) : aK :=
 bnd (aO x0 h0) fun v1 h1 =>
 bnd (aB 0 v1 h1) fun v2 h2 =>
 bnd (aA v2 h2) fun v3 h3 =>
 bnd (bK v3 h3) fun v4 h4 =>
 bnd (aO x0 h4) fun v5 h5 =>
 bnd (aB 1 v5 h5) fun v6 h6 =>
 bnd (aA v6 h6) fun v7 h7 =>
 bnd (aF .sub v4 v7 h7) fun v8 h8 =>
 some (v8, h8)
noncomputable def E29 (rec : FuncId → List DV → Hp → aK) (n : Nat) (c : Code) (X : Nat → K) (k : K) : K := aM CF1 rec 13 n c X (aR CF1 Tryz.f75) k
theorem eMd (rec : FuncId → List DV → Hp → aK) (n : Nat) : E29 rec n (cf Tryz.f75) x0 (aR CF1 Tryz.f75) = (fun (env : aV) (h : Hp) => t29 rec n (env 0) h) :=
 (by kernel_rfl)
theorem dZo (rec : FuncId → List DV → Hp → aK) (n : Nat) (args : List DV) (h : Hp) : aE CF1 rec n 75 args h = t29 rec n (args.getD 0 bB) h :=
 (by kernel_rfl : aE CF1 rec n 75 args h = E29 rec n (cf Tryz.f75) x0 (aR CF1 Tryz.f75) (aJ args) h).trans ((congrFun (congrFun (eMd rec n) (aJ args)) h).trans (by kernel_rfl))
noncomputable def t30 (rec : FuncId → List DV → Hp → aK) (n : Nat) (x0 x1 x2 x3 : DV) (h0 : Hp) : aK :=
 bnd (rec 74 [x0, x1] h0) fun v1 h1 =>
 bnd (eO .not v1 h1) fun v2 h2 =>
 bnd (gD v2 false (some (x2, h2)) h2) fun v3 h3 =>
 bnd (gD v2 false (aF .lss v3 (.i .i64 (Int.ofNat 0)) h3) h3) fun v4 h4 =>
 bnd (aQ v2 (.b true) v4 h4) fun v5 h5 =>
 bnd (gD v5 false (some (x2, h5)) h5) fun v6 h6 =>
 bnd (gD v5 false (aF .gtr v6 (.i .i64 (Int.ofNat 2)) h6) h6) fun v7 h7 =>
 bnd (aQ v5 (.b true) v7 h7) fun v8 h8 =>
 bnd (gD v8 false (some (x3, h8)) h8) fun v9 h9 =>
 bnd (gD v8 false (aF .lss v9 (.i .i64 (Int.ofNat 0)) h9) h9) fun v10 h10 =>
 bnd (aQ v8 (.b true) v10 h10) fun v11 h11 =>
 bnd (gD v11 false (some (x3, h11)) h11) fun v12 h12 =>
 bnd (gD v11 false (aF .gtr v12 (.i .i64 (Int.ofNat 256)) h12) h12) fun v13 h13 =>
 bnd (aQ v11 (.b true) v13 h13) fun v14 h14 =>
 aU v14 (
  some (.t [(.i .i64 (Int.ofNat 0)), (.i .i64 (Int.ofNat 1))], h14)) (
  bnd (rec 75 [x0] h14) fun v15 h15 =>
  bnd (aF .add x3 (.i .i64 (Int.ofNat 3)) h15) fun v16 h16 =>
  bnd (aF .lss v15 v16 h16) fun v17 h17 =>
  bnd (gD v17 false (some (x0, h17)) h17) fun v18 h18 =>
  bnd (gD v17 false (aO v18 h18) h18) fun v19 h19 =>
  bnd (gD v17 false (aB 2 v19 h19) h19) fun v20 h20 =>
  bnd (gD v17 false (aA v20 h20) h20) fun v21 h21 =>
  bnd (gD v17 false (aF .geq v21 (.i .i64 (Int.ofNat 1099511627776)) h21) h21) fun v22 h22 =>
  bnd (aQ v17 (.b true) v22 h22) fun v23 h23 =>
  aU v23 (
   some (.t [(.i .i64 (Int.ofNat 0)), (.i .i64 (Int.ofNat 4))], h23)) (
   bnd (aO x0 h23) fun v24 h24 =>
   bnd (aB 1 v24 h24) fun v25 h25 =>
   bnd (aA v25 h25) fun v26 h26 =>
   bnd (aO x0 h26) fun v27 h27 =>
   bnd (aB 2 v27 h27) fun v28 h28 =>
   bnd (aA v28 h28) fun v29 h29 =>
   bnd (aF .add v29 (.i .i64 (Int.ofNat 1)) h29) fun v30 h30 =>
   bnd (aO x0 h30) fun v31 h31 =>
   bnd (aB 2 v31 h31) fun v32 h32 =>
   bnd (aD 1 v32 v30 h32) fun _ h33 =>
   bnd (aO x0 h33) fun v34 h34 =>
   bnd (aB 0 v34 h34) fun v35 h35 =>
   bnd (aA v35 h35) fun v36 h36 =>
   bnd (aO x0 h36) fun v37 h37 =>
   bnd (aB 0 v37 h37) fun v38 h38 =>
   bnd (aA v38 h38) fun v39 h39 =>
   bnd (aF .add v26 (.i .i64 (Int.ofNat 1)) h39) fun v40 h40 =>
   bnd (aO x0 h40) fun v41 h41 =>
   bnd (aB 0 v41 h41) fun v42 h42 =>
   bnd (aA v42 h42) fun v43 h43 =>
   bnd (aF .add v26 (.i .i64 (Int.ofNat 2)) h43) fun v44 h44 =>
   bnd (dF .shl x3 (.i .u64 (Int.ofNat 2)) h44) fun v45 h45 =>
   bnd (aF .or v45 x2 h45) fun v46 h46 =>
   bnd (aO x0 h46) fun v47 h47 =>
   bnd (aB 2 v47 h47) fun v48 h48 =>
   bnd (aA v48 h48) fun v49 h49 =>
   bnd (aI 1 v36 v26 h49) fun v50 h50 =>
   bnd (aD 1 v50 v46 h50) fun v51 h51 =>
   bnd (aI 1 v39 v40 h51) fun v52 h52 =>
   bnd (aD 1 v52 x1 h52) fun v53 h53 =>
   bnd (aI 1 v43 v44 h53) fun v54 h54 =>
   bnd (aD 1 v54 v49 h54) fun v55 h55 =>
   bnd (aO x0 h55) fun v56 h56 =>
   bnd (aB 0 v56 h56) fun v57 h57 =>
   bnd (aA v57 h57) fun v58 h58 =>
   bnd (aF .add v26 (.i .i64 (Int.ofNat 3)) h58) fun v59 h59 =>
   bnd (aF .add v26 (.i .i64 (Int.ofNat 3)) h59) fun v60 h60 =>
   bnd (aF .add v60 x3 h60) fun v61 h61 =>
   bnd (cT 1 v58 (some v59) (some v61) h61) fun v62 h62 =>
   bnd (jD [(.i .i64 (Int.ofNat 0))] v62 h62) fun _ h63 =>
   bnd (aO x0 h63) fun v64 h64 =>
   bnd (aB 1 v64 h64) fun v65 h65 =>
   bnd (aA v65 h65) fun v66 h66 =>
   bnd (aF .add x3 (.i .i64 (Int.ofNat 3)) h66) fun v67 h67 =>
   bnd (aF .add v66 v67 h67) fun v68 h68 =>
   bnd (aO x0 h68) fun v69 h69 =>
   bnd (aB 1 v69 h69) fun v70 h70 =>
   bnd (aD 1 v70 v68 h70) fun _ h71 =>
   bnd (aO x0 h71) fun v72 h72 =>
   bnd (aB 3 v72 h72) fun v73 h73 =>
   bnd (aA v73 h73) fun v74 h74 =>
   bnd (gL (.int .i64) v74 v26 (.b true) h74) fun _ h75 =>
   bnd (rec 76 [v26] h75) fun v76 h76 =>
   bnd (aG 0 v76 h76) fun v77 h77 =>
   bnd (aG 1 v76 h77) fun v78 h78 =>
   some (.t [v77, (.i .i64 (Int.ofNat 0))], h78)))
noncomputable def E30 (rec : FuncId → List DV → Hp → aK) (n : Nat) (c : Code) (X : Nat → K) (k : K) : K := aM CF1 rec 118 n c X (aR CF1 Tryz.f31) k
theorem eNm (rec : FuncId → List DV → Hp → aK) (n : Nat) : E30 rec n (cf Tryz.f31) x0 (aR CF1 Tryz.f31) = (fun (env : aV) (h : Hp) => t30 rec n (env 0) (env 1) (env 2) (env 3) h) :=
 (by kernel_rfl)
theorem eEi (rec : FuncId → List DV → Hp → aK) (n : Nat) (args : List DV) (h : Hp) : aE CF1 rec n 31 args h = t30 rec n (args.getD 0 bB) (args.getD 1 bB) (args.getD 2 bB) (args.getD 3 bB) h :=
 (by kernel_rfl : aE CF1 rec n 31 args h = E30 rec n (cf Tryz.f31) x0 (aR CF1 Tryz.f31) (aJ args) h).trans ((congrFun (congrFun (eNm rec n) (aJ args)) h).trans (by kernel_rfl))
noncomputable def t41 (rec : FuncId → List DV → Hp → aK) (n : Nat) (x0 : DV) (h0 : Hp) : aK :=
 bnd (aF .lss x0 (.i .i64 (Int.ofNat 16)) h0) fun v1 h1 =>
 bnd (gD v1 false (some (x0, h1)) h1) fun v2 h2 =>
 bnd (gD v1 false (aF .gtr v2 (.i .i64 (Int.ofNat 131072)) h2) h2) fun v3 h3 =>
 bnd (aQ v1 (.b true) v3 h3) fun v4 h4 =>
 aU v4 (
  some (.p0, h4)) (
  bnd (cI 1 8 [(.i .i64 (Int.ofNat 0))] x0 x0 h4) fun v5 h5 =>
  bnd (dW h5) fun v6 h6 =>
  bnd (aT [.l0, (.i .i64 (Int.ofNat 0)), (.i .i64 (Int.ofNat 0)), .m0] [(0, 1, v5), (1, 1, (.i .i64 (Int.ofNat 3))), (3, 1, v6)] h6) fun v7 h7 =>
  bnd (bM v7 h7) fun v8 h8 =>
  some (v8, h8))
noncomputable def E41 (rec : FuncId → List DV → Hp → aK) (n : Nat) (c : Code) (X : Nat → K) (k : K) : K := aM CF1 rec 14 n c X (aR CF1 Tryz.f30) k
theorem eIz (rec : FuncId → List DV → Hp → aK) (n : Nat) : E41 rec n (cf Tryz.f30) x0 (aR CF1 Tryz.f30) = (fun (env : aV) (h : Hp) => t41 rec n (env 0) h) :=
 (by kernel_rfl)
theorem dGj (rec : FuncId → List DV → Hp → aK) (n : Nat) (args : List DV) (h : Hp) : aE CF1 rec n 30 args h = t41 rec n (args.getD 0 bB) h :=
 (by kernel_rfl : aE CF1 rec n 30 args h = E41 rec n (cf Tryz.f30) x0 (aR CF1 Tryz.f30) (aJ args) h).trans ((congrFun (congrFun (eIz rec n) (aJ args)) h).trans (by kernel_rfl))
noncomputable def t44 (rec : FuncId → List DV → Hp → aK) (n : Nat) (x0 x1 x2 : DV) (h0 : Hp) : aK :=
 bnd (rec 85 [x0, x1] h0) fun v1 h1 =>
 bnd (aF .eql v1 (.i .i64 (Int.ofNat 0)) h1) fun v2 h2 =>
 bnd (gD v2 false (some (x0, h2)) h2) fun v3 h3 =>
 bnd (gD v2 false (some (x2, h3)) h3) fun v4 h4 =>
 bnd (gD v2 false (rec 74 [v3, v4] h4) h4) fun v5 h5 =>
 bnd (gD v2 false (eO .not v5 h5) h5) fun v6 h6 =>
 bnd (aQ v2 (.b true) v6 h6) fun v7 h7 =>
 aU v7 (
  some ((.i .i64 (Int.ofNat 1)), h7)) (
  bnd (aO x0 h7) fun v8 h8 =>
  bnd (aB 0 v8 h8) fun v9 h9 =>
  bnd (aA v9 h9) fun v10 h10 =>
  bnd (aF .add v1 (.i .i64 (Int.ofNat 1)) h10) fun v11 h11 =>
  bnd (aI 1 v10 v11 h11) fun v12 h12 =>
  bnd (aD 1 v12 x2 h12) fun _ h13 =>
  some ((.i .i64 (Int.ofNat 0)), h13))
noncomputable def E44 (rec : FuncId → List DV → Hp → aK) (n : Nat) (c : Code) (X : Nat → K) (k : K) : K := aM CF1 rec 27 n c X (aR CF1 Tryz.f35) k
theorem eLc (rec : FuncId → List DV → Hp → aK) (n : Nat) : E44 rec n (cf Tryz.f35) x0 (aR CF1 Tryz.f35) = (fun (env : aV) (h : Hp) => t44 rec n (env 0) (env 1) (env 2) h) :=
 (by kernel_rfl)
theorem eEd (rec : FuncId → List DV → Hp → aK) (n : Nat) (args : List DV) (h : Hp) : aE CF1 rec n 35 args h = t44 rec n (args.getD 0 bB) (args.getD 1 bB) (args.getD 2 bB) h :=
 (by kernel_rfl : aE CF1 rec n 35 args h = E44 rec n (cf Tryz.f35) x0 (aR CF1 Tryz.f35) (aJ args) h).trans ((congrFun (congrFun (eLc rec n) (aJ args)) h).trans (by kernel_rfl))
noncomputable def sU (rec : FuncId → List DV → Hp → aK) (n : Nat) (x0 x3 x9 : DV) (h0 : Hp) : aK :=
 bnd (aO x0 h0) fun v1 h1 =>
 bnd (aB 0 v1 h1) fun v2 h2 =>
 bnd (aA v2 h2) fun v3 h3 =>
 bnd (aI 1 v3 x9 h3) fun v4 h4 =>
 bnd (aD 1 v4 x3 h4) fun _ h5 =>
 some ((.i .i64 (Int.ofNat 0)), h5)
noncomputable def bJb (rec : FuncId → List DV → Hp → aK) (n : Nat) (x0 x1 x3 x9 : DV) (h0 : Hp) : aK :=
 bnd (rec 90 [x0, x1] h0) fun v11 h11 =>
 bnd (aF .eql v11 (.i .i64 (Int.ofNat 0)) h11) fun v12 h12 =>
 aU v12 (
  bnd (rec 18 [x0, x3] h12) fun v13 h13 =>
  bnd (eO .not v13 h13) fun v14 h14 =>
  aU v14 (
   some ((.i .i64 (Int.ofNat 6)), h14)) (
   sU rec n x0 x3 x9 h14)) (
  bnd (aF .eql v11 (.i .i64 (Int.ofNat 2)) h12) fun v15 h15 =>
  aU v15 (
   bnd (aF .lss x3 (.i .i64 (Int.ofNat 0)) h15) fun v16 h16 =>
   bnd (gD v16 false (some (x3, h16)) h16) fun v17 h17 =>
   bnd (gD v16 false (aF .gtr v17 (.i .i64 (Int.ofNat 255)) h17) h17) fun v18 h18 =>
   bnd (aQ v16 (.b true) v18 h18) fun v19 h19 =>
   aU v19 (
    some ((.i .i64 (Int.ofNat 6)), h19)) (
    sU rec n x0 x3 x9 h19)) (
   sU rec n x0 x3 x9 h15))
noncomputable def aPt (rec : FuncId → List DV → Hp → aK) (n : Nat) (x0 x1 x3 x9 x10 : DV) (h0 : Hp) : aK :=
 bnd (aF .neq x10 (.i .i64 (Int.ofNat 0)) h0) fun v29 h29 =>
 aU v29 (
  some (x10, h29)) (
  bJb rec n x0 x1 x3 x9 h29)
noncomputable def bIm (rec : FuncId → List DV → Hp → aK) (n : Nat) (x0 x1 x2 x3 : DV) (h0 : Hp) : aK :=
 bnd (rec 89 [x0, x1, x2] h0) fun v31 h31 =>
 bnd (aG 0 v31 h31) fun v32 h32 =>
 bnd (aG 1 v31 h32) fun v33 h33 =>
 aPt rec n x0 x1 x3 v32 v33 h33
noncomputable def t47 (rec : FuncId → List DV → Hp → aK) (n : Nat) (x0 x1 x2 x3 : DV) (h0 : Hp) : aK :=
 bIm rec n x0 x1 x2 x3 h0
noncomputable def E47 (rec : FuncId → List DV → Hp → aK) (n : Nat) (c : Code) (X : Nat → K) (k : K) : K := aM CF1 rec 45 n c X (aR CF1 Tryz.f38) k
theorem dWx (rec : FuncId → List DV → Hp → aK) (n : Nat) : E47 rec n (cR (cR (cR (cR (cf Tryz.f38))))) x0 (aR CF1 Tryz.f38) = (fun (env : aV) (h : Hp) => sU rec n (env 0) (env 3) (env 9) h) :=
 (by kernel_rfl)
theorem cOh (rec : FuncId → List DV → Hp → aK) (n : Nat) : E47 rec n (cR (cR (cR (cf Tryz.f38)))) x0 (aR CF1 Tryz.f38) = E47 rec n (cL (cR (cR (cR (cf Tryz.f38))))) x0 (fun (env : aV) (h : Hp) => sU rec n (env 0) (env 3) (env 9) h) :=
 congrArg (fun k => E47 rec n (cL (cR (cR (cR (cf Tryz.f38))))) x0 k) (dWx rec n)
theorem dNq (rec : FuncId → List DV → Hp → aK) (n : Nat) : E47 rec n (cR (cR (cR (cf Tryz.f38)))) x0 (aR CF1 Tryz.f38) = (fun (env : aV) (h : Hp) => bJb rec n (env 0) (env 1) (env 3) (env 9) h) :=
 (cOh rec n).trans
 ((by kernel_rfl))
theorem cZo (rec : FuncId → List DV → Hp → aK) (n : Nat) : E47 rec n (cR (cR (cf Tryz.f38))) x0 (aR CF1 Tryz.f38) = E47 rec n (cL (cR (cR (cf Tryz.f38)))) x0 (fun (env : aV) (h : Hp) => bJb rec n (env 0) (env 1) (env 3) (env 9) h) :=
 congrArg (fun k => E47 rec n (cL (cR (cR (cf Tryz.f38)))) x0 k) (dNq rec n)
theorem dRj (rec : FuncId → List DV → Hp → aK) (n : Nat) : E47 rec n (cR (cR (cf Tryz.f38))) x0 (aR CF1 Tryz.f38) = (fun (env : aV) (h : Hp) => aPt rec n (env 0) (env 1) (env 3) (env 9) (env 10) h) :=
 (cZo rec n).trans
 ((by kernel_rfl))
theorem dCr (rec : FuncId → List DV → Hp → aK) (n : Nat) : E47 rec n (cR (cf Tryz.f38)) x0 (aR CF1 Tryz.f38) = E47 rec n (cL (cR (cf Tryz.f38))) x0 (fun (env : aV) (h : Hp) => aPt rec n (env 0) (env 1) (env 3) (env 9) (env 10) h) :=
 congrArg (fun k => E47 rec n (cL (cR (cf Tryz.f38))) x0 k) (dRj rec n)
theorem dOj (rec : FuncId → List DV → Hp → aK) (n : Nat) : E47 rec n (cR (cf Tryz.f38)) x0 (aR CF1 Tryz.f38) = (fun (env : aV) (h : Hp) => bIm rec n (env 0) (env 1) (env 2) (env 3) h) :=
 (dCr rec n).trans
 ((by kernel_rfl))
theorem eEq (rec : FuncId → List DV → Hp → aK) (n : Nat) : E47 rec n (cf Tryz.f38) x0 (aR CF1 Tryz.f38) = E47 rec n (cL (cf Tryz.f38)) x0 (fun (env : aV) (h : Hp) => bIm rec n (env 0) (env 1) (env 2) (env 3) h) :=
 congrArg (fun k => E47 rec n (cL (cf Tryz.f38)) x0 k) (dOj rec n)
theorem eLf (rec : FuncId → List DV → Hp → aK) (n : Nat) : E47 rec n (cf Tryz.f38) x0 (aR CF1 Tryz.f38) = (fun (env : aV) (h : Hp) => t47 rec n (env 0) (env 1) (env 2) (env 3) h) :=
 (eEq rec n).trans
 ((by kernel_rfl))
theorem eBu (rec : FuncId → List DV → Hp → aK) (n : Nat) (args : List DV) (h : Hp) : aE CF1 rec n 38 args h = t47 rec n (args.getD 0 bB) (args.getD 1 bB) (args.getD 2 bB) (args.getD 3 bB) h :=
 (by kernel_rfl : aE CF1 rec n 38 args h = E47 rec n (cf Tryz.f38) x0 (aR CF1 Tryz.f38) (aJ args) h).trans ((congrFun (congrFun (eLf rec n) (aJ args)) h).trans (by kernel_rfl))
noncomputable def t50 (rec : FuncId → List DV → Hp → aK) (n : Nat) (x0 x1 : DV) (h0 : Hp) : aK :=
 bnd (aO x0 h0) fun v1 h1 =>
 bnd (aB 0 v1 h1) fun v2 h2 =>
 bnd (aA v2 h2) fun v3 h3 =>
 bnd (rec 85 [x0, x1] h3) fun v4 h4 =>
 cnd (aW (aA v2 h4) v3 && true) (
 bnd (aF .add v4 (.i .i64 (Int.ofNat 1)) h4) fun v5 h5 =>
 bnd (aI 1 v3 v5 h5) fun v6 h6 =>
 bnd (aA v6 h6) fun v7 h7 =>
 some (v7, h7))
noncomputable def E50 (rec : FuncId → List DV → Hp → aK) (n : Nat) (c : Code) (X : Nat → K) (k : K) : K := aM CF1 rec 15 n c X (aR CF1 Tryz.f104) k
theorem eKl (rec : FuncId → List DV → Hp → aK) (n : Nat) : E50 rec n (cf Tryz.f104) x0 (aR CF1 Tryz.f104) = (fun (env : aV) (h : Hp) => t50 rec n (env 0) (env 1) h) :=
 (by kernel_rfl)
theorem dZn (rec : FuncId → List DV → Hp → aK) (n : Nat) (args : List DV) (h : Hp) : aE CF1 rec n 104 args h = t50 rec n (args.getD 0 bB) (args.getD 1 bB) h :=
 (by kernel_rfl : aE CF1 rec n 104 args h = E50 rec n (cf Tryz.f104) x0 (aR CF1 Tryz.f104) (aJ args) h).trans ((congrFun (congrFun (eKl rec n) (aJ args)) h).trans (by kernel_rfl))
noncomputable def t51 (rec : FuncId → List DV → Hp → aK) (n : Nat) (x0 x1 : DV) (h0 : Hp) : aK :=
 bnd (aO x0 h0) fun v1 h1 =>
 bnd (aB 0 v1 h1) fun v2 h2 =>
 bnd (aA v2 h2) fun v3 h3 =>
 bnd (rec 85 [x0, x1] h3) fun v4 h4 =>
 cnd (aW (aA v2 h4) v3 && true) (
 bnd (aI 1 v3 v4 h4) fun v5 h5 =>
 bnd (aA v5 h5) fun v6 h6 =>
 bnd (aF .and v6 (.i .i64 (Int.ofNat 3)) h6) fun v7 h7 =>
 some (v7, h7))
noncomputable def E51 (rec : FuncId → List DV → Hp → aK) (n : Nat) (c : Code) (X : Nat → K) (k : K) : K := aM CF1 rec 15 n c X (aR CF1 Tryz.f90) k
theorem eLu (rec : FuncId → List DV → Hp → aK) (n : Nat) : E51 rec n (cf Tryz.f90) x0 (aR CF1 Tryz.f90) = (fun (env : aV) (h : Hp) => t51 rec n (env 0) (env 1) h) :=
 (by kernel_rfl)
theorem eCr (rec : FuncId → List DV → Hp → aK) (n : Nat) (args : List DV) (h : Hp) : aE CF1 rec n 90 args h = t51 rec n (args.getD 0 bB) (args.getD 1 bB) h :=
 (by kernel_rfl : aE CF1 rec n 90 args h = E51 rec n (cf Tryz.f90) x0 (aR CF1 Tryz.f90) (aJ args) h).trans ((congrFun (congrFun (eLu rec n) (aJ args)) h).trans (by kernel_rfl))
noncomputable def t52 (rec : FuncId → List DV → Hp → aK) (n : Nat) (x0 x1 : DV) (h0 : Hp) : aK :=
 bnd (aO x0 h0) fun v1 h1 =>
 bnd (aB 0 v1 h1) fun v2 h2 =>
 bnd (aA v2 h2) fun v3 h3 =>
 bnd (rec 85 [x0, x1] h3) fun v4 h4 =>
 cnd (aW (aA v2 h4) v3 && true) (
 bnd (aI 1 v3 v4 h4) fun v5 h5 =>
 bnd (aA v5 h5) fun v6 h6 =>
 bnd (dF .shr v6 (.i .u64 (Int.ofNat 2)) h6) fun v7 h7 =>
 some (v7, h7))
noncomputable def E52 (rec : FuncId → List DV → Hp → aK) (n : Nat) (c : Code) (X : Nat → K) (k : K) : K := aM CF1 rec 15 n c X (aR CF1 Tryz.f73) k
theorem eLp (rec : FuncId → List DV → Hp → aK) (n : Nat) : E52 rec n (cf Tryz.f73) x0 (aR CF1 Tryz.f73) = (fun (env : aV) (h : Hp) => t52 rec n (env 0) (env 1) h) :=
 (by kernel_rfl)
theorem eDs (rec : FuncId → List DV → Hp → aK) (n : Nat) (args : List DV) (h : Hp) : aE CF1 rec n 73 args h = t52 rec n (args.getD 0 bB) (args.getD 1 bB) h :=
 (by kernel_rfl : aE CF1 rec n 73 args h = E52 rec n (cf Tryz.f73) x0 (aR CF1 Tryz.f73) (aJ args) h).trans ((congrFun (congrFun (eLp rec n) (aJ args)) h).trans (by kernel_rfl))
noncomputable def t54 (rec : FuncId → List DV → Hp → aK) (n : Nat) (x0 : DV) (h0 : Hp) : aK :=
 bnd (aF .and x0 (.i .i64 (Int.ofNat 1)) h0) fun v1 h1 =>
 bnd (aF .eql v1 (.i .i64 (Int.ofNat 1)) h1) fun v2 h2 =>
 bnd (gD v2 true (some (x0, h2)) h2) fun v3 h3 =>
 bnd (gD v2 true (dF .shr v3 (.i .u64 (Int.ofNat 1)) h3) h3) fun v4 h4 =>
 bnd (gD v2 true (rec 97 [v4, (.i .i64 (Int.negSucc 1073741823)), (.i .i64 (Int.ofNat 1073741823))] h4) h4) fun v5 h5 =>
 bnd (aQ v2 v5 (.b false) h5) fun v6 h6 =>
 some (v6, h6)
noncomputable def E54 (rec : FuncId → List DV → Hp → aK) (n : Nat) (c : Code) (X : Nat → K) (k : K) : K := aM CF1 rec 11 n c X (aR CF1 Tryz.f45) k
theorem eKr (rec : FuncId → List DV → Hp → aK) (n : Nat) : E54 rec n (cf Tryz.f45) x0 (aR CF1 Tryz.f45) = (fun (env : aV) (h : Hp) => t54 rec n (env 0) h) :=
 (by kernel_rfl)
theorem eGj (rec : FuncId → List DV → Hp → aK) (n : Nat) (args : List DV) (h : Hp) : aE CF1 rec n 45 args h = t54 rec n (args.getD 0 bB) h :=
 (by kernel_rfl : aE CF1 rec n 45 args h = E54 rec n (cf Tryz.f45) x0 (aR CF1 Tryz.f45) (aJ args) h).trans ((congrFun (congrFun (eKr rec n) (aJ args)) h).trans (by kernel_rfl))
noncomputable def t60 (rec : FuncId → List DV → Hp → aK) (n : Nat) (x0 : DV) (h0 : Hp) : aK :=
 bnd (rec 97 [x0, (.i .i64 (Int.negSucc 1073741823)), (.i .i64 (Int.ofNat 1073741823))] h0) fun v1 h1 =>
 bnd (eO .not v1 h1) fun v2 h2 =>
 aU v2 (
  some (.t [(.i .i64 (Int.ofNat 0)), (.b false)], h2)) (
  bnd (dF .shl x0 (.i .u64 (Int.ofNat 1)) h2) fun v3 h3 =>
  bnd (aF .or v3 (.i .i64 (Int.ofNat 1)) h3) fun v4 h4 =>
  some (.t [v4, (.b true)], h4))
noncomputable def E60 (rec : FuncId → List DV → Hp → aK) (n : Nat) (c : Code) (X : Nat → K) (k : K) : K := aM CF1 rec 10 n c X (aR CF1 Tryz.f88) k
theorem eKf (rec : FuncId → List DV → Hp → aK) (n : Nat) : E60 rec n (cf Tryz.f88) x0 (aR CF1 Tryz.f88) = (fun (env : aV) (h : Hp) => t60 rec n (env 0) h) :=
 (by kernel_rfl)
theorem eCb (rec : FuncId → List DV → Hp → aK) (n : Nat) (args : List DV) (h : Hp) : aE CF1 rec n 88 args h = t60 rec n (args.getD 0 bB) h :=
 (by kernel_rfl : aE CF1 rec n 88 args h = E60 rec n (cf Tryz.f88) x0 (aR CF1 Tryz.f88) (aJ args) h).trans ((congrFun (congrFun (eKf rec n) (aJ args)) h).trans (by kernel_rfl))
noncomputable def t62 (rec : FuncId → List DV → Hp → aK) (n : Nat) (x0 : DV) (h0 : Hp) : aK :=
 bnd (rec 45 [x0] h0) fun v1 h1 =>
 bnd (eO .not v1 h1) fun v2 h2 =>
 aU v2 (
  some ((.i .i64 (Int.ofNat 0)), h2)) (
  bnd (dF .shr x0 (.i .u64 (Int.ofNat 1)) h2) fun v3 h3 =>
  some (v3, h3))
noncomputable def E62 (rec : FuncId → List DV → Hp → aK) (n : Nat) (c : Code) (X : Nat → K) (k : K) : K := aM CF1 rec 8 n c X (aR CF1 Tryz.f122) k
theorem eNs (rec : FuncId → List DV → Hp → aK) (n : Nat) : E62 rec n (cf Tryz.f122) x0 (aR CF1 Tryz.f122) = (fun (env : aV) (h : Hp) => t62 rec n (env 0) h) :=
 (by kernel_rfl)
theorem eCt (rec : FuncId → List DV → Hp → aK) (n : Nat) (args : List DV) (h : Hp) : aE CF1 rec n 122 args h = t62 rec n (args.getD 0 bB) h :=
 (by kernel_rfl : aE CF1 rec n 122 args h = E62 rec n (cf Tryz.f122) x0 (aR CF1 Tryz.f122) (aJ args) h).trans ((congrFun (congrFun (eNs rec n) (aJ args)) h).trans (by kernel_rfl))
noncomputable def t63 (rec : FuncId → List DV → Hp → aK) (n : Nat) (x0 : DV) (h0 : Hp) : aK :=
 bnd (aF .and x0 (.i .i64 (Int.ofNat 1)) h0) fun v1 h1 =>
 bnd (aF .eql v1 (.i .i64 (Int.ofNat 0)) h1) fun v2 h2 =>
 bnd (gD v2 true (some (x0, h2)) h2) fun v3 h3 =>
 bnd (gD v2 true (dF .shr v3 (.i .u64 (Int.ofNat 1)) h3) h3) fun v4 h4 =>
 bnd (gD v2 true (rec 97 [v4, (.i .i64 (Int.ofNat 3)), (.i .i64 (Int.ofNat 131072))] h4) h4) fun v5 h5 =>
 bnd (aQ v2 v5 (.b false) h5) fun v6 h6 =>
 some (v6, h6)
noncomputable def E63 (rec : FuncId → List DV → Hp → aK) (n : Nat) (c : Code) (X : Nat → K) (k : K) : K := aM CF1 rec 11 n c X (aR CF1 Tryz.f98) k
theorem eMm (rec : FuncId → List DV → Hp → aK) (n : Nat) : E63 rec n (cf Tryz.f98) x0 (aR CF1 Tryz.f98) = (fun (env : aV) (h : Hp) => t63 rec n (env 0) h) :=
 (by kernel_rfl)
theorem eGw (rec : FuncId → List DV → Hp → aK) (n : Nat) (args : List DV) (h : Hp) : aE CF1 rec n 98 args h = t63 rec n (args.getD 0 bB) h :=
 (by kernel_rfl : aE CF1 rec n 98 args h = E63 rec n (cf Tryz.f98) x0 (aR CF1 Tryz.f98) (aJ args) h).trans ((congrFun (congrFun (eMm rec n) (aJ args)) h).trans (by kernel_rfl))
noncomputable def t64 (rec : FuncId → List DV → Hp → aK) (n : Nat) (x0 : DV) (h0 : Hp) : aK :=
 bnd (rec 98 [x0] h0) fun v1 h1 =>
 bnd (eO .not v1 h1) fun v2 h2 =>
 aU v2 (
  some ((.i .i64 (Int.ofNat 0)), h2)) (
  bnd (dF .shr x0 (.i .u64 (Int.ofNat 1)) h2) fun v3 h3 =>
  some (v3, h3))
noncomputable def E64 (rec : FuncId → List DV → Hp → aK) (n : Nat) (c : Code) (X : Nat → K) (k : K) : K := aM CF1 rec 8 n c X (aR CF1 Tryz.f99) k
theorem eMi (rec : FuncId → List DV → Hp → aK) (n : Nat) : E64 rec n (cf Tryz.f99) x0 (aR CF1 Tryz.f99) = (fun (env : aV) (h : Hp) => t64 rec n (env 0) h) :=
 (by kernel_rfl)
theorem dYc (rec : FuncId → List DV → Hp → aK) (n : Nat) (args : List DV) (h : Hp) : aE CF1 rec n 99 args h = t64 rec n (args.getD 0 bB) h :=
 (by kernel_rfl : aE CF1 rec n 99 args h = E64 rec n (cf Tryz.f99) x0 (aR CF1 Tryz.f99) (aJ args) h).trans ((congrFun (congrFun (eMi rec n) (aJ args)) h).trans (by kernel_rfl))
noncomputable def t73 (rec : FuncId → List DV → Hp → aK) (n : Nat) (x0 x1 x2 : DV) (h0 : Hp) : aK :=
 bnd (rec 89 [x0, x1, x2] h0) fun v1 h1 =>
 bnd (aG 0 v1 h1) fun v2 h2 =>
 bnd (aG 1 v1 h2) fun v3 h3 =>
 bnd (aF .neq v3 (.i .i64 (Int.ofNat 0)) h3) fun v4 h4 =>
 aU v4 (
  some (.t [(.i .i64 (Int.ofNat 0)), v3], h4)) (
  bnd (aO x0 h4) fun v5 h5 =>
  bnd (aB 0 v5 h5) fun v6 h6 =>
  bnd (aA v6 h6) fun v7 h7 =>
  bnd (aI 1 v7 v2 h7) fun v8 h8 =>
  bnd (aA v8 h8) fun v9 h9 =>
  some (.t [v9, (.i .i64 (Int.ofNat 0))], h9))
noncomputable def E73 (rec : FuncId → List DV → Hp → aK) (n : Nat) (c : Code) (X : Nat → K) (k : K) : K := aM CF1 rec 27 n c X (aR CF1 Tryz.f52) k
theorem eKm (rec : FuncId → List DV → Hp → aK) (n : Nat) : E73 rec n (cf Tryz.f52) x0 (aR CF1 Tryz.f52) = (fun (env : aV) (h : Hp) => t73 rec n (env 0) (env 1) (env 2) h) :=
 (by kernel_rfl)
theorem dHh (rec : FuncId → List DV → Hp → aK) (n : Nat) (args : List DV) (h : Hp) : aE CF1 rec n 52 args h = t73 rec n (args.getD 0 bB) (args.getD 1 bB) (args.getD 2 bB) h :=
 (by kernel_rfl : aE CF1 rec n 52 args h = E73 rec n (cf Tryz.f52) x0 (aR CF1 Tryz.f52) (aJ args) h).trans ((congrFun (congrFun (eKm rec n) (aJ args)) h).trans (by kernel_rfl))
noncomputable def t74 (rec : FuncId → List DV → Hp → aK) (n : Nat) (x0 x1 : DV) (h0 : Hp) : aK :=
 bnd (aF .eql x1 (.i .i64 (Int.ofNat 0)) h0) fun v1 h1 =>
 bnd (gD v1 false (some (x0, h1)) h1) fun v2 h2 =>
 bnd (gD v1 false (some (x1, h2)) h2) fun v3 h3 =>
 bnd (gD v1 false (rec 46 [v2, v3] h3) h3) fun v4 h4 =>
 bnd (aQ v1 (.b true) v4 h4) fun v5 h5 =>
 some (v5, h5)
noncomputable def E74 (rec : FuncId → List DV → Hp → aK) (n : Nat) (c : Code) (X : Nat → K) (k : K) : K := aM CF1 rec 12 n c X (aR CF1 Tryz.f74) k
theorem eMy (rec : FuncId → List DV → Hp → aK) (n : Nat) : E74 rec n (cf Tryz.f74) x0 (aR CF1 Tryz.f74) = (fun (env : aV) (h : Hp) => t74 rec n (env 0) (env 1) h) :=
 (by kernel_rfl)
theorem eHd (rec : FuncId → List DV → Hp → aK) (n : Nat) (args : List DV) (h : Hp) : aE CF1 rec n 74 args h = t74 rec n (args.getD 0 bB) (args.getD 1 bB) h :=
 (by kernel_rfl : aE CF1 rec n 74 args h = E74 rec n (cf Tryz.f74) x0 (aR CF1 Tryz.f74) (aJ args) h).trans ((congrFun (congrFun (eMy rec n) (aJ args)) h).trans (by kernel_rfl))
noncomputable def t75 (rec : FuncId → List DV → Hp → aK) (n : Nat) (x0 : DV) (h0 : Hp) : aK :=
 bnd (rec 97 [x0, (.i .i64 (Int.ofNat 3)), (.i .i64 (Int.ofNat 131072))] h0) fun v1 h1 =>
 bnd (eO .not v1 h1) fun v2 h2 =>
 aU v2 (
  some (.t [(.i .i64 (Int.ofNat 0)), (.b false)], h2)) (
  bnd (dF .shl x0 (.i .u64 (Int.ofNat 1)) h2) fun v3 h3 =>
  some (.t [v3, (.b true)], h3))
noncomputable def E75 (rec : FuncId → List DV → Hp → aK) (n : Nat) (c : Code) (X : Nat → K) (k : K) : K := aM CF1 rec 9 n c X (aR CF1 Tryz.f76) k
theorem eNo (rec : FuncId → List DV → Hp → aK) (n : Nat) : E75 rec n (cf Tryz.f76) x0 (aR CF1 Tryz.f76) = (fun (env : aV) (h : Hp) => t75 rec n (env 0) h) :=
 (by kernel_rfl)
theorem eFd (rec : FuncId → List DV → Hp → aK) (n : Nat) (args : List DV) (h : Hp) : aE CF1 rec n 76 args h = t75 rec n (args.getD 0 bB) h :=
 (by kernel_rfl : aE CF1 rec n 76 args h = E75 rec n (cf Tryz.f76) x0 (aR CF1 Tryz.f76) (aJ args) h).trans ((congrFun (congrFun (eNo rec n) (aJ args)) h).trans (by kernel_rfl))
noncomputable def dMi (rec : FuncId → List DV → Hp → aK) (n : Nat) (x0 x1 : DV) (h0 : Hp) : aK :=
 bnd (rec 46 [x0, x1] h0) fun v1 h1 =>
 bnd (eO .not v1 h1) fun v2 h2 =>
 aU v2 (
  some ((.i .i64 (Int.ofNat 0)), h2)) (
  bnd (rec 99 [x1] h2) fun v3 h3 =>
  some (v3, h3))
noncomputable def eBm (rec : FuncId → List DV → Hp → aK) (n : Nat) (c : Code) (X : Nat → K) (k : K) : K := aM CF1 rec 11 n c X (aR CF1 Tryz.f85) k
theorem eFj (rec : FuncId → List DV → Hp → aK) (n : Nat) : eBm rec n (cf Tryz.f85) x0 (aR CF1 Tryz.f85) = (fun (env : aV) (h : Hp) => dMi rec n (env 0) (env 1) h) :=
 (by kernel_rfl)
theorem dUp (rec : FuncId → List DV → Hp → aK) (n : Nat) (args : List DV) (h : Hp) : aE CF1 rec n 85 args h = dMi rec n (args.getD 0 bB) (args.getD 1 bB) h :=
 (by kernel_rfl : aE CF1 rec n 85 args h = eBm rec n (cf Tryz.f85) x0 (aR CF1 Tryz.f85) (aJ args) h).trans ((congrFun (congrFun (eFj rec n) (aJ args)) h).trans (by kernel_rfl))
noncomputable def bLg (rec : FuncId → List DV → Hp → aK) (n : Nat) (x0 x1 x2 : DV) (h0 : Hp) : aK :=
 bnd (rec 85 [x0, x1] h0) fun v1 h1 =>
 bnd (aF .eql v1 (.i .i64 (Int.ofNat 0)) h1) fun v2 h2 =>
 aU v2 (
  some (.t [(.i .i64 (Int.ofNat 0)), (.i .i64 (Int.ofNat 1))], h2)) (
  bnd (aF .lss x2 (.i .i64 (Int.ofNat 0)) h2) fun v3 h3 =>
  bnd (gD v3 false (some (x2, h3)) h3) fun v4 h4 =>
  bnd (gD v3 false (some (x0, h4)) h4) fun v5 h5 =>
  bnd (gD v3 false (some (x1, h5)) h5) fun v6 h6 =>
  bnd (gD v3 false (rec 73 [v5, v6] h6) h6) fun v7 h7 =>
  bnd (gD v3 false (aF .geq v4 v7 h7) h7) fun v8 h8 =>
  bnd (aQ v3 (.b true) v8 h8) fun v9 h9 =>
  aU v9 (
   some (.t [(.i .i64 (Int.ofNat 0)), (.i .i64 (Int.ofNat 5))], h9)) (
   bnd (aF .add v1 (.i .i64 (Int.ofNat 3)) h9) fun v10 h10 =>
   bnd (aF .add v10 x2 h10) fun v11 h11 =>
   some (.t [v11, (.i .i64 (Int.ofNat 0))], h11)))
noncomputable def eFy (rec : FuncId → List DV → Hp → aK) (n : Nat) (c : Code) (X : Nat → K) (k : K) : K := aM CF1 rec 29 n c X (aR CF1 Tryz.f89) k
theorem eAz (rec : FuncId → List DV → Hp → aK) (n : Nat) : eFy rec n (cf Tryz.f89) x0 (aR CF1 Tryz.f89) = (fun (env : aV) (h : Hp) => bLg rec n (env 0) (env 1) (env 2) h) :=
 (by kernel_rfl)
theorem aGx (rec : FuncId → List DV → Hp → aK) (n : Nat) (args : List DV) (h : Hp) : aE CF1 rec n 89 args h = bLg rec n (args.getD 0 bB) (args.getD 1 bB) (args.getD 2 bB) h :=
 (by kernel_rfl : aE CF1 rec n 89 args h = eFy rec n (cf Tryz.f89) x0 (aR CF1 Tryz.f89) (aJ args) h).trans ((congrFun (congrFun (eAz rec n) (aJ args)) h).trans (by kernel_rfl))
noncomputable def dOz (rec : FuncId → List DV → Hp → aK) (n : Nat) (x0 x1 x2 : DV) (h0 : Hp) : aK :=
 bnd (aF .geq x0 x1 h0) fun v1 h1 =>
 bnd (gD v1 true (some (x0, h1)) h1) fun v2 h2 =>
 bnd (gD v1 true (some (x2, h2)) h2) fun v3 h3 =>
 bnd (gD v1 true (aF .leq v2 v3 h3) h3) fun v4 h4 =>
 bnd (aQ v1 v4 (.b false) h4) fun v5 h5 =>
 some (v5, h5)
noncomputable def eEp (rec : FuncId → List DV → Hp → aK) (n : Nat) (c : Code) (X : Nat → K) (k : K) : K := aM CF1 rec 15 n c X (aR CF1 Tryz.f97) k
theorem dYj (rec : FuncId → List DV → Hp → aK) (n : Nat) : eEp rec n (cf Tryz.f97) x0 (aR CF1 Tryz.f97) = (fun (env : aV) (h : Hp) => dOz rec n (env 0) (env 1) (env 2) h) :=
 (by kernel_rfl)
theorem dMh (rec : FuncId → List DV → Hp → aK) (n : Nat) (args : List DV) (h : Hp) : aE CF1 rec n 97 args h = dOz rec n (args.getD 0 bB) (args.getD 1 bB) (args.getD 2 bB) h :=
 (by kernel_rfl : aE CF1 rec n 97 args h = eEp rec n (cf Tryz.f97) x0 (aR CF1 Tryz.f97) (aJ args) h).trans ((congrFun (congrFun (dYj rec n) (aJ args)) h).trans (by kernel_rfl))
end Go.Dd

namespace Go.Dd
theorem pW {a b : Nat} : Nat.beq a b = decide (a = b) := by
 cases h : Nat.beq a b with
 | true => simp [Nat.eq_of_beq_eq_true h]
 | false =>
  have : a ≠ b := by intro e; subst e; simp at h
  simp [this]
theorem aPn {a b : Nat} : Nat.ble a b = decide (a ≤ b) := by
 cases h : Nat.ble a b with
 | true => simp [Nat.le_of_ble_eq_true h]
 | false =>
  have : ¬ a ≤ b := by intro e; rw [Nat.ble_eq_true_of_le e] at h; cases h
  simp [this]
theorem tE {a b : Nat} : Nat.blt a b = decide (a < b) := by
 show Nat.ble (a + 1) b = _
 rw [aPn]
 simp [Nat.succ_le_iff]
theorem aRp (w : Int) : (jE w ≠ 0 ↔ (w % 2 = 0 ∧ 3 ≤ w / 2 ∧ w / 2 ≤ 131072)) ∧ (jE w ≠ 0 → (jE w : Int) = w / 2) ∧ jE w ≤ 131072 := by
 cases w with
 | ofNat w =>
  simp only [jE, pW, aPn]
  have e1 : Nat.mod w 2 = w % 2 := rfl
  have e2 : Nat.div w 2 = w / 2 := rfl
  rw [e1, e2]
  by_cases hc : w % 2 = 0 ∧ 6 ≤ w ∧ w ≤ 262144
  ·obtain ⟨h1, h2, h3⟩ := hc
   simp only [h1, h2, h3, decide_true, Bool.and_self, cond_true]
   simp only [Int.ofNat_eq_natCast]
   refine ⟨⟨fun _ => ⟨by omega, by omega, by omega⟩, fun _ => by omega⟩, fun _ => by omega, by omega⟩
  ·have : (decide (w % 2 = 0) && (decide (6 ≤ w) && decide (w ≤ 262144))) = false := by
    rw [← Bool.not_eq_true]
    simpa using hc
   rw [this]
   simp only [cond_false, Int.ofNat_eq_natCast]
   refine ⟨⟨fun h => absurd rfl h, fun h => by omega⟩, fun h => absurd rfl h, by omega⟩
 | negSucc w =>
  simp only [jE]
  refine ⟨⟨fun h => absurd rfl h, fun h => by omega⟩, fun h => absurd rfl h, by omega⟩
theorem aXb (w : Int) : iJ w = decide (w % 2 = 1 ∧ -1073741824 ≤ w / 2 ∧ w / 2 ≤ 1073741823) := by
 rw [Bool.eq_iff_iff, decide_eq_true_iff]
 cases w with
 | ofNat w =>
  simp only [iJ, pW, tE, Bool.and_eq_true, decide_eq_true_eq]
  have e1 : Nat.mod w 2 = w % 2 := rfl
  rw [e1]
  simp only [Int.ofNat_eq_natCast]
  omega
 | negSucc w =>
  simp only [iJ, pW, tE, Bool.and_eq_true, decide_eq_true_eq]
  have e1 : Nat.mod w 2 = w % 2 := rfl
  rw [e1]
  omega
theorem bJv (w : Int) : dGg w = w / 2 := by
 cases w with
 | ofNat w => show Int.ofNat (w / 2) = _; simp
 | negSucc w => show Int.negSucc (w / 2) = _; omega
theorem jX (a : Int) (h : -9223372036854775808 ≤ a ∧ a ≤ 9223372036854775807) : IntKind.i64.wrap a = a := by
 simp [IntKind.wrap, IntKind.signed, IntKind.bits, Int.bmod]
 omega
theorem gS (a : Int) : (BitVec.ofInt 64 a).toNat = (a % 18446744073709551616).toNat := by
 rw [BitVec.toNat_ofInt]
 rfl
theorem eMg (w : Int) : IntKind.i64.wrap (((BitVec.ofInt 64 w &&& BitVec.ofInt 64 1).toNat : Nat) : Int) = w % 2 := by
 rw [BitVec.toNat_and, gS, gS]
 rw [show ((1 : Int) % 18446744073709551616).toNat = 1 from rfl, Nat.and_one_is_mod]
 rw [jX _ (by omega)]
 omega
theorem eLa (w : Int) : IntKind.i64.wrap (((BitVec.ofInt 64 w &&& BitVec.ofInt 64 3).toNat : Nat) : Int) = w % 4 := by
 rw [BitVec.toNat_and, gS, gS]
 rw [show ((3 : Int) % 18446744073709551616).toNat = 2 ^ 2 - 1 from rfl, Nat.and_two_pow_sub_one_eq_mod]
 rw [jX _ (by omega)]
 omega
theorem dVk (a : Nat) (k b : Nat) (hb : b < 2 ^ k) (hs : a * 2 ^ k + b < 9223372036854775808) : IntKind.i64.wrap (((BitVec.ofInt 64 ((a * 2 ^ k : Nat) : Int) ||| BitVec.ofInt 64 (b : Int)).toNat : Nat) : Int) = ((a * 2 ^ k + b : Nat) : Int) := by
 have h1 : (BitVec.ofInt 64 ((a * 2 ^ k : Nat) : Int)).toNat = a * 2 ^ k := by rw [gS]; omega
 have h2 : (BitVec.ofInt 64 (b : Int)).toNat = b := by rw [gS]; omega
 rw [BitVec.toNat_or, h1, h2, Nat.mul_comm a, ← Nat.two_pow_add_eq_or_of_lt hb, Nat.mul_comm]
 exact jX _ (by omega)
theorem aRu (a : Int) (b : Int) (hb : 0 ≤ b) : a.fdiv b = a / b := Int.fdiv_eq_ediv_of_nonneg a hb
theorem iW (k : IntKind) (a b : Int) (h : Hp) : aF .eql (.i k a) (.i k b) h = some (.b (a == b), h) := by simp only [aF, if_true, gN]
theorem aFk (k : IntKind) (a b : Int) (h : Hp) : aF .neq (.i k a) (.i k b) h = some (.b (a != b), h) := by simp only [aF, if_true, gN]
theorem fW (k : IntKind) (a b : Int) (h : Hp) : aF .lss (.i k a) (.i k b) h = some (.b (decide (a < b)), h) := by simp only [aF, if_true, gN]
theorem dJg (k : IntKind) (a b : Int) (h : Hp) : aF .leq (.i k a) (.i k b) h = some (.b (decide (a ≤ b)), h) := by simp only [aF, if_true, gN]
theorem aCn (k : IntKind) (a b : Int) (h : Hp) : aF .gtr (.i k a) (.i k b) h = some (.b (decide (a > b)), h) := by simp only [aF, if_true, gN]
theorem aIu (k : IntKind) (a b : Int) (h : Hp) : aF .geq (.i k a) (.i k b) h = some (.b (decide (a ≥ b)), h) := by simp only [aF, if_true, gN]
theorem oI (a b : Int) (h : Hp) (hr : -9223372036854775808 ≤ a + b ∧ a + b ≤ 9223372036854775807) : aF .add (.i .i64 a) (.i .i64 b) h = some (.i .i64 (a + b), h) := by simp only [aF, if_true, gN, jX _ hr]
theorem dWn (a b : Int) (h : Hp) (hr : -9223372036854775808 ≤ a - b ∧ a - b ≤ 9223372036854775807) : aF .sub (.i .i64 a) (.i .i64 b) h = some (.i .i64 (a - b), h) := by simp only [aF, if_true, gN, jX _ hr]
theorem bEq (w : Int) (h : Hp) : aF .and (.i .i64 w) (.i .i64 (Int.ofNat 1)) h = some (.i .i64 (w % 2), h) := by
 have : gN .and .i64 w (Int.ofNat 1) = some (.i .i64 (w % 2)) := by
  rw [← eMg w]; rfl
 simp only [aF, if_true, this]
theorem dEt (w : Int) (h : Hp) : aF .and (.i .i64 w) (.i .i64 (Int.ofNat 3)) h = some (.i .i64 (w % 4), h) := by
 have : gN .and .i64 w (Int.ofNat 3) = some (.i .i64 (w % 4)) := by
  rw [← eLa w]; rfl
 simp only [aF, if_true, this]
theorem vX (w : Int) (h : Hp) : dF .shr (.i .i64 w) (.i .u64 (Int.ofNat 1)) h = some (.i .i64 (w / 2), h) := by
 have : w.fdiv (2 ^ (min (Int.ofNat 1).toNat IntKind.i64.bits)) = w / 2 := aRu w (2 ^ 1) (by decide)
 simp only [dF, show ¬ ((Int.ofNat 1) < 0) by decide, if_false, this]
theorem cXo (w : Int) (h : Hp) : dF .shr (.i .i64 w) (.i .u64 (Int.ofNat 2)) h = some (.i .i64 (w / 4), h) := by
 have : w.fdiv (2 ^ (min (Int.ofNat 2).toNat IntKind.i64.bits)) = w / 4 := aRu w (2 ^ 2) (by decide)
 simp only [dF, show ¬ ((Int.ofNat 2) < 0) by decide, if_false, this]
theorem bHf (w : Int) (h : Hp) (hr : -4611686018427387904 ≤ w ∧ w ≤ 4611686018427387903) : dF .shl (.i .i64 w) (.i .u64 (Int.ofNat 1)) h = some (.i .i64 (2 * w), h) := by
 have : IntKind.i64.wrap (w * 2 ^ (min (Int.ofNat 1).toNat IntKind.i64.bits)) = 2 * w := by
  rw [show w * 2 ^ (min (Int.ofNat 1).toNat IntKind.i64.bits) = 2 * w from Int.mul_comm w 2]
  exact jX _ (by omega)
 simp only [dF, show ¬ ((Int.ofNat 1) < 0) by decide, if_false, this]
theorem cSi (w : Int) (h : Hp) (hr : -2305843009213693952 ≤ w ∧ w ≤ 2305843009213693951) : dF .shl (.i .i64 w) (.i .u64 (Int.ofNat 2)) h = some (.i .i64 (4 * w), h) := by
 have : IntKind.i64.wrap (w * 2 ^ (min (Int.ofNat 2).toNat IntKind.i64.bits)) = 4 * w := by
  rw [show w * 2 ^ (min (Int.ofNat 2).toNat IntKind.i64.bits) = 4 * w from Int.mul_comm w 4]
  exact jX _ (by omega)
 simp only [dF, show ¬ ((Int.ofNat 2) < 0) by decide, if_false, this]
theorem bWr (r : aK) (h : Hp) : gD (.b true) true r h = r := Eq.trans rfl rfl
theorem oO (r : aK) (h : Hp) : gD (.b false) false r h = r := Eq.trans rfl rfl
theorem jH (r : aK) (h : Hp) : gD (.b true) false r h = some (bB, h) := Eq.trans rfl rfl
theorem aRc (r : aK) (h : Hp) : gD (.b false) true r h = some (bB, h) := Eq.trans rfl rfl
theorem bI (v : DV) (h : Hp) (k : DV → Hp → aK) : bnd (some (v, h)) k = k v h := Eq.trans rfl rfl
theorem eK (x y : DV) (h : Hp) : aQ (.b true) x y h = some (x, h) := Eq.trans rfl rfl
theorem fG (x y : DV) (h : Hp) : aQ (.b false) x y h = some (y, h) := Eq.trans rfl rfl
theorem sQ (b : Bool) (h : Hp) : eO .not (.b b) h = some (.b (!b), h) := Eq.trans rfl rfl
theorem fM (a b : aK) : aU (.b true) a b = a := Eq.trans rfl rfl
theorem eP (a b : aK) : aU (.b false) a b = b := Eq.trans rfl rfl
theorem g0 (a : DV) (l : List DV) : (a :: l).getD 0 bB = a := Eq.trans rfl rfl
theorem g1 (a b : DV) (l : List DV) : (a :: b :: l).getD 1 bB = b := Eq.trans rfl rfl
theorem g2 (a b c : DV) (l : List DV) : (a :: b :: c :: l).getD 2 bB = c := Eq.trans rfl rfl
theorem g3 (a b c d : DV) (l : List DV) : (a :: b :: c :: d :: l).getD 3 bB = d := Eq.trans rfl rfl
theorem bCk (n : Nat) (a b c : Int) (h : Hp) : fO CF1 (n + 1) 97 [.i .i64 a, .i .i64 b, .i .i64 c] h = some (.b (decide (b ≤ a ∧ a ≤ c)), h) := by
 rw [cB 97 rfl, dMh]
 simp only [dOz, g0, g1, g2, aIu, bI]
 by_cases h1 : b ≤ a
 ·simp only [ge_iff_le, h1, decide_true, bWr, bI, dJg, eK, true_and]
 ·simp only [ge_iff_le, h1, decide_false, aRc, bI, fG, false_and]
theorem dRw (n : Nat) (w : Int) (h : Hp) : fO CF1 (n + 2) 45 [.i .i64 w] h = some (.b (iJ w), h) := by
 rw [cB 45 rfl, eGj]
 simp only [t54, g0, bEq, bI, iW, aXb]
 by_cases h1 : w % 2 = 1
 ·have e : (w % 2 == Int.ofNat 1) = true := by simpa using h1
  rw [e]
  simp only [bWr, bI, vX, bCk, eK, h1, true_and]
  rfl
 ·have e : (w % 2 == Int.ofNat 1) = false := by simpa using h1
  rw [e]
  simp only [aRc, bI, fG, h1, false_and, decide_false]
theorem eHw (n : Nat) (w : Int) (h : Hp) : fO CF1 (n + 2) 98 [.i .i64 w] h = some (.b (!(Nat.beq (jE w) 0)), h) := by
 rw [cB 98 rfl, eGw]
 simp only [t63, g0, bEq, bI, iW, pW]
 have hp := (aRp w).1
 by_cases h1 : w % 2 = 0
 ·have e : (w % 2 == Int.ofNat 0) = true := by simpa using h1
  rw [e]
  simp only [bWr, bI, vX, bCk, eK]
  by_cases h2 : jE w = 0
  ·have : ¬ (Int.ofNat 3 ≤ w / 2 ∧ w / 2 ≤ Int.ofNat 131072) := fun h => (hp.2 ⟨h1, h⟩) h2
   simp only [h2, this, decide_true, Bool.not_true, decide_false]
  ·have : Int.ofNat 3 ≤ w / 2 ∧ w / 2 ≤ Int.ofNat 131072 := (hp.1 h2).2
   simp only [h2, this, decide_false, Bool.not_false, and_self, decide_true]
 ·have h2 : jE w = 0 := by
   by_cases h2 : jE w = 0
   ·exact h2
   ·exact absurd (hp.1 h2).1 h1
  have e : (w % 2 == Int.ofNat 0) = false := by simpa using h1
  rw [e]
  simp only [aRc, bI, fG, h2, decide_true, Bool.not_true]
theorem eFp (n : Nat) (w : Int) (h : Hp) : fO CF1 (n + 3) 99 [.i .i64 w] h = some (.i .i64 (jE w), h) := by
 rw [cB 99 rfl, dYc]
 simp only [t64, g0, eHw, bI, sQ, pW]
 by_cases h2 : jE w = 0
 ·simp only [h2, decide_true, Bool.not_true, Bool.not_false, fM]; rfl
 ·have hp := (aRp w).2.1 h2
  simp only [h2, decide_false, Bool.not_false, Bool.not_true, eP, vX, bI, hp]
theorem eHp (n : Nat) (w : Int) (h : Hp) : fO CF1 (n + 2) 88 [.i .i64 w] h = some (if -1073741824 ≤ w ∧ w ≤ 1073741823 then .t [.i .i64 (2 * w + 1), .b true] else .t [.i .i64 0, .b false], h) := by
 rw [cB 88 rfl, eCb]
 simp only [t60, g0, bCk, bI, sQ]
 by_cases h1 : -1073741824 ≤ w ∧ w ≤ 1073741823
 ·have h1' : Int.negSucc 1073741823 ≤ w ∧ w ≤ Int.ofNat 1073741823 := h1
  rw [if_pos h1]
  simp only [h1', decide_true, and_self, eP, Bool.not_true]
  rw [bHf w h (by omega)]
  have hb : gN .or .i64 (2 * w) (Int.ofNat 1) = some (.i .i64 (2 * w + 1)) := by
   have : IntKind.i64.wrap (((BitVec.ofInt 64 (2 * w) ||| BitVec.ofInt 64 (Int.ofNat 1)).toNat : Nat) : Int) = 2 * w + 1 := by
    rw [BitVec.toNat_or, gS, gS]
    rw [show ((Int.ofNat 1) % 18446744073709551616).toNat = 1 from rfl]
    obtain ⟨q, hq⟩ : ∃ q : Nat, ((2 * w) % 18446744073709551616).toNat = 2 ^ 1 * q := ⟨((2 * w) % 18446744073709551616).toNat / 2, by omega⟩
    rw [hq, ← Nat.two_pow_add_eq_or_of_lt (show 1 < 2 ^ 1 by omega)]
    rw [← hq]
    simp [IntKind.wrap, IntKind.signed, IntKind.bits, Int.bmod]
    omega
   rw [← this]; rfl
  simp only [bI, aF, if_true, hb]
 ·have h1' : ¬ (Int.negSucc 1073741823 ≤ w ∧ w ≤ Int.ofNat 1073741823) := h1
  rw [if_neg h1]
  simp only [h1', decide_false, fM, Bool.not_false]
  rfl
theorem eMk (n : Nat) (w : Int) (h : Hp) : fO CF1 (n + 3) 122 [.i .i64 w] h = some (if iJ w then .i .i64 (w / 2) else .i .i64 0, h) := by
 rw [cB 122 rfl, eCt]
 simp only [t62, g0, dRw, bI, sQ]
 cases iJ w with
 | false => rfl
 | true => simp only [Bool.not_true, eP, vX, bI, if_true]
theorem eJx (n : Nat) (a : Int) (h : Hp) : fO CF1 (n + 2) 76 [.i .i64 a] h = some (if 3 ≤ a ∧ a ≤ 131072 then .t [.i .i64 (2 * a), .b true] else .t [.i .i64 0, .b false], h) := by
 rw [cB 76 rfl, eFd]
 simp only [t75, g0, bCk, bI, sQ]
 by_cases h1 : 3 ≤ a ∧ a ≤ 131072
 ·have h1' : Int.ofNat 3 ≤ a ∧ a ≤ Int.ofNat 131072 := h1
  rw [if_pos h1]
  simp only [h1', decide_true, and_self, eP, Bool.not_true]
  rw [bHf a h (by omega)]
  rfl
 ·have h1' : ¬ (Int.ofNat 3 ≤ a ∧ a ≤ Int.ofNat 131072) := h1
  rw [if_neg h1]
  simp only [h1', decide_false, fM, Bool.not_false]
  rfl
end Go.Dd

namespace Go.Dd
structure ML (m : Pos) (M : MemV) (h : Hp) : Prop where
 row : h.bl.get m = some (.row .ex [.l M.wb 0 M.n M.n, .i .i64 (Int.ofNat M.fin), .i .i64 (Int.ofNat M.made), .m M.pb])
 words : h.bl.get M.wb = some (.row .ex (iC M.n M.t))
 places : ∃ es, h.bl.get M.pb = some (.mp es) ∧ ∀ a : Int, iF (.int .i64) (.i .i64 a) es = some (if 0 ≤ a ∧ M.pl.get a.toNat ≠ 0 then some (.b true) else none)
 n_lt : M.n < 1000000
 fin_le : M.fin ≤ M.n
 made_lt : M.made < 2000000
 d1 : m ≠ M.wb
 d2 : m ≠ M.pb
 d3 : M.wb ≠ M.pb
theorem nC {m : Pos} {M : MemV} {h : Hp} (hm : mC m h = some M) :
  h.bl.get m = some (.row .ex [.l M.wb 0 M.n M.n, .i .i64 (Int.ofNat M.fin), .i .i64 (Int.ofNat M.made), .m M.pb]) ∧ h.bl.get M.wb = some (.big M.n M.t) ∧ h.bl.get M.pb = some (.mi M.pl) ∧ M.n < 1000000 ∧ M.fin ≤ M.n ∧ M.made < 1000000 := by
 unfold mC at hm
 split at hm <;> (try (cases hm; done))
 rename_i wb n c fin made pb hr
 split at hm <;> (try (cases hm; done))
 rename_i n' t pl h1 h2
 cases hb : (Nat.beq n n' && Nat.beq n c) with
 | false => rw [hb] at hm; cases hm
 | true =>
  rw [hb] at hm
  simp only [cond_true] at hm
  cases hc : (Nat.blt n 1000000 && (Nat.ble fin n && Nat.blt made 1000000)) with
  | false => rw [hc] at hm; cases hm
  | true =>
   rw [hc] at hm
   simp only [cond_true, bG] at hm
   subst hm
   simp only [pW, aPn, tE, Bool.and_eq_true, decide_eq_true_eq] at hb hc
   obtain ⟨rfl, rfl⟩ := hb
   exact ⟨hr, h1, h2, hc.1, hc.2.1, hc.2.2⟩
theorem fP {m : Pos} {M : MemV} {h h' : Hp} (hm : mC m h = some M) (S : Sim false h h') : ML m M h' := by
 obtain ⟨h1, h2, h3, h4, h5, h6⟩ := nC hm
 refine ⟨S.row h1, ?_, ?_, h4, h5, by omega, fun e => by (rw [e, h2] at h1; cases h1), fun e => by (rw [e, h3] at h1; cases h1), fun e => by (rw [e, h3] at h2; cases h2)⟩
 ·obtain ⟨o', e1, e2⟩ := S.get _ _ h2
  have e2' : o' = .row .ex (iC M.n M.t) := by simpa [aC, uS] using e2
  rw [e1, e2']
 ·obtain ⟨o', e1, e2⟩ := S.get _ _ h3
  have e2' : ∃ es, o' = .mp es ∧ ∀ a : Int, iF (.int .i64) (.i .i64 a) es = some (if 0 ≤ a ∧ M.pl.get a.toNat ≠ 0 then some (.b true) else none) := by simpa [aC, uS] using e2
  obtain ⟨es, rfl, e3⟩ := e2'
  exact ⟨es, e1, e3⟩
section
variable {m : Pos} {M : MemV} {h : Hp}
theorem gX (b : Pos) (o : Nat) (h : Hp) : aO (.p b o) h = some (.p b o, h) := Eq.trans rfl rfl
theorem dU (k : Nat) (b : Pos) (o : Nat) (h : Hp) : aB k (.p b o) h = some (.p b (o + k), h) := Eq.trans rfl rfl
theorem ML.l0 (H : ML m M h) : aA (.p m (0 + 0)) h = some (.l M.wb 0 M.n M.n, h) := by
 simp [aA, cellD, rowOf, H.row, DV.one]
theorem ML.l1 (H : ML m M h) : aA (.p m (0 + 1)) h = some (.i .i64 (Int.ofNat M.fin), h) := by
 simp [aA, cellD, rowOf, H.row, DV.one]
theorem ML.l2 (H : ML m M h) : aA (.p m (0 + 2)) h = some (.i .i64 (Int.ofNat M.made), h) := by
 simp [aA, cellD, rowOf, H.row, DV.one]
theorem ML.l3 (H : ML m M h) : aA (.p m (0 + 3)) h = some (.m M.pb, h) := by
 simp [aA, cellD, rowOf, H.row, DV.one]
theorem kW {n : Nat} {t : WT} {i : Nat} (h : i < n) : (iC n t)[i]? = some (.i .i64 (t.get i)) := by
 simp [iC, h]
theorem ML.ix (H : ML m M h) {a : Nat} (ha : a < M.n) : aI 1 (.l M.wb 0 M.n M.n) (.i .i64 (a : Int)) h = some (.p M.wb a, h) := by
 have : (0 : Int) ≤ (a : Int) ∧ (a : Int) < (M.n : Int) := by omega
 simp [aI, this]
theorem ML.ld (H : ML m M h) {a : Nat} (ha : a < M.n) : aA (.p M.wb a) h = some (.i .i64 (M.t.get a), h) := by
 simp [aA, cellD, rowOf, H.words, kW ha, DV.one]
theorem bSr (o : Int) (pl : WT) : gP o pl = 0 ∨ (gP o pl = jE o ∧ jE o ≠ 0) := by
 unfold gP
 by_cases h0 : jE o = 0
 ·simp [h0, pW]
 ·simp only [pW, h0, decide_false, cond_false]
  split
  ·exact .inl rfl
  ·exact .inr ⟨rfl, h0⟩
theorem atN_pos {o : Int} {pl : WT} : (gP o pl ≠ 0) ↔ (jE o ≠ 0 ∧ pl.get (jE o) ≠ 0) := by
 unfold gP
 by_cases h0 : jE o = 0
 ·simp [h0, pW]
 ·simp only [pW, h0, decide_false, cond_false]
  split
  ·rename_i e; simp [e]
  ·rename_i e
   refine ⟨fun _ => ⟨h0, fun e' => e (by rw [e']; rfl)⟩, fun _ => h0⟩
theorem ML.lookup (H : ML m M h) (a : Nat) : gM (.int .i64) (.b false) false (.m M.pb) (.i .i64 (a : Int)) h = some (.b (decide (M.pl.get a ≠ 0)), h) := by
 obtain ⟨es, h1, h2⟩ := H.places
 have := h2 a
 simp only [Int.toNat_natCast] at this
 simp only [gM, jO, h1, this]
 by_cases hc : M.pl.get a = 0
 ·simp [hc]
 ·simp [hc]
theorem lG {r : aK} {v : DV} {h : Hp} (hr : r = some (v, h)) (hv : DV.beq v v = true) : aW r v = true := by
 rw [hr]; exact hv
theorem eCa (b : Pos) : DV.beq (.m b) (.m b) = true := by simp [DV.beq]
theorem bZs (b : Pos) (o n c : Nat) : DV.beq (.l b o n c) (.l b o n c) = true := by simp [DV.beq]
theorem cWh (H : ML m M h) (n : Nat) (w : Int) : fO CF1 (n + 4) 46 [.p m 0, .i .i64 w] h = some (.b (!(Nat.beq (gP w M.pl) 0)), h) := by
 rw [cB 46 rfl, eEx]
 simp only [t21, g0, g1, eHw, bI, pW]
 by_cases h0 : jE w = 0
 ·have : gP w M.pl = 0 := by
   rcases bSr w M.pl with e | ⟨e, e'⟩
   ·exact e
   ·exact absurd h0 e'
  simp only [h0, decide_true, Bool.not_true, aRc, bI, this]
  simp [aW, bB, DV.beq, ePq, cnd, bnd, aQ]
 ·simp only [h0, decide_false, Bool.not_false, bWr, bI, gX, dU, H.l3, eFp]
  rw [lG rfl (eCa _), Bool.and_self]
  simp only [cnd, H.lookup, bI, eK]
  by_cases h1 : M.pl.get (jE w) = 0
  ·have : gP w M.pl = 0 := by
    by_cases e : gP w M.pl = 0
    ·exact e
    ·exact absurd h1 (atN_pos.1 e).2
   simp [h1, this]
  ·have : gP w M.pl ≠ 0 := atN_pos.2 ⟨h0, h1⟩
   simp [h1, this]
theorem eJb (H : ML m M h) (n : Nat) : fO CF1 (n + 1) 94 [.p m 0] h = some (.i .i64 (Int.ofNat M.n), h) := by
 rw [cB 94 rfl, eEz]
 simp only [t22, g0, bI, gX, dU, H.l0]
 rfl
theorem eBg (H : ML m M h) (n : Nat) : fO CF1 (n + 1) 75 [.p m 0] h = some (.i .i64 (Int.ofNat (M.n - M.fin)), h) := by
 rw [cB 75 rfl, dZo]
 have h1 := H.n_lt
 have h2 := H.fin_le
 have e : bK (.l M.wb 0 M.n M.n) h = some (.i .i64 (M.n : Int), h) := rfl
 simp only [t29, g0, bI, gX, dU, H.l0, H.l1, e]
 rw [dWn _ _ _ (by simp only [Int.ofNat_eq_natCast]; omega)]
 simp only [bI]
 congr 3
 simp only [Int.ofNat_eq_natCast]
 omega
theorem eGr (H : ML m M h) (n : Nat) (w : Int) : fO CF1 (n + 5) 18 [.p m 0, .i .i64 w] h = some (.b (bN w M.pl), h) := by
 rw [cB 18 rfl, dZu]
 have hm : bN w M.pl = (decide (w = 0) || (decide (w = 2) || (decide (w = 4) || (iJ w || !(Nat.beq (gP w M.pl) 0))))) := by
  unfold bN
  split
  ·simp
  ·simp
  ·simp
  ·rename_i h1 h2 h3
   have e1 : w ≠ 0 := fun e => h1 (by rw [e]; rfl)
   have e2 : w ≠ 2 := fun e => h2 (by rw [e]; rfl)
   have e3 : w ≠ 4 := fun e => h3 (by rw [e]; rfl)
   simp [e1, e2, e3]
 rw [hm]
 simp only [t20, g0, g1, iW, bI]
 have b0 : (w == Int.ofNat 0) = decide (w = 0) := rfl
 have b2 : (w == Int.ofNat 2) = decide (w = 2) := rfl
 have b4 : (w == Int.ofNat 4) = decide (w = 4) := rfl
 rw [b0]
 cases decide (w = 0) with
 | true => simp only [jH, bI, eK, Bool.true_or]
 | false =>
  simp only [oO, bI, iW, fG, b2, Bool.false_or]
  cases decide (w = 2) with
  | true => simp only [jH, bI, eK, Bool.true_or]
  | false =>
   simp only [oO, bI, iW, fG, b4, Bool.false_or]
   cases decide (w = 4) with
   | true => simp only [jH, bI, eK, Bool.true_or]
   | false =>
    simp only [oO, bI, dRw, fG, Bool.false_or]
    cases iJ w with
    | true => simp only [jH, bI, eK, Bool.true_or]
    | false => simp only [oO, bI, cWh H, fG, Bool.false_or]
theorem dXz (H : ML m M h) (n : Nat) (w : Int) : fO CF1 (n + 5) 74 [.p m 0, .i .i64 w] h = some (.b (aBe w M.pl), h) := by
 rw [cB 74 rfl, eHd]
 have hm : aBe w M.pl = (decide (w = 0) || !(Nat.beq (gP w M.pl) 0)) := by
  unfold aBe
  split
  ·simp
  ·rename_i h1
   have e1 : w ≠ 0 := fun e => h1 (by rw [e]; rfl)
   simp [e1]
 rw [hm]
 have b0 : (w == Int.ofNat 0) = decide (w = 0) := rfl
 simp only [t74, g0, g1, iW, bI, b0]
 cases decide (w = 0) with
 | true => simp only [jH, bI, eK, Bool.true_or]
 | false => simp only [oO, bI, cWh H, fG, Bool.false_or]
theorem sZ (H : ML m M h) (n : Nat) (w : Int) : fO CF1 (n + 5) 85 [.p m 0, .i .i64 w] h = some (.i .i64 (gP w M.pl), h) := by
 rw [cB 85 rfl, dUp]
 simp only [dMi, g0, g1, cWh H, bI, sQ, pW]
 rcases bSr w M.pl with e | ⟨e, e'⟩
 ·simp only [e, decide_true, Bool.not_true, Bool.not_false, fM]; rfl
 ·simp only [e, e', decide_false, Bool.not_false, Bool.not_true, eP, eFp, bI]
theorem wJ {o : Int} {k : Nat → aK} {r : DV × Hp} (hh : lS M o k = some r) : gP o M.pl + 1 < M.n ∧ ∃ hd, M.t.get (gP o M.pl) = Int.ofNat hd ∧ hd < 1000000000000 ∧ k hd = some r := by
 unfold lS at hh
 cases hb : Nat.blt (Nat.add (gP o M.pl) 1) M.n with
 | false => rw [hb] at hh; cases hh
 | true =>
  rw [hb] at hh
  simp only [cond_true] at hh
  simp only [tE, decide_eq_true_eq] at hb
  split at hh <;> (try (cases hh; done))
  rename_i hd he
  cases hc : Nat.blt hd 1000000000000 with
  | false => rw [hc] at hh; cases hh
  | true =>
   rw [hc] at hh
   simp only [tE, decide_eq_true_eq] at hc
   exact ⟨hb, hd, he, hc, hh⟩
theorem eJw (H : ML m M h) (n : Nat) (o : Int) (ho : gP o M.pl + 1 < M.n) : fO CF1 (n + 6) 104 [.p m 0, .i .i64 o] h = some (.i .i64 (M.t.get (gP o M.pl + 1)), h) := by
 rw [cB 104 rfl, dZn]
 have hn := H.n_lt
 simp only [t50, g0, g1, bI, gX, dU, H.l0, sZ H]
 rw [lG rfl (bZs _ _ _ _), Bool.and_self]
 simp only [cnd]
 rw [oI _ _ _ (by simp only [Int.ofNat_eq_natCast]; omega)]
 have e : (gP o M.pl : Int) + Int.ofNat 1 = ((gP o M.pl + 1 : Nat) : Int) := by simp
 simp only [bI, e, H.ix ho, H.ld ho]
theorem eGk (H : ML m M h) (n : Nat) (o : Int) (ho : gP o M.pl < M.n) : fO CF1 (n + 6) 90 [.p m 0, .i .i64 o] h = some (.i .i64 (M.t.get (gP o M.pl) % 4), h) := by
 rw [cB 90 rfl, eCr]
 simp only [t51, g0, g1, bI, gX, dU, H.l0, sZ H]
 rw [lG rfl (bZs _ _ _ _), Bool.and_self]
 simp only [cnd, bI, H.ix ho, H.ld ho, dEt]
theorem eDa (H : ML m M h) (n : Nat) (o : Int) (ho : gP o M.pl < M.n) : fO CF1 (n + 6) 73 [.p m 0, .i .i64 o] h = some (.i .i64 (M.t.get (gP o M.pl) / 4), h) := by
 rw [cB 73 rfl, eDs]
 simp only [t52, g0, g1, bI, gX, dU, H.l0, sZ H]
 rw [lG rfl (bZs _ _ _ _), Bool.and_self]
 simp only [cnd, bI, H.ix ho, H.ld ho, cXo]
end
end Go.Dd

namespace Go.Dd
section
variable {m : Pos} {M : MemV} {h : Hp}
theorem cBm (H : ML m M h) {o i : Int} {bad : Nat → aK} {k : Nat → Nat → aK} {r : DV × Hp} (hf : kH M o i bad k = some r) :
  (∃ e : Nat, e ≠ 0 ∧ bad e = some r ∧ ∀ n, fO CF1 (n + 7) 89 [.p m 0, .i .i64 o, .i .i64 i] h = some (.t [.i .i64 (Int.ofNat 0), .i .i64 (Int.ofNat e)], h)) ∨
  (∃ hd a : Nat, gP o M.pl ≠ 0 ∧ a < M.n ∧ gP o M.pl + 1 < M.n ∧ M.t.get (gP o M.pl) = Int.ofNat hd ∧ k hd a = some r ∧ ∀ n, fO CF1 (n + 7) 89 [.p m 0, .i .i64 o, .i .i64 i] h = some (.t [.i .i64 (a : Int), .i .i64 (Int.ofNat 0)], h)) := by
 have hn := H.n_lt
 unfold kH at hf
 rw [pW] at hf
 by_cases h0 : gP o M.pl = 0
 ·simp only [h0, decide_true, cond_true] at hf
  refine .inl ⟨1, by omega, hf, fun n => ?_⟩
  rw [cB 89 rfl, aGx]
  simp only [bLg, g0, g1, g2, sZ H, bI, iW, h0]
  rfl
 ·simp only [h0, decide_false, cond_false] at hf
  have e0 : ((gP o M.pl : Int) == Int.ofNat 0) = false := by simpa using h0
  cases i with
  | negSucc i =>
   refine .inl ⟨5, by omega, hf, fun n => ?_⟩
   rw [cB 89 rfl, aGx]
   have hlt : decide (Int.negSucc i < Int.ofNat 0) = true := decide_eq_true (Int.negSucc_lt_zero i)
   simp only [bLg, g0, g1, g2, sZ H, bI, iW, e0, eP, fW, hlt, jH, eK, fM]
  | ofNat i =>
   dsimp only at hf
   obtain ⟨h1, hd, h2, h3, h4⟩ := wJ hf
   rw [aPn] at h4
   have hlt : decide (Int.ofNat i < Int.ofNat 0) = false := by simp
   have h52 := fun n => eDa H n o (show gP o M.pl < M.n by omega)
   rw [h2] at h52
   by_cases hi : Nat.div hd 4 ≤ i
   ·simp only [hi, decide_true, cond_true] at h4
    refine .inl ⟨5, by omega, h4, fun n => ?_⟩
    rw [cB 89 rfl, aGx]
    have hge : decide (Int.ofNat i ≥ Int.ofNat hd / 4) = true := by
     have : hd / 4 ≤ i := hi
     simp only [decide_eq_true_eq, Int.ofNat_eq_natCast]
     omega
    simp only [bLg, g0, g1, g2, sZ H, bI, iW, e0, eP, fW, hlt, oO, h52, aIu, hge, fG, fM]
   ·simp only [hi, decide_false, cond_false] at h4
    rw [tE] at h4
    by_cases ha : Nat.add (Nat.add (gP o M.pl) 3) i < M.n
    ·simp only [ha, decide_true, cond_true] at h4
     have ha' : gP o M.pl + 3 + i < M.n := ha
     refine .inr ⟨hd, _, h0, ha, h1, h2, h4, fun n => ?_⟩
     rw [cB 89 rfl, aGx]
     have hge : decide (Int.ofNat i ≥ Int.ofNat hd / 4) = false := by
      have : ¬ hd / 4 ≤ i := hi
      simp only [decide_eq_false_iff_not, Int.ofNat_eq_natCast]
      omega
     simp only [bLg, g0, g1, g2, sZ H, bI, iW, e0, eP, fW, hlt, oO, h52, aIu, hge, fG]
     rw [oI _ _ _ (by simp only [Int.ofNat_eq_natCast]; omega)]
     simp only [bI]
     rw [oI _ _ _ (by simp only [Int.ofNat_eq_natCast]; omega)]
     simp only [bI]
     congr 4
    ·simp only [ha, decide_false, cond_false] at h4
     cases h4
theorem bXj (a b : DV) (h : Hp) : aG 0 (.t [a, b]) h = some (a, h) := Eq.trans rfl rfl
theorem cDx (a b : DV) (h : Hp) : aG 1 (.t [a, b]) h = some (b, h) := Eq.trans rfl rfl
theorem dGk {e : Nat} (he : e ≠ 0) : (Int.ofNat e != Int.ofNat 0) = true := by
 simpa using he
theorem ML.put (H : ML m M h) {a : Nat} (ha : a < M.n) (w : Int) : aD 1 (.p M.wb a) (.i .i64 w) h = some (bB, ⟨h.next, Tr.set (.row .ex (iC M.n (M.t.set a w))) M.wb h.bl⟩) := by
 have hput : ∀ (n : Nat) (l : List DV) (x : DV), (∀ v ∈ l, v.one = true) → x.one = true → n < l.length → gW n l [x] = some (l.set n x) := by
  intro n
  induction n with
  | zero =>
   intro l x hl hx hlt
   cases l with
   | nil => simp at hlt
   | cons y l =>
    have hp : nJ l [] = some l := by cases l <;> rfl
    simp [gW, nJ, hl y (by simp), hx, hp]
  | succ n ih =>
   intro l x hl hx hlt
   cases l with
   | nil => simp at hlt
   | cons y l =>
    simp only [gW, List.set_cons_succ]
    rw [ih l x (fun v hv => hl v (by simp [hv])) hx (by simpa using hlt)]
    rfl
 have hb : ∀ v ∈ iC M.n M.t, v.one = true := by
  intro v hv
  simp only [iC, List.mem_map] at hv
  obtain ⟨i, _, rfl⟩ := hv
  rfl
 have hlen : (iC M.n M.t).length = M.n := by simp [iC]
 have hset : (iC M.n M.t).set a (.i .i64 w) = iC M.n (M.t.set a w) := by
  apply List.ext_getElem?
  intro i
  rw [List.getElem?_set]
  by_cases hi : i < M.n
  ·rw [kW hi, kW hi, WT.get_set M.t a w i (by have := H.n_lt; omega)]
   by_cases e : a = i
   ·subst e
    simp [hlen, hi]
   ·rw [if_neg e, if_neg (by omega)]
  ·have h1 : (iC M.n M.t)[i]? = none := List.getElem?_eq_none (by omega)
   have h2 : (iC M.n (M.t.set a w))[i]? = none := List.getElem?_eq_none (by simp [iC]; omega)
   rw [h2]
   split
   ·rename_i e; subst e; rw [if_neg (by omega)]
   ·exact h1
 simp only [aD, fA, List.length_singleton, if_true, dG, H.words, Kind.writable]
 rw [hput a _ _ hb rfl (by omega), hset]
theorem eLz (H : ML m M h) {o i : Int} {k : Nat → aK} {kk : Nat → Nat → aK} {r : DV × Hp} (hf : kH M o i k kk = some r) :
  (∃ e : Nat, k e = some r ∧ ∀ n, fO CF1 (n + 8) 52 [.p m 0, .i .i64 o, .i .i64 i] h = some (.t [.i .i64 (Int.ofNat 0), .i .i64 (Int.ofNat e)], h)) ∨
  (∃ hd a : Nat, kk hd a = some r ∧ ∀ n, fO CF1 (n + 8) 52 [.p m 0, .i .i64 o, .i .i64 i] h = some (.t [.i .i64 (M.t.get a), .i .i64 (Int.ofNat 0)], h)) := by
 rcases cBm H hf with ⟨e, he, h1, h2⟩ | ⟨hd, a, h0, h1, h2, h3, h4, h5⟩
 ·refine .inl ⟨e, h1, fun n => ?_⟩
  rw [cB 52 rfl, dHh]
  simp only [t73, g0, g1, g2, h2, bI, bXj, cDx, aFk, dGk he, fM]
 ·refine .inr ⟨hd, a, h4, fun n => ?_⟩
  rw [cB 52 rfl, dHh]
  have e0 : (Int.ofNat 0 != Int.ofNat 0) = false := rfl
  simp only [t73, g0, g1, g2, h5, bI, bXj, cDx, aFk, e0, eP, gX, dU, H.l0, H.ix h1, H.ld h1]
end
theorem eL {args : List DV} {h : Hp} {k : MemV → List DV → aK} {r : DV × Hp} (hr : oC args h k = some r) :
  ∃ m rest M, args = .p m 0 :: rest ∧ mC m h = some M ∧ k M rest = some r := by
 unfold oC at hr
 split at hr <;> (try (cases hr; done))
 rename_i m rest
 split at hr <;> (try (cases hr; done))
 rename_i M hM
 exact ⟨m, rest, M, rfl, hM, hr⟩
theorem dXh (n : Nat) (args : List DV) : SimP false (isF args) (fO CF1 (n + 12) 46 args) := fun h h' S v k e => by
 obtain ⟨m, rest, M, rfl, hM, e⟩ := eL e
 split at e <;> (try (cases e; done))
 simp only [bG, bR] at e
 obtain ⟨rfl, rfl⟩ := e
 exact ⟨h', cWh (fP hM S) (n + 8) _, S⟩
theorem dFq (n : Nat) (args : List DV) : SimP false (aBh args) (fO CF1 (n + 12) 18 args) := fun h h' S v k e => by
 obtain ⟨m, rest, M, rfl, hM, e⟩ := eL e
 split at e <;> (try (cases e; done))
 simp only [bG, bR] at e
 obtain ⟨rfl, rfl⟩ := e
 exact ⟨h', eGr (fP hM S) (n + 7) _, S⟩
theorem cGf (n : Nat) (args : List DV) : SimP false (aBw args) (fO CF1 (n + 12) 94 args) := fun h h' S v k e => by
 obtain ⟨m, rest, M, rfl, hM, e⟩ := eL e
 split at e <;> (try (cases e; done))
 simp only [bG, bR] at e
 obtain ⟨rfl, rfl⟩ := e
 exact ⟨h', eJb (fP hM S) (n + 11), S⟩
theorem cEh (n : Nat) (args : List DV) : SimP false (bJk args) (fO CF1 (n + 12) 75 args) := fun h h' S v k e => by
 obtain ⟨m, rest, M, rfl, hM, e⟩ := eL e
 split at e <;> (try (cases e; done))
 simp only [bG, bR] at e
 obtain ⟨rfl, rfl⟩ := e
 exact ⟨h', eBg (fP hM S) (n + 11), S⟩
theorem bNt (n : Nat) (args : List DV) : SimP false (mR args) (fO CF1 (n + 12) 104 args) := fun h h' S v k e => by
 obtain ⟨m, rest, M, rfl, hM, e⟩ := eL e
 split at e <;> (try (cases e; done))
 obtain ⟨h1, hd, h2, h3, e⟩ := wJ e
 simp only [bG, bR] at e
 obtain ⟨rfl, rfl⟩ := e
 exact ⟨h', eJw (fP hM S) (n + 6) _ h1, S⟩
theorem aUq (n : Nat) (args : List DV) : SimP false (nG args) (fO CF1 (n + 12) 90 args) := fun h h' S v k e => by
 obtain ⟨m, rest, M, rfl, hM, e⟩ := eL e
 split at e <;> (try (cases e; done))
 obtain ⟨h1, hd, h2, h3, e⟩ := wJ e
 simp only [bG, bR] at e
 obtain ⟨rfl, rfl⟩ := e
 refine ⟨h', ?_, S⟩
 rw [eGk (fP hM S) (n + 6) _ (by omega), h2]
 rfl
theorem aUd (n : Nat) (args : List DV) : SimP false (jS args) (fO CF1 (n + 12) 73 args) := fun h h' S v k e => by
 obtain ⟨m, rest, M, rfl, hM, e⟩ := eL e
 split at e <;> (try (cases e; done))
 obtain ⟨h1, hd, h2, h3, e⟩ := wJ e
 simp only [bG, bR] at e
 obtain ⟨rfl, rfl⟩ := e
 refine ⟨h', ?_, S⟩
 rw [eDa (fP hM S) (n + 6) _ (by omega), h2]
 rfl
theorem cTk (n : Nat) (args : List DV) : SimP false (aQn args) (fO CF1 (n + 12) 52 args) := fun h h' S v k e => by
 obtain ⟨m, rest, M, rfl, hM, e⟩ := eL e
 split at e <;> (try (cases e; done))
 rename_i o i
 rcases eLz (fP hM S) e with ⟨er, e1, e2⟩ | ⟨hd, a, e1, e2⟩
 ·simp only [err, bG, bR] at e1
  obtain ⟨rfl, rfl⟩ := e1
  exact ⟨h', e2 (n + 4), S⟩
 ·simp only [bG, bR] at e1
  obtain ⟨rfl, rfl⟩ := e1
  exact ⟨h', e2 (n + 4), S⟩
theorem aQk (n : Nat) (args : List DV) : SimP false (iT args) (fO CF1 (n + 12) 45 args) := fun h h' S v k e => by
 unfold iT at e
 split at e <;> (try (cases e; done))
 simp only [bG, bR] at e
 obtain ⟨rfl, rfl⟩ := e
 exact ⟨h', dRw (n + 10) _ h', S⟩
theorem bKf (n : Nat) (args : List DV) : SimP false (nB args) (fO CF1 (n + 12) 122 args) := fun h h' S v k e => by
 unfold nB at e
 split at e <;> (try (cases e; done))
 rename_i w
 have hc := eMk (n + 9) w h'
 cases hs : iJ w with
 | true =>
  rw [hs] at e hc
  simp only [cond_true, bG, bR] at e
  obtain ⟨rfl, rfl⟩ := e
  exact ⟨h', by rw [hc, bJv]; rfl, S⟩
 | false =>
  rw [hs] at e hc
  simp only [cond_false, bG, bR] at e
  obtain ⟨rfl, rfl⟩ := e
  exact ⟨h', by rw [hc]; rfl, S⟩
theorem bMe (n : Nat) (args : List DV) : SimP false (lY args) (fO CF1 (n + 12) 88 args) := fun h h' S v k e => by
 unfold lY at e
 split at e <;> (try (cases e; done))
 ·rename_i w
  have hc := eHp (n + 10) (Int.ofNat w) h'
  rw [tE] at e
  by_cases hw : w < 1073741824
  ·simp only [hw, decide_true, cond_true, bG, bR] at e
   obtain ⟨rfl, rfl⟩ := e
   rw [if_pos (by simp only [Int.ofNat_eq_natCast]; omega)] at hc
   refine ⟨h', ?_, S⟩
   rw [hc]
   have : 2 * Int.ofNat w + 1 = Int.ofNat (Nat.succ (Nat.mul w 2)) := by
    have : Nat.mul w 2 = w * 2 := rfl
    rw [this]
    simp only [Int.ofNat_eq_natCast]; omega
   rw [this]
  ·simp only [hw, decide_false, cond_false, bG, bR] at e
   obtain ⟨rfl, rfl⟩ := e
   rw [if_neg (by simp only [Int.ofNat_eq_natCast]; omega)] at hc
   exact ⟨h', by rw [hc]; rfl, S⟩
 ·rename_i w
  have hc := eHp (n + 10) (Int.negSucc w) h'
  rw [tE] at e
  by_cases hw : w < 1073741824
  ·simp only [hw, decide_true, cond_true, bG, bR] at e
   obtain ⟨rfl, rfl⟩ := e
   rw [if_pos (by omega)] at hc
   refine ⟨h', ?_, S⟩
   rw [hc]
   have : 2 * Int.negSucc w + 1 = Int.negSucc (Nat.mul w 2) := by
    have : Nat.mul w 2 = w * 2 := rfl
    rw [this]; omega
   rw [this]
  ·simp only [hw, decide_false, cond_false, bG, bR] at e
   obtain ⟨rfl, rfl⟩ := e
   rw [if_neg (by omega)] at hc
   exact ⟨h', by rw [hc]; rfl, S⟩
end Go.Dd

namespace Go.Dd
def Oth (m wb pb : Pos) (h h1 : Hp) : Prop := h1.next = h.next ∧ ∀ b, b ≠ m → b ≠ wb → b ≠ pb → h1.bl.get b = h.bl.get b
theorem Oth.refl (m wb pb : Pos) (h : Hp) : Oth m wb pb h h := ⟨rfl, fun _ _ _ _ => rfl⟩
theorem Oth.trans {m wb pb : Pos} {a b c : Hp} (h : Oth m wb pb a b) (k : Oth m wb pb b c) : Oth m wb pb a c := ⟨k.1.trans h.1, fun x h1 h2 h3 => (k.2 x h1 h2 h3).trans (h.2 x h1 h2 h3)⟩
section
variable {m : Pos} {M : MemV} {h : Hp}
def bPs (M : MemV) : Ob := .row .ex [.l M.wb 0 M.n M.n, .i .i64 (Int.ofNat M.fin), .i .i64 (Int.ofNat M.made), .m M.pb]
theorem ML.setM (H : ML m M h) (M' : MemV) (e1 : M'.wb = M.wb) (e2 : M'.pb = M.pb) (e3 : M'.n = M.n) (e4 : M'.t = M.t) (e5 : M'.pl = M.pl) (h1 : M'.fin ≤ M.n) (h2 : M'.made < 2000000) :
  ML m M' ⟨h.next, Tr.set (bPs M') m h.bl⟩ ∧ Oth m M.wb M.pb h ⟨h.next, Tr.set (bPs M') m h.bl⟩ := by
 refine ⟨⟨by rw [eOx]; rfl, ?_, ?_, by rw [e3]; exact H.n_lt, by rw [e3]; exact h1, h2, by rw [e1]; exact H.d1, by rw [e2]; exact H.d2, by rw [e1, e2]; exact H.d3⟩, rfl, fun b h1 _ _ => eOw _ _ _ _ h1⟩
 ·rw [e1, e3, e4, eOw _ _ _ _ (Ne.symm H.d1)]; exact H.words
 ·rw [e2, e5, eOw _ _ _ _ (Ne.symm H.d2)]; exact H.places
theorem ML.st1 (H : ML m M h) {x : Nat} (hx : x ≤ M.n) : ∃ h1, aD 1 (.p m (0 + 1)) (.i .i64 (Int.ofNat x)) h = some (bB, h1) ∧ ML m { M with fin := x } h1 ∧ Oth m M.wb M.pb h h1 := by
 obtain ⟨a, b⟩ := H.setM { M with fin := x } rfl rfl rfl rfl rfl hx H.made_lt
 exact ⟨_, by simp [aD, fA, dG, H.row, Kind.writable, gW, nJ, DV.one, bPs], a, b⟩
theorem ML.st2 (H : ML m M h) {x : Nat} (hx : x < 2000000) : ∃ h1, aD 1 (.p m (0 + 2)) (.i .i64 (Int.ofNat x)) h = some (bB, h1) ∧ ML m { M with made := x } h1 ∧ Oth m M.wb M.pb h h1 := by
 obtain ⟨a, b⟩ := H.setM { M with made := x } rfl rfl rfl rfl rfl H.fin_le hx
 exact ⟨_, by simp [aD, fA, dG, H.row, Kind.writable, gW, nJ, DV.one, bPs], a, b⟩
theorem ML.setW (H : ML m M h) (t : WT) : ML m { M with t := t } ⟨h.next, Tr.set (.row .ex (iC M.n t)) M.wb h.bl⟩ ∧ Oth m M.wb M.pb h ⟨h.next, Tr.set (.row .ex (iC M.n t)) M.wb h.bl⟩ := by
 refine ⟨⟨?_, by rw [eOx], ?_, H.n_lt, H.fin_le, H.made_lt, H.d1, H.d2, H.d3⟩, rfl, fun b _ h1 _ => eOw _ _ _ _ h1⟩
 ·rw [eOw _ _ _ _ H.d1]; exact H.row
 ·rw [eOw _ _ _ _ (Ne.symm H.d3)]; exact H.places
theorem ML.put' (H : ML m M h) {a : Nat} (ha : a < M.n) (w : Int) : ∃ h1, aD 1 (.p M.wb a) (.i .i64 w) h = some (bB, h1) ∧ ML m { M with t := M.t.set a w } h1 ∧ Oth m M.wb M.pb h h1 :=
 ⟨_, H.put ha w, (H.setW _).1, (H.setW _).2⟩
theorem bJr {a : Int} {es : List (DV × DV)} : ∀ (b : Int) {r r' : Option DV}, iF (.int .i64) (.i .i64 a) es = some r → iF (.int .i64) (.i .i64 b) es = some r' →
  iF (.int .i64) (.i .i64 b) (qW (.int .i64) (.i .i64 a) (.b true) es) = some (if b = a then some (.b true) else r') := by
 induction es with
 | nil =>
  intro b r r' h1 h2
  simp only [iF, bG] at h2
  subst h2
  simp only [qW, iF, yA, if_true]
  by_cases e : b = a
  ·simp [e]
  ·have : (b == a) = false := by simpa using e
   simp [e, this]
 | cons e es ih =>
  intro b r r' h1 h2
  simp only [iF] at h1 h2
  have hk : ∃ c, e.1 = .i .i64 c := by
   obtain ⟨x, y⟩ := e
   cases x <;> simp [yA] at h1
   rename_i k c
   cases k <;> simp at h1
   exact ⟨c, rfl⟩
  obtain ⟨c, hc⟩ := hk
  simp only [hc, yA, if_true] at h1 h2
  simp only [qW, hc, yA, if_true]
  by_cases hac : a = c
  ·subst hac
   simp only [beq_self_eq_true] at h1 ⊢
   simp only [iF, yA, if_true]
   by_cases hba : b = a
   ·subst hba; simp
   ·have : (b == a) = false := by simpa using hba
    simp only [this] at h2 ⊢
    rw [h2]; simp [hba]
  ·have hac' : (a == c) = false := by simpa using hac
   simp only [hac'] at h1 ⊢
   simp only [iF, hc, yA, if_true]
   by_cases hbc : b = c
   ·subst hbc
    simp only [beq_self_eq_true, bG] at h2 ⊢
    rw [if_neg (fun e => hac e.symm), h2]
   ·have hbc' : (b == c) = false := by simpa using hbc
    simp only [hbc'] at h2 ⊢
    exact ih b h1 h2
theorem ML.place (H : ML m M h) {a : Nat} (ha : a < 16000000) : ∃ h1, gL (.int .i64) (.m M.pb) (.i .i64 (a : Int)) (.b true) h = some (bB, h1) ∧ ML m { M with pl := M.pl.set a 1 } h1 ∧ Oth m M.wb M.pb h h1 := by
 obtain ⟨es, h1, h2⟩ := H.places
 refine ⟨⟨h.next, Tr.set (.mp (qW (.int .i64) (.i .i64 (a : Int)) (.b true) es)) M.pb h.bl⟩, by simp [gL, h1, h2 a], ⟨?_, ?_, ⟨_, by rw [eOx], fun b => ?_⟩, H.n_lt, H.fin_le, H.made_lt, H.d1, H.d2, H.d3⟩, rfl, fun b _ _ h1 => eOw _ _ _ _ h1⟩
 ·rw [eOw _ _ _ _ H.d2]; exact H.row
 ·rw [eOw _ _ _ _ H.d3]; exact H.words
 ·rw [bJr b (h2 a) (h2 b)]
  congr 1
  by_cases e : b = (a : Int)
  ·subst e
   simp [WT.get_set _ _ _ _ ha]
  ·rw [if_neg e]
   by_cases hb : 0 ≤ b
   ·have : b.toNat ≠ a := by omega
    rw [WT.get_set _ _ _ _ ha, if_neg this]
   ·simp [hb]
theorem cUr {h' h1 : Hp} {M' : MemV} (S : Sim false h h') (hM : mC m h = some M) (H1 : ML m M' h1) (e1 : M'.wb = M.wb) (e2 : M'.pb = M.pb) (e3 : M'.n = M.n) (O : Oth m M.wb M.pb h' h1) :
  Sim false ⟨h.next, Tr.set (bPs M') m (Tr.set (.mi M'.pl) M.pb (Tr.set (.big M.n M'.t) M.wb h.bl))⟩ h1 := by
 have H := fP hM S
 refine ⟨O.1.trans S.next, fun b o hb => ?_⟩
 by_cases b1 : b = m
 ·subst b1
  simp only [eOx, bG] at hb
  subst hb
  exact ⟨_, H1.row, rfl⟩
 ·simp only [eOw _ _ _ _ b1] at hb
  by_cases b2 : b = M.pb
  ·subst b2
   simp only [eOx, bG] at hb
   subst hb
   obtain ⟨es, p1, p2⟩ := H1.places
   rw [e2] at p1
   exact ⟨_, p1, by simp only [uS]; exact ⟨es, rfl, p2⟩⟩
  ·simp only [eOw _ _ _ _ b2] at hb
   by_cases b3 : b = M.wb
   ·subst b3
    simp only [eOx, bG] at hb
    subst hb
    have := H1.words
    rw [e1, e3] at this
    exact ⟨_, this, by simp [uS]⟩
   ·simp only [eOw _ _ _ _ b3] at hb
    rw [O.2 b b1 b3 b2]
    exact S.get b o hb
theorem bNz {h' h1 : Hp} {t : WT} (S : Sim false h h') (hM : mC m h = some M) (H1 : ML m { M with t := t } h1) (O : Oth m M.wb M.pb h' h1) (hm : h1.bl.get m = h'.bl.get m) (hp : h1.bl.get M.pb = h'.bl.get M.pb) :
  Sim false ⟨h.next, Tr.set (.big M.n t) M.wb h.bl⟩ h1 := by
 refine ⟨O.1.trans S.next, fun b o hb => ?_⟩
 by_cases b3 : b = M.wb
 ·subst b3
  simp only [eOx, bG] at hb
  subst hb
  exact ⟨_, H1.words, by simp [uS]⟩
 ·simp only [eOw _ _ _ _ b3] at hb
  by_cases b1 : b = m
  ·subst b1; rw [hm]; exact S.get _ o hb
  ·by_cases b2 : b = M.pb
   ·subst b2; rw [hp]; exact S.get _ o hb
   ·rw [O.2 b b1 b3 b2]
    exact S.get b o hb
end
theorem aQt {m : Pos} {M : MemV} {h h' : Hp} (S : Sim false h h') (hM : mC m h = some M) {a : Nat} (ha : a < M.n) (w : Int) {v : DV} {k : Hp} (hp : pJ M a w h = some (v, k)) :
  v = .i .i64 (Int.ofNat 0) ∧ ∃ h1, aD 1 (.p M.wb a) (.i .i64 w) h' = some (bB, h1) ∧ Sim false k h1 := by
 have H := fP hM S
 simp only [pJ, bG, bR] at hp
 obtain ⟨rfl, rfl⟩ := hp
 refine ⟨rfl, _, H.put ha w, bNz S hM (H.setW _).1 (H.setW _).2 ?_ ?_⟩
 ·exact eOw _ _ _ _ H.d1
 ·exact eOw _ _ _ _ (Ne.symm H.d3)
theorem cTy (n : Nat) (args : List DV) : SimP false (aBj args) (fO CF1 (n + 12) 38 args) := fun h h' S v k e => by
 obtain ⟨m, rest, M, rfl, hM, e⟩ := eL e
 split at e <;> (try (cases e; done))
 rename_i o i w _
 have H := fP hM S
 rw [cB 38 rfl, eBu]
 simp only [t47, bIm, g0, g1, g2, g3]
 rcases cBm H e with ⟨er, he, e1, e2⟩ | ⟨hd, a, h0, h1, h2, h3, e1, e2⟩
 ·simp only [bG, bR] at e1
  obtain ⟨rfl, rfl⟩ := e1
  refine ⟨h', ?_, S⟩
  simp only [e2 (n + 4), bI, bXj, cDx, aPt, aFk, dGk he, fM]
 ·have e0 : (Int.ofNat 0 != Int.ofNat 0) = false := rfl
  have h51 := eGk H (n + 5) o (show gP o M.pl < M.n by omega)
  rw [h3] at h51
  simp only [e2 (n + 4), bI, bXj, cDx, aPt, aFk, e0, eP, bJb, h51, iW]
  have hmod : Int.ofNat hd % 4 = Int.ofNat (Nat.mod hd 4) := rfl
  have h4 : sU (fO CF1 (n + 11)) (n + 11) (.p m 0) (.i .i64 w) (.i .i64 (a : Int)) h' = bnd (aD 1 (.p M.wb a) (.i .i64 w) h') fun _ h5 => some (.i .i64 (Int.ofNat 0), h5) := by
   simp only [sU, gX, dU, bI, H.l0, H.ix h1]
  have hput : pJ M a w h = some (v, k) → ∃ h1, sU (fO CF1 (n + 11)) (n + 11) (.p m 0) (.i .i64 w) (.i .i64 (a : Int)) h' = some (v, h1) ∧ Sim false k h1 := by
   intro hp
   obtain ⟨rfl, h1', p1, p2⟩ := aQt S hM h1 w hp
   exact ⟨h1', by rw [h4, p1]; rfl, p2⟩
  rw [hmod]
  split at e1
  ·rename_i hz
   rw [hz]
   have : (Int.ofNat 0 == Int.ofNat 0) = true := rfl
   simp only [this, fM, eGr H, bI, sQ]
   cases hmay : bN w M.pl with
   | true =>
    rw [hmay] at e1
    simp only [cond_true] at e1
    simp only [Bool.not_true, eP]
    exact hput e1
   | false =>
    rw [hmay] at e1
    simp only [cond_false, bG, bR] at e1
    obtain ⟨rfl, rfl⟩ := e1
    exact ⟨h', rfl, S⟩
  ·rename_i hz
   rw [hz]
   have q0 : (Int.ofNat 2 == Int.ofNat 0) = false := rfl
   have q2 : (Int.ofNat 2 == Int.ofNat 2) = true := rfl
   simp only [q0, eP, bI, q2, fM, fW]
   cases w with
   | negSucc c =>
    simp only [bG, bR] at e1
    obtain ⟨rfl, rfl⟩ := e1
    have hlt : decide (Int.negSucc c < Int.ofNat 0) = true := decide_eq_true (Int.negSucc_lt_zero c)
    simp only [hlt, jH, bI, eK, fM]
    exact ⟨h', rfl, S⟩
   | ofNat c =>
    dsimp only at e1
    have hlt : decide (Int.ofNat c < Int.ofNat 0) = false := by simp
    simp only [hlt, oO, bI, fG, aCn]
    rw [aPn] at e1
    by_cases hc : c ≤ 255
    ·simp only [hc, decide_true, cond_true] at e1
     have hgt : decide (Int.ofNat c > Int.ofNat 255) = false := by
      simp only [decide_eq_false_iff_not, Int.ofNat_eq_natCast]; omega
     simp only [hgt, eP]
     exact hput e1
    ·simp only [hc, decide_false, cond_false, bG, bR] at e1
     obtain ⟨rfl, rfl⟩ := e1
     have hgt : decide (Int.ofNat c > Int.ofNat 255) = true := by
      simp only [decide_eq_true_eq, Int.ofNat_eq_natCast]; omega
     simp only [hgt, fM]
     exact ⟨h', rfl, S⟩
  ·rename_i hz0 hz2
   have q0 : (Int.ofNat (Nat.mod hd 4) == Int.ofNat 0) = false := by
    simp only [beq_eq_false_iff_ne, ne_eq, Int.ofNat_eq_natCast]
    intro e; exact hz0 (by exact_mod_cast e)
   have q2 : (Int.ofNat (Nat.mod hd 4) == Int.ofNat 2) = false := by
    simp only [beq_eq_false_iff_ne, ne_eq, Int.ofNat_eq_natCast]
    intro e; exact hz2 (by exact_mod_cast e)
   simp only [q0, eP, bI, q2, eP]
   exact hput e1
theorem aFv (n : Nat) (args : List DV) : SimP false (kV args) (fO CF1 (n + 12) 35 args) := fun h h' S v k e => by
 obtain ⟨m, rest, M, rfl, hM, e⟩ := eL e
 split at e <;> (try (cases e; done))
 rename_i o c _
 have H := fP hM S
 rw [cB 35 rfl, eEd]
 simp only [t44, g0, g1, g2, sZ H, bI, iW]
 rw [pW] at e
 by_cases h0 : gP o M.pl = 0
 ·simp only [h0, decide_true, Bool.true_or, cond_true, bG, bR] at e
  obtain ⟨rfl, rfl⟩ := e
  have : ((0 : Nat) : Int) = Int.ofNat 0 := rfl
  have q : (((gP o M.pl : Nat) : Int) == Int.ofNat 0) = true := by rw [h0]; rfl
  simp only [q, jH, bI, eK, fM]
  exact ⟨h', rfl, S⟩
 ·have q : (((gP o M.pl : Nat) : Int) == Int.ofNat 0) = false := by simpa using h0
  simp only [q, oO, bI, fG, dXz H, sQ]
  cases hc : aBe c M.pl with
  | false =>
   rw [hc] at e
   simp only [h0, decide_false, Bool.not_false, Bool.false_or, cond_true, bG, bR] at e
   obtain ⟨rfl, rfl⟩ := e
   simp only [Bool.not_false, fM]
   exact ⟨h', rfl, S⟩
  | true =>
   rw [hc] at e
   simp only [h0, decide_false, Bool.not_true, Bool.false_or, cond_false] at e
   rw [tE] at e
   by_cases ha : Nat.add (gP o M.pl) 1 < M.n
   ·simp only [ha, decide_true, cond_true] at e
    have ha' : gP o M.pl + 1 < M.n := ha
    have hn := H.n_lt
    simp only [Bool.not_true, eP, gX, dU, bI, H.l0]
    rw [oI _ _ _ (by simp only [Int.ofNat_eq_natCast]; omega)]
    have ee : (gP o M.pl : Int) + Int.ofNat 1 = ((gP o M.pl + 1 : Nat) : Int) := by simp
    obtain ⟨rfl, h1', p1, p2⟩ := aQt S hM ha' c e
    simp only [bI, ee, H.ix ha', p1]
    exact ⟨h1', rfl, p2⟩
   ·simp only [ha, decide_false, cond_false] at e
    cases e
end Go.Dd

namespace Go.Dd
theorem jU (a b : Nat) (h : Hp) (hr : a + b < 4611686018427387904) : aF .add (.i .i64 (Int.ofNat a)) (.i .i64 (Int.ofNat b)) h = some (.i .i64 (Int.ofNat (a + b)), h) := by
 rw [oI _ _ _ (by simp only [Int.ofNat_eq_natCast]; omega)]
 rfl
theorem dTz (c f : Nat) (h : Hp) (hc : c ≤ 256) (hf : f ≤ 2) : aF .or (.i .i64 (4 * Int.ofNat c)) (.i .i64 (Int.ofNat f)) h = some (.i .i64 (Int.ofNat (c * 4 + f)), h) := by
 have hb : gN .or .i64 (4 * Int.ofNat c) (Int.ofNat f) = some (.i .i64 (Int.ofNat (c * 4 + f))) := by
  have := dVk c 2 f (by omega) (by omega)
  have e1 : ((c * 2 ^ 2 : Nat) : Int) = 4 * Int.ofNat c := by simp only [Int.ofNat_eq_natCast]; omega
  have e2 : ((c * 2 ^ 2 + f : Nat) : Int) = Int.ofNat (c * 4 + f) := rfl
  rw [e1, e2] at this
  rw [← this]; rfl
 simp only [aF, if_true, hb]
theorem aBn (t : WT) : ∀ (c a j : Nat), a + c < 16000000 → (nR t c a).get j = if a ≤ j ∧ j < a + c then 0 else t.get j
 | 0, a, j, h => by rw [if_neg (by omega)]; rfl
 | c + 1, a, j, h => by
  have e : nR t (c + 1) a = (nR t c (a + 1)).set a (.ofNat 0) := rfl
  rw [e, WT.get_set _ _ _ _ (by omega), aBn t c (a + 1) j (by omega)]
  by_cases h1 : j = a
  ·rw [if_pos h1, if_pos (by omega)]; rfl
  ·rw [if_neg h1]
   by_cases h2 : a + 1 ≤ j ∧ j < a + 1 + c
   ·rw [if_pos h2, if_pos (by omega)]
   ·rw [if_neg h2, if_neg (by omega)]
theorem bIn : ∀ (l vs : List DV), (∀ v ∈ l, v.one = true) → (∀ v ∈ vs, v.one = true) → vs.length ≤ l.length → ∃ l', nJ l vs = some l'
 | l, [], _, _, _ => ⟨l, by cases l <;> rfl⟩
 | [], v :: vs, _, _, h => by simp at h
 | x :: l, v :: vs, h1, h2, h3 => by
  obtain ⟨l', e⟩ := bIn l vs (fun u hu => h1 u (by simp [hu])) (fun u hu => h2 u (by simp [hu])) (by simpa using h3)
  exact ⟨v :: l', by simp [nJ, h1 x (by simp), h2 v (by simp), e]⟩
theorem aQh : ∀ (o : Nat) (l vs : List DV), (∀ v ∈ l, v.one = true) → (∀ v ∈ vs, v.one = true) → o + vs.length ≤ l.length → ∃ l', gW o l vs = some l'
 | 0, l, vs, h1, h2, h3 => by
  obtain ⟨l', e⟩ := bIn l vs h1 h2 (by omega)
  exact ⟨l', e⟩
 | o + 1, [], vs, h1, h2, h3 => by simp at h3
 | o + 1, x :: l, vs, h1, h2, h3 => by
  obtain ⟨l', e⟩ := aQh o l vs (fun u hu => h1 u (by simp [hu])) h2 (by simp at h3; omega)
  exact ⟨x :: l', by simp [gW, e]⟩
section
variable {m : Pos} {M : MemV} {h : Hp}
theorem bSi {n : Nat} {t : WT} : ∀ v ∈ iC n t, v.one = true := by
 intro v hv
 simp only [iC, List.mem_map] at hv
 obtain ⟨i, _, rfl⟩ := hv
 rfl
theorem ML.ix' (H : ML m M h) {a : Nat} (ha : a < M.n) : aI 1 (.l M.wb 0 M.n M.n) (.i .i64 (Int.ofNat a)) h = some (.p M.wb a, h) := H.ix ha
theorem aAj (c : Nat) : (List.replicate c [DV.i .i64 (Int.ofNat 0)]).flatten = List.replicate c (.i .i64 (Int.ofNat 0)) := by
 induction c with
 | zero => rfl
 | succ c ih => simp [List.replicate_succ, ih]
theorem ML.clear (H : ML m M h) {a c : Nat} (hac : a + c ≤ M.n) : ∃ v h1, cT 1 (.l M.wb 0 M.n M.n) (some (.i .i64 (Int.ofNat a))) (some (.i .i64 (Int.ofNat (a + c)))) h = some (v, h) ∧
  jD [.i .i64 (Int.ofNat 0)] v h = some (.t [], h1) ∧ ML m { M with t := nR M.t c a } h1 ∧ Oth m M.wb M.pb h h1 := by
 have hn := H.n_lt
 have e1 : iG (.i .i64 (Int.ofNat (a + c))) M.n = some (a + c) := by
  have : (0 : Int) ≤ Int.ofNat (a + c) ∧ Int.ofNat (a + c) ≤ (M.n : Int) := by simp only [Int.ofNat_eq_natCast]; omega
  simp only [iG, this, and_self, if_true]
  rfl
 have e2 : iG (.i .i64 (Int.ofNat a)) (a + c) = some a := by
  have : (0 : Int) ≤ Int.ofNat a ∧ Int.ofNat a ≤ ((a + c : Nat) : Int) := by simp only [Int.ofNat_eq_natCast]; omega
  simp only [iG, this, and_self, if_true]
  rfl
 refine ⟨.l M.wb (if M.n = a then 0 else 0 + a * 1) (a + c - a) (M.n - a), ?_⟩
 have hs : cT 1 (.l M.wb 0 M.n M.n) (some (.i .i64 (Int.ofNat a))) (some (.i .i64 (Int.ofNat (a + c)))) h = some (.l M.wb (if M.n = a then 0 else 0 + a * 1) (a + c - a) (M.n - a), h) := by
  simp only [cT, hiD, loD, e1, e2, H.words]
 by_cases hc : c = 0
 ·subst hc
  refine ⟨h, hs, by simp [jD], H, Oth.refl _ _ _ _⟩
 ·obtain ⟨l', hl'⟩ := aQh a (iC M.n M.t) (List.replicate c (.i .i64 (Int.ofNat 0))) bSi (fun v hv => by rw [List.eq_of_mem_replicate hv]; rfl) (by simp [iC]; omega)
  obtain ⟨p1, p2, p3, p4, p5⟩ := lE _ _ _ _ hl'
  have hll : l' = iC M.n (nR M.t c a) := by
   apply List.ext_getElem?
   intro j
   by_cases hj : j < M.n
   ·rw [kW hj, aBn _ _ _ _ (by omega)]
    by_cases hin : a ≤ j ∧ j < a + c
    ·rw [if_pos hin]
     obtain ⟨q1, _⟩ := p4 (j - a) (.i .i64 (Int.ofNat 0)) (by rw [List.getElem?_replicate, if_pos (by omega)])
     rw [show a + (j - a) = j from by omega] at q1
     exact q1
    ·rw [if_neg hin, p5 j (by rw [List.length_replicate]; omega), kW hj]
   ·rw [List.getElem?_eq_none (by rw [p1]; simp [iC]; omega), List.getElem?_eq_none (by simp [iC]; omega)]
  refine ⟨⟨h.next, Tr.set (.row .ex (iC M.n (nR M.t c a))) M.wb h.bl⟩, hs, ?_, (H.setW _).1, (H.setW _).2⟩
  have hna : M.n ≠ a := by omega
  rw [if_neg hna]
  simp only [jD, show a + c - a = c from by omega, hc, if_false, aAj, dG, H.words, Kind.writable, if_true, Nat.zero_add, Nat.mul_one, hl', hll]
end
noncomputable def bDs (rec : FuncId → List DV → Hp → aK) (x0 x3 v26 : DV) (h0 : Hp) : aK :=
 bnd (aO x0 h0) fun v64 h64 =>
 bnd (aB 1 v64 h64) fun v65 h65 =>
 bnd (aA v65 h65) fun v66 h66 =>
 bnd (aF .add x3 (.i .i64 (Int.ofNat 3)) h66) fun v67 h67 =>
 bnd (aF .add v66 v67 h67) fun v68 h68 =>
 bnd (aO x0 h68) fun v69 h69 =>
 bnd (aB 1 v69 h69) fun v70 h70 =>
 bnd (aD 1 v70 v68 h70) fun _ h71 =>
 bnd (aO x0 h71) fun v72 h72 =>
 bnd (aB 3 v72 h72) fun v73 h73 =>
 bnd (aA v73 h73) fun v74 h74 =>
 bnd (gL (.int .i64) v74 v26 (.b true) h74) fun _ h75 =>
 bnd (rec 76 [v26] h75) fun v76 h76 =>
 bnd (aG 0 v76 h76) fun v77 h77 =>
 bnd (aG 1 v76 h77) fun v78 h78 =>
 some (.t [v77, (.i .i64 (Int.ofNat 0))], h78)
noncomputable def bBg (rec : FuncId → List DV → Hp → aK) (x0 x3 v26 : DV) (h0 : Hp) : aK :=
 bnd (aO x0 h0) fun v56 h56 =>
 bnd (aB 0 v56 h56) fun v57 h57 =>
 bnd (aA v57 h57) fun v58 h58 =>
 bnd (aF .add v26 (.i .i64 (Int.ofNat 3)) h58) fun v59 h59 =>
 bnd (aF .add v26 (.i .i64 (Int.ofNat 3)) h59) fun v60 h60 =>
 bnd (aF .add v60 x3 h60) fun v61 h61 =>
 bnd (cT 1 v58 (some v59) (some v61) h61) fun v62 h62 =>
 bnd (jD [(.i .i64 (Int.ofNat 0))] v62 h62) fun _ h63 =>
 bDs rec x0 x3 v26 h63
noncomputable def bHk (rec : FuncId → List DV → Hp → aK) (x0 x1 x2 x3 v26 : DV) (h0 : Hp) : aK :=
 bnd (aO x0 h0) fun v34 h34 =>
 bnd (aB 0 v34 h34) fun v35 h35 =>
 bnd (aA v35 h35) fun v36 h36 =>
 bnd (aO x0 h36) fun v37 h37 =>
 bnd (aB 0 v37 h37) fun v38 h38 =>
 bnd (aA v38 h38) fun v39 h39 =>
 bnd (aF .add v26 (.i .i64 (Int.ofNat 1)) h39) fun v40 h40 =>
 bnd (aO x0 h40) fun v41 h41 =>
 bnd (aB 0 v41 h41) fun v42 h42 =>
 bnd (aA v42 h42) fun v43 h43 =>
 bnd (aF .add v26 (.i .i64 (Int.ofNat 2)) h43) fun v44 h44 =>
 bnd (dF .shl x3 (.i .u64 (Int.ofNat 2)) h44) fun v45 h45 =>
 bnd (aF .or v45 x2 h45) fun v46 h46 =>
 bnd (aO x0 h46) fun v47 h47 =>
 bnd (aB 2 v47 h47) fun v48 h48 =>
 bnd (aA v48 h48) fun v49 h49 =>
 bnd (aI 1 v36 v26 h49) fun v50 h50 =>
 bnd (aD 1 v50 v46 h50) fun v51 h51 =>
 bnd (aI 1 v39 v40 h51) fun v52 h52 =>
 bnd (aD 1 v52 x1 h52) fun v53 h53 =>
 bnd (aI 1 v43 v44 h53) fun v54 h54 =>
 bnd (aD 1 v54 v49 h54) fun v55 h55 =>
 bBg rec x0 x3 v26 h55
noncomputable def aGr (rec : FuncId → List DV → Hp → aK) (x0 x1 x2 x3 : DV) (h0 : Hp) : aK :=
 bnd (aO x0 h0) fun v24 h24 =>
 bnd (aB 1 v24 h24) fun v25 h25 =>
 bnd (aA v25 h25) fun v26 h26 =>
 bnd (aO x0 h26) fun v27 h27 =>
 bnd (aB 2 v27 h27) fun v28 h28 =>
 bnd (aA v28 h28) fun v29 h29 =>
 bnd (aF .add v29 (.i .i64 (Int.ofNat 1)) h29) fun v30 h30 =>
 bnd (aO x0 h30) fun v31 h31 =>
 bnd (aB 2 v31 h31) fun v32 h32 =>
 bnd (aD 1 v32 v30 h32) fun _ h33 =>
 bHk rec x0 x1 x2 x3 v26 h33
theorem dJs (rec : FuncId → List DV → Hp → aK) (n : Nat) (x0 x1 x2 x3 : DV) (h0 : Hp) : t30 rec n x0 x1 x2 x3 h0 = (
 bnd (rec 74 [x0, x1] h0) fun v1 h1 =>
 bnd (eO .not v1 h1) fun v2 h2 =>
 bnd (gD v2 false (some (x2, h2)) h2) fun v3 h3 =>
 bnd (gD v2 false (aF .lss v3 (.i .i64 (Int.ofNat 0)) h3) h3) fun v4 h4 =>
 bnd (aQ v2 (.b true) v4 h4) fun v5 h5 =>
 bnd (gD v5 false (some (x2, h5)) h5) fun v6 h6 =>
 bnd (gD v5 false (aF .gtr v6 (.i .i64 (Int.ofNat 2)) h6) h6) fun v7 h7 =>
 bnd (aQ v5 (.b true) v7 h7) fun v8 h8 =>
 bnd (gD v8 false (some (x3, h8)) h8) fun v9 h9 =>
 bnd (gD v8 false (aF .lss v9 (.i .i64 (Int.ofNat 0)) h9) h9) fun v10 h10 =>
 bnd (aQ v8 (.b true) v10 h10) fun v11 h11 =>
 bnd (gD v11 false (some (x3, h11)) h11) fun v12 h12 =>
 bnd (gD v11 false (aF .gtr v12 (.i .i64 (Int.ofNat 256)) h12) h12) fun v13 h13 =>
 bnd (aQ v11 (.b true) v13 h13) fun v14 h14 =>
 aU v14 (
 some (.t [(.i .i64 (Int.ofNat 0)), (.i .i64 (Int.ofNat 1))], h14)) (
 bnd (rec 75 [x0] h14) fun v15 h15 =>
 bnd (aF .add x3 (.i .i64 (Int.ofNat 3)) h15) fun v16 h16 =>
 bnd (aF .lss v15 v16 h16) fun v17 h17 =>
 bnd (gD v17 false (some (x0, h17)) h17) fun v18 h18 =>
 bnd (gD v17 false (aO v18 h18) h18) fun v19 h19 =>
 bnd (gD v17 false (aB 2 v19 h19) h19) fun v20 h20 =>
 bnd (gD v17 false (aA v20 h20) h20) fun v21 h21 =>
 bnd (gD v17 false (aF .geq v21 (.i .i64 (Int.ofNat 1099511627776)) h21) h21) fun v22 h22 =>
 bnd (aQ v17 (.b true) v22 h22) fun v23 h23 =>
 aU v23 (
 some (.t [(.i .i64 (Int.ofNat 0)), (.i .i64 (Int.ofNat 4))], h23)) (
 aGr rec x0 x1 x2 x3 h23))) := rfl
section
variable {m : Pos} {M : MemV} {h : Hp}
theorem bXd (H : ML m M h) {c : Nat} (hr : M.fin + (c + 3) ≤ M.n) (ha : 3 ≤ M.fin ∧ M.fin ≤ 131072) (n : Nat) :
  ∃ h1, bDs (fO CF1 (n + 11)) (.p m 0) (.i .i64 (Int.ofNat c)) (.i .i64 (Int.ofNat M.fin)) h = some (.t [.i .i64 (Int.ofNat (Nat.mul M.fin 2)), .i .i64 (Int.ofNat 0)], h1) ∧
   ML m { M with fin := M.fin + (c + 3), pl := M.pl.set M.fin 1 } h1 ∧ Oth m M.wb M.pb h h1 := by
 have hn := H.n_lt
 simp only [bDs, gX, dU, bI, H.l1, jU c 3 _ (show c + 3 < 4611686018427387904 by omega), jU M.fin (c + 3) _ (show M.fin + (c + 3) < 4611686018427387904 by omega)]
 obtain ⟨h6, s6, H6, O6⟩ := H.st1 (x := M.fin + (c + 3)) hr
 simp only [s6, bI, H6.l3]
 obtain ⟨h7, s7, H7, O7⟩ := H6.place (a := M.fin) (by omega)
 rw [show gL (.int .i64) (.m M.pb) (.i .i64 (Int.ofNat M.fin)) (.b true) h6 = some (bB, h7) from s7]
 have hp : 3 ≤ Int.ofNat M.fin ∧ Int.ofNat M.fin ≤ 131072 := by simp only [Int.ofNat_eq_natCast]; omega
 have e2 : 2 * Int.ofNat M.fin = Int.ofNat (Nat.mul M.fin 2) := by
  have : Nat.mul M.fin 2 = M.fin * 2 := rfl
  rw [this]; simp only [Int.ofNat_eq_natCast]; omega
 have h75 := eJx (n + 9) (Int.ofNat M.fin) h7
 rw [if_pos hp, e2] at h75
 simp only [bI, h75, bXj, cDx]
 exact ⟨h7, rfl, H7, O6.trans O7⟩
theorem cCf (H : ML m M h) {c : Nat} (hr : M.fin + (c + 3) ≤ M.n) (n : Nat) :
  ∃ h1, bBg (fO CF1 (n + 11)) (.p m 0) (.i .i64 (Int.ofNat c)) (.i .i64 (Int.ofNat M.fin)) h = bDs (fO CF1 (n + 11)) (.p m 0) (.i .i64 (Int.ofNat c)) (.i .i64 (Int.ofNat M.fin)) h1 ∧
   ML m { M with t := nR M.t c (M.fin + 3) } h1 ∧ Oth m M.wb M.pb h h1 := by
 have hn := H.n_lt
 obtain ⟨vv, h5, s5, s5', H5, O5⟩ := H.clear (a := M.fin + 3) (c := c) (show M.fin + 3 + c ≤ M.n by omega)
 refine ⟨h5, ?_, H5, O5⟩
 simp only [bBg, gX, dU, bI, H.l0, jU M.fin 3 _ (show M.fin + 3 < 4611686018427387904 by omega), jU (M.fin + 3) c _ (show M.fin + 3 + c < 4611686018427387904 by omega), s5, s5']
theorem cBf (H : ML m M h) {cls : Int} {c f : Nat} (hcc : c ≤ 256) (hf : f ≤ 2) (hr : M.fin + (c + 3) ≤ M.n) (n : Nat) :
  ∃ h1, bHk (fO CF1 (n + 11)) (.p m 0) (.i .i64 cls) (.i .i64 (Int.ofNat f)) (.i .i64 (Int.ofNat c)) (.i .i64 (Int.ofNat M.fin)) h = bBg (fO CF1 (n + 11)) (.p m 0) (.i .i64 (Int.ofNat c)) (.i .i64 (Int.ofNat M.fin)) h1 ∧
   ML m { M with t := ((M.t.set M.fin (Int.ofNat (c * 4 + f))).set (M.fin + 1) cls).set (M.fin + 2) (Int.ofNat M.made) } h1 ∧ Oth m M.wb M.pb h h1 := by
 have hn := H.n_lt
 obtain ⟨h2, s2, H2, O2⟩ := H.put' (a := M.fin) (show M.fin < M.n by omega) (Int.ofNat (c * 4 + f))
 obtain ⟨h3, s3, H3, O3⟩ := H2.put' (a := M.fin + 1) (show M.fin + 1 < M.n by omega) cls
 obtain ⟨h4, s4, H4, O4⟩ := H3.put' (a := M.fin + 2) (show M.fin + 2 < M.n by omega) (Int.ofNat M.made)
 have i1 := H.ix' (a := M.fin) (by omega)
 have i2 : aI 1 (.l M.wb 0 M.n M.n) (.i .i64 (Int.ofNat (M.fin + 1))) h2 = some (.p M.wb (M.fin + 1), h2) := H2.ix' (a := M.fin + 1) (show M.fin + 1 < M.n by omega)
 have i3 : aI 1 (.l M.wb 0 M.n M.n) (.i .i64 (Int.ofNat (M.fin + 2))) h3 = some (.p M.wb (M.fin + 2), h3) := H3.ix' (a := M.fin + 2) (show M.fin + 2 < M.n by omega)
 have s3' : aD 1 (.p M.wb (M.fin + 1)) (.i .i64 cls) h2 = some (bB, h3) := s3
 have s4' : aD 1 (.p M.wb (M.fin + 2)) (.i .i64 (Int.ofNat M.made)) h3 = some (bB, h4) := s4
 refine ⟨h4, ?_, H4, (O2.trans O3).trans O4⟩
 simp only [bHk, gX, dU, bI, H.l0, H.l2, jU M.fin 1 _ (show M.fin + 1 < 4611686018427387904 by omega), jU M.fin 2 _ (show M.fin + 2 < 4611686018427387904 by omega),
  cSi (Int.ofNat c) _ (show -2305843009213693952 ≤ Int.ofNat c ∧ Int.ofNat c ≤ 2305843009213693951 by simp only [Int.ofNat_eq_natCast]; omega), dTz c f _ hcc hf, i1, s2, i2, s3', i3, s4']
end
theorem bNo {m : Pos} {M : MemV} {h h' : Hp} (S : Sim false h h') (hM : mC m h = some M) {cls : Int} {c f : Nat} (hcc : c ≤ 256) (hf : f ≤ 2) (hr : M.fin + (c + 3) ≤ M.n) (ha : 3 ≤ M.fin ∧ M.fin ≤ 131072) (n : Nat) :
  ∃ h1, aGr (fO CF1 (n + 11)) (.p m 0) (.i .i64 cls) (.i .i64 (Int.ofNat f)) (.i .i64 (Int.ofNat c)) h' = some (.t [.i .i64 (Int.ofNat (Nat.mul M.fin 2)), .i .i64 (Int.ofNat 0)], h1) ∧
   Sim false ⟨h.next, Tr.set (.row .ex [.l M.wb 0 M.n M.n, .i .i64 (Int.ofNat (M.fin + (c + 3))), .i .i64 (Int.ofNat (M.made + 1)), .m M.pb]) m
    (Tr.set (.mi (M.pl.set M.fin 1)) M.pb
     (Tr.set (.big M.n (nR (((M.t.set M.fin (Int.ofNat (c * 4 + f))).set (M.fin + 1) cls).set (M.fin + 2) (Int.ofNat (M.made + 1))) c (M.fin + 3))) M.wb h.bl))⟩ h1 := by
 have H := fP hM S
 have hmd : M.made < 1000000 := (nC hM).2.2.2.2.2
 obtain ⟨h1, s1, H1, O1⟩ := H.st2 (x := M.made + 1) (by omega)
 obtain ⟨h2, s2, H2, O2⟩ := cBf H1 (cls := cls) hcc hf hr n
 obtain ⟨h3, s3, H3, O3⟩ := cCf H2 hr n
 obtain ⟨h4, s4, H4, O4⟩ := bXd H3 hr ha n
 have e : aGr (fO CF1 (n + 11)) (.p m 0) (.i .i64 cls) (.i .i64 (Int.ofNat f)) (.i .i64 (Int.ofNat c)) h' = bHk (fO CF1 (n + 11)) (.p m 0) (.i .i64 cls) (.i .i64 (Int.ofNat f)) (.i .i64 (Int.ofNat c)) (.i .i64 (Int.ofNat M.fin)) h1 := by
  simp only [aGr, gX, dU, bI, H.l1, H.l2, jU M.made 1 _ (show M.made + 1 < 4611686018427387904 by omega), s1]
 refine ⟨h4, e.trans (s2.trans (s3.trans s4)), ?_⟩
 dsimp only at H4
 have H5 : ML m ⟨M.wb, M.n, M.fin + (c + 3), M.made + 1, M.pb, nR (((M.t.set M.fin (Int.ofNat (c * 4 + f))).set (M.fin + 1) cls).set (M.fin + 2) (Int.ofNat (M.made + 1))) c (M.fin + 3), M.pl.set M.fin 1⟩ h4 := H4
 exact cUr S hM H5 rfl rfl rfl (((O1.trans O2).trans O3).trans O4)
theorem cDn (n : Nat) (args : List DV) : SimP false (pK args) (fO CF1 (n + 12) 31 args) := fun h h' S v k e => by
 unfold pK at e
 split at e <;> (try (cases e; done))
 rename_i m cls fmt cnt
 split at e <;> (try (cases e; done))
 rename_i M hM
 have H := fP hM S
 have hn := H.n_lt
 have hfn := H.fin_le
 rw [cB 31 rfl, eEi, dJs]
 simp only [g0, g1, g2, g3, dXz H, bI, sQ]
 have herr : ∀ er : Nat, err er h = some (v, k) → ∃ h1, (some (.t [.i .i64 (Int.ofNat 0), .i .i64 (Int.ofNat er)], h') : aK) = some (v, h1) ∧ Sim false k h1 := by
  intro er he
  simp only [err, bG, bR] at he
  obtain ⟨rfl, rfl⟩ := he
  exact ⟨h', rfl, S⟩
 cases hc : aBe cls M.pl with
 | false =>
  rw [hc] at e
  simp only [Bool.not_false, cond_true] at e
  simp only [Bool.not_false, jH, bI, eK, fM]
  exact herr 1 e
 | true =>
  rw [hc] at e
  simp only [Bool.not_true, cond_false] at e
  simp only [Bool.not_true, oO, bI, fG, fW]
  cases fmt with
  | negSucc f =>
   have hlt : decide (Int.negSucc f < Int.ofNat 0) = true := decide_eq_true (Int.negSucc_lt_zero f)
   simp only [hlt, jH, bI, eK, fM]
   exact herr 1 e
  | ofNat f =>
   have hlt : decide (Int.ofNat f < Int.ofNat 0) = false := by simp
   simp only [hlt, oO, bI, fG, aCn]
   by_cases hf : f ≤ 2
   ·have hgt : decide (Int.ofNat f > Int.ofNat 2) = false := by simp only [decide_eq_false_iff_not, Int.ofNat_eq_natCast]; omega
    simp only [hgt, oO, bI, fG, fW]
    cases cnt with
    | negSucc c =>
     have hlt : decide (Int.negSucc c < Int.ofNat 0) = true := decide_eq_true (Int.negSucc_lt_zero c)
     simp only [hlt, jH, bI, eK, fM]
     exact herr 1 e
    | ofNat c =>
     have hlt : decide (Int.ofNat c < Int.ofNat 0) = false := by simp
     simp only [hlt, oO, bI, fG, aCn]
     dsimp only at e
     simp only [aPn, tE, hf, decide_true, Bool.true_and] at e
     by_cases hcc : c ≤ 256
     ·have hgt : decide (Int.ofNat c > Int.ofNat 256) = false := by simp only [decide_eq_false_iff_not, Int.ofNat_eq_natCast]; omega
      simp only [hgt, eP, eBg H, bI, jU c 3 _ (by omega), fW]
      simp only [hcc, decide_true, cond_true] at e
      have hsub : Nat.sub M.n M.fin = M.n - M.fin := rfl
      have hadd : Nat.add c 3 = c + 3 := rfl
      rw [hsub, hadd] at e
      by_cases hr : M.n - M.fin < c + 3
      ·simp only [hr, decide_true, cond_true] at e
       have hl : decide (Int.ofNat (M.n - M.fin) < Int.ofNat (c + 3)) = true := by simp only [decide_eq_true_eq, Int.ofNat_eq_natCast]; omega
       simp only [hl, jH, bI, eK, fM]
       exact herr 4 e
      ·simp only [hr, decide_false, cond_false] at e
       have hl : decide (Int.ofNat (M.n - M.fin) < Int.ofNat (c + 3)) = false := by simp only [decide_eq_false_iff_not, Int.ofNat_eq_natCast]; omega
       simp only [hl, oO, bI, fG, gX, dU, H.l2, aIu]
       have hg : decide (Int.ofNat M.made ≥ Int.ofNat 1099511627776) = false := by
        have hmd : M.made < 1000000 := (nC hM).2.2.2.2.2
        simp only [decide_eq_false_iff_not, Int.ofNat_eq_natCast]; omega
       simp only [hg, eP]
       by_cases ha : 3 ≤ M.fin ∧ M.fin ≤ 131072
       ·simp only [ha.1, ha.2, decide_true, Bool.and_self, cond_true, bG, bR] at e
        obtain ⟨rfl, rfl⟩ := e
        exact bNo S hM hcc hf (by omega) ha n
       ·have : (decide (3 ≤ M.fin) && decide (M.fin ≤ 131072)) = false := by
         rw [← Bool.not_eq_true]
         simpa using ha
        rw [this] at e
        simp only [cond_false] at e
        cases e
     ·have hgt : decide (Int.ofNat c > Int.ofNat 256) = true := by simp only [decide_eq_true_eq, Int.ofNat_eq_natCast]; omega
      simp only [hcc, decide_false, cond_false] at e
      simp only [hgt, fM]
      exact herr 1 e
   ·have hgt : decide (Int.ofNat f > Int.ofNat 2) = true := by simp only [decide_eq_true_eq, Int.ofNat_eq_natCast]; omega
    simp only [hgt, jH, bI, eK, fM]
    cases cnt with
    | negSucc c => exact herr 1 e
    | ofNat c =>
     dsimp only at e
     simp only [aPn, hf, decide_false, Bool.false_and, cond_false] at e
     exact herr 1 e
theorem aVc (n : Nat) (args : List DV) : SimP false (aYd args) (fO CF1 (n + 12) 30 args) := fun h h' S v k e => by
 unfold aYd at e
 split at e <;> (try (cases e; done))
 ·rename_i w
  rw [cB 30 rfl, dGj]
  simp only [t41, g0, fW, bI]
  simp only [tE] at e
  by_cases h1 : w < 16
  ·simp only [h1, decide_true, Bool.true_or, cond_true, bG, bR] at e
   obtain ⟨rfl, rfl⟩ := e
   have hl : decide (Int.ofNat w < Int.ofNat 16) = true := by simp only [decide_eq_true_eq, Int.ofNat_eq_natCast]; omega
   simp only [hl, jH, bI, eK, fM]
   exact ⟨h', rfl, S⟩
  ·have hl : decide (Int.ofNat w < Int.ofNat 16) = false := by simp only [decide_eq_false_iff_not, Int.ofNat_eq_natCast]; omega
   simp only [hl, oO, bI, fG, aCn]
   by_cases h2 : 131072 < w
   ·simp only [h2, decide_true, Bool.or_true, cond_true, bG, bR] at e
    obtain ⟨rfl, rfl⟩ := e
    have hg : decide (Int.ofNat w > Int.ofNat 131072) = true := by simp only [decide_eq_true_eq, Int.ofNat_eq_natCast]; omega
    simp only [hg, fM]
    exact ⟨h', rfl, S⟩
   ·simp only [h1, h2, decide_false, Bool.or_self, cond_false, bG, bR] at e
    obtain ⟨rfl, rfl⟩ := e
    have hg : decide (Int.ofNat w > Int.ofNat 131072) = false := by simp only [decide_eq_false_iff_not, Int.ofNat_eq_natCast]; omega
    simp only [hg, eP]
    have hms : cI 1 8 [.i .i64 (Int.ofNat 0)] (.i .i64 (Int.ofNat w)) (.i .i64 (Int.ofNat w)) h' = some (.l h'.next 0 w w, ⟨h'.next.succ, Tr.set (.row .ex (iC w .e)) h'.next h'.bl⟩) := by
     have hc : (0 : Int) ≤ Int.ofNat w ∧ Int.ofNat w ≤ Int.ofNat w ∧ (Int.ofNat w).toNat * 8 ≤ 2 ^ 30 ∧ (Int.ofNat w).toNat * 1 ≤ 2 ^ 24 ∧ Int.ofNat w < 2 ^ 32 := by
      have : (Int.ofNat w).toNat = w := rfl
      rw [this]
      simp only [Int.ofNat_eq_natCast]
      omega
     have hz : (List.replicate (Int.ofNat w).toNat [DV.i .i64 (Int.ofNat 0)]).flatten = iC w .e := by
      have : (Int.ofNat w).toNat = w := rfl
      rw [this, aAj]
      apply List.ext_getElem?
      intro j
      by_cases hj : j < w
      ·rw [kW hj, List.getElem?_replicate, if_pos hj]; rfl
      ·rw [List.getElem?_replicate, if_neg hj, List.getElem?_eq_none (by simp [iC]; omega)]
     simp only [cI, hc, and_self, if_true, hz]
     rfl
    simp only [hms, bI, dW]
    have hb : ∀ x y h, aT [.l0, .i .i64 (Int.ofNat 0), .i .i64 (Int.ofNat 0), .m0] [(0, 1, .l x 0 w w), (1, 1, .i .i64 (Int.ofNat 3)), (3, 1, .m y)] h = some (.a [.l x 0 w w, .i .i64 (Int.ofNat 3), .i .i64 (Int.ofNat 0), .m y], h) := fun x y h => rfl
    simp only [hb, bI, bM, fA, bA]
    have hnx := S.next
    refine ⟨_, by rw [hnx]; rfl, ?_⟩
    refine ⟨rfl, fun b o hb => ?_⟩
    show ∃ o', (Tr.set _ (bD 2 h.next) (Tr.set _ (bD 1 h.next) (Tr.set _ h.next h'.bl))).get b = some o' ∧ _
    by_cases b1 : b = bD 2 h.next
    ·subst b1
     simp only [eOx, bG] at hb ⊢
     subst hb
     exact ⟨_, rfl, rfl⟩
    ·simp only [eOw _ _ _ _ b1] at hb ⊢
     by_cases b2 : b = bD 1 h.next
     ·subst b2
      simp only [eOx, bG] at hb ⊢
      subst hb
      exact ⟨_, rfl, by simp only [uS]; exact ⟨[], rfl, fun a => by simp [iF, WT.get_e]⟩⟩
     ·simp only [eOw _ _ _ _ b2] at hb ⊢
      by_cases b3 : b = h.next
      ·subst b3
       simp only [eOx, bG] at hb ⊢
       subst hb
       exact ⟨_, rfl, by simp [uS]⟩
      ·simp only [eOw _ _ _ _ b3] at hb ⊢
       exact S.get b o hb
 ·rename_i w
  simp only [bG, bR] at e
  obtain ⟨rfl, rfl⟩ := e
  rw [cB 30 rfl, dGj]
  have hl : decide (Int.negSucc w < Int.ofNat 16) = true := by simp only [decide_eq_true_eq]; have := Int.negSucc_lt_zero w; simp only [Int.ofNat_eq_natCast]; omega
  simp only [t41, g0, fW, bI, hl, jH, eK, fM]
  exact ⟨h', rfl, S⟩
end Go.Dd

namespace Go.Dd
theorem aIt {gg : Bool} (args : List DV) : SimP gg (lW args) (lW args) := fun h h' S v k e => by
 unfold lW at e ⊢
 split at e <;> (try (cases e; done))
 rename_i l c
 cases hc : Nat.blt c 256 with
 | false => rw [hc] at e; cases e
 | true =>
  rw [hc] at e
  simp only [cond_true, bG, bR] at e
  obtain ⟨rfl, rfl⟩ := e
  exact ⟨h', rfl, S⟩
theorem aXm {gg : Bool} (q : Pos) (l1 : DV) (cs : List DV) : SimP gg (jF q l1 cs) (jF q l1 cs) := fun h h' S v k e => by
 unfold jF at e ⊢
 split at e <;> (try (cases e; done))
 ·simp only [bG, bR] at e ⊢
  obtain ⟨rfl, rfl⟩ := e
  exact ⟨_, ⟨by rw [S.next], rfl⟩, by rw [S.next]; exact S.setR _ _ _ _⟩
 ·rename_i b o len cap
  cases hc : (Nat.ble cap len && !(lU b q)) with
  | false => rw [hc] at e; cases e
  | true =>
   rw [hc] at e
   simp only [cnd] at e ⊢
   split at e <;> (try (cases e; done))
   rename_i es l old hb hold
   rw [S.row hb, S.cellsAt hold]
   dsimp only
   split at e <;> (try (cases e; done))
   rename_i hr
   rw [if_pos hr]
   simp only [bG, bR] at e ⊢
   obtain ⟨rfl, rfl⟩ := e
   refine ⟨_, ⟨by rw [S.next], rfl⟩, ?_⟩
   rw [S.next]
   exact (S.setR .sp (bV o l) b h.next).setR _ _ _ _
theorem aSj {gg : Bool} (c q : Pos) : SimP gg (rL c q) (rL c q) := by
 intro h h' S
 unfold rL
 refine ePe (kM _ h h' S) fun l1 _ _ _ => ?_
 refine ePe (eOz (nA l1) h h' S) fun n _ _ _ => ?_
 refine ePe (kQ _ _ h h' S) fun x _ _ _ => ?_
 split
 ·refine ePt id ?_
  have S2 : Sim gg ⟨h.next.succ.succ, h.bl⟩ ⟨h'.next.succ.succ, h'.bl⟩ := ⟨by show h'.next.succ.succ = _; rw [S.next], S.get⟩
  refine ePe (aXm _ _ _ _ _ S2) fun l2 h3 h3' T3 => ?_
  exact ePe (kP _ _ _ h3 h3' T3) fun u h4 h4' T4 => SimR.some T4 _
 ·exact SimR.none _
theorem dEi {gg : Bool} (n : Nat) (f : FuncId) (args : List DV) : SimP gg (fnD CF0 n f args) (fnD CF0 n f args) :=
 bTg (gg := gg) (P := Go.Proofs.Tryz.prog) (I2 := fun _ => none) (I1 := fun _ => none) 0 (fun _ _ => rfl) (fun _ _ h => by cases h) n f args
theorem aMn {gg : Bool} (args : List DV) : SimP gg (lB args) (lB args) := by
 unfold lB
 intro h h' S
 split
 ·rename_i c lit
  dsimp only
  rw [show h'.next = h.next from S.next]
  refine ePe (aKa _ h h' S) fun b h1 h1' T1 => ?_
  refine ePe (kM _ h1 h1' T1) fun ls h2 h2' T2 => ?_
  refine ePe (dEi _ _ _ h2 h2' T2) fun i h3 h3' T3 => ?_
  refine ePe (eOz (xE _ _ _) h3 h3' T3) fun t h4 h4' T4 => ?_
  exact aIx (aSj _ _ h4 h4' T4) (SimR.some T4 _)
 ·exact SimR.none _
theorem gU {C : Cfg} {rec : FuncId → List DV → Hp → aK} {g : FuncId} (h : C.I g = none) (args : List DV) : bO C rec g args = rec g args := by
 funext k
 unfold bO
 rw [h]
theorem aRa (g : FuncId) (F : List DV → Hp → aK) (hg : aBf g = some F) (n : Nat) (args : List DV) : SimP false (F args) (fO CF1 (n + 12) g args) := by
 unfold aBf at hg
 have hb : ∀ k, Nat.beq g k = true → g = k := fun k h => Nat.eq_of_beq_eq_true h
 cases h1 : Nat.beq g 18 with
 | true => rw [h1] at hg; cases hg; rw [hb _ h1]; exact dFq n args
 | false =>
 cases h2 : Nat.beq g 46 with
 | true => rw [h1, h2] at hg; cases hg; rw [hb _ h2]; exact dXh n args
 | false =>
 cases h3 : Nat.beq g 94 with
 | true => rw [h1, h2, h3] at hg; cases hg; rw [hb _ h3]; exact cGf n args
 | false =>
 cases h4 : Nat.beq g 75 with
 | true => rw [h1, h2, h3, h4] at hg; cases hg; rw [hb _ h4]; exact cEh n args
 | false =>
 cases h5 : Nat.beq g 31 with
 | true => rw [h1, h2, h3, h4, h5] at hg; cases hg; rw [hb _ h5]; exact cDn n args
 | false =>
 cases h6 : Nat.beq g 30 with
 | true => rw [h1, h2, h3, h4, h5, h6] at hg; cases hg; rw [hb _ h6]; exact aVc n args
 | false =>
 cases h7 : Nat.beq g 35 with
 | true => rw [h1, h2, h3, h4, h5, h6, h7] at hg; cases hg; rw [hb _ h7]; exact aFv n args
 | false =>
 cases h8 : Nat.beq g 38 with
 | true => rw [h1, h2, h3, h4, h5, h6, h7, h8] at hg; cases hg; rw [hb _ h8]; exact cTy n args
 | false =>
 cases h9 : Nat.beq g 104 with
 | true => rw [h1, h2, h3, h4, h5, h6, h7, h8, h9] at hg; cases hg; rw [hb _ h9]; exact bNt n args
 | false =>
 cases h10 : Nat.beq g 90 with
 | true => rw [h1, h2, h3, h4, h5, h6, h7, h8, h9, h10] at hg; cases hg; rw [hb _ h10]; exact aUq n args
 | false =>
 cases h11 : Nat.beq g 73 with
 | true => rw [h1, h2, h3, h4, h5, h6, h7, h8, h9, h10, h11] at hg; cases hg; rw [hb _ h11]; exact aUd n args
 | false =>
 cases h12 : Nat.beq g 45 with
 | true => rw [h1, h2, h3, h4, h5, h6, h7, h8, h9, h10, h11, h12] at hg; cases hg; rw [hb _ h12]; exact aQk n args
 | false =>
 cases h13 : Nat.beq g 88 with
 | true => rw [h1, h2, h3, h4, h5, h6, h7, h8, h9, h10, h11, h12, h13] at hg; cases hg; rw [hb _ h13]; exact bMe n args
 | false =>
 cases h14 : Nat.beq g 122 with
 | true => rw [h1, h2, h3, h4, h5, h6, h7, h8, h9, h10, h11, h12, h13, h14] at hg; cases hg; rw [hb _ h14]; exact bKf n args
 | false =>
 cases h15 : Nat.beq g 52 with
 | true => rw [h1, h2, h3, h4, h5, h6, h7, h8, h9, h10, h11, h12, h13, h14, h15] at hg; cases hg; rw [hb _ h15]; exact cTk n args
 | false => rw [h1, h2, h3, h4, h5, h6, h7, h8, h9, h10, h11, h12, h13, h14, h15] at hg; cases hg
theorem yD (n : Nat) (f : FuncId) (args : List DV) : SimP false (fO CF n f args) (fO CF1 (n + 12) f args) := by
 have key := aGc (I := itm) (q := rgB) (gg := false) (P := Go.Proofs.Tryz.prog) (I2 := CF.I) (I1 := CF1.I) 12 (fun g hg => by
  show (bif Nat.beq g 229 then some lW else bif Nat.beq g 214 then some lB else none) = none
  change (bif Nat.beq g 229 then some lW else bif Nat.beq g 214 then some lB else aBf g) = none at hg
  cases h1 : Nat.beq g 229 with
  | true => rw [h1] at hg; cases hg
  | false =>
   cases h2 : Nat.beq g 214 with
   | true => rw [h1, h2] at hg; cases hg
   | false => rfl) (fun g F hg n args => by
  change (bif Nat.beq g 229 then some lW else bif Nat.beq g 214 then some lB else aBf g) = some F at hg
  have hcall : bO ⟨Go.Proofs.Tryz.prog, CF1.I⟩ (fO ⟨Go.Proofs.Tryz.prog, CF1.I⟩ (n + 12)) g args = fun h => match (bif Nat.beq g 229 then some lW else bif Nat.beq g 214 then some lB else none : Option (List DV → Hp → aK)) with
   | some F => F args h
   | none => fO ⟨Go.Proofs.Tryz.prog, CF1.I⟩ (n + 12) g args h := rfl
  rw [hcall]
  cases h1 : Nat.beq g 229 with
  | true => rw [h1] at hg; cases hg; exact aIt args
  | false =>
   cases h2 : Nat.beq g 214 with
   | true => rw [h1, h2] at hg; cases hg; exact aMn args
   | false =>
    rw [h1, h2] at hg
    exact aRa g F hg n args) n f args
 exact key
end Go.Dd

namespace Go.Dd
open Go.Proofs
theorem aBz {m : Pos} {M : MemV} {h h' : Hp} (S : Sim true h h') (hm : mC m h = some M) : mC m h' = some M := by
 have hget : ∀ b o, h.bl.get b = some o → h'.bl.get b = some o := fun b o hb => by
  obtain ⟨o', h1, h2⟩ := S.get b o hb
  rw [h1, jZ h2]
 unfold mC at hm ⊢
 split at hm <;> (try (cases hm; done))
 rename_i wb n c fin made pb hr
 split at hm <;> (try (cases hm; done))
 rename_i n' t pl h1 h2
 simp only [hget _ _ hr, hget _ _ h1, hget _ _ h2]
 exact hm
theorem fN {args : List DV} {k : Hp → MemV → List DV → aK} (hk : ∀ M r, SimP true (fun h => k h M r) (fun h => k h M r)) : SimP true (fun h => oC args h (k h)) (fun h => oC args h (k h)) := fun h h' S v g e => by
 obtain ⟨m, rest, M, rfl, hM, e⟩ := eL e
 obtain ⟨g', e1, e2⟩ := hk M rest h h' S v g e
 refine ⟨g', ?_, e2⟩
 show (match mC m h' with
  | some M => k h' M rest
  | none => none) = some (v, g')
 rw [aBz S hM]
 exact e1
theorem lO {M : MemV} {o : Int} {k k' : Nat → aK} (h : ∀ n, SimR true (k n) (k' n)) : SimR true (lS M o k) (lS M o k') := by
 unfold lS
 cases Nat.blt (Nat.add (gP o M.pl) 1) M.n with
 | false => exact SimR.none _
 | true =>
  simp only [cond_true]
  cases M.t.get (gP o M.pl) with
  | negSucc a => exact SimR.none _
  | ofNat hd =>
   dsimp only
   cases Nat.blt hd 1000000000000 with
   | false => exact SimR.none _
   | true => exact h hd
theorem sO {M : MemV} {o i : Int} {b b' : Nat → aK} {k k' : Nat → Nat → aK} (hb : ∀ n, SimR true (b n) (b' n)) (h : ∀ n m, SimR true (k n m) (k' n m)) : SimR true (kH M o i b k) (kH M o i b' k') := by
 unfold kH
 cases Nat.beq (gP o M.pl) 0 with
 | true => exact hb 1
 | false =>
  simp only [cond_false]
  cases i with
  | negSucc i => exact hb 5
  | ofNat i =>
   dsimp only
   refine lO fun hd => ?_
   cases Nat.ble (Nat.div hd 4) i with
   | true => exact hb 5
   | false =>
    simp only [cond_false]
    cases Nat.blt (Nat.add (Nat.add (gP o M.pl) 3) i) M.n with
    | false => exact SimR.none _
    | true => exact h _ _
theorem jI {h h' : Hp} (S : Sim true h h') (o : Ob) (b n : Pos) : Sim true ⟨n, Tr.set o b h.bl⟩ ⟨n, Tr.set o b h'.bl⟩ := S.set (jM o) b n
theorem nF {M : MemV} {a : Nat} {w : Int} : SimP true (pJ M a w) (pJ M a w) := fun h h' S v g e => by
 simp only [pJ, bG, bR] at e ⊢
 obtain ⟨rfl, rfl⟩ := e
 exact ⟨_, ⟨rfl, rfl⟩, by rw [S.next]; exact jI S _ _ _⟩
theorem bPf (g : FuncId) (F : List DV → Hp → aK) (hg : aBf g = some F) (args : List DV) : SimP true (F args) (F args) := by
 have hmay : SimP true (aBh args) (aBh args) := fN (k := fun h M r => match r with
  | [.i .i64 w] => some (.b (bN w M.pl), h)
  | _ => none) fun M r h h' S => by dsimp only; split <;> first | exact SimR.some S _ | exact SimR.none _
 have his : SimP true (isF args) (isF args) := fN (k := fun h M r => match r with
  | [.i .i64 w] => some (.b (!(Nat.beq (gP w M.pl) 0)), h)
  | _ => none) fun M r h h' S => by dsimp only; split <;> first | exact SimR.some S _ | exact SimR.none _
 have hsize : SimP true (aBw args) (aBw args) := fN (k := fun h M r => match r with
  | [] => some (.i .i64 (.ofNat M.n), h)
  | _ => none) fun M r h h' S => by dsimp only; split <;> first | exact SimR.some S _ | exact SimR.none _
 have hroom : SimP true (bJk args) (bJk args) := fN (k := fun h M r => match r with
  | [] => some (.i .i64 (.ofNat (Nat.sub M.n M.fin)), h)
  | _ => none) fun M r h h' S => by dsimp only; split <;> first | exact SimR.some S _ | exact SimR.none _
 have hclass : SimP true (mR args) (mR args) := fN (k := fun h M r => match r with
  | [.i .i64 o] => lS M o fun _ => some (.i .i64 (M.t.get (Nat.add (gP o M.pl) 1)), h)
  | _ => none) fun M r h h' S => by dsimp only; split <;> first | exact lO (fun _ => SimR.some S _) | exact SimR.none _
 have hformat : SimP true (nG args) (nG args) := fN (k := fun h M r => match r with
  | [.i .i64 o] => lS M o fun hd => some (.i .i64 (.ofNat (Nat.mod hd 4)), h)
  | _ => none) fun M r h h' S => by dsimp only; split <;> first | exact lO (fun _ => SimR.some S _) | exact SimR.none _
 have hfields : SimP true (jS args) (jS args) := fN (k := fun h M r => match r with
  | [.i .i64 o] => lS M o fun hd => some (.i .i64 (.ofNat (Nat.div hd 4)), h)
  | _ => none) fun M r h h' S => by dsimp only; split <;> first | exact lO (fun _ => SimR.some S _) | exact SimR.none _
 have hget : SimP true (aQn args) (aQn args) := fN (k := fun h M r => match r with
  | [.i .i64 o, .i .i64 i] => kH M o i (fun e => err e h) fun _ a => some (.t [.i .i64 (M.t.get a), .i .i64 (.ofNat 0)], h)
  | _ => none) fun M r h h' S => by dsimp only; split <;> first | exact sO (fun _ => SimR.some S _) (fun _ _ => SimR.some S _) | exact SimR.none _
 have hput : SimP true (aBj args) (aBj args) := fN (k := fun h M r => match r with
  | [.i .i64 o, .i .i64 i, .i .i64 w] => kH M o i (fun e => some (.i .i64 (.ofNat e), h)) fun hd a =>
   match Nat.mod hd 4 with
   | 0 => bif bN w M.pl then pJ M a w h else some (.i .i64 (.ofNat 6), h)
   | 2 => (match w with
    | .ofNat c => bif Nat.ble c 255 then pJ M a w h else some (.i .i64 (.ofNat 6), h)
    | .negSucc _ => some (.i .i64 (.ofNat 6), h))
   | _ => pJ M a w h
  | _ => none) fun M r h h' S => by
   dsimp only
   split
   ·rename_i o i w
    refine sO (fun _ => SimR.some S _) fun hd a => ?_
    split
    ·cases bN w M.pl with
     | true => exact nF h h' S
     | false => exact SimR.some S _
    ·cases w with
     | negSucc c => exact SimR.some S _
     | ofNat c =>
      dsimp only
      cases Nat.ble c 255 with
      | true => exact nF h h' S
      | false => exact SimR.some S _
    ·exact nF h h' S
   ·exact SimR.none _
 have hsetc : SimP true (kV args) (kV args) := fN (k := fun h M r => match r with
  | [.i .i64 o, .i .i64 c] => bif Nat.beq (gP o M.pl) 0 || !(aBe c M.pl) then some (.i .i64 (.ofNat 1), h) else
   (bif Nat.blt (Nat.add (gP o M.pl) 1) M.n then pJ M (Nat.add (gP o M.pl) 1) c h else none)
  | _ => none) fun M r h h' S => by
   dsimp only
   split
   ·rename_i o c
    cases Nat.beq (gP o M.pl) 0 || !(aBe c M.pl) with
    | true => exact SimR.some S _
    | false =>
     simp only [cond_false]
     cases Nat.blt (Nat.add (gP o M.pl) 1) M.n with
     | true => exact nF h h' S
     | false => exact SimR.none _
   ·exact SimR.none _
 have hmake : SimP true (pK args) (pK args) := fun h h' S => by
  unfold pK
  split
  ·rename_i m cls fmt cnt
   intro v g e
   split at e
   ·cases e
   ·rename_i M hM
    rw [aBz S hM]
    dsimp only
    revert e
    have herr : ∀ n, SimR true (err n h) (err n h') := fun n => SimR.some S _
    suffices hs : SimR true _ _ from fun e => hs v g e
    cases !(aBe cls M.pl) with
    | true => exact herr 1
    | false =>
     simp only [cond_false]
     cases fmt with
     | negSucc f => exact herr 1
     | ofNat f =>
      cases cnt with
      | negSucc c => exact herr 1
      | ofNat c =>
       dsimp only
       cases Nat.ble f 2 && Nat.ble c 256 with
       | false => exact herr 1
       | true =>
        simp only [cond_true]
        cases Nat.blt (Nat.sub M.n M.fin) (Nat.add c 3) with
        | true => exact herr 4
        | false =>
         simp only [cond_false]
         cases Nat.ble 3 M.fin && Nat.ble M.fin 131072 with
         | false => exact SimR.none _
         | true =>
          simp only [cond_true]
          intro v g e
          simp only [bG, bR] at e ⊢
          obtain ⟨rfl, rfl⟩ := e
          refine ⟨_, ⟨rfl, rfl⟩, ?_⟩
          rw [S.next]
          exact jI (jI (jI S _ _ h.next) _ _ h.next) _ _ h.next
  ·exact SimR.none _
 have hnew : SimP true (aYd args) (aYd args) := fun h h' S => by
  unfold aYd
  split
  ·rename_i n
   cases Nat.blt n 16 || Nat.blt 131072 n with
   | true => exact SimR.some S _
   | false =>
    simp only [cond_false]
    intro v g e
    simp only [bG, bR] at e ⊢
    obtain ⟨rfl, rfl⟩ := e
    rw [S.next]
    exact ⟨_, ⟨rfl, rfl⟩, jI (jI (jI S _ _ h.next) _ _ h.next) _ _ _⟩
  ·exact SimR.some S _
  ·exact SimR.none _
 have hpure : ∀ F : Hp → aK, (∀ h h', Sim true h h' → SimR true (F h) (F h')) → SimP true F F := fun F hF => hF
 have hsm : SimP true (iT args) (iT args) := fun h h' S => by unfold iT; split <;> first | exact SimR.some S _ | exact SimR.none _
 have hva : SimP true (nB args) (nB args) := fun h h' S => by
  unfold nB
  split
  ·rename_i w
   cases iJ w <;> exact SimR.some S _
  ·exact SimR.none _
 have hsl : SimP true (lY args) (lY args) := fun h h' S => by
  unfold lY
  split
  ·rename_i n; cases Nat.blt n 1073741824 <;> exact SimR.some S _
  ·rename_i n; cases Nat.blt n 1073741824 <;> exact SimR.some S _
  ·exact SimR.none _
 unfold aBf at hg
 cases h1 : Nat.beq g 18 with
 | true => rw [h1] at hg; cases hg; exact hmay
 | false =>
 cases h2 : Nat.beq g 46 with
 | true => rw [h1, h2] at hg; cases hg; exact his
 | false =>
 cases h3 : Nat.beq g 94 with
 | true => rw [h1, h2, h3] at hg; cases hg; exact hsize
 | false =>
 cases h4 : Nat.beq g 75 with
 | true => rw [h1, h2, h3, h4] at hg; cases hg; exact hroom
 | false =>
 cases h5 : Nat.beq g 31 with
 | true => rw [h1, h2, h3, h4, h5] at hg; cases hg; exact hmake
 | false =>
 cases h6 : Nat.beq g 30 with
 | true => rw [h1, h2, h3, h4, h5, h6] at hg; cases hg; exact hnew
 | false =>
 cases h7 : Nat.beq g 35 with
 | true => rw [h1, h2, h3, h4, h5, h6, h7] at hg; cases hg; exact hsetc
 | false =>
 cases h8 : Nat.beq g 38 with
 | true => rw [h1, h2, h3, h4, h5, h6, h7, h8] at hg; cases hg; exact hput
 | false =>
 cases h9 : Nat.beq g 104 with
 | true => rw [h1, h2, h3, h4, h5, h6, h7, h8, h9] at hg; cases hg; exact hclass
 | false =>
 cases h10 : Nat.beq g 90 with
 | true => rw [h1, h2, h3, h4, h5, h6, h7, h8, h9, h10] at hg; cases hg; exact hformat
 | false =>
 cases h11 : Nat.beq g 73 with
 | true => rw [h1, h2, h3, h4, h5, h6, h7, h8, h9, h10, h11] at hg; cases hg; exact hfields
 | false =>
 cases h12 : Nat.beq g 45 with
 | true => rw [h1, h2, h3, h4, h5, h6, h7, h8, h9, h10, h11, h12] at hg; cases hg; exact hsm
 | false =>
 cases h13 : Nat.beq g 88 with
 | true => rw [h1, h2, h3, h4, h5, h6, h7, h8, h9, h10, h11, h12, h13] at hg; cases hg; exact hsl
 | false =>
 cases h14 : Nat.beq g 122 with
 | true => rw [h1, h2, h3, h4, h5, h6, h7, h8, h9, h10, h11, h12, h13, h14] at hg; cases hg; exact hva
 | false =>
 cases h15 : Nat.beq g 52 with
 | true => rw [h1, h2, h3, h4, h5, h6, h7, h8, h9, h10, h11, h12, h13, h14, h15] at hg; cases hg; exact hget
 | false => rw [h1, h2, h3, h4, h5, h6, h7, h8, h9, h10, h11, h12, h13, h14, h15] at hg; cases hg
theorem aQx (g : FuncId) (F : List DV → Hp → aK) (hg : CF.I g = some F) (args : List DV) : SimP true (F args) (F args) := by
 change (bif Nat.beq g 229 then some lW else bif Nat.beq g 214 then some lB else aBf g) = some F at hg
 cases h1 : Nat.beq g 229 with
 | true => rw [h1] at hg; cases hg; exact aIt args
 | false =>
  cases h2 : Nat.beq g 214 with
  | true => rw [h1, h2] at hg; cases hg; exact aMn args
  | false => rw [h1, h2] at hg; exact bPf g F hg args
theorem bKi (n : Nat) (f : FuncId) (args : List DV) : SimP true (jW n f args) (jW n f args) := by
 rw [oW]
 exact aGc (I := itm) (q := rgB) (gg := true) (P := Tryz.prog) (I2 := CF.I) (I1 := CF.I) 0 (fun g h => h) (fun g F hg n args => by
  have : bO ⟨Tryz.prog, CF.I⟩ (fO ⟨Tryz.prog, CF.I⟩ (n + 0)) g args = F args := by
   funext h
   unfold bO
   rw [show (⟨Tryz.prog, CF.I⟩ : Cfg).I g = some F from hg]
  rw [this]
  exact aQx g F hg args) n f args
theorem bNu (n : Nat) (g : FuncId) (args : List DV) : SimP true (bO CF (jW n) g args) (bO CF (jW n) g args) := by
 unfold bO
 cases hg : CF.I g with
 | none => exact bKi n g args
 | some F => exact aQx g F hg args
end Go.Dd

namespace Go.Dd
open Go.Proofs
abbrev K4T := DV → DV → DV → DV → Hp → aK
noncomputable abbrev R9 : RT := jW 899
noncomputable def XL : Nat → K := xs x0 7 (fun env h => iV R9 899 (env 5) h)
noncomputable def krN : K := aR CF Tryz.f7
noncomputable def cBz : Code := cL (cL (cR (cL (cR (cR (cR (cR (cR (cR (cf Tryz.f7))))))))))
noncomputable def kb (kk : K4T) : K := fun env h => kk (env 5) (env 155) (env 156) (env 157) h
noncomputable def aPp (a b c d : DV) : aV := fun t => bif Nat.beq t 5 then a else bif Nat.beq t 155 then b else bif Nat.beq t 156 then c else bif Nat.beq t 157 then d else .u
theorem aDw (kk : K4T) (a b c d : DV) (h : Hp) : lT R9 899 kk a b c d h = aM CF R9 179 899 cBz XL krN (kb kk) (aPp a b c d) h :=
 (congrFun (congrFun (bZa R9 899 kk) (aPp a b c d)) h).symm
theorem aTl (e : aV) (h : Hp) : krN e h = some (.t [e 2, e 3], h) := by kernel_rfl
def eOa (r : aK) : Prop := ∃ a b c d h, r = some (.t [a, b, c, d], h)
theorem cIv (a b c d : DV) (h : Hp) : (∃ a' b' c' d' h', ∀ kk : K4T, lT R9 899 kk a b c d h = kk a' b' c' d' h') ∨ (∃ r, ¬ eOa r ∧ ∀ kk : K4T, lT R9 899 kk a b c d h = r) := by
 obtain ⟨O, hO⟩ := xQ (C := CF) (rec := R9) (nt := 179) 899 cBz
 have key : ∀ kk : K4T, lT R9 899 kk a b c d h = ePx (O (aPp a b c d) h) XL krN (kb kk) := fun kk => (aDw kk a b c d h).trans (hO _ _ _ _ _)
 cases ho : O (aPp a b c d) h with
 | none => exact .inr ⟨none, (by rintro ⟨_, _, _, _, _, e⟩; cases e), fun kk => by rw [key kk, ho]; rfl⟩
 | some o =>
  cases o with
  | n e h' => exact .inl ⟨e 5, e 155, e 156, e 157, h', fun kk => by rw [key kk, ho]; rfl⟩
  | r e h' => exact .inr ⟨some (.t [e 2, e 3], h'), (by rintro ⟨_, _, _, _, _, q⟩; cases q), fun kk => by rw [key kk, ho]; exact aTl e h'⟩
  | x i e h' =>
   refine .inr ⟨XL i e h', ?_, fun kk => by rw [key kk, ho]; rfl⟩
   rintro ⟨_, _, _, _, _, q⟩
   unfold XL xs at q
   cases hi : Nat.beq i 7 with
   | true => rw [hi] at q; cases q
   | false => rw [hi] at q; cases q
theorem zZ (n : Nat) (kk : K4T) : itN (n + 1) kk = lT R9 899 (itN n kk) := rfl
theorem cLv : ∀ (n : Nat) (a b c d : DV) (h : Hp) (a' b' c' d' : DV) (h' : Hp), itN n cIc a b c d h = some (.t [a', b', c', d'], h') → ∀ kk : K4T, itN n kk a b c d h = kk a' b' c' d' h'
 | 0, a, b, c, d, h, a', b', c', d', h', e, kk => by
  have e' : (some (.t [a, b, c, d], h) : aK) = some (.t [a', b', c', d'], h') := e
  simp only [bG, bR, DV.t.injEq, List.cons.injEq, and_true] at e'
  obtain ⟨⟨rfl, rfl, rfl, rfl⟩, rfl⟩ := e'
  rfl
 | n + 1, a, b, c, d, h, a', b', c', d', h', e, kk => by
  rw [zZ] at e ⊢
  rcases cIv a b c d h with ⟨a1, b1, c1, d1, h1, hs⟩ | ⟨r, hr, hs⟩
  ·rw [hs] at e ⊢
   exact cLv n a1 b1 c1 d1 h1 a' b' c' d' h' e kk
  ·rw [hs] at e
   exact absurd ⟨_, _, _, _, _, e⟩ hr
theorem bOz (kk : K4T) (hk : ∀ a b c d, SimP true (kk a b c d) (kk a b c d)) : ∀ (n : Nat) (a b c d : DV), SimP true (itN n kk a b c d) (itN n kk a b c d)
 | 0, a, b, c, d => hk a b c d
 | n + 1, a, b, c, d => by
  have ih := bOz kk hk n
  rw [zZ]
  have hX : ∀ j, SimK true (XL j) (XL j) := by
   intro j env h h' S
   unfold XL xs
   cases Nat.beq j 7 with
   | true => exact SimR.some S _
   | false => exact SimR.none _
  have hR : SimK true krN krN := fun env h h' S => by rw [aTl, aTl]; exact SimR.some S _
  have hK : SimK true (kb (itN n kk)) (kb (itN n kk)) := fun env => ih _ _ _ _
  have hc := gI (gg := true) (P := Tryz.prog) (I2 := CF.I) (I1 := CF.I) (rec2 := R9) (rec1 := R9) (fun g args => bNu 899 g args) 179 899 0 cBz XL XL krN krN (kb (itN n kk)) (kb (itN n kk)) hX hR hK (aPp a b c d)
  intro h h' S
  rw [aDw, aDw]
  exact hc h h' S
theorem aCe (m : Nat) : ∀ n, lR R9 899 (m + n) = itN n (lR R9 899 m)
 | 0 => rfl
 | n + 1 => by
  rw [zZ, ← aCe m n]
  rfl
theorem dQ {k n nx nx' : Nat} {L L' : List (Pos × Ob)} (hc : fT (gQ k n (dP nx L)) (eQ (k + n)) nx' L' = true) (m : Nat) {h : Hp} (S : Sim true (dP nx L) h) :
  ∃ h', Sim true (dP nx' L') h' ∧ lR R9 899 (m + n) (.p (bC 7) 0) (.l (bC 431) 0 75 75) (.i .i64 (.ofNat 75)) (.i .i64 (.ofNat k)) h =
   lR R9 899 m (.p (bC 7) 0) (.l (bC 431) 0 75 75) (.i .i64 (.ofNat 75)) (.i .i64 (.ofNat (k + n))) h' := by
 obtain ⟨g, e1, e2⟩ := aFm hc
 obtain ⟨g', f1, f2⟩ := bOz cIc (fun a b c d h h' S => SimR.some S _) n _ _ _ _ (dP nx L) h S _ _ e1
 refine ⟨g', e2.trans f2, ?_⟩
 rw [aCe]
 exact cLv n _ _ _ _ _ _ _ _ _ _ f1 _
theorem aCd (k : K) : aM CF R9 179 899 (cf Tryz.f7) x0 krN k = aM CF R9 179 899 bOq x0 krN (aM CF R9 179 899 cAj x0 krN (aM CF R9 179 899 dYb x0 krN k)) := by kernel_rfl
theorem cCh : aM CF R9 179 899 dYb x0 krN krN = fun env h => iV R9 899 (env 5) h := dHo R9 899
theorem bFs : aM CF R9 179 899 cAj x0 krN (fun env h => iV R9 899 (env 5) h) = fun env h => cJz R9 899 (env 5) (env 155) (env 156) (env 157) h :=
 (by kernel_rfl : aM CF R9 179 899 cAj x0 krN (fun env h => iV R9 899 (env 5) h) = D7 R9 899 (cL (cR (cL (cR (cR (cR (cR (cR (cR (cf Tryz.f7)))))))))) (xs x0 7 (fun (env : aV) (h : Hp) => iV R9 899 (env 5) h)) (fun (env : aV) (h : Hp) => iV R9 899 (env 5) h)).trans (dGz R9 899)
theorem bUc (x : DV) (h : Hp) : aE CF R9 899 7 [x] h = aM CF R9 179 899 (cf Tryz.f7) x0 krN krN (aJ [x]) h := by kernel_rfl
theorem cTx : ∃ e h', Sim true (dP 432 (fZ 20000 553 84 18 [1076, 1096, 6, 24, 42, 60, 78, 96, 114, 132, 150, 168, 186, 204, 222, 240, 258, 276] [(10, 0), (19, 0), (46, 0), (55, 0), (64, 0), (91, 0), (100, 0), (109, 0), (118, 0), (127, 0), (145, 0)] 0)) h' ∧ e 5 = .p (bC 7) 0 ∧ e 155 = .l (bC 431) 0 75 75 ∧ e 156 = .i .i64 (.ofNat 75) ∧ e 157 = .i .i64 (.ofNat 0) ∧
  ∀ X kr k, aM CF R9 179 899 bOq X kr k (aJ [.i .i64 (.ofNat 20000)]) hS = k e h' := by
 obtain ⟨O, hO⟩ := xQ (C := CF) (rec := R9) (nt := 179) 899 bOq
 obtain ⟨g, e1, e2⟩ := aFm he0
 have e1' : ePx (O (aJ [.i .i64 (.ofNat 20000)]) hS) (fun _ _ _ => none) (fun _ _ => none) dKi = some (.t (eQ 0), g) := (hO _ _ _ _ _).symm.trans e1
 cases ho : O (aJ [.i .i64 (.ofNat 20000)]) hS with
 | none => rw [ho] at e1'; cases e1'
 | some o =>
  rw [ho] at e1'
  cases o with
  | x i e h' => cases e1'
  | r e h' => cases e1'
  | n e h' =>
   have q : (some (.t [e 5, e 155, e 156, e 157], h') : aK) = some (.t (eQ 0), g) := e1'
   simp only [eQ, bG, bR, DV.t.injEq, List.cons.injEq, and_true] at q
   obtain ⟨⟨q1, q2, q3, q4⟩, q5⟩ := q
   exact ⟨e, h', by rw [q5]; exact e2, q1, q2, q3, q4, fun X kr k => by rw [hO, ho]; rfl⟩
theorem dSy : ∃ g, jW 900 7 [.i .i64 (.ofNat 20000)] hS = some (.t [.p (bC 7) 0, .i .i64 (.ofNat 0)], g) ∧ Sim true (dP 26855 (fZ 20000 4321 583 80 [8370, 1096, 6, 24, 42, 60, 78, 96, 114, 132, 150, 168, 186, 204, 222, 240, 258, 276] [] 75)) g := by
 obtain ⟨e, h0, S0, p1, p2, p3, p4, hpre⟩ := cTx
 obtain ⟨h1, S1, c1⟩ := dQ hc0 894 S0
 obtain ⟨h2, S2, c2⟩ := dQ hc5 889 S1
 obtain ⟨h3, S3, c3⟩ := dQ eLi 884 S2
 obtain ⟨h4, S4, c4⟩ := dQ eNw 879 S3
 obtain ⟨h5, S5, c5⟩ := dQ eNt 874 S4
 obtain ⟨h6, S6, c6⟩ := dQ eMq 869 S5
 obtain ⟨h7, S7, c7⟩ := dQ eOt 864 S6
 obtain ⟨h8, S8, c8⟩ := dQ eLv 859 S7
 obtain ⟨h9, S9, c9⟩ := dQ eMs 854 S8
 obtain ⟨h10, S10, c10⟩ := dQ eMc 849 S9
 obtain ⟨h11, S11, c11⟩ := dQ eNv 844 S10
 obtain ⟨h12, S12, c12⟩ := dQ eMa 839 S11
 obtain ⟨h13, S13, c13⟩ := dQ eKv 834 S12
 obtain ⟨h14, S14, c14⟩ := dQ eLg 829 S13
 obtain ⟨h15, S15, c15⟩ := dQ eKg 824 S14
 refine ⟨h15, ?_, S15⟩
 have e0 : jW 900 7 [.i .i64 (.ofNat 20000)] hS = aE CF R9 899 7 [.i .i64 (.ofNat 20000)] hS := yF 7 rfl 899 _ _
 rw [e0, bUc, aCd, cCh, bFs, hpre]
 show cJz R9 899 (e 5) (e 155) (e 156) (e 157) h0 = _
 rw [p1, p2, p3, p4]
 show lR R9 899 899 _ _ _ _ h0 = _
 refine c1.trans ?_
 refine c2.trans ?_
 refine c3.trans ?_
 refine c4.trans ?_
 refine c5.trans ?_
 refine c6.trans ?_
 refine c7.trans ?_
 refine c8.trans ?_
 refine c9.trans ?_
 refine c10.trans ?_
 refine c11.trans ?_
 refine c12.trans ?_
 refine c13.trans ?_
 refine c14.trans ?_
 refine c15.trans ?_
 rw [show (824 : Nat) = 823 + 1 from rfl]
 show lT R9 899 (lR R9 899 823) _ _ _ _ h15 = _
 unfold lT
 have hl : decide (Int.ofNat 75 < Int.ofNat 75) = false := rfl
 simp only [fW, bI, hl, eP]
 rfl
end Go.Dd

namespace Go.Dd
open Go.Proofs
noncomputable def HLN : List (Pos × Ob) := fZ 20000 4321 583 80 [8370, 1096, 6, 24, 42, 60, 78, 96, 114, 132, 150, 168, 186, 204, 222, 240, 258, 276] [] 75
noncomputable def hN : Hp := dP 26855 HLN
noncomputable def hZ (l : List (Pos × Ob)) (t : Tr Ob) : Tr Ob := List.rec (motive := fun _ => Tr Ob) t (fun x _ ih => Tr.set x.2 x.1 ih) l
noncomputable def yW (p : List DV → Bool) (v0 : DV) (nx0 : Nat) (HL : List (Pos × Ob)) (args : List DV) (h : Hp) : aK :=
 bif p args && lU h.next (bC 1) then some (v0, ⟨bC nx0, hZ HL h.bl⟩) else none
noncomputable def bCb (args : List DV) : Bool := match args with
 | [.i .i64 (.ofNat m)] => Nat.beq m 20000
 | _ => false
noncomputable def dIe : List DV → Hp → aK := yW bCb (.t [.p (bC 7) 0, .i .i64 (.ofNat 0)]) 26855 HLN
noncomputable def aRz (n : Nat) : RT := fun g args h => bif Nat.beq g 7 then dIe args h else jW n g args h
noncomputable def okB (r : aK) : Bool := match r with
 | some (.b x, _) => x
 | _ => false
end Go.Dd

namespace Go.Dd
open Go.Proofs
theorem he4 : fT (bTa 40000) (eQ 0) 432 (fZ 40000 553 84 18 [1076, 1096, 6, 24, 42, 60, 78, 96, 114, 132, 150, 168, 186, 204, 222, 240, 258, 276] [(10, 0), (19, 0), (46, 0), (55, 0), (64, 0), (91, 0), (100, 0), (109, 0), (118, 0), (127, 0), (145, 0)] 0) = true := by kernel_rfl
theorem cLj : ∃ e h', Sim true (dP 432 (fZ 40000 553 84 18 [1076, 1096, 6, 24, 42, 60, 78, 96, 114, 132, 150, 168, 186, 204, 222, 240, 258, 276] [(10, 0), (19, 0), (46, 0), (55, 0), (64, 0), (91, 0), (100, 0), (109, 0), (118, 0), (127, 0), (145, 0)] 0)) h' ∧ e 5 = .p (bC 7) 0 ∧ e 155 = .l (bC 431) 0 75 75 ∧ e 156 = .i .i64 (.ofNat 75) ∧ e 157 = .i .i64 (.ofNat 0) ∧
  ∀ X kr k, aM CF R9 179 899 bOq X kr k (aJ [.i .i64 (.ofNat 40000)]) hS = k e h' := by
 obtain ⟨O, hO⟩ := xQ (C := CF) (rec := R9) (nt := 179) 899 bOq
 obtain ⟨g, e1, e2⟩ := aFm he4
 have e1' : ePx (O (aJ [.i .i64 (.ofNat 40000)]) hS) (fun _ _ _ => none) (fun _ _ => none) dKi = some (.t (eQ 0), g) := (hO _ _ _ _ _).symm.trans e1
 cases ho : O (aJ [.i .i64 (.ofNat 40000)]) hS with
 | none => rw [ho] at e1'; cases e1'
 | some o =>
  rw [ho] at e1'
  cases o with
  | x i e h' => cases e1'
  | r e h' => cases e1'
  | n e h' =>
   have q : (some (.t [e 5, e 155, e 156, e 157], h') : aK) = some (.t (eQ 0), g) := e1'
   simp only [eQ, bG, bR, DV.t.injEq, List.cons.injEq, and_true] at q
   obtain ⟨⟨q1, q2, q3, q4⟩, q5⟩ := q
   exact ⟨e, h', by rw [q5]; exact e2, q1, q2, q3, q4, fun X kr k => by rw [hO, ho]; rfl⟩
theorem cTl : ∃ g, jW 900 7 [.i .i64 (.ofNat 40000)] hS = some (.t [.p (bC 7) 0, .i .i64 (.ofNat 0)], g) ∧ Sim true (dP 26855 (fZ 40000 4321 583 80 [8370, 1096, 6, 24, 42, 60, 78, 96, 114, 132, 150, 168, 186, 204, 222, 240, 258, 276] [] 75)) g := by
 obtain ⟨e, h0, S0, p1, p2, p3, p4, hpre⟩ := cLj
 obtain ⟨h1, S1, c1⟩ := dQ hb0 894 S0
 obtain ⟨h2, S2, c2⟩ := dQ hb5 889 S1
 obtain ⟨h3, S3, c3⟩ := dQ eJi 884 S2
 obtain ⟨h4, S4, c4⟩ := dQ eOe 879 S3
 obtain ⟨h5, S5, c5⟩ := dQ eOb 874 S4
 obtain ⟨h6, S6, c6⟩ := dQ eMf 869 S5
 obtain ⟨h7, S7, c7⟩ := dQ eNj 864 S6
 obtain ⟨h8, S8, c8⟩ := dQ eOh 859 S7
 obtain ⟨h9, S9, c9⟩ := dQ eMo 854 S8
 obtain ⟨h10, S10, c10⟩ := dQ eLe 849 S9
 obtain ⟨h11, S11, c11⟩ := dQ eMb 844 S10
 obtain ⟨h12, S12, c12⟩ := dQ eKi 839 S11
 obtain ⟨h13, S13, c13⟩ := dQ eJl 834 S12
 obtain ⟨h14, S14, c14⟩ := dQ eMh 829 S13
 obtain ⟨h15, S15, c15⟩ := dQ eIy 824 S14
 refine ⟨h15, ?_, S15⟩
 have e0 : jW 900 7 [.i .i64 (.ofNat 40000)] hS = aE CF R9 899 7 [.i .i64 (.ofNat 40000)] hS := yF 7 rfl 899 _ _
 rw [e0, bUc, aCd, cCh, bFs, hpre]
 show cJz R9 899 (e 5) (e 155) (e 156) (e 157) h0 = _
 rw [p1, p2, p3, p4]
 show lR R9 899 899 _ _ _ _ h0 = _
 refine c1.trans ?_
 refine c2.trans ?_
 refine c3.trans ?_
 refine c4.trans ?_
 refine c5.trans ?_
 refine c6.trans ?_
 refine c7.trans ?_
 refine c8.trans ?_
 refine c9.trans ?_
 refine c10.trans ?_
 refine c11.trans ?_
 refine c12.trans ?_
 refine c13.trans ?_
 refine c14.trans ?_
 refine c15.trans ?_
 rw [show (824 : Nat) = 823 + 1 from rfl]
 show lT R9 899 (lR R9 899 823) _ _ _ _ h15 = _
 unfold lT
 have hl : decide (Int.ofNat 75 < Int.ofNat 75) = false := rfl
 simp only [fW, bI, hl, eP]
 rfl
noncomputable def HLF : List (Pos × Ob) := fZ 40000 4321 583 80 [8370, 1096, 6, 24, 42, 60, 78, 96, 114, 132, 150, 168, 186, 204, 222, 240, 258, 276] [] 75
noncomputable def hNF : Hp := dP 26855 HLF
noncomputable def bHx (args : List DV) : Bool := match args with
 | [.i .i64 (.ofNat m)] => Nat.beq m 40000
 | _ => false
noncomputable def cAs : List DV → Hp → aK := yW bHx (.t [.p (bC 7) 0, .i .i64 (.ofNat 0)]) 26855 HLF
end Go.Dd

namespace Go.Dd
open Go.Proofs
abbrev iD (n : Int) : DV := .i .i64 n
theorem shS (f : FuncId) (hf : rgB f = false) (n : Nat) (args : List DV) (h : Hp) : jW (n + 1) f args h = aE CF (jW n) n f args h := yF f hf n args h
theorem iR (b : Pos) (o : Nat) (h : Hp) : aO (.p b o) h = some (.p b o, h) := Eq.trans rfl rfl
theorem fld (b : Pos) (o k : Nat) (h : Hp) : aB k (.p b o) h = some (.p b (o + k), h) := Eq.trans rfl rfl
section
end
end Go.Dd

namespace Go.Dd
open Go.Proofs
theorem dBl {m : Pos} {h : Hp} {M : MemV} (h1 : h.bl.get m = some (.row .ex [.l M.wb 0 M.n M.n, .i .i64 (.ofNat M.fin), .i .i64 (.ofNat M.made), .m M.pb])) (h2 : h.bl.get M.wb = some (.big M.n M.t))
  (h3 : h.bl.get M.pb = some (.mi M.pl)) (h4 : M.n < 1000000) (h5 : M.fin ≤ M.n) (h6 : M.made < 1000000) : mC m h = some M := by
 unfold mC
 simp only [h1, h2, h3]
 have q1 : (Nat.beq M.n M.n && Nat.beq M.n M.n) = true := by simp
 have q2 : (Nat.blt M.n 1000000 && (Nat.ble M.fin M.n && Nat.blt M.made 1000000)) = true := by simp [tE, aPn, h4, h5, h6]
 rw [q1, cond_true, q2, cond_true]
section
end
end Go.Dd

namespace Go.Dd
open Go.Proofs
section
end
end Go.Dd

namespace Go.Dd
open Go.Proofs
section
end
end Go.Dd

namespace Go.Dd
open Go.Proofs
end Go.Dd

namespace Go.Dd
open Go.Proofs
theorem rg0 (rec : FuncId → List DV → Hp → aK) (k : K) (env : aV) (h : Hp) : gV CF0 rec 49 (fQ (cL (cf Tryz.f214))) (fQ (cL (cf Tryz.f214))).toList k env h = (
 bnd (bM (env 1) h) fun v1 h1 =>
 k (bP (bP env (some 3) v1) (some 4) (.i .i64 (Int.ofNat 0))) h1) := by kernel_rfl
theorem rg1 (rec : FuncId → List DV → Hp → aK) (k : K) (env : aV) (h : Hp) : gV CF0 rec 49 (fQ (cL (cR (cf Tryz.f214)))) (fQ (cL (cR (cf Tryz.f214)))).toList k env h = (
 bnd (aO (env 0) h) fun v1 h1 =>
 bnd (aB 0 v1 h1) fun v2 h2 =>
 bnd (aB 4 v2 h2) fun v3 h3 =>
 bnd (aA v3 h3) fun v4 h4 =>
 bnd (rec 163 [v4, (.f 240 [] [(env 3)])] h4) fun v5 h5 =>
 k (bP (bP (bP (bP (bP (bP (bP (bP env (some 6) (env 0)) (some 7) v1) (some 8) v2) (some 9) v3) (some 10) v4) (some 11) (.f 240 [] [(env 3)])) (some 12) v5) (some 5) v5) h5) := by kernel_rfl
theorem rg2 (rec : FuncId → List DV → Hp → aK) (k : K) (env : aV) (h : Hp) : gV CF0 rec 49 (fQ (cL (cL (cR (cR (cf Tryz.f214)))))) (fQ (cL (cL (cR (cR (cf Tryz.f214)))))).toList k env h = (
 bnd (aF .lss (env 5) (.i .i64 (Int.ofNat 0)) h) fun v1 h1 =>
 k (bP (bP env (some 13) (env 5)) (some 14) v1) h1) := by kernel_rfl
theorem rg3 (rec : FuncId → List DV → Hp → aK) (k : K) (env : aV) (h : Hp) : gV CF0 rec 49 (fQ (cL (cL (cR (cL (cR (cR (cf Tryz.f214)))))))) (fQ (cL (cL (cR (cL (cR (cR (cf Tryz.f214)))))))).toList k env h = (
 bnd (aO (env 0) h) fun v1 h1 =>
 bnd (aB 0 v1 h1) fun v2 h2 =>
 bnd (aB 4 v2 h2) fun v3 h3 =>
 bnd (aA v3 h3) fun v4 h4 =>
 bnd (bK v4 h4) fun v5 h5 =>
 k (bP (bP (bP (bP (bP (bP (bP env (some 15) (env 0)) (some 16) v1) (some 17) v2) (some 18) v3) (some 19) v4) (some 20) v5) (some 5) v5) h5) := by kernel_rfl
theorem rg5 (rec : FuncId → List DV → Hp → aK) (k : K) (env : aV) (h : Hp) : gV CF0 rec 49 (fQ (cL (cL (cR (cR (cL (cR (cL (cR (cR (cf Tryz.f214))))))))))) (fQ (cL (cL (cR (cR (cL (cR (cL (cR (cR (cf Tryz.f214))))))))))).toList k env h = (
 bnd (aO (env 0) h) fun v1 h1 =>
 bnd (aB 0 v1 h1) fun v2 h2 =>
 bnd (aB 4 v2 h2) fun v3 h3 =>
 bnd (aA v3 h3) fun v4 h4 =>
 bnd (bK v4 h4) fun v5 h5 =>
 bnd (aN [(.i .i64 (Int.ofNat 0)), (.s []), (.i .i64 (Int.ofNat 0)), .l0] 1 [(0, 4, (.a [(.i .i64 (Int.ofNat 0)), (.s []), (.i .i64 (Int.ofNat 0)), .l0]))] h5) fun v6 h6 =>
 bnd (aX 4 56 v4 v6 h6) fun v7 h7 =>
 bnd (aO (env 0) h7) fun v8 h8 =>
 bnd (aB 0 v8 h8) fun v9 h9 =>
 bnd (aB 4 v9 h9) fun v10 h10 =>
 bnd (aD 1 v10 v7 h10) fun _ h11 =>
 k (bP (bP (bP (bP (bP (bP (bP (bP (bP (bP (bP env (some 23) (env 0)) (some 24) v1) (some 25) v2) (some 26) v3) (some 27) v4) (some 28) v5) (some 29) v6) (some 30) v7) (some 31) v8) (some 32) v9) (some 33) v10) h11) := by kernel_rfl
theorem rg6 (rec : FuncId → List DV → Hp → aK) (k : K) (env : aV) (h : Hp) : gV CF0 rec 49 (fQ (cR (cL (cR (cR (cL (cR (cL (cR (cR (cf Tryz.f214))))))))))) (fQ (cR (cL (cR (cR (cL (cR (cL (cR (cR (cf Tryz.f214))))))))))).toList k env h = (
 bnd (aH 4 (env 3) h) fun v1 h1 =>
 bnd (aI 4 (env 30) (env 28) h1) fun v2 h2 =>
 bnd (aD 4 v2 v1 h2) fun _ h3 =>
 k (bP (bP env (some 34) v1) (some 35) v2) h3) := by kernel_rfl
theorem rg7 (rec : FuncId → List DV → Hp → aK) (k : K) (env : aV) (h : Hp) : iE CF0 rec 49 (fQ (cR (cR (cR (cL (cR (cL (cR (cR (cf Tryz.f214)))))))))) k env h = (
 bnd (aO (env 0) (resv 1 h)) fun v1 h1 =>
 bnd (aB 0 v1 h1) fun v2 h2 =>
 bnd (aB 4 v2 h2) fun v3 h3 =>
 bnd (aA v3 h3) fun v4 h4 =>
 bnd (aH 4 (env 3) h4) fun v5 h5 =>
 bnd (aS (bD 0 h.next) [(.i .i64 (Int.ofNat 0)), (.s []), (.i .i64 (Int.ofNat 0)), .l0] 1 [(0, 4, v5)] h5) fun v6 h6 =>
 bnd (aX 4 56 v4 v6 h6) fun v7 h7 =>
 bnd (aO (env 0) h7) fun v8 h8 =>
 bnd (aB 0 v8 h8) fun v9 h9 =>
 bnd (aB 4 v9 h9) fun v10 h10 =>
 bnd (aD 1 v10 v7 h10) fun v11 h11 =>
 k (bP (bP (bP (bP (bP (bP (bP (bP (bP (bP (bP (bP env (some 36) (env 0)) (some 37) (env 0)) (some 38) v1) (some 39) v2) (some 40) v3) (some 41) v4) (some 42) v5) (some 43) v6) (some 44) v7) (some 45) v8) (some 46) v9) (some 47) v10) h11) := by kernel_rfl
theorem rg8 (rec : FuncId → List DV → Hp → aK) (k : K) (env : aV) (h : Hp) : gV CF0 rec 49 (fQ (cL (cR (cR (cR (cf Tryz.f214)))))) (fQ (cL (cR (cR (cR (cf Tryz.f214)))))).toList k env h = (
 k (bP (bP env (some 48) (env 5)) (some 4) (env 5)) h) := by kernel_rfl
end Go.Dd

namespace Go.Dd
open Go.Proofs
theorem HR.sub {G : Gd} {ρ : cM} {h h' : Hp} {w : World} (S : Sim true h h') (H : HR G ρ h' w) : HR G ρ h w := by
 have hg : ∀ b o, h.bl.get b = some o → h'.bl.get b = some o := fun b o hb => by
  obtain ⟨o', h1, h2⟩ := S.get b o hb
  rw [h1, jZ h2]
 have hc : ∀ b a, Claims ρ h b a → Claims ρ h' b a := fun b a ⟨k, l, L, h1, h2, h3⟩ => ⟨k, l, L, hg _ _ h1, h2, h3⟩
 have hro : ∀ b a, Claims ρ h b a → ¬ isRo h b → ¬ isRo h' b := fun b a ⟨k, l, L, h1, h2, h3⟩ hn ⟨l', hl⟩ => by
  rw [hg _ _ h1] at hl
  simp only [bG, Ob.row.injEq] at hl
  exact hn ⟨l, by rw [h1, hl.1]⟩
 exact ⟨H.gl, H.sz, by rw [← S.next]; exact H.nx, fun b a h1 ⟨l, h2⟩ => H.ro b a (hc b a h1) ⟨l, hg _ _ h2⟩, fun b o hb => H.dom b o (hg b o hb), fun b L hb => by rw [← S.next]; exact H.lt b L hb,
  fun b k l L i v h1 => H.cell b k l L i v (hg _ _ h1), fun b l L es j h1 => H.spare b l L es j (hg _ _ h1), fun b a h1 h2 => H.free b a (hc b a h1) (hro b a h1 h2),
  fun b b' a h1 h2 h3 => H.inj b b' a (hc b a h1) (hc b' a h2) (hro b a h1 h3),
  fun b l L h1 => H.ex b l L (h1.elim (fun q => .inl (hg _ _ q)) (fun q => .inr (hg _ _ q))), fun b es l i v h1 => H.grone b es l i v (hg _ _ h1),
  fun b o L h1 h2 => H.itr b o L h1 (hg _ _ h2), fun b o b' o' L L' h1 h2 h3 h4 => H.itj b o b' o' L L' h1 h2 (hg _ _ h3) (hg _ _ h4)⟩
theorem rD : ∀ p : Pos, lU p p = true
 | .h => rfl
 | .o p => rD p
 | .i p => rD p
theorem bDp {p q : Pos} (h : lU p q = false) : p ≠ q := fun e => by subst e; rw [rD] at h; cases h
open Classical in
noncomputable def kk (N : aV → Hp → Prop) : K := fun env h => if N env h then some (bB, h) else none
theorem tA {N : aV → Hp → Prop} {env : aV} {h : Hp} (hn : N env h) : ∃ r, kk N env h = some r := ⟨_, if_pos hn⟩
theorem dGh {N : aV → Hp → Prop} {env : aV} {h : Hp} {r} (hn : kk N env h = some r) : N env h := by
 unfold kk at hn
 split at hn
 ·assumption
 ·cases hn
section
variable {C : Cfg} {rec : FuncId → List DV → Hp → aK} {nt : Nat} {X : Nat → aV → Hp → Prop} {R N : aV → Hp → Prop} {env : aV} {h : Hp}
theorem wpS {a b : Code} (H : sK C rec nt a X R (sK C rec nt b X R N) env h) : sK C rec nt (.seq a b) X R N env h := H
theorem aYi {id : Nat} {ops : Array Oper} (H : ∃ r, gV C rec nt ops ops.toList (kk fun e h => nK h → N e h) env h = some r) : sK C rec nt (.region id ops false) X R N env h := by
 obtain ⟨r, hr⟩ := H
 obtain ⟨env', h', h1, h2⟩ := mW _ _ _ _ _ hr
 simp only [sK, Bool.false_eq_true, if_false]
 exact ⟨env', h', h1, dGh h2⟩
theorem eLl {id : Nat} {ops : Array Oper} (hd : eJ C.P ops = true) (H : ∃ r, iE C rec nt ops (kk fun e h => nK h → N e h) env h = some r) : sK C rec nt (.region id ops true) X R N env h := by
 obtain ⟨r, hr⟩ := H
 simp only [sK, if_true]
 exact .inr ⟨hd, _, r, hr, fun env' h' h1 h2 => dGh h1 h2⟩
theorem eKw {id : Nat} {ops : Array Oper} (H : aQa C rec nt ops (fun e h => nK h → N e h) ops.size (Array.replicate ops.size false) env h) : sK C rec nt (.region id ops true) X R N env h := by
 simp only [sK, if_true]
 exact .inl H
theorem wpC {c : Operand} {a b : Code} {t : Bool} (hc : opr env c = .b t) (H : (t = true → sK C rec nt a X R N env h) ∧ (t = false → sK C rec nt b X R N env h)) : sK C rec nt (.cond c a b) X R N env h := by
 cases t with
 | true => exact .inl ⟨hc, H.1 rfl⟩
 | false => exact .inr ⟨hc, H.2 rfl⟩
end
noncomputable def eOr : Code := cL (cR (cL (cR (cL (cR (cR (cf Tryz.f214)))))))
noncomputable def R4 : Array Oper := fQ eOr
theorem eFt : cf Tryz.f214 = .seq (.region 0 (fQ (cL (cf Tryz.f214))) false) (.seq (.region 1 (fQ (cL (cR (cf Tryz.f214)))) false) (.seq (.seq (.region 2 (fQ (cL (cL (cR (cR (cf Tryz.f214)))))) false)
 (.cond (.tmp 14) (.seq (.region 3 (fQ (cL (cL (cR (cL (cR (cR (cf Tryz.f214)))))))) false) (.seq (.region 4 R4 true) (.cond (.tmp 22)
  (.seq (.region 5 (fQ (cL (cL (cR (cR (cL (cR (cL (cR (cR (cf Tryz.f214))))))))))) false) (.region 6 (fQ (cR (cL (cR (cR (cL (cR (cL (cR (cR (cf Tryz.f214))))))))))) false))
  (.region 7 (fQ (cR (cR (cR (cL (cR (cL (cR (cR (cf Tryz.f214)))))))))) true)))) .skip)) (.seq (.region 8 (fQ (cL (cR (cR (cR (cf Tryz.f214)))))) false) .ret))) := by kernel_rfl
noncomputable def o4 (i : Nat) : Oper := (R4.toList[i]?).getD (Oper.mk none (.move (.tmp 0)) 0 "" #[] none)
theorem eLy : R4[0]? = some (o4 0) := by kernel_rfl
theorem dYg : R4[1]? = some (o4 1) := by kernel_rfl
theorem eGx : R4[2]? = some (o4 2) := by kernel_rfl
theorem eJe : R4[3]? = some (o4 3) := by kernel_rfl
theorem eNh (rec : FuncId → List DV → Hp → aK) (env : aV) (h : Hp) : bJ CF0 rec R4 (o4 0) env h = bA [.b false] h := by kernel_rfl
theorem dZl (rec : FuncId → List DV → Hp → aK) (env : aV) (h : Hp) : bJ CF0 rec R4 (o4 1) env h = aD 1 (env 21) (.b true) h := by kernel_rfl
theorem eFa (rec : FuncId → List DV → Hp → aK) (env : aV) (h : Hp) : bJ CF0 rec R4 (o4 2) env h = aD 1 (env 21) (.b false) h := by kernel_rfl
theorem eMx (rec : FuncId → List DV → Hp → aK) (env : aV) (h : Hp) : bJ CF0 rec R4 (o4 3) env h = aA (env 21) h := by kernel_rfl
theorem eHz : (o4 0).dst = some 21 := by kernel_rfl
theorem cTq : (o4 1).dst = none := by kernel_rfl
theorem dBp : (o4 2).dst = none := by kernel_rfl
theorem dZs : (o4 3).dst = some 22 := by kernel_rfl
theorem z4 : Array.replicate R4.size false = #[false, false, false, false] := by kernel_rfl
theorem y4 : R4.size = 4 := by kernel_rfl
theorem eJu : Region.ready .any R4 #[false, false, false, false] = [0] := by kernel_rfl
theorem eIe : Region.ready .any R4 #[true, false, false, false] = [1, 2] := by kernel_rfl
theorem eLr : Region.ready .any R4 #[true, true, false, false] = [2] := by kernel_rfl
theorem eNq : Region.ready .any R4 #[true, false, true, false] = [1] := by kernel_rfl
theorem eJs : Region.ready .any R4 #[true, true, true, false] = [3] := by kernel_rfl
theorem eKp : Region.ready .any R4 #[true, true, true, true] = [] := by kernel_rfl
theorem eMt : (#[false, false, false, false] : Array Bool).setIfInBounds 0 true = #[true, false, false, false] := by kernel_rfl
theorem eKq : (#[true, false, false, false] : Array Bool).setIfInBounds 1 true = #[true, true, false, false] := by kernel_rfl
theorem eKd : (#[true, false, false, false] : Array Bool).setIfInBounds 2 true = #[true, false, true, false] := by kernel_rfl
theorem eJo : (#[true, true, false, false] : Array Bool).setIfInBounds 2 true = #[true, true, true, false] := by kernel_rfl
theorem eJf : (#[true, false, true, false] : Array Bool).setIfInBounds 1 true = #[true, true, true, false] := by kernel_rfl
theorem eJd : (#[true, true, true, false] : Array Bool).setIfInBounds 3 true = #[true, true, true, true] := by kernel_rfl
theorem cPk {C : Cfg} {rec : FuncId → List DV → Hp → aK} {nt f i : Nat} {ops : Array Oper} {kS : aV → Hp → Prop} {listed l' : Array Bool} {env : aV} {h h' : Hp} {o : Oper} {v : DV} (hr : Region.ready .any ops listed = [i])
  (ho : ops[i]? = some o) (hf : cV nt o.dst = true) (hs : bJ C rec ops o env h = some (v, h')) (hl : listed.setIfInBounds i true = l') (hn : aQa C rec nt ops kS f l' (bP env o.dst v) h') : aQa C rec nt ops kS (f + 1) listed env h := by
 refine ⟨fun e => ?_, fun j hj => ?_⟩
 ·rw [hr] at e; cases e
 ·rw [hr] at hj
  simp only [List.mem_singleton] at hj
  subst hj
  exact ⟨o, v, h', ho, hf, hs, by rw [hl]; exact hn⟩
structure After (h h' : Hp) : Prop where
 next : h'.next = h.next.succ
 get : ∀ b, b ≠ h.next → h'.bl.get b = h.bl.get b
theorem eKz {rec : FuncId → List DV → Hp → aK} {kS : aV → Hp → Prop} {env : aV} {h : Hp} (H : ∀ x h', After h h' → kS (bP (bP env (some 21) (.p h.next 0)) (some 22) (.b x)) h') :
  aQa CF0 rec 49 R4 kS R4.size (Array.replicate R4.size false) env h := by
 rw [z4, y4]
 have st : ∀ (n : Pos) (bl : Tr Ob) (x y : Bool), bl.get h.next = some (.row .ex [.b y]) → aD 1 (.p h.next 0) (.b x) ⟨n, bl⟩ = some (bB, ⟨n, Tr.set (.row .ex [.b x]) h.next bl⟩) := fun n bl x y e => by
  simp only [aD, fA, dG, e, Kind.writable, List.length_singleton, if_true, gW, nJ, DV.one, Bool.and_self, Option.map_some]
 have ld : ∀ (n : Pos) (bl : Tr Ob) (x : Bool), bl.get h.next = some (.row .ex [.b x]) → aA (.p h.next 0) ⟨n, bl⟩ = some (.b x, ⟨n, bl⟩) := fun n bl x e => by
  simp only [aA, cellD, rowOf, e, List.getElem?_cons_zero, DV.one, if_true]
 have g0 : ∀ (t : Tr Ob) (x : Bool), (Tr.set (.row .ex [.b x]) h.next t).get h.next = some (.row .ex [.b x]) := fun t x => eOx _ _ _
 have go : ∀ (t : Tr Ob) (x : Bool) (b : Pos), b ≠ h.next → (Tr.set (.row .ex [.b x]) h.next t).get b = t.get b := fun t x b e => eOw _ _ _ _ e
 have fin : ∀ (t : Tr Ob) (x : Bool), (∀ b, b ≠ h.next → t.get b = h.bl.get b) → t.get h.next = some (.row .ex [.b x]) →
   aQa CF0 rec 49 R4 kS 1 #[true, true, true, false] (bP env (some 21) (.p h.next 0)) ⟨h.next.succ, t⟩ := fun t x e1 e2 => by
  refine cPk eJs eJe (by rw [dZs]; rfl) ((eMx _ _ _).trans (ld _ _ x e2)) eJd ?_
  rw [dZs]
  exact ⟨eKp, H x _ ⟨rfl, e1⟩⟩
 refine cPk eJu eLy (by rw [eHz]; rfl) (eNh _ _ _) eMt ?_
 rw [eHz]
 refine ⟨fun e => (by rw [eIe] at e; cases e), fun j hj => ?_⟩
 rw [eIe] at hj
 simp only [List.mem_cons, List.not_mem_nil, or_false] at hj
 rcases hj with rfl | rfl
 ·refine ⟨_, _, _, dYg, by rw [cTq]; rfl, (dZl _ _ _).trans (st _ _ true false (g0 _ _)), ?_⟩
  rw [eKq, cTq]
  refine cPk eLr eGx (by rw [dBp]; rfl) ((eFa _ _ _).trans (st _ _ false true (g0 _ _))) eJo ?_
  rw [dBp]
  exact fin _ false (fun b e => by rw [go _ _ _ e, go _ _ _ e, go _ _ _ e]) (g0 _ _)
 ·refine ⟨_, _, _, eGx, by rw [dBp]; rfl, (eFa _ _ _).trans (st _ _ false false (g0 _ _)), ?_⟩
  rw [eKd, dBp]
  refine cPk eNq dYg (by rw [cTq]; rfl) ((dZl _ _ _).trans (st _ _ true false (g0 _ _))) eJf ?_
  rw [cTq]
  exact fin _ true (fun b e => by rw [go _ _ _ e, go _ _ _ e, go _ _ _ e]) (g0 _ _)
end Go.Dd

namespace Go.Dd
open Go.Proofs
theorem cMg {h h' g : Hp} {x v : DV} (hg : ∀ b o, h.bl.get b = some o → h'.bl.get b = some o) (e : aA x h = some (v, g)) : aA x h' = some (v, h') := by
 have S : Sim true ⟨h'.next, h.bl⟩ h' := ⟨rfl, fun b o hb => ⟨o, hg b o hb, jM o⟩⟩
 have e' : aA x ⟨h'.next, h.bl⟩ = some (v, ⟨h'.next, h.bl⟩) := by
  unfold aA at e ⊢
  split at e <;> (try (cases e; done))
  rename_i b o
  change (match cellD b o ⟨h'.next, h.bl⟩ with
   | some v => some (v, (⟨h'.next, h.bl⟩ : Hp))
   | none => none) = _
  change (match cellD b o ⟨h'.next, h.bl⟩ with
   | some v => some (v, h)
   | none => none) = _ at e
  split at e <;> (try (cases e; done))
  rename_i u hu
  simp only [bG, bR] at e
  rw [e.1]
 obtain ⟨k, e1, e2⟩ := kM x _ _ S v _ e'
 obtain ⟨rfl, _⟩ := (show k = h' ∧ True by
  unfold aA at e1
  split at e1 <;> (try (cases e1; done))
  split at e1 <;> (try (cases e1; done))
  simp only [bG, bR] at e1
  exact ⟨e1.2.symm, trivial⟩)
 exact e1
theorem cBj {h h' g : Hp} {n : Nat} {x v : DV} (hg : ∀ b o, h.bl.get b = some o → h'.bl.get b = some o) (e : aH n x h = some (v, g)) : aH n x h' = some (v, h') := by
 have S : Sim true ⟨h'.next, h.bl⟩ h' := ⟨rfl, fun b o hb => ⟨o, hg b o hb, jM o⟩⟩
 have e' : aH n x ⟨h'.next, h.bl⟩ = some (v, ⟨h'.next, h.bl⟩) := by
  unfold aH at e ⊢
  split at e <;> (try (cases e; done))
  rename_i b o
  change (match cellsAt b o n ⟨h'.next, h.bl⟩ with
   | some v => some (DV.a v, (⟨h'.next, h.bl⟩ : Hp))
   | none => none) = _
  change (match cellsAt b o n ⟨h'.next, h.bl⟩ with
   | some v => some (DV.a v, h)
   | none => none) = _ at e
  split at e <;> (try (cases e; done))
  rename_i u hu
  simp only [bG, bR] at e
  rw [← e.1]
 obtain ⟨k, e1, e2⟩ := kQ n x _ _ S v _ e'
 obtain ⟨rfl, _⟩ := (show k = h' ∧ True by
  unfold aH at e1
  split at e1 <;> (try (cases e1; done))
  split at e1 <;> (try (cases e1; done))
  simp only [bG, bR] at e1
  exact ⟨e1.2.symm, trivial⟩)
 exact e1
theorem bYz {q : Pos} {l1 v : DV} {cs : List DV} {h k : Hp} (e : jF q l1 cs h = some (v, k)) : ∃ (n : Nat) (old : List DV) (t : Tr Ob), v = .l h.next 0 (n + 1) (n + 1) ∧ (∀ g, bK l1 g = some (.i .i64 (n : Int), g)) ∧
  old.length = n * 4 ∧ (∀ v ∈ old, v.one = true) ∧ k = ⟨h.next.succ, Tr.set (.row (.gr 4) (old ++ cs)) h.next t⟩ ∧ t.get q = h.bl.get q ∧ (∀ b, t.get b ≠ none → h.bl.get b ≠ none) ∧
  ∀ zs, jF q l1 zs h = some (v, ⟨h.next.succ, Tr.set (.row (.gr 4) (old ++ zs)) h.next t⟩) := by
 unfold jF at e
 split at e <;> (try (cases e; done))
 ·simp only [bG, bR] at e
  obtain ⟨rfl, rfl⟩ := e
  exact ⟨0, [], h.bl, rfl, fun g => rfl, rfl, by simp, rfl, rfl, fun b hb => hb, fun zs => rfl⟩
 ·rename_i b o len cap
  cases hc : (Nat.ble cap len && !(lU b q)) with
  | false => rw [hc] at e; cases e
  | true =>
   rw [hc] at e
   simp only [cnd] at e
   split at e <;> (try (cases e; done))
   rename_i es l old hb hold
   split at e <;> (try (cases e; done))
   rename_i hr
   simp only [bG, bR] at e
   obtain ⟨rfl, rfl⟩ := e
   have hq : q ≠ b := by
    simp only [Bool.and_eq_true, Bool.not_eq_true'] at hc
    exact Ne.symm (bDp hc.2)
   have hl : old.length = len * 4 ∧ ∀ v ∈ old, v.one = true := by
    unfold cellsAt at hold
    split at hold <;> (try (cases hold; done))
    obtain ⟨h1, _, _, h4⟩ := lP _ _ _ hold
    exact ⟨h1, h4⟩
   refine ⟨len, old, Tr.set (.row .sp (bV o l)) b h.bl, rfl, fun g => rfl, hl.1, hl.2, rfl, eOw _ _ _ _ hq, fun x hx => ?_, fun zs => ?_⟩
   ·by_cases e : x = b
    ·rw [e, hb]; simp
    ·rwa [eOw _ _ _ _ e] at hx
   ·unfold jF
    dsimp only
    rw [hc]
    simp only [cnd, hb, hold, if_pos hr]
theorem bHw {q : Pos} {l1 x v : DV} {cs : List DV} {h h' k : Hp} (S : Sim true h h') (hx : aBg 4 x h' = some (1, cs)) (e : jF q l1 cs h = some (v, k)) : ∃ k', aX 4 56 l1 x h' = some (v, k') ∧ Sim true k k' := by
 unfold jF at e
 split at e <;> (try (cases e; done))
 ·simp only [bG, bR] at e
  obtain ⟨rfl, rfl⟩ := e
  refine ⟨⟨h'.next.succ, Tr.set (.row (.gr 4) cs) h'.next h'.bl⟩, ?_, ?_⟩
  ·unfold aX
   rw [hx]
   dsimp only
   rw [if_neg (by simp), if_pos (by decide), S.next]
  ·rw [S.next]; exact S.setR _ _ _ _
 ·rename_i b o len cap
  cases hc : (Nat.ble cap len && !(lU b q)) with
  | false => rw [hc] at e; cases e
  | true =>
   rw [hc] at e
   simp only [cnd] at e
   split at e <;> (try (cases e; done))
   rename_i es l old hb hold
   split at e <;> (try (cases e; done))
   rename_i hr
   simp only [bG, bR] at e
   obtain ⟨rfl, rfl⟩ := e
   have hle : cap ≤ len := by
    simp only [Bool.and_eq_true] at hc
    exact Nat.le_of_ble_eq_true hc.1
   refine ⟨⟨h'.next.succ, Tr.set (.row (.gr 4) (old ++ cs)) h'.next (Tr.set (.row .sp (bV o l)) b h'.bl)⟩, ?_, ?_⟩
   ·unfold aX
    rw [hx]
    dsimp only
    rw [if_neg (by omega), S.row hb, S.cellsAt hold]
    dsimp only
    rw [if_pos hr.2.2, if_pos ⟨hr.1, hr.2.1⟩, S.next]
   ·rw [S.next]
    exact (S.setR .sp (bV o l) b h.next).setR _ _ _ _
theorem bBr : ∀ (old zs cs : List DV), zs.length = cs.length → (∀ v ∈ zs, v.one = true) → (∀ v ∈ cs, v.one = true) → gW old.length (old ++ zs) cs = some (old ++ cs)
 | [], zs, cs, hl, hz, hc => by
  show nJ zs cs = some cs
  induction cs generalizing zs with
  | nil => cases zs with
   | nil => rfl
   | cons z zs => simp at hl
  | cons c cs ih => cases zs with
   | nil => simp at hl
   | cons z zs =>
    simp only [nJ, hz z (by simp), hc c (by simp), Bool.and_self, if_true]
    rw [ih zs (by simpa using hl) (fun v hv => hz v (by simp [hv])) (fun v hv => hc v (by simp [hv]))]
    rfl
 | x :: old, zs, cs, hl, hz, hc => by
  show (gW old.length (old ++ zs) cs).map (x :: ·) = _
  rw [bBr old zs cs hl hz hc]
  rfl
end Go.Dd

namespace Go.Dd
open Go.Proofs
theorem bNh : (Tryz.prog.funcs.toList.all fun fn => !(fn.name == "runtime.NumGoroutine")) = true := by kernel_rfl
theorem Try_ok : POk Tryz.prog where
 mixed := by kernel_rfl
 names := by
  intro f fn hf
  have h := List.all_eq_true.1 bNh fn (by
   obtain ⟨hlt, rfl⟩ := Array.getElem?_eq_some_iff.1 hf
   simp)
  simpa using h
theorem KC0 : OkC CF0 (fnD CF0 60) := ⟨fun G g F h => (by cases h), fun G g => cHf (C := CF0) Try_ok (fun G g F h => (by cases h)) 60 G g⟩
theorem dMu (e : aV) (h : Hp) : aR CF0 Tryz.f214 e h = some (e 4, h) := by kernel_rfl
theorem eHq : Tryz.f214.ntmps = 49 := by kernel_rfl
theorem eFg : Tryz.prog.funcs[214]? = some Tryz.f214 := by kernel_rfl
theorem cTm : Tryz.f214.body = some (cf Tryz.f214) := by kernel_rfl
theorem eHy : eJ CF0.P (fQ (cR (cR (cR (cL (cR (cL (cR (cR (cf Tryz.f214)))))))))) = true := by kernel_rfl
theorem bFg {X : Nat → aV → Hp → Prop} {N : aV → Hp → Prop} {env : aV} {v : DV} {h h1 : Hp} (he : env 5 = v) (S : Sim true h1 h) :
  sK CF0 (fnD CF0 60) 49 (.seq (.region 8 (fQ (cL (cR (cR (cR (cf Tryz.f214)))))) false) .ret) X (fun env h' => ∃ h2, aR CF0 Tryz.f214 env h' = some (v, h2) ∧ Le h2 h1) N env h := by
 refine wpS (aYi ?_)
 rw [rg8]
 refine tA fun _ => ?_
 exact ⟨h, (dMu _ _).trans (by rw [show (bP (bP env (some 48) (env 5)) (some 4) (env 5)) 4 = env 5 from rfl, he]), fun G ρ w H => H.sub S⟩
theorem zH {F : Hp → aK} (hF : PureP F) {h g : Hp} {v : DV} (e : F h = some (v, g)) : g = h ∧ ∀ h', F h' = some (v, h') := hF h v g e
theorem sC {h g : Hp} {c : Pos} {o : Nat} {v : DV} (e : aA (.p c o) h = some (v, g)) : g = h ∧ ∃ u, h.bl.get c = some u := by
 change (match cellD c o h with
  | some v => some (v, h)
  | none => none) = _ at e
 split at e <;> (try (cases e; done))
 rename_i u hu
 simp only [bG, bR] at e
 refine ⟨e.2.symm, ?_⟩
 unfold cellD rowOf at hu
 cases hc : h.bl.get c with
 | none => rw [hc] at hu; cases hu
 | some u => exact ⟨u, rfl⟩
theorem qV {h g : Hp} {c : Pos} {o n : Nat} {v : DV} (e : aH n (.p c o) h = some (v, g)) : g = h ∧ (∃ u, h.bl.get c = some u) ∧ ∃ cs, v = .a cs ∧ cs.length = n ∧ ∀ x ∈ cs, x.one = true := by
 change (match cellsAt c o n h with
  | some cs => some (DV.a cs, h)
  | none => none) = _ at e
 split at e <;> (try (cases e; done))
 rename_i u hu
 simp only [bG, bR] at e
 refine ⟨e.2.symm, ?_⟩
 unfold cellsAt rowOf at hu
 cases hc : h.bl.get c with
 | none => rw [hc] at hu; cases hu
 | some ob =>
  refine ⟨⟨ob, rfl⟩, u, e.1.symm, ?_⟩
  rw [hc] at hu
  split at hu <;> (try (cases hu; done))
  obtain ⟨h1, _, _, h4⟩ := lP _ _ _ hu
  exact ⟨h1, h4⟩
theorem Sim.of_get {h h' : Hp} (e : h'.next = h.next) (g : ∀ b o, h.bl.get b = some o → h'.bl.get b = some o) : Sim true h h' := ⟨e, fun b o hb => ⟨o, g b o hb, jM o⟩⟩
theorem bYf (c : Pos) (h : Hp) : aO (.p c 0) h = some (.p c 0, h) := rfl
theorem dQc (c : Pos) (h : Hp) : aB 0 (.p c 0) h = some (.p c 0, h) := rfl
theorem dIw (c : Pos) (h : Hp) : aB 4 (.p c 0) h = some (.p c 4, h) := rfl
theorem aQz (env : aV) (i : Nat) (v : DV) (j : Nat) (h : Nat.beq j i = false) : bP env (some i) v j = env j := by
 show (bif Nat.beq j i then v else env j) = _
 rw [h]; rfl
theorem cJk (env : aV) (i : Nat) (v : DV) : bP env (some i) v i = v := by
 show (bif Nat.beq i i then v else env i) = _
 rw [Nat.beq_refl]; rfl
theorem aRo : ∀ cs : List DV, (∀ v ∈ cs, v.one = true) → pN cs.length cs = some cs
 | [], _ => rfl
 | c :: cs, h => by
  show (if c.one then (pN cs.length cs).map (c :: ·) else none) = _
  rw [if_pos (h c (by simp)), aRo cs fun v hv => h v (by simp [hv])]
  rfl
theorem bIo {cs : List DV} (h4 : cs.length = 4) (ho : ∀ v ∈ cs, v.one = true) (p n : Pos) (t : Tr Ob) : aBg 4 (.l p 0 1 1) ⟨n, Tr.set (.row .ex cs) p t⟩ = some (1, cs) := by
 have e : cellsAt p 0 (1 * 4) ⟨n, Tr.set (.row .ex cs) p t⟩ = some cs := by
  unfold cellsAt rowOf
  simp only [eOx, List.drop_zero]
  rw [show 1 * 4 = cs.length by rw [h4]]
  exact aRo cs ho
 simp only [aBg, e]
theorem cFg {h h' : Hp} {n o : Nat} {q : Pos} {v : DV} (hg : h'.bl.get q = h.bl.get q) (e : aH n (.p q o) h = some (v, h)) : aH n (.p q o) h' = some (v, h') := by
 have e1 : cellsAt q o n h' = cellsAt q o n h := by
  unfold cellsAt rowOf
  rw [hg]
 change (match cellsAt q o n h with
  | some cs => some (DV.a cs, h)
  | none => none) = _ at e
 show (match cellsAt q o n h' with
  | some cs => some (DV.a cs, h')
  | none => none) = _
 rw [e1]
 split at e <;> (try (cases e; done))
 simp only [bG, bR] at e
 rw [e.1]
structure Way (g3 h5 : Hp) (c q : Pos) (l1 l2 n u : DV) (cs : List DV) (k3 k4 : Hp) (env : aV) : Prop where
 fr : nK g3
 af : After g3 h5
 hl : aA (.p c 4) g3 = some (l1, g3)
 hx : aH 4 (.p q 0) g3 = some (.a cs, g3)
 ne : c ≠ q
 hn : bK l1 g3 = some (n, g3)
 ap : jF q l1 cs ⟨g3.next.succ.succ, g3.bl⟩ = some (l2, k3)
 st : aD 1 (.p c 4) l2 k3 = some (u, k4)
 e0 : env 0 = .p c 0
 e3 : env 3 = .p q 0
 e5 : env 5 = n
section
theorem Way.up {g3 h5 : Hp} {c q : Pos} {l1 l2 n u : DV} {cs : List DV} {k3 k4 : Hp} {env : aV} (W : Way g3 h5 c q l1 l2 n u cs k3 k4 env) : ∀ b o, g3.bl.get b = some o → h5.bl.get b = some o := fun b o hb => by
 rw [W.af.get b (fun e => ?_)]
 ·exact hb
 ·subst e; exact Nat.lt_irrefl _ (W.fr _ _ hb)
theorem Way.c5 {g3 h5 : Hp} {c q : Pos} {l1 l2 n u : DV} {cs : List DV} {k3 k4 : Hp} {env : aV} (W : Way g3 h5 c q l1 l2 n u cs k3 k4 env) (n' : Pos) : aA (.p c 4) ⟨n', h5.bl⟩ = some (l1, ⟨n', h5.bl⟩) := cMg W.up W.hl
theorem Way.q5 {g3 h5 : Hp} {c q : Pos} {l1 l2 n u : DV} {cs : List DV} {k3 k4 : Hp} {env : aV} (W : Way g3 h5 c q l1 l2 n u cs k3 k4 env) (n' : Pos) : aH 4 (.p q 0) ⟨n', h5.bl⟩ = some (.a cs, ⟨n', h5.bl⟩) := cBj W.up W.hx
theorem Way.len {g3 h5 : Hp} {c q : Pos} {l1 l2 n u : DV} {cs : List DV} {k3 k4 : Hp} {env : aV} (W : Way g3 h5 c q l1 l2 n u cs k3 k4 env) (h : Hp) : bK l1 h = some (n, h) := (zH (nA l1) W.hn).2 h
theorem Way.base {g3 h5 : Hp} {c q : Pos} {l1 l2 n u : DV} {cs : List DV} {k3 k4 : Hp} {env : aV} (W : Way g3 h5 c q l1 l2 n u cs k3 k4 env) (o : Ob) : Sim true ⟨g3.next.succ.succ, g3.bl⟩ ⟨h5.next.succ, Tr.set o h5.next h5.bl⟩ := Sim.of_get (by rw [W.af.next]) fun b ob hb => by
 show (Tr.set o h5.next h5.bl).get b = _
 rw [eOw, W.up b ob hb]
 intro e
 have h1 := W.fr b ob hb
 have s1 := ePa g3.next
 rw [e, W.af.next] at h1
 omega
theorem Way.app {g3 h5 : Hp} {c q : Pos} {l1 l2 n u : DV} {cs : List DV} {k3 k4 : Hp} {env : aV} (W : Way g3 h5 c q l1 l2 n u cs k3 k4 env) {hh : Hp} (S : Sim true ⟨g3.next.succ.succ, g3.bl⟩ hh) {y : DV} (hy : aBg 4 y hh = some (1, cs)) : ∃ k', aX 4 56 l1 y hh = some (l2, k') ∧ ∃ k'', aD 1 (.p c 4) l2 k' = some (u, k'') ∧ Sim true k4 k'' := by
 obtain ⟨k', h1, h2⟩ := bHw S hy W.ap
 obtain ⟨k'', h3, h4⟩ := kP 1 _ _ _ _ h2 _ _ W.st
 exact ⟨k', h1, k'', h3, h4⟩
theorem Way.one {g3 h5 : Hp} {c q : Pos} {l1 l2 n u : DV} {cs : List DV} {k3 k4 : Hp} {env : aV} (W : Way g3 h5 c q l1 l2 n u cs k3 k4 env) : cs.length = 4 ∧ ∀ v ∈ cs, v.one = true := by
 obtain ⟨_, _, cs', e, h1, h2⟩ := qV W.hx
 cases e
 exact ⟨h1, h2⟩
theorem Way.B {g3 h5 : Hp} {c q : Pos} {l1 l2 n u : DV} {cs : List DV} {k3 k4 : Hp} {env : aV} (W : Way g3 h5 c q l1 l2 n u cs k3 k4 env) {X : Nat → aV → Hp → Prop} {R N : aV → Hp → Prop} (hN : ∀ env' h', env' 5 = n → Sim true k4 h' → N env' h') : sK CF0 (fnD CF0 60) 49 (.region 7 (fQ (cR (cR (cR (cL (cR (cL (cR (cR (cf Tryz.f214)))))))))) true) X R N env h5 := by
 obtain ⟨k', h1, k'', h2, h3⟩ := W.app (W.base (.row .ex cs)) (bIo W.one.1 W.one.2 h5.next h5.next.succ h5.bl)
 have fl : aS (bD 0 h5.next) [(.i .i64 (Int.ofNat 0)), (.s []), (.i .i64 (Int.ofNat 0)), .l0] 1 [(0, 4, .a cs)] ⟨h5.next.succ, h5.bl⟩ = some (.l h5.next 0 1 1, ⟨h5.next.succ, Tr.set (.row .ex cs) h5.next h5.bl⟩) := by
  simp only [aS, mI, fA, W.one.1]
  simp [bD]
 refine eLl eHy ?_
 rw [rg7]
 simp only [W.e0, W.e3, bYf, bI, dQc, dIw, show resv 1 h5 = ⟨h5.next.succ, h5.bl⟩ from rfl, W.c5, W.q5, fl, h1, h2]
 refine tA fun _ => hN _ _ ?_ h3
 simp only [aQz, Nat.beq]
 exact W.e5
theorem Way.A {g3 h5 : Hp} {c q : Pos} {l1 l2 n u : DV} {cs : List DV} {k3 k4 : Hp} {env : aV} (W : Way g3 h5 c q l1 l2 n u cs k3 k4 env) {X : Nat → aV → Hp → Prop} {R N : aV → Hp → Prop} (hN : ∀ env' h', env' 5 = n → Sim true k4 h' → N env' h') : sK CF0 (fnD CF0 60) 49 (.seq (.region 5 (fQ (cL (cL (cR (cR (cL (cR (cL (cR (cR (cf Tryz.f214))))))))))) false)
  (.region 6 (fQ (cR (cL (cR (cR (cL (cR (cL (cR (cR (cf Tryz.f214))))))))))) false)) X R N env h5 := by
 obtain ⟨m, old, t, hl2, hm, hol, hoo, hk3, htq, htd, hz⟩ := bYz W.ap
 have hzz := hz [.i .i64 (Int.ofNat 0), .s [], .i .i64 (Int.ofNat 0), .l0]
 have hn : n = .i .i64 (m : Int) := by
  have e1 := W.len g3
  rw [hm] at e1
  simp only [bG, bR, and_true] at e1
  exact e1.symm
 dsimp only at hl2 hk3 htq htd hzz
 obtain ⟨_, uc, huc⟩ := sC W.hl
 have hcs : c ≠ g3.next.succ.succ := fun e => by
  have h1 := W.fr _ _ huc
  have s1 := ePa g3.next
  have s2 := ePa g3.next.succ
  rw [e] at h1
  omega
 obtain ⟨_, ⟨uq, huq⟩, _⟩ := qV W.hx
 have hqs : q ≠ g3.next.succ.succ := fun e => by
  have h1 := W.fr _ _ huq
  have s1 := ePa g3.next
  have s2 := ePa g3.next.succ
  rw [e] at h1
  omega
 have hst := W.st
 rw [hk3] at hst
 have hst2 : ∃ kd l l', t.get c = some (.row kd l) ∧ k4 = ⟨g3.next.succ.succ.succ, Tr.set (.row kd l') c (Tr.set (.row (.gr 4) (old ++ cs)) g3.next.succ.succ t)⟩ ∧
   ∀ zs, aD 1 (.p c 4) l2 ⟨g3.next.succ.succ.succ, Tr.set (.row (.gr 4) zs) g3.next.succ.succ t⟩ = some (u, ⟨g3.next.succ.succ.succ, Tr.set (.row kd l') c (Tr.set (.row (.gr 4) zs) g3.next.succ.succ t)⟩) := by
  rw [hl2] at hst ⊢
  simp only [aD, fA, List.length_singleton, if_true, dG, eOw _ _ _ _ hcs] at hst ⊢
  cases htc : t.get c with
  | none => rw [htc] at hst; cases hst
  | some o =>
   rw [htc] at hst
   cases o with
   | row kd l =>
    dsimp only at hst ⊢
    cases hw : kd.writable with
    | false => rw [hw] at hst; cases hst
    | true =>
     rw [hw, if_pos rfl] at hst
     cases hp : gW 4 l [.l g3.next.succ.succ 0 (m + 1) (m + 1)] with
     | none => rw [hp] at hst; cases hst
     | some l' =>
      rw [hp] at hst
      simp only [bG, bR] at hst
      exact ⟨kd, l, l', rfl, hst.2.symm, fun zs => by simp only [hw, if_true, hp, hst.1]⟩
   | it s p => cases hst
   | mp es => cases hst
   | big n t => cases hst
   | mi t => cases hst
 obtain ⟨kd, l, l', htc, hk4, hstz⟩ := hst2
 obtain ⟨k6, h6, S6⟩ := bHw (W.base (.row .ex [.i .i64 (Int.ofNat 0), .s [], .i .i64 (Int.ofNat 0), .l0])) (bIo rfl (by simp [DV.one]) h5.next h5.next.succ h5.bl) hzz
 obtain ⟨k7, h7, S7⟩ := kP 1 _ _ _ _ S6 _ _ (hstz _)
 have hqz := cFg (h' := ⟨g3.next.succ.succ.succ, Tr.set (.row kd l') c (Tr.set (.row (.gr 4) (old ++ [.i .i64 (Int.ofNat 0), .s [], .i .i64 (Int.ofNat 0), .l0])) g3.next.succ.succ t)⟩) (by
  show (Tr.set _ c (Tr.set _ _ t)).get q = _
  rw [eOw _ _ _ _ (Ne.symm W.ne), eOw _ _ _ _ hqs, htq]) W.hx
 obtain ⟨k8, h8, S8⟩ := kQ 4 _ _ _ S7 _ _ hqz
 have hfin : aD 4 (.p g3.next.succ.succ (0 + m * 4)) (.a cs) ⟨g3.next.succ.succ.succ, Tr.set (.row kd l') c (Tr.set (.row (.gr 4) (old ++ [.i .i64 (Int.ofNat 0), .s [], .i .i64 (Int.ofNat 0), .l0])) g3.next.succ.succ t)⟩ =
   some (bB, ⟨g3.next.succ.succ.succ, Tr.set (.row (.gr 4) (old ++ cs)) g3.next.succ.succ (Tr.set (.row kd l') c (Tr.set (.row (.gr 4) (old ++ [.i .i64 (Int.ofNat 0), .s [], .i .i64 (Int.ofNat 0), .l0])) g3.next.succ.succ t))⟩) := by
  have hp := bBr old [.i .i64 (Int.ofNat 0), .s [], .i .i64 (Int.ofNat 0), .l0] cs (by rw [W.one.1]; rfl) (by simp [DV.one]) W.one.2
  simp only [aD, fA, W.one.1, if_true, dG, eOw _ _ _ _ (Ne.symm hcs), eOx, Kind.writable, Nat.zero_add, ← hol, hp]
 obtain ⟨k9, h9, S9⟩ := kP 4 _ _ _ _ S8 _ _ hfin
 have S10 : Sim true k4 k9 := by
  refine Sim.trans ?_ S9
  rw [hk4]
  refine Sim.of_get rfl fun b o hb => ?_
  change (Tr.set (.row kd l') c (Tr.set _ g3.next.succ.succ t)).get b = some o at hb
  show (Tr.set _ g3.next.succ.succ (Tr.set (.row kd l') c (Tr.set _ g3.next.succ.succ t))).get b = some o
  by_cases e1 : b = g3.next.succ.succ
  ·rw [e1] at hb ⊢
   rw [eOw _ _ _ _ (Ne.symm hcs), eOx] at hb
   rw [eOx, hb]
  ·rw [eOw _ _ _ _ e1]
   by_cases e2 : b = c
   ·rw [e2] at hb ⊢
    rw [eOx] at hb ⊢
    exact hb
   ·rw [eOw _ _ _ _ e2, eOw _ _ _ _ e1] at hb ⊢
    exact hb
 have fl : aN [(.i .i64 (Int.ofNat 0)), (.s []), (.i .i64 (Int.ofNat 0)), .l0] 1 [(0, 4, (.a [(.i .i64 (Int.ofNat 0)), (.s []), (.i .i64 (Int.ofNat 0)), .l0]))] h5 = some (.l h5.next 0 1 1, ⟨h5.next.succ, Tr.set (.row .ex [.i .i64 (Int.ofNat 0), .s [], .i .i64 (Int.ofNat 0), .l0]) h5.next h5.bl⟩) := by
  simp [aN, mI, fA]
 refine wpS (aYi ?_)
 rw [rg5]
 have c5 : aA (.p c 4) h5 = some (l1, h5) := W.c5 h5.next
 have ix : aI 4 l2 n k8 = some (.p g3.next.succ.succ (0 + m * 4), k8) := by
  rw [hl2, hn]
  show (if (0 : Int) ≤ (m : Int) ∧ (m : Int) < ((m + 1 : Nat) : Int) then some (DV.p g3.next.succ.succ (0 + (m : Int).toNat * 4), k8) else none) = _
  rw [if_pos (by omega)]
  simp
 simp only [W.e0, W.e3, bYf, bI, dQc, dIw, c5, W.len, fl, h6, h7]
 refine tA fun _ => aYi ?_
 rw [rg6]
 simp only [aQz, cJk, Nat.beq, W.e3, h8, bI, ix, h9]
 refine tA fun _ => hN _ _ ?_ S10
 simp only [aQz, Nat.beq]
 exact W.e5
end
theorem cVw {h h1 : Hp} {c q : Pos} {v : DV} (hr : rL c q h = some (v, h1)) (hf : nK h) {env : aV} (e0 : env 0 = .p c 0) (e3 : env 3 = .p q 0)
  {X : Nat → aV → Hp → Prop} {R N : aV → Hp → Prop} (hN : ∀ env' h', env' 5 = v → Sim true h1 h' → N env' h') :
  sK CF0 (fnD CF0 60) 49 (.seq (.region 3 (fQ (cL (cL (cR (cL (cR (cR (cf Tryz.f214)))))))) false) (.seq (.region 4 R4 true) (.cond (.tmp 22)
   (.seq (.region 5 (fQ (cL (cL (cR (cR (cL (cR (cL (cR (cR (cf Tryz.f214))))))))))) false) (.region 6 (fQ (cR (cL (cR (cR (cL (cR (cL (cR (cR (cf Tryz.f214))))))))))) false))
   (.region 7 (fQ (cR (cR (cR (cL (cR (cL (cR (cR (cf Tryz.f214)))))))))) true)))) X R N env h := by
 unfold rL at hr
 obtain ⟨l1, g1, hl1, hr⟩ := dI hr
 obtain ⟨n, g2, hn, hr⟩ := dI hr
 obtain ⟨x, g3, hx, hr⟩ := dI hr
 obtain ⟨rfl, uc, huc⟩ := sC hl1
 have hn0 := hn
 obtain ⟨rfl, hn⟩ := zH (nA l1) hn
 obtain ⟨rfl, ⟨uq, huq⟩, cs, rfl, hcl, hco⟩ := qV hx
 dsimp only at hr
 cases hcq : lU c q with
 | true => rw [hcq] at hr; cases hr
 | false =>
 rw [hcq] at hr
 have hcq' : c ≠ q := bDp hcq
 simp only [cnd, Bool.not_false] at hr
 obtain ⟨l2, k3, ha, hr⟩ := dI hr
 obtain ⟨u, k4, hs, hr⟩ := dI hr
 simp only [bG, bR] at hr
 obtain ⟨rfl, rfl⟩ := hr
 refine wpS (aYi ?_)
 rw [rg3]
 rw [show aO (env 0) g3 = some (.p c 0, g3) from by rw [e0]; rfl]
 show ∃ r, bnd (aA (.p c 4) g3) _ = some r
 rw [hl1]
 show ∃ r, bnd (bK l1 g3) _ = some r
 rw [hn0, bI]
 refine tA fun _ => ?_
 refine wpS (eKw (eKz fun x h5 A F5 => ?_))
 have W : Way g3 h5 c q l1 l2 n u cs k3 k4 (bP (bP (bP (bP (bP (bP (bP (bP (bP env (some 15) (env 0)) (some 16) (DV.p c 0)) (some 17) (DV.p c (0 + 0))) (some 18) (DV.p c (0 + 0 + 4))) (some 19) l1) (some 20) n) (some 5) n) (some 21) (DV.p g3.next 0)) (some 22) (DV.b x)) :=
  ⟨hf, A, hl1, hx, hcq', hn0, ha, hs, e0, e3, rfl⟩
 refine wpC (t := x) rfl ⟨fun _ => ?_, fun _ => ?_⟩
 ·exact W.A hN
 ·exact W.B hN
theorem bKa (c : Pos) (lit : List DV) (h : Hp) : bM (aJ [.p c 0, .a lit] 1) h = some (.p h.next 0, ⟨h.next.succ, Tr.set (.row .ex lit) h.next h.bl⟩) := rfl
theorem dLc (G : Gd) : jQ Tryz.prog G 214 lB := by
 refine dWp (C := CF0) (rec := fnD CF0 60) KC0 Try_ok eFg cTm fun args h v h1 hr hf => ?_
 unfold lB at hr
 split at hr <;> (try (cases hr; done))
 rename_i c lit
 obtain ⟨vb, hb, h0, hr⟩ := dI hr
 simp only [bA, bG, bR] at h0
 obtain ⟨rfl, rfl⟩ := h0
 obtain ⟨ls, h2, hl, hr⟩ := dI hr
 obtain ⟨rfl, _⟩ := sC hl
 obtain ⟨i, h3, hi, hr⟩ := dI hr
 obtain ⟨tt, h4, ht, hif⟩ := dI hr
 clear hr
 obtain ⟨rfl, hlt⟩ := zH (xE _ _ _) ht
 rw [eFt, eHq]
 refine wpS (aYi ?_)
 rw [rg0, bKa, bI]
 refine tA fun _ => ?_
 refine wpS (aYi ?_)
 rw [rg1]
 simp only [aQz, cJk, Nat.beq, show aJ [.p c 0, .a lit] 0 = .p c 0 from rfl, bYf, bI, dQc, dIw, hl, hi]
 refine tA fun F4 => ?_
 refine wpS (wpS (aYi ?_))
 rw [rg2]
 simp only [aQz, cJk, Nat.beq, ht, bI]
 refine tA fun _ => ?_
 unfold aU at hif
 split at hif <;> (try (cases hif; done))
 ·refine wpC (t := true) rfl ⟨fun _ => ?_, fun e => (by cases e)⟩
  refine cVw hif F4 ?_ ?_ ?_
  ·rfl
  ·rfl
  ·intro env' h' e5 S
   exact bFg e5 S
 ·simp only [bG, bR] at hif
  obtain ⟨rfl, rfl⟩ := hif
  refine wpC (t := false) rfl ⟨fun e => (by cases e), fun _ => ?_⟩
  exact bFg rfl (Sim.refl _)
end Go.Dd

namespace Go.Dd
open Go.Proofs
theorem cYq : (itm.ops.toList.all fX) = true := by kernel_rfl
theorem bXb : Tryz.f162.body = some itm.code := by kernel_rfl
theorem dRn : ItOk Tryz.prog itm where
 pre := by kernel_rfl
 test := by kernel_rfl
 after := by kernel_rfl
 post := by kernel_rfl
 step := by kernel_rfl
 ops := List.all_eq_true.1 cYq
 dst := by kernel_rfl
 guard := by kernel_rfl
 op := ⟨#[3], by kernel_rfl⟩
 fn := ⟨Tryz.f162, Tryz.func162, bXb, by kernel_rfl, by kernel_rfl, by kernel_rfl⟩
theorem eKk : gO (cf Tryz.f95) = true := by kernel_rfl
theorem dZe : gO (cf Tryz.f287) = true := by kernel_rfl
theorem bEt {fn : Func} {c : Code} (h : fn.body = some c) : cf fn = c := by unfold cf; rw [h]
theorem dRl (f : FuncId) (hf : rgB f = true) (fn : Func) (c : Code) (h1 : Tryz.prog.funcs[f]? = some fn) (h2 : fn.body = some c) : gO c = true := by
 unfold rgB at hf
 simp only [Bool.or_eq_true] at hf
 rcases hf with hf | hf <;> (have e := Nat.eq_of_beq_eq_true hf; subst e)
 ·rw [Tryz.func95] at h1
  cases h1
  rw [← bEt h2]
  exact eKk
 ·rw [Tryz.func287] at h1
  cases h1
  rw [← bEt h2]
  exact dZe
end Go.Dd

namespace Go.Dd
open Go.Proofs Go.Lib Go.RowKit
theorem aRw (c : Nat) (hc : c < 256) : ∀ (l : List UInt8) (i : Nat), aQy c (l.map (·.toNat)) i = if indexByte l c.toUInt8 = -1 then -1 else indexByte l c.toUInt8 + i
 | [], i => rfl
 | b :: l, i => by
  have hb : Nat.beq b.toNat c = (b == c.toUInt8) := by
   rw [Bool.eq_iff_iff]
   constructor
   ·intro h
    have := Nat.eq_of_beq_eq_true h
    simp [← this]
   ·intro h
    have h2 : b = c.toUInt8 := by simpa using h
    rw [h2]
    have : (c.toUInt8).toNat = c := by simp [Nat.toUInt8]; omega
    rw [this]; simp
  show (bif Nat.beq b.toNat c then Int.ofNat i else aQy c (l.map (·.toNat)) (i + 1)) = _
  rw [hb]
  unfold indexByte
  cases h : (b == c.toUInt8) with
  | true => simp
  | false =>
   have ih := aRw c hc l (i + 1)
   have hge := indexByte_ge l c.toUInt8
   simp only [cond_false, Bool.false_eq_true, if_false]
   rw [ih]
   by_cases h1 : indexByte l c.toUInt8 = -1
   ·simp [h1]
   ·simp only [h1, if_false, beq_iff_eq]
    rw [if_neg (by omega)]
    omega
theorem dJv (G : Gd) : jQ Tryz.prog G 229 lW := by
 intro args h v h1 hr ρ w args' H hargs
 unfold lW at hr
 split at hr <;> (try (cases hr; done))
 rename_i l c
 cases hc : Nat.blt c 256 with
 | false => rw [hc] at hr; cases hr
 | true =>
  rw [hc] at hr
  have hc' : c < 256 := by simpa using hc
  simp only [cond_true, bG, bR] at hr
  obtain ⟨rfl, rfl⟩ := hr
  obtain ⟨a⟩ := args'
  cases hargs with
  | cons x x' l1 l1' hx hxs =>
  cases hxs with
  | cons y y' l2 l2' hy hys =>
  cases hys
  cases hx with
  | s l bs hbs =>
  cases hy with
  | i k n =>
  refine .inr ⟨ρ, w, .int .i64 (indexByte bs.data.toList c.toUInt8), ?_, Ex.refl _ _, ?_, H, Kp.refl _ _⟩
  ·rw [run_callFunc_extern (fn := Tryz.f229) (e := Extern.BytealgIndexByte.indexByte) (by kernel_rfl) (by kernel_rfl) (by kernel_rfl) (by kernel_rfl) (by kernel_rfl)]
   rw [run_indexByteString bs (Int.ofNat c) w]
   rfl
  ·have e := aRw c hc' bs.data.toList 0
   rw [hbs] at e
   have e2 : aQy c l 0 = indexByte bs.data.toList c.toUInt8 := by
    rw [e]
    split
    ·rename_i h; exact h.symm
    ·simp
   rw [e2]
   exact .i _ _
theorem oZ (G : Gd) (g : FuncId) (F : List DV → Hp → aK) (h : CF1.I g = some F) : jQ CF1.P G g F := by
 have e : CF1.I g = bif Nat.beq g 229 then some lW else bif Nat.beq g 214 then some lB else none := rfl
 rw [e] at h
 cases hg : Nat.beq g 229 with
 | true => rw [hg] at h; cases h; cases Nat.eq_of_beq_eq_true hg; exact dJv G
 | false =>
 rw [hg, cond_false] at h
 cases hg : Nat.beq g 214 with
 | true => rw [hg] at h; cases h; cases Nat.eq_of_beq_eq_true hg; exact dLc G
 | false => rw [hg] at h; cases h
theorem xP (n : Nat) (G : Gd) (f : FuncId) : jQ Tryz.prog G f (fO CF1 n f) := bPq (C := CF1) Try_ok oZ dRn dRl n G f
end Go.Dd

namespace Go.Dd
open Go.RowKit (Below)
theorem HR.later {G : Gd} {ρ : cM} {h : Hp} {w w' : World} (H : HR G ρ h w) (e : Below w.heap.size w w') : HR G ρ h w' where
 gl := fun k hk => (e.block k (Nat.lt_of_lt_of_le hk H.sz.1)).trans (H.gl k hk)
 sz := ⟨Nat.le_trans H.sz.1 e.size, fun k hk => Nat.lt_of_lt_of_le (H.sz.2 k hk) e.size⟩
 nx := H.nx
 ro := H.ro
 dom := H.dom
 lt := H.lt
 cell := fun b k l L i v h1 h2 h3 h4 => by
  obtain ⟨v', h5, h6⟩ := H.cell b k l L i v h1 h2 h3 h4
  exact ⟨v', by rw [e.cell (dS h5)]; exact h5, h6⟩
 spare := fun b l L es j h1 h2 h3 => by
  obtain ⟨v', h5⟩ := H.spare b l L es j h1 h2 h3
  exact ⟨v', by rw [e.cell (dS h5)]; exact h5⟩
 free := fun b a h1 h2 => by
  obtain ⟨v, hv⟩ := H.lt_cell h1
  rw [e.frozen (dS hv)]
  exact H.free b a h1 h2
 inj := H.inj
 ex := H.ex
 grone := H.grone
 itr := fun b o L h1 h2 h3 => by
  obtain ⟨a, b, x, c, d⟩ := H.itr b o L h1 h2 h3
  refine ⟨a, b, x, ?_, d⟩
  rw [e.block _ (Array.getElem?_eq_some_iff.1 c).1]
  exact c
 itj := H.itj
theorem Kp.later {G : Gd} {ρ : cM} {h : Hp} {w w' : World} (H : HR G ρ h w) (e : Below w.heap.size w w') : Kp G w w' :=
 ⟨e.mono H.sz.1, fun k hk => e.block k (H.sz.2 k hk)⟩
def kX (ρ ρ2 : cM) : cM := fun b => match ρ b with
 | some L => some L
 | none => ρ2 b
section
variable {G G2 : Gd} {ρ ρ2 : cM} {h g : Hp} {w w' : World} {J : Tr Ob}
theorem HR.join (H : HR G ρ h w) (hb : Below w.heap.size w w') (H2 : HR G2 ρ2 g w') (hG2 : G2.B = w.heap.size) (low : ∀ b L, ρ2 b = some L → h.next.toNat ≤ b.toNat)
  (hk : ∀ b o, g.bl.get b = some o → o.sg = true ∨ ∃ l, o = .row .ex l) (hn : h.next.toNat ≤ g.next.toNat)
  (hJ : ∀ b, J.get b = match h.bl.get b with
   | some o => some o
   | none => g.bl.get b) : HR G (kX ρ ρ2) ⟨g.next, J⟩ w' ∧ Ex G ρ (kX ρ ρ2) ∧ Ext ρ2 (kX ρ ρ2) := by
 have H' := H.later hb
 have e1 : Ext ρ (kX ρ ρ2) := fun b L hL => by unfold kX; rw [hL]
 have no : ∀ b, h.next.toNat ≤ b.toNat → ρ b = none := fun b hb => by
  cases e : ρ b with
  | none => rfl
  | some L => have := H.lt b L e; omega
 have e2 : Ext ρ2 (kX ρ ρ2) := fun b L hL => by unfold kX; rw [no b (low b L hL)]; exact hL
 have two : ∀ b o, J.get b = some o → (h.bl.get b = some o ∧ ∃ L, ρ b = some L ∧ kX ρ ρ2 b = some L) ∨ (g.bl.get b = some o ∧ ∃ L, ρ2 b = some L ∧ kX ρ ρ2 b = some L) := fun b o ho => by
  rw [hJ] at ho
  cases hh : h.bl.get b with
  | some o' =>
   rw [hh] at ho
   cases ho
   obtain ⟨L, hL⟩ := H.dom b _ hh
   exact .inl ⟨rfl, L, hL, e1 _ _ hL⟩
  | none =>
   rw [hh] at ho
   obtain ⟨L, hL⟩ := H2.dom b o ho
   exact .inr ⟨ho, L, hL, e2 _ _ hL⟩
 have cl : ∀ {b a}, Claims (kX ρ ρ2) ⟨g.next, J⟩ b a → (Claims ρ h b a ∧ ∀ l, J.get b = some (.row .ro l) → h.bl.get b = some (.row .ro l)) ∨ (Claims ρ2 g b a ∧ ¬ isRo g b ∧ ∀ l, J.get b ≠ some (.row .ro l)) := by
  rintro b a ⟨k, l, L, q1, q2, q3⟩
  change J.get b = some (.row k l) at q1
  rcases two b _ q1 with ⟨c1, L', c2, c3⟩ | ⟨c1, L', c2, c3⟩
  ·have c3' := c3.symm.trans q2
   cases c3'
   exact .inl ⟨⟨k, l, L, c1, c2, q3⟩, fun l' hl' => by rw [q1] at hl'; rw [c1]; exact hl'⟩
  ·have c3' := c3.symm.trans q2
   cases c3'
   refine .inr ⟨⟨k, l, L, c1, c2, q3⟩, ?_, ?_⟩
   ·rintro ⟨l', hl'⟩
    rw [c1] at hl'
    cases hl'
    rcases hk b _ c1 with hs | ⟨_, hs⟩ <;> cases hs
   ·intro l' hl'
    rw [q1] at hl'
    cases hl'
    rcases hk b _ c1 with hs | ⟨_, hs⟩ <;> cases hs
 have old : ∀ {b a}, Claims ρ h b a → a.block < w.heap.size := fun hc => by
  obtain ⟨v, hv⟩ := H.lt_cell hc
  exact dS hv
 have own2 : ∀ {k}, Own G2 k → Own G k ∧ w.heap.size ≤ k := fun {k} ho => by
  have h1 := ho.1
  rw [hG2] at h1
  exact ⟨⟨Nat.le_trans H.sz.1 h1, fun hX => by have := H.sz.2 k hX; omega⟩, h1⟩
 refine ⟨⟨H'.gl, H'.sz, Nat.le_trans H.nx hn, ?_, ?_, ?_, ?_, ?_, ?_, ?_, ?_, ?_, ?_, ?_⟩, ⟨e1, fun b L hL => ?_⟩, e2⟩
 ·rintro b a hc ⟨l, hl⟩
  rcases cl hc with ⟨c, hr⟩ | ⟨_, _, hr⟩
  ·exact H'.ro b a c ⟨l, hr l hl⟩
  ·exact absurd hl (hr l)
 ·intro b o ho
  rcases two b o ho with ⟨_, L, _, c⟩ | ⟨_, L, _, c⟩
  ·exact ⟨L, c⟩
  ·exact ⟨L, c⟩
 ·intro b L hL
  unfold kX at hL
  cases e : ρ b with
  | some L' => have := H.lt b L' e; show b.toNat < g.next.toNat; omega
  | none => rw [e] at hL; exact H2.lt b L hL
 ·intro b k l L i v ho hL hi hv
  rcases two b _ ho with ⟨c1, L', c2, c3⟩ | ⟨c1, L', c2, c3⟩
  ·have c3' := c3.symm.trans hL
   cases c3'
   obtain ⟨v', q1, q2⟩ := H'.cell b k l L i v c1 c2 hi hv
   exact ⟨v', q1, q2.mono e1⟩
  ·have c3' := c3.symm.trans hL
   cases c3'
   obtain ⟨v', q1, q2⟩ := H2.cell b k l L i v c1 c2 hi hv
   exact ⟨v', q1, q2.mono e2⟩
 ·intro b l L es j ho hL hj
  rcases two b _ ho with ⟨c1, L', c2, c3⟩ | ⟨c1, L', c2, c3⟩
  ·have c3' := c3.symm.trans hL
   cases c3'
   exact H'.spare b l L es j c1 c2 hj
  ·have c3' := c3.symm.trans hL
   cases c3'
   exact H2.spare b l L es j c1 c2 hj
 ·intro b a hc hr
  rcases cl hc with ⟨c, hro⟩ | ⟨c, hnr, _⟩
  ·refine H'.free b a c fun ⟨l, hl⟩ => hr ⟨l, ?_⟩
   show J.get b = _
   rw [hJ, hl]
  ·obtain ⟨q1, q2⟩ := H2.free b a c hnr
   exact ⟨q1, (own2 q2).1⟩
 ·intro b b' a hc hc' hr
  rcases cl hc with ⟨c, _⟩ | ⟨c, hnr, _⟩
  ·rcases cl hc' with ⟨c', _⟩ | ⟨c', hnr', _⟩
   ·refine H'.inj b b' a c c' fun ⟨l, hl⟩ => hr ⟨l, ?_⟩
    show J.get b = _
    rw [hJ, hl]
   ·have h1 := old c
    have h2 := (own2 (H2.free b' a c' hnr').2).2
    omega
  ·rcases cl hc' with ⟨c', _⟩ | ⟨c', hnr', _⟩
   ·have h1 := old c'
    have h2 := (own2 (H2.free b a c hnr).2).2
    omega
   ·exact H2.inj b b' a c c' hnr
 ·intro b l L ho hL
  have key : ∀ o, J.get b = some o → (o = .row .ro l ∨ o = .row .ex l) → L.sp = 0 := fun o ho' hor => by
   rcases two b o ho' with ⟨c1, L', c2, c3⟩ | ⟨c1, L', c2, c3⟩
   ·have c3' := c3.symm.trans hL
    cases c3'
    rcases hor with rfl | rfl
    ·exact H'.ex b l L (.inl c1) c2
    ·exact H'.ex b l L (.inr c1) c2
   ·have c3' := c3.symm.trans hL
    cases c3'
    rcases hor with rfl | rfl
    ·exact H2.ex b l L (.inl c1) c2
    ·exact H2.ex b l L (.inr c1) c2
  rcases ho with ho | ho
  ·exact key _ ho (.inl rfl)
  ·exact key _ ho (.inr rfl)
 ·intro b es l i v ho hi
  rcases two b _ ho with ⟨c1, _⟩ | ⟨c1, _⟩
  ·exact H'.grone b es l i v c1 hi
  ·exact H2.grone b es l i v c1 hi
 ·intro b o L h0 ho hL
  rcases two b o ho with ⟨c1, L', c2, c3⟩ | ⟨c1, L', c2, c3⟩
  ·have c3' := c3.symm.trans hL
   cases c3'
   obtain ⟨q1, q2, x, q3, q4⟩ := H'.itr b o L h0 c1 c2
   exact ⟨q1, q2, x, q3, q4.mono e1⟩
  ·have c3' := c3.symm.trans hL
   cases c3'
   obtain ⟨q1, q2, x, q3, q4⟩ := H2.itr b o L h0 c1 c2
   exact ⟨(own2 q1).1, q2, x, q3, q4.mono e2⟩
 ·intro b o b' o' L L' h0 h0' ho ho' hL hL' he
  have lo : ∀ {b o L}, o.sg = true → h.bl.get b = some o → ρ b = some L → L.bl < w.heap.size := fun {b o L} s1 s2 s3 => by
   obtain ⟨_, _, x, q, _⟩ := H.itr b o L s1 s2 s3
   exact (Array.getElem?_eq_some_iff.1 q).1
  rcases two b o ho with ⟨c1, K, c2, c3⟩ | ⟨c1, K, c2, c3⟩ <;> (have c3' := c3.symm.trans hL; cases c3') <;>
   rcases two b' o' ho' with ⟨d1, K', d2, d3⟩ | ⟨d1, K', d2, d3⟩ <;> (have d3' := d3.symm.trans hL'; cases d3')
  ·exact H'.itj b o b' o' L L' h0 h0' c1 d1 c2 d2 he
  ·have q1 := lo h0 c1 c2
   have q2 := (own2 (H2.itr b' o' L' h0' d1 d2).1).2
   omega
  ·have q1 := lo h0' d1 d2
   have q2 := (own2 (H2.itr b o L h0 c1 c2).1).2
   omega
  ·exact H2.itj b o b' o' L L' h0 h0' c1 d1 c2 d2 he
 ·unfold kX at hL
  cases e : ρ b with
  | some L' => rw [e] at hL; exact .inl hL
  | none =>
   rw [e] at hL
   exact .inr (Nat.le_trans H.nx (low b L hL))
end
end Go.Dd

namespace Go.Dd
open Go.Proofs Go.RowKit
def gdS (w : World) (N : Nat) : Gd := ⟨w.heap.size, fun _ => False, N, w.heap, fun _ _ => trivial⟩
theorem HR.empty (w : World) (N : Nat) (p : Pos) (hN : N ≤ p.toNat) : HR (gdS w N) (fun _ => none) ⟨p, .e⟩ w := by
 constructor
 ·exact fun _ _ => rfl
 ·exact ⟨Nat.le_refl _, fun _ h => h.elim⟩
 ·exact hN
 ·rintro b a ⟨k, l, L, _, h2, _⟩; cases h2
 ·intro b o h; cases b <;> cases h
 ·intro b L h; cases h
 ·intro b k l L i v h h2; cases h2
 ·intro b l L es j h h2; cases h2
 ·rintro b a ⟨k, l, L, _, h2, _⟩; cases h2
 ·rintro b b' a ⟨k, l, L, _, h2, _⟩; cases h2
 ·intro b l L h h2; cases h2
 ·intro b es l i v h; cases b <;> cases h
 ·intro b s pos L h h2; cases h2
 ·intro b s pos b' s' pos' L L' h h' h2; cases h2
theorem aPl {f : FuncId} {args : List DV} {F : List DV → Hp → aK} {v : DV} {g1 : Hp} (hF : ∀ G, jQ Tryz.prog G f F) (hr : F args hS = some (v, g1)) (fn : Func) (hf : Tryz.prog.funcs[f]? = some fn) (hb : fn.body.isSome = true)
  (w : World) (args' : Array Value) (hargs : VRs (fun _ => none) args args'.toList) :
  Calls Tryz.prog f args' w fun e w' => ∃ ρ' v', e = .returned v' ∧ VR ρ' v v' ∧ HR (gdS w 1024) ρ' g1 w' ∧ Below w.heap.size w w' ∧ ∀ b L, ρ' b = some L → 1024 ≤ b.toNat := by
 have hp : (bC 1).toNat = 1024 := by kernel_rfl
 have H : HR (gdS w 1024) (fun _ => none) hS w := HR.empty w 1024 (bC 1) (by rw [hp]; exact Nat.le_refl _)
 rcases hF (gdS w 1024) args hS v g1 hr _ w args' H hargs with ⟨_, h⟩ | ⟨ρ', w', v', h, _⟩
 ·refine h.mono ?_
  rintro e w' ⟨ρ', v', h1, h2, h3, h4, h5⟩
  exact ⟨ρ', v', h1, h3, h4, h5.low, fun b L hL => (h2.new b L hL).resolve_left (fun e => by cases e)⟩
 ·exfalso
  have hn : ¬ fn.name = "runtime.NumGoroutine" := by simpa using Try_ok.names f fn hf
  have hbn : fn.body ≠ none := by intro e; rw [e] at hb; cases hb
  unfold callFunc at h
  simp [hf, hn, hbn] at h
theorem aRq {f : FuncId} {fn : Func} (hf : Tryz.prog.funcs[f]? = some fn) (hb : fn.body.isSome = true) (args : Array Value) (w : World) : (callFunc f args).run Tryz.prog w = .ok (.enter f args) w := by
 have hn : ¬ fn.name = "runtime.NumGoroutine" := by simpa using Try_ok.names f fn hf
 have hbn : fn.body ≠ none := by intro e; rw [e] at hb; cases hb
 unfold callFunc
 simp [hf, hn, hbn]
theorem bKs {f : FuncId} {F : List DV → Hp → aK} {r : Bool} {h1 : Hp} (hF : ∀ G, jQ Tryz.prog G f F) (hr : F [] hS = some (.b r, h1)) (fn : Func) (hf : Tryz.prog.funcs[f]? = some fn) (hb : fn.body.isSome = true) (G : Gd) :
  jQ Tryz.prog G f (fun args h => match args with
   | [] => some (.b r, h)
   | _ => none) := by
 intro args h v h2 he ρ w args' H hargs
 cases args with
 | cons _ _ => cases he
 | nil =>
  simp only [bG, bR] at he
  obtain ⟨rfl, rfl⟩ := he
  have e0 : args' = #[] := by
   obtain ⟨a⟩ := args'
   cases hargs
   rfl
  subst e0
  refine .inl ⟨aRq hf hb _ _, ?_⟩
  refine (aPl hF hr fn hf hb w #[] .nil).mono ?_
  rintro e w' ⟨ρ', v', rfl, hv, _, hbel, _⟩
  cases hv
  exact ⟨ρ, _, rfl, Ex.refl _ _, .b _, H.later hbel, Kp.later H hbel⟩
theorem Sim.tf {a b c : Hp} (h : Sim true a b) (k : Sim false b c) : Sim false a c := ⟨k.next.trans h.next, fun p o hp => by
 obtain ⟨o', h1, h2⟩ := h.get p o hp
 rw [jZ h2] at h1
 exact k.get p o h1⟩
theorem aBc (o : Ob) : uS true o o := by cases o <;> simp [uS]
theorem ePu : Sim false hS hS := ⟨rfl, fun b o hb => by cases b <;> cases hb⟩
theorem aMz (g : FuncId) (F : List DV → Hp → aK) (hg : CF.I g = some F) (n : Nat) (args : List DV) : SimP false (F args) (bO CF1 (fO CF1 (n + 12)) g args) := by
 change (bif Nat.beq g 229 then some lW else bif Nat.beq g 214 then some lB else aBf g) = some F at hg
 have hcall : bO CF1 (fO CF1 (n + 12)) g args = fun h => match (bif Nat.beq g 229 then some lW else bif Nat.beq g 214 then some lB else none : Option (List DV → Hp → aK)) with
  | some F => F args h
  | none => fO CF1 (n + 12) g args h := rfl
 rw [hcall]
 cases h1 : Nat.beq g 229 with
 | true => rw [h1] at hg; cases hg; exact aIt args
 | false =>
  cases h2 : Nat.beq g 214 with
  | true => rw [h1, h2] at hg; cases hg; exact aMn args
  | false =>
   rw [h1, h2] at hg
   exact aRa g F hg n args
theorem pY {g : FuncId} (hg : CF.I g = none) : CF1.I g = none := by
 show (bif Nat.beq g 229 then some lW else bif Nat.beq g 214 then some lB else none) = none
 change (bif Nat.beq g 229 then some lW else bif Nat.beq g 214 then some lB else aBf g) = none at hg
 cases h1 : Nat.beq g 229 with
 | true => rw [h1] at hg; cases hg
 | false =>
  cases h2 : Nat.beq g 214 with
  | true => rw [h1, h2] at hg; cases hg
  | false => rfl
theorem aZx : ∃ g', fO CF1 912 7 [.i .i64 (.ofNat 20000)] hS = some (.t [.p (bC 7) 0, .i .i64 (.ofNat 0)], g') ∧ Sim false hN g' := by
 obtain ⟨g, h1, h2⟩ := dSy
 rw [oW] at h1
 obtain ⟨g', h3, h4⟩ := yD 900 7 [.i .i64 (.ofNat 20000)] hS hS ePu _ _ h1
 exact ⟨g', h3, h2.tf h4⟩
section known
variable {g1 : Hp} {HL : List (Pos × Ob)} {nx0 : Nat}
noncomputable def exL (g1 : Hp) (l : List (Pos × Ob)) : List (Pos × Ob) := l.map fun x => (x.1, (g1.bl.get x.1).getD x.2)
theorem aQw (l : List (Pos × Ob)) (t : Tr Ob) (b : Pos) : (hZ l t).get b = match (hZ l .e).get b with
  | some o => some o
  | none => t.get b := by
 induction l with
 | nil => rw [show hZ [] t = t from rfl, show hZ [] .e = .e from rfl, Tr.get_e]
 | cons x l ih =>
  show (Tr.set x.2 x.1 (hZ l t)).get b = match (Tr.set x.2 x.1 (hZ l .e)).get b with
   | some o => some o
   | none => t.get b
  by_cases e : b = x.1
  ·rw [e, eOx, eOx]
  ·rw [eOw _ _ _ _ e, eOw _ _ _ _ e]
   exact ih
theorem bRa (l : List (Pos × Ob)) (b : Pos) (o : Ob) (h : (hZ l .e).get b = some o) : (b, o) ∈ l := by
 induction l with
 | nil => rw [show hZ [] .e = .e from rfl, Tr.get_e] at h; cases h
 | cons x l ih =>
  change (Tr.set x.2 x.1 (hZ l .e)).get b = some o at h
  by_cases e : b = x.1
  ·rw [e, eOx] at h
   cases h
   rw [e]
   exact List.mem_cons_self
  ·rw [eOw _ _ _ _ e] at h
   exact List.mem_cons_of_mem _ (ih h)
theorem nE (g1 : Hp) (l : List (Pos × Ob)) (b : Pos) : (hZ (exL g1 l) .e).get b = ((hZ l .e).get b).map fun o => (g1.bl.get b).getD o := by
 induction l with
 | nil => rw [show exL g1 [] = [] from rfl, show hZ [] .e = .e from rfl, Tr.get_e]; rfl
 | cons x l ih =>
  show (Tr.set ((g1.bl.get x.1).getD x.2) x.1 (hZ (exL g1 l) .e)).get b = ((Tr.set x.2 x.1 (hZ l .e)).get b).map _
  by_cases e : b = x.1
  ·rw [e, eOx, eOx]
   rfl
  ·rw [eOw _ _ _ _ e, eOw _ _ _ _ e]
   exact ih
theorem aOv (S : Sim false (dP nx0 HL) g1) {b : Pos} {o : Ob} (h : (hZ HL .e).get b = some o) : ∃ o', g1.bl.get b = some o' ∧ uS false o o' ∧ (hZ (exL g1 HL) .e).get b = some o' := by
 obtain ⟨o', h1, h2⟩ := S.get b o h
 refine ⟨o', h1, h2, ?_⟩
 rw [nE, h, h1]
 rfl
noncomputable def aRr (o : Ob) : Bool := match o with
 | .row .ex _ => true
 | .mp _ => true
 | .big _ _ => true
 | .mi _ => true
 | _ => false
noncomputable def bMc (l : List (Pos × Ob)) : Bool := List.rec (motive := fun _ => Bool) true (fun x _ ih => aRr x.2 && ih) l
theorem aRn : ∀ {l : List (Pos × Ob)}, bMc l = true → ∀ x ∈ l, aRr x.2 = true
 | [], _, x, h => by cases h
 | y :: l, hl, x, h => by
  change (aRr y.2 && bMc l) = true at hl
  simp only [Bool.and_eq_true] at hl
  simp only [List.mem_cons] at h
  rcases h with rfl | h
  ·exact hl.1
  ·exact aRn hl.2 x h
theorem bLc {o o' : Ob} (hk : aRr o = true) (h : uS false o o') : o'.sg = true ∨ ∃ l, o' = .row .ex l := by
 unfold aRr at hk
 split at hk
 ·have : o' = _ := h
  exact .inr ⟨_, this⟩
 ·have : o' = _ := h
  rw [this]
  exact .inl rfl
 ·exact .inr ⟨_, h⟩
 ·obtain ⟨es, h1, _⟩ := h
  rw [h1]
  exact .inl rfl
 ·cases hk
noncomputable def oN (p : List DV → Bool) (v0 : DV) (nx0 : Nat) (HL : List (Pos × Ob)) (g1 : Hp) (args : List DV) (h : Hp) : aK :=
 bif p args && lU h.next (bC 1) then some (v0, ⟨bC nx0, hZ (exL g1 HL) h.bl⟩) else none
theorem sI (S1 : Sim false (dP nx0 HL) g1) (p : List DV → Bool) (v0 : DV) (args : List DV) : SimP false (yW p v0 nx0 HL args) (oN p v0 nx0 HL g1 args) := by
 intro h h' S
 unfold yW oN
 rw [S.next]
 cases (p args && lU h.next (bC 1)) with
 | false => exact SimR.none _
 | true =>
  intro v k e
  simp only [cond_true, bG, bR] at e
  obtain ⟨rfl, rfl⟩ := e
  refine ⟨⟨bC nx0, hZ (exL g1 HL) h'.bl⟩, rfl, rfl, fun b o ho => ?_⟩
  change (hZ HL h.bl).get b = some o at ho
  show ∃ o', (hZ (exL g1 HL) h'.bl).get b = some o' ∧ uS false o o'
  rw [aQw] at ho ⊢
  cases hb : (hZ HL .e).get b with
  | some o1 =>
   rw [hb] at ho
   cases ho
   obtain ⟨o', _, h2, h3⟩ := aOv S1 hb
   exact ⟨o', by rw [h3], h2⟩
  | none =>
   rw [hb] at ho
   rw [nE, hb]
   exact S.get b o ho
theorem yP {f : FuncId} {F : List DV → Hp → aK} (hF : ∀ G, jQ Tryz.prog G f F) {args0 : List DV} {v0 : DV} (hr0 : F args0 hS = some (v0, g1)) (S1 : Sim false (dP nx0 HL) g1) (hk : bMc HL = true) (hnx0 : 1024 ≤ (bC nx0).toNat)
  (fn : Func) (hf : Tryz.prog.funcs[f]? = some fn) (hb : fn.body.isSome = true) {p : List DV → Bool} (hp : ∀ args, p args = true → args = args0) (h0 : ∀ ρ l, VRs ρ args0 l → VRs (fun _ => none) args0 l) (G : Gd) : jQ Tryz.prog G f (oN p v0 nx0 HL g1) := by
 intro args h v h1 hr ρ w args' H hargs
 unfold oN at hr
 cases hc : (p args && lU h.next (bC 1)) with
 | false => rw [hc] at hr; cases hr
 | true =>
  rw [hc] at hr
  simp only [cond_true, bG, bR] at hr
  obtain ⟨rfl, rfl⟩ := hr
  simp only [Bool.and_eq_true] at hc
  have ha := hp _ hc.1
  subst ha
  have hnx := kC _ _ hc.2
  have hp1 : (bC 1).toNat = 1024 := by kernel_rfl
  refine .inl ⟨aRq hf hb _ _, ?_⟩
  refine (aPl hF hr0 fn hf hb w args' (h0 _ _ hargs)).mono ?_
  rintro e w' ⟨ρ2, v', rfl, hv, H2, hbel, hlow⟩
  have S2 : Sim true ⟨g1.next, hZ (exL g1 HL) .e⟩ g1 := ⟨rfl, fun b o ho => by
   change (hZ (exL g1 HL) .e).get b = some o at ho
   rw [nE] at ho
   cases hb : (hZ HL .e).get b with
   | none => rw [hb] at ho; cases ho
   | some o1 =>
    obtain ⟨o', q1, _, q3⟩ := aOv S1 hb
    rw [nE] at q3
    rw [q3] at ho
    cases ho
    exact ⟨_, q1, aBc _⟩⟩
  have hgn : g1.next = bC nx0 := S1.next
  have H3 := HR.sub S2 H2
  obtain ⟨j1, j2, j3⟩ := H.join (J := hZ (exL g1 HL) h.bl) hbel H3 rfl (fun b L hL => by rw [hnx, hp1]; exact hlow b L hL) (fun b o ho => by
    change (hZ (exL g1 HL) .e).get b = some o at ho
    rw [nE] at ho
    cases hb : (hZ HL .e).get b with
    | none => rw [hb] at ho; cases ho
    | some o1 =>
     obtain ⟨o', q1, q2, q3⟩ := aOv S1 hb
     rw [nE] at q3
     rw [q3] at ho
     cases ho
     exact bLc (aRn hk _ (bRa _ _ _ hb)) q2) (by
    show h.next.toNat ≤ g1.next.toNat
    rw [hnx, hgn, hp1]
    exact hnx0) (fun b => by
    rw [aQw]
    cases hb : (hZ (exL g1 HL) .e).get b with
    | none => cases h.bl.get b <;> rfl
    | some o =>
     cases hh : h.bl.get b with
     | none => rfl
     | some o1 =>
      exfalso
      obtain ⟨L, hL⟩ := H.dom b o1 hh
      have q1 := H.lt b L hL
      obtain ⟨L2, hL2⟩ := H3.dom b o hb
      have q2 := hlow b L2 hL2
      rw [hnx, hp1] at q1
      omega)
  rw [hgn] at j1
  exact ⟨kX ρ ρ2, v', rfl, j2, hv.mono j3, j1, Kp.later H hbel⟩
end known
noncomputable def gN1 : Hp := Classical.choose aZx
theorem cYz : fO CF1 912 7 [.i .i64 (.ofNat 20000)] hS = some (.t [.p (bC 7) 0, .i .i64 (.ofNat 0)], gN1) := (Classical.choose_spec aZx).1
theorem bIq : Sim false hN gN1 := (Classical.choose_spec aZx).2
theorem bKt : bMc HLN = true := by kernel_rfl
noncomputable def cJn : List DV → Hp → aK := oN bCb (.t [.p (bC 7) 0, .i .i64 (.ofNat 0)]) 26855 HLN gN1
theorem bWv (args : List DV) : SimP false (dIe args) (cJn args) := sI bIq _ _ _
theorem cMd (args : List DV) (h : bCb args = true) : args = [.i .i64 (.ofNat 20000)] := by
 unfold bCb at h
 split at h
 ·rw [Nat.eq_of_beq_eq_true h]
 ·cases h
theorem bCo {k : IntKind} {n : Int} (ρ : cM) (l : List Value) (h : VRs ρ [.i k n] l) : VRs (fun _ => none) [.i k n] l := by
 cases h with
 | cons _ _ _ _ q1 q2 =>
  cases q1
  cases q2
  exact .cons _ _ _ _ (.i _ _) .nil
theorem bTf (G : Gd) : jQ Tryz.prog G 7 cJn :=
 yP (fun G => xP 912 G 7) cYz bIq bKt (by rw [show (bC 26855).toNat = 27878 from by kernel_rfl]; decide) Tryz.f7 Tryz.func7 (by kernel_rfl) cMd bCo G
noncomputable def sR : RT := fun g => bif Nat.beq g 7 then cJn else fO CF1 912 g
theorem bTt : OkC CF1 sR := by
 refine ⟨oZ, fun G g => ?_⟩
 unfold sR
 cases hg : Nat.beq g 7 with
 | true => cases Nat.eq_of_beq_eq_true hg; exact bTf G
 | false => exact xP 912 G g
theorem dEh (n : Nat) (g : FuncId) (args : List DV) (h : Hp) : aRz n g args h = bif Nat.beq g 7 then dIe args h else jW n g args h := rfl
theorem cYi (g : FuncId) (args : List DV) : SimP false (aRz 900 g args) (sR g args) := by
 intro h h' S
 rw [dEh]
 unfold sR
 cases hg : Nat.beq g 7 with
 | false =>
  rw [cond_false, cond_false, oW]
  exact yD 900 g args h h' S
 | true => exact bWv args h h' S
theorem HCN (g : FuncId) (args : List DV) : SimP false (bO CF (aRz 900) g args) (bO CF1 sR g args) := by
 cases hg : CF.I g with
 | none => rw [gU hg, gU (pY hg)]; exact cYi g args
 | some F =>
  have e : bO CF (aRz 900) g args = F args := by funext k; unfold bO; rw [hg]
  rw [e]
  have e1 : bO CF1 sR g args = bO CF1 (fO CF1 912) g args := by
   cases h10 : Nat.beq g 7 with
   | true =>
    cases Nat.eq_of_beq_eq_true h10
    exact absurd hg (by show ¬ CF.I 7 = some F; exact fun e => by cases e)
   | false =>
    funext k
    unfold bO sR
    rw [h10]
    rfl
  rw [e1]
  exact aMz g F hg 900 args
structure Ro (w : World) (ρ : cM) (h : Hp) : Prop where
 dom : ∀ b o, h.bl.get b = some o → ∃ L, ρ b = some L
 lt : ∀ b L, ρ b = some L → b.toNat < h.next.toNat
 row : ∀ b o, h.bl.get b = some o → ∃ l, o = .row .ro l
 cell : ∀ b l L i v, h.bl.get b = some (.row .ro l) → ρ b = some L → l[i]? = some v → ∃ v', w.cell? (fR L i) = some v' ∧ VR ρ v v'
 sp : ∀ b o L, h.bl.get b = some o → ρ b = some L → L.sp = 0
theorem Ro.isRo {w : World} {ρ : cM} {h : Hp} (R : Ro w ρ h) {b : Pos} {a : Addr} (c : Claims ρ h b a) : isRo h b := by
 obtain ⟨k, l, L, h1, h2, _⟩ := c
 obtain ⟨l', e⟩ := R.row b _ h1
 exact ⟨l', by rw [h1, e]⟩
theorem Ro.hr {w : World} {ρ : cM} {h : Hp} (R : Ro w ρ h) : HR (gdS w 0) ρ h w where
 gl := fun _ _ => rfl
 sz := ⟨Nat.le_refl _, fun _ hh => hh.elim⟩
 nx := Nat.zero_le _
 ro := fun b a c _ => by
  obtain ⟨k, l, L, h1, h2, h3⟩ := c
  obtain ⟨l', e⟩ := R.row b _ h1
  cases e
  rcases h3 with ⟨i, v, h4, h5, rfl⟩ | ⟨es, j, h4, _⟩
  ·obtain ⟨v', h6, _⟩ := R.cell b _ L i v h1 h2 h4
   exact dS h6
  ·cases h4
 dom := R.dom
 lt := R.lt
 cell := fun b k l L i v h1 h2 h3 h4 => by
  obtain ⟨l', e⟩ := R.row b _ h1
  cases e
  exact R.cell b _ L i v h1 h2 h3
 spare := fun b l L es j h1 => by
  obtain ⟨l', e⟩ := R.row b _ h1
  cases e
 free := fun b a c hn => absurd (R.isRo c) hn
 inj := fun b b' a c c' hn => absurd (R.isRo c) hn
 ex := fun b l L h1 h2 => by
  rcases h1 with h1 | h1
  ·exact R.sp b _ L h1 h2
  ·exact R.sp b _ L h1 h2
 grone := fun b es l i v h1 => by
  obtain ⟨l', e⟩ := R.row b _ h1
  cases e
 itr := fun b o L hs h1 _ => by
  obtain ⟨l', rfl⟩ := R.row b _ h1
  cases hs
 itj := fun b o b' o' L L' hs hs' h1 _ _ _ _ => by
  obtain ⟨l', rfl⟩ := R.row b _ h1
  cases hs
theorem Ro.none (w : World) (p : Pos) : Ro w (fun _ => none) ⟨p, .e⟩ where
 dom := fun b o h => by cases b <;> cases h
 lt := fun b L h => by cases h
 row := fun b o h => by cases b <;> cases h
 cell := fun b l L i v h => by cases b <;> cases h
 sp := fun b o L h => by cases b <;> cases h
theorem Ro.sim {w : World} {ρ : cM} {h : Hp} (R : Ro w ρ h) : Sim false h h := ⟨rfl, fun b o e => by
 obtain ⟨l, rfl⟩ := R.row b o e
 exact ⟨_, e, rfl⟩⟩
end Go.Dd

namespace Go.Dd
open Go.Proofs Go.RowKit
theorem aCw : ∃ g', fO CF1 912 7 [.i .i64 (.ofNat 40000)] hS = some (.t [.p (bC 7) 0, .i .i64 (.ofNat 0)], g') ∧ Sim false hNF g' := by
 obtain ⟨g, h1, h2⟩ := cTl
 rw [oW] at h1
 obtain ⟨g', h3, h4⟩ := yD 900 7 [.i .i64 (.ofNat 40000)] hS hS ePu _ _ h1
 exact ⟨g', h3, h2.tf h4⟩
noncomputable def gF1 : Hp := Classical.choose aCw
theorem cYr : fO CF1 912 7 [.i .i64 (.ofNat 40000)] hS = some (.t [.p (bC 7) 0, .i .i64 (.ofNat 0)], gF1) := (Classical.choose_spec aCw).1
theorem bGy : Sim false hNF gF1 := (Classical.choose_spec aCw).2
theorem bNr : bMc HLF = true := by kernel_rfl
noncomputable def bWt : List DV → Hp → aK := oN bHx (.t [.p (bC 7) 0, .i .i64 (.ofNat 0)]) 26855 HLF gF1
theorem bMr (args : List DV) : SimP false (cAs args) (bWt args) := sI bGy _ _ _
theorem bUb (args : List DV) (h : bHx args = true) : args = [.i .i64 (.ofNat 40000)] := by
 unfold bHx at h
 split at h
 ·rw [Nat.eq_of_beq_eq_true h]
 ·cases h
theorem cGo (G : Gd) : jQ Tryz.prog G 7 bWt :=
 yP (fun G => xP 912 G 7) cYr bGy bNr (by rw [show (bC 26855).toNat = 27878 from by kernel_rfl]; decide) Tryz.f7 Tryz.func7 (by kernel_rfl) bUb bCo G
noncomputable def aBy (n : Nat) : RT := fun g args h => bif Nat.beq g 7 then cAs args h else jW n g args h
noncomputable def lL : RT := fun g => bif Nat.beq g 7 then bWt else fO CF1 912 g
theorem bLk : OkC CF1 lL := by
 refine ⟨oZ, fun G g => ?_⟩
 unfold lL
 cases hg : Nat.beq g 7 with
 | true => cases Nat.eq_of_beq_eq_true hg; exact cGo G
 | false => exact xP 912 G g
theorem bPm (n : Nat) (g : FuncId) (args : List DV) (h : Hp) : aBy n g args h = bif Nat.beq g 7 then cAs args h else jW n g args h := rfl
theorem bMh (g : FuncId) (args : List DV) : SimP false (aBy 900 g args) (lL g args) := by
 intro h h' S
 rw [bPm]
 unfold lL
 cases hg : Nat.beq g 7 with
 | false =>
  rw [cond_false, cond_false, oW]
  exact yD 900 g args h h' S
 | true => exact bMr args h h' S
theorem eLm (g : FuncId) (args : List DV) : SimP false (bO CF (aBy 900) g args) (bO CF1 lL g args) := by
 cases hg : CF.I g with
 | none => rw [gU hg, gU (pY hg)]; exact bMh g args
 | some F =>
  have e : bO CF (aBy 900) g args = F args := by funext k; unfold bO; rw [hg]
  rw [e]
  have e1 : bO CF1 lL g args = bO CF1 (fO CF1 912) g args := by
   cases h10 : Nat.beq g 7 with
   | true =>
    cases Nat.eq_of_beq_eq_true h10
    exact absurd hg (by show ¬ CF.I 7 = some F; exact fun e => by cases e)
   | false =>
    funext k
    unfold bO lL
    rw [h10]
    rfl
  rw [e1]
  exact aMz g F hg 900 args
noncomputable def HLB : List (Pos × Ob) :=
 (bC 26857, .row .ex [.p (bC 7) 0, .p (bC 26855) 0, .p (bC 26856) 0, .l0]) :: (bC 26856, .row .ex [.l0, .l0]) :: (bC 26855, .row .ex [.p (bC 7) 0, .l0]) :: HLF
def nxB : Nat := 26858
noncomputable def hB : Hp := dP 26858 HLB
noncomputable def dOm (r : aK) (v : DV) (nx : Nat) (l : List (Pos × Ob)) : Bool := match r with
 | some (u, g) => dvE u v && (lU g.next (bC nx) && bFo g.bl l)
 | none => false
theorem dMf : dOm (s16 (aBy 900) 900 hS) (.p (bC 26857) 0) 26858 HLB = true := by kernel_rfl
noncomputable def cLm (args : List DV) : Bool := match args with
 | [] => true
 | _ => false
noncomputable def bSd : List DV → Hp → aK := yW cLm (.p (bC 26857) 0) nxB HLB
noncomputable def aVx (n : Nat) : RT := fun g args h => bif Nat.beq g 16 then bSd args h else jW n g args h
theorem cCj {r : aK} {v : DV} {nx : Nat} {l : List (Pos × Ob)} (h : dOm r v nx l = true) : ∃ g, r = some (v, g) ∧ Sim true (dP nx l) g := by
 unfold dOm at h
 split at h <;> (try (cases h; done))
 rename_i u g
 simp only [Bool.and_eq_true] at h
 refine ⟨g, by rw [aKl _ _ h.1], ?_, fun b o hb => ⟨o, ?_, jM o⟩⟩
 ·exact kC _ _ h.2.1
 ·exact yK _ _ h.2.2 (b, o) (wW _ _ _ hb)
theorem xV : ∃ g', aE CF1 lL 912 16 [] hS = some (.p (bC 26857) 0, g') ∧ Sim false hB g' := by
 obtain ⟨g, h1, h2⟩ := cCj dMf
 obtain ⟨g', h3, h4⟩ := mB (P := Tryz.prog) (I2 := CF.I) (I1 := CF1.I) eLm 900 12 16 [] hS hS ePu _ _ ((dHv (aBy 900) 900 [] hS).trans h1)
 exact ⟨g', h3, h2.tf h4⟩
noncomputable def gB1 : Hp := Classical.choose xV
theorem dDo : aE CF1 lL 912 16 [] hS = some (.p (bC 26857) 0, gB1) := (Classical.choose_spec xV).1
theorem bDz : Sim false hB gB1 := (Classical.choose_spec xV).2
theorem bKw : bMc HLB = true := by kernel_rfl
noncomputable def bHl : List DV → Hp → aK := oN cLm (.p (bC 26857) 0) nxB HLB gB1
theorem bVt (args : List DV) (h : cLm args = true) : args = [] := by
 cases args with
 | nil => rfl
 | cons _ _ => cases h
theorem aSp (G : Gd) : jQ Tryz.prog G 16 bHl :=
 yP (fun G => qE bLk Try_ok 912 16) dDo bDz bKw (by rw [show (bC 26858).toNat = 27881 from by kernel_rfl]; decide) Tryz.f16 Tryz.func16 (by kernel_rfl) bVt (fun ρ l h => by cases h; exact .nil) G
noncomputable def nN : RT := fun g => bif Nat.beq g 16 then bHl else fO CF1 912 g
theorem recB1_ok : OkC CF1 nN := by
 refine ⟨oZ, fun G g => ?_⟩
 unfold nN
 cases hg : Nat.beq g 16 with
 | true => cases Nat.eq_of_beq_eq_true hg; exact aSp G
 | false => exact xP 912 G g
theorem bHn (n : Nat) (g : FuncId) (args : List DV) (h : Hp) : aVx n g args h = bif Nat.beq g 16 then bSd args h else jW n g args h := rfl
theorem aQm (g : FuncId) (args : List DV) : SimP false (aVx 900 g args) (nN g args) := by
 intro h h' S
 rw [bHn]
 unfold nN
 cases hg : Nat.beq g 16 with
 | false =>
  rw [cond_false, cond_false, oW]
  exact yD 900 g args h h' S
 | true => exact sI bDz _ _ _ h h' S
theorem HCB (g : FuncId) (args : List DV) : SimP false (bO CF (aVx 900) g args) (bO CF1 nN g args) := by
 cases hg : CF.I g with
 | none => rw [gU hg, gU (pY hg)]; exact aQm g args
 | some F =>
  have e : bO CF (aVx 900) g args = F args := by funext k; unfold bO; rw [hg]
  rw [e]
  have e1 : bO CF1 nN g args = bO CF1 (fO CF1 912) g args := by
   cases h10 : Nat.beq g 16 with
   | true =>
    cases Nat.eq_of_beq_eq_true h10
    exact absurd hg (by show ¬ CF.I 16 = some F; exact fun e => by cases e)
   | false =>
    funext k
    unfold bO nN
    rw [h10]
    rfl
  rw [e1]
  exact aMz g F hg 900 args
theorem eNg : okB (s23 (aRz 900) 900 hS) = true := by kernel_rfl
theorem aZd : ∃ g, aE CF1 sR 912 23 [] hS = some (.b true, g) := by
 have hl := eNg
 cases hr : s23 (aRz 900) 900 hS with
 | none => rw [hr] at hl; cases hl
 | some p =>
  obtain ⟨v, k⟩ := p
  rw [hr] at hl
  cases v <;> (try (cases hl; done))
  rename_i b
  change b = true at hl
  subst hl
  obtain ⟨g, h1, h2⟩ := mB (P := Tryz.prog) (I2 := CF.I) (I1 := CF1.I) HCN 900 12 23 [] hS hS ePu _ _ ((dGs (aRz 900) 900 [] hS).trans hr)
  exact ⟨g, h1⟩
noncomputable def kJ : RT := fun g args h => bif Nat.beq g 23 then (match args with
 | [] => some (.b true, h)
 | _ => none) else aVx 900 g args h
noncomputable def aQp : RT := fun g => bif Nat.beq g 23 then (fun args h => match args with
 | [] => some (.b true, h)
 | _ => none) else nN g
theorem cLf : OkC CF1 aQp := by
 refine ⟨oZ, fun G g => ?_⟩
 unfold aQp
 cases hg : Nat.beq g 23 with
 | true =>
  cases Nat.eq_of_beq_eq_true hg
  obtain ⟨k, hk⟩ := aZd
  exact bKs (fun G => qE bTt Try_ok 912 23) hk Tryz.f23 Tryz.func23 (by kernel_rfl) G
 | false => exact recB1_ok.fns G g
theorem HCF (g : FuncId) (args : List DV) : SimP false (bO CF kJ g args) (bO CF1 aQp g args) := by
 cases hg : CF.I g with
 | none =>
  rw [gU hg, gU (pY hg)]
  intro h h' S
  show SimR false (bif Nat.beq g 23 then (match args with
   | [] => some (.b true, h)
   | _ => none) else aVx 900 g args h) ((bif Nat.beq g 23 then (fun args h => match args with
   | [] => some (.b true, h)
   | _ => none : List DV → Hp → aK) else nN g) args h')
  cases h16 : Nat.beq g 23 with
  | true =>
   rw [cond_true, cond_true]
   cases args with
   | nil => exact SimR.some S _
   | cons a l => exact SimR.none _
  | false => rw [cond_false, cond_false]; exact aQm g args h h' S
 | some F =>
  have e : bO CF kJ g args = F args := by funext k; unfold bO; rw [hg]
  have e0 : bO CF (aVx 900) g args = F args := by funext k; unfold bO; rw [hg]
  have e1 : bO CF1 aQp g args = bO CF1 nN g args := by
   cases h16 : Nat.beq g 23 with
   | true =>
    cases Nat.eq_of_beq_eq_true h16
    exact absurd hg (by show ¬ CF.I 23 = some F; exact fun e => by cases e)
   | false =>
    funext k
    unfold bO aQp
    rw [h16]
    rfl
  rw [e, e1, ← e0]
  exact HCB g args
theorem dFe {f : FuncId} {args : List DV} {h0 : Hp} {ρ : cM} (hr : ∃ k, aE CF kJ 900 f args h0 = some (.b true, k)) (fn : Func) (hf : Tryz.prog.funcs[f]? = some fn) (hb : fn.body.isSome = true)
  (w : World) (R : Ro w ρ h0) (args' : Array Value) (hargs : VRs ρ args args'.toList) :
  Calls Tryz.prog f args' w fun e w' => e = .returned (.bool true) ∧ Below w.heap.size w w' := by
 obtain ⟨k, hk⟩ := hr
 obtain ⟨g, h1, _⟩ := mB (P := Tryz.prog) (I2 := CF.I) (I1 := CF1.I) HCF 900 12 f args h0 h0 R.sim _ _ hk
 have H := R.hr
 rcases qE cLf Try_ok 912 f args h0 _ g h1 _ w args' H hargs with ⟨_, h⟩ | ⟨ρ', w', v', h, _⟩
 ·refine h.mono ?_
  rintro e w' ⟨ρ', v', rfl, h2, h3, h4, h5⟩
  cases h3
  exact ⟨rfl, h5.low⟩
 ·exfalso
  have hn : ¬ fn.name = "runtime.NumGoroutine" := by simpa using Try_ok.names f fn hf
  have hbn : fn.body ≠ none := by intro e; rw [e] at hb; cases hb
  unfold callFunc at h
  simp [show CF1.P.funcs[f]? = some fn from hf, hn, hbn] at h
theorem dFu {f : FuncId} {args : List DV} (hr : ∃ k, aE CF kJ 900 f args hS = some (.b true, k)) (fn : Func) (hf : Tryz.prog.funcs[f]? = some fn) (hb : fn.body.isSome = true)
  (w : World) (args' : Array Value) (hargs : VRs (fun _ => none) args args'.toList) :
  Calls Tryz.prog f args' w fun e w' => e = .returned (.bool true) ∧ Below w.heap.size w w' := dFe hr fn hf hb w (Ro.none w _) args' hargs
end Go.Dd

namespace Go.Dd
open Go.Proofs
section
end
end Go.Dd

namespace Go.Dd
open Go.Proofs
section
end
end Go.Dd

namespace Go.Dd
open Go.Proofs
end Go.Dd

namespace Go.Dd
open Go.Proofs
noncomputable def k19 (rec : FuncId → List DV → Hp → aK) (n : Nat) (v1 v2 v11 : DV) (h13 : Hp) : aK :=
 bnd (aA v1 h13) fun v14 h14 =>
 bnd (aO v14 h14) fun v15 h15 =>
 bnd (aB 1 v15 h15) fun v16 h16 =>
 bnd (aA v16 h16) fun v17 h17 =>
 bnd (bK v17 h17) fun v18 h18 =>
 bnd (aF .geq v18 (.i .i64 (Int.ofNat 60)) h18) fun v19 h19 =>
 aU v19 (
  some ((.i .i64 (Int.ofNat 22)), h19)) (
  bnd (aA v11 h19) fun v20 h20 =>
  bnd (eO .not v20 h20) fun v21 h21 =>
  aU v21 (
   some ((.i .i64 (Int.ofNat 1)), h21)) (
   bnd (aA v1 (resv 1 h21)) fun v22 h22 =>
   bnd (aA v1 h22) fun v23 h23 =>
   bnd (aO v23 h23) fun v24 h24 =>
   bnd (aB 1 v24 h24) fun v25 h25 =>
   bnd (aA v25 h25) fun v26 h26 =>
   bnd (aH 10 v2 h26) fun v27 h27 =>
   bnd (rec 49 [v27] h27) fun v28 h28 =>
   cnd (aW (aA v25 h28) v26 && (aW (aA v1 h28) v23 && (aW (aA v1 h28) v22 && true))) (
   bnd (aS (bD 0 h21.next) [(.i .i64 (Int.ofNat 0)), (.i .i64 (Int.ofNat 0)), (.i .i64 (Int.ofNat 0)), (.i .i64 (Int.ofNat 0)), (.i .i64 (Int.ofNat 0)), .l0, .l0, (.b false), (.i .i64 (Int.ofNat 0)), (.i .i64 (Int.ofNat 0))] 1 [(0, 10, v28)] h28) fun v29 h29 =>
   bnd (aX 10 112 v26 v29 h29) fun v30 h30 =>
   cnd (aW (aA v1 h30) v22 && true) (
   bnd (aO v22 h30) fun v31 h31 =>
   bnd (aB 1 v31 h31) fun v32 h32 =>
   bnd (aD 1 v32 v30 h32) fun v33 h33 =>
   some ((.i .i64 (Int.ofNat 0)), h33)))))
noncomputable def j4 (rec : FuncId → List DV → Hp → aK) (n : Nat) (x0 x1 x5 x6 v167 : DV) (h167 : Hp) : aK :=
 bnd (aF .eql v167 (.i .i64 (Int.ofNat 0)) h167) fun v168 h168 =>
 bnd (qR .bool false v168 x6 h168) fun v169 h169 =>
 bnd (gD v169 false (some (x5, h169)) h169) fun v170 h170 =>
 bnd (gD v169 false (aO v170 h170) h170) fun v171 h171 =>
 bnd (gD v169 false (aB 1 v171 h171) h171) fun v172 h172 =>
 bnd (gD v169 false (aA v172 h172) h172) fun v173 h173 =>
 bnd (gD v169 false (some (x0, h173)) h173) fun v174 h174 =>
 bnd (gD v169 false (aN [(.i .i64 (Int.ofNat 0))] 1 [(0, 1, v174)] h174) h174) fun v175 h175 =>
 bnd (gD v169 false (aT [(.i .i64 (Int.ofNat 0)), (.i .i64 (Int.ofNat 0)), (.i .i64 (Int.ofNat 0)), (.i .i64 (Int.ofNat 0)), (.i .i64 (Int.ofNat 0)), .l0, .l0, (.b false), (.i .i64 (Int.ofNat 0)), (.i .i64 (Int.ofNat 0))] [(6, 1, v175)] h175) h175) fun v176 h176 =>
 bnd (gD v169 false (rec 19 [v173, v176] h176) h176) fun v177 h177 =>
 bnd (gD v169 false (aF .eql v177 (.i .i64 (Int.ofNat 0)) h177) h177) fun v178 h178 =>
 bnd (gD v169 false (some (x6, h178)) h178) fun v179 h179 =>
 bnd (gD v169 false (qR .bool false v178 v179 h179) h179) fun v180 h180 =>
 bnd (aQ v169 (.b true) v180 h180) fun v181 h181 =>
 aU v181 (
  some ((.b false), h181)) (
  tF rec n x1 x5 h181)
noncomputable def j4b (rec : FuncId → List DV → Hp → aK) (n : Nat) (x1 x5 x6 v169 v177 : DV) (h177 : Hp) : aK :=
 bnd (gD v169 false (aF .eql v177 (.i .i64 (Int.ofNat 0)) h177) h177) fun v178 h178 =>
 bnd (gD v169 false (some (x6, h178)) h178) fun v179 h179 =>
 bnd (gD v169 false (qR .bool false v178 v179 h179) h179) fun v180 h180 =>
 bnd (aQ v169 (.b true) v180 h180) fun v181 h181 =>
 aU v181 (
  some ((.b false), h181)) (
  tF rec n x1 x5 h181)
end Go.Dd

namespace Go.Dd
open Go.Proofs
theorem kZ {b : Pos} {kd : Kind} {l : List DV} {h : Hp} (hb : h.bl.get b = some (.row kd l)) {i : Nat} {v : DV} (hi : l[i]? = some v) (hv : v.one = true) : aA (.p b i) h = some (v, h) := by
 simp only [aA, cellD, rowOf, hb, hi, hv, if_true]
theorem smF (n : Int) (h : Hp) : aW (some (iD n, h)) (iD n) = true := by
 unfold aW
 simp [DV.beq]
noncomputable def qT (c : Pos) (b : Bool) (h : Hp) : Hp := ⟨h.next, Tr.set (.row .ex [.b b]) c h.bl⟩
theorem stB {c : Pos} {y : Bool} {h : Hp} (hb : h.bl.get c = some (.row .ex [.b y])) (v : Bool) : aD 1 (.p c 0) (.b v) h = some (bB, qT c v h) := by
 simp only [aD, fA, dG, hb]
 rfl
structure Ec (c v sp : Pos) (M : MemV) (b : Bool) (h : Hp) : Prop where
 hc : h.bl.get c = some (.row .ex [.b b])
 hv : h.bl.get v = some (.row .ex [.p sp 0])
 hs : ∃ y, h.bl.get sp = some (.row .ex [.p (bC 7) 0, y])
 hw : ∃ l, h.bl.get (bC 7) = some (.row .ex (.p (bC 3) 0 :: l))
 hm : mC (bC 3) h = some M
 nv : v ≠ c
 nsp : sp ≠ c
 nw : bC 7 ≠ c
 nm : bC 3 ≠ c
 nwb : M.wb ≠ c
 npb : M.pb ≠ c
theorem oT {c p : Pos} (h : Hp) (b : Bool) (hp : p ≠ c) : (qT c b h).bl.get p = h.bl.get p := eOw _ _ _ _ hp
theorem Ec.wr {c v sp : Pos} {M : MemV} {b : Bool} {h : Hp} (E : Ec c v sp M b h) (b' : Bool) : Ec c v sp M b' (qT c b' h) := by
 refine ⟨eOx _ _ _, (oT h b' E.nv).trans E.hv, ?_, ?_, ?_, E.nv, E.nsp, E.nw, E.nm, E.nwb, E.npb⟩
 ·obtain ⟨y, e⟩ := E.hs
  exact ⟨y, (oT h b' E.nsp).trans e⟩
 ·obtain ⟨y, e⟩ := E.hw
  exact ⟨y, (oT h b' E.nw).trans e⟩
 ·have q := nC E.hm
  exact dBl ((oT h b' E.nm).trans q.1) ((oT h b' E.nwb).trans q.2.1) ((oT h b' E.npb).trans q.2.2.1) q.2.2.2.1 q.2.2.2.2.1 q.2.2.2.2.2
theorem eEe {h : Hp} {l : List DV} (hw : h.bl.get (bC 7) = some (.row .ex (.p (bC 3) 0 :: l))) (n : Nat) : jW (n + 1) 17 [.p (bC 7) 0] h = some (.p (bC 3) 0, h) := by
 rw [shS 17 rfl, dHd]
 unfold s17
 simp only [g0, iR, fld, bI, kZ (i := 0 + 0) hw rfl rfl]
theorem Ec.may {c v sp : Pos} {M : MemV} {b : Bool} {h : Hp} (E : Ec c v sp M b h) {a : Pos} {o : Nat} {x : Int} (hx : aA (.p a o) h = some (iD x, h)) (k : Nat) (hk : 2 ≤ k) :
  jW k 48 [.p a o, .p c 0, .p v 0] h = some (.t [], qT c (b && bN x M.pl) h) := by
 obtain ⟨n, rfl⟩ : ∃ n, k = n + 2 := ⟨k - 2, by omega⟩
 obtain ⟨y, hs⟩ := E.hs
 obtain ⟨l, hw⟩ := E.hw
 rw [shS 48 rfl, dGx]
 unfold s48
 have lc : aA (.p c 0) h = some (.b b, h) := kZ E.hc rfl rfl
 have lv : aA (.p v 0) h = some (.p sp 0, h) := kZ E.hv rfl rfl
 have ls : aA (.p sp (0 + 0)) h = some (.p (bC 7) 0, h) := kZ (i := 0 + 0) hs rfl rfl
 have hm : aBh [.p (bC 3) 0, iD x] h = some (.b (bN x M.pl), h) := by simp only [aBh, oC, E.hm]
 simp only [g0, g1, show ∀ (a b c : DV) (l : List DV), (a :: b :: c :: l).getD 2 bB = c from fun _ _ _ _ => rfl, lc, bI]
 cases b with
 | true =>
  simp only [bWr, lv, bI, iR, fld, ls, eEe hw, hx, smF, cnd, Bool.and_self, hm, eK, stB E.hc, Bool.true_and]
 | false =>
  have u : aW (some (bB, h)) bB = true := rfl
  simp only [aRc, bI, u, cnd, Bool.and_self, fG, stB E.hc, Bool.false_and]
theorem a9E (R : RT) (m : Nat) (hm : 1 ≤ m) (a b c d : DV) (h : Hp) : bEo R m a b c d h = pC R m (pE R m (m - 1)) a b c d h := by
 obtain ⟨n, rfl⟩ : ∃ n, m = n + 1 := ⟨m - 1, by omega⟩
 rfl
theorem a7E (R : RT) (m : Nat) (hm : 1 ≤ m) (a b c d : DV) (h : Hp) : bBl R m a b c d h = sG R m (nU R m (m - 1)) a b c d h := by
 obtain ⟨n, rfl⟩ : ∃ n, m = n + 1 := ⟨m - 1, by omega⟩
 rfl
theorem a7E2 (R : RT) (m : Nat) (hm : 2 ≤ m) (a b c d : DV) (h : Hp) : bBl R m a b c d h = sG R m (sG R m (nU R m (m - 2))) a b c d h := by
 obtain ⟨n, rfl⟩ : ∃ n, m = n + 2 := ⟨m - 2, by omega⟩
 rfl
theorem zA (rec : FuncId → List DV → Hp → aK) (c v p : DV) (h : Hp) : cK CF rec (.f 48 [] [c, v]) [p] h = rec 48 [p, c, v] h := rfl
section
variable {f q c v sp : Pos} {M : MemV} {b : Bool} {h : Hp} {w0 w1 w2 w3 w4 w8 w9 x : Int} {tb st : DV}
theorem kN {F : List DV} (hf : h.bl.get f = some (.row .ex F)) (b' : Bool) (nf : f ≠ c) : (qT c b' h).bl.get f = some (.row .ex F) := (oT h b' nf).trans hf
theorem eEt (E : Ec c v sp M b h) (hf : h.bl.get f = some (.row .ex [iD w0, iD w1, iD w2, iD w3, iD w4, .l0, .l0, tb, iD w8, iD w9])) (nf : f ≠ c) (K : Nat) (hK : 4 ≤ K) :
  jW K 47 [.p f 0, .f 48 [] [.p c 0, .p v 0]] h = some (.t [], qT c (b && bN w0 M.pl && bN w1 M.pl && bN w2 M.pl && bN w4 M.pl && bN w9 M.pl) (qT c (b && bN w0 M.pl && bN w1 M.pl && bN w2 M.pl && bN w4 M.pl) (qT c (b && bN w0 M.pl && bN w1 M.pl && bN w2 M.pl) (qT c (b && bN w0 M.pl && bN w1 M.pl) (qT c (b && bN w0 M.pl) h))))) := by
 obtain ⟨k, rfl, hk⟩ : ∃ k, K = k + 1 ∧ 2 ≤ k := ⟨K - 1, by omega, by omega⟩
 rw [shS 47 rfl, cHl]
 have E1 := E.wr (b && bN w0 M.pl)
 have E2 := E1.wr (b && bN w0 M.pl && bN w1 M.pl)
 have E3 := E2.wr (b && bN w0 M.pl && bN w1 M.pl && bN w2 M.pl)
 have E4 := E3.wr (b && bN w0 M.pl && bN w1 M.pl && bN w2 M.pl && bN w4 M.pl)
 have f1 := kN hf (b && bN w0 M.pl) nf
 have f2 := kN f1 (b && bN w0 M.pl && bN w1 M.pl) nf
 have f3 := kN f2 (b && bN w0 M.pl && bN w1 M.pl && bN w2 M.pl) nf
 have f4 := kN f3 (b && bN w0 M.pl && bN w1 M.pl && bN w2 M.pl && bN w4 M.pl) nf
 have z : decide (Int.ofNat 0 < Int.ofNat 0) = false := rfl
 have len0 : ∀ k, bK .l0 k = some (.i .i64 (Int.ofNat 0), k) := fun _ => rfl
 unfold s47
 simp only [g0, g1, iR, fld, bI, zA, E.may (kZ (i := 0 + 0) hf rfl rfl) k hk]
 unfold aRh
 simp only [iR, fld, bI, zA, E1.may (kZ (i := 0 + 1) f1 rfl rfl) k hk]
 unfold aQf
 simp only [iR, fld, bI, zA, E2.may (kZ (i := 0 + 2) f2 rfl rfl) k hk]
 unfold aQj
 simp only [iR, fld, bI, zA, E3.may (kZ (i := 0 + 4) f3 rfl rfl) k hk]
 unfold aPs
 simp only [iR, fld, bI, kZ (i := 0 + 5) f4 rfl rfl, len0]
 rw [a9E _ _ (by omega)]
 unfold pC
 simp only [fW, z, bI, eP]
 unfold gF
 simp only [iR, fld, bI, kZ (i := 0 + 6) f4 rfl rfl, len0]
 rw [a7E _ _ (by omega)]
 unfold sG
 simp only [fW, z, bI, eP]
 unfold gG
 simp only [iR, fld, bI, zA, E4.may (kZ (i := 0 + 7 + 2) f4 rfl rfl) k hk]
theorem eAj (E : Ec c v sp M b h) (hf : h.bl.get f = some (.row .ex [iD w0, iD w1, iD w2, iD w3, iD w4, .l0, .l q 0 1 1, tb, iD w8, iD w9])) (nf : f ≠ c) (hq : h.bl.get q = some (.row .ex [iD x])) (nq : q ≠ c) (K : Nat) (hK : 4 ≤ K) :
  jW K 47 [.p f 0, .f 48 [] [.p c 0, .p v 0]] h = some (.t [], qT c (b && bN w0 M.pl && bN w1 M.pl && bN w2 M.pl && bN w4 M.pl && bN x M.pl && bN w9 M.pl) (qT c (b && bN w0 M.pl && bN w1 M.pl && bN w2 M.pl && bN w4 M.pl && bN x M.pl) (qT c (b && bN w0 M.pl && bN w1 M.pl && bN w2 M.pl && bN w4 M.pl) (qT c (b && bN w0 M.pl && bN w1 M.pl && bN w2 M.pl) (qT c (b && bN w0 M.pl && bN w1 M.pl) (qT c (b && bN w0 M.pl) h)))))) := by
 obtain ⟨k, rfl, hk⟩ : ∃ k, K = k + 1 ∧ 2 ≤ k := ⟨K - 1, by omega, by omega⟩
 rw [shS 47 rfl, cHl]
 have E1 := E.wr (b && bN w0 M.pl)
 have E2 := E1.wr (b && bN w0 M.pl && bN w1 M.pl)
 have E3 := E2.wr (b && bN w0 M.pl && bN w1 M.pl && bN w2 M.pl)
 have E4 := E3.wr (b && bN w0 M.pl && bN w1 M.pl && bN w2 M.pl && bN w4 M.pl)
 have E5 := E4.wr (b && bN w0 M.pl && bN w1 M.pl && bN w2 M.pl && bN w4 M.pl && bN x M.pl)
 have f1 := kN hf (b && bN w0 M.pl) nf
 have f2 := kN f1 (b && bN w0 M.pl && bN w1 M.pl) nf
 have f3 := kN f2 (b && bN w0 M.pl && bN w1 M.pl && bN w2 M.pl) nf
 have f4 := kN f3 (b && bN w0 M.pl && bN w1 M.pl && bN w2 M.pl && bN w4 M.pl) nf
 have f5 := kN f4 (b && bN w0 M.pl && bN w1 M.pl && bN w2 M.pl && bN w4 M.pl && bN x M.pl) nf
 have q4 := kN (kN (kN (kN hq (b && bN w0 M.pl) nq) (b && bN w0 M.pl && bN w1 M.pl) nq) (b && bN w0 M.pl && bN w1 M.pl && bN w2 M.pl) nq) (b && bN w0 M.pl && bN w1 M.pl && bN w2 M.pl && bN w4 M.pl) nq
 have z : decide (Int.ofNat 0 < Int.ofNat 0) = false := rfl
 have z1 : decide (Int.ofNat 0 < Int.ofNat 1) = true := rfl
 have z2 : decide (Int.ofNat 0 + Int.ofNat 1 < Int.ofNat 1) = false := rfl
 have len0 : ∀ k, bK .l0 k = some (.i .i64 (Int.ofNat 0), k) := fun _ => rfl
 have len1 : ∀ k, bK (.l q 0 1 1) k = some (.i .i64 (Int.ofNat 1), k) := fun _ => rfl
 have ix : ∀ k, aI 1 (.l q 0 1 1) (.i .i64 (Int.ofNat 0)) k = some (.p q 0, k) := fun k => rfl
 unfold s47
 simp only [g0, g1, iR, fld, bI, zA, E.may (kZ (i := 0 + 0) hf rfl rfl) k hk]
 unfold aRh
 simp only [iR, fld, bI, zA, E1.may (kZ (i := 0 + 1) f1 rfl rfl) k hk]
 unfold aQf
 simp only [iR, fld, bI, zA, E2.may (kZ (i := 0 + 2) f2 rfl rfl) k hk]
 unfold aQj
 simp only [iR, fld, bI, zA, E3.may (kZ (i := 0 + 4) f3 rfl rfl) k hk]
 unfold aPs
 simp only [iR, fld, bI, kZ (i := 0 + 5) f4 rfl rfl, len0]
 rw [a9E _ _ (by omega)]
 unfold pC
 simp only [fW, z, bI, eP]
 unfold gF
 simp only [iR, fld, bI, kZ (i := 0 + 6) f4 rfl rfl, len1]
 rw [a7E2 _ _ hk]
 unfold sG
 simp only [fW, z1, bI, fM, iR, fld, kZ (i := 0 + 6) f4 rfl rfl, ix, zA, E4.may (kZ (i := 0) q4 rfl rfl) k hk, oI _ _ _ (show -9223372036854775808 ≤ Int.ofNat 0 + Int.ofNat 1 ∧ Int.ofNat 0 + Int.ofNat 1 ≤ 9223372036854775807 by decide), z2, eP]
 unfold gG
 simp only [iR, fld, bI, zA, E5.may (kZ (i := 0 + 7 + 2) f5 rfl rfl) k hk]
end
end Go.Dd

namespace Go.Dd
open Go.Proofs
noncomputable def MB : MemV := ⟨bC 1, 40000, 4321, 583, bC 2, cCt [] (mkW (bHr wsF 4321) 0 .e), mkP (bHr plF 583) .e⟩
noncomputable def hOf (r : aK) : Hp := match r with
 | some (_, h) => h
 | none => h00
abbrev frF (x : Int) (st : DV) : List DV := [iD 0, iD x, iD 0, iD 0, iD 0, .l0, st, .b false, iD 0, iD 0]
noncomputable def h12 (x : Int) (st : DV) (h : Hp) : Hp :=
 qT h.next.succ.succ true ⟨h.next.succ.succ.succ, Tr.set (.row .ex [.b false]) h.next.succ.succ (Tr.set (.row .ex (frF x st)) h.next.succ (Tr.set (.row .ex [.p (bC 26855) 0]) h.next h.bl))⟩
theorem eBh (rec : RT) (x n : Int) (b : Bool) : bOv rec 900 (iD x) (iD n) (.p (bC 26857) 0) (.b b) hB = bnd (rec 19 [.p (bC 26855) 0, .a (frF x .l0)] hB) (fun v h => j4 rec 900 (iD x) (iD n) (.p (bC 26857) 0) (.b b) v h) := by kernel_rfl
theorem dJx (rec : RT) (x : Int) : s19 rec 899 (.p (bC 26855) 0) (.a (frF x .l0)) hB = bnd (rec 47 [.p (bC 26859) 0, .f 48 [] [.p (bC 26860) 0, .p (bC 26858) 0]] (h12 x .l0 hB)) (fun _ h => k19 rec 899 (.p (bC 26858) 0) (.p (bC 26859) 0) (.p (bC 26860) 0) h) := by kernel_rfl
theorem E_1 (x : Int) : Ec (bC 26860) (bC 26858) (bC 26855) MB true (h12 x .l0 hB) where
 hc := by kernel_rfl
 hv := by kernel_rfl
 hs := ⟨_, (by kernel_rfl : (h12 x .l0 hB).bl.get (bC 26855) = some (.row .ex [.p (bC 7) 0, .l0]))⟩
 hw := ⟨_, (by kernel_rfl : (h12 x .l0 hB).bl.get (bC 7) = some (.row .ex (.p (bC 3) 0 :: [.l (bC 4) 0 18 18, .m (bC 5), .m (bC 6)])))⟩
 hm := by kernel_rfl
 nv := fun e => by cases e
 nsp := fun e => by cases e
 nw := fun e => by cases e
 nm := fun e => by cases e
 nwb := fun e => by cases e
 npb := fun e => by cases e
noncomputable def g1F (b : Bool) (x : Int) : Hp :=
 qT (bC 26860) (true && true && b && true && true && true) (qT (bC 26860) (true && true && b && true && true) (qT (bC 26860) (true && true && b && true) (qT (bC 26860) (true && true && b) (qT (bC 26860) (true && true) (h12 x .l0 hB)))))
noncomputable def r1F (b : Bool) (x : Int) : aK := k19 (jW 899) 899 (.p (bC 26858) 0) (.p (bC 26859) 0) (.p (bC 26860) 0) (g1F b x)
noncomputable def H1 (b : Bool) (x : Int) : Hp := hOf (r1F b x)
def cdF (b : Bool) : Nat := bif b then 0 else 1
def wK (b : Bool) : Nat := bif b then 26865 else 26861
theorem dZy (b : Bool) (x : Int) : r1F b x = some (.i .i64 (Int.ofNat (cdF b)), H1 b x) := by
 cases b
 ·kernel_rfl
 ·kernel_rfl
theorem dBw (x : Int) : jW 900 19 [.p (bC 26855) 0, .a (frF x .l0)] hB = some (.i .i64 (Int.ofNat (cdF (bN x MB.pl))), H1 (bN x MB.pl) x) := by
 rw [shS 19 rfl, bRn]
 refine (dJx (jW 899) x).trans ?_
 have e := eEt (E_1 x) (f := bC 26859) (w0 := 0) (w1 := x) (w2 := 0) (w3 := 0) (w4 := 0) (w8 := 0) (w9 := 0) (tb := .b false) (by kernel_rfl) (fun e => by cases e) 899 (by omega)
 rw [e]
 exact dZy (bN x MB.pl) x
noncomputable def h2F (b : Bool) (x : Int) : Hp := ⟨bC (wK b + 1), Tr.set (.row .ex [iD x]) (bC (wK b)) (H1 b x).bl⟩
noncomputable abbrev stF (b : Bool) : DV := .l (bC (wK b)) 0 1 1
theorem eAv (rec : RT) (x n : Int) (b : Bool) : j4 rec 900 (iD x) (iD n) (.p (bC 26857) 0) (.b b) (.i .i64 (Int.ofNat (cdF b))) (H1 b x) = bnd (rec 19 [.p (bC 26855) 0, .a (frF 0 (stF b))] (h2F b x)) (fun v h => j4b rec 900 (iD n) (.p (bC 26857) 0) (.b b) (.b false) v h) := by
 cases b
 ·kernel_rfl
 ·kernel_rfl
theorem dJz (rec : RT) (b : Bool) (x : Int) : s19 rec 899 (.p (bC 26855) 0) (.a (frF 0 (stF b))) (h2F b x) = bnd (rec 47 [.p (bC (wK b + 2)) 0, .f 48 [] [.p (bC (wK b + 3)) 0, .p (bC (wK b + 1)) 0]] (h12 0 (stF b) (h2F b x))) (fun _ h => k19 rec 899 (.p (bC (wK b + 1)) 0) (.p (bC (wK b + 2)) 0) (.p (bC (wK b + 3)) 0) h) := by
 cases b
 ·kernel_rfl
 ·kernel_rfl
theorem E_2 (b : Bool) (x : Int) : Ec (bC (wK b + 3)) (bC (wK b + 1)) (bC 26855) MB true (h12 0 (stF b) (h2F b x)) where
 hc := by cases b; kernel_rfl; kernel_rfl
 hv := by cases b; kernel_rfl; kernel_rfl
 hs := by
  cases b
  ·exact ⟨_, (by kernel_rfl : (h12 0 (stF false) (h2F false x)).bl.get (bC 26855) = some (.row .ex [.p (bC 7) 0, .l0]))⟩
  ·exact ⟨_, (by kernel_rfl : (h12 0 (stF true) (h2F true x)).bl.get (bC 26855) = some (.row .ex [.p (bC 7) 0, .l (bC 26864) 0 1 1]))⟩
 hw := by
  cases b
  ·exact ⟨_, (by kernel_rfl : (h12 0 (stF false) (h2F false x)).bl.get (bC 7) = some (.row .ex (.p (bC 3) 0 :: [.l (bC 4) 0 18 18, .m (bC 5), .m (bC 6)])))⟩
  ·exact ⟨_, (by kernel_rfl : (h12 0 (stF true) (h2F true x)).bl.get (bC 7) = some (.row .ex (.p (bC 3) 0 :: [.l (bC 4) 0 18 18, .m (bC 5), .m (bC 6)])))⟩
 hm := by cases b; kernel_rfl; kernel_rfl
 nv := by cases b <;> exact fun e => by cases e
 nsp := by cases b <;> exact fun e => by cases e
 nw := by cases b <;> exact fun e => by cases e
 nm := by cases b <;> exact fun e => by cases e
 nwb := by cases b <;> exact fun e => by cases e
 npb := by cases b <;> exact fun e => by cases e
noncomputable def g2F (b : Bool) (x : Int) : Hp :=
 qT (bC (wK b + 3)) (true && true && true && true && true && b && true) (qT (bC (wK b + 3)) (true && true && true && true && true && b) (qT (bC (wK b + 3)) (true && true && true && true && true) (qT (bC (wK b + 3)) (true && true && true && true) (qT (bC (wK b + 3)) (true && true && true) (qT (bC (wK b + 3)) (true && true) (h12 0 (stF b) (h2F b x)))))))
noncomputable def r2F (b : Bool) (x : Int) : aK := k19 (jW 899) 899 (.p (bC (wK b + 1)) 0) (.p (bC (wK b + 2)) 0) (.p (bC (wK b + 3)) 0) (g2F b x)
noncomputable def H2 (b : Bool) (x : Int) : Hp := hOf (r2F b x)
theorem eDv (b : Bool) (x : Int) : r2F b x = some (.i .i64 (Int.ofNat (cdF b)), H2 b x) := by
 cases b
 ·kernel_rfl
 ·kernel_rfl
theorem eKx (b : Bool) (x : Int) : (h12 0 (stF b) (h2F b x)).bl.get (bC (wK b + 2)) = some (.row .ex (frF 0 (stF b))) := by cases b; kernel_rfl; kernel_rfl
theorem q_2 (b : Bool) (x : Int) : (h12 0 (stF b) (h2F b x)).bl.get (bC (wK b)) = some (.row .ex [iD x]) := by cases b; kernel_rfl; kernel_rfl
theorem cRs (b : Bool) (x : Int) (hb : bN x MB.pl = b) : jW 900 19 [.p (bC 26855) 0, .a (frF 0 (stF b))] (h2F b x) = some (.i .i64 (Int.ofNat (cdF b)), H2 b x) := by
 rw [shS 19 rfl, bRn]
 refine (dJz (jW 899) b x).trans ?_
 have e := eAj (E_2 b x) (f := bC (wK b + 2)) (q := bC (wK b)) (x := x) (w0 := 0) (w1 := 0) (w2 := 0) (w3 := 0) (w4 := 0) (w8 := 0) (w9 := 0) (tb := .b false) (eKx b x) (by cases b <;> exact fun e => by cases e) (q_2 b x) (by cases b <;> exact fun e => by cases e) 899 (by omega)
 rw [e, hb]
 exact eDv b x
theorem dXp (rec : RT) (x n : Int) (b : Bool) : j4b rec 900 (iD n) (.p (bC 26857) 0) (.b b) (.b false) (.i .i64 (Int.ofNat (cdF b))) (H2 b x) = tF rec 900 (iD n) (.p (bC 26857) 0) (H2 b x) := by
 cases b
 ·kernel_rfl
 ·kernel_rfl
end Go.Dd

namespace Go.Dd
open Go.Proofs
noncomputable def dV (b : Bool) (x : Int) (k : Nat) : Bool := okB (tF kJ 900 (.i .i64 (Int.ofNat k)) (.p (bC 26857) 0) (H2 b x))
noncomputable def eF (p : Nat → Bool) : Nat → Nat → Bool := Nat.rec (motive := fun _ => Nat → Bool) (fun _ => true) (fun n ih a => p a && ih (Nat.add a 1))
theorem bQ {p : Nat → Bool} : ∀ {n a : Nat}, eF p n a = true → ∀ k, a ≤ k → k < a + n → p k = true
 | 0, _, _, k, h, h2 => by omega
 | n + 1, a, e, k, h, h2 => by
  have e : (p a && eF p n (a + 1)) = true := e
  rw [Bool.and_eq_true] at e
  rcases Nat.lt_or_ge a k with q | q
  ·exact bQ e.2 k q (by omega)
  ·rw [show k = a by omega]
   exact e.1
end Go.Dd

